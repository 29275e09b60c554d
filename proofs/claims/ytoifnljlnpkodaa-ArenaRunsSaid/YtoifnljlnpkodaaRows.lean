/-
  No cell of these rows narrows 'for every input' (looked for: loops, veiled, ifaces, maps, wideKeys, modest, calm, conditions, laid).
  DERIVED. THE GIVEN ROWS OF THIS SEAT. 5 by the template 'for every input the law returns true; each argument reads behind the call as it read before'; 0 by the template 'total and deterministic' (their statements: YtoifnljlnpkodaaTotals.lean).
  GIVEN WITH THE SEED: the statements are not yours to turn. If you find one false, say at which input.
  Laid BY PROGRAM, IN A SANDBOX (cutbox-rows.mjs): the forced cells as the released guide's own fill.sh prints them over the translation a1895fb0789d3d7d… (all of the seat's roots in one cut). By AI agents, Wed Nov 11 2026. No macro, syntax, notation, axiom, sorry.
-/
import Derived.Test.YtoifnljlnpkodaaChecked
import GoSem.Claim
import GoSem.ClaimJoined
import GoSem.ClaimMapViews
import Derived.JoinedTies
import Derived.KernelRfl
namespace Go.Proofs.Ytoifnljlnpkodaa
/- THE CELL 'sum', in the pinned program and in every row, IS THE sha256 OF THE DUMP (.gsa) THAT YtoifnljlnpkodaaProg.lean LOADS. Nothing in Lean hashes anything: it is a label: what it is worth is what the hold of that sum in a sandbox is worth. -/
noncomputable def Try.pinned : Pinned := { name := "ytoifnljlnpkodaa", sum := "a1895fb0789d3d7d01453d18f5f091028dda1c8384ea6911a8b7c2a39d340f10", checked := Try.checked }
namespace Rows
def none {H : Type} : Left H := { results := [], args := [] }

/-- 'haycocklaw03.ArenaNames': WHATEVER THE INPUT: true; the input reads as it did. -/
def arenaNamesSpec : ChangeSpec := { name := "arenaNames", fn := fun _ => fun
  | [] => { results := [.lit (.bool true)], args := [] }
  | _ => none }
def arenaNamesRow : OpenClaim := { program := "ytoifnljlnpkodaa", sum := "a1895fb0789d3d7d01453d18f5f091028dda1c8384ea6911a8b7c2a39d340f10", func := "haycock/haycocklaw03.ArenaNames", spec := "arenaNames", apart := false }
def ArenaNamesSaid : Prop := arenaNamesRow.holds Try.pinned (OpenSpec.ofChange arenaNamesSpec)

/-- ITS FALSE NEIGHBOUR: 'it returns false'. Refute it at one input. -/
def arenaNamesWrong : ChangeSpec := { name := "arenaNames", fn := fun _ => fun
  | [] => { results := [.lit (.bool false)], args := [] }
  | _ => none }
def ArenaNamesWrongFalsely : Prop := arenaNamesRow.holds Try.pinned (OpenSpec.ofChange arenaNamesWrong)

/-- 'haycocklaw03.ArenaOnce': WHATEVER THE INPUT: true; the input reads as it did. -/
def arenaOnceSpec : ChangeSpec := { name := "arenaOnce", fn := fun _ => fun
  | [d1, d2, d3] => { results := [.lit (.bool true)], args := [d1, d2, d3] }
  | _ => none }
def arenaOnceRow : OpenClaim := { program := "ytoifnljlnpkodaa", sum := "a1895fb0789d3d7d01453d18f5f091028dda1c8384ea6911a8b7c2a39d340f10", func := "haycock/haycocklaw03.ArenaOnce", spec := "arenaOnce", apart := false }
def ArenaOnceSaid : Prop := arenaOnceRow.holds Try.pinned (OpenSpec.ofChange arenaOnceSpec)

/-- ITS FALSE NEIGHBOUR: 'it returns false'. Refute it at one input. -/
def arenaOnceWrong : ChangeSpec := { name := "arenaOnce", fn := fun _ => fun
  | [d1, d2, d3] => { results := [.lit (.bool false)], args := [d1, d2, d3] }
  | _ => none }
def ArenaOnceWrongFalsely : Prop := arenaOnceRow.holds Try.pinned (OpenSpec.ofChange arenaOnceWrong)

/-- 'haycocklaw03.ArenaFills': WHATEVER THE INPUT: true; the input reads as it did. -/
def arenaFillsSpec : ChangeSpec := { name := "arenaFills", fn := fun _ => fun
  | [d1, d2, d3] => { results := [.lit (.bool true)], args := [d1, d2, d3] }
  | _ => none }
def arenaFillsRow : OpenClaim := { program := "ytoifnljlnpkodaa", sum := "a1895fb0789d3d7d01453d18f5f091028dda1c8384ea6911a8b7c2a39d340f10", func := "haycock/haycocklaw03.ArenaFills", spec := "arenaFills", apart := false }
def ArenaFillsSaid : Prop := arenaFillsRow.holds Try.pinned (OpenSpec.ofChange arenaFillsSpec)

/-- ITS FALSE NEIGHBOUR: 'it returns false'. Refute it at one input. -/
def arenaFillsWrong : ChangeSpec := { name := "arenaFills", fn := fun _ => fun
  | [d1, d2, d3] => { results := [.lit (.bool false)], args := [d1, d2, d3] }
  | _ => none }
def ArenaFillsWrongFalsely : Prop := arenaFillsRow.holds Try.pinned (OpenSpec.ofChange arenaFillsWrong)

/-- 'haycocklaw03.ArenaWrong': WHATEVER THE INPUT: true; the input reads as it did. -/
def arenaWrongSpec : ChangeSpec := { name := "arenaWrong", fn := fun _ => fun
  | [d1, d2, d3] => { results := [.lit (.bool true)], args := [d1, d2, d3] }
  | _ => none }
def arenaWrongRow : OpenClaim := { program := "ytoifnljlnpkodaa", sum := "a1895fb0789d3d7d01453d18f5f091028dda1c8384ea6911a8b7c2a39d340f10", func := "haycock/haycocklaw03.ArenaWrong", spec := "arenaWrong", apart := false }
def ArenaWrongSaid : Prop := arenaWrongRow.holds Try.pinned (OpenSpec.ofChange arenaWrongSpec)

/-- ITS FALSE NEIGHBOUR: 'it returns false'. Refute it at one input. -/
def arenaWrongWrong : ChangeSpec := { name := "arenaWrong", fn := fun _ => fun
  | [d1, d2, d3] => { results := [.lit (.bool false)], args := [d1, d2, d3] }
  | _ => none }
def ArenaWrongWrongFalsely : Prop := arenaWrongRow.holds Try.pinned (OpenSpec.ofChange arenaWrongWrong)

/-- 'haycocklaw03.ArenaRuns': WHATEVER THE INPUT: true; the input reads as it did. -/
def arenaRunsSpec : ChangeSpec := { name := "arenaRuns", fn := fun _ => fun
  | [d1, d2, d3] => { results := [.lit (.bool true)], args := [d1, d2, d3] }
  | _ => none }
def arenaRunsRow : OpenClaim := { program := "ytoifnljlnpkodaa", sum := "a1895fb0789d3d7d01453d18f5f091028dda1c8384ea6911a8b7c2a39d340f10", func := "haycock/haycocklaw03.ArenaRuns", spec := "arenaRuns", apart := false }
def ArenaRunsSaid : Prop := arenaRunsRow.holds Try.pinned (OpenSpec.ofChange arenaRunsSpec)

/-- ITS FALSE NEIGHBOUR: 'it returns false'. Refute it at one input. -/
def arenaRunsWrong : ChangeSpec := { name := "arenaRuns", fn := fun _ => fun
  | [d1, d2, d3] => { results := [.lit (.bool false)], args := [d1, d2, d3] }
  | _ => none }
def ArenaRunsWrongFalsely : Prop := arenaRunsRow.holds Try.pinned (OpenSpec.ofChange arenaRunsWrong)

/- THE SECOND FORM. 'bulk': how many values and letters a reading holds, each counted each time it is reached (what is shared counts as often as it is met; a slice's spare places count too). A statement '..UptoSaid' is the law's where the arguments, and the package variables that the reading takes, are together of bulk at most 1048576: NARROWER than '..Said'. Prove '..Said' where nothing that the law and all that it calls make is longer than what came in: it says more and counts as full. Else prove '..UptoSaid'. A law counts once. -/
mutual
def uptoBulk {H : Type} : DataW H → Nat
  | .lit (.string bytes) => bytes.length + 1
  | .lit _ => 1
  | .nil => 1
  | .ptr d => uptoBulk d + 1
  | .slice elems spare => uptoBulkAll elems + uptoBulkAll spare + 1
  | .agg parts => uptoBulkAll parts + 1
  | .iface _ d => uptoBulk d + 1
  | .map entries => uptoBulkEntries entries + 1
  | .held _ => 1
def uptoBulkAll {H : Type} : List (DataW H) → Nat
  | [] => 0
  | d :: r => uptoBulk d + uptoBulkAll r
def uptoBulkEntries {H : Type} : List (Lit × DataW H) → Nat
  | [] => 0
  | x :: r => uptoBulkEntry x + uptoBulkEntries r
def uptoBulkEntry {H : Type} : Lit × DataW H → Nat
  | (.string bytes, d) => bytes.length + uptoBulk d + 1
  | (_, d) => uptoBulk d + 1
 end
def uptoSmall : (H : Type) → List (DataW H) → Bool := fun _ ds => decide (uptoBulkAll ds ≤ 1048576)
def OpenSpec.upto (s : _root_.Go.ChangeSpec) : _root_.Go.OpenSpec := { _root_.Go.OpenSpec.ofChange s with cond := some uptoSmall }

/-- 'haycocklaw03.ArenaNames', WHERE WHAT IT READS IS OF BULK AT MOST 1048576: true; the input reads as it did. -/
def arenaNamesUptoRow : OpenClaim := { program := "ytoifnljlnpkodaa", sum := "a1895fb0789d3d7d01453d18f5f091028dda1c8384ea6911a8b7c2a39d340f10", func := "haycock/haycocklaw03.ArenaNames", spec := "arenaNames", apart := false, narrowed := true }
def ArenaNamesUptoSaid : Prop := arenaNamesUptoRow.holds Try.pinned (OpenSpec.upto arenaNamesSpec)

/-- 'haycocklaw03.ArenaOnce', WHERE WHAT IT READS IS OF BULK AT MOST 1048576: true; the input reads as it did. -/
def arenaOnceUptoRow : OpenClaim := { program := "ytoifnljlnpkodaa", sum := "a1895fb0789d3d7d01453d18f5f091028dda1c8384ea6911a8b7c2a39d340f10", func := "haycock/haycocklaw03.ArenaOnce", spec := "arenaOnce", apart := false, narrowed := true }
def ArenaOnceUptoSaid : Prop := arenaOnceUptoRow.holds Try.pinned (OpenSpec.upto arenaOnceSpec)

/-- 'haycocklaw03.ArenaFills', WHERE WHAT IT READS IS OF BULK AT MOST 1048576: true; the input reads as it did. -/
def arenaFillsUptoRow : OpenClaim := { program := "ytoifnljlnpkodaa", sum := "a1895fb0789d3d7d01453d18f5f091028dda1c8384ea6911a8b7c2a39d340f10", func := "haycock/haycocklaw03.ArenaFills", spec := "arenaFills", apart := false, narrowed := true }
def ArenaFillsUptoSaid : Prop := arenaFillsUptoRow.holds Try.pinned (OpenSpec.upto arenaFillsSpec)

/-- 'haycocklaw03.ArenaWrong', WHERE WHAT IT READS IS OF BULK AT MOST 1048576: true; the input reads as it did. -/
def arenaWrongUptoRow : OpenClaim := { program := "ytoifnljlnpkodaa", sum := "a1895fb0789d3d7d01453d18f5f091028dda1c8384ea6911a8b7c2a39d340f10", func := "haycock/haycocklaw03.ArenaWrong", spec := "arenaWrong", apart := false, narrowed := true }
def ArenaWrongUptoSaid : Prop := arenaWrongUptoRow.holds Try.pinned (OpenSpec.upto arenaWrongSpec)

/-- 'haycocklaw03.ArenaRuns', WHERE WHAT IT READS IS OF BULK AT MOST 1048576: true; the input reads as it did. -/
def arenaRunsUptoRow : OpenClaim := { program := "ytoifnljlnpkodaa", sum := "a1895fb0789d3d7d01453d18f5f091028dda1c8384ea6911a8b7c2a39d340f10", func := "haycock/haycocklaw03.ArenaRuns", spec := "arenaRuns", apart := false, narrowed := true }
def ArenaRunsUptoSaid : Prop := arenaRunsUptoRow.holds Try.pinned (OpenSpec.upto arenaRunsSpec)

end Rows
end Go.Proofs.Ytoifnljlnpkodaa

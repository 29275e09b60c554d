/-
  Contracts that the law rests on. Conditions: none.
-/
import Derived.Test.YtkdbjelhkfdfjaaGreatDoorQs04
import Derived.Test.YtkdbjelhkfdfjaaGreatDoorQs05
import Derived.Deep.AppendLies
import Derived.Deep.Cut
import Derived.Deep.CutBlock
import Derived.Deep.DeepCutAuto
import Derived.Deep.LoopGhost
import Derived.Deep.RegionHeld3
import Derived.Deep.RegionLaw
import Derived.DeepKeys4
import Derived.IntWalk
import Derived.Laws.ResultCell
import Derived.Laws.Rows
import Derived.Laws.StructEq
import Derived.Lib.SliceRun
set_option linter.unusedVariables false
set_option maxRecDepth 100000
set_option maxHeartbeats 16000000
namespace Go.Proofs.YtkdbjelhkfdfjaaGreatDoor
open Go.RowKit Go.Maps
theorem Tryz.rowHandle : (45 : TypeId) < Tryz.prog.types.size := of_decide_eq_true (by kernel_rfl)
theorem Tryz.laidOut : laidOutB Tryz.prog = true := by kernel_rfl
theorem Tryz.deepHandle : Tryz.prog.keyTypeAt 3 45 = true := by kernel_rfl
theorem Tryz.lawHandle : WideMaps.KeyLaw Tryz.prog 45 := deep_law_laid Tryz.laidOut (m := 3) (by omega) Tryz.rowHandle Tryz.deepHandle (by rw [Tryz.underlying45])
theorem Tryz.keyedHandle : Keyed Tryz.prog 45 := Keyed.of_law Tryz.lawHandle
def hV (x g : Nat) : Value := .agg #[.int .i64 (x : Int),.int .u32 (g : Int)]
def hK (x g : Nat) : Lit := .string (keyBytes [.int .i64 (x : Int),.int .u32 (g : Int)])
def okH (x g : Nat) : Prop := x <= 65536 ∧ g <= 4294967295
theorem i64_wf (n : Nat) (h : n <= 65536) : (Lit.int .i64 (n : Int)).wf = true := by
  have e1 : IntKind.i64.min = -9223372036854775808 := rfl
  have e2 : IntKind.i64.max = 9223372036854775807 := rfl
  simp only [Lit.wf, e1, e2, Bool.and_eq_true, decide_eq_true_eq]
  omega
theorem u32_wf (n : Nat) (h : n <= 4294967295) : (Lit.int .u32 (n : Int)).wf = true := by
  have e1 : IntKind.u32.min = 0 := rfl
  have e2 : IntKind.u32.max = 4294967295 := rfl
  simp only [Lit.wf, e1, e2, Bool.and_eq_true, decide_eq_true_eq]
  omega
theorem hkey (x g : Nat) (h : okH x g) : keyOf Tryz.prog 45 (hV x g) = some (hK x g) := by
  have h1 := i64_wf x h.1
  have h2 := u32_wf g h.2
  obtain ⟨d, hd⟩ : ∃ d, Tryz.prog.types.size = d + 1 := ⟨_,(by kernel_rfl : Tryz.prog.types.size = 487 + 1)⟩
  have hk : Tryz.prog.keyType 45 = true := by kernel_rfl
  have hc : Tryz.prog.cellsOf 45 = 2 := by kernel_rfl
  have hc1 : Tryz.prog.cellsOf 3 = 1 := by kernel_rfl
  have hc2 : Tryz.prog.cellsOf 41 = 1 := by kernel_rfl
  unfold keyOf hV hK
  rw [Tryz.underlying45, hd]
  simp [hk, Value.formed, Tryz.underlying45, hc, Value.cells, Program.keyLits, hc1, hc2, Tryz.underlying3, Tryz.underlying41, h1, h2]
theorem hK_lit (x g : Nat) : WideAt.IsKeyLit (hK x g) := by simp [WideAt.IsKeyLit, hK]
theorem hK_inj {x g x' g' : Nat} (h : okH x g) (h' : okH x' g') (e : hK x g = hK x' g') : x = x' ∧ g = g' := by
  have h1 := hkey x g h
  have h2 := hkey x' g' h'
  rw [<- e] at h2
  have h3 := Tryz.keyedHandle.inj h1 h2
  simp only [hV, Value.agg.injEq] at h3
  injection h3 with h3
  simp only [List.cons.injEq, Value.int.injEq] at h3
  omega
structure Elm (α : Type) (e : TypeId) where
  val : α -> Value
  dat : α -> DataW Unit
  R : Value -> Option (DataW Unit × List MemPlace)
  ok : α -> Prop
  zero : α
  hR : ∀ a, ok a -> R (val a) = some (dat a, [])
  inv : ∀ v a ps, R v = some (dat a, ps) -> v = val a
  hz : ∀ w,(zeroValue e).run Tryz.prog w = .ok (val zero) w
  zok : ok zero
def HMap {α : Type} {e : TypeId} (E : Elm α e) (w : World) (b c : Nat) (f : Nat -> Nat -> Option α) : Prop :=
  ∃ D : DataW Unit, w.ownsMap Tryz.prog 45 E.R b c D ∧ Maps.size D = c ∧
    ∀ x g : Nat, okH x g -> Maps.has D (hK x g) = (f x g).isSome ∧ ∀ z, D.atKey (hK x g) z = match f x g with | some a => E.dat a | none => z
section
variable {α : Type} {e t : TypeId} {E : Elm α e} {w w' : World} {b c : Nat} {f : Nat -> Nat -> Option α}
theorem HMap.made (E : Elm α e) (w : World) : HMap E (w.alloc (.map #[] 0)) w.heap.size 0 (fun _ _ => none) :=
  ⟨.map [], World.ownsMap_made w Tryz.prog _ _,rfl,fun x g _ => ⟨rfl,fun _ => rfl⟩⟩
theorem HMap.lt (h : HMap E w b c f) : b < w.heap.size := by obtain ⟨D, h1, _⟩ := h; exact h1.lt
theorem HMap.blk (h : HMap E w b c f) (e : w'.heap[b]? = w.heap[b]?) : HMap E w' b c f := by
  obtain ⟨D,⟨es, clock, hb, r⟩, h2⟩ := h
  exact ⟨D,⟨es, clock, e.trans hb, r⟩, h2⟩
theorem HMap.keep {S : List Nat} (h : HMap E w b c f) (hk : Keeps S w w') (hb : b ∉ S) : HMap E w' b c f := h.blk (hk.block b h.lt hb)
theorem HMap.put (hok : ∀ x g, f x g ≠ none -> okH x g) {x g : Nat} (hx : okH x g) {y : α} (D : DataW Unit)
    (hD : Maps.size D = c ∧ ∀ x g : Nat, okH x g -> Maps.has D (hK x g) = (f x g).isSome ∧ ∀ z, D.atKey (hK x g) z = match f x g with | some a => E.dat a | none => z)
    (h0 : w.ownsMap Tryz.prog 45 E.R b c D) (h1 : w'.ownsMap Tryz.prog 45 E.R b (c + 1) (D.put (hK x g) (E.dat y))) :
    HMap E w' b (if (f x g).isSome then c else c + 1) (fun u v => if u = x ∧ v = g then some y else f u v) := by
  have ht := h0.tidy Tryz.keyedHandle
  have hs := size_put (k := hK x g) ht (E.dat y)
  rw [(hD.2 x g hx).1, hD.1] at hs
  have h2 := ownsMap_tight h1
  rw [hs] at h2
  refine ⟨_, h2, hs,fun u v huv => ?_⟩
  by_cases e : u = x ∧ v = g
  · obtain ⟨rfl,rfl⟩ := e
    simp only [and_self, if_true]
    exact ⟨has_put_same h0.isMap (hK_lit u v) _,fun z => atKey_put_same h0.isMap (hK_lit u v) _ _⟩
  · have e' : hK u v ≠ hK x g := fun c => e (hK_inj huv hx c)
    simp only [e, if_false]
    rw [has_put_other e']
    refine ⟨(hD.2 u v huv).1,fun z => ?_⟩
    rw [atKey_put_other e']
    exact (hD.2 u v huv).2 z
theorem wpList_hmap_put {ops : Array Oper} {rest : List Oper} {o : Oper} {a : Act} {Q : Exit -> Act -> World -> Prop}
    (hg : o.guard = none) (mo xo vo : Operand) (hop : o.op = Op.mapUpdate t mo xo vo) (ht : Tryz.prog.underlying t = some (.map 45 e)) (b c : Nat) (f : Nat -> Nat -> Option α)
    (hm : a.eval mo = .map (some b)) (h : HMap E w b c f) (hok : ∀ x g, f x g ≠ none -> okH x g) (hc : c < maxLen) (x g : Nat) (hx : a.eval xo = hV x g) (hxg : okH x g) (y : α) (hv : a.eval vo = E.val y) (hy : E.ok y)
    (hK : ∀ w', HMap E w' b (if (f x g).isSome then c else c + 1) (fun u v => if u = x ∧ v = g then some y else f u v) -> w.grownBy w' (some b) -> wpList Tryz.prog ops Q rest (a.put o.dst undef) w') :
    wpList Tryz.prog ops Q (o :: rest) a w := by
  have h' := h
  obtain ⟨D, h1, h2⟩ := h'
  refine wpList_mapUpdate_own w hg mo xo vo t hop _ e Tryz.keyedHandle ht E.R b c D hm h1 hc _ _ _ hx hv (hkey x g hxg) _ [] (E.hR y hy) ?_
  intro w' hown hgrow
  exact hK w' (HMap.put hok hxg D h2 h1 hown) hgrow
theorem wpList_hmap_look {ops : Array Oper} {rest : List Oper} {o : Oper} {a : Act} {Q : Exit -> Act -> World -> Prop}
    (hg : o.guard = none) (mo xo : Operand) (hop : o.op = Op.lookup t mo xo false) (ht : Tryz.prog.underlying t = some (.map 45 e)) (b c : Nat) (f : Nat -> Nat -> Option α)
    (hm : a.eval mo = .map (some b)) (h : HMap E w b c f) (x g : Nat) (hx : a.eval xo = hV x g) (hxg : okH x g)
    (hK : wpList Tryz.prog ops Q rest (a.put o.dst (E.val ((f x g).getD E.zero))) w) :
    wpList Tryz.prog ops Q (o :: rest) a w := by
  obtain ⟨D, h1, h2, h3⟩ := h
  refine wpList_plain hg fun K' hK' => ?_
  obtain ⟨v, ps, hrun, hv⟩ := h1.lookup Tryz.keyedHandle ht (E.hz w) (E.hR E.zero E.zok) (hkey x g hxg)
  have hv' : v = E.val ((f x g).getD E.zero) := by
    rw [(h3 x g hxg).2] at hv
    cases hf : f x g with
    | none => rw [hf] at hv; exact E.inv _ _ _ hv
    | some y => rw [hf] at hv; exact E.inv _ _ _ hv
  subst hv'
  unfold Oper.wp
  simp [execOp, hop, hm, hx, hrun, Result.andThen]
  exact hK' _ _ hK
end
noncomputable def elmInt : Elm Nat 3 where
  val n := .int .i64 (n : Int)
  dat n := .lit (.int .i64 (n : Int))
  R := plainElem Tryz.prog 3
  ok n := n <= 65536
  zero := 0
  hR a h := plainElem_int Tryz.underlying3 (i64_wf a h)
  inv v a ps h := by
    obtain ⟨c,rfl, hc, _⟩ := plainElem_int_inv Tryz.underlying3 h
    simp only [Prod.mk.injEq, DataW.lit.injEq, Lit.int.injEq, true_and] at hc
    rw [hc.1]
  hz w := by kernel_rfl
  zok := Nat.zero_le _
def placeR (v : Value) : Option (DataW Unit × List MemPlace) :=
  match v with
  | .agg xs => (match xs.toList with | [.int .i64 x,.int .i64 y] => some (.agg [.lit (.int .i64 x),.lit (.int .i64 y)], []) | _ => none)
  | _ => none
theorem placeR_inv {v : Value} {z : DataW Unit × List MemPlace} (h : placeR v = some z) : ∃ x y, v = .agg #[.int .i64 x,.int .i64 y] ∧ z = (.agg [.lit (.int .i64 x),.lit (.int .i64 y)], []) := by
  cases v with
  | agg xs =>
    obtain ⟨l⟩ := xs
    match l, h with
    | [.int .i64 x,.int .i64 y], h => exact ⟨x, y,rfl,(Option.some.inj h).symm⟩
  | _ => simp [placeR] at h
noncomputable def elmPlace : Elm (Nat × Nat) 51 where
  val n := .agg #[.int .i64 (n.1 : Int),.int .i64 (n.2 : Int)]
  dat n := .agg [.lit (.int .i64 (n.1 : Int)),.lit (.int .i64 (n.2 : Int))]
  R := placeR
  ok _ := True
  zero := (0,0)
  hR a h := rfl
  inv v a ps h := by
    obtain ⟨x, y,rfl, hc⟩ := placeR_inv h
    simp only [Prod.mk.injEq, DataW.agg.injEq, List.cons.injEq, DataW.lit.injEq, Lit.int.injEq, true_and, and_true] at hc
    rw [hc.1.1, hc.1.2]
  hz w := by kernel_rfl
  zok := trivial
section
variable {t : TypeId} {w : World} {b c : Nat}
theorem wpList_hmap_look_int {f : Nat -> Nat -> Option Nat} {ops : Array Oper} {rest : List Oper} {o : Oper} {a : Act} {Q : Exit -> Act -> World -> Prop}
    (hg : o.guard = none) (mo xo : Operand) (hop : o.op = Op.lookup t mo xo false) (ht : Tryz.prog.underlying t = some (.map 45 3))
    (hm : a.eval mo = .map (some b)) (h : HMap elmInt w b c f) (x g : Nat) (hx : a.eval xo = hV x g) (hxg : okH x g) (n : Nat) (hf : f x g = some n)
    (hK : wpList Tryz.prog ops Q rest (a.put o.dst (.int .i64 (n : Int))) w) :
    wpList Tryz.prog ops Q (o :: rest) a w :=
  wpList_hmap_look hg mo xo hop ht b c f hm h x g hx hxg (by rw [hf]; exact hK)
end
end Go.Proofs.YtkdbjelhkfdfjaaGreatDoor


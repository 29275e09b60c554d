/-
  Slices of handles in memory, beside an arena.
-/
import Derived.Test.YtoifnljlnpkodaaArenaSt
namespace Go.Proofs.Ytoifnljlnpkodaa
open Go.RowKit
set_option linter.unusedVariables false

/-- Handles as cells. -/
def hCells (L : List (Nat × Int)) : List Value := L.flatMap fun h => [.int .i64 h.1, .int .u32 h.2]

theorem hCells_at (L : List (Nat × Int)) (k : Nat) (hk : k < L.length) :
    (hCells L)[k * 2]? = some (.int .i64 (L.getD k (0, 0)).1) ∧ (hCells L)[k * 2 + 1]? = some (.int .u32 (L.getD k (0, 0)).2) := by
  induction L generalizing k with
  | nil => simp at hk
  | cons p L ih =>
    cases k with
    | zero => simp [hCells]
    | succ k =>
      have := ih k (by simpa using hk)
      simp only [hCells, List.flatMap_cons, List.cons_append, List.nil_append, List.getD_cons_succ] at this ⊢
      rw [show (k + 1) * 2 = k * 2 + 1 + 1 by omega, show k * 2 + 1 + 1 + 1 = (k * 2 + 1) + 1 + 1 by omega]
      simpa using this

theorem hCells_len (L : List (Nat × Int)) : (hCells L).length = L.length * 2 := by
  induction L with
  | nil => rfl
  | cons p L ih => simp only [hCells, List.flatMap_cons, List.length_append, List.length_cons, List.length_nil] at ih ⊢; omega

theorem hCells_append (L M : List (Nat × Int)) : hCells (L ++ M) = hCells L ++ hCells M := by simp [hCells]

theorem hCells_one (L : List (Nat × Int)) : ∀ u ∈ hCells L, u.oneCell' = true := by
  intro u hu
  simp only [hCells, List.mem_flatMap] at hu
  obtain ⟨p, _, hu⟩ := hu
  simp at hu
  rcases hu with rfl | rfl <;> rfl

theorem Try.infoHandle : (Try.prog.info? 30).map (fun i => (i.zero, i.size, i.bytes)) = some (some (.agg #[.int .i64 0, .int .u32 0]), 2, 16) := by kernel_rfl

/-- A slice of handles; its block is one of O. -/
structure HRow (w : World) (O : List Nat) (v : Value) (L : List (Nat × Int)) : Prop where
  row : w.ownsRow 0 30 2 v L.length (hCells L)
  mem : ∀ b, v.ownBlock = some b → b ∈ O

theorem HRow.form {w : World} {O : List Nat} {v : Value} {L : List (Nat × Int)} (h : HRow w O v L) : ∃ ao cap, v = .slice ao L.length cap := by
  rcases h.row.2 with ⟨rfl, h0⟩ | ⟨g, cap, cur, rfl, _⟩
  · exact ⟨none, 0, by rw [h0]⟩
  · exact ⟨_, _, rfl⟩

theorem HRow.at {w : World} {O : List Nat} {ao : Option Addr} {cap : Nat} {L : List (Nat × Int)} (h : HRow w O (.slice ao L.length cap) L) (k : Nat) (hk : k < L.length) :
    ∃ g, ao = some ⟨g, 0, none⟩ ∧ g < w.heap.size ∧ g ∈ O ∧ w.cell? ⟨g, k * 2, none⟩ = some (.int .i64 (L.getD k (0, 0)).1) ∧ w.cell? ⟨g, k * 2 + 1, none⟩ = some (.int .u32 (L.getD k (0, 0)).2) := by
  have hl := hCells_at L k hk
  have hr := h.row
  rcases hr.2 with ⟨h0, h1⟩ | ⟨g, cap', cur, e, hb, hg, _⟩
  · omega
  · cases e
    refine ⟨g, rfl, lt_of_block hg, h.mem g rfl, ?_, ?_⟩
    · rw [hr.cellAt (k * 2) (by omega)]; exact hl.1
    · rw [hr.cellAt (k * 2 + 1) (by omega)]; exact hl.2

theorem HRow.nil (w : World) (O : List Nat) : HRow w O (.slice none 0 0) [] := ⟨World.ownsRow_nil _ _ _ _, fun b h => by cases h⟩

/-- The row's block is as it was. -/
theorem HRow.kept {w w' : World} {O O' : List Nat} {v : Value} {L : List (Nat × Int)} (h : HRow w O v L) (hk : ∀ b ∈ O, w'.heap[b]? = w.heap[b]?) (ho : ∀ b ∈ O, b ∈ O') : HRow w' O' v L := by
  refine ⟨⟨h.row.1, ?_⟩, fun b hb => ho b (h.mem b hb)⟩
  rcases h.row.2 with h0 | ⟨g, cap', cur, rfl, hb, hg, r⟩
  · exact .inl h0
  · exact .inr ⟨g, cap', cur, rfl, hb, (hk g (h.mem g rfl)).trans hg, r⟩

theorem HRow.stays {B : Nat} {w w' : World} {O : List Nat} {v : Value} {L : List (Nat × Int)} (h : HRow w O v L) (k : Stays B O w w') : HRow w' O v L := h.kept k.2 fun _ h => h

theorem HRow.keep {w w' : World} {O F : List Nat} {v : Value} {L : List (Nat × Int)} (h : HRow w O v L) (k : Keeps F w w') (hf : ∀ b, v.ownBlock = some b → b ∉ F) : HRow w' O v L := by
  refine ⟨⟨h.row.1, ?_⟩, h.mem⟩
  rcases h.row.2 with h0 | ⟨g, cap', cur, rfl, hb, hg, r⟩
  · exact .inl h0
  · exact .inr ⟨g, cap', cur, rfl, hb, k.blk hg (hf g rfl), r⟩

/-- Other blocks that an arena has nothing to do with: some of O, and a new one. -/
theorem AR.grown {B p : Nat} {O F : List Nat} {S : List (Int × Bool)} {W : List Nat} {next : Nat} {cnt most : Int} {wr w1 : World} (h : AR B p O S W next cnt most wr) (k : Keeps F wr w1) (hF : ∀ b ∈ F, b ∈ O) {g : Nat} (hg : g ∈ O ∨ wr.heap.size ≤ g) (hlt : g < w1.heap.size) :
    AR B p (g :: O) S W next cnt most w1 := by
  obtain ⟨gs, ao, cw, h1, h2, h3, h4⟩ := h
  refine ⟨gs, ao, cw, h1.keep k fun b hb e => (h2 b hb).2 (hF b e), fun b hb => ⟨(h2 b hb).1, ?_⟩, ?_, h4⟩
  · have a1 := h1.lt b hb
    have a2 := (h2 b hb).2
    simp only [List.mem_cons, not_or]
    refine ⟨fun e => ?_, a2⟩
    subst e
    rcases hg with hg | hg
    · exact a2 hg
    · omega
  · intro b hb
    simp only [List.mem_cons] at hb
    rcases hb with rfl | hb
    · exact hlt
    · exact Nat.lt_of_lt_of_le (h3 b hb) k.size

theorem AR.lt {B p : Nat} {O : List Nat} {S : List (Int × Bool)} {W : List Nat} {next : Nat} {cnt most : Int} {wr : World} (h : AR B p O S W next cnt most wr) : ∀ b ∈ O, b < wr.heap.size := by
  obtain ⟨gs, ao, cw, h1, h2, h3, h4⟩ := h
  exact h3

theorem AR.drewN {B p : Nat} {O : List Nat} {S : List (Int × Bool)} {W : List Nat} {next : Nat} {cnt most : Int} {wr : World} (h : AR B p O S W next cnt most wr) (n : Nat) : AR B p O S W next cnt most (wr.drewN n) := by
  obtain ⟨gs, ao, cw, h1, h2, h3, h4⟩ := h
  exact ⟨gs, ao, cw, h1.drewN n, h2, h3, h4⟩

theorem AR.cnt {B p : Nat} {O : List Nat} {S : List (Int × Bool)} {W : List Nat} {next : Nat} {cnt cnt' most : Int} {wr : World} (h : AR B p O S W next cnt most wr) (e : cnt = cnt') : AR B p O S W next cnt' most wr := e ▸ h

/-- What was pushed. -/
theorem HRow.pushed {w : World} {O : List Nat} {L : List (Nat × Int)} {a : Nat} {b : Int} {g cap : Nat} (h : w.ownsRow 0 30 2 (.slice (some ⟨g, 0, none⟩) (L.length + 1) cap) (L.length + 1) (hCells L ++ [.int .i64 a, .int .u32 b])) :
    HRow w (g :: O) (.slice (some ⟨g, 0, none⟩) (L ++ [(a, b)]).length cap) (L ++ [(a, b)]) := by
  refine ⟨?_, fun b hb => by simp [Value.ownBlock] at hb; simp [hb]⟩
  rw [hCells_append]
  simpa [hCells] using h

/-- A handle was pushed: the arena, the row and what was there before. -/
theorem pushed_all {B p : Nat} {O : List Nat} {S : List (Int × Bool)} {W : List Nat} {next : Nat} {cnt most : Int} {w0 wr w1 : World} {v : Value} {L : List (Nat × Int)} {a g cap : Nat} {b : Int}
    (h : AR B p O S W next cnt most wr) (hr : HRow wr O v L) (hO : ∀ b ∈ O, B ≤ b) (hbel : Below B w0 wr) (hB : B ≤ wr.heap.size)
    (h1 : w1.ownsRow 0 30 2 (.slice (some ⟨g, 0, none⟩) (L.length + 1) cap) (L.length + 1) (hCells L ++ [.int .i64 a, .int .u32 b])) (hk : Keeps v.ownBlock.toList wr w1) (hf : v.ownBlock = some g ∨ wr.heap.size ≤ g) :
    AR B p (g :: O) S W next cnt most w1 ∧ HRow w1 (g :: O) (.slice (some ⟨g, 0, none⟩) (L ++ [(a, b)]).length cap) (L ++ [(a, b)]) ∧ (∀ b ∈ g :: O, B ≤ b) ∧ Below B w0 w1 := by
  have hF : ∀ b ∈ v.ownBlock.toList, b ∈ O := fun b hb => hr.mem b (by simpa using hb)
  have hg : g ∈ O ∨ wr.heap.size ≤ g := hf.imp (hr.mem g) id
  refine ⟨h.grown hk hF hg (row_lt h1), HRow.pushed h1, ?_, hbel.trans (hk.below hB fun b hb => hO b (hF b hb))⟩
  intro b hb
  simp only [List.mem_cons] at hb
  rcases hb with rfl | hb
  · rcases hg with hg | hg
    · exact hO _ hg
    · omega
  · exact hO b hb

/-- A call, or stores, that make new memory alone. -/
theorem HRow.below {B p : Nat} {O : List Nat} {S : List (Int × Bool)} {W : List Nat} {next : Nat} {cnt most : Int} {w w' : World} {v : Value} {L : List (Nat × Int)} (h : HRow w O v L) (ha : AR B p O S W next cnt most w) (hb : Below w.heap.size w w') : HRow w' O v L :=
  h.kept (fun b hx => hb.block b (ha.lt b hx)) fun _ h => h

theorem HRow.lt {w : World} {O : List Nat} {v : Value} {L : List (Nat × Int)} (h : HRow w O v L) : ∀ b, v.ownBlock = some b → b < w.heap.size := by
  intro b hb
  rcases h.row.2 with ⟨rfl, _⟩ | ⟨g, cap', cur, rfl, _, hg, r⟩
  · cases hb
  · cases hb; exact lt_of_block hg

end Go.Proofs.Ytoifnljlnpkodaa

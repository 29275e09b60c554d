/-
  The contracts of the document's answer for arenas (package haycockref03).
-/
import Derived.Test.YtoifnljlnpkodaaHands
import Derived.Test.YtoifnljlnpkodaaOncePlain
import Derived.Deep.LoopGhost
import Derived.Deep.DeepCutAuto
import Derived.Deep.CutBlock
namespace Go.Proofs.Ytoifnljlnpkodaa
open Go.RowKit
set_option linter.unusedVariables false

/-- A slice of handles. -/
def HR (w : World) (v : Value) (L : List (Nat × Int)) : Prop := w.ownsRow 0 30 2 v L.length (hCells L)

theorem HR.form {w : World} {v : Value} {L : List (Nat × Int)} (h : HR w v L) : ∃ ao cap, v = .slice ao L.length cap := by
  rcases h.2 with ⟨rfl, h0⟩ | ⟨g, cap, cur, rfl, _⟩
  · exact ⟨none, 0, by rw [h0]⟩
  · exact ⟨_, _, rfl⟩

theorem HR.at {w : World} {ao : Option Addr} {cap : Nat} {L : List (Nat × Int)} (h : HR w (.slice ao L.length cap) L) (k : Nat) (hk : k < L.length) :
    ∃ g, ao = some ⟨g, 0, none⟩ ∧ g < w.heap.size ∧ w.cell? ⟨g, k * 2, none⟩ = some (.int .i64 (L.getD k (0, 0)).1) ∧ w.cell? ⟨g, k * 2 + 1, none⟩ = some (.int .u32 (L.getD k (0, 0)).2) := by
  have hl := hCells_at L k hk
  rcases h.2 with ⟨h0, h1⟩ | ⟨g, cap', cur, e, hb, hg, _⟩
  · omega
  · cases e
    refine ⟨g, rfl, lt_of_block hg, ?_, ?_⟩
    · rw [World.ownsRow.cellAt h (k * 2) (by omega)]; exact hl.1
    · rw [World.ownsRow.cellAt h (k * 2 + 1) (by omega)]; exact hl.2

theorem HR.below {w w' : World} {v : Value} {L : List (Nat × Int)} (h : HR w v L) (hb : Below w.heap.size w w') : HR w' v L := row_below h hb (Nat.le_refl _)
theorem HR.alloc {w : World} {v : Value} {L : List (Nat × Int)} (h : HR w v L) (o : Obj) : HR (w.alloc o) v L := World.ownsRow.alloc h o

theorem take_snoc {L : List (Nat × Int)} {k : Nat} (hk : k < L.length) : L.take (k + 1) = L.take k ++ [L.getD k (0, 0)] := by
  rw [List.take_succ_eq_append_getElem hk]; simp [List.getD, hk]

/-- Is a handle among some. -/
def hasP (L : List (Nat × Int)) (s g : Int) : Bool := L.any fun h => ((h.1 : Nat) : Int) == s && h.2 == g

theorem r3_has (w : World) (v : Value) (L : List (Nat × Int)) (s g : Int) (h : HR w v L) (hl : L.length < 70000) :
    Calls Try.prog 28 #[v, .agg #[.int .i64 s, .int .u32 g]] w fun e w' => e = .returned (.bool (hasP L s g)) ∧ Below w.heap.size w w' := by
  have es := eqHandle
  have eg := guardHandle
  obtain ⟨ao, cap, rfl⟩ := h.form
  go_enter Try.func28, Try.ntmps28
  have b0 : Below w.heap.size w (w.alloc (.cells #[.int .i64 s, .int .u32 g] 30)) := (Below.refl _ _).alloc (Nat.le_refl _) _
  have n0 := blk_alloc_new (w := w) (.cells #[.int .i64 s, .int .u32 g] 30)
  have h0 : HR (w.alloc (.cells #[.int .i64 s, .int .u32 g] 30)) _ L := h.alloc _
  go_wp2_with fail
  generalize w.alloc (.cells #[.int .i64 s, .int .u32 g] 30) = w0 at *
  go_loopg [4, 9] (L.length + 1) (fun m r u wr => ∃ k : Nat, k ≤ L.length ∧ m + k = L.length + 1 ∧ r = .bool false ∧ u = .int .i64 k ∧ hasP (L.take k) s g = false ∧ Below w0.heap.size w0 wr)
  case atStart => exact ⟨0, by omega, by omega, rfl, rfl, rfl, Below.refl _ _⟩
  case round =>
    obtain ⟨k, hk, hgk, rfl, rfl, hno, hbel⟩ := hrel
    have HNO := Lib.hid hno
    have HG := Lib.hid hgk
    clear hno hgk
    by_cases hlt : k < L.length
    · have hz := lt_of_block n0
      have q0 : wr.cell? ⟨w.heap.size, 0, none⟩ = some (.int .i64 s) := by rw [hbel.cell (p := ⟨w.heap.size, 0, none⟩) hz, cell_of_blk n0]; rfl
      have q1 : wr.cell? ⟨w.heap.size, 1, none⟩ = some (.int .u32 g) := by rw [hbel.cell (p := ⟨w.heap.size, 1, none⟩) hz, cell_of_blk n0]; rfl
      have hzr : w.heap.size < wr.heap.size := Nat.lt_of_lt_of_le hz hbel.size
      obtain ⟨gb, rfl, glt, c0, c1⟩ := h0.at k hlt
      have HT := Lib.hid (take_snoc hlt)
      generalize L.getD k (0, 0) = hh at *
      obtain ⟨j, g2⟩ := hh
      simp only at c0 c1
      have d0 := (hbel.cell (p := ⟨gb, k * 2, none⟩) glt).trans c0
      have d1 := (hbel.cell (p := ⟨gb, k * 2 + 1, none⟩) glt).trans c1
      have hb1 : Below w0.heap.size w0 (wr.alloc (.cells #[.int .i64 j, .int .u32 g2] 30)) := hbel.alloc hbel.size _
      clear c0 c1
      cases hq : (((j : Nat) : Int) == s && g2 == g) with
      | true =>
        have hfin : hasP L s g = true := by
          rw [hasP, ← List.take_append_drop (k + 1) L, HT.out]
          simp only [List.any_append, List.any_cons, hq, Bool.or_true, Bool.true_or]
        have HF := Lib.hid hfin
        clear hfin hbel h0 n0 h
        go_wp2
        go_ret
        exact ⟨(by rw [HF.out]; rfl), b0.trans (hb1.mono b0.size)⟩
      | false =>
        have hno1 : hasP (L.take (k + 1)) s g = false := by
          rw [HT.out, hasP, List.any_append, ← hasP, HNO.out]
          simp only [List.any_cons, List.any_nil, hq, Bool.or_false]
        clear hbel h0 n0 h
        go_wp2_with fail
        go_roundg (gk - 1)
        case measure => have := HG.out; omega
        case rel => exact ⟨k + 1, by omega, by have := HG.out; omega, rfl, by go_num, hno1, hb1⟩
    · obtain rfl : k = L.length := by omega
      have hfin : hasP L s g = false := by
        have := HNO.out
        rwa [List.take_length] at this
      have HF := Lib.hid hfin
      clear hfin
      go_wp2
      go_ret
      exact ⟨(by rw [HF.out]; rfl), b0.trans (hbel.mono b0.size)⟩

/-- The last generation of a slot that was taken. -/
def lastP (L : List (Nat × Int)) (s : Int) : Int := L.foldl (fun g h => if ((h.1 : Nat) : Int) = s then h.2 else g) 0

theorem lastP_snoc (L : List (Nat × Int)) (h : Nat × Int) (s : Int) : lastP (L ++ [h]) s = if ((h.1 : Nat) : Int) = s then h.2 else lastP L s := by
  simp only [lastP, List.foldl_append]; rfl

/-- The document's arena, by value. -/
def refV (cap most : Int) (vT vG : Value) : Value := .agg #[.int .i64 cap, .int .u32 most, vT, vG]

theorem r3_last (w : World) (cap most : Int) (vT vG : Value) (L : List (Nat × Int)) (s : Int) (h : HR w vT L) (hG : ∃ a n c, vG = .slice a n c) (hl : L.length < 70000) :
    Calls Try.prog 27 #[refV cap most vT vG, .int .i64 s] w fun e w' => e = .returned (.int .u32 (lastP L s)) ∧ Below w.heap.size w w' := by
  obtain ⟨ao, ca, rfl⟩ := h.form
  obtain ⟨ga, gn, gc, rfl⟩ := hG
  unfold refV
  go_enter Try.func27, Try.ntmps27
  have b0 : Below w.heap.size w (w.alloc (.cells #[.int .i64 cap, .int .u32 most, .slice ao L.length ca, .slice ga gn gc] 42)) := (Below.refl _ _).alloc (Nat.le_refl _) _
  have h0 : HR (w.alloc (.cells #[.int .i64 cap, .int .u32 most, .slice ao L.length ca, .slice ga gn gc] 42)) _ L := h.alloc _
  go_wp2_with fail
  generalize w.alloc (.cells #[.int .i64 cap, .int .u32 most, .slice ao L.length ca, .slice ga gn gc] 42) = w0 at *
  go_loopg [5, 11] (L.length + 1) (fun m r u wr => ∃ k : Nat, k ≤ L.length ∧ m + k = L.length + 1 ∧ r = .int .u32 (lastP (L.take k) s) ∧ u = .int .i64 k ∧ Below w0.heap.size w0 wr)
  case atStart => exact ⟨0, by omega, by omega, rfl, rfl, Below.refl _ _⟩
  case round =>
    obtain ⟨k, hk, hgk, rfl, rfl, hbel⟩ := hrel
    have HG := Lib.hid hgk
    clear hgk
    by_cases hlt : k < L.length
    · obtain ⟨gb, rfl, glt, c0, c1⟩ := h0.at k hlt
      have hsn := lastP_snoc (L.take k) (L.getD k (0, 0)) s
      rw [← take_snoc hlt] at hsn
      generalize L.getD k (0, 0) = hh at *
      obtain ⟨j, g2⟩ := hh
      simp only at c0 c1 hsn
      have HS := Lib.hid hsn
      have d0 := (hbel.cell (p := ⟨gb, k * 2, none⟩) glt).trans c0
      have d1 := (hbel.cell (p := ⟨gb, k * 2 + 1, none⟩) glt).trans c1
      have hb1 : Below w0.heap.size w0 (wr.alloc (.cells #[.int .i64 j, .int .u32 g2] 30)) := hbel.alloc hbel.size _
      clear c0 c1 hsn
      by_cases hq : ((j : Nat) : Int) = s
      · have hqb : (((j : Nat) : Int) == s) = true := by simpa using hq
        have HQ := Lib.hid hq
        clear hbel h0 h hq
        go_wp2_with fail
        go_roundg (gk - 1)
        case measure => have := HG.out; omega
        case rel => exact ⟨k + 1, by omega, by have := HG.out; omega, by rw [HS.out, if_pos HQ.out], by go_num, hb1⟩
      · have hqb : (((j : Nat) : Int) == s) = false := by simpa using hq
        have HQ := Lib.hid hq
        clear hbel h0 h hq
        go_wp2_with fail
        go_roundg (gk - 1)
        case measure => have := HG.out; omega
        case rel => exact ⟨k + 1, by omega, by have := HG.out; omega, by rw [HS.out, if_neg HQ.out], by go_num, hb1⟩
    · obtain rfl : k = L.length := by omega
      go_wp2
      go_ret
      exact ⟨(by rw [List.take_length]; rfl), b0.trans (hbel.mono b0.size)⟩

/-- How many slots were given out ever. -/
def freshP (L : List (Nat × Int)) : Nat := L.countP fun h => h.2 == 1

theorem r3_fresh (w : World) (cap most : Int) (vT vG : Value) (L : List (Nat × Int)) (h : HR w vT L) (hG : ∃ a n c, vG = .slice a n c) (hl : L.length < 70000) :
    Calls Try.prog 26 #[refV cap most vT vG] w fun e w' => e = .returned (.int .i64 (freshP L)) ∧ Below w.heap.size w w' := by
  obtain ⟨ao, ca, rfl⟩ := h.form
  obtain ⟨ga, gn, gc, rfl⟩ := hG
  unfold refV
  go_enter Try.func26, Try.ntmps26
  have b0 : Below w.heap.size w (w.alloc (.cells #[.int .i64 cap, .int .u32 most, .slice ao L.length ca, .slice ga gn gc] 42)) := (Below.refl _ _).alloc (Nat.le_refl _) _
  have h0 : HR (w.alloc (.cells #[.int .i64 cap, .int .u32 most, .slice ao L.length ca, .slice ga gn gc] 42)) _ L := h.alloc _
  go_wp2_with fail
  generalize w.alloc (.cells #[.int .i64 cap, .int .u32 most, .slice ao L.length ca, .slice ga gn gc] 42) = w0 at *
  go_loopg [3, 9] (L.length + 1) (fun m r u wr => ∃ k c : Nat, k ≤ L.length ∧ m + k = L.length + 1 ∧ c = freshP (L.take k) ∧ c ≤ k ∧ r = .int .i64 c ∧ u = .int .i64 k ∧ Below w0.heap.size w0 wr)
  case atStart => exact ⟨0, 0, by omega, by omega, rfl, by omega, rfl, rfl, Below.refl _ _⟩
  case round =>
    obtain ⟨k, c, hk, hgk, hc, hck, rfl, rfl, hbel⟩ := hrel
    have HG := Lib.hid hgk
    have HC := Lib.hid hc
    clear hgk hc
    by_cases hlt : k < L.length
    · obtain ⟨gb, rfl, glt, c0, c1⟩ := h0.at k hlt
      have hsn : freshP (L.take (k + 1)) = freshP (L.take k) + if (L.getD k (0, 0)).2 = 1 then 1 else 0 := by
        rw [take_snoc hlt, freshP, List.countP_append, ← freshP]
        simp [List.countP_cons]
      generalize L.getD k (0, 0) = hh at *
      obtain ⟨j, g2⟩ := hh
      simp only at c0 c1 hsn
      have HS := Lib.hid hsn
      have d0 := (hbel.cell (p := ⟨gb, k * 2, none⟩) glt).trans c0
      have d1 := (hbel.cell (p := ⟨gb, k * 2 + 1, none⟩) glt).trans c1
      have hb1 : Below w0.heap.size w0 (wr.alloc (.cells #[.int .i64 j, .int .u32 g2] 30)) := hbel.alloc hbel.size _
      clear c0 c1 hsn
      by_cases hq : g2 = 1
      · have hqb : (g2 == 1) = true := by simpa using hq
        have HQ := Lib.hid hq
        clear hbel h0 h hq
        go_wp2_with fail
        go_roundg (gk - 1)
        case measure => have := HG.out; omega
        case rel => exact ⟨k + 1, c + 1, by omega, by have := HG.out; omega, by rw [HS.out, if_pos HQ.out, HC.out], by omega, by go_num, by go_num, hb1⟩
      · have hqb : (g2 == 1) = false := by simpa using hq
        have HQ := Lib.hid hq
        clear hbel h0 h hq
        go_wp2_with fail
        go_roundg (gk - 1)
        case measure => have := HG.out; omega
        case rel => exact ⟨k + 1, c, by omega, by have := HG.out; omega, by rw [HS.out, if_neg HQ.out, HC.out]; rfl, by omega, rfl, by go_num, hb1⟩
    · obtain rfl : k = L.length := by omega
      have hfin : c = freshP L := by rw [HC.out, List.take_length]
      have HF := Lib.hid hfin
      clear hfin
      go_wp2
      go_ret
      exact ⟨(by rw [HF.out]; rfl), b0.trans (hbel.mono b0.size)⟩

end Go.Proofs.Ytoifnljlnpkodaa

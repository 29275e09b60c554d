/-
  The contract of 'At' of package haycockref03.
-/
import Derived.Test.YtoifnljlnpkodaaRef03X
namespace Go.Proofs.Ytoifnljlnpkodaa
open Go.RowKit
set_option linter.unusedVariables false

/-- The live handle of a slot, by the document. -/
def atP (T G : List (Nat × Int)) (s : Int) : Option (Nat × Int) := T.find? fun h => ((h.1 : Nat) : Int) == s && !hasP G h.1 h.2

/-- As 'At' tells it. -/
def atV : Option (Nat × Int) → Value
  | some h => .tuple #[.agg #[.int .i64 h.1, .int .u32 h.2], .bool true]
  | none => .tuple #[.agg #[.int .i64 0, .int .u32 0], .bool false]

theorem find_snoc (L : List (Nat × Int)) (k : Nat) (hk : k < L.length) (p : Nat × Int → Bool) (h : (L.take k).find? p = none) :
    (p (L.getD k (0, 0)) = true → L.find? p = some (L.getD k (0, 0))) ∧ (p (L.getD k (0, 0)) = false → (L.take (k + 1)).find? p = none) := by
  obtain ⟨x, hx⟩ : ∃ x, L.getD k (0, 0) = x := ⟨_, rfl⟩
  have hs := take_snoc hk
  rw [hx] at hs ⊢
  constructor
  · intro hp
    have hL : L.find? p = (L.take (k + 1) ++ L.drop (k + 1)).find? p := by rw [List.take_append_drop]
    rw [hL, hs, List.find?_append, List.find?_append, h, List.find?_cons, hp]
    rfl
  · intro hp
    rw [hs, List.find?_append, h, List.find?_cons, hp]
    rfl

set_option maxHeartbeats 1000000 in
theorem r3_at (w : World) (cap most : Int) (vT vG : Value) (T G : List (Nat × Int)) (s : Int) (hT : HR w vT T) (hG : HR w vG G) (hl : T.length < 70000) (hlG : G.length < 70000) :
    Calls Try.prog 17 #[refV cap most vT vG, .int .i64 s] w fun e w' => e = .returned (atV (atP T G s)) ∧ Below w.heap.size w w' := by
  obtain ⟨ao, ca, rfl⟩ := hT.form
  obtain ⟨ga, gc, rfl⟩ := hG.form
  unfold refV
  go_enter Try.func17, Try.ntmps17
  have hT0 := (hT.alloc (.cells #[.int .i64 cap, .int .u32 most, .slice ao T.length ca, .slice ga G.length gc] 42)).alloc (.cells #[.int .i64 0, .int .u32 0] 30)
  have hG0 := (hG.alloc (.cells #[.int .i64 cap, .int .u32 most, .slice ao T.length ca, .slice ga G.length gc] 42)).alloc (.cells #[.int .i64 0, .int .u32 0] 30)
  have b0 : Below w.heap.size w ((w.alloc (.cells #[.int .i64 cap, .int .u32 most, .slice ao T.length ca, .slice ga G.length gc] 42)).alloc (.cells #[.int .i64 0, .int .u32 0] 30)) := ((Below.refl _ w).alloc (Nat.le_refl _) _).alloc (by simp) _
  have n0 : ((w.alloc (.cells #[.int .i64 cap, .int .u32 most, .slice ao T.length ca, .slice ga G.length gc] 42)).alloc (.cells #[.int .i64 0, .int .u32 0] 30)).heap[w.heap.size]? = some (.cells #[.int .i64 cap, .int .u32 most, .slice ao T.length ca, .slice ga G.length gc] 42 (0, 0)) := (blk_alloc_old _ (by simp)).trans (blk_alloc_new _)
  have n1 : ((w.alloc (.cells #[.int .i64 cap, .int .u32 most, .slice ao T.length ca, .slice ga G.length gc] 42)).alloc (.cells #[.int .i64 0, .int .u32 0] 30)).heap[w.heap.size + 1]? = some (.cells #[.int .i64 0, .int .u32 0] 30 (0, 0)) := by
    have := blk_alloc_new (w := w.alloc (.cells #[.int .i64 cap, .int .u32 most, .slice ao T.length ca, .slice ga G.length gc] 42)) (.cells #[.int .i64 0, .int .u32 0] 30)
    simpa using this
  clear hT hG
  go_wp2_with fail
  generalize ((w.alloc (.cells #[.int .i64 cap, .int .u32 most, .slice ao T.length ca, .slice ga G.length gc] 42)).alloc (.cells #[.int .i64 0, .int .u32 0] 30)) = w0 at *
  go_loopg [11] (T.length + 1) (fun m u wr => ∃ k : Nat, k ≤ T.length ∧ m + k = T.length + 1 ∧ u = .int .i64 k ∧ (T.take k).find? (fun h => ((h.1 : Nat) : Int) == s && !hasP G h.1 h.2) = none ∧ Below w0.heap.size w0 wr)
  case atStart => exact ⟨0, by omega, by omega, rfl, rfl, Below.refl _ _⟩
  case round =>
    obtain ⟨k, hk, hgk, rfl, hno, hbel⟩ := hrel
    have HG := Lib.hid hgk
    have hz0 := lt_of_block n0
    have hz1 := lt_of_block n1
    have hs0 := hbel.size
    have f0 : wr.frozen? ⟨w.heap.size + 1, 0, none⟩ = false := frozen_of_blk ((hbel.block _ hz1).trans n1)
    have f1 : wr.frozen? ⟨w.heap.size + 1, 1, none⟩ = false := frozen_of_blk ((hbel.block _ hz1).trans n1)
    have q0 : wr.cell? ⟨w.heap.size + 1, 0, none⟩ = some (.int .i64 0) := by rw [cell_of_blk ((hbel.block _ hz1).trans n1)]; rfl
    have q1 : wr.cell? ⟨w.heap.size + 1, 1, none⟩ = some (.int .u32 0) := by rw [cell_of_blk ((hbel.block _ hz1).trans n1)]; rfl
    clear hgk
    by_cases hlt : k < T.length
    · obtain ⟨hy, hn⟩ := find_snoc T k hlt _ hno
      obtain ⟨gb, rfl, glt, c0, c1⟩ := hT0.at k hlt
      have HY := Lib.hid hy
      have HN := Lib.hid hn
      clear hy hn hno
      generalize T.getD k (0, 0) = hh at *
      obtain ⟨j, g⟩ := hh
      simp only at c0 c1
      have d0 := (hbel.cell (p := ⟨gb, k * 2, none⟩) glt).trans c0
      have d1 := (hbel.cell (p := ⟨gb, k * 2 + 1, none⟩) glt).trans c1
      have hb1 : Below w0.heap.size w0 (wr.alloc (.cells #[.int .i64 j, .int .u32 g] 30)) := hbel.alloc hbel.size _
      have p3 : (wr.alloc (.cells #[.int .i64 j, .int .u32 g] 30)).cell? ⟨w.heap.size, 3, none⟩ = some (.slice ga G.length gc) := by rw [hb1.cell (p := ⟨w.heap.size, 3, none⟩) hz0, cell_of_blk n0]; rfl
      have p5 : wr.cell? ⟨w.heap.size, 3, none⟩ = some (.slice ga G.length gc) := by rw [hbel.cell (p := ⟨w.heap.size, 3, none⟩) hz0, cell_of_blk n0]; rfl
      clear c0 c1 hbel
      by_cases hq : ((j : Nat) : Int) = s
      · have hqb : (((j : Nat) : Int) == s) = true := by simpa using hq
        have HQ := Lib.hid hq
        clear hq
        go_wp2_with fail
        have hG1 : HR (wr.alloc (.cells #[.int .i64 j, .int .u32 g] 30)) _ G := (hG0.below (hb1.mono (Nat.le_refl _)))
        have hs1 := hb1.size
        refine (r3_has _ _ G j g hG1 hlG).mono ?_
        rintro e w2 ⟨rfl, hf⟩
        have hz2 : wr.heap.size < w2.heap.size := by have := hf.size; simp only [World.size_alloc] at this; omega
        have hb2 := hb1.trans (hf.mono hb1.size)
        have r0 : w2.cell? ⟨wr.heap.size, 0, none⟩ = some (.int .i64 j) := by rw [hf.cell (by simp)]; simp [go_sem]
        have r1 : w2.cell? ⟨wr.heap.size, 1, none⟩ = some (.int .u32 g) := by rw [hf.cell (by simp)]; simp [go_sem]
        have f20 : w2.frozen? ⟨w.heap.size + 1, 0, none⟩ = false := frozen_of_blk ((hb2.block _ hz1).trans n1)
        have f21 : w2.frozen? ⟨w.heap.size + 1, 1, none⟩ = false := frozen_of_blk ((hb2.block _ hz1).trans n1)
        have q20 : w2.cell? ⟨w.heap.size + 1, 0, none⟩ = some (.int .i64 0) := by rw [cell_of_blk ((hb2.block _ hz1).trans n1)]; rfl
        have q21 : w2.cell? ⟨w.heap.size + 1, 1, none⟩ = some (.int .u32 0) := by rw [cell_of_blk ((hb2.block _ hz1).trans n1)]; rfl
        clear hf hG1 hb1 hT0 hG0 n0 n1 d0 d1 p3 p5 q0 q1 f0 f1
        cases hg : hasP G (j : Int) g with
        | true =>
          have hn1 := HN.out (by simp only [hg, Bool.not_true, Bool.and_false])
          have HN1 := Lib.hid hn1
          clear hn1 hg
          go_wp2_with fail
          go_roundg (gk - 1)
          case measure => have := HG.out; omega
          case rel => exact ⟨k + 1, by omega, by have := HG.out; omega, by go_num, HN1.out, hb2⟩
        | false =>
          have hy1 := HY.out (by simp only [hg, hqb, Bool.not_false, Bool.and_true])
          have hfin : atP T G s = some (j, g) := hy1
          have HF := Lib.hid hfin
          clear hy1 hfin hg
          go_wp2
          refine bodyPost_ret (v := .tuple #[.agg #[.int .i64 j, .int .u32 g], .bool true]) (by simp [results, Try.results17, go_sem, q20, q21]) rfl ⟨by rw [HF.out]; rfl, ?_⟩
          exact (b0.trans (hb2.mono b0.size)).setCell (by simp) _ |>.setCell (by simp) _
      · have hqb : (((j : Nat) : Int) == s) = false := by simpa using hq
        have hn1 := HN.out (by simp only [hqb, Bool.false_and])
        have HN1 := Lib.hid hn1
        clear hT0 hG0 n0 n1 hq p3 hn1 q0 q1 f0 f1
        go_wp2_with fail
        go_roundg (gk - 1)
        case measure => have := HG.out; omega
        case rel => exact ⟨k + 1, by omega, by have := HG.out; omega, by go_num, HN1.out, hb1⟩
    · obtain rfl : k = T.length := by omega
      have hfin : atP T G s = none := by rw [List.take_length] at hno; exact hno
      clear hno
      go_wp2
      refine bodyPost_ret (v := .tuple #[.agg #[.int .i64 0, .int .u32 0], .bool false]) (by simp [results, Try.results17, go_sem, q0, q1]) rfl ⟨by rw [hfin]; rfl, ?_⟩
      exact (b0.trans (hbel.mono b0.size)).setCell (by simp) _ |>.setCell (by simp) _

end Go.Proofs.Ytoifnljlnpkodaa

/-
  'Give' of package haycockref03, of what is not live.
-/
import Derived.Test.YtoifnljlnpkodaaRef03G
namespace Go.Proofs.Ytoifnljlnpkodaa
open Go.RowKit
set_option linter.unusedVariables false

set_option maxHeartbeats 1000000 in
theorem r3_give_no (w : World) (cap most : Int) (vT vG : Value) (T G : List (Nat × Int)) (j g : Int) (hT : HR w vT T) (hG : HR w vG G) (hl : T.length < 70000) (hlG : G.length < 70000) (hlv : liveP T G j g = false) :
    Calls Try.prog 18 #[refV cap most vT vG, .agg #[.int .i64 j, .int .u32 g]] w fun e w' => e = .returned (.tuple #[refV cap most vT vG, .int .i64 33]) ∧ Below w.heap.size w w' := by
  obtain ⟨ao, ca, rfl⟩ := hT.form
  obtain ⟨ga, gc, rfl⟩ := hG.form
  have HLV := Lib.hid hlv
  clear hlv
  unfold refV
  go_enter Try.func18, Try.ntmps18
  have b0 : Below w.heap.size w (((w.alloc (.cells #[.int .i64 cap, .int .u32 most, .slice ao T.length ca, .slice ga G.length gc] 42)).alloc (.cells #[.int .i64 j, .int .u32 g] 30)).alloc (.cells #[.int .i64 0, .int .u32 0, .slice none 0 0, .slice none 0 0] 42)) := (((Below.refl _ w).alloc (Nat.le_refl _) _).alloc (by simp) _).alloc (by simp; omega) _
  have hT0 := hT.below b0
  have hG0 := hG.below b0
  have n0 : (((w.alloc (.cells #[.int .i64 cap, .int .u32 most, .slice ao T.length ca, .slice ga G.length gc] 42)).alloc (.cells #[.int .i64 j, .int .u32 g] 30)).alloc (.cells #[.int .i64 0, .int .u32 0, .slice none 0 0, .slice none 0 0] 42)).heap[w.heap.size]? = some (.cells #[.int .i64 cap, .int .u32 most, .slice ao T.length ca, .slice ga G.length gc] 42 (0, 0)) := (blk_alloc_old _ (by simp; omega)).trans ((blk_alloc_old _ (by simp)).trans (blk_alloc_new _))
  have n2 : (((w.alloc (.cells #[.int .i64 cap, .int .u32 most, .slice ao T.length ca, .slice ga G.length gc] 42)).alloc (.cells #[.int .i64 j, .int .u32 g] 30)).alloc (.cells #[.int .i64 0, .int .u32 0, .slice none 0 0, .slice none 0 0] 42)).heap[w.heap.size + 2]? = some (.cells #[.int .i64 0, .int .u32 0, .slice none 0 0, .slice none 0 0] 42 (0, 0)) := by
    have := blk_alloc_new (w := (w.alloc (.cells #[.int .i64 cap, .int .u32 most, .slice ao T.length ca, .slice ga G.length gc] 42)).alloc (.cells #[.int .i64 j, .int .u32 g] 30)) (.cells #[.int .i64 0, .int .u32 0, .slice none 0 0, .slice none 0 0] 42)
    simpa using this
  go_wp2_with fail
  generalize (((w.alloc (.cells #[.int .i64 cap, .int .u32 most, .slice ao T.length ca, .slice ga G.length gc] 42)).alloc (.cells #[.int .i64 j, .int .u32 g] 30)).alloc (.cells #[.int .i64 0, .int .u32 0, .slice none 0 0, .slice none 0 0] 42)) = w0 at *
  refine (r3_live _ cap most _ _ T G j g hT0 hG0 hl hlG).mono ?_
  rintro e w1 ⟨rfl, h1⟩
  rw [HLV.out]
  have m0 := (h1.block _ (lt_of_block n0)).trans n0
  have m2 := (h1.block _ (lt_of_block n2)).trans n2
  have b1 := b0.trans (h1.mono b0.size)
  clear hT hG hT0 hG0 n0 n2 b0 h1
  have p0 : w1.cell? ⟨w.heap.size, 0, none⟩ = some (.int .i64 cap) := by rw [cell_of_blk m0]; rfl
  have p1 : w1.cell? ⟨w.heap.size, 1, none⟩ = some (.int .u32 most) := by rw [cell_of_blk m0]; rfl
  have p2 : w1.cell? ⟨w.heap.size, 2, none⟩ = some (.slice ao T.length ca) := by rw [cell_of_blk m0]; rfl
  have p3 : w1.cell? ⟨w.heap.size, 3, none⟩ = some (.slice ga G.length gc) := by rw [cell_of_blk m0]; rfl
  have t0 : w1.cell? ⟨w.heap.size + 2, 0, none⟩ = some (.int .i64 0) := by rw [cell_of_blk m2]; rfl
  have t1 : w1.cell? ⟨w.heap.size + 2, 1, none⟩ = some (.int .u32 0) := by rw [cell_of_blk m2]; rfl
  have t2 : w1.cell? ⟨w.heap.size + 2, 2, none⟩ = some (.slice none 0 0) := by rw [cell_of_blk m2]; rfl
  have t3 : w1.cell? ⟨w.heap.size + 2, 3, none⟩ = some (.slice none 0 0) := by rw [cell_of_blk m2]; rfl
  have u0 : w1.frozen? ⟨w.heap.size + 2, 0, none⟩ = false := frozen_of_blk m2
  have u1 : w1.frozen? ⟨w.heap.size + 2, 1, none⟩ = false := frozen_of_blk m2
  have u2 : w1.frozen? ⟨w.heap.size + 2, 2, none⟩ = false := frozen_of_blk m2
  have u3 : w1.frozen? ⟨w.heap.size + 2, 3, none⟩ = false := frozen_of_blk m2
  clear m0 m2
  go_wp2
  refine bodyPost_ret (v := .tuple #[.agg #[.int .i64 cap, .int .u32 most, .slice ao T.length ca, .slice ga G.length gc], .int .i64 33]) (by simp [results, Try.results18, go_sem, t0, t1, t2, t3]) rfl ⟨rfl, ?_⟩
  exact ((((b1.setCell (by simp; omega) _).setCell (by simp; omega) _).setCell (by simp; omega) _).setCell (by simp; omega) _)

end Go.Proofs.Ytoifnljlnpkodaa

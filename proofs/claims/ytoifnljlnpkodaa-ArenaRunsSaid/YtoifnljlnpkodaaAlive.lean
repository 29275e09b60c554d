/-
  The chapter's example of an arena is answered as the chapter says.
-/
import Derived.Test.YtoifnljlnpkodaaArenaSt
namespace Go.Proofs.Ytoifnljlnpkodaa
open Go.RowKit
set_option linter.unusedVariables false

theorem cell_of_blk_old {w : World} {b i : Nat} {o : Obj} (h : b < w.heap.size) : (w.alloc o).cell? ⟨b, i, none⟩ = w.cell? ⟨b, i, none⟩ := World.cell?_of_block (a := ⟨b, i, none⟩) (blk_alloc_old o h)

set_option maxHeartbeats 2000000 in
set_option maxRecDepth 100000 in
theorem alive_calls (w : World) : Calls Try.prog 9 #[] w fun e w' => e = .returned (.bool true) ∧ Below w.heap.size w w' := by
  have es := eqHandle
  have eg := guardHandle
  go_enter Try.func9, Try.ntmps9
  go_wp2_with fail
  refine (ar_new w.heap.size [] 2 w 1 (by omega) (by omega) (by omega) (Nat.le_refl _) (by simp)).mono ?_
  rintro e w1 ⟨p, rfl, h1, k1, hp, _⟩
  go_wp2_with fail
  refine (ar_take _ _ _ _ _ _ _ _ _ h1 k1.1.size 0 [] 1 rfl).mono ?_
  rintro e w2 ⟨rfl, h2, k2⟩
  have h3 : AR w.heap.size p [w2.heap.size] [(1, true)] [] 1 1 2 (w2.alloc (.cells #[.int .i64 0, .int .u32 1] 30)) := AR.push (O := []) (by simpa using h2) _
  have hs2 := (k1.trans k2).1.size
  have g2 : Below w.heap.size w (w2.alloc (.cells #[.int .i64 0, .int .u32 1] 30)) := (k1.trans k2).1.alloc hs2 _
  have e1 : (((List.replicate 1 ((0 : Int), false)).getD 0 (0, false)).1 + 1) = 1 := by decide
  rw [e1]
  go_wp2_with fail
  refine (ar_give _ _ _ _ _ _ _ _ _ h3 g2.size 0 1 (by decide)).mono ?_
  rintro e w3 ⟨rfl, h4, k4⟩
  have h5 : AR w.heap.size p [w2.heap.size] [(1, false)] [0] 1 0 2 w3 := by simpa [waitS] using h4
  have c0 : w3.cell? ⟨w2.heap.size, 0, none⟩ = some (.int .i64 0) := by rw [k4.cell (by simp)]; simp [go_sem]
  have c1 : w3.cell? ⟨w2.heap.size, 1, none⟩ = some (.int .u32 1) := by rw [k4.cell (by simp)]; simp [go_sem]
  have g4 := g2.trans k4.1
  clear h3 h4 h2 h1 k1 k2
  go_wp2_with fail
  refine (ar_take _ _ _ _ _ _ _ _ _ h5 g4.size 0 [] 1 rfl).mono ?_
  rintro e w4 ⟨rfl, h6, k6⟩
  have d0 := (k6.cell (x := w2.heap.size) (i := 0) (by simp)).trans c0
  have d1 := (k6.cell (x := w2.heap.size) (i := 1) (by simp)).trans c1
  have hlt : w2.heap.size < w4.heap.size := by
    obtain ⟨_, _, _, _, _, ho, _⟩ := h6
    exact ho _ (by simp)
  have h7 : AR w.heap.size p [w4.heap.size, w2.heap.size] [(2, true)] [] 1 1 2 (w4.alloc (.cells #[.int .i64 0, .int .u32 2] 30)) := AR.push (O := [w2.heap.size]) (by simpa using h6) _
  have g6 := (g4.trans k6.1).alloc (g4.trans k6.1).size (.cells #[.int .i64 0, .int .u32 2] 30)
  have e2 : (([((1 : Int), false)].getD 0 (0, false)).1 + 1) = 2 := by decide
  rw [e2]
  clear h5 h6 c0 c1
  go_wp2_with fail
  refine (ar_give _ _ _ _ _ _ _ _ _ h7 g6.size 0 2 (by decide)).mono ?_
  rintro e w5 ⟨rfl, h8, k8⟩
  have h9 : AR w.heap.size p [w4.heap.size, w2.heap.size] [(2, false)] [] 1 0 2 w5 := by simpa [waitS] using h8
  have f0 : w5.cell? ⟨w2.heap.size, 0, none⟩ = some (.int .i64 0) := by rw [k8.cell (by simp), cell_of_blk_old hlt]; exact d0
  have f1 : w5.cell? ⟨w2.heap.size, 1, none⟩ = some (.int .u32 1) := by rw [k8.cell (by simp), cell_of_blk_old hlt]; exact d1
  have f2 : w5.cell? ⟨w4.heap.size, 0, none⟩ = some (.int .i64 0) := by rw [k8.cell (by simp)]; simp [go_sem]
  have f3 : w5.cell? ⟨w4.heap.size, 1, none⟩ = some (.int .u32 2) := by rw [k8.cell (by simp)]; simp [go_sem]
  have g8 := g6.trans k8.1
  clear h7 h8 d0 d1
  go_wp2_with fail
  refine (ar_full _ _ _ _ _ _ _ _ _ h9 g8.size rfl).mono ?_
  rintro e w6 ⟨rfl, h10, k10⟩
  have q0 := (k10.cell (x := w2.heap.size) (i := 0) (by simp)).trans f0
  have q1 := (k10.cell (x := w2.heap.size) (i := 1) (by simp)).trans f1
  have q2 := (k10.cell (x := w4.heap.size) (i := 0) (by simp)).trans f2
  have q3 := (k10.cell (x := w4.heap.size) (i := 1) (by simp)).trans f3
  have hl2 : w2.heap.size < w6.heap.size ∧ w4.heap.size < w6.heap.size := by
    obtain ⟨_, _, _, _, _, ho, _⟩ := h10
    exact ⟨ho _ (by simp), ho _ (by simp)⟩
  obtain ⟨l2, l4⟩ := hl2
  have g10 : Below w.heap.size w (w6.alloc (.cells #[.int .i64 0, .int .u32 0] 30)) := (g8.trans k10.1).alloc (g8.trans k10.1).size _
  clear h9 h10 f0 f1 f2 f3 hlt
  go_wp2
  go_ret
  exact ⟨rfl, g10⟩

end Go.Proofs.Ytoifnljlnpkodaa

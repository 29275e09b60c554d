/-
  The walk of the law NamesNew.
-/
import Derived.Test.YtohngmegombfgaaAlive
namespace Go.Proofs.Ytohngmegombfgaa
open Go.RowKit

theorem right_calls (w : World) (most : Int) :
    Calls Try.prog 9 #[.int .i64 most] w fun e w' => e = .returned (.bool (decide (0 ≤ most ∧ most ≤ 65536))) ∧ w = w' := by
  by_cases h1 : 0 ≤ most
  · by_cases h2 : most ≤ 65536
    all_goals
      go_enter Try.func9, Try.ntmps9
      go_wp2
      go_ret
      exact ⟨by simp; try omega, rfl⟩
  · go_enter Try.func9, Try.ntmps9
    go_wp2
    go_ret
    exact ⟨by simp; try omega, rfl⟩

set_option maxHeartbeats 1000000 in
theorem namesNew_calls (w : World) (most : Int) (_hw : (Lit.int .i64 most).wf = true) :
    Calls Try.prog 3 #[.int .i64 most] w fun e w' => e = .returned (.bool true) ∧ Below w.heap.size w w' := by
  by_cases hr : 0 ≤ most ∧ most ≤ 65536
  · go_enter Try.func3, Try.ntmps3
    go_wp2_with fail
    refine (alive_calls w).mono ?_
    rintro e w1 ⟨rfl, h1⟩
    go_wp2_with fail
    refine (st_new_yes w1 most hr.1 hr.2).mono ?_
    rintro e w2 ⟨rfl, h2, h3, _⟩
    go_wp2_with fail
    refine (right_calls w2 most).mono ?_
    rintro e w3 ⟨rfl, rfl⟩
    rw [decide_eq_true hr]
    go_wp2_with fail
    refine (st_last _ _ _ _ _ _ _ h2 (by omega)).mono ?_
    rintro e w3 ⟨rfl, rfl⟩
    go_wp2_with fail
    refine (st_count _ _ _ _ _ _ _ h2).mono ?_
    rintro e w3 ⟨rfl, rfl⟩
    go_wp2_with fail
    refine (st_has _ _ _ _ _ _ _ _ h2).mono ?_
    rintro e w3 ⟨rfl, rfl⟩
    rw [show isRoot 1 (fun i => i) 0 = false from by decide]
    go_wp2_with fail
    refine (st_has _ _ _ _ _ _ _ _ h2).mono ?_
    rintro e w3 ⟨rfl, rfl⟩
    rw [show isRoot 1 (fun i => i) 1 = false from by decide]
    go_wp2
    go_ret
    exact ⟨rfl, (h1.trans h3 (by simp)).below (Nat.le_refl _) (by simp)⟩
  · have hr' : most < 0 ∨ 65536 < most := by omega
    have H := Lib.hid hr
    clear hr
    go_enter Try.func3, Try.ntmps3
    go_wp2_with fail
    refine (alive_calls w).mono ?_
    rintro e w1 ⟨rfl, h1⟩
    go_wp2_with fail
    refine (new_no w1 most hr').mono ?_
    rintro e w2 ⟨rfl, rfl⟩
    go_wp2_with fail
    refine (right_calls w1 most).mono ?_
    rintro e w3 ⟨rfl, rfl⟩
    rw [decide_eq_false H.out]
    go_wp2
    go_ret
    exact ⟨rfl, h1.below (Nat.le_refl _) (by simp)⟩

end Go.Proofs.Ytohngmegombfgaa

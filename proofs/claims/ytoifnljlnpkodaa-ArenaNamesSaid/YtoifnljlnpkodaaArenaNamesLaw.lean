/-
  The walk of the law ArenaNames.
-/
import Derived.Test.YtoifnljlnpkodaaAlive
namespace Go.Proofs.Ytoifnljlnpkodaa
open Go.RowKit
set_option linter.unusedVariables false

set_option maxHeartbeats 2000000 in
theorem arenaNames_calls (w : World) : Calls Try.prog 3 #[] w fun e w' => e = .returned (.bool true) ∧ Below w.heap.size w w' := by
  go_enter Try.func3, Try.ntmps3
  go_wp2_with fail
  refine (new_no w (-1) 1 (by omega)).mono ?_
  rintro e w1 ⟨rfl, rfl⟩
  go_wp2_with fail
  refine (new_no w 1 0 (by omega)).mono ?_
  rintro e w1 ⟨rfl, rfl⟩
  go_wp2_with fail
  refine (new_no w 65537 1 (by omega)).mono ?_
  rintro e w1 ⟨rfl, rfl⟩
  go_wp2_with fail
  refine (ar_new w.heap.size [] 1 w 0 (by omega) (by omega) (by omega) (Nat.le_refl _) (by simp)).mono ?_
  rintro e w1 ⟨p, rfl, h1, k1, hp, _⟩
  go_wp2_with fail
  refine (alive_calls w1).mono ?_
  rintro e w2 ⟨rfl, b2⟩
  obtain ⟨h2, k2⟩ := h1.below b2 k1.1.size
  clear h1
  go_wp2_with fail
  refine (ar_stale _ _ _ _ _ _ _ _ _ h2 (k1.trans k2).1.size 0 0 (by decide)).mono ?_
  rintro e w3 ⟨rfl, h3, k3⟩
  go_wp2
  go_ret
  exact ⟨rfl, ((k1.trans k2).trans k3).1⟩

end Go.Proofs.Ytoifnljlnpkodaa

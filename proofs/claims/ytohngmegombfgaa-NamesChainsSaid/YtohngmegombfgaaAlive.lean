/-
  The chapter's example of names is answered as the chapter says.
-/
import Derived.Test.YtohngmegombfgaaStates
namespace Go.Proofs.Ytohngmegombfgaa
open Go.RowKit

def Grew (w w' : World) : Prop := Keeps [] w w'

set_option maxHeartbeats 1000000 in
theorem alive_calls (w : World) : Calls Try.prog 7 #[] w fun e w' => e = .returned (.bool true) ∧ Grew w w' := by
  go_enter Try.func7, Try.ntmps7
  go_wp2_with fail
  refine (st_new_yes _ 3 (by omega) (by omega)).mono ?_
  rintro e w1 ⟨rfl, hn⟩
  go_wp2_with fail
  go_loopw [3, 4, 5] (fun s _ _ wr => ∃ k g : Nat, k ≤ 3 ∧ s = .int .i64 ((k : Int) + 1) ∧ w.heap.size ≤ g ∧ St wr (w.heap.size + 1) g (k + 1) (fun i => i) 3 k ∧ Keeps [] w wr) (fun s _ _ _ => 4 - (intOf s).toNat)
  case atStart => exact ⟨0, w.heap.size, by omega, rfl, Nat.le_refl _, hn.1, hn.2.1⟩
  case round =>
    obtain ⟨k, g, hk, rfl, hg, hst, hkeep⟩ := hrel
    by_cases hlt : k < 3
    · go_wp2_with fail
      refine (st_make_yes _ _ _ _ _ _ _ hst (by omega) (by omega) (by omega) (by omega)).mono ?_
      rintro e w2 ⟨rfl, haft⟩
      go_wp2_with fail
      obtain ⟨g', h1, h2, h3⟩ := haft
      go_roundw
      case rel =>
        refine ⟨k + 1, g', by omega, by go_num, ?_, by simpa using h1, hkeep.trans h2 ?_⟩
        · have := hkeep.size; omega
        · intro x hx
          simp at hx
          omega
      case measure => simp [intOf]; omega
    · obtain rfl : k = 3 := by omega
      go_wp2_with fail
      refine (st_join_yes _ _ _ _ _ _ _ 2 3 hst (by decide) (by omega) (by omega)).mono ?_
      rintro e w2 ⟨rfl, g2, hs2, hk2, hg2⟩
      go_wp2_with fail
      refine (st_join_yes _ _ _ _ _ _ _ 1 2 hs2 (by decide) (by omega) (by omega)).mono ?_
      rintro e w3 ⟨rfl, g3, hs3, hk3, hg3⟩
      go_wp2_with fail
      refine (st_root _ _ _ _ _ _ _ 3 hs3).mono ?_
      rintro e w4 ⟨rfl, g4, hs4, hk4, hg4⟩
      have hsz := hkeep.size
      have hs2' := hk2.size
      have hs3' := hk3.size
      have hfin : Grew w w4 := by
        refine ((hkeep.trans hk2 ?_).trans hk3 ?_).trans hk4 ?_
        all_goals
          intro x hx
          simp at hx
          omega
      have e1 : rootOf 4 (joinR (joinR (fun i => i) (Int.toNat 2) (Int.toNat 3)) (Int.toNat 1) (Int.toNat 2)) 3 = (1, true) := by decide
      have E1 := Lib.hid e1
      clear e1
      rw [E1.out]
      go_wp2_with fail
      refine (st_has _ _ _ _ _ _ _ 1 hs4).mono ?_
      rintro e w5 ⟨rfl, rfl⟩
      rw [show isRoot 4 (joinR (joinR (fun i => i) (Int.toNat 2) (Int.toNat 3)) (Int.toNat 1) (Int.toNat 2)) 1 = true from by decide]
      go_wp2_with fail
      refine (st_has _ _ _ _ _ _ _ 2 hs4).mono ?_
      rintro e w5 ⟨rfl, rfl⟩
      rw [show isRoot 4 (joinR (joinR (fun i => i) (Int.toNat 2) (Int.toNat 3)) (Int.toNat 1) (Int.toNat 2)) 2 = false from by decide]
      go_wp2_with fail
      refine (st_has _ _ _ _ _ _ _ 3 hs4).mono ?_
      rintro e w5 ⟨rfl, rfl⟩
      rw [show isRoot 4 (joinR (joinR (fun i => i) (Int.toNat 2) (Int.toNat 3)) (Int.toNat 1) (Int.toNat 2)) 3 = false from by decide]
      go_wp2_with fail
      refine (st_count _ _ _ _ _ _ _ hs4).mono ?_
      rintro e w5 ⟨rfl, rfl⟩
      go_wp2
      go_ret
      exact ⟨rfl, hfin⟩

end Go.Proofs.Ytohngmegombfgaa

/-
  The walk of the law RingNew.
-/
import Derived.Test.YtnpglgkpdikcjaaRingSt
import Derived.Test.YtnpglgkpdikcjaaRingPlain2
namespace Go.Proofs.Ytnpglgkpdikcjaa
open Go.RowKit
set_option linter.unusedVariables false

set_option maxHeartbeats 2000000 in
theorem ringNew_calls (w : World) (n : Int) (hn : (Lit.int .i64 n).wf = true) (x : Int) (hx : (Lit.int .i64 x).wf = true) :
    Calls Try.prog 5 #[.int .i64 n, .int .i64 x] w fun e w' => e = .returned (.bool true) ∧ Below w.heap.size w w' := by
  clear hn hx
  by_cases h : n < 0 ∨ 65536 < n
  · have hnn : decide (n < 0) = true ∨ decide (n < 0) = false ∧ decide (65536 < n) = true := by
      rcases h with h | h
      · exact .inl (decide_eq_true h)
      · by_cases h0 : n < 0
        · exact .inl (decide_eq_true h0)
        · exact .inr ⟨decide_eq_false h0, decide_eq_true h⟩
    rcases hnn with hb | ⟨hb1, hb2⟩
    all_goals
      go_enter Try.func5, Try.ntmps5
      go_wp2_with fail
      refine (alive_calls _).mono ?_
      rintro e w1 ⟨rfl, b1⟩
      go_wp2_with fail
      refine (new_no w1 n h).mono ?_
      rintro e w2 ⟨rfl, rfl⟩
      go_wp2
      go_ret
      exact ⟨rfl, b1⟩
  · obtain ⟨m, rfl⟩ := Int.eq_ofNat_of_zero_le (show 0 ≤ n by omega)
    have hm : m ≤ 65536 := by omega
    have hb1 : decide ((m : Int) < 0) = false := by rw [decide_eq_false_iff_not]; omega
    have hb2 : decide ((65536 : Int) < (m : Int)) = false := by rw [decide_eq_false_iff_not]; omega
    clear h
    by_cases hx : x < 0 ∨ (m : Int) ≤ x
    · have hno : decide (0 ≤ x) = false ∨ decide (0 ≤ x) = true ∧ decide (x < (m : Int)) = false := by
        by_cases h0 : 0 ≤ x
        · exact .inr ⟨decide_eq_true h0, by rw [decide_eq_false_iff_not]; omega⟩
        · exact .inl (decide_eq_false h0)
      rcases hno with hc1 | ⟨hc1, hc2⟩
      all_goals
        go_enter Try.func5, Try.ntmps5
        go_wp2_with fail
        refine (alive_calls _).mono ?_
        rintro e w1 ⟨rfl, b1⟩
        go_wp2_with fail
        refine (st_new w.heap.size w1 m hm b1.size).mono ?_
        rintro e w2 ⟨p, gn, gp, rfl, h2, b2⟩
        have b3 := b1.trans (b2.mono b1.size)
        have ha : allZ (alone m) x = [] := h2.st.out hx
        have HA := Lib.hid ha
        clear b1 b2 ha
        go_wp2_with fail
        refine (st_next_no _ _ _ _ _ _ _ _ _ _ h2 x hx).mono ?_
        rintro e w' ⟨rfl, rfl⟩
        go_wp2_with fail
        refine (st_prev_no _ _ _ _ _ _ _ _ _ _ h2 x hx).mono ?_
        rintro e w' ⟨rfl, rfl⟩
        go_wp2_with fail
        refine (st_same _ _ _ _ _ _ _ _ _ _ h2 x x).mono ?_
        rintro e w3 ⟨rfl, b4⟩
        rw [HA.out]
        have h3 := h2.below b4
        have b5 := b3.trans (b4.mono b3.size)
        clear h2 b3 b4
        go_wp2_with fail
        refine (st_all _ _ _ _ _ _ _ _ _ _ h3 x).mono ?_
        rintro e w4 ⟨v, rfl, hv, b6⟩
        rw [HA.out] at hv
        obtain ⟨av, cv, rfl⟩ := hv.form
        have b7 := b5.trans (b6.mono b5.size)
        clear h3 b5 b6 hv
        go_wp2
        go_ret
        exact ⟨rfl, b7⟩
    · obtain ⟨i, rfl⟩ := Int.eq_ofNat_of_zero_le (show 0 ≤ x by omega)
      have hi : i < m := by omega
      have hc1 : decide ((0 : Int) ≤ (i : Int)) = true := by rw [decide_eq_true_iff]; omega
      have hc2 : decide (i < m) = true := by rw [decide_eq_true_iff]; omega
      clear hx
      go_enter Try.func5, Try.ntmps5
      go_wp2_with fail
      refine (alive_calls _).mono ?_
      rintro e w1 ⟨rfl, b1⟩
      go_wp2_with fail
      refine (st_new w.heap.size w1 m hm b1.size).mono ?_
      rintro e w2 ⟨p, gn, gp, rfl, h2, b2⟩
      have b3 := b1.trans (b2.mono b1.size)
      have ha : allZ (alone m) i = [i] := alone_all m i hi
      have hf : fn (List.range m) i = i := by simp [fn, List.getD, hi]
      have HA := Lib.hid ha
      have HF := Lib.hid hf
      clear b1 b2 ha hf
      go_wp2_with fail
      refine (st_next_yes _ _ _ _ _ _ _ _ _ _ h2 i hi).mono ?_
      rintro e w' ⟨rfl, rfl⟩
      rw [HF.out]
      go_wp2_with fail
      refine (st_prev_yes _ _ _ _ _ _ _ _ _ _ h2 i hi).mono ?_
      rintro e w' ⟨rfl, rfl⟩
      rw [HF.out]
      have hii : ((i : Int) == (i : Int)) = true := by simp
      go_wp2_with fail
      refine (st_same _ _ _ _ _ _ _ _ _ _ h2 i i).mono ?_
      rintro e w3 ⟨rfl, b4⟩
      have hs : (allZ (alone m) i).any (isI i) = true := by rw [HA.out]; simp [isI]
      rw [hs]
      have h3 := h2.below b4
      have b5 := b3.trans (b4.mono b3.size)
      clear h2 b3 b4 hs
      go_wp2_with fail
      refine (st_all _ _ _ _ _ _ _ _ _ _ h3 i).mono ?_
      rintro e w4 ⟨v, rfl, hv, b6⟩
      rw [HA.out] at hv
      obtain ⟨av, cv, rfl⟩ := hv.form
      have b7 := b5.trans (b6.mono b5.size)
      clear h3 b5 b6 hv
      go_wp2
      go_ret
      exact ⟨rfl, b7⟩

end Go.Proofs.Ytnpglgkpdikcjaa

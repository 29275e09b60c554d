/-
  The walk of the law RingRuns.
-/
import Derived.Test.YtnpglgkpdikcjaaRingRunsLaw
namespace Go.Proofs.Ytnpglgkpdikcjaa
open Go.RowKit
set_option linter.unusedVariables false

theorem any_take {L : List Nat} {k : Nat} {q : Nat → Bool} (hk : k < L.length) : (L.take (k + 1)).any q = ((L.take k).any q || q (fn L k)) := by
  rw [List.take_succ_eq_append_getElem hk, List.any_append]
  simp [fn, List.getD, hk]

theorem runs_long (w : World) (b : Int) (hb : (Lit.int .u8 b).wf = true) (ad : Option Addr) (len cap : Nat) (h60 : 60 < len) :
    Calls Try.prog 6 #[.int .u8 b, .slice ad len cap] w fun e w' => e = .returned (.bool true) ∧ Below w.heap.size w w' := by
  obtain ⟨n, hn, hn24⟩ := rem_u8 hb 24 (by omega)
  have HN := Lib.hid hn
  clear hn hb
  have hb60 : decide ((60 : Int) < (len : Int)) = true := by rw [decide_eq_true_iff]; omega
  go_enter Try.func6, Try.ntmps6
  go_wp2_with fail
  refine (alive_calls _).mono ?_
  rintro e w1 ⟨rfl, b2⟩
  go_wp2_with fail
  rw [HN.out]
  refine (st_new w.heap.size w1 n (by omega) b2.size).mono ?_
  rintro e w2 ⟨p, gn, gp, rfl, h2, b3⟩
  have b4 := b2.trans (b3.mono b2.size)
  go_wp2
  go_ret
  exact ⟨rfl, b4⟩

set_option maxHeartbeats 4000000 in
set_option maxRecDepth 100000 in
theorem runs_short (w : World) (b : Int) (hb : (Lit.int .u8 b).wf = true) (ad : Option Addr) (len cap : Nat) (C : Nat → List Value) (h60 : len ≤ 60)
    (hE : ∀ i, i < len → ActCells (C i)) (hr : IsRows w 3 ad len C) :
    Calls Try.prog 6 #[.int .u8 b, .slice ad len cap] w fun e w' => e = .returned (.bool true) ∧ Below w.heap.size w w' := by
  obtain ⟨n, hn, hn24⟩ := rem_u8 hb 24 (by omega)
  have HN := Lib.hid hn
  clear hn hb
  have hb60 : decide ((60 : Int) < (len : Int)) = false := by rw [decide_eq_false_iff_not]; omega
  go_enter Try.func6, Try.ntmps6
  go_wp2_with fail
  refine (alive_calls _).mono ?_
  rintro e w1 ⟨rfl, b2⟩
  go_wp2_with fail
  rw [HN.out]
  refine (st_new w.heap.size w1 n (by omega) b2.size).mono ?_
  rintro e w2 ⟨p, gn, gp, rfl, h2, b3⟩
  have b4 := b2.trans (b3.mono b2.size)
  clear b2 b3
  go_wp2_with fail
  refine (play_calls w w2 w2.heap.size p gn gp n (by omega) _ _ h2 b4 (Nat.le_refl _) ad len cap C h60 hE hr).mono ?_
  rintro e w3 ⟨v, rfl, N, P, W, hrs, hwr, hbel, hC⟩
  clear h2 b4 hE hr
  obtain ⟨z1, z2⟩ := WR.sizes hrs.st (by omega)
  have Z2 := Lib.hid z2
  clear z2
  go_wp2_with fail
  generalize w2.heap.size = Cb at *
  go_loopg [10] (n + 1) (fun m s wr => ∃ x, x ≤ n ∧ m + x = n + 1 ∧ s = .int .i64 x ∧ RS w.heap.size Cb p gn gp n N P W wr ∧ WR Cb wr v W ∧ Below w.heap.size w wr)
  case atStart => exact ⟨0, by omega, by omega, rfl, hrs, hwr, hbel⟩
  case round =>
    clear hrs hwr hbel hC
    obtain ⟨x, hx, hgx, rfl, hrs, hwr, hbel⟩ := hrel
    have HGX := Lib.hid hgx
    clear hgx
    by_cases hxn : x < n
    · have al := all_len hrs.st (x : Int)
      go_wp2_with fail
      refine (r15_all wr Cb v W hwr z1 Z2.out x).mono ?_
      rintro e w4 ⟨vl, rfl, hvl, b2⟩
      have hrs2 := hrs.below b2
      have hwr2 := hwr.below b2
      have hbel2 := hbel.trans (b2.mono hbel.size)
      clear hrs hwr hbel b2
      go_wp2_with fail
      refine (st_all _ _ _ _ _ _ _ _ _ _ hrs2 x).mono ?_
      rintro e w5 ⟨vm, rfl, hvm, b3⟩
      have hrs3 := hrs2.below b3
      have hwr3 := hwr2.below b3
      have hvl3 := hvl.below b3
      have hbel3 := hbel2.trans (b3.mono hbel2.size)
      clear hrs2 hwr2 hbel2 b3 hvl
      go_wp2_with fail
      refine (same_calls _ _ _ _ _ _ _ hvm hvl3 (by omega) (by omega)).mono ?_
      rintro e w6 ⟨rfl, b4⟩
      rw [show decide (allZ W (x : Int) = allZ W (x : Int)) = true by simp]
      have hrs4 := hrs3.below b4
      have hwr4 := hwr3.below b4
      have hvl4 := (hvl3.below b4).lo (Nat.zero_le _)
      have hbel4 := hbel3.trans (b4.mono hbel3.size)
      clear hrs3 hwr3 hbel3 b4 hvl3 hvm
      obtain ⟨av, cv, rfl⟩ := hvl4.form
      obtain ⟨L, hL⟩ : ∃ L, L = allZ W (x : Int) := ⟨_, rfl⟩
      rw [← hL] at hvl4 al ⊢
      have HL := Lib.hid hL
      clear hL
      go_wp2_with fail
      obtain ⟨wo, rfl⟩ : ∃ wo : World, wo = w6 := ⟨_, rfl⟩
      go_loopg [12] (n + 1) (fun m s wr => ∃ y, y ≤ n ∧ m + y = n + 1 ∧ s = .int .i64 y ∧ RS w.heap.size Cb p gn gp n N P W wr ∧ WR Cb wr v W ∧ IR 0 wr (.slice av L.length cv) L ∧ Below w.heap.size w wr)
      case atStart => exact ⟨0, by omega, by omega, rfl, hrs4, hwr4, hvl4, hbel4⟩
      case round =>
        clear hrs4 hwr4 hvl4 hbel4
        obtain ⟨y, hy, hgy, rfl, hrs, hwr, hvl, hbel⟩ := hrel
        have HGY := Lib.hid hgy
        clear hgy
        by_cases hyn : y < n
        · go_wp2_with fail
          obtain ⟨wo, rfl⟩ : ∃ wo : World, wo = wr := ⟨_, rfl⟩
          go_loopg [13, 70] (L.length + 1) (fun m q s wr => ∃ j, j ≤ L.length ∧ m + j = L.length + 1 ∧ s = .int .i64 j ∧ q = .bool ((L.take j).any (isI y)) ∧ wr = wo)
          case atStart => exact ⟨0, by omega, by omega, rfl, rfl, rfl⟩
          case round =>
            obtain ⟨j, hj, hgj, rfl, rfl, rfl⟩ := hrel
            have HGJ := Lib.hid hgj
            clear hgj
            by_cases hjL : j < L.length
            · obtain ⟨g, rfl, glt, _, c0⟩ := hvl.at j hjL
              have hat := any_take (q := isI y) hjL
              have HAT := Lib.hid hat
              clear hat
              generalize fn L j = z at *
              cases hq : (L.take j).any (isI y) with
              | true =>
                have HQ := Lib.hid hq
                clear hq
                go_wp2_with fail
                go_roundg (gk - 1)
                case measure => have := HGJ.out; omega
                case rel => exact ⟨j + 1, by omega, by have := HGJ.out; omega, by go_num, by rw [HAT.out, HQ.out]; rfl, rfl⟩
              | false =>
                have HQ := Lib.hid hq
                clear hq
                go_wp2_with fail
                go_roundg (gk - 1)
                case measure => have := HGJ.out; omega
                case rel => exact ⟨j + 1, by omega, by have := HGJ.out; omega, by go_num, by rw [HAT.out, HQ.out]; simp [isI], rfl⟩
            · obtain rfl : j = L.length := by omega
              rw [List.take_length]
              go_wp2_with fail
              refine (st_same _ _ _ _ _ _ _ _ _ _ hrs x y).mono ?_
              rintro e w7 ⟨rfl, b7⟩
              rw [← HL.out]
              have hss : (L.any (isI y) != L.any (isI y)) = false := by simp
              have hrs7 := hrs.below b7
              have hwr7 := hwr.below b7
              have hvl7 := hvl.below b7
              have hbel7 := hbel.trans (b7.mono hbel.size)
              clear hrs hwr hvl hbel b7
              go_wp2_with fail
              go_roundg (n - y)
              case measure => have := HGY.out; omega
              case rel => exact ⟨y + 1, by omega, by omega, by go_num, hrs7, hwr7, hvl7, hbel7⟩
        · clear hvl
          go_wp2_with fail
          go_roundg (n - x)
          case measure => have := HGX.out; omega
          case rel => exact ⟨x + 1, by omega, by omega, by go_num, hrs, hwr, hbel⟩
    · clear hrs hwr
      go_wp2
      go_ret
      exact ⟨rfl, hbel⟩

theorem ringRuns_calls (w : World) (b : Int) (hb : (Lit.int .u8 b).wf = true) (ad : Option Addr) (len cap : Nat) (C : Nat → List Value) (_hl : len ≤ cap) (_hm : cap ≤ maxLen)
    (hE : ∀ i, i < len → ActCells (C i)) (hr : IsRows w 3 ad len C) :
    Calls Try.prog 6 #[.int .u8 b, .slice ad len cap] w fun e w' => e = .returned (.bool true) ∧ Below w.heap.size w w' := by
  by_cases h60 : 60 < len
  · exact runs_long w b hb ad len cap h60
  · exact runs_short w b hb ad len cap C (by omega) hE hr

end Go.Proofs.Ytnpglgkpdikcjaa

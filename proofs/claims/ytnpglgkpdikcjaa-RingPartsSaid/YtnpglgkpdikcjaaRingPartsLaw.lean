/-
  The walk of the law RingParts.
-/
import Derived.Test.YtnpglgkpdikcjaaRingSt
import Derived.Test.YtnpglgkpdikcjaaRingPlain2
import Derived.Test.YtnpglgkpdikcjaaRem
import Derived.Test.YtnpglgkpdikcjaaOpen
import Derived.Deep.DeepCutAuto
import Derived.Deep.CutBlock
namespace Go.Proofs.Ytnpglgkpdikcjaa
open Go.RowKit
set_option linter.unusedVariables false

theorem nodup_fn {L : List Nat} (h : L.Nodup) {i j : Nat} (hi : i < L.length) (hj : j < L.length) (e : i ≠ j) : fn L i ≠ fn L j := by
  simp only [fn, List.getD, hi, hj, List.getElem?_eq_getElem, Option.getD_some]
  have h2 := List.pairwise_iff_getElem.1 h
  rcases Nat.lt_or_gt_of_ne e with h1 | h1
  · exact h2 i j hi hj h1
  · exact fun h3 => h2 j i hj hi h1 h3.symm

theorem fn_mem {L : List Nat} {i : Nat} (hi : i < L.length) : fn L i ∈ L := by simp [fn, List.getD, hi]

/-- What holds at a loop's head: rings, some. -/
def SomeR (w : World) (C p gn gp n : Nat) (wr : World) : Prop := ∃ N P W, RS w.heap.size C p gn gp n N P W wr ∧ Below w.heap.size w wr ∧ C ≤ wr.heap.size

theorem SomeR.keep {w wr w1 : World} {C p gn gp n : Nat} {N P : List Nat} {W : List (List Nat)} (h : RS w.heap.size C p gn gp n N P W wr) (hb : Below w.heap.size w wr) (hC : C ≤ wr.heap.size) {N' P' : List Nat} {W' : List (List Nat)} (h' : RS w.heap.size C p gn gp n N' P' W' w1) (k : Keeps [gn, gp] wr w1) : SomeR w C p gn gp n w1 :=
  ⟨N', P', W', h', hb.trans (h.keepB k hb.size), Nat.le_trans hC k.size⟩

theorem parts_long (w : World) (b : Int) (hb : (Lit.int .u8 b).wf = true) (ad : Option Addr) (len cap : Nat) (h60 : 60 < len) :
    Calls Try.prog 4 #[.int .u8 b, .slice ad len cap] w fun e w' => e = .returned (.bool true) ∧ Below w.heap.size w w' := by
  obtain ⟨n, hn, hn24⟩ := rem_u8 hb 24 (by omega)
  have HN := Lib.hid hn
  clear hn hb
  have hb60 : decide ((60 : Int) < (len : Int)) = true := by rw [decide_eq_true_iff]; omega
  go_enter Try.func4, Try.ntmps4
  go_wp2_with fail
  refine (alive_calls _).mono ?_
  rintro e w1 ⟨rfl, b2⟩
  go_wp2_with fail
  rw [HN.out]
  refine (st_new w.heap.size w1 n (by omega) b2.size).mono ?_
  rintro e w2 ⟨p, gn, gp, rfl, h2, b3⟩
  have b4 := b2.trans (b3.mono b2.size)
  go_wp2
  go_ret
  exact ⟨rfl, b4⟩

set_option maxHeartbeats 4000000 in
set_option maxRecDepth 100000 in
theorem parts_short (w : World) (b : Int) (hb : (Lit.int .u8 b).wf = true) (ad : Option Addr) (len cap : Nat) (C : Nat → List Value) (h60 : len ≤ 60)
    (hE : ∀ i, i < len → ActCells (C i)) (hr : IsRows w 3 ad len C) :
    Calls Try.prog 4 #[.int .u8 b, .slice ad len cap] w fun e w' => e = .returned (.bool true) ∧ Below w.heap.size w w' := by
  obtain ⟨n, hn, hn24⟩ := rem_u8 hb 24 (by omega)
  have HN := Lib.hid hn
  clear hn hb
  have hb60 : decide ((60 : Int) < (len : Int)) = false := by rw [decide_eq_false_iff_not]; omega
  go_enter Try.func4, Try.ntmps4
  go_wp2_with fail
  refine (alive_calls _).mono ?_
  rintro e w1 ⟨rfl, b2⟩
  go_wp2_with fail
  rw [HN.out]
  refine (st_new w.heap.size w1 n (by omega) b2.size).mono ?_
  rintro e w2 ⟨p, gn, gp, rfl, h2, b3⟩
  have hinit : SomeR w w2.heap.size p gn gp n w2 := ⟨_, _, _, h2, b2.trans (b3.mono b2.size), Nat.le_refl _⟩
  clear b2 b3 h2
  go_wp2_with fail
  generalize w2.heap.size = Cb at *
  go_loopg [46] 61 (fun m s wr => ∃ k, k ≤ len ∧ m + k = 61 ∧ s = .int .i64 k ∧ SomeR w Cb p gn gp n wr)
  case atStart => exact ⟨0, by omega, rfl, rfl, hinit⟩
  case round =>
    clear hinit
    obtain ⟨k, hk, hgk, rfl, N, P, W, hrs, hbel, hC⟩ := hrel
    by_cases hlt : k < len
    · obtain ⟨a, i, j, hCk, _, _, _⟩ := hE k hlt
      obtain ⟨ab, off, rfl, hbw, hcells⟩ : ∃ b off, ad = some ⟨b, off, none⟩ ∧ b < w.heap.size ∧ ∀ j, j < 3 → w.cell? ⟨b, off + (k * 3 + j), none⟩ = (C k)[j]? := by
        rcases hr with h0 | ⟨b, off, e, hb, hcs⟩
        · omega
        · exact ⟨b, off, e, hb, fun j hj => hcs k hlt j hj⟩
      have c0 := hcells 0 (by omega)
      have c1 := hcells 1 (by omega)
      have c2 := hcells 2 (by omega)
      rw [hCk] at c0 c1 c2
      have e0 : wr.cell? ⟨ab, off + k * 3, none⟩ = some (.int .i64 a) := (hbel.cell (p := ⟨ab, off + k * 3, none⟩) hbw).trans c0
      have e1 : wr.cell? ⟨ab, off + k * 3 + 1, none⟩ = some (.int .i64 i) := (hbel.cell (p := ⟨ab, off + k * 3 + 1, none⟩) hbw).trans c1
      have e2 : wr.cell? ⟨ab, off + k * 3 + 2, none⟩ = some (.int .i64 j) := (hbel.cell (p := ⟨ab, off + k * 3 + 2, none⟩) hbw).trans c2
      have HG := Lib.hid hgk
      clear c0 c1 c2 hcells hCk hE hr hgk
      have hrs1 := hrs.below ((Below.refl _ wr).alloc (Nat.le_refl _) (.cells #[.int .i64 a, .int .i64 i, .int .i64 j] 30))
      have hbel1 := hbel.alloc hbel.size (.cells #[.int .i64 a, .int .i64 i, .int .i64 j] 30)
      have hC1 : Cb ≤ (wr.alloc (.cells #[.int .i64 a, .int .i64 i, .int .i64 j] 30)).heap.size := by simp; omega
      have hnew := blk_alloc_new (w := wr) (.cells #[.int .i64 a, .int .i64 i, .int .i64 j] 30)
      have hw2 : wr.heap.size ≠ gn ∧ wr.heap.size ≠ gp := by have := hrs.ra.lt; omega
      clear hrs hbel
      cases ha : (a == 1) with
      | true =>
        by_cases hi : i < 0 ∨ (n : Int) ≤ i
        · have hp : (partZ W i).2 = false := by rw [hrs1.st.part_no hi]
          have HP := Lib.hid hp
          clear hp
          go_wp2_with fail
          refine (st_part _ _ _ _ _ _ _ _ _ _ hrs1 i).mono ?_
          rintro e wb ⟨rfl, ⟨N2, P2, h3⟩, k3⟩
          rw [HP.out]
          have hfin := SomeR.keep hrs1 hbel1 hC1 h3 k3
          clear hrs1 hbel1 hC1 h3 k3 hnew hw2
          go_wp2_with fail
          go_roundg (gk - 1)
          case measure => have := HG.out; omega
          case rel => exact ⟨k + 1, by omega, by have := HG.out; omega, by go_num, hfin⟩
        · obtain ⟨i, rfl⟩ := Int.eq_ofNat_of_zero_le (show 0 ≤ i by omega)
          have hp := (hrs1.st.part (x := i) (by omega)).1
          have hal := hrs1.st.part_alone (x := i) (by omega)
          have HP := Lib.hid hp
          have HA := Lib.hid hal
          clear hp hal hi
          go_wp2_with fail
          refine (st_part _ _ _ _ _ _ _ _ _ _ hrs1 i).mono ?_
          rintro e wb ⟨rfl, ⟨N2, P2, h3⟩, k3⟩
          rw [HP.out]
          have hb3 := hbel1.trans (hrs1.keepB k3 hbel1.size)
          have hC3 := Nat.le_trans hC1 k3.size
          have hnew2 := k3.blk hnew (by simp; omega)
          have q1 : wb.cell? ⟨wr.heap.size, 1, none⟩ = some (.int .i64 i) := by rw [cell_of_blk hnew2]; rfl
          clear hrs1 hbel1 hC1 k3 hnew hw2 hnew2
          go_wp2_with fail
          refine (st_all _ _ _ _ _ _ _ _ _ _ h3 i).mono ?_
          rintro e wc ⟨v, rfl, hv, hb4⟩
          rw [HA.out] at hv
          obtain ⟨av, cv, rfl⟩ := hv.form
          have h4 := h3.below hb4
          have hfin : SomeR w Cb p gn gp n wc := ⟨_, _, _, h4, hb3.trans (hb4.mono hb3.size), Nat.le_trans hC3 hb4.size⟩
          clear h3 hb3 hb4 h4 hC3 q1 hv
          go_wp2_with fail
          go_roundg (gk - 1)
          case measure => have := HG.out; omega
          case rel => exact ⟨k + 1, by omega, by have := HG.out; omega, by go_num, hfin⟩
      | false =>
        go_wp2_with fail
        refine (st_splice _ _ _ _ _ _ _ _ _ _ hrs1 i j).mono ?_
        rintro e wb ⟨rfl, ⟨N2, P2, h3⟩, k3⟩
        have hfin := SomeR.keep hrs1 hbel1 hC1 h3 k3
        clear hrs1 hbel1 hC1 h3 k3 hnew hw2
        go_wp2_with fail
        go_roundg (gk - 1)
        case measure => have := HG.out; omega
        case rel => exact ⟨k + 1, by omega, by have := HG.out; omega, by go_num, hfin⟩
    · obtain rfl : k = len := by omega
      clear hE hr hgk hlt
      go_wp2_with fail
      obtain ⟨wo, rfl⟩ : ∃ wo : World, wo = wr := ⟨_, rfl⟩
      go_loopg [10] (n + 1) (fun m s wr => ∃ x, x ≤ n ∧ m + x = n + 1 ∧ s = .int .i64 x ∧ RS w.heap.size Cb p gn gp n N P W wr ∧ Below w.heap.size w wr)
      case atStart => exact ⟨0, by omega, by omega, rfl, hrs, hbel⟩
      case round =>
        clear hrs hbel hC
        obtain ⟨x, hx, hgx, rfl, hrs, hbel⟩ := hrel
        have HGX := Lib.hid hgx
        clear hgx
        by_cases hxn : x < n
        · obtain ⟨i1, i2, i3, i4⟩ := hrs.st.inv x hxn
          obtain ⟨m1, m2, m3⟩ := hrs.st.mem_all hxn
          have m4 := all_len hrs.st (x : Int)
          have HI3 := Lib.hid i3
          have M1 := Lib.hid m1
          have M3 := Lib.hid m3
          clear i3 i4 m1 m3
          have hxx : ((x : Int) != (x : Int)) = false := by simp
          go_wp2_with fail
          refine (st_next_yes _ _ _ _ _ _ _ _ _ _ hrs x hxn).mono ?_
          rintro e w' ⟨rfl, rfl⟩
          go_wp2_with fail
          refine (st_prev_yes _ _ _ _ _ _ _ _ _ _ hrs (fn N x) i1).mono ?_
          rintro e w' ⟨rfl, rfl⟩
          rw [HI3.out]
          go_wp2_with fail
          refine (st_all _ _ _ _ _ _ _ _ _ _ hrs x).mono ?_
          rintro e w3 ⟨v, rfl, hv, b3⟩
          have hr3 := hrs.below b3
          have hb3 := hbel.trans (b3.mono hbel.size)
          obtain ⟨av, cv, rfl⟩ := hv.form
          have hv := hv.lo hbel.size
          clear hrs hbel b3
          have hL1 : ¬ (allZ W (x : Int)).length < 1 := by omega
          have hL2 : ¬ n < (allZ W (x : Int)).length := by omega
          have hL3 : decide ((allZ W (x : Int)).length < 1) = false := by rw [decide_eq_false_iff_not]; omega
          have hL4 : decide (n < (allZ W (x : Int)).length) = false := by rw [decide_eq_false_iff_not]; omega
          generalize allZ W (x : Int) = L at *
          have hL5 : decide (((L.length : Nat) : Int) < 1) = false := by rw [decide_eq_false_iff_not]; omega
          go_wp2_with fail
          obtain ⟨wo, rfl⟩ : ∃ wo : World, wo = w3 := ⟨_, rfl⟩
          go_loopg [116] (L.length + 1) (fun m s wr => ∃ i, i ≤ L.length ∧ m + i = L.length + 1 ∧ s = .int .i64 i ∧ RS w.heap.size Cb p gn gp n N P W wr ∧ IR w.heap.size wr (.slice av L.length cv) L ∧ Below w.heap.size w wr)
          case atStart => exact ⟨0, by omega, by omega, rfl, hr3, hv, hb3⟩
          case round =>
            clear hr3 hv hb3
            obtain ⟨i, hi, hgi, rfl, hrs, hv, hbel⟩ := hrel
            have HGI := Lib.hid hgi
            clear hgi
            by_cases hiL : i < L.length
            · obtain ⟨g, rfl, glt, _, c0⟩ := hv.at i hiL
              obtain ⟨y1, y2⟩ := M3.out (fn L i) (fn_mem hiL)
              have Y2 := Lib.hid y2
              clear y2
              have hcap : i ≤ cv := by
                have := (row_cap (IR.lo hv (Nat.zero_le _))).1
                omega
              go_wp2_with fail
              obtain ⟨wo, rfl⟩ : ∃ wo : World, wo = wr := ⟨_, rfl⟩
              go_loopg [125] (i + 1) (fun m s wr => ∃ j, j ≤ i ∧ m + j = i + 1 ∧ s = .int .i64 j ∧ wr = wo)
              case atStart => exact ⟨0, by omega, by omega, rfl, rfl⟩
              case round =>
                obtain ⟨j, hj, hgj, rfl, rfl⟩ := hrel
                have HGJ := Lib.hid hgj
                clear hgj
                by_cases hji : j < i
                · obtain ⟨g', e', glt', _, c1⟩ := hv.at j (by omega)
                  cases e'
                  have hne := nodup_fn M1.out (i := i) (j := j) hiL (by omega) (by omega)
                  have hnb : ((fn L i : Int) == (fn L j : Int)) = false := by rw [beq_eq_false_iff_ne]; omega
                  clear hne
                  go_wp2_with fail
                  go_roundg (gk - 1)
                  case measure => have := HGJ.out; omega
                  case rel => exact ⟨j + 1, by omega, by have := HGJ.out; omega, by go_num, rfl⟩
                · go_wp2_with fail
                  refine (st_all _ _ _ _ _ _ _ _ _ _ hrs (fn L i)).mono ?_
                  rintro e w4 ⟨u, rfl, hu, b4⟩
                  obtain ⟨au, cu, rfl⟩ := hu.form
                  rw [Y2.out]
                  have hll : ((L.length : Int) != (L.length : Int)) = false := by simp
                  have hr4 := hrs.below b4
                  have hv4 := hv.below b4
                  have hb4 := hbel.trans (b4.mono hbel.size)
                  clear hrs hv hbel b4 hu c0
                  go_wp2_with fail
                  go_roundg (L.length - i)
                  case measure => have := HGI.out; omega
                  case rel => exact ⟨i + 1, by omega, by omega, by go_num, hr4, hv4, hb4⟩
            · clear hv
              go_wp2_with fail
              go_roundg (n - x)
              case measure => have := HGX.out; omega
              case rel => exact ⟨x + 1, by omega, by omega, by go_num, hrs, hbel⟩
        · clear hrs
          go_wp2
          go_ret
          exact ⟨rfl, hbel⟩

theorem ringParts_calls (w : World) (b : Int) (hb : (Lit.int .u8 b).wf = true) (ad : Option Addr) (len cap : Nat) (C : Nat → List Value) (_hl : len ≤ cap) (_hm : cap ≤ maxLen)
    (hE : ∀ i, i < len → ActCells (C i)) (hr : IsRows w 3 ad len C) :
    Calls Try.prog 4 #[.int .u8 b, .slice ad len cap] w fun e w' => e = .returned (.bool true) ∧ Below w.heap.size w w' := by
  by_cases h60 : 60 < len
  · exact parts_long w b hb ad len cap h60
  · exact parts_short w b hb ad len cap C (by omega) hE hr

end Go.Proofs.Ytnpglgkpdikcjaa

/-
  The walk of the law RingTwice.
-/
import Derived.Test.YtnpglgkpdikcjaaRingSt
import Derived.Test.YtnpglgkpdikcjaaRingPlain2
import Derived.Test.YtnpglgkpdikcjaaRem
import Derived.Test.YtnpglgkpdikcjaaOpen
import Derived.Deep.DeepCutAuto
import Derived.Deep.CutBlock
namespace Go.Proofs.Ytnpglgkpdikcjaa
open Go.RowKit
set_option linter.unusedVariables false

/-- What holds at a loop's head: rings, some. -/
def Some' (w : World) (C p gn gp n : Nat) (wr : World) : Prop := ∃ N P W, RS w.heap.size C p gn gp n N P W wr ∧ Below w.heap.size w wr ∧ C ≤ wr.heap.size

theorem Some'.keep {w wr w1 : World} {C p gn gp n : Nat} {N P : List Nat} {W : List (List Nat)} (h : RS w.heap.size C p gn gp n N P W wr) (hb : Below w.heap.size w wr) (hC : C ≤ wr.heap.size) {N' P' : List Nat} {W' : List (List Nat)} (h' : RS w.heap.size C p gn gp n N' P' W' w1) (k : Keeps [gn, gp] wr w1) : Some' w C p gn gp n w1 :=
  ⟨N', P', W', h', hb.trans (h.keepB k hb.size), Nat.le_trans hC k.size⟩

theorem twice_long (w : World) (b : Int) (hb : (Lit.int .u8 b).wf = true) (ad : Option Addr) (len cap : Nat) (x y : Int) (h60 : 60 < len) :
    Calls Try.prog 3 #[.int .u8 b, .slice ad len cap, .agg #[.int .i64 x, .int .i64 y]] w fun e w' => e = .returned (.bool true) ∧ Below w.heap.size w w' := by
  obtain ⟨n, hn, hn24⟩ := rem_u8 hb 24 (by omega)
  have HN := Lib.hid hn
  clear hn hb
  have hb60 : decide ((60 : Int) < (len : Int)) = true := by rw [decide_eq_true_iff]; omega
  have b0 : ∀ nq, Below w.heap.size w ((w.alloc (.cells #[.int .i64 x, .int .i64 y] 23)).drewN nq) := fun nq => ((Below.refl _ w).alloc (Nat.le_refl _) _).trans ⟨rfl, rfl, rfl, Nat.le_refl _, fun _ _ => rfl⟩
  go_enter Try.func3, Try.ntmps3
  go_wp2_with fail
  go_quiet (fail)
  go_wp2_with fail
  refine (alive_calls _).mono ?_
  rintro e w1 ⟨rfl, b1⟩
  have b2 := (b0 _).trans (b1.mono (b0 _).size)
  clear b1 b0
  go_wp2_with fail
  rw [HN.out]
  refine (st_new w.heap.size w1 n (by omega) b2.size).mono ?_
  rintro e w2 ⟨p, gn, gp, rfl, h2, b3⟩
  have b4 := b2.trans (b3.mono b2.size)
  go_wp2
  go_ret
  exact ⟨rfl, b4⟩

set_option maxHeartbeats 4000000 in
set_option maxRecDepth 100000 in
theorem twice_short (w : World) (b : Int) (hb : (Lit.int .u8 b).wf = true) (ad : Option Addr) (len cap : Nat) (C : Nat → List Value) (x y : Int) (h60 : len ≤ 60)
    (hE : ∀ i, i < len → ActCells (C i)) (hr : IsRows w 3 ad len C) :
    Calls Try.prog 3 #[.int .u8 b, .slice ad len cap, .agg #[.int .i64 x, .int .i64 y]] w fun e w' => e = .returned (.bool true) ∧ Below w.heap.size w w' := by
  obtain ⟨n, hn, hn24⟩ := rem_u8 hb 24 (by omega)
  have HN := Lib.hid hn
  clear hn hb
  have hb60 : decide ((60 : Int) < (len : Int)) = false := by rw [decide_eq_false_iff_not]; omega
  have b0 : ∀ nq, Below w.heap.size w ((w.alloc (.cells #[.int .i64 x, .int .i64 y] 23)).drewN nq) := fun nq => ((Below.refl _ w).alloc (Nat.le_refl _) _).trans ⟨rfl, rfl, rfl, Nat.le_refl _, fun _ _ => rfl⟩
  go_enter Try.func3, Try.ntmps3
  go_wp2_with fail
  go_quiet (fail)
  go_wp2_with fail
  refine (alive_calls _).mono ?_
  rintro e w1 ⟨rfl, b1⟩
  have b2 := (b0 _).trans (b1.mono (b0 _).size)
  clear b1 b0
  go_wp2_with fail
  rw [HN.out]
  refine (st_new w.heap.size w1 n (by omega) b2.size).mono ?_
  rintro e w2 ⟨p, gn, gp, rfl, h2, b3⟩
  have hinit : Some' w w2.heap.size p gn gp n w2 := ⟨_, _, _, h2, b2.trans (b3.mono b2.size), Nat.le_refl _⟩
  clear b2 b3 h2
  go_wp2_with fail
  generalize w2.heap.size = Cb at *
  go_loopg [47] 61 (fun m s wr => ∃ k, k ≤ len ∧ m + k = 61 ∧ s = .int .i64 k ∧ Some' w Cb p gn gp n wr)
  case atStart => exact ⟨0, by omega, rfl, rfl, hinit⟩
  case round =>
    clear hinit
    obtain ⟨k, hk, hgk, rfl, N, P, W, hrs, hbel, hC⟩ := hrel
    by_cases hlt : k < len
    · obtain ⟨a, i, j, hCk, _, _, _⟩ := hE k hlt
      obtain ⟨ab, off, rfl, hbw, hcells⟩ : ∃ b off, ad = some ⟨b, off, none⟩ ∧ b < w.heap.size ∧ ∀ j, j < 3 → w.cell? ⟨b, off + (k * 3 + j), none⟩ = (C k)[j]? := by
        rcases hr with h0 | ⟨b, off, e, hb, hcs⟩
        · omega
        · exact ⟨b, off, e, hb, fun j hj => hcs k hlt j hj⟩
      have c0 := hcells 0 (by omega)
      have c1 := hcells 1 (by omega)
      have c2 := hcells 2 (by omega)
      rw [hCk] at c0 c1 c2
      have e0 : wr.cell? ⟨ab, off + k * 3, none⟩ = some (.int .i64 a) := (hbel.cell (p := ⟨ab, off + k * 3, none⟩) hbw).trans c0
      have e1 : wr.cell? ⟨ab, off + k * 3 + 1, none⟩ = some (.int .i64 i) := (hbel.cell (p := ⟨ab, off + k * 3 + 1, none⟩) hbw).trans c1
      have e2 : wr.cell? ⟨ab, off + k * 3 + 2, none⟩ = some (.int .i64 j) := (hbel.cell (p := ⟨ab, off + k * 3 + 2, none⟩) hbw).trans c2
      have HG := Lib.hid hgk
      clear c0 c1 c2 hcells hCk hE hr hgk
      have hrs1 := hrs.below ((Below.refl _ wr).alloc (Nat.le_refl _) (.cells #[.int .i64 a, .int .i64 i, .int .i64 j] 30))
      have hbel1 := hbel.alloc hbel.size (.cells #[.int .i64 a, .int .i64 i, .int .i64 j] 30)
      have hC1 : Cb ≤ (wr.alloc (.cells #[.int .i64 a, .int .i64 i, .int .i64 j] 30)).heap.size := by simp; omega
      clear hrs hbel
      cases ha : (a == 1) with
      | true =>
        go_wp2_with fail
        refine (st_part _ _ _ _ _ _ _ _ _ _ hrs1 i).mono ?_
        rintro e wb ⟨rfl, ⟨N2, P2, h3⟩, k3⟩
        have hfin := Some'.keep hrs1 hbel1 hC1 h3 k3
        clear hrs1 hbel1 hC1 h3 k3
        go_wp2_with fail
        go_roundg (gk - 1)
        case measure => have := HG.out; omega
        case rel => exact ⟨k + 1, by omega, by have := HG.out; omega, by go_num, hfin⟩
      | false =>
        go_wp2_with fail
        refine (st_splice _ _ _ _ _ _ _ _ _ _ hrs1 i j).mono ?_
        rintro e wb ⟨rfl, ⟨N2, P2, h3⟩, k3⟩
        have hfin := Some'.keep hrs1 hbel1 hC1 h3 k3
        clear hrs1 hbel1 hC1 h3 k3
        go_wp2_with fail
        go_roundg (gk - 1)
        case measure => have := HG.out; omega
        case rel => exact ⟨k + 1, by omega, by have := HG.out; omega, by go_num, hfin⟩
    · obtain rfl : k = len := by omega
      clear hE hr hgk hlt
      by_cases hout : (x < 0 ∨ (n : Int) ≤ x) ∨ (y < 0 ∨ (n : Int) ≤ y)
      · have hw : (spliceZ W x y).2 = false := by rw [hrs.st.splice_no hout]
        have HW := Lib.hid hw
        have hf : (decide (x < 0) = true) ∨ (decide (x < 0) = false ∧ decide (y < 0) = true) ∨ (decide (x < 0) = false ∧ decide (y < 0) = false ∧ decide ((n : Int) ≤ x) = true) ∨ (decide (x < 0) = false ∧ decide (y < 0) = false ∧ decide ((n : Int) ≤ x) = false ∧ decide ((n : Int) ≤ y) = true) := by
          simp only [decide_eq_true_eq, decide_eq_false_iff_not]
          omega
        clear hw
        rcases hf with f1 | ⟨f1, f2⟩ | ⟨f1, f2, f3⟩ | ⟨f1, f2, f3, f4⟩
        all_goals
          go_wp2_with fail
          refine (st_splice _ _ _ _ _ _ _ _ _ _ hrs x y).mono ?_
          rintro e wb ⟨rfl, ⟨N2, P2, h3⟩, k3⟩
          rw [HW.out]
          have hb9 := hbel.trans (hrs.keepB k3 hbel.size)
          clear hrs h3 k3
          go_wp2
          go_ret
          exact ⟨rfl, hb9⟩
      · obtain ⟨i, rfl⟩ := Int.eq_ofNat_of_zero_le (show 0 ≤ x by omega)
        obtain ⟨j, rfl⟩ := Int.eq_ofNat_of_zero_le (show 0 ≤ y by omega)
        have hi : i < n := by omega
        have hj : j < n := by omega
        have f1 : decide ((i : Int) < 0) = false := by rw [decide_eq_false_iff_not]; omega
        have f2 : decide ((j : Int) < 0) = false := by rw [decide_eq_false_iff_not]; omega
        have f3 : decide (n ≤ i) = false := by rw [decide_eq_false_iff_not]; omega
        have f4 : decide (n ≤ j) = false := by rw [decide_eq_false_iff_not]; omega
        have al1 := all_len hrs.st (i : Int)
        have al2 := all_len hrs.st (j : Int)
        have hls := hbel.size
        clear hout
        go_wp2_with fail
        refine (st_all _ _ _ _ _ _ _ _ _ _ hrs i).mono ?_
        rintro e w3 ⟨va, rfl, hva, b3⟩
        obtain ⟨aa, ca, rfl⟩ := hva.form
        have hva := hva.lo hC
        have r3 := hrs.below b3
        have bb3 := hbel.trans (b3.mono hbel.size)
        have s3 := b3.size
        clear hrs hbel b3
        go_wp2_with fail
        refine (st_all _ _ _ _ _ _ _ _ _ _ r3 j).mono ?_
        rintro e w4 ⟨vb, rfl, hvb, b4⟩
        obtain ⟨ab, cb, rfl⟩ := hvb.form
        have hvb := hvb.lo (show Cb ≤ w3.heap.size by omega)
        have hva := hva.below b4
        have r4 := r3.below b4
        have bb4 := bb3.trans (b4.mono bb3.size)
        have s4 := b4.size
        clear r3 bb3 b4
        go_wp2_with fail
        refine (st_same _ _ _ _ _ _ _ _ _ _ r4 i j).mono ?_
        rintro e w5 ⟨rfl, b5⟩
        have hva := hva.below b5
        have hvb := hvb.below b5
        have r5 := r4.below b5
        have bb5 := bb4.trans (b5.mono bb4.size)
        have s5 := b5.size
        clear r4 bb4 b5
        go_wp2_with fail
        refine (st_splice_yes _ _ _ _ _ _ _ _ _ _ r5 i j hi hj).mono ?_
        rintro e w6 ⟨rfl, r6, k6⟩
        have hva := r5.keepI k6 hva
        have hvb := r5.keepI k6 hvb
        have bb6 := bb5.trans (r5.keepB k6 bb5.size)
        have s6 := k6.size
        have hN : N.length = n := r5.len
        by_cases hij : i = j
        · obtain rfl := hij
          have hii : ((i : Int) != (i : Int)) = false := by simp
          have hself : spliceZ W i i = (W, true) := by
            obtain ⟨l, r, h1, h2, h3, h4, h5, h6, h7⟩ := r5.st.home hi
            simp [spliceZ, h3]
          have HS := Lib.hid hself
          rw [hself, nextS_self] at r6
          clear hself r5 k6 bb5
          go_wp2_with fail
          refine (st_splice_yes _ _ _ _ _ _ _ _ _ _ r6 i i hi hi).mono ?_
          rintro e w7 ⟨rfl, r7, k7⟩
          have hva := r6.keepI k7 hva
          have hvb := r6.keepI k7 hvb
          have bb7 := bb6.trans (r6.keepB k7 bb6.size)
          have s7 := k7.size
          rw [HS.out] at r7
          clear r6 k7 bb6
          go_wp2_with fail
          refine (st_all _ _ _ _ _ _ _ _ _ _ r7 i).mono ?_
          rintro e w8 ⟨vc, rfl, hvc, b8⟩
          have hva := hva.below b8
          have hvb := hvb.below b8
          have r8 := r7.below b8
          have bb8 := bb7.trans (b8.mono bb7.size)
          clear r7 bb7 b8
          go_wp2_with fail
          refine (same_calls _ _ _ _ _ _ _ hvc hva (by omega) (by omega)).mono ?_
          rintro e w9 ⟨rfl, b9⟩
          have hd : decide (allZ W (i : Int) = allZ W (i : Int)) = true := by simp
          rw [hd]
          have hvb := hvb.below b9
          have r9 := r8.below b9
          have bb9 := bb8.trans (b9.mono bb8.size)
          clear r8 bb8 b9 hvc hva
          go_wp2_with fail
          refine (st_all _ _ _ _ _ _ _ _ _ _ r9 i).mono ?_
          rintro e w10 ⟨vd, rfl, hvd, b10⟩
          have hvb := hvb.below b10
          have bb10 := bb9.trans (b10.mono bb9.size)
          clear r9 bb9 b10
          go_wp2_with fail
          refine (same_calls _ _ _ _ _ _ _ hvd hvb (by omega) (by omega)).mono ?_
          rintro e w11 ⟨rfl, b11⟩
          rw [show decide (allZ W (i : Int) = allZ W (i : Int)) = true by simp]
          have bb11 := bb10.trans (b11.mono bb10.size)
          clear bb10 b11 hvd hvb
          go_wp2
          go_ret
          exact ⟨rfl, bb11⟩
        · have hij2 : ((i : Int) != (j : Int)) = true := by rw [bne_iff_ne]; omega
          have hflip := r5.st.flip hi hj hij
          have HF := Lib.hid hflip
          have hsame := r5.st
          clear hflip r5 k6 bb5
          have hbb : (!(allZ W (i : Int)).any (isI j) == (allZ W (i : Int)).any (isI j)) = false := by cases (allZ W (i : Int)).any (isI j) <;> rfl
          have hb2 : ((!(allZ W (i : Int)).any (isI j)) == (allZ W (i : Int)).any (isI j)) = false := by cases (allZ W (i : Int)).any (isI j) <;> rfl
          go_wp2_with fail
          refine (st_same _ _ _ _ _ _ _ _ _ _ r6 i j).mono ?_
          rintro e w7 ⟨rfl, b7⟩
          rw [HF.out]
          have hva := hva.below b7
          have hvb := hvb.below b7
          have r7 := r6.below b7
          have bb7 := bb6.trans (b7.mono bb6.size)
          have s7 := b7.size
          clear r6 b7 bb6
          go_wp2_with fail
          refine (st_splice_yes _ _ _ _ _ _ _ _ _ _ r7 j i hj hi).mono ?_
          rintro e w8 ⟨rfl, r8, k8⟩
          have hva := r7.keepI k8 hva
          have hvb := r7.keepI k8 hvb
          have bb8 := bb7.trans (r7.keepB k8 bb7.size)
          have s8 := k8.size
          rw [nextS_twice hN hi hj] at r8
          have ha1 := hsame.same r8.st hi
          have ha2 := hsame.same r8.st hj
          have HA1 := Lib.hid ha1
          have HA2 := Lib.hid ha2
          clear r7 k8 bb7 ha1 ha2 hsame
          go_wp2_with fail
          refine (st_all _ _ _ _ _ _ _ _ _ _ r8 i).mono ?_
          rintro e w9 ⟨vc, rfl, hvc, b9⟩
          rw [← HA1.out] at hvc
          have hva := hva.below b9
          have hvb := hvb.below b9
          have r9 := r8.below b9
          have bb9 := bb8.trans (b9.mono bb8.size)
          clear r8 bb8 b9
          go_wp2_with fail
          refine (same_calls _ _ _ _ _ _ _ hvc hva (by omega) (by omega)).mono ?_
          rintro e w10 ⟨rfl, b10⟩
          have hd : decide (allZ W (i : Int) = allZ W (i : Int)) = true := by simp
          rw [hd]
          have hvb := hvb.below b10
          have r10 := r9.below b10
          have bb10 := bb9.trans (b10.mono bb9.size)
          clear r9 bb9 b10 hvc hva
          go_wp2_with fail
          refine (st_all _ _ _ _ _ _ _ _ _ _ r10 j).mono ?_
          rintro e w11 ⟨vd, rfl, hvd, b11⟩
          rw [← HA2.out] at hvd
          have hvb := hvb.below b11
          have bb11 := bb10.trans (b11.mono bb10.size)
          clear r10 bb10 b11
          go_wp2_with fail
          refine (same_calls _ _ _ _ _ _ _ hvd hvb (by omega) (by omega)).mono ?_
          rintro e w12 ⟨rfl, b12⟩
          have hd2 : decide (allZ W (j : Int) = allZ W (j : Int)) = true := by simp
          rw [hd2]
          have bb12 := bb11.trans (b12.mono bb11.size)
          clear bb11 b12 hvd hvb
          go_wp2
          go_ret
          exact ⟨rfl, bb12⟩

theorem ringTwice_calls (w : World) (b : Int) (hb : (Lit.int .u8 b).wf = true) (ad : Option Addr) (len cap : Nat) (C : Nat → List Value) (_hl : len ≤ cap) (_hm : cap ≤ maxLen)
    (hE : ∀ i, i < len → ActCells (C i)) (hr : IsRows w 3 ad len C) (x y : Int) (hx : (Lit.int .i64 x).wf = true) (hy : (Lit.int .i64 y).wf = true) :
    Calls Try.prog 3 #[.int .u8 b, .slice ad len cap, .agg #[.int .i64 x, .int .i64 y]] w fun e w' => e = .returned (.bool true) ∧ Below w.heap.size w w' := by
  by_cases h60 : 60 < len
  · exact twice_long w b hb ad len cap x y h60
  · exact twice_short w b hb ad len cap C x y (by omega) hE hr

end Go.Proofs.Ytnpglgkpdikcjaa

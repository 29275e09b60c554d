/-
  The walk of the law RingRuns: what is done to rings and to the document's.
-/
import Derived.Test.YtnpglgkpdikcjaaRef15F
import Derived.Test.YtnpglgkpdikcjaaRem
import Derived.Test.YtnpglgkpdikcjaaOpen
namespace Go.Proofs.Ytnpglgkpdikcjaa
open Go.RowKit
set_option linter.unusedVariables false

/-- Rings and the document's, side by side. -/
def Side (w : World) (C p gn gp n : Nat) (v : Value) (wr : World) : Prop := ∃ N P W, RS w.heap.size C p gn gp n N P W wr ∧ WR C wr v W ∧ Below w.heap.size w wr ∧ C ≤ wr.heap.size

/-- .. with the act. -/
def SideX (w : World) (C p gn gp n xb : Nat) (c : Array Value) (v : Value) (wr : World) : Prop := Side w C p gn gp n v wr ∧ wr.heap[xb]? = some (.cells c 30 (0, 0))

theorem WR.sizes {n : Nat} {N P : List Nat} {W : List (List Nat)} (h : Rings n N P W) (hn : n < 60000) : W.length < 70000 ∧ ∀ l ∈ W, l.length < 70000 := by
  obtain ⟨h1, h2⟩ := wlen h
  exact ⟨by omega, fun l hl => by have := h2 l hl; omega⟩

theorem below_al2 (w : World) (o : Obj) : Below w.heap.size w (w.alloc o) := (Below.refl _ _).alloc (Nat.le_refl _) _

set_option maxHeartbeats 4000000 in
set_option maxRecDepth 100000 in
theorem play_calls (w0 w : World) (C p gn gp n : Nat) (hn : n < 60000) (N0 P0 : List Nat) (h0 : RS w0.heap.size C p gn gp n N0 P0 (alone n) w) (hb0 : Below w0.heap.size w0 w) (hC : C ≤ w.heap.size) (ad : Option Addr) (len cap : Nat) (Cs : Nat → List Value) (h60 : len ≤ 60)
    (hE : ∀ i, i < len → ActCells (Cs i)) (hr : IsRows w0 3 ad len Cs) :
    Calls Try.prog 16 #[.pointer (some ⟨p, 0, none⟩), .int .i64 n, .slice ad len cap] w fun e w' => ∃ v, e = .returned (.tuple #[v, .bool true]) ∧ Side w0 C p gn gp n v w' := by
  go_enter Try.func16, Try.ntmps16
  go_wp2_with fail
  refine (r15_new w n (by omega)).mono ?_
  rintro e w1 ⟨v1, rfl, hv1, b1⟩
  have hinit : Side w0 C p gn gp n v1 w1 := ⟨N0, P0, alone n, h0.below b1, hv1.lo hC, hb0.trans (b1.mono hb0.size), Nat.le_trans hC b1.size⟩
  clear h0 hb0 hC hv1 b1
  go_wp2_with fail
  go_loopg [8, 25] 61 (fun m v s wr => ∃ k, k ≤ len ∧ m + k = 61 ∧ s = .int .i64 k ∧ Side w0 C p gn gp n v wr)
  case atStart => exact ⟨0, by omega, rfl, rfl, hinit⟩
  case round =>
    clear hinit
    obtain ⟨k, hk, hgk, rfl, N, P, W, hrs, hwr, hbel, hC⟩ := hrel
    by_cases hlt : k < len
    · obtain ⟨a, i, j, hCk, _, _, _⟩ := hE k hlt
      obtain ⟨ab, off, rfl, hbw, hcells⟩ : ∃ b off, ad = some ⟨b, off, none⟩ ∧ b < w0.heap.size ∧ ∀ j, j < 3 → w0.cell? ⟨b, off + (k * 3 + j), none⟩ = (Cs k)[j]? := by
        rcases hr with h0 | ⟨b, off, e, hb, hcs⟩
        · omega
        · exact ⟨b, off, e, hb, fun j hj => hcs k hlt j hj⟩
      have c0 := hcells 0 (by omega)
      have c1 := hcells 1 (by omega)
      have c2 := hcells 2 (by omega)
      rw [hCk] at c0 c1 c2
      have e0 : wr.cell? ⟨ab, off + k * 3, none⟩ = some (.int .i64 a) := (hbel.cell (p := ⟨ab, off + k * 3, none⟩) hbw).trans c0
      have e1 : wr.cell? ⟨ab, off + k * 3 + 1, none⟩ = some (.int .i64 i) := (hbel.cell (p := ⟨ab, off + k * 3 + 1, none⟩) hbw).trans c1
      have e2 : wr.cell? ⟨ab, off + k * 3 + 2, none⟩ = some (.int .i64 j) := (hbel.cell (p := ⟨ab, off + k * 3 + 2, none⟩) hbw).trans c2
      have HG := Lib.hid hgk
      clear c0 c1 c2 hcells hCk hE hr hgk
      have hrs1 := hrs.below (below_al2 wr (.cells #[.int .i64 a, .int .i64 i, .int .i64 j] 30))
      have hwr1 := hwr.below (below_al2 wr (.cells #[.int .i64 a, .int .i64 i, .int .i64 j] 30))
      have hbel1 := hbel.alloc hbel.size (.cells #[.int .i64 a, .int .i64 i, .int .i64 j] 30)
      have hC1 : C ≤ (wr.alloc (.cells #[.int .i64 a, .int .i64 i, .int .i64 j] 30)).heap.size := by simp; omega
      have hnew := blk_alloc_new (w := wr) (.cells #[.int .i64 a, .int .i64 i, .int .i64 j] 30)
      have hxn : wr.heap.size ≠ gn ∧ wr.heap.size ≠ gp := by have := hrs.ra.lt; omega
      clear hrs hwr hbel hC
      go_upto_block 2 with fail
      go_cut [8, 11] (fun v s wc => s = .bool true ∧ SideX w0 C p gn gp n wr.heap.size #[.int .i64 a, .int .i64 i, .int .i64 j] v wc)
      case first =>
        generalize (wr.alloc (.cells #[.int .i64 a, .int .i64 i, .int .i64 j] 30)) = wa at *
        generalize wr.heap.size = xb at *
        have hlt1 := lt_of_block hnew
        have q1 : wa.cell? ⟨xb, 1, none⟩ = some (.int .i64 i) := by rw [cell_of_blk hnew]; rfl
        have q2 : wa.cell? ⟨xb, 2, none⟩ = some (.int .i64 j) := by rw [cell_of_blk hnew]; rfl
        clear e0 e1 e2
        cases ha : (a == 0) with
        | true =>
          go_wp2_with fail
          refine (r15_splice wa C _ n N P W hrs1.st hn hwr1 hC1 i j).mono ?_
          rintro e wb ⟨v2, rfl, hw2, b2⟩
          have hrs2 := hrs1.below b2
          have hbel2 := hbel1.trans (b2.mono hbel1.size)
          have hnew2 := (b2.block _ hlt1).trans hnew
          have hC2 := Nat.le_trans hC1 b2.size
          clear q1 q2 hrs1 hwr1 hbel1 hnew b2 hlt1 hC1
          have q1 : wb.cell? ⟨xb, 1, none⟩ = some (.int .i64 i) := by rw [cell_of_blk hnew2]; rfl
          have q2 : wb.cell? ⟨xb, 2, none⟩ = some (.int .i64 j) := by rw [cell_of_blk hnew2]; rfl
          have hbb : ((spliceZ W i j).2 == (spliceZ W i j).2) = true := by simp
          go_wp2_with fail
          refine (st_splice _ _ _ _ _ _ _ _ _ _ hrs2 i j).mono ?_
          rintro e wd ⟨rfl, ⟨N2, P2, h3⟩, k3⟩
          have hfin : SideX w0 C p gn gp n xb #[.int .i64 a, .int .i64 i, .int .i64 j] v2 wd :=
            ⟨⟨N2, P2, _, h3, hw2.keep k3 (by have := hrs2.hi; simp; omega), hbel2.trans (hrs2.keepB k3 hbel2.size), Nat.le_trans hC2 k3.size⟩, k3.blk hnew2 (by simp; omega)⟩
          clear q1 q2 hrs2 hw2 hbel2 hnew2 h3 k3 hC2
          go_wp2_with fail
          go_meet
          exact ⟨by simp, hfin⟩
        | false =>
          cases ha1 : (a == 1) with
          | true =>
            go_wp2_with fail
            refine (r15_part wa C _ n N P W hrs1.st hn hwr1 hC1 i).mono ?_
            rintro e wb ⟨v2, rfl, hw2, b2⟩
            have hrs2 := hrs1.below b2
            have hbel2 := hbel1.trans (b2.mono hbel1.size)
            have hnew2 := (b2.block _ hlt1).trans hnew
            have hC2 := Nat.le_trans hC1 b2.size
            clear q1 q2 hrs1 hwr1 hbel1 hnew b2 hlt1 hC1
            have q1 : wb.cell? ⟨xb, 1, none⟩ = some (.int .i64 i) := by rw [cell_of_blk hnew2]; rfl
            have hbb : ((partZ W i).2 == (partZ W i).2) = true := by simp
            go_wp2_with fail
            refine (st_part _ _ _ _ _ _ _ _ _ _ hrs2 i).mono ?_
            rintro e wd ⟨rfl, ⟨N2, P2, h3⟩, k3⟩
            have hfin : SideX w0 C p gn gp n xb #[.int .i64 a, .int .i64 i, .int .i64 j] v2 wd :=
              ⟨⟨N2, P2, _, h3, hw2.keep k3 (by have := hrs2.hi; simp; omega), hbel2.trans (hrs2.keepB k3 hbel2.size), Nat.le_trans hC2 k3.size⟩, k3.blk hnew2 (by simp; omega)⟩
            clear q1 hrs2 hw2 hbel2 hnew2 h3 k3 hC2
            go_wp2_with fail
            go_meet
            exact ⟨by simp, hfin⟩
          | false =>
            have hfin : SideX w0 C p gn gp n xb #[.int .i64 a, .int .i64 i, .int .i64 j] _ wa := ⟨⟨N, P, W, hrs1, hwr1, hbel1, hC1⟩, hnew⟩
            clear q1 q2 hrs1 hwr1 hbel1 hnew hC1 hlt1
            go_wp2_with fail
            go_meet
            exact ⟨rfl, hfin⟩
      case rest =>
        clear hrs1 hwr1 hbel1 hnew hC1 hxn e0 e1 e2
        generalize wr.heap.size = xb at *
        obtain ⟨rfl, ⟨N2, P2, W2, hrs, hwr, hbel, hC⟩, hact⟩ := hcut
        obtain ⟨z1, z2⟩ := WR.sizes hrs.st hn
        have Z2 := Lib.hid z2
        have xlt := lt_of_block hact
        have q1 : wc.cell? ⟨xb, 1, none⟩ = some (.int .i64 i) := by rw [cell_of_blk hact]; rfl
        clear z2
        go_wp2_with fail
        refine (r15_all wc C _ W2 hwr z1 Z2.out i).mono ?_
        rintro e wd ⟨vl, rfl, hvl, b2⟩
        have hrs2 := hrs.below b2
        have hwr2 := hwr.below b2
        have hbel2 := hbel.trans (b2.mono hbel.size)
        have hact2 := (b2.block _ xlt).trans hact
        have hC2 := Nat.le_trans hC b2.size
        clear q1 hrs hwr hbel hact b2 xlt hC
        have xlt := lt_of_block hact2
        have q1 : wd.cell? ⟨xb, 1, none⟩ = some (.int .i64 i) := by rw [cell_of_blk hact2]; rfl
        have al := all_len hrs2.st i
        go_wp2_with fail
        refine (st_all _ _ _ _ _ _ _ _ _ _ hrs2 i).mono ?_
        rintro e we ⟨vm, rfl, hvm, b3⟩
        have hrs3 := hrs2.below b3
        have hwr3 := hwr2.below b3
        have hvl3 := hvl.below b3
        have hbel3 := hbel2.trans (b3.mono hbel2.size)
        have hact3 := (b3.block _ xlt).trans hact2
        have hC3 := Nat.le_trans hC2 b3.size
        clear q1 hrs2 hwr2 hbel2 hact2 b3 xlt hC2 hvl
        have xlt := lt_of_block hact3
        go_wp2_with fail
        refine (same_calls _ _ _ _ _ _ _ hvm hvl3 (by omega) (by omega)).mono ?_
        rintro e wf ⟨rfl, b4⟩
        rw [show decide (allZ W2 i = allZ W2 i) = true by simp]
        have hrs4 := hrs3.below b4
        have hwr4 := hwr3.below b4
        have hvl4 := hvl3.below b4
        have hbel4 := hbel3.trans (b4.mono hbel3.size)
        have hact4 := (b4.block _ xlt).trans hact3
        have hC4 := Nat.le_trans hC3 b4.size
        clear hrs3 hwr3 hbel3 hact3 b4 xlt hC3 hvl3 hvm
        have q1 : wf.cell? ⟨xb, 1, none⟩ = some (.int .i64 i) := by rw [cell_of_blk hact4]; rfl
        by_cases hi : i < 0 ∨ (n : Int) ≤ i
        · have hnil : allZ W2 i = [] := hrs4.st.out hi
          rw [hnil] at hvl4
          obtain ⟨al4, cl4, rfl⟩ := hvl4.form
          clear hnil
          go_wp2_with fail
          refine (st_next_no _ _ _ _ _ _ _ _ _ _ hrs4 i hi).mono ?_
          rintro e w' ⟨rfl, rfl⟩
          go_wp2_with fail
          refine (st_prev_no _ _ _ _ _ _ _ _ _ _ hrs4 i hi).mono ?_
          rintro e w' ⟨rfl, rfl⟩
          have hfin : Side w0 C p gn gp n _ wf := ⟨N2, P2, W2, hrs4, hwr4, hbel4, hC4⟩
          clear hrs4 hwr4 hbel4 hact4 hvl4 q1
          go_wp2_with fail
          go_roundg (gk - 1)
          case measure => have := HG.out; omega
          case rel => exact ⟨k + 1, by omega, by have := HG.out; omega, by go_num, hfin⟩
        · obtain ⟨x, rfl⟩ := Int.eq_ofNat_of_zero_le (show 0 ≤ i by omega)
          have hx : x < n := by omega
          obtain ⟨l2, r, _, _, hax, hpx, hndx, hmx, hbx⟩ := hrs4.st.home hx
          have hpr := hrs4.st.prev hx hpx hbx
          have hp0 := hpx.at 0 (Nat.zero_le _)
          rw [hax] at hvl4 al
          clear hi hax hpx hmx hbx
          have hfin : Side w0 C p gn gp n _ wf := ⟨N2, P2, W2, hrs4, hwr4, hbel4, hC4⟩
          have hnx : ((fn N2 x : Int) != (fn N2 x : Int)) = false := by simp
          have hpx2 : ((fn P2 x : Int) != (fn P2 x : Int)) = false := by simp
          cases r with
          | nil =>
            obtain ⟨al4, cl4, rfl⟩ := hvl4.form
            obtain ⟨g, rfl, glt, _, c0⟩ := hvl4.at 0 (by simp)
            have e1 : fn N2 x = x := by simpa [fn] using hp0
            have e2 : fn P2 x = x := by simpa using hpr
            have c1 : wf.cell? ⟨g, 0, none⟩ = some (.int .i64 (x : Nat)) := by simpa [fn] using c0
            have E1 := Lib.hid e1
            have E2 := Lib.hid e2
            have hxx : ((x : Int) != (x : Int)) = false := by simp
            clear c0 e1 e2 hp0 hpr hndx hnx hpx2 hwr4 hbel4 hact4 hvl4
            simp only [List.length_cons, List.length_nil]
            go_wp2_with fail
            refine (st_next_yes _ _ _ _ _ _ _ _ _ _ hrs4 x hx).mono ?_
            rintro e w' ⟨rfl, rfl⟩
            rw [E1.out]
            go_wp2_with fail
            refine (st_prev_yes _ _ _ _ _ _ _ _ _ _ hrs4 x hx).mono ?_
            rintro e w' ⟨rfl, rfl⟩
            rw [E2.out]
            clear hrs4
            go_wp2_with fail
            go_roundg (gk - 1)
            case measure => have := HG.out; omega
            case rel => exact ⟨k + 1, by omega, by have := HG.out; omega, by go_num, hfin⟩
          | cons y r =>
            obtain ⟨al4, cl4, rfl⟩ := hvl4.form
            obtain ⟨m, hm⟩ : ∃ m, m = (x :: y :: r).length := ⟨_, rfl⟩
            have hm2 : 2 ≤ m := by rw [hm]; simp
            obtain ⟨g, rfl, glt, _, c0⟩ := hvl4.at 1 (by simp)
            obtain ⟨g', eg, _, _, c1⟩ := hvl4.at (m - 1) (by rw [← hm]; omega)
            cases eg
            have e1 : fn N2 x = y := by simpa [fn] using hp0
            have e2 : fn (x :: y :: r) (m - 1) = fn P2 x := by
              rw [hpr, hm]
              simp [fn, List.getLast_eq_getElem, List.getD]
            rw [e2] at c1
            have c2 : wf.cell? ⟨g, 1, none⟩ = some (.int .i64 (y : Nat)) := by simpa [fn] using c0
            rw [← hm] at al ⊢
            have E1 := Lib.hid e1
            have hyy : ((y : Int) != (y : Int)) = false := by simp
            have hm5 : Int.tmod 1 (m : Int) = 1 := by
              rw [Int.tmod_eq_emod_of_nonneg (by omega), Int.emod_eq_of_lt (by omega) (by omega)]
            have hm6 : (1 : Int) % (m : Int) = 1 := Int.emod_eq_of_lt (by omega) (by omega)
            have hm7 : (0 : Int) < (m : Int) := by omega
            have hm8 : 0 < m := by omega
            have hm9 : (1 : Int) < (m : Int) := by omega
            clear c0 e1 e2 hp0 hpr hndx hnx hwr4 hbel4 hact4 hvl4 hm
            go_wp2_with fail
            refine (st_next_yes _ _ _ _ _ _ _ _ _ _ hrs4 x hx).mono ?_
            rintro e w' ⟨rfl, rfl⟩
            rw [E1.out]
            go_wp2_with fail
            refine (st_prev_yes _ _ _ _ _ _ _ _ _ _ hrs4 x hx).mono ?_
            rintro e w' ⟨rfl, rfl⟩
            clear hrs4
            go_wp2_with fail
            go_roundg (gk - 1)
            case measure => have := HG.out; omega
            case rel => exact ⟨k + 1, by omega, by have := HG.out; omega, by go_num, hfin⟩
    · obtain rfl : k = len := by omega
      clear hE hr hgk hlt
      go_wp2
      go_ret2
      exact ⟨_, rfl, N, P, W, hrs, hwr, hbel, hC⟩

end Go.Proofs.Ytnpglgkpdikcjaa

/-
  The contracts of package ring once more, with the rings that there are; the comparison of two lists; the chapter's example.
-/
import Derived.Test.YtnpglgkpdikcjaaRingMore
namespace Go.Proofs.Ytnpglgkpdikcjaa
open Go.RowKit
set_option linter.unusedVariables false

/-- Rings in memory, between two bounds. -/
structure RS (B C p gn gp n : Nat) (N P : List Nat) (W : List (List Nat)) (w : World) : Prop where
  ra : RingAt w p gn gp N P
  st : Rings n N P W
  lo : B ≤ p ∧ B ≤ gn ∧ B ≤ gp
  hi : p < C ∧ gn < C ∧ gp < C
  sm : n < 70000

theorem nodup_len {W : List Nat} {n : Nat} (hd : W.Nodup) (h : ∀ i ∈ W, i < n) : W.length ≤ n := by
  induction n generalizing W with
  | zero =>
    cases W with
    | nil => simp
    | cons x W => exact absurd (h x (by simp)) (by omega)
  | succ n ih =>
    by_cases hn : n ∈ W
    · have h1 := ih (hd.erase n) (fun i hi => by
        have h2 := (hd.mem_erase_iff).1 hi
        have h3 := h i h2.2
        have h4 := h2.1
        omega)
      rw [List.length_erase_of_mem hn] at h1
      omega
    · have := ih hd (fun i hi => by
        have h3 := h i hi
        have h4 : i ≠ n := fun e => hn (e ▸ hi)
        omega)
      omega

section
variable {B C p gn gp n : Nat} {N P : List Nat} {W : List (List Nat)} {w w' : World}

theorem RS.below (h : RS B C p gn gp n N P W w) (hb : Below w.heap.size w w') : RS B C p gn gp n N P W w' := ⟨h.ra.below hb, h.st, h.lo, h.hi, h.sm⟩

theorem RS.keepB (h : RS B C p gn gp n N P W w) (k : Keeps [gn, gp] w w') (hB : B ≤ w.heap.size) : Below B w w' :=
  k.below hB (by have := h.lo; simp; omega)

theorem RS.keepI (h : RS B C p gn gp n N P W w) (k : Keeps [gn, gp] w w') {v : Value} {L : List Nat} (hr : IR C w v L) : IR C w' v L :=
  hr.keep k (by have := h.hi; simp; omega)

theorem RS.len (h : RS B C p gn gp n N P W w) : N.length = n := h.st.ln
end

theorem st_all (B C p gn gp n : Nat) (N P : List Nat) (W : List (List Nat)) (w : World) (h : RS B C p gn gp n N P W w) (x : Int) :
    Calls Try.prog 11 #[.pointer (some ⟨p, 0, none⟩), .int .i64 x] w fun e w' => ∃ v, e = .returned v ∧ IR w.heap.size w' v (allZ W x) ∧ Below w.heap.size w w' := by
  have hl := h.len
  have hs := h.sm
  by_cases hx : x < 0 ∨ (n : Int) ≤ x
  · refine (all_no w p gn gp N P h.ra x (by rw [hl]; exact hx)).mono ?_
    rintro e w' ⟨rfl, rfl⟩
    rw [h.st.out hx]
    exact ⟨_, rfl, IR.nil _ _, Below.refl _ _⟩
  · obtain ⟨i, rfl⟩ := Int.eq_ofNat_of_zero_le (show 0 ≤ x by omega)
    obtain ⟨l, r, h1, h2, h3, h4, h5, h6, h7⟩ := h.st.home (x := i) (by omega)
    rw [h3]
    have hlen : (i :: r).length ≤ n := by
      refine nodup_len h5 ?_
      intro z hz
      simp only [List.mem_cons] at hz
      rcases hz with rfl | hz
      · omega
      · exact h7 z hz
    simp only [List.length_cons] at hlen
    exact all_yes w p gn gp N P h.ra (by omega) i (by omega) r h4 (List.nodup_cons.1 h5).1 (fun y hy => by rw [hl]; exact h7 y hy) (by omega)

theorem all_len {n : Nat} {N P : List Nat} {W : List (List Nat)} (h : Rings n N P W) (x : Int) : (allZ W x).length ≤ n := by
  by_cases hx : x < 0 ∨ (n : Int) ≤ x
  · rw [h.out hx]; simp
  · obtain ⟨i, rfl⟩ := Int.eq_ofNat_of_zero_le (show 0 ≤ x by omega)
    obtain ⟨l, r, h1, h2, h3, h4, h5, h6, h7⟩ := h.home (x := i) (by omega)
    rw [h3]
    refine nodup_len h5 (fun z hz => ?_)
    simp only [List.mem_cons] at hz
    rcases hz with rfl | hz
    · omega
    · exact h7 z hz

theorem st_same (B C p gn gp n : Nat) (N P : List Nat) (W : List (List Nat)) (w : World) (h : RS B C p gn gp n N P W w) (x y : Int) :
    Calls Try.prog 12 #[.pointer (some ⟨p, 0, none⟩), .int .i64 x, .int .i64 y] w fun e w' => e = .returned (.bool ((allZ W x).any (isI y))) ∧ Below w.heap.size w w' := by
  have hl := all_len h.st x
  have hs := h.sm
  go_enter Try.func12, Try.ntmps12
  go_wp2_with fail
  refine (st_all B C p gn gp n N P W w h x).mono ?_
  rintro e w1 ⟨v, rfl, hv, hb⟩
  go_wp2_with fail
  refine (contains_calls w1 _ v _ hv (by omega) y).mono ?_
  rintro e w' ⟨rfl, rfl⟩
  go_wp2
  go_ret
  exact ⟨rfl, hb⟩

theorem st_next_yes (B C p gn gp n : Nat) (N P : List Nat) (W : List (List Nat)) (w : World) (h : RS B C p gn gp n N P W w) (x : Nat) (hx : x < n) :
    Calls Try.prog 14 #[.pointer (some ⟨p, 0, none⟩), .int .i64 x] w fun e w' => e = .returned (.tuple #[.int .i64 (fn N x : Nat), .bool true]) ∧ w = w' :=
  next_yes w p gn gp N P h.ra x (by rw [h.len]; exact hx)

theorem st_next_no (B C p gn gp n : Nat) (N P : List Nat) (W : List (List Nat)) (w : World) (h : RS B C p gn gp n N P W w) (x : Int) (hx : x < 0 ∨ (n : Int) ≤ x) :
    Calls Try.prog 14 #[.pointer (some ⟨p, 0, none⟩), .int .i64 x] w fun e w' => e = .returned (.tuple #[.int .i64 0, .bool false]) ∧ w = w' :=
  next_no w p gn gp N P h.ra x (by rw [h.len]; exact hx)

theorem st_prev_yes (B C p gn gp n : Nat) (N P : List Nat) (W : List (List Nat)) (w : World) (h : RS B C p gn gp n N P W w) (x : Nat) (hx : x < n) :
    Calls Try.prog 15 #[.pointer (some ⟨p, 0, none⟩), .int .i64 x] w fun e w' => e = .returned (.tuple #[.int .i64 (fn P x : Nat), .bool true]) ∧ w = w' :=
  prev_yes w p gn gp N P h.ra x (by rw [h.len]; exact hx)

theorem st_prev_no (B C p gn gp n : Nat) (N P : List Nat) (W : List (List Nat)) (w : World) (h : RS B C p gn gp n N P W w) (x : Int) (hx : x < 0 ∨ (n : Int) ≤ x) :
    Calls Try.prog 15 #[.pointer (some ⟨p, 0, none⟩), .int .i64 x] w fun e w' => e = .returned (.tuple #[.int .i64 0, .bool false]) ∧ w = w' :=
  prev_no w p gn gp N P h.ra x (by rw [h.len]; exact hx)

theorem st_splice_yes (B C p gn gp n : Nat) (N P : List Nat) (W : List (List Nat)) (w : World) (h : RS B C p gn gp n N P W w) (x y : Nat) (hx : x < n) (hy : y < n) :
    Calls Try.prog 10 #[.pointer (some ⟨p, 0, none⟩), .int .i64 x, .int .i64 y] w fun e w' => e = .returned (.bool true) ∧ RS B C p gn gp n (nextS N x y) (prevS N P x y) (spliceZ W x y).1 w' ∧ Keeps [gn, gp] w w' := by
  have hl := h.len
  refine (splice_yes w p gn gp N P h.ra (by rw [hl]; exact h.sm) x y (by omega) (by omega) (by rw [hl]; exact (h.st.inv x hx).1) (by rw [hl]; exact (h.st.inv y hy).1) (fun e e2 => e (h.st.inj hx hy e2))).mono ?_
  rintro e w' ⟨rfl, h1, h2⟩
  exact ⟨rfl, ⟨h1, (h.st.splice hx hy).2, h.lo, h.hi, h.sm⟩, h2⟩

theorem st_splice (B C p gn gp n : Nat) (N P : List Nat) (W : List (List Nat)) (w : World) (h : RS B C p gn gp n N P W w) (x y : Int) :
    Calls Try.prog 10 #[.pointer (some ⟨p, 0, none⟩), .int .i64 x, .int .i64 y] w fun e w' => e = .returned (.bool (spliceZ W x y).2) ∧ (∃ N' P', RS B C p gn gp n N' P' (spliceZ W x y).1 w') ∧ Keeps [gn, gp] w w' := by
  by_cases hx : (x < 0 ∨ (n : Int) ≤ x) ∨ (y < 0 ∨ (n : Int) ≤ y)
  · refine (splice_no w p gn gp N P h.ra x y (by rw [h.len]; exact hx)).mono ?_
    rintro e w' ⟨rfl, rfl⟩
    rw [h.st.splice_no hx]
    exact ⟨rfl, ⟨N, P, h⟩, Keeps.refl _ _⟩
  · obtain ⟨i, rfl⟩ := Int.eq_ofNat_of_zero_le (show 0 ≤ x by omega)
    obtain ⟨j, rfl⟩ := Int.eq_ofNat_of_zero_le (show 0 ≤ y by omega)
    refine (st_splice_yes B C p gn gp n N P W w h i j (by omega) (by omega)).mono ?_
    rintro e w' ⟨rfl, h1, h2⟩
    rw [(h.st.splice (x := i) (y := j) (by omega) (by omega)).1]
    exact ⟨rfl, ⟨_, _, h1⟩, h2⟩

theorem st_part_yes (B C p gn gp n : Nat) (N P : List Nat) (W : List (List Nat)) (w : World) (h : RS B C p gn gp n N P W w) (x : Nat) (hx : x < n) :
    Calls Try.prog 9 #[.pointer (some ⟨p, 0, none⟩), .int .i64 x] w fun e w' => e = .returned (.bool true) ∧ RS B C p gn gp n (nextS N x (fn P x)) (prevS N P x (fn P x)) (partZ W x).1 w' ∧ Keeps [gn, gp] w w' := by
  have hl := h.len
  obtain ⟨i1, i2, i3, i4⟩ := h.st.inv x hx
  refine (part_yes w p gn gp N P h.ra (by rw [hl]; exact h.sm) x (by omega) (by omega) (by omega) (by omega) (fun e e2 => e (h.st.inj hx i2 e2))).mono ?_
  rintro e w' ⟨rfl, h1, h2⟩
  exact ⟨rfl, ⟨h1, (h.st.part hx).2, h.lo, h.hi, h.sm⟩, h2⟩

theorem st_part (B C p gn gp n : Nat) (N P : List Nat) (W : List (List Nat)) (w : World) (h : RS B C p gn gp n N P W w) (x : Int) :
    Calls Try.prog 9 #[.pointer (some ⟨p, 0, none⟩), .int .i64 x] w fun e w' => e = .returned (.bool (partZ W x).2) ∧ (∃ N' P', RS B C p gn gp n N' P' (partZ W x).1 w') ∧ Keeps [gn, gp] w w' := by
  by_cases hx : x < 0 ∨ (n : Int) ≤ x
  · refine (part_no w p gn gp N P h.ra x (by rw [h.len]; exact hx)).mono ?_
    rintro e w' ⟨rfl, rfl⟩
    rw [h.st.part_no hx]
    exact ⟨rfl, ⟨N, P, h⟩, Keeps.refl _ _⟩
  · obtain ⟨i, rfl⟩ := Int.eq_ofNat_of_zero_le (show 0 ≤ x by omega)
    refine (st_part_yes B C p gn gp n N P W w h i (by omega)).mono ?_
    rintro e w' ⟨rfl, h1, h2⟩
    rw [(h.st.part (x := i) (by omega)).1]
    exact ⟨rfl, ⟨_, _, h1⟩, h2⟩

/-- All in rings of their own. -/
def alone (n : Nat) : List (List Nat) := (List.range n).map fun i => [i]

def NewSt (B : Nat) (w : World) (n : Nat) (e : Ending) (w' : World) : Prop :=
  ∃ p gn gp, e = .returned (.tuple #[.pointer (some ⟨p, 0, none⟩), .int .i64 0]) ∧ RS B w'.heap.size p gn gp n (List.range n) (List.range n) (alone n) w' ∧ Below w.heap.size w w'

theorem st_new (B : Nat) (w : World) (n : Nat) (hn : n ≤ 65536) (hB : B ≤ w.heap.size) : Calls Try.prog 8 #[.int .i64 n] w (NewSt B w n) := by
  refine (new_yes w n hn).mono ?_
  rintro e w' ⟨p, gn, gp, rfl, h1, h2, h3, h4, h5⟩
  exact ⟨p, gn, gp, rfl, ⟨h1, Rings.new n, by omega, h1.lt, by omega⟩, h2⟩

theorem eq_take {L M : List Nat} (h : L.length = M.length) {k : Nat} (hk : k < L.length) (he : L.take k = M.take k) :
    (fn L k = fn M k → L.take (k + 1) = M.take (k + 1)) ∧ (fn L k ≠ fn M k → L ≠ M) := by
  constructor
  · intro e
    rw [List.take_succ_eq_append_getElem hk, List.take_succ_eq_append_getElem (by omega), he]
    simp only [fn, List.getD, hk, show k < M.length by omega, List.getElem?_eq_getElem, Option.getD_some] at e
    rw [e]
  · intro e e2
    exact e (by rw [e2])

set_option maxHeartbeats 1000000 in
theorem same_calls (w : World) (B B' : Nat) (v u : Value) (L M : List Nat) (hL : IR B w v L) (hM : IR B' w u M) (hl : L.length < 70000) (hm : M.length < 70000) :
    Calls Try.prog 13 #[v, u] w fun e w' => e = .returned (.bool (decide (L = M))) ∧ Below w.heap.size w w' := by
  obtain ⟨ao, ca, rfl⟩ := hL.form
  obtain ⟨ap, cp, rfl⟩ := hM.form
  by_cases hlen : L.length = M.length
  · have hb : ((L.length : Int) != (M.length : Int)) = false := by simp [hlen]
    have HL := Lib.hid hlen
    go_enter Try.func13, Try.ntmps13
    clear hlen
    go_wp2_with fail
    go_loopg [13] (L.length + 1) (fun m s wr => ∃ k : Nat, k ≤ L.length ∧ m + k = L.length + 1 ∧ s = .int .i64 k ∧ L.take k = M.take k ∧ Below w.heap.size w wr)
    case atStart => exact ⟨0, by omega, by omega, rfl, by simp, Below.refl _ _⟩
    case round =>
      obtain ⟨k, hk, hgk, rfl, he, hbel⟩ := hrel
      have HG := Lib.hid hgk
      clear hgk
      by_cases hlt : k < L.length
      · have hkm : k < M.length := by have := HL.out; omega
        obtain ⟨g, rfl, glt, _, c0⟩ := hL.at k hlt
        obtain ⟨q, rfl, qlt, _, c1⟩ := hM.at k hkm
        obtain ⟨h1, h2⟩ := eq_take HL.out hlt he
        have H1 := Lib.hid h1
        have H2 := Lib.hid h2
        clear h1 h2 he
        generalize fn L k = a at *
        generalize fn M k = b at *
        have d0 : wr.cell? ⟨g, k, none⟩ = some (.int .i64 (a : Nat)) := (hbel.cell (p := ⟨g, k, none⟩) glt).trans c0
        have d1 : wr.cell? ⟨q, k, none⟩ = some (.int .i64 (b : Nat)) := (hbel.cell (p := ⟨q, k, none⟩) qlt).trans c1
        have hki : (0 : Int) ≤ (k : Int) := by omega
        have hkl : (k : Int) < (L.length : Int) := by omega
        have hkm' : (k : Int) < (M.length : Int) := by omega
        clear c0 c1
        by_cases hab : a = b
        · have hbb : ((a : Int) != (b : Int)) = false := by simp [hab]
          have he := H1.out hab
          have HE := Lib.hid he
          clear he hab
          go_wp2_with fail
          go_quiet (fail)
          go_wp2_with fail
          go_roundg (gk - 1)
          case measure => have := HG.out; omega
          case rel => exact ⟨k + 1, by omega, by have := HG.out; omega, by go_num, HE.out, hbel.trans ⟨rfl, rfl, rfl, Nat.le_refl _, fun _ _ => rfl⟩⟩
        · have hbb : ((a : Int) != (b : Int)) = true := by rw [bne_iff_ne]; omega
          have he := H2.out hab
          have hd : decide (L = M) = false := by rw [decide_eq_false_iff_not]; exact he
          have HD := Lib.hid hd
          clear he hab hd
          go_wp2_with fail
          go_quiet (fail)
          go_wp2
          go_ret
          exact ⟨by rw [HD.out]; rfl, hbel.trans ⟨rfl, rfl, rfl, Nat.le_refl _, fun _ _ => rfl⟩⟩
      · obtain rfl : k = L.length := by omega
        have hd : decide (L = M) = true := by
          rw [decide_eq_true_iff]
          rw [List.take_length] at he
          rw [he, HL.out, List.take_length]
        have HD := Lib.hid hd
        clear he hd
        go_wp2
        go_ret
        exact ⟨by rw [HD.out]; rfl, hbel⟩
  · have hb : ((L.length : Int) != (M.length : Int)) = true := by rw [bne_iff_ne]; omega
    have hd : decide (L = M) = false := by rw [decide_eq_false_iff_not]; intro e; exact hlen (by rw [e])
    have HD := Lib.hid hd
    clear hd hlen
    go_enter Try.func13, Try.ntmps13
    go_wp2
    go_ret
    exact ⟨by rw [HD.out]; rfl, Below.refl _ _⟩

theorem IR.of_lit (w : World) (L : List Nat) (cs : Array Value) (hcs : cs.toList = nCells L) (h : L.length ≤ 100) (k : Nat) (hk : k = L.length) : IR w.heap.size (w.alloc (.cells cs 3)) (.slice (some ⟨w.heap.size, 0, none⟩) k k) L := by
  subst hk
  have hsz : cs.size = L.length := by rw [← Array.length_toList, hcs, nCells_len]
  exact ⟨by rw [nCells_len]; omega, .inr ⟨w.heap.size, L.length, cs, rfl, Nat.le_refl _, blk_alloc_new _, Nat.le_refl _, by unfold maxLen; omega, by omega, by rw [hcs, Nat.mul_one, List.take_of_length_le (by rw [nCells_len]; omega)]⟩⟩

set_option maxHeartbeats 1000000 in
theorem alive_calls (w : World) : Calls Try.prog 7 #[] w fun e w' => e = .returned (.bool true) ∧ Below w.heap.size w w' := by
  go_enter Try.func7, Try.ntmps7
  go_wp2_with fail
  refine (st_new w.heap.size w 3 (by omega) (Nat.le_refl _)).mono ?_
  rintro e w1 ⟨p, gn, gp, rfl, h1, b1⟩
  go_wp2_with fail
  refine (st_splice _ _ _ _ _ _ _ _ _ _ h1 0 1).mono ?_
  rintro e w2 ⟨rfl, ⟨N2, P2, h2⟩, k2⟩
  have b2 := b1.trans (h1.keepB k2 b1.size)
  have e2 : spliceZ (alone 3) 0 1 = ([[2], [0, 1]], true) := by decide
  rw [e2] at h2 ⊢
  have s2 := k2.size
  clear h1 k2 b1
  go_wp2_with fail
  refine (st_splice _ _ _ _ _ _ _ _ _ _ h2 0 2).mono ?_
  rintro e w3 ⟨rfl, ⟨N3, P3, h3⟩, k3⟩
  have b3 := b2.trans (h2.keepB k3 b2.size)
  have e3 : spliceZ [[2], [0, 1]] 0 2 = ([[0, 2, 1]], true) := by decide
  rw [e3] at h3 ⊢
  have s3 := k3.size
  clear h2 k3 b2
  go_wp2_with fail
  refine (st_all _ _ _ _ _ _ _ _ _ _ h3 0).mono ?_
  rintro e w4 ⟨v, rfl, hv, b4⟩
  have h4 := h3.below b4
  have b5 := b3.trans (b4.mono b3.size)
  have e4 : allZ [[0, 2, 1]] 0 = [0, 2, 1] := by decide
  rw [e4] at hv
  have hv := hv.lo (show w1.heap.size ≤ w3.heap.size by omega)
  have s4 := b4.size
  clear h3 b3 b4
  go_wp2_with fail
  refine (st_part _ _ _ _ _ _ _ _ _ _ h4 2).mono ?_
  rintro e w5 ⟨rfl, ⟨N5, P5, h5⟩, k5⟩
  have b6 := b5.trans (h4.keepB k5 b5.size)
  have e5 : partZ [[0, 2, 1]] 2 = ([[2], [1, 0]], true) := by decide
  rw [e5] at h5 ⊢
  have hv5 := h4.keepI k5 hv
  have s5 := k5.size
  clear h4 k5 b5 hv
  have hv6 := hv5.alloc (.cells #[.int .i64 0, .int .i64 2, .int .i64 1] 3)
  have hu6 := IR.of_lit w5 [0, 2, 1] #[.int .i64 0, .int .i64 2, .int .i64 1] rfl (by simp) 3 rfl
  have h6 := h5.below ((Below.refl _ w5).alloc (Nat.le_refl _) (.cells #[.int .i64 0, .int .i64 2, .int .i64 1] 3))
  have b7 := b6.alloc b6.size (.cells #[.int .i64 0, .int .i64 2, .int .i64 1] 3)
  clear h5 b6 hv5
  go_wp2_with fail
  refine (same_calls _ _ _ _ _ _ _ hv6 hu6 (by simp) (by simp)).mono ?_
  rintro e w7 ⟨rfl, b8⟩
  have e7 : decide (([0, 2, 1] : List Nat) = [0, 2, 1]) = true := by decide
  rw [e7]
  have h8 := h6.below b8
  have b9 := b7.trans (b8.mono b7.size)
  clear h6 b7 b8 hv6 hu6
  go_wp2_with fail
  refine (st_all _ _ _ _ _ _ _ _ _ _ h8 0).mono ?_
  rintro e w8 ⟨v8, rfl, hv8, b10⟩
  have b11 := b9.trans (b10.mono b9.size)
  have e8 : allZ [[2], [1, 0]] 0 = [0, 1] := by decide
  rw [e8] at hv8
  have hv9 := hv8.alloc (.cells #[.int .i64 0, .int .i64 1] 3)
  have hu9 := IR.of_lit w8 [0, 1] #[.int .i64 0, .int .i64 1] rfl (by simp) 2 rfl
  have b12 := b11.alloc b11.size (.cells #[.int .i64 0, .int .i64 1] 3)
  clear h8 b9 b10 b11 hv8
  go_wp2_with fail
  refine (same_calls _ _ _ _ _ _ _ hv9 hu9 (by simp) (by simp)).mono ?_
  rintro e w9 ⟨rfl, b13⟩
  have e9 : decide (([0, 1] : List Nat) = [0, 1]) = true := by decide
  rw [e9]
  have b14 := b12.trans (b13.mono b12.size)
  clear b12 b13 hv9 hu9
  go_wp2
  go_ret
  exact ⟨rfl, b14⟩

end Go.Proofs.Ytnpglgkpdikcjaa

/-
  The contract of 'Splice' of package haycockref15.
-/
import Derived.Test.YtnpglgkpdikcjaaRef15B
namespace Go.Proofs.Ytnpglgkpdikcjaa
open Go.RowKit
set_option linter.unusedVariables false

theorem wlen {n : Nat} {N P : List Nat} {W : List (List Nat)} (h : Rings n N P W) : W.length ≤ n ∧ ∀ l ∈ W, l.length ≤ n := by
  have h1 : W.flatten.length ≤ n := nodup_len h.nd (fun i hi => (h.mem i).1 hi)
  have h2 : ∀ V : List (List Nat), (∀ l ∈ V, 1 ≤ l.length) → V.length ≤ V.flatten.length := by
    intro V hV
    induction V with
    | nil => simp
    | cons a V ih =>
      have h3 := hV a (by simp)
      have h4 := ih (fun l hl => hV l (by simp [hl]))
      simp only [List.length_cons, List.flatten_cons, List.length_append]
      omega
  refine ⟨Nat.le_trans (h2 W fun l hl => ?_) h1, fun l hl => ?_⟩
  · obtain ⟨x, t, e, _⟩ := h.ring l hl
    rw [e]; simp
  · exact nodup_len (nodup_of h.nd hl) (fun i hi => (h.mem i).1 (List.mem_flatten.2 ⟨l, hl, hi⟩))

theorem row_some {B : Nat} {w : World} {e size n cap : Nat} {ao : Option Addr} {xs : List Value} (h : w.ownsRow B e size (.slice ao n cap) n xs) (h0 : 0 < n) : ∃ g, ao = some ⟨g, 0, none⟩ := by
  rcases h.2 with ⟨_, h1⟩ | ⟨g, cap', cur, hv, _⟩
  · omega
  · cases hv; exact ⟨g, rfl⟩

theorem row_own {B e size n : Nat} {w : World} {v : Value} {xs : List Value} (h : w.ownsRow B e size v n xs) : ∀ b, v.ownBlock = some b → B ≤ b := by
  intro b hb
  rcases h.2 with ⟨rfl, _⟩ | ⟨g, cap, cur, rfl, h1, _⟩
  · cases hb
  · cases hb; exact h1

theorem IR.full {B C : Nat} {w : World} {v : Value} {L : List Nat} {n : Nat} {xs : List Value} (h : w.ownsRow B 3 1 v n xs) (hn : n = L.length) (hx : xs = nCells L) (hc : ∀ b, v.ownBlock = some b → C ≤ b) : IR C w v L := by
  subst hn
  subst hx
  exact row_base h hc

theorem r15_splice_no (w : World) (B : Nat) (v : Value) (n : Nat) (N P : List Nat) (W : List (List Nat)) (hst : Rings n N P W) (hn : n < 60000) (h : WR B w v W) (hB : B ≤ w.heap.size) (x y : Int) (hx : (x < 0 ∨ (n : Int) ≤ x) ∨ (y < 0 ∨ (n : Int) ≤ y)) :
    Calls Try.prog 21 #[v, .int .i64 x, .int .i64 y] w fun e w' => e = .returned (.tuple #[v, .bool false]) ∧ Below w.heap.size w w' := by
  obtain ⟨w1, w2⟩ := wlen hst
  have al1 := all_len hst x
  have al2 := all_len hst y
  have hor : (allZ W x).length = 0 ∨ 0 < (allZ W x).length ∧ (allZ W y).length = 0 := by
    rcases hx with hx | hx
    · left; rw [hst.out hx]; rfl
    · by_cases h0 : (allZ W x).length = 0
      · exact .inl h0
      · right; exact ⟨by omega, by rw [hst.out hx]; rfl⟩
  have hor2 : decide ((allZ W x).length = 0) = true ∨ decide ((allZ W x).length = 0) = false ∧ decide ((allZ W y).length = 0) = true := by
    rcases hor with h | h
    · exact .inl (decide_eq_true h)
    · exact .inr ⟨decide_eq_false (by omega), decide_eq_true h.2⟩
  clear hor hx
  go_enter Try.func21, Try.ntmps21
  go_wp2_with fail
  refine (r15_all w B v W h (by omega) (fun l hl => by have := w2 l hl; omega) x).mono ?_
  rintro e w3 ⟨va, rfl, hva, b3⟩
  obtain ⟨aa, ca, rfl⟩ := hva.form
  have h3 := h.below b3
  go_wp2_with fail
  refine (r15_all w3 B v W h3 (by omega) (fun l hl => by have := w2 l hl; omega) y).mono ?_
  rintro e w4 ⟨vb, rfl, hvb, b4⟩
  obtain ⟨ab, cb, rfl⟩ := hvb.form
  have b5 := b3.trans (b4.mono b3.size)
  clear hva hvb h3 h b3 b4
  generalize (allZ W x).length = q1 at *
  generalize (allZ W y).length = q2 at *
  rcases hor2 with f1 | ⟨f1, f2⟩
  all_goals
    simp only [decide_eq_true_eq, decide_eq_false_iff_not] at *
    go_wp2
    go_ret2
    exact ⟨rfl, b5⟩

theorem r15_splice_self (w : World) (B : Nat) (v : Value) (n : Nat) (N P : List Nat) (W : List (List Nat)) (hst : Rings n N P W) (hn : n < 60000) (h : WR B w v W) (hB : B ≤ w.heap.size) (x : Nat) (hx : x < n) :
    Calls Try.prog 21 #[v, .int .i64 x, .int .i64 x] w fun e w' => e = .returned (.tuple #[v, .bool true]) ∧ Below w.heap.size w w' := by
  obtain ⟨w1, w2⟩ := wlen hst
  obtain ⟨_, r, _, _, har, _⟩ := hst.home hx
  have hlen : (((allZ W x).length : Int) == 0) = false := by rw [har, beq_eq_false_iff_ne]; simp; omega
  have hxx : ((x : Int) == (x : Int)) = true := by simp
  clear har
  go_enter Try.func21, Try.ntmps21
  go_wp2_with fail
  refine (r15_all w B v W h (by omega) (fun l hl => by have := w2 l hl; omega) x).mono ?_
  rintro e w3 ⟨va, rfl, hva, b3⟩
  obtain ⟨aa, ca, rfl⟩ := hva.form
  have h3 := h.below b3
  go_wp2_with fail
  refine (r15_all w3 B v W h3 (by omega) (fun l hl => by have := w2 l hl; omega) x).mono ?_
  rintro e w4 ⟨vb, rfl, hvb, b4⟩
  obtain ⟨ab, cb, rfl⟩ := hvb.form
  have b5 := b3.trans (b4.mono b3.size)
  clear hva hvb h3 h b3 b4
  generalize (allZ W x).length = q1 at *
  go_wp2
  go_ret2
  exact ⟨rfl, b5⟩

set_option maxHeartbeats 4000000 in
theorem r15_splice_join (w : World) (B : Nat) (v : Value) (n : Nat) (N P : List Nat) (W : List (List Nat)) (hst : Rings n N P W) (hn : n < 60000) (h : WR B w v W) (hB : B ≤ w.heap.size) (x y : Nat) (hx : x < n) (hy : y < n) (hxy : x ≠ y) (hno : (allZ W x).findIdx? (isI y) = none) :
    Calls Try.prog 21 #[v, .int .i64 x, .int .i64 y] w fun e w' => ∃ v', e = .returned (.tuple #[v', .bool true]) ∧ WR B w' v' (withoutZ W x y ++ [x :: (allZ W y).tail ++ y :: (allZ W x).tail]) ∧ Below w.heap.size w w' := by
  obtain ⟨w1, w2⟩ := wlen hst
  obtain ⟨_, rx, _, _, hax, _⟩ := hst.home hx
  obtain ⟨_, ry, _, _, hay, _⟩ := hst.home hy
  have alx := all_len hst (x : Int)
  have aly := all_len hst (y : Int)
  have hwol : (withoutZ W x y).length ≤ n := Nat.le_trans (List.length_filter_le _ _) w1
  have hp : placeZ (allZ W x) y = -1 := by simp only [placeZ, hno]
  rw [hax] at alx hp
  rw [hay] at aly
  rw [hax, hay]
  simp only [List.tail_cons]
  have hxy2 : ((x : Int) == (y : Int)) = false := by rw [beq_eq_false_iff_ne]; omega
  obtain ⟨na, hna⟩ : ∃ q, q = (x :: rx).length := ⟨_, rfl⟩
  obtain ⟨nb, hnb⟩ : ∃ q, q = (y :: ry).length := ⟨_, rfl⟩
  have HNA := Lib.hid hna
  have HNB := Lib.hid hnb
  have na1 : rx.length + 1 ≤ na ∧ na ≤ rx.length + 1 := by simp at hna; omega
  have nb1 : ry.length + 1 ≤ nb ∧ nb ≤ ry.length + 1 := by simp at hnb; omega
  obtain ⟨na1, na2⟩ := na1
  obtain ⟨nb1, nb2⟩ := nb1
  have hl1 : ((na : Int) == 0) = false := by rw [beq_eq_false_iff_ne]; omega
  have hl2 : ((nb : Int) == 0) = false := by rw [beq_eq_false_iff_ne]; omega
  simp only [List.length_cons] at alx aly
  clear hna hnb
  have HP := Lib.hid hp
  have HAX := Lib.hid hax
  have HAY := Lib.hid hay
  clear hp hno hxy hax hay
  go_enter Try.func21, Try.ntmps21
  go_wp2_with fail
  refine (r15_all w B v W h (by omega) (fun l hl => by have := w2 l hl; omega) x).mono ?_
  rintro e w3 ⟨va, rfl, hva, b3⟩
  rw [HAX.out] at hva
  have hva := hva.lo (Nat.zero_le _)
  obtain ⟨aa, ca, rfl⟩ := hva.form
  rw [← HNA.out] at hva ⊢
  have h3 := h.below b3
  go_wp2_with fail
  refine (r15_all w3 B v W h3 (by omega) (fun l hl => by have := w2 l hl; omega) y).mono ?_
  rintro e w4 ⟨vb, rfl, hvb, b4⟩
  rw [HAY.out] at hvb
  have hvb := hvb.lo (Nat.zero_le _)
  obtain ⟨ab, cb, rfl⟩ := hvb.form
  rw [← HNB.out] at hvb ⊢
  have b5 := b3.trans (b4.mono b3.size)
  have hva := hva.below b4
  have h4 := h3.below b4
  clear h3 h b3 b4
  go_wp2_with fail
  refine (r15_without w4 B v W h4 (Nat.le_trans hB b5.size) (by omega) (fun l hl => by have := w2 l hl; omega) x y).mono ?_
  rintro e w5 ⟨vo, rfl, hvo, b6, hob⟩
  obtain ⟨av, cv, rfl⟩ := hvo.form
  have hva := hva.below b6
  have hvb := hvb.below b6
  have b7 := b5.trans (b6.mono b5.size)
  have s4 := b5.size
  clear h4 b5 b6
  go_wp2_with fail
  refine (r15_place w5 0 _ (x :: rx) hva (by simp; omega) y).mono ?_
  rintro e w' ⟨rfl, rfl⟩
  rw [HP.out]
  obtain ⟨ga, rfl⟩ := row_some (n := na) (by have h0 := hva; unfold IR at h0; rw [← HNA.out] at h0; exact h0) (by omega)
  obtain ⟨gb, rfl⟩ := row_some (n := nb) (by have h0 := hvb; unfold IR at h0; rw [← HNB.out] at h0; exact h0) (by omega)
  have galt := (hva.own ga rfl).2
  have gblt := (hvb.own gb rfl).2
  have hln : (nCells ry).length = ry.length := nCells_len ry
  have hlm : (nCells rx).length = rx.length := nCells_len rx
  have hon := nCells_one ry
  have hom := nCells_one rx
  have hcap1 : na ≤ ca := (row_cap (by have h0 := hva; unfold IR at h0; rw [← HNA.out] at h0; exact h0)).1
  have hcap2 : nb ≤ cb := (row_cap (by have h0 := hvb; unfold IR at h0; rw [← HNB.out] at h0; exact h0)).1
  have hk1 : (1 : Nat) ≤ cb := by omega
  have hk2 : (1 : Nat) ≤ ca := by omega
  have hk3 : (1 : Nat) ≤ nb := by omega
  have hk4 : (1 : Nat) ≤ na := by omega
  have hk5 : (1 : Int) ≤ (na : Int) := by omega
  have hk6 : (1 : Int) ≤ (nb : Int) := by omega
  have bx : Below w5.heap.size w5 (w5.alloc (.cells #[.int .i64 (x : Int)] 3)) := (Below.refl _ _).alloc (Nat.le_refl _) _
  have hrx := row_one_new (w := w5) (e := 3) (u := .int .i64 (x : Int)) rfl
  have hnb1 : ry.length = nb - 1 := by omega
  have HNB1 := Lib.hid hnb1
  clear hnb1
  have hcb1 : cb = 1 ∨ ¬ cb = 1 := by omega
  have hnews := hvb.rest (w' := w5.alloc (.cells #[.int .i64 (x : Int)] 3)) (by rw [HNB.out]) bx 1
  simp only [List.drop_succ_cons, List.drop_zero] at hnews
  rcases hcb1 with rfl | hcb1
  case' inl =>
    clear hcap2
    have hnews2 : ∃ ad : Addr, some (⟨gb, 0, none⟩ : Addr) = some ad ∧ ∀ j u, (nCells ry)[j]? = some u → (w5.alloc (.cells #[.int .i64 (x : Int)] 3)).cell? (ad.add j) = some u := by simpa using hnews
    have HNEWS := Lib.hid hnews2
    clear hnews hnews2
    go_upto_region 10 with fail
    go_cut [12] (fun s wc => ∃ al cl, s = .slice al nb cl ∧ IR w5.heap.size wc s (x :: ry) ∧ Below w5.heap.size w5 wc)
    case first =>
      go_wp2_with (at_builtin; refine wpList_full rfl (.tmp 42) (.tmp 44) 33 rfl 3 (.int .i64 0) 8 Try.underlying33 Try.infoInt rfl _ w5.heap.size 1 _ (by simp [Act.eval]) hrx _ (nb - 1) 0 (nCells ry) (by simp [Act.eval]) (by rw [hln, HNB1.out]) HNEWS.out hon (by unfold maxLen; omega) (by omega) ?_)
      all_goals
        intro vl wl hl1 hl2 hl3
        have hfin : IR w5.heap.size wl vl (x :: ry) := IR.full hl1 (by rw [List.length_cons, HNB1.out]; omega) (by simp [nCells]) (fun q hq => by rcases hl3 q hq with h | h <;> omega)
        have hbl := below_ad2 bx (by simpa using hl2)
        obtain ⟨al, cl, rfl⟩ := row_form hl1
        clear hl1 hl2 hl3
        go_wp2_with fail
        go_meet
        exact ⟨al, cl, rfl, hfin, hbl⟩
  case' inr =>
    have hnews2 : ∃ ad : Addr, some (⟨gb, 1, none⟩ : Addr) = some ad ∧ ∀ j u, (nCells ry)[j]? = some u → (w5.alloc (.cells #[.int .i64 (x : Int)] 3)).cell? (ad.add j) = some u := by simpa [hcb1] using hnews
    have HNEWS := Lib.hid hnews2
    clear hnews hnews2
    go_upto_region 10 with fail
    go_cut [12] (fun s wc => ∃ al cl, s = .slice al nb cl ∧ IR w5.heap.size wc s (x :: ry) ∧ Below w5.heap.size w5 wc)
    case first =>
      go_wp2_with (at_builtin; refine wpList_full rfl (.tmp 42) (.tmp 44) 33 rfl 3 (.int .i64 0) 8 Try.underlying33 Try.infoInt rfl _ w5.heap.size 1 _ (by simp [Act.eval]) hrx _ (nb - 1) (cb - 1) (nCells ry) (by simp [Act.eval]) (by rw [hln, HNB1.out]) HNEWS.out hon (by unfold maxLen; omega) (by omega) ?_)
      all_goals
        intro vl wl hl1 hl2 hl3
        have hfin : IR w5.heap.size wl vl (x :: ry) := IR.full hl1 (by rw [List.length_cons, HNB1.out]; omega) (by simp [nCells]) (fun q hq => by rcases hl3 q hq with h | h <;> omega)
        have hbl := below_ad2 bx (by simpa using hl2)
        obtain ⟨al, cl, rfl⟩ := row_form hl1
        clear hl1 hl2 hl3
        go_wp2_with fail
        go_meet
        exact ⟨al, cl, rfl, hfin, hbl⟩
  all_goals
    obtain ⟨al, cl, rfl, hvl, bl⟩ := hcut
    obtain ⟨vs, ho1, ho2⟩ := hvo
    have HO2 := Lib.hid ho2
    have hrl : (wc.alloc (.cells #[.int .i64 (y : Int)] 3)).drew.ownsRow w5.heap.size 3 1 (.slice al nb cl) nb (nCells (x :: ry)) := by
      have h0 := hvl.alloc (.cells #[.int .i64 (y : Int)] 3)
      unfold IR at h0
      rw [show (x :: ry).length = nb by rw [HNB.out]; rfl] at h0
      exact h0
    have bl2 : Below w5.heap.size w5 (wc.alloc (.cells #[.int .i64 (y : Int)] 3)).drew := below_ad2 bl (below_ad _ _)
    have hny : ∃ ad : Addr, some (⟨wc.heap.size, 0, none⟩ : Addr) = some ad ∧ ∀ j u, [Value.int .i64 (y : Int)][j]? = some u → (wc.alloc (.cells #[.int .i64 (y : Int)] 3)).drew.cell? (ad.add j) = some u := new_one rfl
    have hown := hvl.own
    clear HNEWS HNB1 bx hrx ho2
    go_upto_region 11 with fail
    have hkb : ca = 1 ∨ ¬ ca = 1 := by omega
    rcases hkb with hk9 | hk9
    all_goals
      go_region_law (first
        | (refine step_own rfl (.tmp 47) (.tmp 49) 33 rfl 3 (.int .i64 0) 8 Try.underlying33 Try.infoInt rfl w5.heap.size _ bl2.size _ _ _ rfl hrl _ 1 _ [.int .i64 (y : Int)] rfl rfl hny (by simp [Value.oneCell']) (by unfold maxLen; omega) (by omega) ?_; intro v1 wz1 hv1 hv2; have bz1 := below_grown bl2 hv2 (fun q hq => (hown q hq).1); obtain ⟨a1, c1, rfl⟩ := row_form hv1)
        | (refine step_own rfl (.tmp 50) (.tmp 52) 33 rfl 3 (.int .i64 0) 8 Try.underlying33 Try.infoInt rfl w5.heap.size _ bz1.size _ _ _ rfl hv1 _ (na - 1) _ (nCells rx) rfl (by omega) (by have := hva.rest (by rw [HNA.out]) bz1 1; simpa [hk9] using this) hom (by unfold maxLen; omega) (by omega) ?_; intro v2 wz2 hv3 hv4; have bz2 := below_grown bz1 hv4 (fun q hq => (row_own hv1 q hq)); obtain ⟨a2, c2, rfl⟩ := row_form hv3; have bz3 := below_ad2 bz2 ((Below.refl _ _).alloc (Nat.le_refl _) (.cells #[.slice a2 (nb + 1 + (na - 1)) c2] 33)); have ho3 := row_up ho1 bz3)
        | (refine step_own rfl (.tmp 46) (.tmp 54) 41 rfl 33 (.slice none 0 0) 24 Try.underlying41 Try.infoRow rfl B _ (Nat.le_trans hB (Nat.le_trans (b7.size) bz3.size)) _ _ _ rfl ho3 _ 1 _ [.slice a2 (nb + 1 + (na - 1)) c2] rfl rfl (new_one rfl) (by simp [Value.oneCell']) (by unfold maxLen; omega) (by omega) ?_; intro v3 wz3 hv5 hv6))
      have hir : IR B (wz2.alloc (.cells #[.slice a2 (nb + 1 + (na - 1)) c2] 33)) (.slice a2 (nb + 1 + (na - 1)) c2) (x :: (ry ++ y :: rx)) :=
        (IR.full (C := B) hv3 (by simp; omega) (by simp [nCells]) (fun q hq => by have := row_own hv3 q hq; have := b7.size; omega)).alloc _
      have hres : WR B wz3 v3 (withoutZ W x y ++ [x :: (ry ++ y :: rx)]) := by
        refine WR.push ho3 (fun i l hi => ?_) (K := [x :: (ry ++ y :: rx)]) (us := [.slice a2 (nb + 1 + (na - 1)) c2]) (fun i l hi => ?_) (by simpa using hv5) hv6
        · obtain ⟨u, h1, h2⟩ := HO2.out i l hi
          exact ⟨u, h1, h2.below bz3⟩
        · cases i with
          | zero => simp at hi; subst hi; exact ⟨_, rfl, hir⟩
          | succ i => simp at hi
      have hbf := below_grown (b7.trans (bz3.mono b7.size)) hv6 (fun q hq => Nat.le_trans s4 (hob q hq))
      clear hv1 hv2 hv3 hv4 hv5 hv6 bz1 bz2 bz3 hir ho3 ho1 HO2 hrl hny hown bl bl2 hva hvb hvl
      go_wp2
      go_ret2
      exact ⟨v3, rfl, hres, hbf⟩

end Go.Proofs.Ytnpglgkpdikcjaa

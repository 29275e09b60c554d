/-
  The contract of 'Splice' of package haycockref15, where one ring becomes two.
-/
import Derived.Test.YtnpglgkpdikcjaaRef15C
namespace Go.Proofs.Ytnpglgkpdikcjaa
open Go.RowKit
set_option linter.unusedVariables false

theorem below_al (w : World) (o : Obj) : Below w.heap.size w (w.alloc o) := (Below.refl _ _).alloc (Nat.le_refl _) _

set_option maxHeartbeats 4000000 in
theorem r15_splice_cut (w : World) (B : Nat) (v : Value) (n : Nat) (N P : List Nat) (W : List (List Nat)) (hst : Rings n N P W) (hn : n < 60000) (h : WR B w v W) (hB : B ≤ w.heap.size) (x y : Nat) (hx : x < n) (hy : y < n) (hxy : x ≠ y) (s t : List Nat) (hax : allZ W x = x :: (s ++ y :: t)) (hys : y ∉ s) :
    Calls Try.prog 21 #[v, .int .i64 x, .int .i64 y] w fun e w' => ∃ v', e = .returned (.tuple #[v', .bool true]) ∧ WR B w' v' (withoutZ W x y ++ [x :: t, y :: s]) ∧ Below w.heap.size w w' := by
  obtain ⟨w1, w2⟩ := wlen hst
  obtain ⟨_, ry, _, _, hay, _⟩ := hst.home hy
  have alx := all_len hst (x : Int)
  have aly := all_len hst (y : Int)
  have hwol : (withoutZ W x y).length ≤ n := Nat.le_trans (List.length_filter_le _ _) w1
  have hp : placeZ (allZ W x) y = ((s.length + 1 : Nat) : Int) := by
    have := findIdx_some (s := x :: s) (t := t) (y := y) (by simp only [List.mem_cons, not_or]; exact ⟨fun h => hxy h.symm, hys⟩)
    rw [hax]
    simp only [placeZ]
    rw [← List.cons_append, this]
    rfl
  rw [hax] at alx hp
  rw [hay] at aly
  have hxy2 : ((x : Int) == (y : Int)) = false := by rw [beq_eq_false_iff_ne]; omega
  obtain ⟨na, hna⟩ : ∃ q, q = (x :: (s ++ y :: t)).length := ⟨_, rfl⟩
  obtain ⟨nb, hnb⟩ : ∃ q, q = (y :: ry).length := ⟨_, rfl⟩
  obtain ⟨i, hi⟩ : ∃ q, q = s.length + 1 := ⟨_, rfl⟩
  rw [← hi] at hp
  have HNA := Lib.hid hna
  have HNB := Lib.hid hnb
  have na1 : i + 1 + t.length ≤ na ∧ na ≤ i + 1 + t.length := by simp at hna; omega
  have nb1 : ry.length + 1 ≤ nb ∧ nb ≤ ry.length + 1 := by simp at hnb; omega
  obtain ⟨na1, na2⟩ := na1
  obtain ⟨nb1, nb2⟩ := nb1
  have hi1 : s.length + 1 ≤ i := by omega
  have hi2 : i ≤ s.length + 1 := by omega
  have HI := Lib.hid hi
  have hl1 : ((na : Int) == 0) = false := by rw [beq_eq_false_iff_ne]; omega
  have hl2 : ((nb : Int) == 0) = false := by rw [beq_eq_false_iff_ne]; omega
  simp only [List.length_cons, List.length_append] at alx aly
  have HP := Lib.hid hp
  have HAX := Lib.hid hax
  have HAY := Lib.hid hay
  clear hp hna hnb hi hxy hax hay hys
  go_enter Try.func21, Try.ntmps21
  go_wp2_with fail
  refine (r15_all w B v W h (by omega) (fun l hl => by have := w2 l hl; omega) x).mono ?_
  rintro e w3 ⟨va, rfl, hva, b3⟩
  rw [HAX.out] at hva
  have hva := hva.lo (Nat.zero_le _)
  obtain ⟨aa, ca, rfl⟩ := hva.form
  rw [← HNA.out] at hva ⊢
  have h3 := h.below b3
  go_wp2_with fail
  refine (r15_all w3 B v W h3 (by omega) (fun l hl => by have := w2 l hl; omega) y).mono ?_
  rintro e w4 ⟨vb, rfl, hvb, b4⟩
  rw [HAY.out] at hvb
  have hvb := hvb.lo (Nat.zero_le _)
  obtain ⟨ab, cb, rfl⟩ := hvb.form
  rw [← HNB.out] at hvb ⊢
  have b5 := b3.trans (b4.mono b3.size)
  have hva := hva.below b4
  have h4 := h3.below b4
  clear h3 h b3 b4 hvb
  go_wp2_with fail
  refine (r15_without w4 B v W h4 (Nat.le_trans hB b5.size) (by omega) (fun l hl => by have := w2 l hl; omega) x y).mono ?_
  rintro e w5 ⟨vo, rfl, hvo, b6, hob⟩
  obtain ⟨av, cv, rfl⟩ := hvo.form
  have hva := hva.below b6
  have b7 := b5.trans (b6.mono b5.size)
  have s4 := b5.size
  clear h4 b5 b6
  go_wp2_with fail
  refine (r15_place w5 0 _ (x :: (s ++ y :: t)) hva (by rw [← HNA.out]; omega) y).mono ?_
  rintro e w' ⟨rfl, rfl⟩
  rw [HP.out]
  have hrow := hva
  unfold IR at hrow
  rw [← HNA.out] at hrow
  obtain ⟨ga, rfl⟩ := row_some hrow (by omega)
  have hcap1 : na ≤ ca := (row_cap hrow).1
  have hln : (nCells t).length = na - (i + 1) := by rw [nCells_len]; omega
  have hlm : (nCells s).length = i - 1 := by rw [nCells_len]; omega
  have hon := nCells_one t
  have hom := nCells_one s
  have hk1 : ¬ ca = 1 := by omega
  have hk2 : (1 : Int) ≤ (i : Int) := by omega
  have hk3 : (i : Int) ≤ (na : Int) := by omega
  have hk4 : (i : Int) ≤ (ca : Int) := by omega
  have hk5 : IntKind.i64.wrap ((i : Int) + 1) = (i : Int) + 1 := by rw [IntKind.wrap_i64]; omega
  have hk6 : (0 : Int) ≤ (i : Int) + 1 := by omega
  have hk7 : (i : Int) + 1 ≤ (na : Int) := by omega
  have hk8 : ((i : Int) + 1).toNat = i + 1 := by omega
  have hk9 : (i : Int) + 1 ≤ (ca : Int) := by omega
  have hkx : (i : Int) ≤ (i : Int) + 1 := by omega
  have hki : ¬ i = 0 := by omega
  have hkn : i ≤ na := by omega
  have hkc : i ≤ ca := by omega
  have hkm : i + 1 ≤ na := by omega
  have hkd : i + 1 ≤ ca := by omega
  have hkl : decide ((i : Int) < 0) = false := by rw [decide_eq_false_iff_not]; omega
  have hd1 : (x :: (s ++ y :: t)).drop (i + 1) = t := by
    rw [HI.out]
    simp
  have hd2 : ((x :: (s ++ y :: t)).drop 1).take (i - 1) = s := by
    rw [HI.out]
    simp
  have HD1 := Lib.hid hd1
  have HD2 := Lib.hid hd2
  obtain ⟨vs, ho1, ho2⟩ := hvo
  have HO2 := Lib.hid ho2
  clear ho2 hrow hd1 hd2
  have p1 : (w5.alloc (.cells #[.int .i64 (x : Int)] 3)).drew.ownsRow 0 3 1 (.slice (some ⟨w5.heap.size, 0, none⟩) 1 1) 1 [.int .i64 (x : Int)] := row_up (row_one_new rfl) (below_drew' _)
  have q1 : (w5.alloc (.cells #[.int .i64 (y : Int)] 3)).drew.ownsRow 0 3 1 (.slice (some ⟨w5.heap.size, 0, none⟩) 1 1) 1 [.int .i64 (y : Int)] := row_up (row_one_new rfl) (below_drew' _)
  have p2 : ((w5.alloc (.cells #[.int .i64 (x : Int)] 3)).alloc (.cells #[.int .i64 (y : Int)] 3)).drew.ownsRow 0 3 1 (.slice (some ⟨w5.heap.size, 0, none⟩) 1 1) 1 [.int .i64 (x : Int)] := row_up ((row_one_new rfl).alloc _) (below_drew' _)
  have q3 : ((w5.alloc (.cells #[.int .i64 (x : Int)] 3)).alloc (.cells #[.int .i64 (y : Int)] 3)).drew.ownsRow 0 3 1 (.slice (some ⟨w5.heap.size + 1, 0, none⟩) 1 1) 1 [.int .i64 (y : Int)] := row_up (row_one_new (by simp)) (below_drew' _)
  have q2 : ((w5.alloc (.cells #[.int .i64 (y : Int)] 3)).alloc (.cells #[.int .i64 (x : Int)] 3)).drew.ownsRow 0 3 1 (.slice (some ⟨w5.heap.size, 0, none⟩) 1 1) 1 [.int .i64 (y : Int)] := row_up ((row_one_new rfl).alloc _) (below_drew' _)
  have p3 : ((w5.alloc (.cells #[.int .i64 (y : Int)] 3)).alloc (.cells #[.int .i64 (x : Int)] 3)).drew.ownsRow 0 3 1 (.slice (some ⟨w5.heap.size + 1, 0, none⟩) 1 1) 1 [.int .i64 (x : Int)] := row_up (row_one_new (by simp)) (below_drew' _)
  have c1 : Below w5.heap.size w5 (w5.alloc (.cells #[.int .i64 (x : Int)] 3)).drew := below_ad _ _
  have d1 : Below w5.heap.size w5 (w5.alloc (.cells #[.int .i64 (y : Int)] 3)).drew := below_ad _ _
  have c2 : Below w5.heap.size w5 ((w5.alloc (.cells #[.int .i64 (x : Int)] 3)).alloc (.cells #[.int .i64 (y : Int)] 3)).drew := below_ad2 (below_al _ _) (below_ad _ _)
  have d2 : Below w5.heap.size w5 ((w5.alloc (.cells #[.int .i64 (y : Int)] 3)).alloc (.cells #[.int .i64 (x : Int)] 3)).drew := below_ad2 (below_al _ _) (below_ad _ _)
  go_wp2_with fail
  have hkb : ca = i + 1 ∨ ¬ ca = i + 1 := by omega
  rcases hkb with hke | hke
  all_goals
    go_region_law (first
      | (refine step_full rfl (.tmp 58) (.tmp 62) 33 rfl 3 (.int .i64 0) 8 Try.underlying33 Try.infoInt rfl _ _ 1 [.int .i64 (x : Int)] rfl p1 _ (na - (i + 1)) _ (nCells t) rfl hln (by have := hva.rest (by rw [HNA.out]) c1 (i + 1); rw [HD1.out] at this; simpa [hke] using this) hon (by unfold maxLen; omega) (by omega) ?_; intro v1 wz1 hv1 hb1 hn1; obtain ⟨a1, c1', rfl⟩ := row_form hv1; have o1 : ∀ q, (Value.slice a1 (1 + (na - (i + 1))) c1').ownBlock = some q → w5.heap.size ≤ q := (fun q hq => by rcases hn1 q hq with h | h; (have := c1.size; omega); exact Nat.le_trans c1.size h); have bb := below_ad2 c1 hb1; have mB := True.intro)
      | (refine step_full rfl (.tmp 58) (.tmp 62) 33 rfl 3 (.int .i64 0) 8 Try.underlying33 Try.infoInt rfl _ _ 1 [.int .i64 (x : Int)] rfl p2 _ (na - (i + 1)) _ (nCells t) rfl hln (by have := hva.rest (by rw [HNA.out]) c2 (i + 1); rw [HD1.out] at this; simpa [hke] using this) hon (by unfold maxLen; omega) (by omega) ?_; intro v1 wz1 hv1 hb1 hn1; obtain ⟨a1, c1', rfl⟩ := row_form hv1; have o1 : ∀ q, (Value.slice a1 (1 + (na - (i + 1))) c1').ownBlock = some q → w5.heap.size ≤ q := (fun q hq => by rcases hn1 q hq with h | h; (have := c2.size; omega); exact Nat.le_trans c2.size h); have bb := below_ad2 c2 hb1; have hyr := row_up q3 hb1; have mB := True.intro)
      | (refine step_full rfl (.tmp 58) (.tmp 62) 33 rfl 3 (.int .i64 0) 8 Try.underlying33 Try.infoInt rfl _ _ 1 [.int .i64 (x : Int)] rfl p3 _ (na - (i + 1)) _ (nCells t) rfl hln (by have := hva.rest (by rw [HNA.out]) d2 (i + 1); rw [HD1.out] at this; simpa [hke] using this) hon (by unfold maxLen; omega) (by omega) ?_; intro v1 wz1 hv1 hb1 hn1; obtain ⟨a1, c1', rfl⟩ := row_form hv1; have o1 : ∀ q, (Value.slice a1 (1 + (na - (i + 1))) c1').ownBlock = some q → w5.heap.size ≤ q := (fun q hq => by rcases hn1 q hq with h | h; (have := d2.size; omega); exact Nat.le_trans d2.size h); have bb := below_ad2 d2 hb1; have hyr := row_up q2 hb1; have mB := True.intro)
      | (refine step_full rfl (.tmp 65) (.tmp 68) 33 rfl 3 (.int .i64 0) 8 Try.underlying33 Try.infoInt rfl _ _ 1 [.int .i64 (y : Int)] rfl q1 _ (i - 1) _ (nCells s) rfl hlm (by have := hva.mid d1 1 (i - 1) hk1; rw [HD2.out] at this; simpa [hk1] using this) hom (by unfold maxLen; omega) (by omega) ?_; intro v2 wz2 hv2 hb2 hn2; obtain ⟨a2, c2', rfl⟩ := row_form hv2; have o2 : ∀ q, (Value.slice a2 (1 + (i - 1)) c2').ownBlock = some q → w5.heap.size ≤ q := (fun q hq => by rcases hn2 q hq with h | h; (have := d1.size; omega); exact Nat.le_trans d1.size h); have bb := below_ad2 d1 hb2; have mD := True.intro)
      | (refine step_full rfl (.tmp 65) (.tmp 68) 33 rfl 3 (.int .i64 0) 8 Try.underlying33 Try.infoInt rfl _ _ 1 [.int .i64 (y : Int)] rfl q2 _ (i - 1) _ (nCells s) rfl hlm (by have := hva.mid d2 1 (i - 1) hk1; rw [HD2.out] at this; simpa [hk1] using this) hom (by unfold maxLen; omega) (by omega) ?_; intro v2 wz2 hv2 hb2 hn2; obtain ⟨a2, c2', rfl⟩ := row_form hv2; have o2 : ∀ q, (Value.slice a2 (1 + (i - 1)) c2').ownBlock = some q → w5.heap.size ≤ q := (fun q hq => by rcases hn2 q hq with h | h; (have := d2.size; omega); exact Nat.le_trans d2.size h); have bb := below_ad2 d2 hb2; have hxr := row_up p3 hb2; have mD := True.intro)
      | (refine step_full rfl (.tmp 65) (.tmp 68) 33 rfl 3 (.int .i64 0) 8 Try.underlying33 Try.infoInt rfl _ _ 1 [.int .i64 (y : Int)] rfl q3 _ (i - 1) _ (nCells s) rfl hlm (by have := hva.mid c2 1 (i - 1) hk1; rw [HD2.out] at this; simpa [hk1] using this) hom (by unfold maxLen; omega) (by omega) ?_; intro v2 wz2 hv2 hb2 hn2; obtain ⟨a2, c2', rfl⟩ := row_form hv2; have o2 : ∀ q, (Value.slice a2 (1 + (i - 1)) c2').ownBlock = some q → w5.heap.size ≤ q := (fun q hq => by rcases hn2 q hq with h | h; (have := c2.size; omega); exact Nat.le_trans c2.size h); have bb := below_ad2 c2 hb2; have hxr := row_up p2 hb2; have mD := True.intro)
      | (refine step_full rfl (.tmp 58) (.tmp 62) 33 rfl 3 (.int .i64 0) 8 Try.underlying33 Try.infoInt rfl _ _ 1 [.int .i64 (x : Int)] rfl hxr _ (na - (i + 1)) _ (nCells t) rfl hln (by have := hva.rest (by rw [HNA.out]) bb (i + 1); rw [HD1.out] at this; simpa [hke] using this) hon (by unfold maxLen; omega) (by omega) ?_; intro v1 wz1 hv1 hb1 hn1; obtain ⟨a1, c1', rfl⟩ := row_form hv1; have o1 : ∀ q, (Value.slice a1 (1 + (na - (i + 1))) c1').ownBlock = some q → w5.heap.size ≤ q := (fun q hq => by rcases hn1 q hq with h | h; (have := bb.size; omega); exact Nat.le_trans bb.size h); have h29 := row_up hv2 hb1; have h19 := hv1; have bf := below_ad2 bb hb1; have bz3 := below_ad2 bf (below_al _ (.cells #[.slice a1 (1 + (na - (i + 1))) c1', .slice a2 (1 + (i - 1)) c2'] 33)); have ho3 := row_up ho1 bz3)
      | (refine step_full rfl (.tmp 58) (.tmp 62) 33 rfl 3 (.int .i64 0) 8 Try.underlying33 Try.infoInt rfl _ _ 1 [.int .i64 (x : Int)] rfl (row_one_new rfl) _ (na - (i + 1)) _ (nCells t) rfl hln (by have := hva.rest (by rw [HNA.out]) (below_ad2 bb (below_al _ (.cells #[.int .i64 (x : Int)] 3))) (i + 1); rw [HD1.out] at this; simpa [hke] using this) hon (by unfold maxLen; omega) (by omega) ?_; intro v1 wz1 hv1 hb1 hn1; obtain ⟨a1, c1', rfl⟩ := row_form hv1; have o1 : ∀ q, (Value.slice a1 (1 + (na - (i + 1))) c1').ownBlock = some q → w5.heap.size ≤ q := (fun q hq => by rcases hn1 q hq with h | h; (have := bb.size; omega); exact Nat.le_trans (below_ad2 bb (below_al _ (.cells #[.int .i64 (x : Int)] 3))).size h); have h29 := row_up hv2 (below_ad2 (below_al _ (.cells #[.int .i64 (x : Int)] 3)) hb1); have h19 := hv1; have bf := below_ad2 (below_ad2 bb (below_al _ (.cells #[.int .i64 (x : Int)] 3))) hb1; have bz3 := below_ad2 bf (below_al _ (.cells #[.slice a1 (1 + (na - (i + 1))) c1', .slice a2 (1 + (i - 1)) c2'] 33)); have ho3 := row_up ho1 bz3)
      | (refine step_full rfl (.tmp 65) (.tmp 68) 33 rfl 3 (.int .i64 0) 8 Try.underlying33 Try.infoInt rfl _ _ 1 [.int .i64 (y : Int)] rfl hyr _ (i - 1) _ (nCells s) rfl hlm (by have := hva.mid bb 1 (i - 1) hk1; rw [HD2.out] at this; simpa [hk1] using this) hom (by unfold maxLen; omega) (by omega) ?_; intro v2 wz2 hv2 hb2 hn2; obtain ⟨a2, c2', rfl⟩ := row_form hv2; have o2 : ∀ q, (Value.slice a2 (1 + (i - 1)) c2').ownBlock = some q → w5.heap.size ≤ q := (fun q hq => by rcases hn2 q hq with h | h; (have := bb.size; omega); exact Nat.le_trans bb.size h); have h19 := row_up hv1 hb2; have h29 := hv2; have bf := below_ad2 bb hb2; have bz3 := below_ad2 bf (below_al _ (.cells #[.slice a1 (1 + (na - (i + 1))) c1', .slice a2 (1 + (i - 1)) c2'] 33)); have ho3 := row_up ho1 bz3)
      | (refine step_full rfl (.tmp 65) (.tmp 68) 33 rfl 3 (.int .i64 0) 8 Try.underlying33 Try.infoInt rfl _ _ 1 [.int .i64 (y : Int)] rfl (row_one_new rfl) _ (i - 1) _ (nCells s) rfl hlm (by have := hva.mid (below_ad2 bb (below_al _ (.cells #[.int .i64 (y : Int)] 3))) 1 (i - 1) hk1; rw [HD2.out] at this; simpa [hk1] using this) hom (by unfold maxLen; omega) (by omega) ?_; intro v2 wz2 hv2 hb2 hn2; obtain ⟨a2, c2', rfl⟩ := row_form hv2; have o2 : ∀ q, (Value.slice a2 (1 + (i - 1)) c2').ownBlock = some q → w5.heap.size ≤ q := (fun q hq => by rcases hn2 q hq with h | h; (have := bb.size; omega); exact Nat.le_trans (below_ad2 bb (below_al _ (.cells #[.int .i64 (y : Int)] 3))).size h); have h19 := row_up hv1 (below_ad2 (below_al _ (.cells #[.int .i64 (y : Int)] 3)) hb2); have h29 := hv2; have bf := below_ad2 (below_ad2 bb (below_al _ (.cells #[.int .i64 (y : Int)] 3))) hb2; have bz3 := below_ad2 bf (below_al _ (.cells #[.slice a1 (1 + (na - (i + 1))) c1', .slice a2 (1 + (i - 1)) c2'] 33)); have ho3 := row_up ho1 bz3)
      | (refine step_own rfl (.tmp 56) (.tmp 70) 41 rfl 33 (.slice none 0 0) 24 Try.underlying41 Try.infoRow rfl B _ (Nat.le_trans hB (Nat.le_trans (b7.size) bz3.size)) _ _ _ rfl ho3 _ 2 _ [.slice a1 (1 + (na - (i + 1))) c1', .slice a2 (1 + (i - 1)) c2'] rfl rfl (new_two rfl) (by simp [Value.oneCell']) (by unfold maxLen; omega) (by omega) ?_; intro v3 wz3 hv5 hv6))
    all_goals
      have hir1 := (IR.full (C := B) (L := x :: t) h19 (by simp; omega) (by simp [nCells]) (fun q hq => by have := o1 q hq; have := b7.size; omega)).alloc (.cells #[.slice a1 (1 + (na - (i + 1))) c1', .slice a2 (1 + (i - 1)) c2'] 33)
      have hir2 := (IR.full (C := B) (L := y :: s) h29 (by simp; omega) (by simp [nCells]) (fun q hq => by have := o2 q hq; have := b7.size; omega)).alloc (.cells #[.slice a1 (1 + (na - (i + 1))) c1', .slice a2 (1 + (i - 1)) c2'] 33)
      have hres : WR B wz3 v3 (withoutZ W x y ++ [x :: t, y :: s]) := by
        refine WR.push ho3 (fun i l hi => ?_) (K := [x :: t, y :: s]) (us := [.slice a1 (1 + (na - (i + 1))) c1', .slice a2 (1 + (i - 1)) c2']) (fun i l hi => ?_) (by simpa using hv5) hv6
        · obtain ⟨u, h1, h2⟩ := HO2.out i l hi
          exact ⟨u, h1, h2.below bz3⟩
        · rcases i with _ | _ | i
          · simp at hi; subst hi; exact ⟨_, rfl, hir1⟩
          · simp at hi; subst hi; exact ⟨_, rfl, hir2⟩
          · simp at hi
      have hbf := below_grown (b7.trans (bz3.mono b7.size)) hv6 (fun q hq => Nat.le_trans s4 (hob q hq))
      clear hv5 hv6 bz3 hir1 hir2 ho3 ho1 HO2 hva h19 h29 bf bb
      go_wp2
      go_ret2
      exact ⟨v3, rfl, hres, hbf⟩

end Go.Proofs.Ytnpglgkpdikcjaa

/-
  The contract of 'Part' of package haycockref15; and of 'Splice', all in one.
-/
import Derived.Test.YtnpglgkpdikcjaaRef15D
import Derived.Deep.RegionHeld3
namespace Go.Proofs.Ytnpglgkpdikcjaa
open Go.RowKit
set_option linter.unusedVariables false

theorem part_push {B x : Nat} {wl w1 w3 : World} {v2 v3 u1 u2 : Value} {K : List (List Nat)} {t : List Nat} {vs : List Value} (hv6 : w1.grownBy w3 v2.ownBlock) (ho1 : wl.ownsRow B 33 1 v2 K.length vs) (ho2 : ∀ (i : Nat) (l : List Nat), K[i]? = some l → ∃ u, vs[i]? = some u ∧ IR B wl u l)
    (hb : Below wl.heap.size wl w1) (hx : IR B w1 u1 [x]) (ht : IR B w1 u2 t) (hv5 : w3.ownsRow B 33 1 v3 (K.length + 2) (vs ++ [u1, u2])) : WR B w3 v3 (K ++ [[x], t]) := by
  refine WR.push (row_up ho1 hb) (fun i l hi => ?_) (K := [[x], t]) (us := [u1, u2]) (fun i l hi => ?_) (by simpa using hv5) hv6
  · obtain ⟨u, h1, h2⟩ := ho2 i l hi
    exact ⟨u, h1, h2.below hb⟩
  · rcases i with _ | _ | i
    · simp at hi; subst hi; exact ⟨_, rfl, hx⟩
    · simp at hi; subst hi; exact ⟨_, rfl, ht⟩
    · simp at hi

theorem r15_part_no (w : World) (B : Nat) (v : Value) (n : Nat) (N P : List Nat) (W : List (List Nat)) (hst : Rings n N P W) (hn : n < 60000) (h : WR B w v W) (hB : B ≤ w.heap.size) (x : Int) (hx : x < 0 ∨ (n : Int) ≤ x) :
    Calls Try.prog 22 #[v, .int .i64 x] w fun e w' => e = .returned (.tuple #[v, .bool false]) ∧ Below w.heap.size w w' := by
  obtain ⟨w1, w2⟩ := wlen hst
  have hal := hst.out hx
  have hlen : (((allZ W x).length : Int) == 0) = true := by rw [hal]; rfl
  clear hal hx
  go_enter Try.func22, Try.ntmps22
  go_wp2_with fail
  refine (r15_all w B v W h (by omega) (fun l hl => by have := w2 l hl; omega) x).mono ?_
  rintro e w3 ⟨va, rfl, hva, b3⟩
  obtain ⟨aa, ca, rfl⟩ := hva.form
  clear hva h
  go_wp2
  go_ret2
  exact ⟨rfl, b3⟩

theorem r15_part_one (w : World) (B : Nat) (v : Value) (n : Nat) (N P : List Nat) (W : List (List Nat)) (hst : Rings n N P W) (hn : n < 60000) (h : WR B w v W) (hB : B ≤ w.heap.size) (x : Int) (h1 : (allZ W x).length = 1) :
    Calls Try.prog 22 #[v, .int .i64 x] w fun e w' => e = .returned (.tuple #[v, .bool true]) ∧ Below w.heap.size w w' := by
  obtain ⟨w1, w2⟩ := wlen hst
  have hlen : (((allZ W x).length : Int) == 0) = false := by rw [h1]; rfl
  have hlen1 : (((allZ W x).length : Int) == 1) = true := by rw [h1]; rfl
  clear h1
  go_enter Try.func22, Try.ntmps22
  go_wp2_with fail
  refine (r15_all w B v W h (by omega) (fun l hl => by have := w2 l hl; omega) x).mono ?_
  rintro e w3 ⟨va, rfl, hva, b3⟩
  obtain ⟨aa, ca, rfl⟩ := hva.form
  clear hva h
  go_wp2
  go_ret2
  exact ⟨rfl, b3⟩

set_option maxHeartbeats 8000000 in
theorem r15_part_more (w : World) (B : Nat) (v : Value) (n : Nat) (N P : List Nat) (W : List (List Nat)) (hst : Rings n N P W) (hn : n < 60000) (h : WR B w v W) (hB : B ≤ w.heap.size) (x : Nat) (t : List Nat) (hax : allZ W x = x :: t) (ht : 0 < t.length) :
    Calls Try.prog 22 #[v, .int .i64 x] w fun e w' => ∃ v', e = .returned (.tuple #[v', .bool true]) ∧ WR B w' v' (withoutZ W x x ++ [[x], t]) ∧ Below w.heap.size w w' := by
  obtain ⟨w1, w2⟩ := wlen hst
  have alx := all_len hst (x : Int)
  have hwol : (withoutZ W x x).length ≤ n := Nat.le_trans (List.length_filter_le _ _) w1
  have hwl : ∀ l ∈ W, l.length < 70000 := fun l hl => by have := w2 l hl; omega
  rw [hax] at alx
  obtain ⟨na, hna⟩ : ∃ q, q = (x :: t).length := ⟨_, rfl⟩
  have HNA := Lib.hid hna
  have na1 : 1 + t.length ≤ na ∧ na ≤ 1 + t.length := by simp at hna; omega
  obtain ⟨na1, na2⟩ := na1
  have hl1 : ((na : Int) == 0) = false := by rw [beq_eq_false_iff_ne]; omega
  have hl2 : ((na : Int) == 1) = false := by rw [beq_eq_false_iff_ne]; omega
  simp only [List.length_cons] at alx
  have HAX := Lib.hid hax
  have HWL := Lib.hid hwl
  clear hna hax hwl
  go_enter Try.func22, Try.ntmps22
  go_wp2_with fail
  refine (r15_all w B v W h (by omega) (fun l hl => by have := w2 l hl; omega) x).mono ?_
  rintro e w3 ⟨va, rfl, hva, b3⟩
  rw [HAX.out] at hva
  have hva := hva.lo (Nat.zero_le _)
  obtain ⟨aa, ca, rfl⟩ := hva.form
  rw [← HNA.out] at hva ⊢
  have h3 := h.below b3
  have s3 := b3.size
  clear h w2
  have hrow := hva
  unfold IR at hrow
  rw [← HNA.out] at hrow
  obtain ⟨ga, rfl⟩ := row_some hrow (by omega)
  have hcap1 : na ≤ ca := (row_cap hrow).1
  have hln : (nCells t).length = na - 1 := by rw [nCells_len]; omega
  have hon := nCells_one t
  have hk1 : ¬ ca = 1 := by omega
  have hk3 : (1 : Int) ≤ (na : Int) := by omega
  have hk4 : 1 ≤ na := by omega
  clear hrow
  have xA : (w3.alloc (.cells #[.int .i64 (x : Int)] 3)).drew.ownsRow 0 3 1 (.slice (some ⟨w3.heap.size, 0, none⟩) 1 1) 1 [.int .i64 (x : Int)] := row_up (row_one_new rfl) (below_drew' _)
  have nD : (w3.alloc (.cells #[] 3)).drew.ownsRow 0 3 1 (.slice (some ⟨w3.heap.size, 0, none⟩) 0 0) 0 [] := row_up (row_none_new rfl) (below_drew' _)
  have xAD : ((w3.alloc (.cells #[.int .i64 (x : Int)] 3)).alloc (.cells #[] 3)).drew.ownsRow 0 3 1 (.slice (some ⟨w3.heap.size, 0, none⟩) 1 1) 1 [.int .i64 (x : Int)] := row_up ((row_one_new rfl).alloc _) (below_drew' _)
  have nAD : ((w3.alloc (.cells #[.int .i64 (x : Int)] 3)).alloc (.cells #[] 3)).drew.ownsRow 0 3 1 (.slice (some ⟨w3.heap.size + 1, 0, none⟩) 0 0) 0 [] := row_up (row_none_new (by simp)) (below_drew' _)
  have xDA : ((w3.alloc (.cells #[] 3)).alloc (.cells #[.int .i64 (x : Int)] 3)).drew.ownsRow 0 3 1 (.slice (some ⟨w3.heap.size + 1, 0, none⟩) 1 1) 1 [.int .i64 (x : Int)] := row_up (row_one_new (by simp)) (below_drew' _)
  have nDA : ((w3.alloc (.cells #[] 3)).alloc (.cells #[.int .i64 (x : Int)] 3)).drew.ownsRow 0 3 1 (.slice (some ⟨w3.heap.size, 0, none⟩) 0 0) 0 [] := row_up ((row_none_new rfl).alloc _) (below_drew' _)
  have b0 : Below w3.heap.size w3 w3.drew := below_drew' _
  have bA : Below w3.heap.size w3 (w3.alloc (.cells #[.int .i64 (x : Int)] 3)).drew := below_ad _ _
  have bD : Below w3.heap.size w3 (w3.alloc (.cells #[] 3)).drew := below_ad _ _
  have bAD : Below w3.heap.size w3 ((w3.alloc (.cells #[.int .i64 (x : Int)] 3)).alloc (.cells #[] 3)).drew := below_ad2 (below_al _ _) (below_ad _ _)
  have bDA : Below w3.heap.size w3 ((w3.alloc (.cells #[] 3)).alloc (.cells #[.int .i64 (x : Int)] 3)).drew := below_ad2 (below_al _ _) (below_ad _ _)
  go_upto_region 6 with fail
  go_region_held3 (fun w' => True) (exact trivial) (first
    | (refine step_full rfl (.tmp 24) (.tmp 26) 33 rfl 3 (.int .i64 0) 8 Try.underlying33 Try.infoInt rfl _ _ 0 [] rfl nD _ (na - 1) _ (nCells t) rfl hln (by have := hva.rest (by rw [HNA.out]) bD 1; simp only [List.drop_succ_cons, List.drop_zero] at this; simpa [hk1] using this) hon (by unfold maxLen; omega) (by omega) ?_; intro v1 wz1 hv1 hb1 hn1; rw [Nat.zero_add, List.nil_append] at hv1; obtain ⟨a1, c1', rfl⟩ := row_form hv1; have o1 : ∀ q, (Value.slice a1 (na - 1) c1').ownBlock = some q → w3.heap.size ≤ q := (fun q hq => by rcases hn1 q hq with h | h; (have := bD.size; omega); exact Nat.le_trans bD.size h); have bb := below_ad2 bD hb1)
    | (refine step_full rfl (.tmp 24) (.tmp 26) 33 rfl 3 (.int .i64 0) 8 Try.underlying33 Try.infoInt rfl _ _ 0 [] rfl nAD _ (na - 1) _ (nCells t) rfl hln (by have := hva.rest (by rw [HNA.out]) bAD 1; simp only [List.drop_succ_cons, List.drop_zero] at this; simpa [hk1] using this) hon (by unfold maxLen; omega) (by omega) ?_; intro v1 wz1 hv1 hb1 hn1; rw [Nat.zero_add, List.nil_append] at hv1; obtain ⟨a1, c1', rfl⟩ := row_form hv1; have o1 : ∀ q, (Value.slice a1 (na - 1) c1').ownBlock = some q → w3.heap.size ≤ q := (fun q hq => by rcases hn1 q hq with h | h; (have := bAD.size; omega); exact Nat.le_trans bAD.size h); have bb := below_ad2 bAD hb1; have hxr := row_up xAD hb1)
    | (refine step_full rfl (.tmp 24) (.tmp 26) 33 rfl 3 (.int .i64 0) 8 Try.underlying33 Try.infoInt rfl _ _ 0 [] rfl nDA _ (na - 1) _ (nCells t) rfl hln (by have := hva.rest (by rw [HNA.out]) bDA 1; simp only [List.drop_succ_cons, List.drop_zero] at this; simpa [hk1] using this) hon (by unfold maxLen; omega) (by omega) ?_; intro v1 wz1 hv1 hb1 hn1; rw [Nat.zero_add, List.nil_append] at hv1; obtain ⟨a1, c1', rfl⟩ := row_form hv1; have o1 : ∀ q, (Value.slice a1 (na - 1) c1').ownBlock = some q → w3.heap.size ≤ q := (fun q hq => by rcases hn1 q hq with h | h; (have := bDA.size; omega); exact Nat.le_trans bDA.size h); have bb := below_ad2 bDA hb1; have hxr := row_up xDA hb1)
    | (go_at_call 24; refine (r15_without _ B v W (h3.below b0) (by have := b0.size; omega) (by omega) HWL.out x x).mono ?_; rintro e wz2 ⟨v2, rfl, hv2, hb2, ho2⟩; obtain ⟨a2, c2', rfl⟩ := hv2.form; have o2 : ∀ q, (Value.slice a2 (withoutZ W x x).length c2').ownBlock = some q → w3.heap.size ≤ q := (fun q hq => Nat.le_trans b0.size (ho2 q hq)); have bb := below_ad2 b0 hb2)
    | (go_at_call 24; refine (r15_without _ B v W (h3.below bA) (by have := bA.size; omega) (by omega) HWL.out x x).mono ?_; rintro e wz2 ⟨v2, rfl, hv2, hb2, ho2⟩; obtain ⟨a2, c2', rfl⟩ := hv2.form; have o2 : ∀ q, (Value.slice a2 (withoutZ W x x).length c2').ownBlock = some q → w3.heap.size ≤ q := (fun q hq => Nat.le_trans bA.size (ho2 q hq)); have bb := below_ad2 bA hb2; have hxr := row_up xA hb2)
    | (go_at_call 24; refine (r15_without _ B v W (h3.below bD) (by have := bD.size; omega) (by omega) HWL.out x x).mono ?_; rintro e wz2 ⟨v2, rfl, hv2, hb2, ho2⟩; obtain ⟨a2, c2', rfl⟩ := hv2.form; have o2 : ∀ q, (Value.slice a2 (withoutZ W x x).length c2').ownBlock = some q → w3.heap.size ≤ q := (fun q hq => Nat.le_trans bD.size (ho2 q hq)); have bb := below_ad2 bD hb2; have hdr := row_up nD hb2)
    | (go_at_call 24; refine (r15_without _ B v W (h3.below bAD) (by have := bAD.size; omega) (by omega) HWL.out x x).mono ?_; rintro e wz2 ⟨v2, rfl, hv2, hb2, ho2⟩; obtain ⟨a2, c2', rfl⟩ := hv2.form; have o2 : ∀ q, (Value.slice a2 (withoutZ W x x).length c2').ownBlock = some q → w3.heap.size ≤ q := (fun q hq => Nat.le_trans bAD.size (ho2 q hq)); have bb := below_ad2 bAD hb2; have hxr := row_up xAD hb2; have hdr := row_up nAD hb2)
    | (go_at_call 24; refine (r15_without _ B v W (h3.below bDA) (by have := bDA.size; omega) (by omega) HWL.out x x).mono ?_; rintro e wz2 ⟨v2, rfl, hv2, hb2, ho2⟩; obtain ⟨a2, c2', rfl⟩ := hv2.form; have o2 : ∀ q, (Value.slice a2 (withoutZ W x x).length c2').ownBlock = some q → w3.heap.size ≤ q := (fun q hq => Nat.le_trans bDA.size (ho2 q hq)); have bb := below_ad2 bDA hb2; have hxr := row_up xDA hb2; have hdr := row_up nDA hb2)
    | (go_at_call 24; refine (r15_without _ B v W (h3.below bb) (by have := bb.size; omega) (by omega) HWL.out x x).mono ?_; rintro e wz2 ⟨v2, rfl, hv2, hb2, ho2⟩; obtain ⟨a2, c2', rfl⟩ := hv2.form; have o2 : ∀ q, (Value.slice a2 (withoutZ W x x).length c2').ownBlock = some q → w3.heap.size ≤ q := (fun q hq => Nat.le_trans bb.size (ho2 q hq)); have hE9 := row_up hv1 hb2; have hC9 := hv2; have bl9 := below_ad2 bb hb2; (try have hx9 := row_up hxr hb2); have sz := bl9.size; have sz0 := bb.size; obtain ⟨vs, ho1, ho3⟩ := hC9; have HO2 := Lib.hid ho3; clear ho3)
    | (go_at_call 24; refine (r15_without _ B v W (h3.below (below_ad2 bb (below_al _ (.cells #[.int .i64 (x : Int)] 3)))) (by have := (below_ad2 bb (below_al _ (.cells #[.int .i64 (x : Int)] 3))).size; omega) (by omega) HWL.out x x).mono ?_; rintro e wz2 ⟨v2, rfl, hv2, hb2, ho2⟩; obtain ⟨a2, c2', rfl⟩ := hv2.form; have o2 : ∀ q, (Value.slice a2 (withoutZ W x x).length c2').ownBlock = some q → w3.heap.size ≤ q := (fun q hq => Nat.le_trans (below_ad2 bb (below_al _ (.cells #[.int .i64 (x : Int)] 3))).size (ho2 q hq)); have hE9 := row_up hv1 (below_ad2 (below_al _ (.cells #[.int .i64 (x : Int)] 3)) hb2); have hC9 := hv2; have bl9 := below_ad2 (below_ad2 bb (below_al _ (.cells #[.int .i64 (x : Int)] 3))) hb2; have hx9 := row_up (row_one_new (u := .int .i64 (x : Int)) (e := 3) rfl) hb2; have sz := bl9.size; have sz0 := bb.size; obtain ⟨vs, ho1, ho3⟩ := hC9; have HO2 := Lib.hid ho3; clear ho3)
    | (refine step_full rfl (.tmp 24) (.tmp 26) 33 rfl 3 (.int .i64 0) 8 Try.underlying33 Try.infoInt rfl _ _ 0 [] rfl hdr _ (na - 1) _ (nCells t) rfl hln (by have := hva.rest (by rw [HNA.out]) bb 1; simp only [List.drop_succ_cons, List.drop_zero] at this; simpa [hk1] using this) hon (by unfold maxLen; omega) (by omega) ?_; intro v1 wz1 hv1 hb1 hn1; rw [Nat.zero_add, List.nil_append] at hv1; obtain ⟨a1, c1', rfl⟩ := row_form hv1; have o1 : ∀ q, (Value.slice a1 (na - 1) c1').ownBlock = some q → w3.heap.size ≤ q := (fun q hq => by rcases hn1 q hq with h | h; (have := bb.size; omega); exact Nat.le_trans bb.size h); have hE9 := hv1; have hC9 := hv2.below hb1; have bl9 := below_ad2 bb hb1; (try have hx9 := row_up hxr hb1); have sz := bl9.size; have sz0 := bb.size; obtain ⟨vs, ho1, ho3⟩ := hC9; have HO2 := Lib.hid ho3; clear ho3)
    | (refine step_full rfl (.tmp 24) (.tmp 26) 33 rfl 3 (.int .i64 0) 8 Try.underlying33 Try.infoInt rfl _ _ 0 [] rfl (hdr.alloc _) _ (na - 1) _ (nCells t) rfl hln (by have := hva.rest (by rw [HNA.out]) (below_ad2 bb (below_al _ (.cells #[.int .i64 (x : Int)] 3))) 1; simp only [List.drop_succ_cons, List.drop_zero] at this; simpa [hk1] using this) hon (by unfold maxLen; omega) (by omega) ?_; intro v1 wz1 hv1 hb1 hn1; rw [Nat.zero_add, List.nil_append] at hv1; obtain ⟨a1, c1', rfl⟩ := row_form hv1; have o1 : ∀ q, (Value.slice a1 (na - 1) c1').ownBlock = some q → w3.heap.size ≤ q := (fun q hq => by rcases hn1 q hq with h | h; (have := bb.size; omega); exact Nat.le_trans (below_ad2 bb (below_al _ (.cells #[.int .i64 (x : Int)] 3))).size h); have hE9 := hv1; have hC9 := hv2.below (below_ad2 (below_al _ (.cells #[.int .i64 (x : Int)] 3)) hb1); have bl9 := below_ad2 (below_ad2 bb (below_al _ (.cells #[.int .i64 (x : Int)] 3))) hb1; have hx9 := row_up (row_one_new (u := .int .i64 (x : Int)) (e := 3) rfl) hb1; have sz := bl9.size; have sz0 := bb.size; obtain ⟨vs, ho1, ho3⟩ := hC9; have HO2 := Lib.hid ho3; clear ho3)
    | (refine step_full rfl (.tmp 24) (.tmp 26) 33 rfl 3 (.int .i64 0) 8 Try.underlying33 Try.infoInt rfl _ _ 0 [] rfl (row_none_new rfl) _ (na - 1) _ (nCells t) rfl hln (by have := hva.rest (by rw [HNA.out]) (below_ad2 bb (below_al _ (.cells #[] 3))) 1; simp only [List.drop_succ_cons, List.drop_zero] at this; simpa [hk1] using this) hon (by unfold maxLen; omega) (by omega) ?_; intro v1 wz1 hv1 hb1 hn1; rw [Nat.zero_add, List.nil_append] at hv1; obtain ⟨a1, c1', rfl⟩ := row_form hv1; have o1 : ∀ q, (Value.slice a1 (na - 1) c1').ownBlock = some q → w3.heap.size ≤ q := (fun q hq => by rcases hn1 q hq with h | h; (have := bb.size; omega); exact Nat.le_trans (below_ad2 bb (below_al _ (.cells #[] 3))).size h); have hE9 := hv1; have hC9 := hv2.below (below_ad2 (below_al _ (.cells #[] 3)) hb1); have bl9 := below_ad2 (below_ad2 bb (below_al _ (.cells #[] 3))) hb1; (try have hx9 := row_up (hxr.alloc (.cells #[] 3)) hb1); have sz := bl9.size; have sz0 := bb.size; obtain ⟨vs, ho1, ho3⟩ := hC9; have HO2 := Lib.hid ho3; clear ho3)
    | (refine step_full rfl (.tmp 24) (.tmp 26) 33 rfl 3 (.int .i64 0) 8 Try.underlying33 Try.infoInt rfl _ _ 0 [] rfl (row_none_new (by simp)) _ (na - 1) _ (nCells t) rfl hln (by have := hva.rest (by rw [HNA.out]) (below_ad2 bb (below_ad2 (below_al _ (.cells #[.int .i64 (x : Int)] 3)) (below_al _ (.cells #[] 3)))) 1; simp only [List.drop_succ_cons, List.drop_zero] at this; simpa [hk1] using this) hon (by unfold maxLen; omega) (by omega) ?_; intro v1 wz1 hv1 hb1 hn1; rw [Nat.zero_add, List.nil_append] at hv1; obtain ⟨a1, c1', rfl⟩ := row_form hv1; have o1 : ∀ q, (Value.slice a1 (na - 1) c1').ownBlock = some q → w3.heap.size ≤ q := (fun q hq => by rcases hn1 q hq with h | h; (have := bb.size; omega); exact Nat.le_trans (below_ad2 bb (below_ad2 (below_al _ (.cells #[.int .i64 (x : Int)] 3)) (below_al _ (.cells #[] 3)))).size h); have hE9 := hv1; have hC9 := hv2.below (below_ad2 (below_ad2 (below_al _ (.cells #[.int .i64 (x : Int)] 3)) (below_al _ (.cells #[] 3))) hb1); have bl9 := below_ad2 (below_ad2 bb (below_ad2 (below_al _ (.cells #[.int .i64 (x : Int)] 3)) (below_al _ (.cells #[] 3)))) hb1; have hx9 := row_up ((row_one_new (u := .int .i64 (x : Int)) (e := 3) rfl).alloc (.cells #[] 3)) hb1; have sz := bl9.size; have sz0 := bb.size; obtain ⟨vs, ho1, ho3⟩ := hC9; have HO2 := Lib.hid ho3; clear ho3)
    | (refine step_full rfl (.tmp 24) (.tmp 26) 33 rfl 3 (.int .i64 0) 8 Try.underlying33 Try.infoInt rfl _ _ 0 [] rfl ((row_none_new rfl).alloc _) _ (na - 1) _ (nCells t) rfl hln (by have := hva.rest (by rw [HNA.out]) (below_ad2 bb (below_ad2 (below_al _ (.cells #[] 3)) (below_al _ (.cells #[.int .i64 (x : Int)] 3)))) 1; simp only [List.drop_succ_cons, List.drop_zero] at this; simpa [hk1] using this) hon (by unfold maxLen; omega) (by omega) ?_; intro v1 wz1 hv1 hb1 hn1; rw [Nat.zero_add, List.nil_append] at hv1; obtain ⟨a1, c1', rfl⟩ := row_form hv1; have o1 : ∀ q, (Value.slice a1 (na - 1) c1').ownBlock = some q → w3.heap.size ≤ q := (fun q hq => by rcases hn1 q hq with h | h; (have := bb.size; omega); exact Nat.le_trans (below_ad2 bb (below_ad2 (below_al _ (.cells #[] 3)) (below_al _ (.cells #[.int .i64 (x : Int)] 3)))).size h); have hE9 := hv1; have hC9 := hv2.below (below_ad2 (below_ad2 (below_al _ (.cells #[] 3)) (below_al _ (.cells #[.int .i64 (x : Int)] 3))) hb1); have bl9 := below_ad2 (below_ad2 bb (below_ad2 (below_al _ (.cells #[] 3)) (below_al _ (.cells #[.int .i64 (x : Int)] 3)))) hb1; have hx9 := row_up (row_one_new (k := wz2.heap.size + 1) (w := World.alloc wz2 (.cells #[] 3)) (u := .int .i64 (x : Int)) (e := 3) (by simp)) hb1; have sz := bl9.size; have sz0 := bb.size; obtain ⟨vs, ho1, ho3⟩ := hC9; have HO2 := Lib.hid ho3; clear ho3)
    | (refine step_own rfl (.tmp 21) (.tmp 28) 41 rfl 33 (.slice none 0 0) 24 Try.underlying41 Try.infoRow rfl B _ (Nat.le_trans hB (Nat.le_trans s3 (below_ad2 bl9 (below_al _ _)).size)) _ _ _ rfl (row_up ho1 (below_al _ _)) _ 2 _ [_, .slice a1 (na - 1) c1'] rfl rfl (new_two (by simp)) (by simp [Value.oneCell']) (by unfold maxLen; omega) (by omega) ?_; intro v3 wz3 hv5 hv6; have hbf := below_grown (b3.trans ((below_ad2 bl9 (below_al _ _)).mono s3)) hv6 (fun q hq => Nat.le_trans s3 (o2 q hq)); have hres := part_push (t := t) (x := x) hv6 ho1 HO2.out (below_al _ _) ((IR.full (C := B) (L := [x]) hx9 rfl rfl (fun q hq => by simp [Value.ownBlock] at hq; omega)).alloc _) ((IR.full (C := B) (L := t) hE9 (by omega) (by simp) (fun q hq => by have := o1 q hq; omega)).below (below_al _ _)) (by simpa using hv5))
    | (refine step_own rfl (.tmp 21) (.tmp 28) 41 rfl 33 (.slice none 0 0) 24 Try.underlying41 Try.infoRow rfl B _ (Nat.le_trans hB (Nat.le_trans s3 (below_ad2 bl9 (below_ad2 (below_al _ (.cells #[.int .i64 (x : Int)] 3)) (below_al _ _))).size)) _ _ _ rfl (row_up ho1 (below_ad2 (below_al _ (.cells #[.int .i64 (x : Int)] 3)) (below_al _ _))) _ 2 _ [_, .slice a1 (na - 1) c1'] rfl rfl (new_two (by simp)) (by simp [Value.oneCell']) (by unfold maxLen; omega) (by omega) ?_; intro v3 wz3 hv5 hv6; have hbf := below_grown (b3.trans ((below_ad2 bl9 (below_ad2 (below_al _ (.cells #[.int .i64 (x : Int)] 3)) (below_al _ _))).mono s3)) hv6 (fun q hq => Nat.le_trans s3 (o2 q hq)); have hres := part_push (t := t) (x := x) hv6 ho1 HO2.out (below_ad2 (below_al _ (.cells #[.int .i64 (x : Int)] 3)) (below_al _ _)) ((IR.full (C := B) (L := [x]) (row_one_new (u := .int .i64 (x : Int)) (e := 3) rfl) rfl rfl (fun q hq => by simp [Value.ownBlock] at hq; omega)).alloc _) ((IR.full (C := B) (L := t) hE9 (by omega) (by simp) (fun q hq => by have := o1 q hq; omega)).below (below_ad2 (below_al _ (.cells #[.int .i64 (x : Int)] 3)) (below_al _ _))) (by simpa using hv5)))
  all_goals
    clear hv5 hv6
    go_wp2
    go_ret2
    exact ⟨v3, rfl, hres, hbf⟩

end Go.Proofs.Ytnpglgkpdikcjaa

/-
  The contracts of 'place', 'All', 'New', 'without' of package haycockref15.
-/
import Derived.Test.YtnpglgkpdikcjaaRef15
namespace Go.Proofs.Ytnpglgkpdikcjaa
open Go.RowKit
set_option linter.unusedVariables false

set_option maxHeartbeats 400000 in
theorem r15_place (w : World) (B : Nat) (v : Value) (L : List Nat) (h : IR B w v L) (hl : L.length < 70000) (x : Int) :
    Calls Try.prog 25 #[v, .int .i64 x] w fun e w' => e = .returned (.int .i64 (placeZ L x)) ∧ w = w' := by
  obtain ⟨ao, ca, rfl⟩ := h.form
  go_enter Try.func25, Try.ntmps25
  go_wp2
  go_loop [9] (fun u => ∃ k : Nat, k ≤ L.length ∧ u = .int .i64 k ∧ (L.take k).findIdx? (isI x) = none) (fun u => L.length - (intOf u).toNat)
  case atStart => exact ⟨0, by omega, rfl, by simp⟩
  case round =>
    obtain ⟨k, hk, rfl, hno⟩ := hrel
    by_cases hlt : k < L.length
    · obtain ⟨g, rfl, _, _, c0⟩ := h.at k hlt
      obtain ⟨h1, h2⟩ := find_take hno hlt
      have H1 := Lib.hid h1
      have H2 := Lib.hid h2
      clear h1 h2 hno
      generalize hy : fn L k = y at *
      clear hy
      cases hq : isI x y with
      | true =>
        have hqb : ((y : Int) == x) = true := hq
        have hf := H1.out hq
        have HF := Lib.hid hf
        clear hf hq
        go_wp2
        go_ret
        exact ⟨by simp only [placeZ, HF.out]; rfl, rfl⟩
      | false =>
        have hqb : ((y : Int) == x) = false := hq
        have hf := H2.out hq
        have HF := Lib.hid hf
        clear hf hq
        go_wp2
        go_round
        case rel => exact ⟨k + 1, by omega, by go_num, HF.out⟩
        case measure => simp [intOf]; omega
    · obtain rfl : k = L.length := by omega
      rw [List.take_length] at hno
      have HF := Lib.hid hno
      clear hno
      go_wp2
      go_ret
      exact ⟨by simp only [placeZ, HF.out]; rfl, rfl⟩

theorem rot_at {l : List Nat} {x : Int} {i : Nat} (hi : i < l.length) (h : (l.take i).findIdx? (isI x) = none) (hq : isI x (fn l i) = true) : rotZ l x = l.drop i ++ l.take i ∧ l.any (isI x) = true := by
  have hs : l.drop i = fn l i :: l.drop (i + 1) := by rw [List.drop_eq_getElem_cons hi]; simp [fn, List.getD, hi]
  rw [List.findIdx?_eq_none_iff] at h
  have key : ∀ s t : List Nat, (∀ y ∈ s, isI x y = false) → ∀ y, isI x y = true → (s ++ y :: t).dropWhile (fun y => !isI x y) = y :: t ∧ (s ++ y :: t).takeWhile (fun y => !isI x y) = s := by
    intro s
    induction s with
    | nil => intro t _ y hy; simp [hy]
    | cons a s ih =>
      intro t hs y hy
      have ha := hs a (by simp)
      obtain ⟨h1, h2⟩ := ih t (fun y hy => hs y (by simp [hy])) y hy
      simp [ha, h1, h2]
  have hl : l = l.take i ++ fn l i :: l.drop (i + 1) := by rw [← hs, List.take_append_drop]
  obtain ⟨h1, h2⟩ := key (l.take i) (l.drop (i + 1)) (fun y hy => h y hy) _ hq
  rw [← hl] at h1 h2
  constructor
  · rw [rotZ, h1, h2, hs]
  · rw [List.any_eq_true]
    exact ⟨fn l i, by simp [fn, List.getD, hi], hq⟩

theorem any_no {l : List Nat} {x : Int} (h : l.findIdx? (isI x) = none) : l.any (isI x) = false := by
  rw [List.findIdx?_eq_none_iff] at h
  rw [List.any_eq_false]
  intro y hy
  simp [h y hy]

theorem all_at {W : List (List Nat)} {x : Int} {k : Nat} (hk : k < W.length) (h : (W.take k).find? (fun l => l.any (isI x)) = none) :
    ((W.getD k []).any (isI x) = true → allZ W x = rotZ (W.getD k []) x) ∧ ((W.getD k []).any (isI x) = false → (W.take (k + 1)).find? (fun l => l.any (isI x)) = none) := by
  have hs : W.take (k + 1) = W.take k ++ [W.getD k []] := by rw [List.take_succ_eq_append_getElem hk]; simp [List.getD, hk]
  constructor
  · intro hq
    have hL : W.find? (fun l => l.any (isI x)) = (W.take (k + 1) ++ W.drop (k + 1)).find? (fun l => l.any (isI x)) := by rw [List.take_append_drop]
    rw [allZ, hL, hs, List.find?_append, List.find?_append, h]
    have : [W.getD k []].find? (fun l => l.any (isI x)) = some (W.getD k []) := by rw [List.find?_cons, hq]
    rw [this]
    rfl
  · intro hq
    rw [hs, List.find?_append, h]
    have : [W.getD k []].find? (fun l => l.any (isI x)) = none := by rw [List.find?_cons, hq]; rfl
    rw [this]
    rfl

theorem all_none {W : List (List Nat)} {x : Int} (h : W.find? (fun l => l.any (isI x)) = none) : allZ W x = [] := by simp only [allZ, h]

set_option maxHeartbeats 2000000 in
theorem r15_all (w : World) (B : Nat) (v : Value) (W : List (List Nat)) (h : WR B w v W) (hW : W.length < 70000) (hl : ∀ l ∈ W, l.length < 70000) (x : Int) :
    Calls Try.prog 17 #[v, .int .i64 x] w fun e w' => ∃ v, e = .returned v ∧ IR w.heap.size w' v (allZ W x) ∧ Below w.heap.size w w' := by
  obtain ⟨ao, ca, rfl⟩ := h.form
  go_enter Try.func17, Try.ntmps17
  go_wp2_with fail
  go_loop [11] (fun u => ∃ k : Nat, k ≤ W.length ∧ u = .int .i64 k ∧ (W.take k).find? (fun l => l.any (isI x)) = none) (fun u => W.length - (intOf u).toNat)
  case atStart => exact ⟨0, by omega, rfl, by simp⟩
  case round =>
    obtain ⟨k, hk, rfl, hno⟩ := hrel
    by_cases hlt : k < W.length
    · obtain ⟨g, u, rfl, glt, c0, hu⟩ := h.at k hlt
      obtain ⟨h1, h2⟩ := all_at hlt hno
      have H1 := Lib.hid h1
      have H2 := Lib.hid h2
      have hL := hl (W.getD k []) (by simp [List.getD, hlt])
      clear h1 h2 hno
      generalize W.getD k [] = L at *
      obtain ⟨au, cu, rfl⟩ := hu.form
      go_wp2_with fail
      go_loop [17] (fun u => ∃ i : Nat, i ≤ L.length ∧ u = .int .i64 i ∧ (L.take i).findIdx? (isI x) = none) (fun u => L.length - (intOf u).toNat)
      case atStart => exact ⟨0, by omega, rfl, by simp⟩
      case round =>
        obtain ⟨i, hi, rfl, hni⟩ := hrel
        by_cases hil : i < L.length
        · obtain ⟨gi, rfl, gilt, _, d0⟩ := hu.at i hil
          obtain ⟨h1, h2⟩ := find_take hni hil
          have H3 := Lib.hid h2
          have HNI := Lib.hid hni
          have hcap := row_cap (IR.lo hu (Nat.zero_le _))
          have hp1 := hu.part i (L.length - i)
          have hp2 := hu.part 0 i
          rw [List.take_of_length_le (by simp)] at hp1
          rw [List.drop_zero] at hp2
          clear h1 h2 hni
          generalize hy : fn L i = y at *
          have HY := Lib.hid hy
          clear hy
          cases hq : isI x y with
          | true =>
            have hqb : ((y : Int) == x) = true := hq
            obtain ⟨hr1, hr2⟩ := rot_at hil HNI.out (by rw [HY.out]; exact hq)
            have hfin := H1.out hr2
            rw [hr1] at hfin
            have HF := Lib.hid hfin
            clear hr1 hr2 hfin hq
            have hil1 : i ≤ L.length := hi
            have hil2 : i ≤ cu := by omega
            have hine : ¬ cu = i := by omega
            have hl1 : (nCells (L.drop i)).length = L.length - i := by rw [nCells_len, List.length_drop]
            have hl2 : (nCells (L.take i)).length = i := by rw [nCells_len, List.length_take]; omega
            have ho1 := nCells_one (L.drop i)
            have ho2 := nCells_one (L.take i)
            go_upto_region 8 with fail
            have hdr : ∀ (o : Obj), ((w.alloc o).drew).heap.size = w.heap.size + 1 := fun o => by simp
            go_region_law (first
              | (refine step_full rfl (.tmp 25) (.tmp 28) 33 rfl 3 (.int .i64 0) 8 Try.underlying33 Try.infoInt rfl _ w.heap.size 0 [] rfl (row_up (row_none_new (w := w) rfl) (below_drew' _)) (some ⟨gi, i, none⟩) (L.length - i) _ (nCells (L.drop i)) rfl hl1 ⟨_, rfl, news_up hp1 gilt (below_ad _ _)⟩ ho1 (by unfold maxLen; omega) (by omega) ?_; intro v1 wz1 hv1 hv2 hv3)
              | (refine step_own rfl (.tmp 29) (.tmp 32) 33 rfl 3 (.int .i64 0) 8 Try.underlying33 Try.infoInt rfl w.heap.size wz1 (below_ad2 (below_ad _ _) hv2).size _ _ _ rfl (row_base hv1 (fun q hq => base_ad (hv3 q hq))) (some ⟨gi, 0, none⟩) i _ (nCells (L.take i)) rfl hl2 ⟨_, rfl, news_up hp2 gilt (below_ad2 (below_ad _ _) hv2)⟩ ho2 (by unfold maxLen; omega) (by omega) ?_; intro v2 wz2 hv4 hv5))
            have hlen : (L.drop i ++ L.take i).length = 0 + (L.length - i) + i := by rw [List.length_append, List.length_drop, List.length_take]; omega
            have hres : IR w.heap.size wz2 v2 (L.drop i ++ L.take i) := by
              unfold IR
              rw [hlen, nCells_append]
              simpa using hv4
            have hbel := below_grown (below_ad2 (below_ad _ _) hv2) hv5 (fun q hq => base_ad (hv3 q hq))
            clear hv1 hv2 hv3 hv4 hv5 hp1 hp2 hdr
            go_wp2
            go_ret
            exact ⟨v2, rfl, by rw [HF.out]; exact hres, hbel⟩
          | false =>
            have hqb : ((y : Int) == x) = false := hq
            have hf := H3.out hq
            have HF := Lib.hid hf
            clear hf hq hp1 hp2
            go_wp2_with fail
            go_round
            case rel => exact ⟨i + 1, by omega, by go_num, HF.out⟩
            case measure => simp [intOf]; omega
        · obtain rfl : i = L.length := by omega
          rw [List.take_length] at hni
          have hf := H2.out (any_no hni)
          have HF := Lib.hid hf
          clear hf hni
          go_wp2_with fail
          go_round
          case rel => exact ⟨k + 1, by omega, by go_num, HF.out⟩
          case measure => simp [intOf]; omega
    · obtain rfl : k = W.length := by omega
      rw [List.take_length] at hno
      have hf := all_none hno
      have HF := Lib.hid hf
      clear hf hno
      go_wp2
      go_ret
      exact ⟨_, rfl, by rw [HF.out]; exact IR.nil _ _, Below.refl _ _⟩

end Go.Proofs.Ytnpglgkpdikcjaa

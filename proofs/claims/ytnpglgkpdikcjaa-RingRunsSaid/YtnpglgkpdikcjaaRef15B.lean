/-
  The contracts of 'New', 'without' of package haycockref15.
-/
import Derived.Test.YtnpglgkpdikcjaaRef15A
namespace Go.Proofs.Ytnpglgkpdikcjaa
open Go.RowKit
set_option linter.unusedVariables false

theorem IR.keepS {B : Nat} {w w' : World} {F : List Nat} {u : Value} {l : List Nat} (h : IR B w u l) (k : Keeps F w w') (hf : ∀ b, u.ownBlock = some b → b ∉ F) : IR B w' u l := by
  refine ⟨h.1, ?_⟩
  rcases h.2 with h0 | ⟨g, cap, cur, rfl, hb, hg, r⟩
  · exact .inl h0
  · exact .inr ⟨g, cap, cur, rfl, hb, k.blk hg (hf g rfl), r⟩

/-- Rings are put behind others. -/
theorem WR.pushK {B : Nat} {w w' : World} {v v' : Value} {W K : List (List Nat)} {vs us : List Value} (h1 : w.ownsRow B 33 1 v W.length vs) (h2 : ∀ (i : Nat) (l : List Nat), W[i]? = some l → ∃ u, vs[i]? = some u ∧ IR B w u l)
    (hk : ∀ (i : Nat) (l : List Nat), K[i]? = some l → ∃ u, us[i]? = some u ∧ IR B w u l) (hr : w'.ownsRow B 33 1 v' (W ++ K).length (vs ++ us)) (hg : Keeps v.ownBlock.toList w w') : WR B w' v' (W ++ K) := by
  have hlen := h1.1
  rw [Nat.mul_one] at hlen
  have ap : ∀ (u : Value) (l : List Nat), IR B w u l → IR B w' u l := fun u l h => h.keepS hg (fun b hb he => by
    have := h.apart h1 b hb
    simp only [Option.mem_toList] at he
    exact this he)
  refine ⟨_, hr, fun i l hi => ?_⟩
  by_cases hlt : i < W.length
  · rw [List.getElem?_append_left hlt] at hi
    obtain ⟨u, h3, h4⟩ := h2 i l hi
    exact ⟨u, by rw [List.getElem?_append_left (by omega)]; exact h3, ap _ _ h4⟩
  · rw [List.getElem?_append_right (by omega)] at hi
    obtain ⟨u, h3, h4⟩ := hk _ l hi
    exact ⟨u, by rw [List.getElem?_append_right (by omega), hlen]; exact h3, ap _ _ h4⟩

/-- One more ring. -/
theorem WR.one {B : Nat} {w w' : World} {v : Value} {g cap : Nat} {W : List (List Nat)} {l : List Nat} {vs : List Value} {u : Value} (h1 : w.ownsRow B 33 1 v W.length vs) (h2 : ∀ (i : Nat) (l : List Nat), W[i]? = some l → ∃ u, vs[i]? = some u ∧ IR B w u l)
    (hu : IR B w u l) (hr : w'.ownsRow 0 33 1 (.slice (some ⟨g, 0, none⟩) (W.length + 1) cap) (W.length + 1) (vs ++ [u])) (hB : B ≤ g) (hg : Keeps v.ownBlock.toList w w') : WR B w' (.slice (some ⟨g, 0, none⟩) (W.length + 1) cap) (W ++ [l]) := by
  refine WR.pushK h1 h2 (K := [l]) (us := [u]) ?_ ?_ hg
  · intro i l' hi
    cases i with
    | zero => simp at hi; subst hi; exact ⟨u, rfl, hu⟩
    | succ i => simp at hi
  · have := row_base hr (C := B) (fun b hb => by simp [Value.ownBlock] at hb; omega)
    simpa using this

theorem alone_succ (i : Nat) : alone (i + 1) = alone i ++ [[i]] := by simp [alone, List.range_succ]
theorem alone_len (i : Nat) : (alone i).length = i := by simp [alone]

set_option maxHeartbeats 1000000 in
theorem r15_new (w : World) (n : Nat) (hn : n < 70000) :
    Calls Try.prog 20 #[.int .i64 n] w fun e w' => ∃ v, e = .returned v ∧ WR w.heap.size w' v (alone n) ∧ Below w.heap.size w w' := by
  go_enter Try.func20, Try.ntmps20
  have h0 : WR w.heap.size (w.alloc (.cells #[] 33)) (.slice (some ⟨w.heap.size, 0, none⟩) 0 0) (alone 0) :=
    ⟨[], row_base (row_none_new rfl) (fun b hb => by simp [Value.ownBlock] at hb; omega), fun i l hi => by simp [alone] at hi⟩
  have b0 : Below w.heap.size w (w.alloc (.cells #[] 33)) := (Below.refl _ w).alloc (Nat.le_refl _) _
  go_wp2_with fail
  go_loopg [3, 4] (n + 1) (fun m out s wr => ∃ (i : Nat) (ao : Option Addr) (ca : Nat), i ≤ n ∧ m + i = n + 1 ∧ s = .int .i64 i ∧ out = .slice ao i ca ∧ WR w.heap.size wr out (alone i) ∧ Below w.heap.size w wr)
  case atStart => exact ⟨0, _, _, by omega, by omega, rfl, rfl, h0, b0⟩
  case round =>
    clear h0 b0
    obtain ⟨i, ao, ca, hi, hgi, rfl, rfl, hw, hbel⟩ := hrel
    have HG := Lib.hid hgi
    clear hgi
    by_cases hlt : i < n
    · obtain ⟨vs, hv1, hv2⟩ := hw
      have hs := hbel.size
      rw [alone_len] at hv1
      have hrow := (row_base hv1 (C := 0) (fun _ _ => Nat.zero_le _)).alloc (.cells #[.int .i64 (i : Int)] 3)
      have hnew : IR w.heap.size (wr.alloc (.cells #[.int .i64 (i : Int)] 3)) (.slice (some ⟨wr.heap.size, 0, none⟩) 1 1) [i] := (row_one wr i).lo hs
      have hv1' := hv1.alloc (.cells #[.int .i64 (i : Int)] 3)
      have hv2' : ∀ (j : Nat) (l : List Nat), (alone i)[j]? = some l → ∃ u, vs[j]? = some u ∧ IR w.heap.size (wr.alloc (.cells #[.int .i64 (i : Int)] 3)) u l := fun j l hj => by
        obtain ⟨u, h3, h4⟩ := hv2 j l hj
        exact ⟨u, h3, h4.alloc _⟩
      have hb1 := hbel.alloc hs (.cells #[.int .i64 (i : Int)] 3)
      have hob : ∀ b, (Value.slice ao i ca).ownBlock = some b → w.heap.size ≤ b := by
        intro b hb
        rcases hv1.2 with ⟨h0, _⟩ | ⟨g, cap', cur, e, h1, _⟩
        · rw [h0] at hb; cases hb
        · rw [e] at hb; cases hb; exact h1
      have HV2 := Lib.hid hv2'
      clear hv2 hv2' hbel hv1
      go_wp2_with (at_builtin; refine wpList_push _ 33 (.slice (some ⟨wr.heap.size, 0, none⟩) 1 1) (0, 0) rfl (.tmp 11) (.tmp 14) 41 rfl (.slice none 0 0) 24 Try.underlying41 Try.infoRow rfl rfl _ i vs (by simp [Act.eval]) hrow (by simp [Act.eval]) (by unfold maxLen; omega) (by omega) ?_)
      intro g' cap' w4 hr4 hk4 hf4
      have hg' : w.heap.size ≤ g' := by
        rcases hf4 with h1 | h1
        · exact hob g' h1
        · have : wr.heap.size + 1 ≤ g' := by simpa using h1
          omega
      have hfin : WR w.heap.size w4 (.slice (some ⟨g', 0, none⟩) (i + 1) cap') (alone (i + 1)) := by
        have hl := alone_len i
        rw [alone_succ]
        have := WR.one (W := alone i) (l := [i]) (v := .slice ao i ca) (vs := vs) (g := g') (cap := cap') (by rw [hl]; exact hv1') HV2.out hnew (by rw [hl]; exact hr4) hg' hk4
        rw [hl] at this
        exact this
      have hb4 := hb1.trans (hk4.below hb1.size (fun b hb => hob b (by simpa using hb)))
      clear hr4 hk4 hf4 hv1' hnew hrow hb1 hob HV2
      go_wp2_with fail
      go_roundg (gk - 1)
      case measure => have := HG.out; omega
      case rel => exact ⟨i + 1, _, _, by omega, by have := HG.out; omega, by go_num, rfl, hfin, hb4⟩
    · obtain rfl : i = n := by omega
      go_wp2
      go_ret
      exact ⟨_, rfl, hw, hbel⟩

theorem placeZ_neg (L : List Nat) (x : Int) : decide (placeZ L x < 0) = !L.any (isI x) := by
  rw [← placeZ_any]
  by_cases h : placeZ L x < 0
  · rw [decide_eq_true h, decide_eq_false (by omega)]; rfl
  · rw [decide_eq_false h, decide_eq_true (by omega)]; rfl

set_option maxHeartbeats 2000000 in
theorem r15_without (w : World) (B : Nat) (v : Value) (W : List (List Nat)) (h : WR B w v W) (hB : B ≤ w.heap.size) (hW : W.length < 70000) (hl : ∀ l ∈ W, l.length < 70000) (x y : Int) :
    Calls Try.prog 24 #[v, .int .i64 x, .int .i64 y] w fun e w' => ∃ v, e = .returned v ∧ WR B w' v (withoutZ W x y) ∧ Below w.heap.size w w' ∧ (∀ b, v.ownBlock = some b → w.heap.size ≤ b) := by
  obtain ⟨ao, ca, rfl⟩ := h.form
  go_enter Try.func24, Try.ntmps24
  have h0 : WR B (w.alloc (.cells #[] 33)) (.slice (some ⟨w.heap.size, 0, none⟩) 0 0) (withoutZ (W.take 0) x y) :=
    ⟨[], row_base (row_none_new rfl) (fun b hb => by simp [Value.ownBlock] at hb; omega), fun i l hi => by simp [withoutZ] at hi⟩
  have b0 : Below w.heap.size w (w.alloc (.cells #[] 33)) := (Below.refl _ w).alloc (Nat.le_refl _) _
  go_wp2_with fail
  go_loopg [7, 13] (W.length + 1) (fun m out s wr => ∃ (k : Nat) (ao : Option Addr) (ca : Nat), k ≤ W.length ∧ m + k = W.length + 1 ∧ s = .int .i64 k ∧ out = .slice ao (withoutZ (W.take k) x y).length ca ∧ WR B wr out (withoutZ (W.take k) x y) ∧ (∀ b, out.ownBlock = some b → w.heap.size ≤ b) ∧ Below w.heap.size w wr)
  case atStart => exact ⟨0, _, _, by omega, by omega, rfl, rfl, h0, fun b hb => by simp [Value.ownBlock] at hb; omega, b0⟩
  case round =>
    clear h0 b0
    obtain ⟨k, ao2, ca2, hk, hgk, rfl, rfl, hw, hob, hbel⟩ := hrel
    have HG := Lib.hid hgk
    clear hgk
    by_cases hlt : k < W.length
    · obtain ⟨g, u, rfl, glt, c0, hu⟩ := h.at k hlt
      have hL := hl (W.getD k []) (by simp [List.getD, hlt])
      have htk : withoutZ (W.take (k + 1)) x y = withoutZ (W.take k) x y ++ (if !(W.getD k []).any (isI x) && !(W.getD k []).any (isI y) then [W.getD k []] else []) := by
        rw [List.take_succ_eq_append_getElem hlt, withoutZ, List.filter_append, ← withoutZ]
        simp only [List.filter_cons, List.filter_nil, List.getD, hlt, List.getElem?_eq_getElem, Option.getD_some]
      have hlen : (withoutZ (W.take k) x y).length ≤ k := by
        have := List.length_filter_le (fun l : List Nat => !l.any (isI x) && !l.any (isI y)) (W.take k)
        rw [List.length_take] at this
        simp only [withoutZ]
        omega
      have d0 : wr.cell? ⟨g, k, none⟩ = some u := (hbel.cell (p := ⟨g, k, none⟩) glt).trans c0
      have hu1 : IR B wr u (W.getD k []) := hu.below (hbel.mono (Nat.le_refl _))
      have hs := hbel.size
      have HT := Lib.hid htk
      have hne1 := placeZ_neg (W.getD k []) x
      have hne2 := placeZ_neg (W.getD k []) y
      have HN1 := Lib.hid hne1
      have HN2 := Lib.hid hne2
      clear c0 hu htk hne1 hne2
      generalize W.getD k [] = L at *
      generalize withoutZ (W.take k) x y = K at *
      obtain ⟨au, cu, rfl⟩ := hu1.form
      cases h1 : L.any (isI x) with
      | true =>
        have hp : decide (placeZ L x < 0) = false := by rw [HN1.out, h1]; rfl
        have hfin : Hid (withoutZ (W.take (k + 1)) x y = K) := Lib.hid (by rw [HT.out, h1]; simp)
        clear h1
        go_wp2_with fail
        refine (r15_place wr B _ L hu1 hL x).mono ?_
        rintro e w' ⟨rfl, rfl⟩
        go_wp2_with fail
        go_roundg (gk - 1)
        case measure => have := HG.out; omega
        case rel => exact ⟨k + 1, _, _, by omega, by have := HG.out; omega, by go_num, by rw [hfin.out], by rw [hfin.out]; exact hw, hob, hbel⟩
      | false =>
        cases h2 : L.any (isI y) with
        | true =>
          have hp : decide (placeZ L x < 0) = true := by rw [HN1.out, h1]; rfl
          have hp2 : decide (placeZ L y < 0) = false := by rw [HN2.out, h2]; rfl
          have hfin : Hid (withoutZ (W.take (k + 1)) x y = K) := Lib.hid (by rw [HT.out, h1, h2]; simp)
          clear h1 h2
          go_wp2_with fail
          refine (r15_place wr B _ L hu1 hL x).mono ?_
          rintro e w' ⟨rfl, rfl⟩
          go_wp2_with fail
          refine (r15_place wr B _ L hu1 hL y).mono ?_
          rintro e w' ⟨rfl, rfl⟩
          go_wp2_with fail
          go_roundg (gk - 1)
          case measure => have := HG.out; omega
          case rel => exact ⟨k + 1, _, _, by omega, by have := HG.out; omega, by go_num, by rw [hfin.out], by rw [hfin.out]; exact hw, hob, hbel⟩
        | false =>
          have hp : decide (placeZ L x < 0) = true := by rw [HN1.out, h1]; rfl
          have hp2 : decide (placeZ L y < 0) = true := by rw [HN2.out, h2]; rfl
          have hfin : Hid (withoutZ (W.take (k + 1)) x y = K ++ [L]) := Lib.hid (by rw [HT.out, h1, h2]; simp)
          clear h1 h2
          obtain ⟨vs, hv1, hv2⟩ := hw
          have hrow := row_base hv1 (C := 0) (fun _ _ => Nat.zero_le _)
          have HV2 := Lib.hid hv2
          clear hv2
          go_wp2_with fail
          refine (r15_place wr B _ L hu1 hL x).mono ?_
          rintro e w' ⟨rfl, rfl⟩
          go_wp2_with fail
          refine (r15_place wr B _ L hu1 hL y).mono ?_
          rintro e w' ⟨rfl, rfl⟩
          go_wp2_with (at_builtin; refine wpList_push _ 33 (.slice au L.length cu) (0, 0) rfl (.tmp 27) (.tmp 29) 41 rfl (.slice none 0 0) 24 Try.underlying41 Try.infoRow rfl rfl _ K.length vs (by simp [Act.eval]) hrow (by simp [Act.eval]) (by unfold maxLen; omega) (by omega) ?_)
          intro g' cap' w4 hr4 hk4 hf4
          have hg' : w.heap.size ≤ g' := by
            rcases hf4 with h1 | h1
            · exact hob g' h1
            · omega
          have hfin2 : WR B w4 (.slice (some ⟨g', 0, none⟩) (K.length + 1) cap') (K ++ [L]) := WR.one hv1 HV2.out hu1 hr4 (by omega) hk4
          have hb4 := hbel.trans (hk4.below hbel.size (fun b hb => hob b (by simpa using hb)))
          clear hr4 hk4 hf4 hv1 hrow hbel hob HV2 hu1 d0
          go_wp2_with fail
          go_roundg (gk - 1)
          case measure => have := HG.out; omega
          case rel => exact ⟨k + 1, some ⟨g', 0, none⟩, cap', by omega, by have := HG.out; omega, by go_num, by rw [hfin.out]; simp, by rw [hfin.out]; exact hfin2, fun b hb => by simp [Value.ownBlock] at hb; omega, hb4⟩
    · obtain rfl : k = W.length := by omega
      rw [List.take_length] at hw
      go_wp2
      go_ret
      exact ⟨_, rfl, by rw [List.take_length]; exact hw, hbel, by rw [List.take_length] at hob; simpa using hob⟩

end Go.Proofs.Ytnpglgkpdikcjaa

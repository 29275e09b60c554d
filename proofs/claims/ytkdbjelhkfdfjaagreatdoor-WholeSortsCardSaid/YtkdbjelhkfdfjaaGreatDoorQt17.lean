/-
  Contracts that the law rests on. Conditions: none.
-/
import Derived.Test.YtkdbjelhkfdfjaaGreatDoorQt13
import Derived.Test.YtkdbjelhkfdfjaaGreatDoorQt15
import Derived.Test.YtkdbjelhkfdfjaaGreatDoorQt16
set_option linter.unusedVariables false
set_option maxRecDepth 100000
set_option maxHeartbeats 16000000
namespace Go.Proofs.YtkdbjelhkfdfjaaGreatDoor
open Go.RowKit
theorem sorted_21 {l : List Nat} (h : Sorted [2,1] l) : l = [1,0] :=
  h.one ⟨by simp [kLess],fun x => by simp; omega⟩
theorem numW_21 : NumW [⟨#[50]⟩,⟨#[49]⟩] [2,1] := ⟨rfl,fun i s n e1 e2 => by
  match i, e1, e2 with
  | 0, e1, e2 => cases e1; cases e2; exact ⟨by decide,fun u => number_dig u 2 (by omega)⟩
  | 1, e1, e2 => cases e1; cases e2; exact ⟨by decide,fun u => number_dig u 1 (by omega)⟩⟩
theorem gives_sort (a : Int) (h : okC a 0) : DoGives a ⟨#[115,111,114,116,32,50,32,49]⟩ outA a :=
  do_sort a a outA fun db g u hb hs => (rep_sort u db a 0 (.pointer none) hb h g 1 2 [⟨#[50]⟩,⟨#[49]⟩] [2,1] hs numW_21 (by decide)).mono fun e w' ⟨lst, he, hso, k⟩ => by
    obtain rfl := sorted_21 hso
    exact ⟨he, k.blk hb (by simp), k.mono (by simp)⟩
theorem gives_kind : DoGives 1 ⟨#[107,105,110,100,32,115,107,101,119]⟩ outK 7 :=
  do_kind 1 7 outK fun db g u hb hs => rep_kind u db 1 0 (.pointer none) hb g 1 1 hs
theorem alive_calls (w : World) : Calls Tryz.prog 7 #[] w fun e w' => e = .returned (.bool true) ∧ Keeps [] w w' :=
  alive_of w (gives_sort 1 (by decide)) (gives_sort 7 (by decide)) gives_kind
theorem wholeSorts_calls (w : World) (a0 b0 a1 b1 : Int) (ao : Option Addr) (ca : Nat) (keys : List Int) (hkv : KIn w (.slice ao keys.length ca) keys) :
    Calls Tryz.prog 3 #[.agg #[.int .i64 a0,.int .i64 b0,.int .i64 a1,.int .i64 b1],.slice ao keys.length ca] w fun e w' => e = .returned (.bool true) ∧ Keeps [] w w' := by
  obtain ⟨w0, hw0⟩ : ∃ w0, w0 = w.alloc (.cells #[.int .i64 a0,.int .i64 b0,.int .i64 a1,.int .i64 b1] 24 (0,0)) := ⟨_,rfl⟩
  obtain ⟨c, hc⟩ : ∃ c, c = w.heap.size := ⟨_,rfl⟩
  have k0 : Keeps [] w w0 := by rw [hw0]; exact (Keeps.refl _ _).alloc _
  have hb0 : w0.heap[c]? = some (.cells #[.int .i64 a0,.int .i64 b0,.int .i64 a1,.int .i64 b1] 24 (0,0)) := by rw [hw0, hc]; exact blk_alloc_new _
  have hcell : ∀ u, Keeps [] w0 u -> u.cell? ⟨c,0,none⟩ = some (.int .i64 a0) ∧ u.cell? ⟨c,1,none⟩ = some (.int .i64 b0) ∧ u.cell? ⟨c,2,none⟩ = some (.int .i64 a1) ∧ u.cell? ⟨c,3,none⟩ = some (.int .i64 b1) := fun u k => by
    have := k.blk hb0 (by simp)
    exact ⟨by rw [cell_of_blk this]; rfl,by rw [cell_of_blk this]; rfl,by rw [cell_of_blk this]; rfl,by rw [cell_of_blk this]; rfl⟩
  have HC := Lib.hid hcell
  have HKV := Lib.hid hkv
  have K0 := Lib.hid k0
  have hal := alive_calls w0
  have hck := fun u a b => ref_check_calls u a b
  clear hcell hkv k0 hb0
  generalize hn : keys.length = n at *
  have HN := Lib.hid hn
  clear hn
  go_enter Tryz.func3, Tryz.ntmps3
  go_upto_region 1 with fail
  rw [<- hw0, <- hc]
  clear hw0 hc
  go_upto_region 3 with (go_at_call 7; refine hal.mono ?_; rintro e w1 ⟨rfl, k1⟩; have K1 := Lib.hid (K0.out.trans k1 (by simp)); obtain ⟨x0, x1, x2, x3⟩ := HC.out w1 k1; have C1 := Lib.hid k1; clear k1)
  clear hal
  by_cases hlen : n <= 100
  case neg =>
    have hl : (100 : Int) < (n : Int) := by omega
    go_wp2_with fail
    go_ret
    exact ⟨rfl, K1.out⟩
  have hl : ¬ (100 : Int) < (n : Int) := by omega
  by_cases h0 : okC a0 b0
  case neg =>
    go_wp2_with (go_at_call 8; refine (hck _ a0 b0).mono ?_; rintro e w2 ⟨⟨r,rfl, hr⟩, k2⟩; have hr0 : ¬ r = 0 := fun c => h0 (hr.1 c); have K2 := Lib.hid (K1.out.trans k2 (by simp)); clear k2 hr)
    go_ret
    exact ⟨rfl, K2.out⟩
  by_cases h1 : okC a1 b1
  case neg =>
    go_wp2_with (go_at_call 8; refine (hck _ _ _).mono ?_; rintro e w2 ⟨⟨r,rfl, hr⟩, k2⟩; first
      | (obtain rfl : r = 0 := hr.2 h0; have K2 := Lib.hid (K1.out.trans k2 (by simp)); obtain ⟨y0, y1, y2, y3⟩ := HC.out w2 (C1.out.trans k2 (by simp)); clear k2 hr)
      | (have hr0 : ¬ r = 0 := fun c => h1 (hr.1 c); have K3 := Lib.hid (K2.out.trans k2 (by simp)); clear k2 hr))
    go_ret
    exact ⟨rfl, K3.out⟩
  go_upto_region 5 with (go_at_call 8; refine (hck _ _ _).mono ?_; rintro e w3 ⟨⟨r,rfl, hr⟩, k2⟩; first
      | (obtain rfl : r = 0 := hr.2 h0; have K2 := Lib.hid (K1.out.trans k2 (by simp)); have C2 := Lib.hid (C1.out.trans k2 (by simp)); obtain ⟨y0, y1, y2, y3⟩ := HC.out w3 (C1.out.trans k2 (by simp)); clear k2 hr)
      | (obtain rfl : r = 0 := hr.2 h1; have K3 := Lib.hid (K2.out.trans k2 (by simp)); have C3 := Lib.hid (C2.out.trans k2 (by simp)); obtain ⟨z0, z1, z2, z3⟩ := HC.out w3 (C2.out.trans k2 (by simp)); clear k2 hr))
  clear x0 x1 x2 x3 y0 y1 y2 y3 K0 K1 K2 C1 C2 hck
  have hsort := fun u (h : KIn u (.slice ao n ca) keys) => sort_calls u keys a0 b0 h0 _ h (by have := HN.out; omega)
  have hmerge := fun u lv (h : LIn u lv keys) => merge_calls u keys a1 b1 h1 lv h (by have := HN.out; omega)
  have hmed := fun u (h : KIn u (.slice ao n ca) keys) => medians_calls u keys a1 b1 h1 _ h (by have := HN.out; omega)
  have hopen := fun u => pq_open u a1 b1 n 1 h1 (by omega) (by omega) (by omega)
  go_upto_region 6 with (go_at_call 9; refine (hsort _ (HKV.out.keep K3.out (by simp))).mono ?_; rintro e w4 ⟨l, vl,rfl, hso, hrow, k4⟩; obtain ⟨al, cl,rfl⟩ := hrow.form; have K4 := Lib.hid (K3.out.trans k4 (by simp)); have C4 := Lib.hid (C3.out.trans k4 (by simp)); have HL := Lib.hid (show Sorted keys l ∧ l.length = n ∧ NRow w.heap.size w4 (.slice al l.length cl) l from ⟨hso, hso.length.trans HN.out, hrow.lo K3.out.size⟩); clear k4 hso hrow)
  have hll := HL.out.2.1
  rw [hll]
  clear hll hsort K3 C3 z0 z1 z2 z3 hl
  have hst : LsRow w4.heap.size (w4.alloc (.cells #[] 25 (0,0))) (.slice (some ⟨w4.heap.size,0,none⟩) 0 0) (keys.take 0) ∧ Keeps [] w4 (w4.alloc (.cells #[] 25 (0,0))) := ⟨LsRow.start w4,(Keeps.refl _ _).alloc _⟩
  have HS := Lib.hid hst
  clear hst
  go_wp2_with fail
  go_loopg [7,49] (n + 1) (fun j v t wr => ∃ i : Nat, j + i = n + 1 ∧ i <= n ∧ t = .int .i64 i ∧ LsRow w4.heap.size wr v (keys.take i) ∧ Keeps [] w4 wr)
  case atStart => exact ⟨0,by omega,by omega,rfl, HS.out⟩
  case round =>
    clear HS
    obtain ⟨i, hj, hin,rfl, hls, kp⟩ := hrel
    have HJ := Lib.hid hj
    clear hj
    have htl : (keys.take i).length = i := by rw [List.length_take]; have := HN.out; omega
    obtain ⟨av, cv,rfl⟩ := hls.form
    by_cases hi : i < n
    · have hi3 : (i : Int) < (n : Int) := by omega
      obtain ⟨key, hkey⟩ : ∃ key, keys[i]? = some key := ⟨_, List.getElem?_eq_getElem (by have := HN.out; omega)⟩
      obtain ⟨_, gx, ok, ck, hv, hcell⟩ := (HKV.out.keep (K4.out.trans kp (by simp)) (by simp)).2 i key hkey
      have htk : keys.take (i + 1) = keys.take i ++ [key] := by rw [List.take_add_one, hkey]; rfl
      obtain ⟨xs, hxs, hstep⟩ := hls.step kp.size key rfl
      rw [htl] at hxs hstep
      rw [htl]
      have HF : Hid (∀ g' c' w2, w2.ownsRow 0 25 1 (.slice (some ⟨g',0,none⟩) (i + 1) c') (i + 1) (xs ++ [.slice (some ⟨wr.heap.size,0,none⟩) 1 1]) -> Keeps (Value.slice av i cv).ownBlock.toList (wr.alloc (.cells #[.int .i64 key] 2 (0,0))) w2 -> ((Value.slice av i cv).ownBlock = some g' ∨ (wr.alloc (.cells #[.int .i64 key] 2 (0,0))).heap.size <= g') ->
          LsRow w4.heap.size w2 (.slice (some ⟨g',0,none⟩) (i + 1) c') (keys.take (i + 1)) ∧ Keeps [] w4 w2) := by
        refine Lib.hid fun g' c' w2 q1 q2 q3 => ?_
        obtain ⟨e1, e2⟩ := hstep g' c' w2 q1 q2 q3
        rw [htk]
        have ho := hls.own
        rw [htl] at ho
        exact ⟨e1, kp.trans e2 (fun x hx => .inr (ho x (by simpa [Option.mem_toList] using hx)))⟩
      cases hv
      clear hstep hls kp htk hkey htl
      go_wp2_with (at_builtin; refine wpList_push _ 25 (.slice (some ⟨wr.heap.size,0,none⟩) 1 1) (0,0) rfl (.tmp 53) (.tmp 56) 32 rfl (.slice none 0 0) 24 Tryz.underlying32 Tryz.infoI64s rfl rfl (.slice av i cv) i xs (by simp [Act.eval]) hxs (by simp [Act.eval]) (by unfold maxLen; omega) (by omega) ?_; intro g' cap' w9 hr9 hk9 hf9; have z9 := Lib.hid (HF.out g' cap' w9 hr9 hk9 hf9); clear hr9 hk9 hf9)
      go_roundg (gk - 1)
      case measure => have := HJ.out; omega
      case rel => exact ⟨i + 1,by have := HJ.out; omega,by omega,by go_num, z9.out⟩
    · obtain rfl : i = n := by omega
      have hkt : keys.take i = keys := by rw [<- HN.out]; exact List.take_length
      rw [hkt] at hls
      rw [htl]
      have hwf : ∀ (j : Nat) k, keys[j]? = some k -> (Lit.int .i64 k).wf = true := fun j k e => (HKV.out.2 j k e).1
      have HLI := Lib.hid (show LIn wr (.slice av i cv) keys by have := hls.toIn hwf; rwa [HN.out] at this)
      have K5 := Lib.hid (K4.out.trans kp (by simp))
      have C5 := Lib.hid (C4.out.trans kp (by simp))
      have L5 := Lib.hid kp
      obtain ⟨_, _, x2, x3⟩ := HC.out wr C5.out
      clear hls kp hkt htl hwf HJ C4
      go_upto_region 15 with (first
        | (go_at_call 10; refine (hmerge _ _ HLI.out).mono ?_; rintro e w6 ⟨l6, vm,rfl, hso, hrow, k6⟩; obtain rfl : l6 = l := hso.one HL.out.1; obtain ⟨am, cm,rfl⟩ := hrow.form; have K6 := Lib.hid (K5.out.trans k6 (by simp)); have C6 := Lib.hid (C5.out.trans k6 (by simp)); have L6 := Lib.hid (L5.out.trans k6 (by simp)); obtain ⟨_, _, y2, y3⟩ := HC.out w6 C6.out; have HM := Lib.hid (show PRow w.heap.size w6 (.slice am l6.length cm) l6 from hrow.lo K5.out.size); clear k6 hso hrow x2 x3)
        | (go_at_call 11; refine (hmed _ (HKV.out.keep K6.out (by simp))).mono ?_; rintro e w7 ⟨outs, vn,rfl, hol, hrow, k7, hmid⟩; obtain ⟨an, cn,rfl⟩ := hrow.form; have K7 := Lib.hid (K6.out.trans k7 (by simp)); have C7 := Lib.hid (C6.out.trans k7 (by simp)); have L7 := Lib.hid (L6.out.trans k7 (by simp)); have M7 := Lib.hid k7; obtain ⟨_, _, z2, z3⟩ := HC.out w7 C7.out; have HD := Lib.hid (show outs.length = i ∧ KRow w.heap.size w7 (.slice an outs.length cn) outs ∧ (0 < keys.length -> ∃ A B m, MedP keys A B ∧ m ∈ A ∧ (∀ a ∈ A, a <= m) ∧ outs[keys.length - 1]? = some m) from ⟨hol.trans HN.out, hrow.lo K6.out.size, hmid⟩); clear k7 hol hrow hmid y2 y3)
        | (go_at_call 12; refine (hopen _).mono ?_; rintro e w8 ⟨F, s,rfl, st, k8, hF⟩; have HST := Lib.hid (show StoreAt w8 F s a1.toNat i 0 (fun _ => none) 0 1 (fun _ => 0) ∧ Keeps [] w7 w8 ∧ ∀ b ∈ F, w7.heap.size <= b from ⟨st, k8, hF⟩); clear st k8 hF z2 z3))
      have hl6 := HL.out.2.1
      have hl7 := HD.out.1
      rw [hl6, hl7]
      obtain ⟨st, k8, hF⟩ := HST.out
      have hnh := pq_newheap w8 F s a1.toNat i 0 (fun _ => none) 0 1 (fun _ => 0) st (by omega)
      have hfin : ∀ w9 F', StoreAt w9 F' s a1.toNat i (0 + 1) (fun _ => none) 0 1 (fun _ => 0) -> Moved F w8 F' w9 -> Come w7 s a1.toNat keys 0 w9 := fun w9 F' st9 mv => by
        have hn := HN.out
        subst hn
        exact ⟨_, _, F',⟨st9, FillP.empty _ _⟩, k8.trans mv.keeps (fun b hb => .inr (hF b hb)),fun b hb => by
          rcases mv.from' b hb with e | e
          · exact hF b e
          · have := k8.size; omega⟩
      have HF := Lib.hid hfin
      clear hfin st k8 hF HST hl6 hl7 K4 K5 K6 L5 L6 C5 C6 C7 HLI hmerge hmed hopen
      go_upto_region 18 with (go_at_call 13; refine hnh.mono ?_; rintro e w9 ⟨rfl, F', st9, mv⟩; have HCM := Lib.hid (HF.out w9 F' st9 mv); clear st9 mv)
      clear HF hnh
      go_wp2_with fail
      go_loopg [124] (i + 1) (fun j t wr => ∃ q : Nat, j + q = i + 1 ∧ q <= i ∧ t = .int .i64 q ∧ Come w7 s a1.toNat keys q wr)
      case atStart => exact ⟨0,by omega,by omega,rfl, HCM.out⟩
      case round =>
        clear HCM
        obtain ⟨q, hj, hqi,rfl, hcm⟩ := hrel
        have HJ := Lib.hid hj
        clear hj
        by_cases hq : q < i
        · have hi3 : (q : Int) < (i : Int) := by omega
          obtain ⟨key, hkey⟩ : ∃ key, keys[q]? = some key := ⟨_, List.getElem?_eq_getElem (by have := HN.out; omega)⟩
          have kp : Keeps [] w7 wr := by obtain ⟨_, _, _, _, kp, _⟩ := hcm; exact kp
          obtain ⟨hwf, gx, ok, ck, hv, hcell⟩ := (HKV.out.keep (K7.out.trans kp (by simp)) (by simp)).2 q key hkey
          have hins := hcm.insert _ s a1.toNat keys (by have := HN.out; omega) hkey hwf
          cases hv
          clear hcm kp hkey hwf
          go_wp2_with (go_at_call 14; refine hins.mono ?_; rintro e w10 ⟨⟨r,rfl⟩, hcm⟩; have HCM := Lib.hid hcm; clear hcm)
          go_roundg (gk - 1)
          case measure => have := HJ.out; omega
          case rel => exact ⟨q + 1,by have := HJ.out; omega,by omega,by go_num, HCM.out⟩
        · obtain rfl : q = i := by omega
          have hcm' : Come w7 s a1.toNat keys keys.length wr := by rw [HN.out]; exact hcm
          have kp : Keeps [] w7 wr := by obtain ⟨_, _, _, _, kp, _⟩ := hcm; exact kp
          have hdr := hcm'.drain w7 s a1.toNat keys (by have := HN.out; omega)
          have S8 := Lib.hid kp.size
          clear hcm hcm' kp HJ
          go_upto_region 26 with (go_at_call 15; refine hdr.mono ?_; rintro e w10 ⟨l8, vo,rfl, hso, hrow, k10⟩; obtain rfl : l8 = l6 := hso.one HL.out.1; obtain ⟨ao2, co, hvo⟩ := hrow.form; rw [List.length_map, HL.out.2.1] at hvo; subst hvo; have K10 := Lib.hid k10; have HO := Lib.hid (show KRow w.heap.size w10 (.slice ao2 q co) (l8.map fun i => keys.getD i 0) from hrow.lo (Nat.le_trans K7.out.size S8.out)); clear hso hrow k10)
          clear hdr S8
          have hall : ∀ u, Keeps [] w10 u -> KIn u (.slice ao q ca) keys ∧ NRow w.heap.size u (.slice al q cl) l8 ∧ PRow w.heap.size u (.slice am q cm) l8 ∧ KRow w.heap.size u (.slice an q cn) outs ∧ KRow w.heap.size u (.slice ao2 q co) (l8.map fun i => keys.getD i 0) ∧ Keeps [] w u := fun u k => by
            have k7 := K10.out.trans k (by simp)
            have h2 := HL.out.2.2; rw [HL.out.2.1] at h2
            have h3 := HM.out; rw [HL.out.2.1] at h3
            have h4 := HD.out.2.1; rw [HD.out.1] at h4
            have h5 := HO.out
            exact ⟨HKV.out.keep (K7.out.trans k7 (by simp)) (by simp), h2.keep (L7.out.trans k7 (by simp)) (by simp), h3.keep (M7.out.trans k7 (by simp)) (by simp), h4.keep k7 (by simp), h5.keep k (by simp), K7.out.trans k7 (by simp)⟩
          have HA := Lib.hid hall
          have HSO := Lib.hid (show Sorted keys l8 ∧ l8.length = q from ⟨HL.out.1, HL.out.2.1⟩)
          have HME := Lib.hid (show outs.length = q ∧ (0 < keys.length -> ∃ A B m, MedP keys A B ∧ m ∈ A ∧ (∀ a ∈ A, a <= m) ∧ outs[keys.length - 1]? = some m) from ⟨HD.out.1, HD.out.2.2⟩)
          clear hall HL HM HD HO HKV K7 L7 M7 K10 HC
          go_wp2_with fail
          go_loopg [148] (q + 1) (fun j t wr => ∃ i : Nat, j + i = q + 1 ∧ i <= q ∧ t = .int .i64 i ∧ Keeps [] w10 wr)
          case atStart => exact ⟨0,by omega,by omega,rfl, Keeps.refl _ _⟩
          case round =>
            obtain ⟨i, hj, hiq,rfl, kp⟩ := hrel
            have HJ := Lib.hid hj
            clear hj
            obtain ⟨hk1, hk2, hk3, hk4, hk5, hk6⟩ := HA.out wr kp
            by_cases hi2 : i < q
            · have hi3 : (i : Int) < (q : Int) := by omega
              obtain ⟨x, hx⟩ : ∃ x, l8[i]? = some x := ⟨_, List.getElem?_eq_getElem (by have := HSO.out.2; omega)⟩
              have hxq : x < q := by have := (HSO.out.1.2 x).1 (List.mem_of_getElem? hx); have := HN.out; omega
              have hx3 : (x : Int) < (q : Int) := by omega
              obtain ⟨key, hkey⟩ : ∃ key, keys[x]? = some key := ⟨_, List.getElem?_eq_getElem (by have := HN.out; omega)⟩
              obtain ⟨_, gx, ok, ck, hv, c1⟩ := hk1.2 x key hkey
              obtain ⟨g2,rfl, _, c2⟩ := hk2.at hx
              obtain ⟨g3, cc3, e3⟩ := hk3.form1 (by have := HSO.out.2; omega)
              injection e3 with e3a e3b e3c
              subst e3a
              obtain ⟨c3, c4⟩ := hk3.at hx
              have ho : (l8.map fun i => keys.getD i 0)[i]? = some key := by rw [List.getElem?_map, hx]; simp [List.getD, hkey]
              obtain ⟨g5,rfl, _, c5⟩ := hk5.at ho
              have KP := Lib.hid kp
              cases hv
              clear hk1 hk2 hk3 hk4 hk5 hk6 kp hx hkey ho
              have hx0 : ¬ (x : Int) < 0 := by omega
              have hxn : ¬ (keys.length : Int) <= (x : Int) := by omega
              clear e3b e3c
              go_upto_region 29 with fail
              go_quiet (fail)
              all_goals
                go_wp2_with fail
                go_roundg (gk - 1)
                case measure => have := HJ.out; omega
                case rel => exact ⟨i + 1,by have := HJ.out; omega,by omega,by go_num, KP.out.drewN _⟩
            · obtain rfl : i = q := by omega
              have KF := Lib.hid hk6
              by_cases hz : 0 < i
              · obtain ⟨A, B, m, hmp, hmA, hmx, hlast⟩ := HME.out.2 (by have := HN.out; omega)
                have hmid := hmp.middle HSO.out.1 hmA hmx
                rw [HN.out] at hlast hmid
                obtain ⟨g4,rfl, _, c4⟩ := hk4.at hlast
                obtain ⟨g5,rfl, _, c5⟩ := hk5.at hmid
                have hz3 : ¬ (i : Int) = 0 := by omega
                have hz4 : ¬ i = 0 := by omega
                have hz5 : decide (i = 0) = false := by simpa using hz4
                have hz6 : ((i : Int) == 0) = false := by simpa using hz4
                have hz7 : (i == 0) = false := by simpa using hz4
                have e1 : (i : Int) - 1 = ((i - 1 : Nat) : Int) := by omega
                have e2 : ((i - 1 : Nat) : Int).tdiv 2 = (((i - 1) / 2 : Nat) : Int) := by rw [Int.tdiv_eq_ediv_of_nonneg (by omega)]; omega
                have b1 : i - 1 < i := by omega
                have b2 : (i - 1) / 2 < i := by omega
                clear hk1 hk2 hk3 hk4 hk5 hk6 hlast hmid hmp hmA hmx kp
                clear HA HSO HME HN
                go_upto_region 32 with fail
                go_quiet (fail)
                all_goals
                  go_wp2_with fail
                  go_ret
                  exact ⟨rfl, KF.out.drewN _⟩
              · obtain rfl : i = 0 := by omega
                clear hk1 hk2 hk3 hk4 hk5 hk6 kp HA HSO HME
                go_upto_region 32 with fail
                go_quiet (fail)
                all_goals
                  go_wp2_with fail
                  go_ret
                  exact ⟨rfl, KF.out.drewN _⟩
end Go.Proofs.YtkdbjelhkfdfjaaGreatDoor


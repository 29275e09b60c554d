/-
  Contracts that the law rests on. Conditions: none.
-/
import Derived.Test.YtkdbjelhkfdfjaaGreatDoorQs04
import Derived.Below
import Derived.ChangeKeysEq
import Derived.ChangeOld
import Derived.Deep.AppendLies
import Derived.Deep.Cut
import Derived.Deep.CutBlock
import Derived.Deep.DeepCutAuto
import Derived.Deep.LoopGhost
import Derived.Deep.OwnRows
import Derived.Deep.RegionHeld3
import Derived.Deep.RegionLaw
import Derived.Deep.Slices
import Derived.Deep.Strs
import Derived.DeepKeys4
import Derived.IntWalk
import Derived.Laws.Entries
import Derived.Laws.ResultCell
import Derived.Laws.Rows
import Derived.Laws.StructEq
import Derived.Lib.SliceRun
import Derived.Maps.OwnSet
import Derived.Maps.Views
import Derived.OpenShut
import Derived.OwnWalk
import Derived.ProofKit
import Derived.ShutString
set_option linter.unusedVariables false
set_option maxRecDepth 100000
set_option maxHeartbeats 16000000
namespace Go.Proofs.YtkdbjelhkfdfjaaGreatDoor
open Go.RowKit
structure PAt (w : World) (g n : Nat) (f : Nat -> Nat) : Prop where
  a : ∀ i, i < n -> w.cell? ⟨g, i * 2, none⟩ = some (.int .i64 (f i : Nat))
  b : ∀ i, i < n -> w.cell? ⟨g, i * 2 + 1, none⟩ = some (.int .i64 0)
  up : ∀ i j, i < j -> j < n -> f i < f j
  lt : ∀ i, i < n -> f i <= 65536
  sz : n <= 65536
section
variable {w w' : World} {g n : Nat} {f : Nat -> Nat}
theorem PAt.keep (h : PAt w g n f) (k : Keeps [] w w') : PAt w' g n f := by
  have hc : ∀ (j : Nat) v, w.cell? ⟨g,j,none⟩ = some v -> w'.cell? ⟨g,j,none⟩ = some v := fun j v e => by
    rw [World.cell?_of_block (a := ⟨g,j,none⟩) (k.block g (by simpa using World.block_lt_of_cell? w _ e) (by simp))]; exact e
  exact ⟨fun i hi => hc _ _ (h.a i hi),fun i hi => hc _ _ (h.b i hi), h.up, h.lt, h.sz⟩
theorem compare_gt (w : World) (x y : Nat) (hx : x <= 65536) (hxy : y < x) : Calls Tryz.prog 54 #[.agg #[.int .i64 (x : Int),.int .i64 0],.agg #[.int .i64 (y : Int),.int .i64 0]] w fun e w' => e = .returned (.int .i64 ((x - y : Nat) : Int)) ∧ Keeps [] w w' := by
  obtain ⟨w0, hw0⟩ : ∃ w0, w0 = (w.alloc (.cells #[.int .i64 (x : Int),.int .i64 0] 51 (0,0))).alloc (.cells #[.int .i64 (y : Int),.int .i64 0] 51 (0,0)) := ⟨_,rfl⟩
  have k0 : Keeps [] w w0 := by rw [hw0]; exact ((Keeps.refl _ _).alloc _).alloc _
  have hb1 : w0.heap[w.heap.size + 1]? = some (.cells #[.int .i64 (y : Int),.int .i64 0] 51 (0,0)) := by
    rw [hw0]
    have := blk_alloc_new (w := w.alloc (.cells #[.int .i64 (x : Int),.int .i64 0] 51 (0,0))) (.cells #[.int .i64 (y : Int),.int .i64 0] 51 (0,0))
    simpa using this
  have hb0 : w0.heap[w.heap.size]? = some (.cells #[.int .i64 (x : Int),.int .i64 0] 51 (0,0)) := by
    rw [hw0]
    exact ((Keeps.refl [] _).alloc _).blk (blk_alloc_new _) (by simp)
  have e0 : w0.cell? ⟨w.heap.size,0,none⟩ = some (.int .i64 (x : Int)) := by rw [cell_of_blk hb0]; rfl
  have e1 : w0.cell? ⟨w.heap.size + 1,0,none⟩ = some (.int .i64 (y : Int)) := by rw [cell_of_blk hb1]; rfl
  have hne : ((x : Int) != (y : Int)) = true := by rw [bne_iff_ne]; omega
  have hd : (x : Int) - (y : Int) = ((x - y : Nat) : Int) := by omega
  have K0 := Lib.hid k0
  clear k0 hb0 hb1
  go_enter Tryz.func54, Tryz.ntmps54
  go_upto_region 1 with fail
  rw [<- hw0]
  clear hw0
  go_wp2_with fail
  go_ret
  exact ⟨rfl, K0.out⟩
end
abbrev cmpV' : Value := .func (.func 54) #[] #[]
section
variable (w : World) (g n ca : Nat) (f : Nat -> Nat)
theorem insertion_calls (h : PAt w g n f) (a b : Nat) (hab : a <= b) (hb : b <= n) :
    Calls Tryz.prog 115 #[.slice (some ⟨g,0,none⟩) n ca,.int .i64 (a : Int),.int .i64 (b : Int), cmpV'] w fun e w' => e = .returned (.tuple #[]) ∧ Keeps [] w w' := by
  have hsz := h.sz
  have H := Lib.hid h
  clear h
  go_enter Tryz.func115, Tryz.ntmps115
  go_wp2_with fail
  go_loopg [8] (b + 1) (fun k t wr => ∃ i : Nat, k + i = b + 1 + a + 1 ∧ a + 1 <= i ∧ (i <= b ∨ i = a + 1) ∧ t = .int .i64 i ∧ Keeps [] w wr)
  case atStart => exact ⟨a + 1,by omega, Nat.le_refl _,.inr rfl,by go_num, Keeps.refl _ _⟩
  case round =>
    obtain ⟨i, hk, hai, hib,rfl, kp⟩ := hrel
    obtain ⟨gk0, hgk0⟩ : ∃ gk0, gk0 = gk := ⟨_,rfl⟩
    have HG := Lib.hid hgk0
    clear hgk0
    have HK := Lib.hid hk
    clear hk
    by_cases hi : i < b
    · have hi3 : (i : Int) < (b : Int) := by omega
      have hpat := H.out.keep kp
      have KP := Lib.hid kp
      clear kp
      go_upto_block 3 with fail
      go_loopg [9] 1 (fun k t wq => k = 1 ∧ t = .int .i64 i ∧ wq = wr)
      case atStart => exact ⟨rfl,rfl,rfl⟩
      case round =>
        obtain ⟨hk1,rfl,rfl⟩ := hrel
        have c0 := hpat.a i (by omega)
        have c1 := hpat.b i (by omega)
        have c2 := hpat.a (i - 1) (by omega)
        have c3 := hpat.b (i - 1) (by omega)
        have hf := hpat.up (i - 1) i (by omega) (by omega)
        have hl := hpat.lt i (by omega)
        have hcmp := compare_gt wr.drew (f i) (f (i - 1)) hl hf
        have hneg : ¬ ((f i - f (i - 1) : Nat) : Int) < 0 := by omega
        obtain ⟨i',rfl⟩ : ∃ i', i = i' + 1 := ⟨i - 1,by omega⟩
        have hg1 : (a : Int) < (i' : Int) + 1 := by omega
        have hg2 : (i' : Int) + 1 < (n : Int) := by omega
        have hg3 : (i' : Int) < (n : Int) := by omega
        have hg4 : 0 <= (i' : Int) + 1 := by omega
        have hg5 : ((i' : Int) + 1).toNat = i' + 1 := by omega
        simp only [Nat.add_sub_cancel] at c2 c3 hcmp hneg
        have hwr : IntKind.i64.wrap (i' : Int) = (i' : Int) := by simp [IntKind.wrap, IntKind.bits, IntKind.signed]; omega
        have HP := Lib.hid hpat
        clear hpat hf hl
        go_upto_region 4 with fail
        go_still_tail 14,(by kernel_rfl)
        change wpList _ _ _ _ _ wr.drew
        have hkd : Keeps [] w wr.drew := KP.out.drew
        generalize wr.drew = wd at *
        have KD := Lib.hid (show Keeps [] w wd from hkd)
        clear hkd c0 c1 c2 c3
        go_wp2_with (go_at_call 54; refine hcmp.mono ?_; rintro e w5 ⟨rfl, k5⟩; have K5 := Lib.hid (KD.out.trans k5 (by simp)); clear k5)
        go_roundg (gk0 - 1)
        case measure => have := HK.out; have := HG.out; omega
        case rel => exact ⟨i' + 1 + 1,by have := HK.out; have := HG.out; omega,by omega,.inl (by omega),by go_num, K5.out⟩
    · have hi3 : ¬ (i : Int) < (b : Int) := by omega
      have KP := Lib.hid kp
      clear kp
      go_wp2_with fail
      go_end0
      exact ⟨rfl, KP.out⟩
end
section
variable (w : World) (g n ca : Nat) (f : Nat -> Nat)
theorem symMerge_one (h : PAt w g n f) (a m b : Nat) (ham : m = a + 1) (hmb : m < b) (hb : b <= n) :
    Calls Tryz.prog 116 #[.slice (some ⟨g,0,none⟩) n ca,.int .i64 (a : Int),.int .i64 (m : Int),.int .i64 (b : Int), cmpV'] w fun e w' => e = .returned (.tuple #[]) ∧ Keeps [] w w' := by
  have hsz := h.sz
  have H := Lib.hid h
  clear h
  have hd : ((m : Int) - (a : Int) == 1) = true := by rw [beq_iff_eq]; omega
  have HM := Lib.hid ham
  have ham0 : a < m := by omega
  clear ham
  go_enter Tryz.func116, Tryz.ntmps116
  go_wp2_with fail
  go_loopg [10,11] (b + 1) (fun k s t wr => ∃ j : Nat, k + m = j + 1 + m ∧ m <= j ∧ j <= b ∧ s = .int .i64 (m : Int) ∧ t = .int .i64 (j : Int) ∧ Keeps [] w wr)
  case atStart => exact ⟨b,by omega,by omega, Nat.le_refl _,by go_num,by go_num, Keeps.refl _ _⟩
  case round =>
    obtain ⟨j, hk, haj, hjb,rfl,rfl, kp⟩ := hrel
    have HK := Lib.hid hk
    clear hk
    by_cases hi : m < j
    · have hi3 : (m : Int) < (j : Int) := by omega
      go_upto_region 5 with fail
      obtain ⟨hh, he⟩ : ∃ hh : Nat,((m : Int) + (j : Int)) / 2 = (hh : Int) := ⟨(m + j) / 2,by omega⟩
      simp only [he]
      have hh1 : m <= hh := by omega
      have hh2 : hh < j := by omega
      have hq1 : (hh : Int) < (n : Int) := by omega
      have hq2 : (a : Int) < (n : Int) := by omega
      clear he
      have hpat := H.out.keep kp
      have c0 := hpat.a (hh) (by omega)
      have c1 := hpat.b (hh) (by omega)
      have c2 := hpat.a (a) (by omega)
      have c3 := hpat.b (a) (by omega)
      have hcmp := compare_gt wr.drew (f (hh)) (f (a)) (hpat.lt (hh) (by omega)) (hpat.up (a) (hh) (by omega) (by omega))
      have hneg : ¬ ((f (hh) - f (a) : Nat) : Int) < 0 := by omega
      have KP := Lib.hid kp
      clear kp hpat
      go_still_tail 9,(by kernel_rfl)
      change wpList _ _ _ _ _ wr.drew
      have hkd : Keeps [] w wr.drew := KP.out.drew
      generalize wr.drew = wd at *
      have KD := Lib.hid hkd
      clear hkd c0 c1 c2 c3
      go_wp2_with (go_at_call 54; refine hcmp.mono ?_; rintro e w5 ⟨rfl, k5⟩; have K5 := Lib.hid (KD.out.trans k5 (by simp)); clear k5)
      go_roundg (hh + 1)
      case measure => have := HK.out; omega
      case rel => exact ⟨hh,rfl, hh1,by omega,by go_num,by go_num, K5.out⟩
    · obtain rfl : j = m := by omega
      have KP := Lib.hid kp
      clear kp
      have hz : ¬ (a : Int) < (j : Int) - 1 := by have := HM.out; omega
      go_wp2_with fail
      go_loopg [13] 1 (fun k s wq => k = 1 ∧ s = .int .i64 (a : Int) ∧ wq = wr)
      case atStart => exact ⟨rfl,rfl,rfl⟩
      case round =>
        obtain ⟨hk1,rfl,rfl⟩ := hrel
        go_wp2_with fail
        refine bodyPost_ret (results_none rfl _ _ _) rfl ?_
        exact ⟨rfl, KP.out⟩
theorem symMerge_last (h : PAt w g n f) (a m b : Nat) (ham : a + 1 < m) (hmb : b = m + 1) (hb : b <= n) :
    Calls Tryz.prog 116 #[.slice (some ⟨g,0,none⟩) n ca,.int .i64 (a : Int),.int .i64 (m : Int),.int .i64 (b : Int), cmpV'] w fun e w' => e = .returned (.tuple #[]) ∧ Keeps [] w w' := by
  have hsz := h.sz
  have H := Lib.hid h
  clear h
  have hd : ((m : Int) - (a : Int) == 1) = false := by rw [beq_eq_false_iff_ne]; omega
  have hd2 : ((b : Int) - (m : Int) == 1) = true := by rw [beq_iff_eq]; omega
  have HM := Lib.hid hmb
  have hmb0 : m < b := by omega
  clear hmb
  go_enter Tryz.func116, Tryz.ntmps116
  go_wp2_with fail
  go_loopg [14,15] (m + 1) (fun k s t wr => ∃ i : Nat, k + i = m + 1 + a ∧ a <= i ∧ i <= m ∧ s = .int .i64 (i : Int) ∧ t = .int .i64 (m : Int) ∧ Keeps [] w wr)
  case atStart => exact ⟨a,by omega,by omega,by omega,by go_num,by go_num, Keeps.refl _ _⟩
  case round =>
    obtain ⟨i, hk, hai, him,rfl,rfl, kp⟩ := hrel
    have HK := Lib.hid hk
    clear hk
    by_cases hi : i < m
    · have hi3 : (i : Int) < (m : Int) := by omega
      go_upto_region 17 with fail
      obtain ⟨hh, he⟩ : ∃ hh : Nat,((i : Int) + (m : Int)) / 2 = (hh : Int) := ⟨(i + m) / 2,by omega⟩
      simp only [he]
      have hh1 : i <= hh := by omega
      have hh2 : hh < m := by omega
      have hq1 : (hh : Int) < (n : Int) := by omega
      have hq2 : (m : Int) < (n : Int) := by omega
      clear he
      have hpat := H.out.keep kp
      have c0 := hpat.a (m) (by omega)
      have c1 := hpat.b (m) (by omega)
      have c2 := hpat.a (hh) (by omega)
      have c3 := hpat.b (hh) (by omega)
      have hcmp := compare_gt wr.drew (f (m)) (f (hh)) (hpat.lt (m) (by omega)) (hpat.up (hh) (m) (by omega) (by omega))
      have hneg : ¬ ((f (m) - f (hh) : Nat) : Int) < 0 := by omega
      have KP := Lib.hid kp
      clear kp hpat
      go_still_tail 9,(by kernel_rfl)
      change wpList _ _ _ _ _ wr.drew
      have hkd : Keeps [] w wr.drew := KP.out.drew
      generalize wr.drew = wd at *
      have KD := Lib.hid hkd
      clear hkd c0 c1 c2 c3
      go_wp2_with (go_at_call 54; refine hcmp.mono ?_; rintro e w5 ⟨rfl, k5⟩; have K5 := Lib.hid (KD.out.trans k5 (by simp)); clear k5)
      go_roundg (m + a - hh)
      case measure => have := HK.out; omega
      case rel => exact ⟨hh + 1,by omega,by omega,by omega,by go_num,by go_num, K5.out⟩
    · obtain rfl : i = m := by omega
      have KP := Lib.hid kp
      clear kp
      go_wp2_with fail
      go_loopg [17] 1 (fun k s wq => k = 1 ∧ s = .int .i64 (i : Int) ∧ wq = wr)
      case atStart => exact ⟨rfl,rfl,rfl⟩
      case round =>
        obtain ⟨hk1,rfl,rfl⟩ := hrel
        go_wp2_with fail
        refine bodyPost_ret (results_none rfl _ _ _) rfl ?_
        exact ⟨rfl, KP.out⟩
theorem symMerge_hi (h : PAt w g n f) (a m b mid : Nat) (ham : a + 1 < m) (hmb : m + 1 < b) (hb : b <= n) (hmid : mid = (a + b) / 2)
    (s0 : Nat) (hs0 : s0 + b = mid + m) (hgt : mid < m) (ih : ∀ u, PAt u g n f -> Calls Tryz.prog 116 #[.slice (some ⟨g,0,none⟩) n ca,.int .i64 (mid : Int),.int .i64 (m : Int),.int .i64 (b : Int), cmpV'] u fun e w' => e = .returned (.tuple #[]) ∧ Keeps [] u w') :
    Calls Tryz.prog 116 #[.slice (some ⟨g,0,none⟩) n ca,.int .i64 (a : Int),.int .i64 (m : Int),.int .i64 (b : Int), cmpV'] w fun e w' => e = .returned (.tuple #[]) ∧ Keeps [] w w' := by
  have hsz := h.sz
  have H := Lib.hid h
  clear h
  have hd : ((m : Int) - (a : Int) == 1) = false := by rw [beq_eq_false_iff_ne]; omega
  have hd2 : ((b : Int) - (m : Int) == 1) = false := by rw [beq_eq_false_iff_ne]; omega
  have hmid2 : ((a : Int) + (b : Int)) / 2 = (mid : Int) := by omega
  have hmr : a < mid ∧ mid < b ∧ 2 * mid <= a + b ∧ a + b <= 2 * mid + 1 := by omega
  obtain ⟨hma, hmb1, hm2, hm3⟩ := hmr
  have hE : (mid : Int) + (m : Int) - ((mid : Nat) : Int) = ((mid + m - mid : Nat) : Int) := by omega
  clear hmid
  go_enter Tryz.func116, Tryz.ntmps116
  go_wp2_with fail
  obtain ⟨pp, hpp⟩ : ∃ pp : Nat,(mid : Int) + (m : Int) - 1 = (pp : Int) := ⟨mid + m - 1,by omega⟩
  simp only [hpp]
  have HPP := Lib.hid hpp
  clear hpp
  go_loopg [20,21] (mid + 1) (fun k s t wr => ∃ i : Nat, k + i = mid + 1 + s0 ∧ s0 <= i ∧ i <= mid ∧ s = .int .i64 (i : Int) ∧ t = .int .i64 ((mid : Nat) : Int) ∧ Keeps [] w wr)
  case atStart => exact ⟨s0,by omega,by omega,by omega,(by first | go_num | (congr 1; omega)),by go_num, Keeps.refl _ _⟩
  case round =>
    obtain ⟨i, hk, hai, him,rfl,rfl, kp⟩ := hrel
    have HK := Lib.hid hk
    clear hk
    by_cases hi : i < mid
    · have hi3 : (i : Int) < ((mid : Nat) : Int) := by omega
      go_upto_region 35 with fail
      obtain ⟨hh, he⟩ : ∃ hh : Nat,((i : Int) + ((mid : Nat) : Int)) / 2 = (hh : Int) := ⟨(i + mid) / 2,by omega⟩
      simp only [he]
      have hh1 : i <= hh := by omega
      have hh2 : hh < mid := by omega
      clear he
      obtain ⟨x, hx⟩ : ∃ x : Nat, x = mid + m - 1 - hh := ⟨_,rfl⟩
      have hpp := HPP.out
      have hxi : (pp : Int) - (hh : Int) = (x : Int) := by omega
      have hxh : hh < x ∧ x < n := by omega
      have hq1 : (hh : Int) < (n : Int) := by omega
      have hq2 : (x : Int) < (n : Int) := by omega
      obtain ⟨hx1, hx2⟩ := hxh
      have hwr : IntKind.i64.wrap ((pp : Int) - (hh : Int)) = (x : Int) := by rw [IntWalk.i64_in _ (by omega)]; exact hxi
      clear hx hxi hpp
      have hpat := H.out.keep kp
      have c0 := hpat.a (x) (by omega)
      have c1 := hpat.b (x) (by omega)
      have c2 := hpat.a (hh) (by omega)
      have c3 := hpat.b (hh) (by omega)
      have hcmp := compare_gt wr.drew (f (x)) (f (hh)) (hpat.lt (x) (by omega)) (hpat.up (hh) (x) (by omega) (by omega))
      have hneg : ¬ ((f (x) - f (hh) : Nat) : Int) < 0 := by omega
      have KP := Lib.hid kp
      clear kp hpat
      go_still_tail 11,(by kernel_rfl)
      change wpList _ _ _ _ _ wr.drew
      have hkd : Keeps [] w wr.drew := KP.out.drew
      generalize wr.drew = wd at *
      have KD := Lib.hid hkd
      clear hkd c0 c1 c2 c3
      go_wp2_with (go_at_call 54; refine hcmp.mono ?_; rintro e w5 ⟨rfl, k5⟩; have K5 := Lib.hid (KD.out.trans k5 (by simp)); clear k5)
      go_roundg (mid + s0 - hh)
      case measure => have := HK.out; omega
      case rel => exact ⟨hh + 1,by omega,by omega,by omega,by go_num,by go_num, K5.out⟩
    · obtain rfl : mid = i := by omega
      have KP := Lib.hid kp
      have hpat := H.out.keep kp
      clear kp
      go_upto_region 39 with fail
      try simp only [hE]
      have h1 : ¬ (m : Int) < (m : Int) := by omega
      have hcall := ih wr hpat
      clear ih hpat
      go_wp2_with (go_at_call 116; refine hcall.mono ?_; rintro e w7 ⟨rfl, k7⟩; have K7 := Lib.hid (KP.out.trans k7 (by simp)); clear k7)
      go_end0
      exact ⟨rfl, K7.out⟩
theorem symMerge_lo (h : PAt w g n f) (a m b mid : Nat) (ham : a + 1 < m) (hmb : m + 1 < b) (hb : b <= n) (hmid : mid = (a + b) / 2)
    (hgt : m < mid) (ih : ∀ u, PAt u g n f -> Calls Tryz.prog 116 #[.slice (some ⟨g,0,none⟩) n ca,.int .i64 (a : Int),.int .i64 (m : Int),.int .i64 (mid : Int), cmpV'] u fun e w' => e = .returned (.tuple #[]) ∧ Keeps [] u w') :
    Calls Tryz.prog 116 #[.slice (some ⟨g,0,none⟩) n ca,.int .i64 (a : Int),.int .i64 (m : Int),.int .i64 (b : Int), cmpV'] w fun e w' => e = .returned (.tuple #[]) ∧ Keeps [] w w' := by
  have hsz := h.sz
  have H := Lib.hid h
  clear h
  have hd : ((m : Int) - (a : Int) == 1) = false := by rw [beq_eq_false_iff_ne]; omega
  have hd2 : ((b : Int) - (m : Int) == 1) = false := by rw [beq_eq_false_iff_ne]; omega
  have hmid2 : ((a : Int) + (b : Int)) / 2 = (mid : Int) := by omega
  have hmr : a < mid ∧ mid < b ∧ 2 * mid <= a + b ∧ a + b <= 2 * mid + 1 := by omega
  obtain ⟨hma, hmb1, hm2, hm3⟩ := hmr
  have hE : (mid : Int) + (m : Int) - ((m : Nat) : Int) = ((mid + m - m : Nat) : Int) := by omega
  clear hmid
  have hdec : decide (mid < m) = false := by rw [decide_eq_false_iff_not]; omega
  go_enter Tryz.func116, Tryz.ntmps116
  go_wp2_with fail
  obtain ⟨pp, hpp⟩ : ∃ pp : Nat,(mid : Int) + (m : Int) - 1 = (pp : Int) := ⟨mid + m - 1,by omega⟩
  simp only [hpp]
  have HPP := Lib.hid hpp
  clear hpp
  go_loopg [20,21] (m + 1) (fun k s t wr => ∃ i : Nat, k + i = m + 1 + a ∧ a <= i ∧ i <= m ∧ s = .int .i64 (i : Int) ∧ t = .int .i64 ((m : Nat) : Int) ∧ Keeps [] w wr)
  case atStart => exact ⟨a,by omega,by omega,by omega,(by first | go_num | (congr 1; omega)),by go_num, Keeps.refl _ _⟩
  case round =>
    obtain ⟨i, hk, hai, him,rfl,rfl, kp⟩ := hrel
    have HK := Lib.hid hk
    clear hk
    by_cases hi : i < m
    · have hi3 : (i : Int) < ((m : Nat) : Int) := by omega
      go_upto_region 35 with fail
      obtain ⟨hh, he⟩ : ∃ hh : Nat,((i : Int) + ((m : Nat) : Int)) / 2 = (hh : Int) := ⟨(i + m) / 2,by omega⟩
      simp only [he]
      have hh1 : i <= hh := by omega
      have hh2 : hh < m := by omega
      clear he
      obtain ⟨x, hx⟩ : ∃ x : Nat, x = mid + m - 1 - hh := ⟨_,rfl⟩
      have hpp := HPP.out
      have hxi : (pp : Int) - (hh : Int) = (x : Int) := by omega
      have hxh : hh < x ∧ x < n := by omega
      have hq1 : (hh : Int) < (n : Int) := by omega
      have hq2 : (x : Int) < (n : Int) := by omega
      obtain ⟨hx1, hx2⟩ := hxh
      have hwr : IntKind.i64.wrap ((pp : Int) - (hh : Int)) = (x : Int) := by rw [IntWalk.i64_in _ (by omega)]; exact hxi
      clear hx hxi hpp
      have hpat := H.out.keep kp
      have c0 := hpat.a (x) (by omega)
      have c1 := hpat.b (x) (by omega)
      have c2 := hpat.a (hh) (by omega)
      have c3 := hpat.b (hh) (by omega)
      have hcmp := compare_gt wr.drew (f (x)) (f (hh)) (hpat.lt (x) (by omega)) (hpat.up (hh) (x) (by omega) (by omega))
      have hneg : ¬ ((f (x) - f (hh) : Nat) : Int) < 0 := by omega
      have KP := Lib.hid kp
      clear kp hpat
      go_still_tail 11,(by kernel_rfl)
      change wpList _ _ _ _ _ wr.drew
      have hkd : Keeps [] w wr.drew := KP.out.drew
      generalize wr.drew = wd at *
      have KD := Lib.hid hkd
      clear hkd c0 c1 c2 c3
      go_wp2_with (go_at_call 54; refine hcmp.mono ?_; rintro e w5 ⟨rfl, k5⟩; have K5 := Lib.hid (KD.out.trans k5 (by simp)); clear k5)
      go_roundg (m + a - hh)
      case measure => have := HK.out; omega
      case rel => exact ⟨hh + 1,by omega,by omega,by omega,by go_num,by go_num, K5.out⟩
    · obtain rfl : m = i := by omega
      have KP := Lib.hid kp
      have hpat := H.out.keep kp
      clear kp
      go_upto_region 39 with fail
      try simp only [hE]
      have hcall := ih wr hpat
      clear ih hpat
      go_wp2_with (go_at_call 116; refine hcall.mono ?_; rintro e w7 ⟨rfl, k7⟩; have K7 := Lib.hid (KP.out.trans k7 (by simp)); clear k7)
      go_end0
      exact ⟨rfl, K7.out⟩
theorem symMerge_eq (h : PAt w g n f) (a m b mid : Nat) (ham : a + 1 < m) (hmb : m + 1 < b) (hb : b <= n) (hmid : mid = (a + b) / 2)
    (hgt : mid <= m) (hgt2 : m <= mid) :
    Calls Tryz.prog 116 #[.slice (some ⟨g,0,none⟩) n ca,.int .i64 (a : Int),.int .i64 (m : Int),.int .i64 (b : Int), cmpV'] w fun e w' => e = .returned (.tuple #[]) ∧ Keeps [] w w' := by
  have hsz := h.sz
  have H := Lib.hid h
  clear h
  have hd : ((m : Int) - (a : Int) == 1) = false := by rw [beq_eq_false_iff_ne]; omega
  have hd2 : ((b : Int) - (m : Int) == 1) = false := by rw [beq_eq_false_iff_ne]; omega
  have hmid2 : ((a : Int) + (b : Int)) / 2 = (mid : Int) := by omega
  have hmr : a < mid ∧ mid < b ∧ 2 * mid <= a + b ∧ a + b <= 2 * mid + 1 := by omega
  obtain ⟨hma, hmb1, hm2, hm3⟩ := hmr
  have hE : (mid : Int) + (m : Int) - ((m : Nat) : Int) = ((mid + m - m : Nat) : Int) := by omega
  clear hmid
  have hdec : decide (mid < m) = false := by rw [decide_eq_false_iff_not]; omega
  go_enter Tryz.func116, Tryz.ntmps116
  go_wp2_with fail
  obtain ⟨pp, hpp⟩ : ∃ pp : Nat,(mid : Int) + (m : Int) - 1 = (pp : Int) := ⟨mid + m - 1,by omega⟩
  simp only [hpp]
  have HPP := Lib.hid hpp
  clear hpp
  go_loopg [20,21] (m + 1) (fun k s t wr => ∃ i : Nat, k + i = m + 1 + a ∧ a <= i ∧ i <= m ∧ s = .int .i64 (i : Int) ∧ t = .int .i64 ((m : Nat) : Int) ∧ Keeps [] w wr)
  case atStart => exact ⟨a,by omega,by omega,by omega,(by first | go_num | (congr 1; omega)),by go_num, Keeps.refl _ _⟩
  case round =>
    obtain ⟨i, hk, hai, him,rfl,rfl, kp⟩ := hrel
    have HK := Lib.hid hk
    clear hk
    by_cases hi : i < m
    · have hi3 : (i : Int) < ((m : Nat) : Int) := by omega
      go_upto_region 35 with fail
      obtain ⟨hh, he⟩ : ∃ hh : Nat,((i : Int) + ((m : Nat) : Int)) / 2 = (hh : Int) := ⟨(i + m) / 2,by omega⟩
      simp only [he]
      have hh1 : i <= hh := by omega
      have hh2 : hh < m := by omega
      clear he
      obtain ⟨x, hx⟩ : ∃ x : Nat, x = mid + m - 1 - hh := ⟨_,rfl⟩
      have hpp := HPP.out
      have hxi : (pp : Int) - (hh : Int) = (x : Int) := by omega
      have hxh : hh < x ∧ x < n := by omega
      have hq1 : (hh : Int) < (n : Int) := by omega
      have hq2 : (x : Int) < (n : Int) := by omega
      obtain ⟨hx1, hx2⟩ := hxh
      have hwr : IntKind.i64.wrap ((pp : Int) - (hh : Int)) = (x : Int) := by rw [IntWalk.i64_in _ (by omega)]; exact hxi
      clear hx hxi hpp
      have hpat := H.out.keep kp
      have c0 := hpat.a (x) (by omega)
      have c1 := hpat.b (x) (by omega)
      have c2 := hpat.a (hh) (by omega)
      have c3 := hpat.b (hh) (by omega)
      have hcmp := compare_gt wr.drew (f (x)) (f (hh)) (hpat.lt (x) (by omega)) (hpat.up (hh) (x) (by omega) (by omega))
      have hneg : ¬ ((f (x) - f (hh) : Nat) : Int) < 0 := by omega
      have KP := Lib.hid kp
      clear kp hpat
      go_still_tail 11,(by kernel_rfl)
      change wpList _ _ _ _ _ wr.drew
      have hkd : Keeps [] w wr.drew := KP.out.drew
      generalize wr.drew = wd at *
      have KD := Lib.hid hkd
      clear hkd c0 c1 c2 c3
      go_wp2_with (go_at_call 54; refine hcmp.mono ?_; rintro e w5 ⟨rfl, k5⟩; have K5 := Lib.hid (KD.out.trans k5 (by simp)); clear k5)
      go_roundg (m + a - hh)
      case measure => have := HK.out; omega
      case rel => exact ⟨hh + 1,by omega,by omega,by omega,by go_num,by go_num, K5.out⟩
    · obtain rfl : m = i := by omega
      have KP := Lib.hid kp
      have hpat := H.out.keep kp
      clear kp
      go_upto_region 39 with fail
      try simp only [hE]
      go_wp2_with fail
      go_end0
      exact ⟨rfl, KP.out⟩
end
section
variable (g n ca : Nat) (f : Nat -> Nat)
theorem symMerge_all : ∀ (d : Nat) (w : World) (a m b : Nat), b - a <= d -> PAt w g n f -> a < m -> m < b -> b <= n ->
    Calls Tryz.prog 116 #[.slice (some ⟨g,0,none⟩) n ca,.int .i64 (a : Int),.int .i64 (m : Int),.int .i64 (b : Int), cmpV'] w fun e w' => e = .returned (.tuple #[]) ∧ Keeps [] w w' := by
  intro d
  induction d with
  | zero => intro w a m b hd _ h1 h2 _; omega
  | succ d ih =>
    intro w a m b hd h h1 h2 h3
    by_cases c1 : m = a + 1
    · exact symMerge_one w g n ca f h a m b c1 h2 h3
    by_cases c2 : b = m + 1
    · exact symMerge_last w g n ca f h a m b (by omega) c2 h3
    obtain ⟨mid, hmid⟩ : ∃ mid, mid = (a + b) / 2 := ⟨_,rfl⟩
    by_cases c3 : mid < m
    · exact symMerge_hi w g n ca f h a m b mid (by omega) (by omega) h3 hmid (mid + m - b) (by omega) c3 fun u hu => ih u mid m b (by omega) hu c3 h2 h3
    by_cases c4 : m < mid
    · exact symMerge_lo w g n ca f h a m b mid (by omega) (by omega) h3 hmid c4 fun u hu => ih u a m mid (by omega) hu h1 c4 (by omega)
    · exact symMerge_eq w g n ca f h a m b mid (by omega) (by omega) h3 hmid (by omega) (by omega)
variable (w : World)
theorem stable_calls (h : PAt w g n f) : Calls Tryz.prog 85 #[.slice (some ⟨g,0,none⟩) n ca,.int .i64 (n : Int), cmpV'] w fun e w' => e = .returned (.tuple #[]) ∧ Keeps [] w w' := by
  have hsz := h.sz
  have H := Lib.hid h
  clear h
  go_enter Tryz.func85, Tryz.ntmps85
  go_wp2_with fail
  go_loopg [7,8] (n + 1) (fun k s t wr => ∃ a : Nat, k + a = n + 1 ∧ a <= n ∧ s = .int .i64 (a : Int) ∧ t = .int .i64 ((a : Int) + 20) ∧ Keeps [] w wr)
  case atStart => exact ⟨0,by omega,by omega,by go_num,by go_num, Keeps.refl _ _⟩
  case round =>
    obtain ⟨a, hk, han,rfl,rfl, kp⟩ := hrel
    have HK := Lib.hid hk
    clear hk
    by_cases hi : a + 20 <= n
    · have hi3 : (a : Int) + 20 <= (n : Int) := by omega
      have hins := insertion_calls wr g n ca f (H.out.keep kp) a (a + 20) (by omega) hi
      rw [show ((a + 20 : Nat) : Int) = (a : Int) + 20 by omega] at hins
      have KP := Lib.hid kp
      clear kp
      go_wp2_with (go_at_call 115; refine hins.mono ?_; rintro e w5 ⟨rfl, k5⟩; have K5 := Lib.hid (KP.out.trans k5 (by simp)); clear k5)
      go_roundg (gk - 20)
      case measure => have := HK.out; omega
      case rel => exact ⟨a + 20,by have := HK.out; omega, hi,by go_num,by go_num, K5.out⟩
    · have hi3 : ¬ (a : Int) + 20 <= (n : Int) := by omega
      have hins := insertion_calls wr g n ca f (H.out.keep kp) a n han (Nat.le_refl _)
      have KP := Lib.hid kp
      clear kp
      go_wp2_with (go_at_call 115; refine hins.mono ?_; rintro e w5 ⟨rfl, k5⟩; have K5 := Lib.hid (KP.out.trans k5 (by simp)); clear k5)
      clear hins
      go_loopg [6] (n + 131092) (fun k s wq => ∃ bs : Nat, k + bs = n + 131092 + 20 ∧ 20 <= bs ∧ bs <= 131092 ∧ s = .int .i64 (bs : Int) ∧ Keeps [] w wq)
      case atStart => exact ⟨20,by omega,by omega,by omega,by go_num, K5.out⟩
      case round =>
        clear K5 KP
        obtain ⟨bs, hk, hb1, hb2,rfl, kq⟩ := hrel
        obtain ⟨gk0, hgk0⟩ : ∃ gk0, gk0 + bs = n + 131092 + 20 := ⟨_, hk⟩
        have HK2 := Lib.hid hk
        clear hk
        by_cases hbn : bs < n
        · have hbn3 : (bs : Int) < (n : Int) := by omega
          have KQ := Lib.hid kq
          clear kq
          go_wp2_with fail
          go_loopg [7,8] (n + 1) (fun k s t wz => ∃ c : Nat, k + c = n + 1 ∧ c <= n ∧ s = .int .i64 (c : Int) ∧ t = .int .i64 ((c : Int) + 2 * (bs : Int)) ∧ Keeps [] w wz)
          case atStart => exact ⟨0,by omega,by omega,by go_num,by go_num, KQ.out⟩
          case round =>
            obtain ⟨c, hk, hcn,rfl,rfl, kz⟩ := hrel
            have HK3 := Lib.hid hk
            clear hk
            by_cases hc : c + 2 * bs <= n
            · have hc3 : (c : Int) + 2 * (bs : Int) <= (n : Int) := by omega
              have hsm := symMerge_all g n ca f n wr c (c + bs) (c + 2 * bs) (by omega) (H.out.keep kz) (by omega) (by omega) hc
              rw [show ((c + bs : Nat) : Int) = (c : Int) + (bs : Int) by omega, show ((c + 2 * bs : Nat) : Int) = (c : Int) + 2 * (bs : Int) by omega] at hsm
              have KZ := Lib.hid kz
              clear kz
              go_wp2_with (go_at_call 116; refine hsm.mono ?_; rintro e w6 ⟨rfl, k6⟩; have K6 := Lib.hid (KZ.out.trans k6 (by simp)); clear k6)
              go_roundg (n + 1 - (c + 2 * bs))
              case measure => have := HK3.out; omega
              case rel => exact ⟨c + 2 * bs,by omega, hc,by go_num,by go_num, K6.out⟩
            · have hc3 : ¬ (c : Int) + 2 * (bs : Int) <= (n : Int) := by omega
              by_cases hm : c + bs < n
              · have hm3 : (c : Int) + (bs : Int) < (n : Int) := by omega
                have hsm := symMerge_all g n ca f n wr c (c + bs) n (by omega) (H.out.keep kz) (by omega) hm (Nat.le_refl _)
                rw [show ((c + bs : Nat) : Int) = (c : Int) + (bs : Int) by omega] at hsm
                have KZ := Lib.hid kz
                clear kz
                go_wp2_with (go_at_call 116; refine hsm.mono ?_; rintro e w6 ⟨rfl, k6⟩; have K6 := Lib.hid (KZ.out.trans k6 (by simp)); clear k6)
                go_roundg (gk0 - bs)
                case measure => have := HK2.out; omega
                case rel => exact ⟨bs * 2,by omega,by omega,by omega,by go_num, K6.out⟩
              · have hm3 : ¬ (c : Int) + (bs : Int) < (n : Int) := by omega
                have KZ := Lib.hid kz
                clear kz
                go_wp2_with fail
                go_roundg (gk0 - bs)
                case measure => have := HK2.out; omega
                case rel => exact ⟨bs * 2,by omega,by omega,by omega,by go_num, KZ.out⟩
        · have hbn3 : ¬ (bs : Int) < (n : Int) := by omega
          have KQ := Lib.hid kq
          clear kq
          go_wp2_with fail
          go_end0
          exact ⟨rfl, KQ.out⟩
theorem sortStable_calls (h : PAt w g n f) : Calls Tryz.prog 53 #[.slice (some ⟨g,0,none⟩) n ca, cmpV'] w fun e w' => e = .returned (.tuple #[]) ∧ Keeps [] w w' := by
  have hst := stable_calls g n ca f w h
  clear h
  go_enter Tryz.func53, Tryz.ntmps53
  go_wp2_with (go_at_call 85; refine hst.mono ?_; rintro e w5 ⟨rfl, k5⟩; have K5 := Lib.hid k5; clear k5)
  go_end0
  exact ⟨rfl, K5.out⟩
end
theorem Tryz.infoRPlace : (Tryz.prog.info? 51).map (fun i => (i.zero, i.size, i.bytes)) = some (some (.agg #[.int .i64 0,.int .i64 0]), 2,16) := by kernel_rfl
def rplV (l : List Nat) : List Value := l.flatMap fun (n : Nat) => [.int .i64 (n : Int),.int .i64 0]
theorem rplV_append (l m : List Nat) : rplV (l ++ m) = rplV l ++ rplV m := by simp [rplV]
theorem rplV_len (l : List Nat) : (rplV l).length = l.length * 2 := by
  induction l with
  | nil => rfl
  | cons a l ih => simp only [rplV, List.flatMap_cons, List.length_append, List.length_cons, List.length_nil] at ih ⊢; omega
theorem rplV_one (l : List Nat) : ∀ u ∈ rplV l, u.oneCell' = true := by
  intro u hu
  simp only [rplV, List.mem_flatMap] at hu
  obtain ⟨n, _, h⟩ := hu
  simp only [List.mem_cons, List.not_mem_nil, or_false] at h
  rcases h with rfl | rfl <;> rfl
theorem rplV_at (l : List Nat) (i x : Nat) (h : l[i]? = some x) : (rplV l)[i * 2]? = some (.int .i64 (x : Int)) ∧ (rplV l)[i * 2 + 1]? = some (.int .i64 0) := by
  induction l generalizing i with
  | nil => cases h
  | cons a l ih =>
    cases i with
    | zero => cases h; exact ⟨rfl,rfl⟩
    | succ i =>
      have := ih i h
      rw [show (i + 1) * 2 = i * 2 + 1 + 1 by omega]
      exact this
def PRow (B : Nat) (w : World) (v : Value) (l : List Nat) : Prop := w.ownsRow B 51 2 v l.length (rplV l)
theorem PRow.nil (B : Nat) (w : World) : PRow B w (.slice none 0 0) [] := ⟨by simp [rplV],.inl ⟨rfl,rfl⟩⟩
section
variable {w w' : World} {B : Nat} {v : Value} {l : List Nat} {S : List Nat}
theorem PRow.keep (h : PRow B w v l) (k : Keeps S w w') (hS : ∀ b, v.ownBlock = some b -> b ∉ S) : PRow B w' v l := by
  refine ⟨h.1,?_⟩
  rcases h.2 with h0 | ⟨g, cap', cur, e, hb, hg, r⟩
  · exact .inl h0
  · exact .inr ⟨g, cap', cur, e, hb, k.blk hg (hS g (by rw [e]; simp [Value.ownBlock])), r⟩
theorem PRow.own (h : PRow B w v l) : ∀ b, v.ownBlock = some b -> B <= b ∧ b < w.heap.size := by
  intro b e
  rcases h.2 with ⟨h0, _⟩ | ⟨g, cap', cur, e', hb, hg, r⟩
  · rw [h0] at e; cases e
  · rw [e'] at e; simp [Value.ownBlock] at e; subst e; exact ⟨hb, lt_of_block hg⟩
theorem PRow.form (h : PRow B w v l) : ∃ ao cap, v = .slice ao l.length cap := by
  rcases h.2 with ⟨rfl, h0⟩ | ⟨g, cap', cur,rfl, _⟩
  · exact ⟨none, 0,by rw [h0]⟩
  · exact ⟨_, _,rfl⟩
theorem PRow.form1 (h : PRow B w v l) (hl : 0 < l.length) : ∃ g cap, v = .slice (some ⟨g,0,none⟩) l.length cap := by
  rcases h.2 with ⟨rfl, h0⟩ | ⟨g, cap', cur,rfl, _⟩
  · omega
  · exact ⟨_, _,rfl⟩
theorem PRow.at {g n ca i : Nat} {x : Nat} (h : PRow B w (.slice (some ⟨g,0,none⟩) n ca) l) (hi : l[i]? = some x) : w.cell? ⟨g, i * 2, none⟩ = some (.int .i64 (x : Int)) ∧ w.cell? ⟨g, i * 2 + 1, none⟩ = some (.int .i64 0) := by
  have hl := (List.getElem?_eq_some_iff.1 hi).1
  have h' := h
  have hn : n = l.length := by
    rcases h.2 with ⟨h0, _⟩ | ⟨g', cap', cur, e, _⟩
    · cases h0
    · cases e; rfl
  subst hn
  obtain ⟨a, b⟩ := rplV_at l i x hi
  unfold PRow at h'
  exact ⟨by rw [World.ownsRow.cellAt h' _ (by omega)]; exact a,by rw [World.ownsRow.cellAt h' _ (by omega)]; exact b⟩
theorem PRow.lo {C : Nat} (h : PRow B w v l) (hc : C <= B) : PRow C w v l := by
  refine ⟨h.1,?_⟩
  rcases h.2 with h0 | ⟨g, cap', cur, e, hb, r⟩
  · exact .inl h0
  · exact .inr ⟨g, cap', cur, e, Nat.le_trans hc hb, r⟩
theorem PRow.pushed {g ca : Nat} {m : List Nat} (h : w.ownsRow 0 51 2 (.slice (some ⟨g,0,none⟩) (l.length + m.length) ca) (l.length + m.length) (rplV l ++ rplV m)) (hg : B <= g) : PRow B w (.slice (some ⟨g,0,none⟩) (l.length + m.length) ca) (l ++ m) := by
  unfold PRow
  rw [rplV_append, List.length_append]
  refine ⟨h.1,?_⟩
  rcases h.2 with ⟨h0, _⟩ | ⟨g', cap, cur, e, hb, r⟩
  · cases h0
  · cases e; exact .inr ⟨g, ca, cur,rfl, hg, r⟩
theorem PRow.pat {g ca : Nat} (h : PRow B w (.slice (some ⟨g,0,none⟩) l.length ca) l) (hl : l.Pairwise (· < ·)) (hb : ∀ x ∈ l, x <= 65536) (hn : l.length <= 65536) : PAt w g l.length (fun i => l.getD i 0) := by
  have hx : ∀ i, i < l.length -> l[i]? = some (l.getD i 0) := fun i hi => by rw [List.getD, List.getElem?_eq_getElem hi]; rfl
  refine ⟨fun i hi => (h.at (hx i hi)).1,fun i hi => (h.at (hx i hi)).2,fun i j hij hj => ?_,fun i hi => hb _ (List.mem_of_getElem? (hx i hi)), hn⟩
  have := List.pairwise_iff_getElem.1 hl i j (by omega) hj hij
  simpa [List.getD, List.getElem?_eq_getElem hj, List.getElem?_eq_getElem (show i < l.length by omega)] using this
end
def LIn (w : World) (v : Value) (keys : List Int) : Prop :=
  (∃ ao ca, v = .slice ao keys.length ca) ∧ ∀ (i : Nat) x, keys[i]? = some x -> (Lit.int .i64 x).wf = true ∧ ∃ g ca gi, v = .slice (some ⟨g,0,none⟩) keys.length ca ∧ w.cell? ⟨g,i,none⟩ = some (.slice (some ⟨gi,0,none⟩) 1 1) ∧ w.cell? ⟨gi,0,none⟩ = some (.int .i64 x)
theorem LIn.keep {w w' : World} {v : Value} {keys : List Int} {S : List Nat} (h : LIn w v keys) (k : Keeps S w w') (hS : ∀ b ∈ S, w.heap.size <= b) : LIn w' v keys := by
  have hc : ∀ (b j : Nat) u, w.cell? ⟨b,j,none⟩ = some u -> w'.cell? ⟨b,j,none⟩ = some u := fun b j u e => by
    have hb := World.block_lt_of_cell? w _ e
    rw [World.cell?_of_block (a := ⟨b,j,none⟩) (k.block b hb (fun e => by have := hS b e; simp at hb; omega))]; exact e
  refine ⟨h.1,fun i x hx => ?_⟩
  obtain ⟨h0, g, ca, gi, h1, h2, h3⟩ := h.2 i x hx
  exact ⟨h0, g, ca, gi, h1, hc _ _ _ h2, hc _ _ _ h3⟩
section
variable (w : World) (keys : List Int) (ao : Option Addr) (ca : Nat)
theorem many_calls (h : LIn w (.slice ao keys.length ca) keys) (hlen : keys.length <= 65536) : Calls Tryz.prog 23 #[.slice ao keys.length ca] w fun e w' => e = .returned (.int .i64 (keys.length : Int)) ∧ w = w' := by
  have H := Lib.hid h
  clear h
  go_enter Tryz.func23, Tryz.ntmps23
  go_wp2_with fail
  go_loopg [3,8] (keys.length + 1) (fun k s t wr => ∃ i : Nat, k + i = keys.length + 1 ∧ i <= keys.length ∧ s = .int .i64 (i : Int) ∧ t = .int .i64 (i : Int) ∧ wr = w)
  case atStart => exact ⟨0,by omega,by omega,rfl,rfl,rfl⟩
  case round =>
    obtain ⟨i, hk, hin,rfl,rfl,rfl⟩ := hrel
    have HK := Lib.hid hk
    clear hk
    by_cases hi : i < keys.length
    · have hi3 : (i : Int) < (keys.length : Int) := by omega
      obtain ⟨x, hx⟩ : ∃ x, keys[i]? = some x := ⟨_, List.getElem?_eq_getElem hi⟩
      obtain ⟨_, g, ca', gi, hv, c1, c2⟩ := H.out.2 i x hx
      cases hv
      have hle : ¬ (65536 : Int) < (i : Int) + 1 := by omega
      go_wp2_with fail
      go_roundg (gk - 1)
      case measure => have := HK.out; omega
      case rel => exact ⟨i + 1,by have := HK.out; omega,by omega,by go_num,by go_num,rfl⟩
    · obtain rfl : keys.length = i := by omega
      have hi3 : ¬ (keys.length : Int) < (keys.length : Int) := by omega
      go_wp2_with fail
      go_ret
      exact ⟨rfl,rfl⟩
theorem isSorted_one (gi : Nat) : Calls Tryz.prog 27 #[.slice (some ⟨gi,0,none⟩) 1 1] w fun e w' => e = .returned (.bool true) ∧ w = w' := by
  go_enter Tryz.func27, Tryz.ntmps27
  go_wp2_with fail
  go_loopg [3] 1 (fun k s wr => k = 1 ∧ s = .int .i64 0 ∧ wr = w)
  case atStart => exact ⟨rfl,by go_num,rfl⟩
  case round =>
    obtain ⟨hk1,rfl,rfl⟩ := hrel
    go_wp2_with fail
    go_ret
    exact ⟨rfl,rfl⟩
theorem unsorted_one (gi : Nat) : Calls Tryz.prog 26 #[.slice (some ⟨gi,0,none⟩) 1 1] w fun e w' => e = .returned (.bool false) ∧ w = w' := by
  have hs := fun u => isSorted_one u gi
  go_enter Tryz.func26, Tryz.ntmps26
  go_wp2_with (go_at_call 27; refine (hs _).mono ?_; rintro e w' ⟨rfl,rfl⟩)
  go_ret
  exact ⟨rfl,rfl⟩
theorem unsorted_index (h : LIn w (.slice ao keys.length ca) keys) (hlen : keys.length <= 65536) : Calls Tryz.prog 51 #[.slice ao keys.length ca,.func (.func 26) #[] #[]] w fun e w' => e = .returned (.int .i64 (-1)) ∧ w = w' := by
  have H := Lib.hid h
  clear h
  have hs := unsorted_one w
  go_enter Tryz.func51, Tryz.ntmps51
  go_wp2_with fail
  go_loopg [8] (keys.length + 1) (fun k t wr => ∃ i : Nat, k + i = keys.length + 1 ∧ i <= keys.length ∧ t = .int .i64 (i : Int) ∧ wr = w)
  case atStart => exact ⟨0,by omega,by omega,rfl,rfl⟩
  case round =>
    obtain ⟨i, hk, hin,rfl,rfl⟩ := hrel
    have HK := Lib.hid hk
    clear hk
    by_cases hi : i < keys.length
    · have hi3 : (i : Int) < (keys.length : Int) := by omega
      obtain ⟨x, hx⟩ : ∃ x, keys[i]? = some x := ⟨_, List.getElem?_eq_getElem hi⟩
      obtain ⟨_, g, ca', gi, hv, c1, c2⟩ := H.out.2 i x hx
      cases hv
      have hsg := hs gi
      go_wp2_with (go_at_call 26; refine hsg.mono ?_; rintro e w' ⟨rfl,rfl⟩)
      go_roundg (gk - 1)
      case measure => have := HK.out; omega
      case rel => exact ⟨i + 1,by have := HK.out; omega,by omega,by go_num,rfl⟩
    · obtain rfl : keys.length = i := by omega
      have hi3 : ¬ (keys.length : Int) < (keys.length : Int) := by omega
      go_wp2_with fail
      go_ret
      exact ⟨rfl,rfl⟩
theorem unsorted_none (h : LIn w (.slice ao keys.length ca) keys) (hlen : keys.length <= 65536) : Calls Tryz.prog 25 #[.slice ao keys.length ca,.func (.func 26) #[] #[]] w fun e w' => e = .returned (.bool false) ∧ w = w' := by
  have hs := unsorted_index w keys ao ca h hlen
  clear h
  go_enter Tryz.func25, Tryz.ntmps25
  go_wp2_with (go_at_call 51; refine hs.mono ?_; rintro e w' ⟨rfl,rfl⟩)
  go_ret
  exact ⟨rfl,rfl⟩
end
end Go.Proofs.YtkdbjelhkfdfjaaGreatDoor


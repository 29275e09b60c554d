/-
  Contracts that the law rests on. Conditions: none.
-/
import Derived.Test.YtkdbjelhkfdfjaaGreatDoorQs14
set_option linter.unusedVariables false
set_option maxRecDepth 100000
set_option maxHeartbeats 16000000
namespace Go.Proofs.YtkdbjelhkfdfjaaGreatDoor
open Go.RowKit
section
variable (w : World) (p g n : Nat) (T : Nat → TwigR) (U : Nat → Option Nat)
def SplitDone (x : Nat) (e : Ending) (w' : World) : Prop :=
  ∃ v, e = .returned v ∧ Rg.IR w.heap.size w' v (T x).kids ∧ ForestAt w' p g n (upd T x ⟨none, 0, []⟩) (updM U (T x).kids none) ∧ Moved (treeF p g n T) w (treeF p g n (upd T x ⟨none, 0, []⟩)) w'
theorem fo_split (h : ForestAt w p g n T U) (x : Nat) (hx : x < n) (hu : U x = none) :
    Calls Tryz.prog 359 #[.pointer (some ⟨p,0,none⟩), .int .i64 x] w (SplitDone w p g n T U x) := by
  have hrt := fo_root w p g n T U h x hx
  rw [hu] at hrt
  have c0 := h.c0
  have c1 := h.k0 hx
  have f1 := h.arr.frozen (x * 2)
  have hlt := h.lt
  have hrow := h.rows x hx
  have hkl := (h.num x hx).1
  have hkm := (h.num x hx).2.1
  have hown := h.own x hx
  have hset := h.setKids hx (t := ⟨none, 0, []⟩) (w5 := w) (Keeps.refl _ _) (Rg.IR.nil _ _) (fun q e => by cases e) (by simp) (by simp)
  simp only [List.length_nil] at hset
  have hrow1 : ∀ w', Keeps [g] w w' → Rg.IR 0 w' (.slice (T x).ao (T x).kids.length (T x).ca) (T x).kids := fun w' k => ir_keep hrow k (fun a e => by simpa using (hown a e).2)
  have k0 : Keeps [g] w (w.setCell ⟨g, x * 2, none⟩ (.slice none 0 0)) := (Keeps.refl _ _).setCell (.inl (by simp)) _
  have hcap := h.cap
  obtain ⟨L, hL⟩ : ∃ L, (T x).kids = L := ⟨_,rfl⟩
  obtain ⟨ao, hao⟩ : ∃ ao, (T x).ao = ao := ⟨_,rfl⟩
  obtain ⟨ca, hca⟩ : ∃ ca, (T x).ca = ca := ⟨_,rfl⟩
  rw [hL, hao, hca] at hrow1
  rw [hL, hao, hca] at c1
  rw [hL] at hkl hkm
  have hx3 : (x : Int) < (n : Int) := by omega
  have HROW := Lib.hid hrow1
  have HKM := Lib.hid hkm
  have HMV := Lib.hid hset.2
  have HL := Lib.hid hL
  have hF0 := hset.1
  clear hrow1 hkm hset hrow hown hlt h hL hao hca hu
  go_enter Tryz.func359, Tryz.ntmps359
  go_upto_region 5 with (go_at_call 363; refine hrt.mono ?_; rintro e w' ⟨rfl,rfl⟩)
  generalize hw1 : w.setCell ⟨g, x * 2, none⟩ (.slice none 0 0) = w1 at *
  clear hw1 c0 c1 f1 hrt
  go_wp2_with fail
  go_loopg [29] (L.length + 1) (fun m s wr => ∃ i : Nat, m + i = L.length + 1 ∧ i ≤ L.length ∧ s = .int .i64 i ∧ ForestAt wr p g n (upd T x ⟨none, 0, []⟩) (updM U (L.take i) none) ∧ Keeps [g] w wr ∧ Keeps [g] w1 wr)
  case atStart => exact ⟨0,by omega,by omega,rfl,by rw [List.take_zero, updM_nil]; exact hF0, k0, Keeps.refl _ _⟩
  case round =>
    clear hF0 k0
    obtain ⟨i, hk, hin,rfl, hF, kp, kp1⟩ := hrel
    have HK := Lib.hid hk
    clear hk
    have hr := HROW.out wr kp
    by_cases hi : i < L.length
    · obtain ⟨gg, hao, _, _, d1⟩ := hr.at i hi
      subst hao
      obtain ⟨y, hy⟩ : ∃ y, Rg.fn L i = y := ⟨_,rfl⟩
      have hyL : L[i]? = some y := by rw [← hy]; simp [Rg.fn, List.getD, hi]
      have hyn : y < n := HKM.out y (List.mem_of_getElem? hyL)
      have hyn3 : (y : Int) < (n : Int) := by omega
      rw [hy] at d1
      have e0 := hF.c0
      have e1 := hF.k1 hyn
      have e2 := hF.arr.frozen (y * 2 + 1)
      have h7 := hF.setUp (x := y) (o := none) hyn (fun z e => by cases e)
      rw [oZ_none] at h7
      have htk : L.take (i + 1) = L.take i ++ [y] := by rw [List.take_add_one, hyL]; rfl
      rw [← updM_snoc, ← htk] at h7
      have k7 : Keeps [g] w (wr.setCell ⟨g, y * 2 + 1, none⟩ (.int .i64 (-1))) := kp.setCell (.inl (by simp)) _
      have k8 : Keeps [g] w1 (wr.setCell ⟨g, y * 2 + 1, none⟩ (.int .i64 (-1))) := kp1.setCell (.inl (by simp)) _
      have hi3 : (i : Int) < (L.length : Int) := by omega
      clear hr hy hyL htk hF kp kp1
      go_wp2_with fail
      go_roundg (gk - 1)
      case measure => have := HK.out; omega
      case rel => exact ⟨i + 1,by have := HK.out; omega,by omega,by go_num, h7, k7, k8⟩
    · obtain rfl : i = L.length := by omega
      rw [List.take_length] at hF
      have hcl := clone_ints wr ao ca L hr hkl
      go_wp2_with (go_at_call 252; refine hcl.mono ?_; rintro e w9 ⟨v,rfl, hv, k9⟩)
      go_ret
      have hF9 := hF.keep k9 (by simp)
      refine ⟨v,rfl,?_,?_,?_⟩
      · rw [HL.out]; exact hv.lo kp.size
      · rw [HL.out]; exact hF9
      · refine ⟨(kp.mono (T := treeF p g n T) fun b hb => .inl (treeF_mem.2 (.inr (.inl (by simpa using hb))))).trans k9 (by simp), HMV.out.from', hF9.lt⟩
end
section
variable (w : World) (p g n : Nat) (T : Nat → TwigR) (U : Nat → Option Nat)
theorem fo_row (h : ForestAt w p g n T U) (ao : Option Addr) (ca : Nat) (l : List Nat) (hr : Rg.IR 0 w (.slice ao l.length ca) l) (hm : ∀ x ∈ l, x < n) (hc : CRow (fun x => (T x).kids) U l) (hl : l.length ≤ 65536) :
    Calls Tryz.prog 364 #[.pointer (some ⟨p,0,none⟩), .slice ao l.length ca] w fun e w' => e = .returned (.bool true) ∧ w = w' := by
  have hrt : ∀ x, x < n → U x = none → Calls Tryz.prog 363 #[.pointer (some ⟨p,0,none⟩), .int .i64 x] w fun e w' => e = .returned (.bool true) ∧ w = w' := fun x hx hu => by
    have := fo_root w p g n T U h x hx
    rw [hu] at this; exact this
  have hdg : ∀ x m, x < n → (T x).kids.length = m → Calls Tryz.prog 367 #[.pointer (some ⟨p,0,none⟩), .int .i64 x] w fun e w' => e = .returned (.int .i64 m) ∧ w = w' := fun x m hx hu => by
    have := fo_degree w p g n T U h x hx
    rw [hu] at this; exact this
  have hat : ∀ i, i < l.length → ∃ gg x, ao = some ⟨gg,0,none⟩ ∧ w.cell? ⟨gg,i,none⟩ = some (.int .i64 (x : Nat)) ∧ l[i]? = some x := fun i hi => by
    obtain ⟨gg, e, _, _, c⟩ := hr.at i hi
    exact ⟨gg, _, e, c,by simp [Rg.fn, List.getD, hi]⟩
  have hx : ∀ i x, l[i]? = some x → x < n ∧ U x = none := fun i x e => ⟨hm x (List.mem_of_getElem? e), hc.1 x (List.mem_of_getElem? e)⟩
  have hlt : ∀ i x y, l[i]? = some x → l[i + 1]? = some y → (T x).kids.length < (T y).kids.length := fun i x y e1 e2 => by
    obtain ⟨h1, e1⟩ := List.getElem?_eq_some_iff.1 e1
    obtain ⟨h2, e2⟩ := List.getElem?_eq_some_iff.1 e2
    have := List.pairwise_iff_getElem.1 hc.2 i (i + 1) h1 h2 (by omega)
    rw [e1, e2] at this; exact this
  have HAT := Lib.hid hat
  have HX := Lib.hid hx
  have HLT := Lib.hid hlt
  clear hat hx hlt h hr hm hc
  go_enter Tryz.func364, Tryz.ntmps364
  go_wp2_with fail
  go_loopg [9] (l.length + 1) (fun m s wr => ∃ i : Nat, m + i = l.length + 1 ∧ i ≤ l.length ∧ s = .int .i64 i ∧ wr = w)
  case atStart => exact ⟨0,by omega,by omega,rfl,rfl⟩
  case round =>
    obtain ⟨i, hk, hin,rfl,rfl⟩ := hrel
    have HK := Lib.hid hk
    clear hk
    by_cases hi : i < l.length
    · obtain ⟨gg, x, hao, d1, hxl⟩ := HAT.out i hi
      subst hao
      obtain ⟨hxn, hxu⟩ := HX.out i x hxl
      have hi3 : (i : Int) < (l.length : Int) := by omega
      by_cases h0 : i = 0
      · subst h0
        have HXL := Lib.hid hxl
        clear hxl
        go_wp2_with (go_at_call 363; refine (hrt _ (by assumption) (by assumption)).mono ?_; rintro e w' ⟨rfl,rfl⟩)
        go_roundg (gk - 1)
        case measure => have := HK.out; omega
        case rel => exact ⟨1,by have := HK.out; omega,by omega,by go_num,rfl⟩
      · obtain ⟨j,rfl⟩ : ∃ j, i = j + 1 := ⟨i - 1,by omega⟩
        obtain ⟨gg', y, e, d2, hyl⟩ := HAT.out j (by omega)
        cases e
        obtain ⟨hyn, hyu⟩ := HX.out j y hyl
        have hd := HLT.out j y x hyl hxl
        obtain ⟨dx, hdx⟩ : ∃ d, (T x).kids.length = d := ⟨_,rfl⟩
        obtain ⟨dy, hdy⟩ : ∃ d, (T y).kids.length = d := ⟨_,rfl⟩
        rw [hdx, hdy] at hd
        have hd3 : ¬ (dx : Int) ≤ (dy : Int) := by omega
        have hd4 : decide (dx ≤ dy) = false := by rw [decide_eq_false_iff_not]; omega
        have h03 : (0 : Int) < ((j + 1 : Nat) : Int) := by omega
        have hj3 : ((j + 1 : Nat) : Int) - 1 = (j : Int) := by omega
        have hj4 : (j : Int) < (l.length : Int) := by omega
        have hdgx := hdg x dx hxn hdx
        have hdgy := hdg y dy hyn hdy
        have hrtx := hrt x hxn hxu
        have HXL := Lib.hid hxl
        have HYL := Lib.hid hyl
        clear hxl hyl hdg hrt hdx hdy hxu hyu
        have hne : x ≠ y := by rintro rfl; have := HLT.out j x x HYL.out HXL.out; omega
        go_wp2_with (first
          | (go_at_call 363; refine hrtx.mono ?_; rintro e w' ⟨rfl,rfl⟩)
          | (go_at_call 367; with_reducible refine Calls.mono hdgy ?_; rintro e w' ⟨rfl,rfl⟩)
          | (go_at_call 367; with_reducible refine Calls.mono hdgx ?_; rintro e w' ⟨rfl,rfl⟩))
        go_roundg (gk - 1)
        case measure => have := HK.out; omega
        case rel => exact ⟨j + 2,by have := HK.out; omega,by omega,by go_num,rfl⟩
    · obtain rfl : i = l.length := by omega
      go_wp2_with fail
      go_ret
      exact ⟨rfl,rfl⟩
end
theorem binom_ahead (fuel p pc : Nat) (w : World) (hc : w.cell? ⟨p,0,none⟩ = some (.pointer (some ⟨pc,0,none⟩))) :
    (method (fuel + 1) 152 (.pointer (some ⟨p,0,none⟩)) "Ahead").run Tryz.prog w = .ok (339, .pointer (some ⟨pc,0,none⟩)) w :=
  run_method_embedded w fuel 152 213 258 200 "Ahead" p _ _ (by kernel_rfl) (by kernel_rfl) Tryz.underlying200 (by kernel_rfl) hc
theorem binom_nil (fuel : Nat) (a : Addr) (w : World) : (nilAhead (fuel + 1) 152 (.pointer (some a)) "Ahead").run Tryz.prog w = .ok (some false) w := by kernel_rfl
section
variable (w : World) (p g n : Nat) (T : Nat → TwigR) (U : Nat → Option Nat) (pn pc : Nat) (Fc : List Nat) (cap hs : Nat) (E : Ent)
def JoinDone (a b : Nat) (e : Ending) (w' : World) : Prop :=
  ∃ (c d : Nat) (t : TwigR), ((c = a ∧ d = b) ∨ (c = b ∧ d = a)) ∧ ahead E c d = true ∧ e = .returned (.int .i64 c) ∧ t.kids = (T c).kids ++ [d] ∧ ForestAt w' p g n (upd T c t) (upd U d (some c)) ∧ OrdAt w' pn pc Fc cap hs E ∧
    Keeps (treeF p g n T ++ Fc) w w' ∧ ∀ b ∈ treeF p g n (upd T c t), b ∈ treeF p g n T ∨ w.heap.size ≤ b
theorem fo_join (h : ForestAt w p g n T U) (ho : OrdAt w pn pc Fc cap hs E) (hap : ∀ b ∈ treeF p g n T, b ∉ pn :: Fc) (a b : Nat) (ha : a < n) (hb : b < n) (hne : a ≠ b) (hua : U a = none) (hub : U b = none) (hd : (T a).kids.length = (T b).kids.length) (hl : (T a).kids.length + 1 ≤ 65536)
    (hEa : (E a).isSome) (hEb : (E b).isSome) :
    Calls Tryz.prog 368 #[.pointer (some ⟨p,0,none⟩), .iface 152 (.pointer (some ⟨pn,0,none⟩)), .int .i64 a, .int .i64 b] w (JoinDone w p g n T U pn pc Fc cap hs E a b) := by
  have c0 := ho.c0
  have hme := binom_ahead 587 pn pc w c0
  have hna := binom_nil 587 ⟨pn,0,none⟩ w
  have hal := cells_ahead w Fc pc cap hs E ho.ce b a hEb hEa
  have hlk : ∀ u c d, Keeps Fc w u → c < n → d < n → c ≠ d → U c = none → U d = none → (T c).kids.length = (T d).kids.length → (T c).kids.length + 1 ≤ 65536 → Calls Tryz.prog 369 #[.pointer (some ⟨p,0,none⟩), .int .i64 c, .int .i64 d] u (LinkDone u p g n T U c d) := fun u c d k => fo_link u p g n T U (h.keep k (fun b hb e => hap b hb (by simp [e]))) c d
  have hfin : ∀ u w' c d, Keeps Fc w u → CellsAt u Fc pc cap hs E → LinkDone u p g n T U c d (.returned (.bool true)) w' → ((c = a ∧ d = b) ∨ (c = b ∧ d = a)) → ahead E c d = true → JoinDone w p g n T U pn pc Fc cap hs E a b (.returned (.int .i64 c)) w' := by
    rintro u w' c d k hc ⟨t, ht, _, hf, hm⟩ hcd had
    have ho2 := (ho.cells hc k).keep hm.keeps (fun b hb e => hap b e hb)
    refine ⟨c, d, t, hcd, had,rfl, ht, hf, ho2, (k.mono (T := treeF p g n T ++ Fc) fun b hb => .inl (by simp [hb])).trans hm.keeps (fun b hb => .inl (by simp [hb])),fun b hb => ?_⟩
    rcases hm.from' b hb with q | q
    · exact .inl q
    · exact .inr (Nat.le_trans k.size q)
  have HF := Lib.hid hfin
  cases hba : ahead E b a with
  | true =>
    rw [hba] at hal
    have HB := Lib.hid hba
    have hl2 : (T b).kids.length + 1 ≤ 65536 := by omega
    have hlk2 := fun u k => hlk u b a k hb ha (fun e => hne e.symm) hub hua hd.symm hl2
    clear hfin hlk hba h hap hd hl hl2 hua hub
    go_enter Tryz.func368, Tryz.ntmps368
    go_wp2_with (first
      | (go_at_call 339; refine hal.mono ?_; rintro e w1 ⟨rfl, hc1, hk1⟩)
      | (go_at_call 369; refine (hlk2 _ hk1).mono ?_; intro e w2 hd2; obtain ⟨_, _,rfl, _⟩ := id hd2; have hz := HF.out _ _ _ _ hk1 hc1 hd2 (.inr ⟨rfl,rfl⟩) HB.out; have HZ := Lib.hid hz; clear hz hd2))
    go_ret
    exact HZ.out
  | false =>
    rw [hba] at hal
    have hab : ahead E a b = true := by
      have hord : Ord (ahead E) (fun k => if k = 0 then a else b) 2 := ordOf (fun i j hi hj e => by
        rcases Nat.eq_zero_or_pos i with rfl | h1 <;> rcases Nat.eq_zero_or_pos j with rfl | h2
        · rfl
        · simp [show j ≠ 0 by omega] at e; exact absurd e hne
        · simp [show i ≠ 0 by omega] at e; exact absurd e.symm hne
        · omega) (fun j hj => by by_cases c : j = 0 <;> simp [c, hEa, hEb])
      have := hord.tot 0 1 (by omega) (by omega) (by omega)
      simp [hba] at this
      exact this
    have HB := Lib.hid hab
    have hlk2 := fun u k => hlk u a b k ha hb hne hua hub hd hl
    clear hfin hlk hba h hap hd hl hua hub hab
    go_enter Tryz.func368, Tryz.ntmps368
    go_wp2_with (first
      | (go_at_call 339; refine hal.mono ?_; rintro e w1 ⟨rfl, hc1, hk1⟩)
      | (go_at_call 369; refine (hlk2 _ hk1).mono ?_; intro e w2 hd2; obtain ⟨_, _,rfl, _⟩ := id hd2; have hz := HF.out _ _ _ _ hk1 hc1 hd2 (.inl ⟨rfl,rfl⟩) HB.out; have HZ := Lib.hid hz; clear hz hd2))
    go_ret
    exact HZ.out
end
section
variable (w : World) (B : Nat) (ao bo : Option Addr) (ca cb : Nat) (l m : List Nat)
theorem common_no (hB : w.cell? ⟨B,0,none⟩ = some (.slice bo m.length cb)) (hm : Rg.IR 0 w (.slice bo m.length cb) m) (hml : m.length ≤ 65536) (x : Nat) (hx : x ∉ m) :
    Calls Tryz.prog 365 #[.int .i64 x, .pointer (some ⟨B,0,none⟩)] w fun e w' => e = .returned (.bool false) ∧ w = w' := by
  have hc := Rg.contains_calls w 0 _ m hm (by omega) (x : Int)
  have hn : m.any (Rg.isI (x : Int)) = false := by
    rw [List.any_eq_false]
    intro y hy e
    simp only [Rg.isI, beq_iff_eq] at e
    have : x = y := by omega
    exact hx (this ▸ hy)
  rw [hn] at hc
  clear hn hm hx
  go_enter Tryz.func365, Tryz.ntmps365
  go_wp2_with (go_at_call 366; refine hc.mono ?_; rintro e w' ⟨rfl,rfl⟩)
  go_ret
  exact ⟨rfl,rfl⟩
theorem index_no (hB : w.cell? ⟨B,0,none⟩ = some (.slice bo m.length cb)) (hm : Rg.IR 0 w (.slice bo m.length cb) m) (hml : m.length ≤ 65536) (hl : Rg.IR 0 w (.slice ao l.length ca) l) (hll : l.length ≤ 65536) (hd : ∀ x ∈ l, x ∉ m) :
    Calls Tryz.prog 251 #[.slice ao l.length ca, .func (.func 365) #[] #[.pointer (some ⟨B,0,none⟩)]] w fun e w' => e = .returned (.int .i64 (-1)) ∧ w = w' := by
  have hno := fun x hx => common_no w B bo cb m hB hm hml x hx
  have hat : ∀ i, i < l.length → ∃ gg x, ao = some ⟨gg,0,none⟩ ∧ w.cell? ⟨gg,i,none⟩ = some (.int .i64 (x : Nat)) ∧ x ∉ m := fun i hi => by
    obtain ⟨gg, e, _, _, c⟩ := hl.at i hi
    have : l[i]? = some (Rg.fn l i) := by simp [Rg.fn, List.getD, hi]
    exact ⟨gg, _, e, c, hd _ (List.mem_of_getElem? this)⟩
  have HAT := Lib.hid hat
  clear hat hl hm hd
  go_enter Tryz.func251, Tryz.ntmps251
  go_wp2_with fail
  go_loopg [8] (l.length + 1) (fun k s wr => ∃ i : Nat, k + i = l.length + 1 ∧ i ≤ l.length ∧ s = .int .i64 i ∧ wr = w)
  case atStart => exact ⟨0,by omega,by omega,rfl,rfl⟩
  case round =>
    obtain ⟨i, hk, hin,rfl,rfl⟩ := hrel
    have HK := Lib.hid hk
    clear hk
    by_cases hi : i < l.length
    · obtain ⟨gg, x, hao, d1, hx⟩ := HAT.out i hi
      subst hao
      have hc := hno x hx
      have hi3 : (i : Int) < (l.length : Int) := by omega
      clear hno
      go_wp2_with (go_at_call 365; refine hc.mono ?_; rintro e w' ⟨rfl,rfl⟩)
      go_roundg (gk - 1)
      case measure => have := HK.out; omega
      case rel => exact ⟨i + 1,by have := HK.out; omega,by omega,by go_num,rfl⟩
    · obtain rfl : i = l.length := by omega
      go_wp2_with fail
      go_ret
      exact ⟨rfl,rfl⟩
theorem none_common (hB : w.cell? ⟨B,0,none⟩ = some (.slice bo m.length cb)) (hm : Rg.IR 0 w (.slice bo m.length cb) m) (hml : m.length ≤ 65536) (hl : Rg.IR 0 w (.slice ao l.length ca) l) (hll : l.length ≤ 65536) (hd : ∀ x ∈ l, x ∉ m) :
    Calls Tryz.prog 229 #[.slice ao l.length ca, .func (.func 365) #[] #[.pointer (some ⟨B,0,none⟩)]] w fun e w' => e = .returned (.bool false) ∧ w = w' := by
  have hi := index_no w B ao bo ca cb l m hB hm hml hl hll hd
  clear hB hm hl hd
  go_enter Tryz.func229, Tryz.ntmps229
  go_wp2_with (go_at_call 251; refine hi.mono ?_; rintro e w' ⟨rfl,rfl⟩)
  go_ret
  exact ⟨rfl,rfl⟩
end
def Win (B : Nat) (w : World) (v : Value) (L : List Nat) : Prop :=
  (v = .slice none 0 0 ∧ L = []) ∨ ∃ (g off cap : Nat) (cur : Array Value), v = .slice (some ⟨g,off,none⟩) L.length cap ∧ B ≤ g ∧ w.heap[g]? = some (.cells cur 3 (0,0)) ∧ L.length ≤ cap ∧ off + cap ≤ cur.size ∧ ∀ j x, L[j]? = some x → cur[off + j]? = some (.int .i64 (x : Nat))
section
variable {w w' : World} {B : Nat} {v : Value} {L S : List Nat} {x : Nat}
theorem Win.form (h : Win B w v L) : ∃ ao cap, v = .slice ao L.length cap ∧ L.length ≤ cap := by
  rcases h with ⟨rfl,rfl⟩ | ⟨g, off, cap, cur,rfl, _, _, c, _⟩
  · exact ⟨none, 0,rfl,by simp⟩
  · exact ⟨_, _,rfl, c⟩
theorem Win.block (h : Win B w v L) : ∀ b, v.ownBlock = some b → B ≤ b ∧ b < w.heap.size := by
  intro b e
  rcases h with ⟨rfl,rfl⟩ | ⟨g, off, cap, cur,rfl, hb, hg, _⟩
  · simp [Value.ownBlock] at e
  · simp only [Value.ownBlock] at e
    first
      | (cases e; exact ⟨hb, lt_of_block hg⟩)
      | (split at e <;> cases e <;> exact ⟨hb, lt_of_block hg⟩)
theorem Win.keep (h : Win B w v L) (k : Keeps S w w') (hS : ∀ g off cap, v = .slice (some ⟨g,off,none⟩) L.length cap → g ∉ S) : Win B w' v L := by
  rcases h with h | ⟨g, off, cap, cur, e, hb, hg, r⟩
  · exact .inl h
  · exact .inr ⟨g, off, cap, cur, e, hb, k.blk hg (hS g off cap e), r⟩
theorem Win.of (h : Rg.IR B w v L) : Win B w v L := by
  obtain ⟨ao, ca,rfl⟩ := h.form
  rcases h.2 with ⟨h0, h1⟩ | ⟨g, cap', cur, e, hb, hg, r1, r2, r3, r4⟩
  · have : L = [] := List.length_eq_zero_iff.1 h1
    exact .inl ⟨h0, this⟩
  · refine .inr ⟨g, 0, cap', cur, e, hb, hg, r1,by omega,fun j x hx => ?_⟩
    have hj : j < L.length := (List.getElem?_eq_some_iff.1 hx).1
    have h1 : (cur.toList.take (L.length * 1))[j]? = some (.int .i64 (x : Nat)) := by rw [r4]; simp [Rg.nCells, hx]
    rw [List.getElem?_take_of_lt (by omega)] at h1
    simpa using h1
theorem Win.head (h : Win B w v (x :: L)) : ∃ g off cap, v = .slice (some ⟨g,off,none⟩) (L.length + 1) cap ∧ B ≤ g ∧ L.length + 1 ≤ cap ∧ w.cell? ⟨g,off,none⟩ = some (.int .i64 (x : Nat)) ∧ Win B w (.slice (some ⟨g, off + 1, none⟩) L.length (cap - 1)) L := by
  rcases h with ⟨_, h⟩ | ⟨g, off, cap, cur,rfl, hb, hg, h1, h2, h3⟩
  · cases h
  · simp only [List.length_cons] at h1
    refine ⟨g, off, cap,rfl, hb, h1,?_, .inr ⟨g, off + 1, cap - 1, cur,rfl, hb, hg,by omega,by omega,fun j y e => ?_⟩⟩
    · have := h3 0 x rfl
      rw [cell_of_blk hg]
      simpa using this
    · have := h3 (j + 1) y (by simpa using e)
      rw [show off + 1 + j = off + (j + 1) by omega]; exact this
end
section
variable {P : Program}
theorem run_win (w W : World) (B y : Nat) (t ty : TypeId) (ht : P.underlying t = some (.slice 3)) (hi : (P.info? 3).map (fun i => (i.zero, i.size, i.bytes)) = some (some (.int .i64 0), 1,8)) (hB : B ≤ w.heap.size)
    (hW : W.heap = (w.alloc (.cells #[.int .i64 (y : Int)] 3 (0,0))).heap) (hW1 : W.os = w.os) (hW2 : W.tape = w.tape) (hW3 : W.output = w.output) (v : Value) (L : List Nat) (h : Win B w v L) (hl : L.length + 1 ≤ 65536) :
    ∃ v' w', (Builtin.append_ #[t, t] ty #[v, .slice (some ⟨w.heap.size,0,none⟩) 1 1]).run P W = .ok v' w' ∧ Win B w' v' (L ++ [y]) ∧ Keeps v.ownBlock.toList w w' ∧ (v'.ownBlock = v.ownBlock ∨ ∃ b, v'.ownBlock = some b ∧ w.heap.size ≤ b) := by
  obtain ⟨i, hi, hz, hsize, hby⟩ := info_parts hi
  have k1 : Keeps [] w W := by
    have k : Keeps [] w (w.alloc (.cells #[.int .i64 (y : Int)] 3 (0,0))) := (Keeps.refl _ _).alloc _
    exact ⟨hW1.trans k.os, hW2.trans k.tape, hW3.trans k.output,by rw [hW]; exact k.size,by rw [hW]; exact k.block⟩
  have hcell : ∀ j u, ([.int .i64 (y : Int)] : List Value)[j]? = some u → W.cell? ((⟨w.heap.size,0,none⟩ : Addr).add j) = some u := by
    intro j u hj
    match j, hj with
    | 0, hj =>
      simp at hj; subst hj
      have : W.heap[w.heap.size]? = some (.cells #[.int .i64 (y : Int)] 3 (0,0)) := by rw [hW]; exact blk_alloc_new _
      show W.cell? ⟨w.heap.size,0,none⟩ = _
      rw [cell_of_blk this]; rfl
  have hone : ∀ u ∈ ([.int .i64 (y : Int)] : List Value), u.oneCell' = true := by intro u hu; simp at hu; subst hu; rfl
  have hws : w.heap.size ≤ W.heap.size := k1.size
  rcases h with ⟨rfl,rfl⟩ | ⟨g, off, cap, cur,rfl, hb, hg, h1, h2, h3⟩
  · obtain ⟨v', w', hr, r1, r2, _, r4⟩ := run_append_own_at (P := P) W B t ty 3 i (.int .i64 0) 1 8 ht hi hz hsize hby rfl (by decide) (.slice none 0 0) 0 [] (World.ownsRow_nil W _ _ _) ⟨w.heap.size,0,none⟩ 1 1 [.int .i64 (y : Int)] rfl hcell hone (by unfold maxLen; omega) (by omega) (Nat.le_trans hB hws)
    refine ⟨v', w', hr, Win.of (by unfold Rg.IR; simpa [Rg.nCells] using r1), k1.trans ((Keeps.refl [] W).grown r2 (fun k e => by simp [Value.ownBlock] at e)) (by simp) |>.mono (by simp),?_⟩
    rcases r4 with q | q
    · exact .inl q
    · exact .inr ⟨_, q, hws⟩
  · have hgl := lt_of_block hg
    have hgW := k1.blk hg (by simp)
    by_cases hroom : L.length + 1 ≤ cap
    · have hc : ∃ u, cur[off + L.length]? = some u := ⟨_, Array.getElem?_eq_getElem (show off + L.length < cur.size by omega)⟩
      obtain ⟨u0, hc⟩ := hc
      have hr := run_append_room_cells (P := P) (w := W) t ty 3 i ht hi g off L.length cap ⟨w.heap.size,0,none⟩ 1 1 [.int .i64 (y : Int)] (by rw [hsize]; rfl) hcell hone hroom (by
        intro j hj
        obtain rfl : j = 0 := by simpa using hj
        rw [hsize, cell_of_blk hgW]; simp [hc]) (by
        intro j hj
        exact frozen_of_blk hgW)
      rw [hsize] at hr
      refine ⟨_, _, hr, .inr ⟨g, off, cap, cur.setIfInBounds (off + L.length * 1) (.int .i64 (y : Int)),by simp, hb, blk_setCell _ hgW,by simpa using hroom,by simpa using h2,fun j x e => ?_⟩,?_, .inl rfl⟩
      rotate_left
      · have k2 : Keeps [g] W (W.setCell ⟨g, off + L.length * 1, none⟩ (.int .i64 (y : Int))) := (Keeps.refl _ _).setCell (.inl (by simp)) _
        exact (k1.mono (T := [g]) (by simp)).trans k2 (fun b hb => .inl hb)
      rw [Nat.mul_one]
      by_cases c : j < L.length
      · rw [List.getElem?_append_left c] at e
        rw [Array.getElem?_setIfInBounds_ne (by omega)]
        exact h3 j x e
      · rw [List.getElem?_append_right (by omega)] at e
        obtain rfl : j = L.length := by
          have := (List.getElem?_eq_some_iff.1 e).1
          simp at this; omega
        simp at e
        subst e
        rw [Array.getElem?_setIfInBounds_self_of_lt (by omega)]
    · obtain ⟨v', w', hr, r1, r2⟩ := run_append_arg_grows (P := P) (w := W) t ty 3 i (.int .i64 0) 1 8 ht hi hz hsize hby rfl (by decide) ⟨g,off,none⟩ L.length cap (Rg.nCells L) (by simp [Rg.nCells]) (by
        intro j u e
        obtain ⟨x, hx,rfl⟩ : ∃ x : Nat, L[j]? = some x ∧ u = .int .i64 (x : Int) := by
          simp only [Rg.nCells, List.getElem?_map, Option.map_eq_some_iff] at e
          obtain ⟨x, a, b⟩ := e
          exact ⟨x, a, b.symm⟩
        have := h3 j x hx
        rw [Addr.add_lit, cell_of_blk hgW]; exact this) ⟨w.heap.size,0,none⟩ 1 1 [.int .i64 (y : Int)] rfl hcell (by omega) (by unfold maxLen; omega) (by omega)
      have hir : Rg.IR W.heap.size w' v' (L ++ [y]) := by
        unfold Rg.IR
        rw [List.length_append]
        simpa [Rg.nCells] using r1
      refine ⟨v', w', hr, Win.of (hir.lo (Nat.le_trans hB hws)), (k1.trans ((Keeps.refl [] W).grown r2 (fun k e => by simp at e)) (by simp)).mono (by simp),?_⟩
      obtain ⟨a5, c5,rfl⟩ := hir.form
      have := hir.own
      cases a5 with
      | none =>
        rcases hir.2 with ⟨_, h0⟩ | ⟨_, _, _, e, _⟩
        · simp at h0
        · simp at e
      | some q =>
        obtain ⟨qb, qo, qi⟩ := q
        exact .inr ⟨qb,rfl, Nat.le_trans hws (this qb rfl).1⟩
theorem step_win {ops : Array Oper} {o : Oper} {a : Act} {K : Act → World → Prop} {Q : Exit → Act → World → Prop} {X : Prop} (hgd : o.guard = none) (s x : Operand) (t : TypeId)
    (ho : o.op = .call { callee := .builtin .append, args := #[s, x], argTypes := #[t, t] })
    (ht : P.underlying t = some (.slice 3)) (hi : (P.info? 3).map (fun i => (i.zero, i.size, i.bytes)) = some (some (.int .i64 0), 1,8))
    (w W : World) (B y : Nat) (hB : B ≤ w.heap.size) (hW : W.heap = (w.alloc (.cells #[.int .i64 (y : Int)] 3 (0,0))).heap) (hW1 : W.os = w.os) (hW2 : W.tape = w.tape) (hW3 : W.output = w.output)
    (v : Value) (L : List Nat) (hs : a.eval s = v) (hwin : Win B w v L) (hx : a.eval x = .slice (some ⟨w.heap.size,0,none⟩) 1 1) (hl : L.length + 1 ≤ 65536)
    (h : ∀ v' w', Win B w' v' (L ++ [y]) → Keeps v.ownBlock.toList w w' → (v'.ownBlock = v.ownBlock ∨ ∃ b, v'.ownBlock = some b ∧ w.heap.size ≤ b) → K (a.put o.dst v') w') :
    if Region.wanted o (yielded ops a.tmps) = true then Oper.wp P o a W K Q else X := by
  have hw : Region.wanted o (yielded ops a.tmps) = true := by simp [Region.wanted, hgd]
  rw [if_pos hw]
  obtain ⟨v', w', hr, h2, h3, h4⟩ := run_win (P := P) w W B y t o.type ht hi hB hW hW1 hW2 hW3 v L hwin hl
  have hfin := h v' w' h2 h3 h4
  unfold Oper.wp execOp
  simp only [ho, resolve, invoke, builtin, Sem.run_bind, Sem.run_pure, Result.andThen_ok, List.map_toArray, List.map_cons, List.map_nil, hs, hx, hr]
  exact hfin
end
section
variable {P : Program}
theorem run_push (w : World) (B y : Nat) (t ty : TypeId) (ht : P.underlying t = some (.slice 3)) (hi : (P.info? 3).map (fun i => (i.zero, i.size, i.bytes)) = some (some (.int .i64 0), 1,8)) (hB : B ≤ w.heap.size)
    (v : Value) (L : List Nat) (h : Rg.IR B w v L) (hl : L.length + 1 ≤ 65536) :
    ∃ v' w', (Builtin.append_ #[t, t] ty #[v, .slice (some ⟨w.heap.size,0,none⟩) 1 1]).run P (w.alloc (.cells #[.int .i64 (y : Int)] 3 (0,0))) = .ok v' w' ∧ Rg.IR B w' v' (L ++ [y]) ∧ Keeps v.ownBlock.toList w w' ∧ (v'.ownBlock = v.ownBlock ∨ ∃ b, v'.ownBlock = some b ∧ w.heap.size ≤ b) := by
  obtain ⟨i, hi, hz, hsize, hby⟩ := info_parts hi
  have k1 : Keeps [] w (w.alloc (.cells #[.int .i64 (y : Int)] 3 (0,0))) := (Keeps.refl _ _).alloc _
  have hcell : ∀ j u, ([.int .i64 (y : Int)] : List Value)[j]? = some u → (w.alloc (.cells #[.int .i64 (y : Int)] 3 (0,0))).cell? ((⟨w.heap.size,0,none⟩ : Addr).add j) = some u := by
    intro j u hj
    match j, hj with
    | 0, hj =>
      simp at hj; subst hj
      have : (w.alloc (.cells #[.int .i64 (y : Int)] 3 (0,0))).heap[w.heap.size]? = some (.cells #[.int .i64 (y : Int)] 3 (0,0)) := blk_alloc_new _
      show (w.alloc _).cell? ⟨w.heap.size,0,none⟩ = _
      rw [cell_of_blk this]; rfl
  have hws : w.heap.size ≤ (w.alloc (.cells #[.int .i64 (y : Int)] 3 (0,0))).heap.size := k1.size
  obtain ⟨v', w', hr, r1, r2, _, r4⟩ := run_append_own_at (P := P) (w.alloc (.cells #[.int .i64 (y : Int)] 3 (0,0))) B t ty 3 i (.int .i64 0) 1 8 ht hi hz hsize hby rfl (by decide) v L.length (Rg.nCells L) (h.alloc _) ⟨w.heap.size,0,none⟩ 1 1 [.int .i64 (y : Int)] rfl hcell (by intro u hu; simp at hu; subst hu; rfl) (by unfold maxLen; omega) (by omega) (Nat.le_trans hB hws)
  refine ⟨v', w', hr,by unfold Rg.IR; rw [List.length_append, Rg.nCells_append]; exact r1, (k1.mono (T := v.ownBlock.toList) (by simp)).trans ((Keeps.refl v.ownBlock.toList (w.alloc (.cells #[.int .i64 (y : Int)] 3 (0,0)))).grown r2 (fun k e => .inl (by simp [e]))) (fun _ hb => .inl hb),?_⟩
  rcases r4 with q | q
  · exact .inl q
  · exact .inr ⟨_, q, hws⟩
theorem wpList_push1 {ops : Array Oper} {rest : List Oper} {o : Oper} {a : Act} {Q : Exit → Act → World → Prop} (hgd : o.guard = none) (s x : Operand) (t : TypeId)
    (ho : o.op = .call { callee := .builtin .append, args := #[s, x], argTypes := #[t, t] })
    (ht : P.underlying t = some (.slice 3)) (hi : (P.info? 3).map (fun i => (i.zero, i.size, i.bytes)) = some (some (.int .i64 0), 1,8))
    (w : World) (B y : Nat) (hB : B ≤ w.heap.size)
    (v : Value) (L : List Nat) (hs : a.eval s = v) (hwin : Rg.IR B w v L) (hx : a.eval x = .slice (some ⟨w.heap.size,0,none⟩) 1 1) (hl : L.length + 1 ≤ 65536)
    (h : ∀ v' w', Rg.IR B w' v' (L ++ [y]) → Keeps v.ownBlock.toList w w' → (v'.ownBlock = v.ownBlock ∨ ∃ b, v'.ownBlock = some b ∧ w.heap.size ≤ b) → wpList P ops Q rest (a.put o.dst v') w') : wpList P ops Q (o :: rest) a (w.alloc (.cells #[.int .i64 (y : Int)] 3 (0,0))) := by
  refine wpList_plain hgd fun K hK => ?_
  obtain ⟨v', w', hr, h2, h3, h4⟩ := run_push (P := P) w B y t o.type ht hi hB v L hwin hl
  have hfin := hK _ _ (h v' w' h2 h3 h4)
  unfold Oper.wp execOp
  simp only [ho, resolve, invoke, builtin, Sem.run_bind, Sem.run_pure, Result.andThen_ok, List.map_toArray, List.map_cons, List.map_nil, hs, hx, hr]
  exact hfin
end
theorem ownBlock_some (b o n c : Nat) : (Value.slice (some ⟨b,o,none⟩) n c).ownBlock = some b := by simp [Value.ownBlock]
structure CarS (w0 : World) (p g n : Nat) (T0 : Nat → TwigR) (U0 : Nat → Option Nat) (pn pc : Nat) (Fc : List Nat) (cap hs : Nat) (E : Ent) (l m : List Nat) (Bx : Nat) (d da db od : Nat)
    (va vb vo vh : Value) (T : Nat → TwigR) (U : Nat → Option Nat) (a b held out : List Nat) (w : World) : Prop where
  wa : Win 0 w va a
  wb : Win 0 w vb b
  wo : Rg.IR w0.heap.size w vo out
  wh : Win w0.heap.size w vh held
  fo : ForestAt w p g n T U
  ord : OrdAt w pn pc Fc cap hs E
  cari : CarI E (fun x => (T0 x).kids) U0 l m d da db od (fun x => (T x).kids) U a b held out
  kp : Keeps (treeF p g n T0 ++ Fc) w0 w
  tf : ∀ b ∈ treeF p g n T, b ∈ treeF p g n T0 ∨ w0.heap.size ≤ b
  of : ∀ b ∈ pn :: Fc, b < w0.heap.size
  apa : ∀ b, va.ownBlock = some b → b < w0.heap.size ∧ b ∉ treeF p g n T0 ++ Fc
  apb : ∀ b, vb.ownBlock = some b → b < w0.heap.size ∧ b ∉ treeF p g n T0 ++ Fc
  apo : ∀ b, vo.ownBlock = some b → b ∉ treeF p g n T ∧ b ≠ Bx
  aph : ∀ b, vh.ownBlock = some b → b ∉ treeF p g n T ∧ b ≠ Bx
  aoh : ∀ b, vo.ownBlock = some b → vh.ownBlock ≠ some b
  bx : w0.heap.size ≤ Bx ∧ Bx ∉ treeF p g n T
  bc : w.heap[Bx]? = some (.cells #[vb] 28 (0,0))
section
variable {w0 w w' : World} {p g n : Nat} {T0 T T' : Nat → TwigR} {U0 U U' : Nat → Option Nat} {pn pc : Nat} {Fc S : List Nat} {cap hs : Nat} {E : Ent} {l m : List Nat} {Bx d da db od d' da' db' od' : Nat} {va vb vo vh va' vb' vo' vh' : Value} {a b held out a' b' held' out' : List Nat}
theorem Win.keep' (h : Win Bx w va a) (k : Keeps S w w') (hS : ∀ b, va.ownBlock = some b → b ∉ S) : Win Bx w' va a :=
  h.keep k fun g off cap e => hS g (by rw [e]; exact ownBlock_some _ _ _ _)
theorem ir_keep' (h : Rg.IR Bx w vo out) (k : Keeps S w w') (hS : ∀ b, vo.ownBlock = some b → b ∉ S) : Rg.IR Bx w' vo out := by
  refine ⟨h.1,?_⟩
  rcases h.2 with h0 | ⟨g, cap', cur, e, hb, hg, r⟩
  · exact .inl h0
  · exact .inr ⟨g, cap', cur, e, hb, k.blk hg (hS g (by rw [e]; exact ownBlock_some _ _ _ _)), r⟩
theorem CarS.frame (h : CarS w0 p g n T0 U0 pn pc Fc cap hs E l m Bx d da db od va vb vo vh T U a b held out w) (k : Keeps S w w') (hS : ∀ b ∈ S, w0.heap.size ≤ b ∧ b ∉ treeF p g n T) :
    Win 0 w' va a ∧ Win 0 w' vb b ∧ ForestAt w' p g n T U ∧ OrdAt w' pn pc Fc cap hs E ∧ Keeps (treeF p g n T0 ++ Fc) w0 w' := by
  refine ⟨h.wa.keep' k fun b e q => ?_, h.wb.keep' k fun b e q => ?_, h.fo.keep k fun b e q => (hS b q).2 e, h.ord.keep k fun b e q => ?_, h.kp.trans k fun b q => .inr (hS b q).1⟩
  · have := (h.apa b e).1; have := (hS b q).1; omega
  · have := (h.apb b e).1; have := (hS b q).1; omega
  · have := h.of b e; have := (hS b q).1; omega
theorem CarS.takeA {x : Nat} {va' vh' : Value} (h : CarS w0 p g n T0 U0 pn pc Fc cap hs E l m Bx d d db od va vb vo vh T U (x :: a) b held out w) (e : (T x).kids.length = d)
    (hw : Win w0.heap.size w' vh' (held ++ [x])) (k : Keeps vh.ownBlock.toList w w') (ho : vh'.ownBlock = vh.ownBlock ∨ ∃ b, vh'.ownBlock = some b ∧ w.heap.size ≤ b)
    (hv : ∀ u, Win 0 u va (x :: a) → Win 0 u va' a) (hvo : va'.ownBlock = va.ownBlock) :
    CarS w0 p g n T0 U0 pn pc Fc cap hs E l m Bx d (d + 1) db od va' vb vo vh' T U a b (held ++ [x]) out w' := by
  have hh := h.wh.block
  have hoo := h.wo.own
  have hs : ∀ b ∈ vh.ownBlock.toList, w0.heap.size ≤ b ∧ b ∉ treeF p g n T := fun b q => by
    rw [Option.mem_toList] at q
    exact ⟨(hh b q).1, (h.aph b q).1⟩
  obtain ⟨f1, f2, f3, f4, f5⟩ := h.frame k hs
  have hbx := lt_of_block h.bc
  have hlt := h.fo.lt
  have hnew : ∀ b, vh'.ownBlock = some b → vh.ownBlock = some b ∨ w.heap.size ≤ b := fun b q => by
    rcases ho with c | ⟨b', c, d⟩
    · exact .inl (c ▸ q)
    · rw [q] at c; cases c; exact .inr d
  refine ⟨hv _ f1, f2, ir_keep' h.wo k fun b q r => ?_, hw, f3, f4, h.cari.takeA e, f5, h.tf, h.of,?_, h.apb, h.apo,fun b q => ?_,fun b q r => ?_, h.bx,?_⟩
  · rw [Option.mem_toList] at r; exact h.aoh b q r
  · rw [hvo]; exact h.apa
  · rcases hnew b q with c | c
    · exact h.aph b c
    · exact ⟨fun r => by have := hlt b r; omega,by omega⟩
  · rcases hnew b r with c | c
    · exact h.aoh b q c
    · have := (hoo b q).2; omega
  · exact k.blk h.bc fun q => (h.aph Bx (by simpa [Option.mem_toList] using q)).2 rfl
theorem CarS.takeB {x : Nat} {vb' vh' : Value} (h : CarS w0 p g n T0 U0 pn pc Fc cap hs E l m Bx d da d od va vb vo vh T U a (x :: b) held out w) (e : (T x).kids.length = d)
    (hw : Win w0.heap.size w' vh' (held ++ [x])) (k : Keeps vh.ownBlock.toList w w') (ho : vh'.ownBlock = vh.ownBlock ∨ ∃ b, vh'.ownBlock = some b ∧ w.heap.size ≤ b)
    (hv : ∀ u, Win 0 u vb (x :: b) → Win 0 u vb' b) (hvo : vb'.ownBlock = vb.ownBlock) :
    w'.heap[Bx]? = some (.cells #[vb] 28 (0,0)) ∧ CarS w0 p g n T0 U0 pn pc Fc cap hs E l m Bx d da (d + 1) od va vb' vo vh' T U a b (held ++ [x]) out (w'.setCell ⟨Bx,0,none⟩ vb') := by
  have hh := h.wh.block
  have hoo := h.wo.own
  have hs : ∀ b ∈ vh.ownBlock.toList, w0.heap.size ≤ b ∧ b ∉ treeF p g n T := fun b q => by
    rw [Option.mem_toList] at q
    exact ⟨(hh b q).1, (h.aph b q).1⟩
  have hbx := lt_of_block h.bc
  have hbw : w'.heap[Bx]? = some (.cells #[vb] 28 (0,0)) := k.blk h.bc fun q => (h.aph Bx (by simpa [Option.mem_toList] using q)).2 rfl
  have k2 : Keeps [Bx] w' (w'.setCell ⟨Bx,0,none⟩ vb') := (Keeps.refl _ _).setCell (.inl (by simp)) _
  have k3 : Keeps (Bx :: vh.ownBlock.toList) w (w'.setCell ⟨Bx,0,none⟩ vb') := (k.mono (T := Bx :: vh.ownBlock.toList) (fun b q => .inl (by simp [q]))).trans k2 (fun b q => .inl (by simp at q; simp [q]))
  obtain ⟨f1, f2, f3, f4, f5⟩ := h.frame k3 (fun b q => by
    rcases List.mem_cons.1 q with rfl | q
    · exact h.bx
    · exact hs b q)
  have hlt := h.fo.lt
  have hnew : ∀ b, vh'.ownBlock = some b → vh.ownBlock = some b ∨ w.heap.size ≤ b := fun b q => by
    rcases ho with c | ⟨b', c, d⟩
    · exact .inl (c ▸ q)
    · rw [q] at c; cases c; exact .inr d
  have hnb : ∀ b, vh'.ownBlock = some b → b ∉ treeF p g n T ∧ b ≠ Bx := fun b q => by
    rcases hnew b q with c | c
    · exact h.aph b c
    · exact ⟨fun r => by have := hlt b r; omega,by omega⟩
  refine ⟨hbw, f1, hv _ f2, ir_keep' h.wo k3 fun b q r => ?_, hw.keep' k2 fun b q r => ?_, f3, f4, h.cari.takeB e, f5, h.tf, h.of, h.apa,?_, h.apo, hnb,fun b q r => ?_, h.bx,?_⟩
  · rcases List.mem_cons.1 r with rfl | r
    · exact (h.apo b q).2 rfl
    · rw [Option.mem_toList] at r; exact h.aoh b q r
  · simp only [List.mem_singleton] at r
    exact (hnb b q).2 r
  · rw [hvo]; exact h.apb
  · rcases hnew b r with c | c
    · exact h.aoh b q c
    · have := (hoo b q).2; omega
  · have := blk_setCell (i := 0) vb' hbw
    simpa using this
theorem CarS.done {x : Nat} {vo' vh' : Value} (h : CarS w0 p g n T0 U0 pn pc Fc cap hs E l m Bx d da db d va vb vo vh T U a b (x :: held) out w)
    (hw : Rg.IR w0.heap.size w' vo' (out ++ [x])) (k : Keeps vo.ownBlock.toList w w') (ho : vo'.ownBlock = vo.ownBlock ∨ ∃ b, vo'.ownBlock = some b ∧ w.heap.size ≤ b)
    (hv : ∀ u, Win w0.heap.size u vh (x :: held) → Win w0.heap.size u vh' held) (hvo : vh'.ownBlock = vh.ownBlock) :
    CarS w0 p g n T0 U0 pn pc Fc cap hs E l m Bx d da db (d + 1) va vb vo' vh' T U a b held (out ++ [x]) w' := by
  have hh := h.wh.block
  have hoo := h.wo.own
  have hs : ∀ b ∈ vo.ownBlock.toList, w0.heap.size ≤ b ∧ b ∉ treeF p g n T := fun b q => by
    rw [Option.mem_toList] at q
    exact ⟨(hoo b q).1, (h.apo b q).1⟩
  obtain ⟨f1, f2, f3, f4, f5⟩ := h.frame k hs
  have hbx := lt_of_block h.bc
  have hlt := h.fo.lt
  have hnew : ∀ b, vo'.ownBlock = some b → vo.ownBlock = some b ∨ w.heap.size ≤ b := fun b q => by
    rcases ho with c | ⟨b', c, d⟩
    · exact .inl (c ▸ q)
    · rw [q] at c; cases c; exact .inr d
  refine ⟨f1, f2, hw, hv _ (h.wh.keep' k fun b q r => ?_), f3, f4, h.cari.done, f5, h.tf, h.of, h.apa, h.apb,fun b q => ?_,?_,fun b q r => ?_, h.bx,?_⟩
  · rw [Option.mem_toList] at r; exact h.aoh b r q
  · rcases hnew b q with c | c
    · exact h.apo b c
    · exact ⟨fun r => by have := hlt b r; omega,by omega⟩
  · rw [hvo]; exact h.aph
  · rw [hvo] at r
    rcases hnew b q with c | c
    · exact h.aoh b c r
    · have := (hh b r).2; omega
  · exact k.blk h.bc fun q => (h.apo Bx (by simpa [Option.mem_toList] using q)).2 rfl
theorem CarS.skipA (h : CarS w0 p g n T0 U0 pn pc Fc cap hs E l m Bx d d db od va vb vo vh T U a b held out w) (e : ∀ x, a.head? = some x → (T x).kids.length ≠ d) :
    CarS w0 p g n T0 U0 pn pc Fc cap hs E l m Bx d (d + 1) db od va vb vo vh T U a b held out w :=
  { h with cari := h.cari.skipA e }
theorem CarS.skipB (h : CarS w0 p g n T0 U0 pn pc Fc cap hs E l m Bx d da d od va vb vo vh T U a b held out w) (e : ∀ x, b.head? = some x → (T x).kids.length ≠ d) :
    CarS w0 p g n T0 U0 pn pc Fc cap hs E l m Bx d da (d + 1) od va vb vo vh T U a b held out w :=
  { h with cari := h.cari.skipB e }
theorem CarS.notDone (h : CarS w0 p g n T0 U0 pn pc Fc cap hs E l m Bx d da db d va vb vo vh T U a b held out w) :
    CarS w0 p g n T0 U0 pn pc Fc cap hs E l m Bx d da db (d + 1) va vb vo vh T U a b held out w :=
  { h with cari := h.cari.notDone }
theorem CarS.next (h : CarS w0 p g n T0 U0 pn pc Fc cap hs E l m Bx d da db od va vb vo vh T U a b [] out w) (d' : Nat) :
    CarS w0 p g n T0 U0 pn pc Fc cap hs E l m Bx d' da db od va vb vo vh T U a b [] out w :=
  { h with cari := h.cari.next d' }
theorem CarS.join {x y : Nat} {e : Ending} (h : CarS w0 p g n T0 U0 pn pc Fc cap hs E l m Bx d (d + 1) (d + 1) (d + 1) va vb vo vh T U a b [x, y] out w) (hj : JoinDone w p g n T U pn pc Fc cap hs E x y e w') :
    ∃ c T' U', e = .returned (.int .i64 (c : Nat)) ∧ CarS w0 p g n T0 U0 pn pc Fc cap hs E l m Bx (d + 1) (d + 1) (d + 1) (d + 1) va vb vo (.slice (some ⟨w'.heap.size,0,none⟩) 1 1) T' U' a b [c] out (w'.alloc (.cells #[.int .i64 (c : Int)] 3 (0,0))) := by
  obtain ⟨c, f, t, hcf, hah,rfl, ht, hfo, hod, hk, htf⟩ := hj
  have hh := h.wh.block
  have hoo := h.wo.own
  have hbx := lt_of_block h.bc
  have hlt := h.fo.lt
  have kA : Keeps [] w' (w'.alloc (.cells #[.int .i64 (c : Int)] 3 (0,0))) := (Keeps.refl _ _).alloc _
  have kk : Keeps (treeF p g n T ++ Fc) w (w'.alloc (.cells #[.int .i64 (c : Int)] 3 (0,0))) := hk.trans kA (by simp)
  have hS : ∀ b, w0.heap.size ≤ b → b ∉ treeF p g n T → b ∉ treeF p g n T ++ Fc := fun b q r s => by
    rcases List.mem_append.1 s with s | s
    · exact r s
    · have := h.of b (by simp [s]); omega
  have hA : ∀ b, b < w0.heap.size → b ∉ treeF p g n T0 ++ Fc → b ∉ treeF p g n T ++ Fc := fun b q r s => by
    rcases List.mem_append.1 s with s | s
    · rcases h.tf b s with c | c
      · exact r (by simp [c])
      · omega
    · exact r (by simp [s])
  have hT : ∀ b, b < w.heap.size → b ∉ treeF p g n T → b ∉ treeF p g n (upd T c t) := fun b q r s => by
    rcases htf b s with c | c
    · exact r c
    · omega
  have hwn : w.heap.size ≤ w'.heap.size := hk.size
  have hcar : CarI E (fun x => (T0 x).kids) U0 l m (d + 1) (d + 1) (d + 1) (d + 1) (fun x => (upd T c t x).kids) (upd U f (some c)) a b [c] out := by
    have hu : (fun x => (upd T c t x).kids) = upd (fun x => (T x).kids) c ((T c).kids ++ [f]) := by
      funext z
      by_cases q : z = c
      · subst q; simp only [upd_same]; exact ht
      · simp only [upd_other _ _ q]
    rw [hu]
    rcases hcf with ⟨rfl,rfl⟩ | ⟨rfl,rfl⟩
    · exact h.cari.join hah
    · exact h.cari.swap.join hah
  refine ⟨c, upd T c t, upd U f (some c),rfl, h.wa.keep' kk fun b q => hA b (h.apa b q).1 (h.apa b q).2, h.wb.keep' kk fun b q => hA b (h.apb b q).1 (h.apb b q).2, ir_keep' h.wo kk fun b q => hS b (hoo b q).1 (h.apo b q).1,?_,
    hfo.keep kA (by simp), hod.keep kA (by simp), hcar, h.kp.trans kk fun b q => ?_,fun b q => ?_, h.of, h.apa, h.apb,fun b q => ⟨hT b (hoo b q).2 (h.apo b q).1, (h.apo b q).2⟩,fun b q => ?_,fun b q r => ?_, ⟨h.bx.1, hT Bx hbx h.bx.2⟩,?_⟩
  · refine .inr ⟨w'.heap.size, 0,1, #[.int .i64 (c : Int)],rfl, Nat.le_trans h.kp.size hwn, blk_alloc_new _,by simp,by simp,fun j z e => ?_⟩
    match j, e with
    | 0, e => simp at e; subst e; rfl
  · rcases List.mem_append.1 q with q | q
    · rcases h.tf b q with c | c
      · exact .inl (by simp [c])
      · exact .inr c
    · exact .inl (by simp [q])
  · rcases htf b q with c | c
    · exact h.tf b c
    · exact .inr (Nat.le_trans h.kp.size c)
  · rw [ownBlock_some] at q; cases q
    exact ⟨fun r => by have := hfo.lt _ r; omega,by omega⟩
  · rw [ownBlock_some] at r; cases r
    have := (hoo _ q).2; omega
  · exact kk.blk h.bc (hS Bx h.bx.1 h.bx.2)
end
section
variable (w : World) (p g n : Nat) (T : Nat → TwigR) (U : Nat → Option Nat) (pn pc : Nat) (Fc : List Nat) (cap hs : Nat) (E : Ent) (l m : List Nat)
def CarryDone (e : Ending) (w' : World) : Prop :=
  ∃ (ao : Option Addr) (ca : Nat) (out : List Nat) (T' : Nat → TwigR) (U' : Nat → Option Nat), e = .returned (.tuple #[.slice ao out.length ca, .bool true]) ∧ Rg.IR w.heap.size w' (.slice ao out.length ca) out ∧
    ForestAt w' p g n T' U' ∧ OrdAt w' pn pc Fc cap hs E ∧ Keeps (treeF p g n T ++ Fc) w w' ∧ (∀ b ∈ treeF p g n T', b ∈ treeF p g n T ∨ w.heap.size ≤ b) ∧
    (∀ b, (Value.slice ao out.length ca).ownBlock = some b → b ∉ treeF p g n T') ∧ CarDone E (fun x => (T x).kids) U l m (fun x => (T' x).kids) U' out
def CarL (k : Nat) (va vo vh s : Value) (wr : World) : Prop :=
  ∃ (d : Nat) (T' : Nat → TwigR) (U' : Nat → Option Nat) (a b held out : List Nat) (vb : Value), k + d = 65539 ∧ s = .int .i64 d ∧ held.length ≤ 1 ∧ CarS w p g n T U pn pc Fc cap hs E l m w.heap.size d d d d va vb vo vh T' U' a b held out wr
def CarL1 (d : Nat) (va vo vh : Value) (wr : World) : Prop :=
  ∃ (T' : Nat → TwigR) (U' : Nat → Option Nat) (a b held out : List Nat) (vb : Value), held.length ≤ 2 ∧ CarS w p g n T U pn pc Fc cap hs E l m w.heap.size d (d + 1) d d va vb vo vh T' U' a b held out wr
def CarL2 (d : Nat) (va vo vh : Value) (wr : World) : Prop :=
  ∃ (T' : Nat → TwigR) (U' : Nat → Option Nat) (a b held out : List Nat) (vb : Value), held.length ≤ 3 ∧ CarS w p g n T U pn pc Fc cap hs E l m w.heap.size d (d + 1) (d + 1) d va vb vo vh T' U' a b held out wr
def CarL3 (d : Nat) (va vo vh : Value) (wr : World) : Prop :=
  ∃ (T' : Nat → TwigR) (U' : Nat → Option Nat) (a b held out : List Nat) (vb : Value), (held.length = 0 ∨ held.length = 2) ∧ CarS w p g n T U pn pc Fc cap hs E l m w.heap.size d (d + 1) (d + 1) (d + 1) va vb vo vh T' U' a b held out wr
end
section
variable {w0 w : World} {p g n : Nat} {T0 T : Nat → TwigR} {U0 U : Nat → Option Nat} {pn pc : Nat} {Fc : List Nat} {cap hs : Nat} {E : Ent} {l m : List Nat} {Bx d da db od : Nat} {va vb vo vh : Value} {a b held out : List Nat}
theorem CarS.lens (h : CarS w0 p g n T0 U0 pn pc Fc cap hs E l m Bx d da db od va vb vo vh T U a b held out w) (hn : ∀ x, x ∈ l ∨ x ∈ m → x < n) (hc : n ≤ 65536) : a.length ≤ 65536 ∧ b.length ≤ 65536 ∧ held.length ≤ 65536 ∧ out.length + held.length ≤ 65536 := by
  have hl := nodup_len h.cari.nd fun x hx => hn x ((h.cari.mem x).1 hx).1
  simp only [List.length_append] at hl
  omega
theorem CarS.inL {x : Nat} (h : CarS w0 p g n T0 U0 pn pc Fc cap hs E l m Bx d da db od va vb vo vh T U a b held out w) (hx : x ∈ a ++ b ++ held ++ out) : x ∈ l ∨ x ∈ m := ((h.cari.mem x).1 hx).1
theorem CarS.stop (h : CarS w0 p g n T0 U0 pn pc Fc cap hs E l m Bx d d d od va vb vo vh T U a b held out w) (hn : ∀ x, x ∈ l ∨ x ∈ m → x < n) (hd : 65536 < d) : a = [] ∧ b = [] ∧ held = [] := by
  have hk : ∀ x, x ∈ a ++ b ++ held ++ out → (T x).kids.length ≤ 65536 := fun x hx => (h.fo.num x (hn x (h.inL hx))).1
  refine ⟨?_,?_,?_⟩
  · cases a with
    | nil => rfl
    | cons x t => have := h.cari.ga x (by simp); have := hk x (by simp); omega
  · cases b with
    | nil => rfl
    | cons x t => have := h.cari.gb x (by simp); have := hk x (by simp); omega
  · cases held with
    | nil => rfl
    | cons x t => have := h.cari.gh x (by simp); have := hk x (by simp); omega
theorem CarS.boxAfter {w' : World} (h : CarS w0 p g n T0 U0 pn pc Fc cap hs E l m Bx d da db od va vb vo vh T U a b held out w) (k : Keeps vh.ownBlock.toList w w') : w'.cell? ⟨Bx,0,none⟩ = some vb ∧ w'.frozen? ⟨Bx,0,none⟩ = false := by
  have := k.blk h.bc fun q => (h.aph Bx (by simpa [Option.mem_toList] using q)).2 rfl
  exact ⟨by rw [cell_of_blk this]; rfl, frozen_of_blk this⟩
theorem CarS.same {w' : World} (h : CarS w0 p g n T0 U0 pn pc Fc cap hs E l m Bx d da db od va vb vo vh T U a b held out w) (k : Keeps [] w w') : CarS w0 p g n T0 U0 pn pc Fc cap hs E l m Bx d da db od va vb vo vh T U a b held out w' := by
  obtain ⟨f1, f2, f3, f4, f5⟩ := h.frame k (by simp)
  exact ⟨f1, f2, ir_keep' h.wo k (by simp), h.wh.keep' k (by simp), f3, f4, h.cari, f5, h.tf, h.of, h.apa, h.apb, h.apo, h.aph, h.aoh, h.bx, k.blk h.bc (by simp)⟩
theorem CarS.apart (h : CarS w0 p g n T0 U0 pn pc Fc cap hs E l m Bx d da db od va vb vo vh T U a b held out w) (hap : ∀ b ∈ treeF p g n T0, b ∉ pn :: Fc) : ∀ b ∈ treeF p g n T, b ∉ pn :: Fc := fun b hb e => by
  rcases h.tf b hb with q | q
  · exact hap b q e
  · have := h.of b e; omega
theorem CarS.room {x : Nat} (h : CarS w0 p g n T0 U0 pn pc Fc cap hs E l m Bx d da db od va vb vo vh T U a b held out w) (hx : x < n) (hc : n ≤ 65536) : (T x).kids.length + 1 ≤ 65536 := by
  have hnd := h.cari.cubes.nodup x
  have hxk : x ∉ (T x).kids := fun e => by have := h.cari.cubes.lt e; omega
  have := nodup_len (List.nodup_cons.2 ⟨hxk, hnd⟩) (n := n) (fun y hy => by
    rcases List.mem_cons.1 hy with rfl | hy
    · exact hx
    · exact (h.fo.num x hx).2.1 y hy)
  simp only [List.length_cons] at this
  omega
theorem win_tail1 {B g off c x : Nat} {L : List Nat} (q : c = 1) (u : World) (h : Win B u (.slice (some ⟨g,off,none⟩) (L.length + 1) c) (x :: L)) : Win B u (.slice (some ⟨g,off,none⟩) L.length 0) L := by
  rcases h with ⟨_, h⟩ | ⟨g2, off2, cap2, cur, e, hb, hg, h1, h2, h3⟩
  · cases h
  · cases e
    simp only [List.length_cons] at h1
    obtain rfl : L = [] := List.length_eq_zero_iff.1 (by omega)
    exact .inr ⟨g, off, 0, cur,rfl, hb, hg,by simp,by omega,by simp⟩
theorem win_tail2 {B g off c x : Nat} {L : List Nat} (u : World) (h : Win B u (.slice (some ⟨g,off,none⟩) (L.length + 1) c) (x :: L)) : Win B u (.slice (some ⟨g, off + 1, none⟩) L.length (c - 1)) L := by
  obtain ⟨g', off', c', e, hb, h3, h4, h5⟩ := h.head
  cases e
  exact h5
end
end Go.Proofs.YtkdbjelhkfdfjaaGreatDoor


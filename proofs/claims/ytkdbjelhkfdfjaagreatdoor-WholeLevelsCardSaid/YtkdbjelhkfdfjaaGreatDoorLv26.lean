/-
  Contracts that the law rests on. Conditions: none.
-/
import Derived.Test.YtkdbjelhkfdfjaaGreatDoorLv14
import Derived.Below
import Derived.ChangeOld
import Derived.Deep.Slices
import Derived.Deep.Strs
import Derived.OpenShut
import Derived.ProofKit
import Derived.ShutString
set_option linter.unusedVariables false
set_option maxRecDepth 100000
set_option maxHeartbeats 32000000
namespace Go.Proofs.YtkdbjelhkfdfjaaGreatDoor
open Go.RowKit
def tieV (A B C : Nat -> Option Nat) (i : Nat) : List Value := [.int .i64 (oZ (A i)),.int .i64 (oZ (B i)),.int .i64 (oZ (C i))]
structure TieAt (w : World) (g n : Nat) (A B C : Nat -> Option Nat) : Prop where
  arr : Arr w 218 3 n g (tieV A B C)
  wf : ∀ x y, A x = some y ∨ B x = some y ∨ C x = some y -> y < n
section
variable {w w' : World} {g n : Nat} {A B C : Nat -> Option Nat} {S : List Nat}
theorem TieAt.keep (h : TieAt w g n A B C) (k : Keeps S w w') (h2 : g ∉ S) : TieAt w' g n A B C := ⟨h.arr.keep k h2, h.wf⟩
theorem TieAt.a (h : TieAt w g n A B C) {x : Nat} (hx : x < n) : w.cell? ⟨g, x * 3, none⟩ = some (.int .i64 (oZ (A x))) := by
  have := h.arr.cell hx (j := 0) (by omega)
  simpa [tieV] using this
theorem TieAt.b (h : TieAt w g n A B C) {x : Nat} (hx : x < n) : w.cell? ⟨g, x * 3 + 1, none⟩ = some (.int .i64 (oZ (B x))) := by
  have := h.arr.cell hx (j := 1) (by omega)
  simpa [tieV] using this
theorem TieAt.c (h : TieAt w g n A B C) {x : Nat} (hx : x < n) : w.cell? ⟨g, x * 3 + 2, none⟩ = some (.int .i64 (oZ (C x))) := by
  have := h.arr.cell hx (j := 2) (by omega)
  simpa [tieV] using this
theorem TieAt.frozen (h : TieAt w g n A B C) (i : Nat) : w.frozen? ⟨g,i,none⟩ = false := h.arr.frozen i
theorem TieAt.setA (h : TieAt w g n A B C) {x : Nat} (hx : x < n) {o : Option Nat} (ho : ∀ y, o = some y -> y < n) : TieAt (w.setCell ⟨g, x * 3, none⟩ (.int .i64 (oZ o))) g n (upd A x o) B C := by
  refine ⟨(h.arr.set hx (j := 0) (by omega) (.int .i64 (oZ o))).congr fun i _ => ?_,?_⟩
  · by_cases c : i = x
    · subst c; rw [upd_same]; simp [tieV, upd_same]
    · rw [upd_other _ _ c]; simp [tieV, upd_other _ _ c]
  · intro a b c
    by_cases e : a = x
    · subst e
      rw [upd_same] at c
      rcases c with c | c | c
      · exact ho b c
      · exact h.wf a b (.inr (.inl c))
      · exact h.wf a b (.inr (.inr c))
    · rw [upd_other _ _ e] at c; exact h.wf a b c
theorem TieAt.setB (h : TieAt w g n A B C) {x : Nat} (hx : x < n) {o : Option Nat} (ho : ∀ y, o = some y -> y < n) : TieAt (w.setCell ⟨g, x * 3 + 1, none⟩ (.int .i64 (oZ o))) g n A (upd B x o) C := by
  refine ⟨(h.arr.set hx (j := 1) (by omega) (.int .i64 (oZ o))).congr fun i _ => ?_,?_⟩
  · by_cases c : i = x
    · subst c; rw [upd_same]; simp [tieV, upd_same]
    · rw [upd_other _ _ c]; simp [tieV, upd_other _ _ c]
  · intro a b c
    by_cases e : a = x
    · subst e
      rw [upd_same] at c
      rcases c with c | c | c
      · exact h.wf a b (.inl c)
      · exact ho b c
      · exact h.wf a b (.inr (.inr c))
    · rw [upd_other _ _ e] at c; exact h.wf a b c
theorem TieAt.setC (h : TieAt w g n A B C) {x : Nat} (hx : x < n) {o : Option Nat} (ho : ∀ y, o = some y -> y < n) : TieAt (w.setCell ⟨g, x * 3 + 2, none⟩ (.int .i64 (oZ o))) g n A B (upd C x o) := by
  refine ⟨(h.arr.set hx (j := 2) (by omega) (.int .i64 (oZ o))).congr fun i _ => ?_,?_⟩
  · by_cases c : i = x
    · subst c; rw [upd_same]; simp [tieV, upd_same]
    · rw [upd_other _ _ c]; simp [tieV, upd_other _ _ c]
  · intro a b c
    by_cases e : a = x
    · subst e
      rw [upd_same] at c
      rcases c with c | c | c
      · exact h.wf a b (.inl c)
      · exact h.wf a b (.inr (.inl c))
      · exact ho b c
    · rw [upd_other _ _ e] at c; exact h.wf a b c
end
structure PairMid (w : World) (p pc gt : Nat) (vT : Value) (Fc : List Nat) (cap hs : Nat) (E : Ent) (A B C : Nat -> Option Nat) : Prop where
  nd : (p :: gt :: Fc).Nodup
  blk : w.heap[p]? = some (.cells #[.pointer (some ⟨pc,0,none⟩),.slice (some ⟨gt,0,none⟩) cap cap, vT] 216 (0,0))
  ce : CellsAt w Fc pc cap hs E
  ti : TieAt w gt cap A B C
section
variable {w w' : World} {p pc gt cap hs : Nat} {vT : Value} {Fc S : List Nat} {E E' : Ent} {A B C A' B' C' : Nat -> Option Nat}
theorem PairMid.ne (m : PairMid w p pc gt vT Fc cap hs E A B C) : (p ≠ gt ∧ p ∉ Fc) ∧ gt ∉ Fc := by
  have := m.nd
  simp only [List.nodup_cons, List.mem_cons, not_or] at this
  exact ⟨this.1, this.2.1⟩
theorem PairMid.keep (m : PairMid w p pc gt vT Fc cap hs E A B C) (k : Keeps S w w') (hS : ∀ b ∈ p :: gt :: Fc, b ∉ S) : PairMid w' p pc gt vT Fc cap hs E A B C :=
  ⟨m.nd, k.blk m.blk (hS p (by simp)), m.ce.keep k (fun b hb => hS b (by simp [hb])), m.ti.keep k (hS gt (by simp))⟩
theorem PairMid.below (m : PairMid w p pc gt vT Fc cap hs E A B C) (k : Below w.heap.size w w') : PairMid w' p pc gt vT Fc cap hs E A B C := m.keep (Below.keeps k (Nat.le_refl _) []) (by simp)
theorem PairMid.drewN (m : PairMid w p pc gt vT Fc cap hs E A B C) (n : Nat) : PairMid (w.drewN n) p pc gt vT Fc cap hs E A B C := m.keep (S := []) ⟨rfl,rfl,rfl, Nat.le_refl _,fun _ _ _ => rfl⟩ (by simp)
theorem PairMid.cells (m : PairMid w p pc gt vT Fc cap hs E A B C) (c : CellsAt w' Fc pc cap hs E') (k : Keeps Fc w w') : PairMid w' p pc gt vT Fc cap hs E' A B C :=
  ⟨m.nd, k.blk m.blk m.ne.1.2, c, m.ti.keep k m.ne.2⟩
theorem PairMid.ties (m : PairMid w p pc gt vT Fc cap hs E A B C) (t : TieAt w' gt cap A' B' C') (k : Keeps [gt] w w') : PairMid w' p pc gt vT Fc cap hs E A' B' C' :=
  ⟨m.nd, k.blk m.blk (by simpa using m.ne.1.1), m.ce.keep k (fun b hb e => by simp at e; subst e; exact m.ne.2 hb), t⟩
theorem PairMid.lt (m : PairMid w p pc gt vT Fc cap hs E A B C) : p < w.heap.size ∧ gt < w.heap.size ∧ ∀ b ∈ Fc, b < w.heap.size := ⟨lt_of_block m.blk, m.ti.arr.lt, m.ce.lt⟩
theorem PairMid.c0 (m : PairMid w p pc gt vT Fc cap hs E A B C) : w.cell? ⟨p,0,none⟩ = some (.pointer (some ⟨pc,0,none⟩)) := by rw [cell_of_blk m.blk]; rfl
theorem PairMid.c1 (m : PairMid w p pc gt vT Fc cap hs E A B C) : w.cell? ⟨p,1,none⟩ = some (.slice (some ⟨gt,0,none⟩) cap cap) := by rw [cell_of_blk m.blk]; rfl
theorem PairMid.c2 (m : PairMid w p pc gt vT Fc cap hs E A B C) : w.cell? ⟨p,2,none⟩ = some vT := by rw [cell_of_blk m.blk]; rfl
end
def PairL (w : World) (p pc gt : Nat) (vT : Value) (Fc : List Nat) (cap hs : Nat) (E : Ent) (h : Nat) (top : Nat -> Option Nat) (Z l : List Nat) : Prop :=
  ∃ (K : Nat -> List Nat) (kid next back U : Nat -> Option Nat), PairMid w p pc gt vT Fc cap hs E kid next back ∧ Pair E K kid next back U h l top ∧ ∀ z ∈ Z, K z = []
section
variable (w : World) (p pc gt : Nat) (vT : Value) (Fc : List Nat) (cap hs : Nat) (E : Ent) (h : Nat) (top : Nat -> Option Nat) (Z l : List Nat)
theorem link_none (b : Int) : Calls Tryz.prog 378 #[.pointer (some ⟨p,0,none⟩),.int .i64 (-1),.int .i64 b] w fun e w' => e = .returned (.int .i64 b) ∧ w = w' := by
  go_enter Tryz.func378, Tryz.ntmps378
  go_wp2
  go_ret
  exact ⟨rfl,rfl⟩
theorem link_one (a : Nat) : Calls Tryz.prog 378 #[.pointer (some ⟨p,0,none⟩),.int .i64 a,.int .i64 (-1)] w fun e w' => e = .returned (.int .i64 a) ∧ w = w' := by
  have ha : ((a : Int) == -1) = false := by rw [beq_eq_false_iff_ne]; omega
  go_enter Tryz.func378, Tryz.ntmps378
  go_wp2
  go_ret
  exact ⟨rfl,rfl⟩
def Linked (a b : Nat) (e : Ending) (w' : World) : Prop :=
  ∃ c d : Nat, e = .returned (.int .i64 c) ∧ ((c = a ∧ d = b) ∨ (c = b ∧ d = a)) ∧ (∀ l', l'.Nodup -> (∀ y, y ∈ l' ↔ y ∈ l ∧ y ≠ d) -> PairL w' p pc gt vT Fc cap hs E h top Z l') ∧ Keeps (gt :: Fc) w w'
theorem link_two (s : PairL w p pc gt vT Fc cap hs E h top Z l) (a b : Nat) (ha : a ∈ l) (hb : b ∈ l) (hne : a ≠ b) (hza : a ∉ Z) (hzb : b ∉ Z) :
    Calls Tryz.prog 378 #[.pointer (some ⟨p,0,none⟩),.int .i64 a,.int .i64 b] w (Linked w p pc gt vT Fc cap hs E h top Z l a b) := by
  obtain ⟨K, kid, next, back, U, m, z, hZ⟩ := s
  have hea := ((z.here a).1 ha).1
  have heb := ((z.here b).1 hb).1
  have hac := m.ce.ok.lt a hea.some
  have hbc := m.ce.ok.lt b heb.some
  have hal := cells_ahead w Fc pc cap hs E m.ce b a heb.some hea.some
  have c0 := m.c0
  have hna : ((a : Int) == -1) = false := by rw [beq_eq_false_iff_ne]; omega
  have hnb : ((b : Int) == -1) = false := by rw [beq_eq_false_iff_ne]; omega
  have hmain : ∀ (u v : Nat) (w1 : World), u ∈ l -> v ∈ l -> u < cap -> v < cap -> u ∉ Z -> u ≠ v -> ahead E u v = true -> CellsAt w1 Fc pc cap hs E -> Keeps Fc w w1 ->
      PairMid w1 p pc gt vT Fc cap hs E kid next back ∧ ∀ w2, TieAt w2 gt cap (upd kid u (some v)) (upd next v (kid u)) (backOf kid back u v) -> Keeps [gt] w1 w2 ->
        (∀ l', l'.Nodup -> (∀ y, y ∈ l' ↔ y ∈ l ∧ y ≠ v) -> PairL w2 p pc gt vT Fc cap hs E h top Z l') ∧ Keeps (gt :: Fc) w w2 := by
    intro u v w1 hu hv huc hvc hzu huv hah hc1 hk1
    have m1 := m.cells hc1 hk1
    refine ⟨m1,fun w2 t2 k2 => ⟨fun l' hn hl' => ⟨_, _, _, _, _, m1.ties t2 k2, z.link hu hv hah hl' hn,fun z' hz' => ?_⟩,(hk1.mono (T := gt :: Fc) fun b hb => .inl (by simp [hb])).trans k2 (by simp)⟩⟩
    have : z' ≠ u := by rintro rfl; exact hzu hz'
    rw [upd_other K _ this]; exact hZ z' hz'
  have HM := Lib.hid hmain
  have HTOT := Lib.hid (ahead_tot hea.some heb.some hne)
  have HAL := Lib.hid hal
  clear hmain hal z m hZ hea heb
  cases hbb : ahead E b a with
  | true =>
    have hal := HAL.out
    rw [hbb] at hal
    obtain ⟨u,rfl⟩ : ∃ u, u = b := ⟨b,rfl⟩
    obtain ⟨v,rfl⟩ : ∃ v, v = a := ⟨a,rfl⟩
    have HB := Lib.hid hbb
    clear hbb
    go_enter Tryz.func378, Tryz.ntmps378
    go_upto_region 7 with (go_at_call 339; refine hal.mono ?_; rintro e w1 ⟨rfl, hc1, hk1⟩)
    obtain ⟨m1, hfin⟩ := HM.out u v w1 hb ha hbc hac hzb (fun e => hne e.symm) HB.out hc1 hk1
    clear hal
    have d1 := m1.c1
    have D1 := Lib.hid d1
    have t1 := m1.ti
    have hpg : p ≠ gt := m1.ne.1.1
    have e0 := t1.a (x := u) (by assumption)
    have e1 := t1.b (x := v) (by assumption)
    have e2 := t1.c (x := v) (by assumption)
    have f1 := t1.frozen (v * 3 + 1)
    have f2 := t1.frozen (v * 3 + 2)
    have hu3 : (u : Int) < (cap : Int) := by omega
    have hv3 : (v : Int) < (cap : Int) := by omega
    have hvn : v < cap := by assumption
    have hun : u < cap := by assumption
    have hup : u < cap := by assumption
    have hb1 := hc1.lt
    have hpl : p < w1.heap.size := m1.lt.1
    cases hk : kid u with
    | none =>
      rw [hk] at e0
      simp only [oZ_none] at e0
      have t2 := ((t1.setB hvn (o := none) (by simp)).setC hvn (o := some u) (by rintro y e; cases e; exact hun)).keep (S := []) (w' := (((w1.setCell ⟨gt, v * 3 + 1, none⟩ (.int .i64 (-1))).setCell ⟨gt, v * 3 + 2, none⟩ (.int .i64 (u : Int))).drew)) ⟨rfl,rfl,rfl, Nat.le_refl _,fun _ _ _ => rfl⟩ (by simp)
      have k2 : Keeps [gt] w1 (((w1.setCell ⟨gt, v * 3 + 1, none⟩ (.int .i64 (-1))).setCell ⟨gt, v * 3 + 2, none⟩ (.int .i64 (u : Int))).drew) := (((Keeps.refl _ _).setCell (.inl (by simp)) _).setCell (.inl (by simp)) _).drew
      go_upto_region 8 with fail
      go_region
      all_goals
        generalize (((w1.setCell ⟨gt, v * 3 + 1, none⟩ (.int .i64 (-1))).setCell ⟨gt, v * 3 + 2, none⟩ (.int .i64 (u : Int))).drew) = w2 at *
        have d2 : w2.cell? ⟨p,1,none⟩ = some (.slice (some ⟨gt,0,none⟩) cap cap) := (World.cell?_of_block (a := ⟨p,1,none⟩) (k2.block p hpl (by simpa using hpg))).trans d1
        have g0 := t2.a (x := u) hun
        have h0 := t2.frozen (u * 3)
        have t3 := t2.setA hun (o := some v) (by rintro y e; cases e; exact hvn)
        have k3 : Keeps [gt] w1 (w2.setCell ⟨gt, u * 3, none⟩ (.int .i64 (v : Int))) := k2.setCell (.inl (by simp)) _
        rw [<- backOf_none hk] at t3
        have hfi := hfin _ (by rw [hk]; exact t3) k3
        have HFI := Lib.hid hfi
        clear hfin hfi t3 k3 d1 e0 e1 e2 f1 f2 t1 m1 k2 t2 hk
        go_wp2_with fail
        go_ret
        exact ⟨u, v,rfl,.inr ⟨rfl,rfl⟩, HFI.out.1, HFI.out.2⟩
    | some z =>
      have hzn := t1.wf u z (.inl hk)
      have hz3 : (z : Int) < (cap : Int) := by omega
      have hzb : ((z : Int) != -1) = true := by rw [bne_iff_ne]; omega
      rw [hk] at e0
      simp only [oZ_some] at e0
      have t2 := ((t1.setB hvn (o := some z) (by rintro y e; cases e; exact hzn)).setC hvn (o := some u) (by rintro y e; cases e; exact hun)).keep (S := []) (w' := (((w1.setCell ⟨gt, v * 3 + 1, none⟩ (.int .i64 (z : Int))).setCell ⟨gt, v * 3 + 2, none⟩ (.int .i64 (u : Int))).drew)) ⟨rfl,rfl,rfl, Nat.le_refl _,fun _ _ _ => rfl⟩ (by simp)
      have k2 : Keeps [gt] w1 (((w1.setCell ⟨gt, v * 3 + 1, none⟩ (.int .i64 (z : Int))).setCell ⟨gt, v * 3 + 2, none⟩ (.int .i64 (u : Int))).drew) := (((Keeps.refl _ _).setCell (.inl (by simp)) _).setCell (.inl (by simp)) _).drew
      go_upto_region 8 with fail
      go_region
      all_goals
        generalize (((w1.setCell ⟨gt, v * 3 + 1, none⟩ (.int .i64 (z : Int))).setCell ⟨gt, v * 3 + 2, none⟩ (.int .i64 (u : Int))).drew) = w2 at *
        have d2 : w2.cell? ⟨p,1,none⟩ = some (.slice (some ⟨gt,0,none⟩) cap cap) := (World.cell?_of_block (a := ⟨p,1,none⟩) (k2.block p hpl (by simpa using hpg))).trans d1
        have g0 := t2.c (x := z) hzn
        have h0 := t2.frozen (z * 3 + 2)
        have t3 := t2.setC hzn (o := some v) (by rintro y e; cases e; exact hvn)
        rw [oZ_some] at t3
        have k3 : Keeps [gt] w1 (w2.setCell ⟨gt, z * 3 + 2, none⟩ (.int .i64 (v : Int))) := k2.setCell (.inl (by simp)) _
        clear d1 e0 e1 e2 f1 f2 t1 m1 t2 k2
        go_upto_region 11 with fail
        clear g0 h0 d2
        generalize w2.setCell ⟨gt, z * 3 + 2, none⟩ (.int .i64 (v : Int)) = w3 at *
        have d2 : w3.cell? ⟨p,1,none⟩ = some (.slice (some ⟨gt,0,none⟩) cap cap) := (World.cell?_of_block (a := ⟨p,1,none⟩) (k3.block p hpl (by simpa using hpg))).trans D1.out
        have g0 := t3.a (x := u) hun
        have h0 := t3.frozen (u * 3)
        have t4 := t3.setA hun (o := some v) (by rintro y e; cases e; exact hvn)
        have k4 : Keeps [gt] w1 (w3.setCell ⟨gt, u * 3, none⟩ (.int .i64 (v : Int))) := k3.setCell (.inl (by simp)) _
        rw [<- backOf_some hk] at t4
        have hfi := hfin _ (by rw [hk]; exact t4) k4
        have HFI := Lib.hid hfi
        clear hfin hfi t4 k4 t3 k3 hk
        go_wp2_with fail
        go_ret
        exact ⟨u, v,rfl,.inr ⟨rfl,rfl⟩, HFI.out.1, HFI.out.2⟩
  | false =>
    have hal := HAL.out
    rw [hbb] at hal
    have hab : ahead E a b = true := by
      rcases HTOT.out with c | c
      · exact c
      · rw [hbb] at c; cases c
    obtain ⟨u,rfl⟩ : ∃ u, u = a := ⟨a,rfl⟩
    obtain ⟨v,rfl⟩ : ∃ v, v = b := ⟨b,rfl⟩
    have HB := Lib.hid hab
    clear hbb hab
    go_enter Tryz.func378, Tryz.ntmps378
    go_upto_region 7 with (go_at_call 339; refine hal.mono ?_; rintro e w1 ⟨rfl, hc1, hk1⟩)
    obtain ⟨m1, hfin⟩ := HM.out u v w1 ha hb hac hbc hza hne HB.out hc1 hk1
    clear hal
    have d1 := m1.c1
    have D1 := Lib.hid d1
    have t1 := m1.ti
    have hpg : p ≠ gt := m1.ne.1.1
    have e0 := t1.a (x := u) (by assumption)
    have e1 := t1.b (x := v) (by assumption)
    have e2 := t1.c (x := v) (by assumption)
    have f1 := t1.frozen (v * 3 + 1)
    have f2 := t1.frozen (v * 3 + 2)
    have hu3 : (u : Int) < (cap : Int) := by omega
    have hv3 : (v : Int) < (cap : Int) := by omega
    have hvn : v < cap := by assumption
    have hun : u < cap := by assumption
    have hup : u < cap := by assumption
    have hb1 := hc1.lt
    have hpl : p < w1.heap.size := m1.lt.1
    cases hk : kid u with
    | none =>
      rw [hk] at e0
      simp only [oZ_none] at e0
      have t2 := ((t1.setB hvn (o := none) (by simp)).setC hvn (o := some u) (by rintro y e; cases e; exact hun)).keep (S := []) (w' := (((w1.setCell ⟨gt, v * 3 + 1, none⟩ (.int .i64 (-1))).setCell ⟨gt, v * 3 + 2, none⟩ (.int .i64 (u : Int))).drew)) ⟨rfl,rfl,rfl, Nat.le_refl _,fun _ _ _ => rfl⟩ (by simp)
      have k2 : Keeps [gt] w1 (((w1.setCell ⟨gt, v * 3 + 1, none⟩ (.int .i64 (-1))).setCell ⟨gt, v * 3 + 2, none⟩ (.int .i64 (u : Int))).drew) := (((Keeps.refl _ _).setCell (.inl (by simp)) _).setCell (.inl (by simp)) _).drew
      go_upto_region 8 with fail
      go_region
      all_goals
        generalize (((w1.setCell ⟨gt, v * 3 + 1, none⟩ (.int .i64 (-1))).setCell ⟨gt, v * 3 + 2, none⟩ (.int .i64 (u : Int))).drew) = w2 at *
        have d2 : w2.cell? ⟨p,1,none⟩ = some (.slice (some ⟨gt,0,none⟩) cap cap) := (World.cell?_of_block (a := ⟨p,1,none⟩) (k2.block p hpl (by simpa using hpg))).trans d1
        have g0 := t2.a (x := u) hun
        have h0 := t2.frozen (u * 3)
        have t3 := t2.setA hun (o := some v) (by rintro y e; cases e; exact hvn)
        have k3 : Keeps [gt] w1 (w2.setCell ⟨gt, u * 3, none⟩ (.int .i64 (v : Int))) := k2.setCell (.inl (by simp)) _
        rw [<- backOf_none hk] at t3
        have hfi := hfin _ (by rw [hk]; exact t3) k3
        have HFI := Lib.hid hfi
        clear hfin hfi t3 k3 d1 e0 e1 e2 f1 f2 t1 m1 k2 t2 hk
        go_wp2_with fail
        go_ret
        exact ⟨u, v,rfl,.inl ⟨rfl,rfl⟩, HFI.out.1, HFI.out.2⟩
    | some z =>
      have hzn := t1.wf u z (.inl hk)
      have hz3 : (z : Int) < (cap : Int) := by omega
      have hzb : ((z : Int) != -1) = true := by rw [bne_iff_ne]; omega
      rw [hk] at e0
      simp only [oZ_some] at e0
      have t2 := ((t1.setB hvn (o := some z) (by rintro y e; cases e; exact hzn)).setC hvn (o := some u) (by rintro y e; cases e; exact hun)).keep (S := []) (w' := (((w1.setCell ⟨gt, v * 3 + 1, none⟩ (.int .i64 (z : Int))).setCell ⟨gt, v * 3 + 2, none⟩ (.int .i64 (u : Int))).drew)) ⟨rfl,rfl,rfl, Nat.le_refl _,fun _ _ _ => rfl⟩ (by simp)
      have k2 : Keeps [gt] w1 (((w1.setCell ⟨gt, v * 3 + 1, none⟩ (.int .i64 (z : Int))).setCell ⟨gt, v * 3 + 2, none⟩ (.int .i64 (u : Int))).drew) := (((Keeps.refl _ _).setCell (.inl (by simp)) _).setCell (.inl (by simp)) _).drew
      go_upto_region 8 with fail
      go_region
      all_goals
        generalize (((w1.setCell ⟨gt, v * 3 + 1, none⟩ (.int .i64 (z : Int))).setCell ⟨gt, v * 3 + 2, none⟩ (.int .i64 (u : Int))).drew) = w2 at *
        have d2 : w2.cell? ⟨p,1,none⟩ = some (.slice (some ⟨gt,0,none⟩) cap cap) := (World.cell?_of_block (a := ⟨p,1,none⟩) (k2.block p hpl (by simpa using hpg))).trans d1
        have g0 := t2.c (x := z) hzn
        have h0 := t2.frozen (z * 3 + 2)
        have t3 := t2.setC hzn (o := some v) (by rintro y e; cases e; exact hvn)
        rw [oZ_some] at t3
        have k3 : Keeps [gt] w1 (w2.setCell ⟨gt, z * 3 + 2, none⟩ (.int .i64 (v : Int))) := k2.setCell (.inl (by simp)) _
        clear d1 e0 e1 e2 f1 f2 t1 m1 t2 k2
        go_upto_region 11 with fail
        clear g0 h0 d2
        generalize w2.setCell ⟨gt, z * 3 + 2, none⟩ (.int .i64 (v : Int)) = w3 at *
        have d2 : w3.cell? ⟨p,1,none⟩ = some (.slice (some ⟨gt,0,none⟩) cap cap) := (World.cell?_of_block (a := ⟨p,1,none⟩) (k3.block p hpl (by simpa using hpg))).trans D1.out
        have g0 := t3.a (x := u) hun
        have h0 := t3.frozen (u * 3)
        have t4 := t3.setA hun (o := some v) (by rintro y e; cases e; exact hvn)
        have k4 : Keeps [gt] w1 (w3.setCell ⟨gt, u * 3, none⟩ (.int .i64 (v : Int))) := k3.setCell (.inl (by simp)) _
        rw [<- backOf_some hk] at t4
        have hfi := hfin _ (by rw [hk]; exact t4) k4
        have HFI := Lib.hid hfi
        clear hfin hfi t4 k4 t3 k3 hk
        go_wp2_with fail
        go_ret
        exact ⟨u, v,rfl,.inl ⟨rfl,rfl⟩, HFI.out.1, HFI.out.2⟩
end
def dig (i : Nat) : ByteArray := ⟨#[(48 + i).toUInt8]⟩
theorem small_calls (w : World) (i : Nat) (hi : i < 3) : Calls Tryz.prog 147 #[.int .i64 (i : Int)] w fun e w' => e = .returned (.string (dig i)) ∧ w = w' := by
  have h : i = 0 ∨ i = 1 ∨ i = 2 := by omega
  rcases h with rfl | rfl | rfl
  all_goals
    go_enter Tryz.func147, Tryz.ntmps147
    go_wp2_with fail
    go_ret
    exact ⟨rfl,rfl⟩
theorem formatInt0_calls (w : World) (i : Nat) (hi : i < 3) : Calls Tryz.prog 120 #[.int .i64 (i : Int),.int .i64 10] w fun e w' => e = .returned (.string (dig i)) ∧ w = w' := by
  have hs := small_calls w i hi
  have h1 : (i : Int) < 100 := by omega
  go_enter Tryz.func120, Tryz.ntmps120
  go_wp2_with (go_at_call 147; refine hs.mono ?_; rintro e w' ⟨rfl,rfl⟩)
  go_ret
  exact ⟨rfl,rfl⟩
theorem formatInt_calls (w : World) (i : Nat) (hi : i < 3) : Calls Tryz.prog 96 #[.int .i64 (i : Int),.int .i64 10] w fun e w' => e = .returned (.string (dig i)) ∧ w = w' := by
  have hs := formatInt0_calls w i hi
  go_enter Tryz.func96, Tryz.ntmps96
  go_wp2_with (go_at_call 120; refine hs.mono ?_; rintro e w' ⟨rfl,rfl⟩)
  go_ret
  exact ⟨rfl,rfl⟩
theorem digits_calls (w : World) (i : Nat) (hi : i < 3) : Calls Tryz.prog 74 #[.int .i64 (i : Int)] w fun e w' => e = .returned (.string (dig i)) ∧ w = w' := by
  have hs := formatInt_calls w i hi
  go_enter Tryz.func74, Tryz.ntmps74
  go_wp2_with (go_at_call 96; refine hs.mono ?_; rintro e w' ⟨rfl,rfl⟩)
  go_ret
  exact ⟨rfl,rfl⟩
theorem bytesRow_one (b : UInt8) (n : Nat) : bytesRow ⟨#[b]⟩ n = #[Value.int .u8 (b.toNat : Int)] ++ Array.replicate (n - 1) (Value.int .u8 0) := by
  have h : ByteArray.size ⟨#[b]⟩ = 1 := rfl
  unfold bytesRow
  rw [h]
  simp
theorem bytes_one (w : World) (b : UInt8) : ∃ cap w2,(convert 9 120 (.string ⟨#[b]⟩)).run Tryz.prog w = .ok (.slice (some ⟨w.heap.size,0,none⟩) 1 cap) w2 ∧ Keeps [] w w2 ∧ w2.cell? ⟨w.heap.size,0,none⟩ = some (.int .u8 (b.toNat : Int)) := by
  refine ⟨_, _, run_bytes_of_string w 9 120 5 ⟨#[b]⟩ Tryz.underlying9 Tryz.underlying120 Tryz.underlying5,((Keeps.refl _ _).drew).alloc _,?_⟩
  have h := blk_alloc_new (w := w.drew) (.cells (bytesRow ⟨#[b]⟩ (grownCap w (ByteArray.size ⟨#[b]⟩) 0 5)) 5 ((bytesRow ⟨#[b]⟩ (grownCap w (ByteArray.size ⟨#[b]⟩) 0 5)).size,(bytesRow ⟨#[b]⟩ (grownCap w (ByteArray.size ⟨#[b]⟩) 0 5)).size + 1))
  refine (cell_of_blk (w := w.drew.alloc _) (b := w.heap.size) h).trans ?_
  rw [bytesRow_one, Array.getElem?_append_left (show 0 < 1 from by decide)]
  rfl
theorem parseUint_0 (w : World) : Calls Tryz.prog 239 #[.string ⟨#[48]⟩,.int .i64 10,.int .i64 64] w fun e w' => e = .returned (.tuple #[.int .u64 0,.nilIface]) ∧ Keeps [] w w' := by
  obtain ⟨cap, w2, hr, hk, hc⟩ := bytes_one w 48
  have hww : IntKind.u64.wrap (IntKind.u64.wrap 18446744073709551616 - 1) = 18446744073709551615 := by decide
  have hc2 : w2.cell? ⟨w.heap.size,0,none⟩ = some (.int .u8 48) := hc
  have HK := Lib.hid hk
  clear hk hc
  go_enter Tryz.func239, Tryz.ntmps239
  go_wp2_with fail
  go_loopg [12,13,101] 2 (fun k z a t wr => (k = 2 ∧ z = .bool false ∧ a = .int .u64 0 ∧ t = .int .i64 0 ∧ wr = w2) ∨ (k = 1 ∧ z = .bool false ∧ a = .int .u64 0 ∧ t = .int .i64 1 ∧ wr = w2))
  case atStart => exact .inl ⟨rfl,rfl,rfl,rfl,rfl⟩
  case round =>
    rcases hrel with ⟨hk,rfl,rfl,rfl,rfl⟩ | ⟨hk,rfl,rfl,rfl,rfl⟩
    · go_wp2_with fail
      go_roundg 1
      case measure => omega
      case rel => exact .inr ⟨rfl,rfl,by first | rfl | go_num,by first | rfl | go_num,rfl⟩
    · go_wp2_with fail
      go_ret2
      exact ⟨rfl, HK.out⟩
theorem parseUint_1 (w : World) : Calls Tryz.prog 239 #[.string ⟨#[49]⟩,.int .i64 10,.int .i64 64] w fun e w' => e = .returned (.tuple #[.int .u64 1,.nilIface]) ∧ Keeps [] w w' := by
  obtain ⟨cap, w2, hr, hk, hc⟩ := bytes_one w 49
  have hww : IntKind.u64.wrap (IntKind.u64.wrap 18446744073709551616 - 1) = 18446744073709551615 := by decide
  have hc2 : w2.cell? ⟨w.heap.size,0,none⟩ = some (.int .u8 49) := hc
  have HK := Lib.hid hk
  clear hk hc
  go_enter Tryz.func239, Tryz.ntmps239
  go_wp2_with fail
  go_loopg [12,13,101] 2 (fun k z a t wr => (k = 2 ∧ z = .bool false ∧ a = .int .u64 0 ∧ t = .int .i64 0 ∧ wr = w2) ∨ (k = 1 ∧ z = .bool false ∧ a = .int .u64 1 ∧ t = .int .i64 1 ∧ wr = w2))
  case atStart => exact .inl ⟨rfl,rfl,rfl,rfl,rfl⟩
  case round =>
    rcases hrel with ⟨hk,rfl,rfl,rfl,rfl⟩ | ⟨hk,rfl,rfl,rfl,rfl⟩
    · go_wp2_with fail
      go_roundg 1
      case measure => omega
      case rel => exact .inr ⟨rfl,rfl,by first | rfl | go_num,by first | rfl | go_num,rfl⟩
    · go_wp2_with fail
      go_ret2
      exact ⟨rfl, HK.out⟩
theorem parseUint_2 (w : World) : Calls Tryz.prog 239 #[.string ⟨#[50]⟩,.int .i64 10,.int .i64 64] w fun e w' => e = .returned (.tuple #[.int .u64 2,.nilIface]) ∧ Keeps [] w w' := by
  obtain ⟨cap, w2, hr, hk, hc⟩ := bytes_one w 50
  have hww : IntKind.u64.wrap (IntKind.u64.wrap 18446744073709551616 - 1) = 18446744073709551615 := by decide
  have hc2 : w2.cell? ⟨w.heap.size,0,none⟩ = some (.int .u8 50) := hc
  have HK := Lib.hid hk
  clear hk hc
  go_enter Tryz.func239, Tryz.ntmps239
  go_wp2_with fail
  go_loopg [12,13,101] 2 (fun k z a t wr => (k = 2 ∧ z = .bool false ∧ a = .int .u64 0 ∧ t = .int .i64 0 ∧ wr = w2) ∨ (k = 1 ∧ z = .bool false ∧ a = .int .u64 2 ∧ t = .int .i64 1 ∧ wr = w2))
  case atStart => exact .inl ⟨rfl,rfl,rfl,rfl,rfl⟩
  case round =>
    rcases hrel with ⟨hk,rfl,rfl,rfl,rfl⟩ | ⟨hk,rfl,rfl,rfl,rfl⟩
    · go_wp2_with fail
      go_roundg 1
      case measure => omega
      case rel => exact .inr ⟨rfl,rfl,by first | rfl | go_num,by first | rfl | go_num,rfl⟩
    · go_wp2_with fail
      go_ret2
      exact ⟨rfl, HK.out⟩
theorem parseInt0_0 (w : World) : Calls Tryz.prog 210 #[.string ⟨#[48]⟩,.int .i64 10,.int .i64 64] w fun e w' => e = .returned (.tuple #[.int .i64 0,.nilIface]) ∧ Keeps [] w w' := by
  have hp := parseUint_0 w
  go_enter Tryz.func210, Tryz.ntmps210
  go_wp2_with (go_at_call 239; refine hp.mono ?_; rintro e w2 ⟨rfl, hk⟩; have HK := Lib.hid hk; clear hk)
  go_ret2
  exact ⟨rfl, HK.out⟩
theorem parseInt_0 (w : World) : Calls Tryz.prog 183 #[.string ⟨#[48]⟩,.int .i64 10,.int .i64 64] w fun e w' => e = .returned (.tuple #[.int .i64 0,.nilIface]) ∧ Keeps [] w w' := by
  have hp := parseInt0_0 w
  go_enter Tryz.func183, Tryz.ntmps183
  go_wp2_with (go_at_call 210; refine hp.mono ?_; rintro e w2 ⟨rfl, hk⟩; have HK := Lib.hid hk; clear hk)
  go_ret2
  exact ⟨rfl, HK.out⟩
theorem number_0 (w : World) : Calls Tryz.prog 155 #[.string ⟨#[48]⟩] w fun e w' => e = .returned (.tuple #[.int .i64 0,.bool true]) ∧ Keeps [] w w' := by
  have hp := parseInt_0 w
  have hd : ∀ u, Calls Tryz.prog 74 #[.int .i64 0] u fun e w' => e = .returned (.string ⟨#[48]⟩) ∧ u = w' := fun u => digits_calls u 0 (by omega)
  go_enter Tryz.func155, Tryz.ntmps155
  go_wp2_with (first
    | (go_at_call 183; refine hp.mono ?_; rintro e w2 ⟨rfl, hk⟩; have HK := Lib.hid hk; clear hk)
    | (go_at_call 74; refine (hd _).mono ?_; rintro e w3 ⟨rfl,rfl⟩))
  go_ret2
  exact ⟨rfl, HK.out⟩
theorem parseInt0_1 (w : World) : Calls Tryz.prog 210 #[.string ⟨#[49]⟩,.int .i64 10,.int .i64 64] w fun e w' => e = .returned (.tuple #[.int .i64 1,.nilIface]) ∧ Keeps [] w w' := by
  have hp := parseUint_1 w
  go_enter Tryz.func210, Tryz.ntmps210
  go_wp2_with (go_at_call 239; refine hp.mono ?_; rintro e w2 ⟨rfl, hk⟩; have HK := Lib.hid hk; clear hk)
  go_ret2
  exact ⟨rfl, HK.out⟩
theorem parseInt_1 (w : World) : Calls Tryz.prog 183 #[.string ⟨#[49]⟩,.int .i64 10,.int .i64 64] w fun e w' => e = .returned (.tuple #[.int .i64 1,.nilIface]) ∧ Keeps [] w w' := by
  have hp := parseInt0_1 w
  go_enter Tryz.func183, Tryz.ntmps183
  go_wp2_with (go_at_call 210; refine hp.mono ?_; rintro e w2 ⟨rfl, hk⟩; have HK := Lib.hid hk; clear hk)
  go_ret2
  exact ⟨rfl, HK.out⟩
theorem number_1 (w : World) : Calls Tryz.prog 155 #[.string ⟨#[49]⟩] w fun e w' => e = .returned (.tuple #[.int .i64 1,.bool true]) ∧ Keeps [] w w' := by
  have hp := parseInt_1 w
  have hd : ∀ u, Calls Tryz.prog 74 #[.int .i64 1] u fun e w' => e = .returned (.string ⟨#[49]⟩) ∧ u = w' := fun u => digits_calls u 1 (by omega)
  go_enter Tryz.func155, Tryz.ntmps155
  go_wp2_with (first
    | (go_at_call 183; refine hp.mono ?_; rintro e w2 ⟨rfl, hk⟩; have HK := Lib.hid hk; clear hk)
    | (go_at_call 74; refine (hd _).mono ?_; rintro e w3 ⟨rfl,rfl⟩))
  go_ret2
  exact ⟨rfl, HK.out⟩
theorem parseInt0_2 (w : World) : Calls Tryz.prog 210 #[.string ⟨#[50]⟩,.int .i64 10,.int .i64 64] w fun e w' => e = .returned (.tuple #[.int .i64 2,.nilIface]) ∧ Keeps [] w w' := by
  have hp := parseUint_2 w
  go_enter Tryz.func210, Tryz.ntmps210
  go_wp2_with (go_at_call 239; refine hp.mono ?_; rintro e w2 ⟨rfl, hk⟩; have HK := Lib.hid hk; clear hk)
  go_ret2
  exact ⟨rfl, HK.out⟩
theorem parseInt_2 (w : World) : Calls Tryz.prog 183 #[.string ⟨#[50]⟩,.int .i64 10,.int .i64 64] w fun e w' => e = .returned (.tuple #[.int .i64 2,.nilIface]) ∧ Keeps [] w w' := by
  have hp := parseInt0_2 w
  go_enter Tryz.func183, Tryz.ntmps183
  go_wp2_with (go_at_call 210; refine hp.mono ?_; rintro e w2 ⟨rfl, hk⟩; have HK := Lib.hid hk; clear hk)
  go_ret2
  exact ⟨rfl, HK.out⟩
theorem number_2 (w : World) : Calls Tryz.prog 155 #[.string ⟨#[50]⟩] w fun e w' => e = .returned (.tuple #[.int .i64 2,.bool true]) ∧ Keeps [] w w' := by
  have hp := parseInt_2 w
  have hd : ∀ u, Calls Tryz.prog 74 #[.int .i64 2] u fun e w' => e = .returned (.string ⟨#[50]⟩) ∧ u = w' := fun u => digits_calls u 2 (by omega)
  go_enter Tryz.func155, Tryz.ntmps155
  go_wp2_with (first
    | (go_at_call 183; refine hp.mono ?_; rintro e w2 ⟨rfl, hk⟩; have HK := Lib.hid hk; clear hk)
    | (go_at_call 74; refine (hd _).mono ?_; rintro e w3 ⟨rfl,rfl⟩))
  go_ret2
  exact ⟨rfl, HK.out⟩
theorem number_dig (w : World) (i : Nat) (hi : i < 3) : Calls Tryz.prog 155 #[.string (dig i)] w fun e w' => e = .returned (.tuple #[.int .i64 (i : Int),.bool true]) ∧ Keeps [] w w' := by
  have h : i = 0 ∨ i = 1 ∨ i = 2 := by omega
  rcases h with rfl | rfl | rfl
  · exact number_0 w
  · exact number_1 w
  · exact number_2 w
end Go.Proofs.YtkdbjelhkfdfjaaGreatDoor


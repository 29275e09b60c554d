/-
  Contracts that the law rests on. Conditions: none.
-/
import Derived.Test.YtkdbjelhkfdfjaaGreatDoorLv08
import Derived.Test.YtkdbjelhkfdfjaaGreatDoorLv10
import Derived.Test.YtkdbjelhkfdfjaaGreatDoorLv12
import Derived.Test.YtkdbjelhkfdfjaaGreatDoorLv13
set_option linter.unusedVariables false
set_option maxRecDepth 100000
set_option maxHeartbeats 32000000
namespace Go.Proofs.YtkdbjelhkfdfjaaGreatDoor
open Go.RowKit
structure OrdAt (w : World) (pn pc : Nat) (Fc : List Nat) (cap hs : Nat) (E : Ent) : Prop where
  c0 : w.cell? ⟨pn,0,none⟩ = some (.pointer (some ⟨pc,0,none⟩))
  lt : pn < w.heap.size
  nf : pn ∉ Fc
  ce : CellsAt w Fc pc cap hs E
section
variable {w w' : World} {pn pc cap hs : Nat} {Fc S : List Nat} {E : Ent}
theorem OrdAt.keep (h : OrdAt w pn pc Fc cap hs E) (k : Keeps S w w') (hS : ∀ b ∈ pn :: Fc, b ∉ S) : OrdAt w' pn pc Fc cap hs E :=
  ⟨(World.cell?_of_block (a := ⟨pn,0,none⟩) (k.block pn h.lt (hS pn (by simp)))).trans h.c0, Nat.lt_of_lt_of_le h.lt k.size, h.nf, h.ce.keep k fun b hb => hS b (by simp [hb])⟩
theorem OrdAt.cells (h : OrdAt w pn pc Fc cap hs E) (c : CellsAt w' Fc pc cap hs E) (k : Keeps Fc w w') : OrdAt w' pn pc Fc cap hs E :=
  ⟨(World.cell?_of_block (a := ⟨pn,0,none⟩) (k.block pn h.lt h.nf)).trans h.c0, Nat.lt_of_lt_of_le h.lt k.size, h.nf, c⟩
end
def RowHole (w : World) (p d : Nat) (ao : Option Addr) (cap mb n : Nat) (v : Nat -> Nat) (i : Nat) (o : Option Int) : Prop :=
  ∃ (Lm : List Nat) (c : Nat), RowRaw w p d ao cap mb Lm c (holeF v n i o) ∧ Lm.length = n ∧ (∀ j, j < n -> j ≠ i -> Rg.fn Lm j = v j) ∧ c + 1 = n + (if o.isSome then 1 else 0)
def RowFull (w : World) (p d : Nat) (ao : Option Addr) (cap mb n : Nat) (v : Nat -> Nat) : Prop :=
  ∃ Lm : List Nat, RowRaw w p d ao cap mb Lm n (posF v n) ∧ Lm.length = n ∧ ∀ j, j < n -> Rg.fn Lm j = v j
theorem fn_set_same {L : List Nat} {i x : Nat} (h : i < L.length) : Rg.fn (L.set i x) i = x := by simp [Rg.fn, List.getD, h]
theorem fn_set_other {L : List Nat} {i j x : Nat} (h : j ≠ i) : Rg.fn (L.set i x) j = Rg.fn L j := by
  simp [Rg.fn, List.getD, show i ≠ j from fun e => h e.symm]
section
variable {w w' : World} {p d cap mb n i q : Nat} {ao : Option Addr} {v : Nat -> Nat} {o : Option Int} {S : List Nat}
theorem RowHole.keep (h : RowHole w p d ao cap mb n v i o) (k : Keeps S w w') (hS : ∀ b ∈ rfp p mb ao, b ∉ S) : RowHole w' p d ao cap mb n v i o := by
  obtain ⟨Lm, c, r, x⟩ := h
  exact ⟨Lm, c, r.keep k hS, x⟩
theorem RowFull.keep (h : RowFull w p d ao cap mb n v) (k : Keeps S w w') (hS : ∀ b ∈ rfp p mb ao, b ∉ S) : RowFull w' p d ao cap mb n v := by
  obtain ⟨Lm, r, x⟩ := h
  exact ⟨Lm, r.keep k hS, x⟩
theorem RowHole.lt (h : RowHole w p d ao cap mb n v i o) : ∀ b ∈ rfp p mb ao, b < w.heap.size := by obtain ⟨Lm, c, r, x⟩ := h; exact r.lt
theorem RowFull.lt (h : RowFull w p d ao cap mb n v) : ∀ b ∈ rfp p mb ao, b < w.heap.size := by obtain ⟨Lm, r, x⟩ := h; exact r.lt
theorem RowFull.hole (h : RowFull w p d ao cap mb n v) (hv : Inj v n) (hi : i < n) : RowHole w p d ao cap mb n v i (some (i : Int)) := by
  obtain ⟨Lm, r, h1, h2⟩ := h
  refine ⟨Lm, n,?_, h1,fun j hj _ => h2 j hj,by simp⟩
  rw [hole_full hv hi]; exact r
theorem rh_close (h : RowHole w p d ao cap mb n v i o) (hv : Inj v n) (hi : i < n) (hn : n <= 65536) (hx : v i <= 65536) :
    Calls Tryz.prog 332 #[.pointer (some ⟨p,0,none⟩),.int .i64 i,.int .i64 (v i : Nat)] w fun e w' => e = .returned (.tuple #[]) ∧ RowFull w' p d ao cap mb n v ∧ Keeps (rfp p mb ao) w w' := by
  obtain ⟨Lm, c, r, h1, h2, h3⟩ := h
  refine (rw_set w p d ao cap mb Lm c _ r i (v i) (by omega) (by omega) hx (by unfold maxLen; split at h3 <;> omega)).mono ?_
  rintro e w' ⟨rfl, r', k⟩
  refine ⟨rfl,⟨Lm.set i (v i),?_,by rw [List.length_set]; exact h1,fun j hj => ?_⟩, k⟩
  · rw [hole_close hv hi] at r'
    have : (if (holeF v n i o (v i : Int)).isSome then c else c + 1) = n := by
      simp only [holeF, if_true]
      split <;> simp_all <;> omega
    rw [this] at r'
    exact r'
  · by_cases e : j = i
    · subst e; exact fn_set_same (by omega)
    · rw [fn_set_other e]; exact h2 j hj e
theorem rh_move (h : RowHole w p d ao cap mb n v i o) (hv : Inj v n) (hi : i < n) (hq : q < n) (hne : i ≠ q) (hn : n <= 65536) (hx : v q <= 65536) :
    Calls Tryz.prog 332 #[.pointer (some ⟨p,0,none⟩),.int .i64 i,.int .i64 (v q : Nat)] w fun e w' => e = .returned (.tuple #[]) ∧ RowHole w' p d ao cap mb n (sw v i q) q o ∧ Keeps (rfp p mb ao) w w' := by
  obtain ⟨Lm, c, r, h1, h2, h3⟩ := h
  refine (rw_set w p d ao cap mb Lm c _ r i (v q) (by omega) (by omega) hx (by unfold maxLen; split at h3 <;> omega)).mono ?_
  rintro e w' ⟨rfl, r', k⟩
  refine ⟨rfl,⟨Lm.set i (v q), c,?_,by rw [List.length_set]; exact h1,fun j hj hjq => ?_, h3⟩, k⟩
  · rw [hole_move hv hi hq hne] at r'
    have : (if (holeF v n i o (v q : Int)).isSome then c else c + 1) = c := by
      have hvq : ¬ ((v q : Nat) : Int) = (v i : Int) := fun e => hne (hv i q hi hq (by omega))
      simp only [holeF, if_neg hvq, posF_at hv hq]
      simp
    rw [this] at r'
    exact r'
  · by_cases e : j = i
    · subst e; rw [sw_left]; exact fn_set_same (by omega)
    · rw [fn_set_other e, sw_other _ _ _ _ e hjq]; exact h2 j hj e
theorem RowHole.at (h : RowHole w p d ao cap mb n v i o) (hq : q < n) (hne : q ≠ i) : ∃ g, ao = some ⟨g,0,none⟩ ∧ g ∈ rfp p mb ao ∧ w.cell? ⟨p,1,none⟩ = some (.slice (some ⟨g,0,none⟩) n cap) ∧ w.cell? ⟨g,q,none⟩ = some (.int .i64 (v q : Nat)) := by
  obtain ⟨Lm, c, r, h1, h2, h3⟩ := h
  obtain ⟨g, e, n1, n2, hlt, hc, hf⟩ := r.at (i := q) (by omega)
  have c1 := r.c1
  subst e
  rw [h1] at c1
  rw [h2 q hq hne] at hc
  exact ⟨g,rfl,by simp [rfp], c1, hc⟩
theorem RowHole.c0 (h : RowHole w p d ao cap mb n v i o) : w.cell? ⟨p,0,none⟩ = some (.int .i64 (d : Int)) := by
  obtain ⟨Lm, c, r, h1, h2, h3⟩ := h
  exact r.c0
theorem RowHole.c1 (h : RowHole w p d ao cap mb n v i o) : w.cell? ⟨p,1,none⟩ = some (.slice ao n cap) := by
  obtain ⟨Lm, c, r, h1, h2, h3⟩ := h
  have := r.c1
  rwa [h1] at this
end
end Go.Proofs.YtkdbjelhkfdfjaaGreatDoor
namespace Go.Proofs.YtkdbjelhkfdfjaaGreatDoor
structure Tops (E : Ent) (L R U top : Nat -> Option Nat) : Prop where
  bin : Bin E L R U (fun y => ∃ g, top g = some y)
  mine : ∀ g t, top g = some t -> isIn E g t
  free : ∀ y, E y = none -> U y = none
theorem isIn_one {E : Ent} {g h x : Nat} (a : isIn E g x) (b : isIn E h x) : g = h := by
  obtain ⟨k, e⟩ := a
  obtain ⟨l, f⟩ := b
  rw [e] at f; cases f; rfl
section
variable {E : Ent} {L R U top L0 R0 : Nat -> Option Nat} {To : Nat -> Prop} {n h g t x : Nat} {rest : Option Nat}
theorem Tops.first (z : Tops E L R U top) (hn : ∀ y,(E y).isSome -> y < n) (e : top g = some t) : least E g t :=
  z.bin.least hn (z.mine g t e) fun x ⟨g', e'⟩ hx => by
    have := isIn_one (z.mine g' x e') hx
    subst this
    rw [e] at e'; cases e'; rfl
theorem Tops.none_of (z : Tops E L R U top) (hn : ∀ y,(E y).isSome -> y < n) (e : top g = none) : ∀ x, ¬ isIn E g x := by
  intro x hx
  obtain ⟨t,⟨g', e'⟩, h2⟩ := z.bin.top_of hn hx
  have := isIn_one (z.mine g' t e') h2
  subst this
  rw [e] at e'; cases e'
theorem Tops.init : Tops (fun _ => none) (fun _ => none) (fun _ => none) (fun _ => none) (fun _ => none) :=
  ⟨⟨by simp,by simp,by simp,by simp,by simp⟩,by simp,by simp⟩
theorem Tops.insert (z : Tops E L R U top) (he : E x = none) (k : Int × Nat) :
    Zip (put E x (some (h, k))) L R U (fun y => ∃ g, g ≠ h ∧ top g = some y) L R h [] (top h) (some x) := by
  have hnx : ∀ g y, top g = some y -> y ≠ x := by
    rintro g y e rfl
    have := (z.mine g y e).some
    rw [he] at this; cases this
  have hb := z.bin.come he (z.free x he) (h, k) (T' := fun y => (∃ g, top g = some y) ∨ y = x) (fun y => Iff.rfl)
  refine Zip.start hb (fun y => ?_) ?_ ?_ ?_ ?_
  · constructor
    · rintro (⟨g, e⟩ | rfl)
      · by_cases c : g = h
        · subst c; exact .inr (.inl e)
        · exact .inl ⟨g, c, e⟩
      · exact .inr (.inr rfl)
    · rintro (⟨g, _, e⟩ | e | e)
      · exact .inl ⟨g, e⟩
      · exact .inl ⟨h, e⟩
      · cases e; exact .inr rfl
  · intro y e
    refine ⟨?_,?_⟩
    · rintro ⟨g, c, e'⟩
      exact c (isIn_one (z.mine g y e') (z.mine h y e))
    · rw [isIn_put_other (hnx h y e)]; exact z.mine h y e
  · intro y e
    cases e
    exact ⟨fun ⟨g, _, e'⟩ => hnx g x e' rfl,⟨k, put_same _ _ _⟩⟩
  · intro y e c
    cases c
    exact hnx h x e rfl
  · intro y e
    by_cases c : y = x
    · subst c; rw [put_same] at e; cases e
    · rw [put_other E x _ c] at e; exact z.free y e
theorem Tops.merged (z : Zip E L R U To L0 R0 h [] rest none) (hT : ∀ y, To y ↔ ∃ g, g ≠ h ∧ top g = some y) (hm : ∀ g t, g ≠ h -> top g = some t -> isIn E g t) : Tops E L R U (upd top h rest) := by
  refine ⟨z.bin.cong fun y => ?_,?_, z.free⟩
  · constructor
    · rintro ⟨g, e⟩
      by_cases c : g = h
      · subst c; rw [upd_same] at e; exact .inr (.inr (.inl e))
      · rw [upd_other _ _ c] at e; exact .inl ((hT y).2 ⟨g, c, e⟩)
    · rintro (c | c | c | c)
      · obtain ⟨g, d, e⟩ := (hT y).1 c
        exact ⟨g,by rw [upd_other _ _ d]; exact e⟩
      · cases c
      · exact ⟨h,by rw [upd_same]; exact c⟩
      · cases c
  · intro g t e
    by_cases c : g = h
    · subst c; rw [upd_same] at e; exact (z.na t e).2.2
    · rw [upd_other _ _ c] at e; exact hm g t c e
theorem Tops.cut (z : Tops E L R U top) (e : top h = some x) :
    Zip E (upd L x none) (upd R x none) (offU (offU U (L x)) (R x)) (fun y => ∃ g, top g = some y) (upd L x none) (upd R x none) h [] (L x) (R x) := by
  have hx := z.mine h x e
  have hxU := (z.bin.top x ⟨h, e⟩).2
  have hnoT : ∀ y, U y = some x -> ¬ ∃ g, top g = some y := by
    intro y h1 h2
    rw [(z.bin.top y h2).2] at h1; cases h1
  have b1 : Bin E (upd L x none) R (offU U (L x)) (fun y => (∃ g, top g = some y) ∨ L x = some y) := by
    cases c : L x with
    | none =>
      rw [show upd L x none = L by rw [<- c]; exact upd_self L x]
      exact z.bin.cong fun y => by simp
    | some l => exact z.bin.cutL c fun y => by simp [eq_comm]
  have b2 : Bin E (upd L x none) (upd R x none) (offU (offU U (L x)) (R x)) (fun y => ((∃ g, top g = some y) ∨ L x = some y) ∨ R x = some y) := by
    cases c : R x with
    | none =>
      rw [show upd R x none = R by rw [<- c]; exact upd_self R x]
      exact b1.cong fun y => by simp
    | some r => exact b1.cutR c fun y => by simp [eq_comm]
  refine Zip.start b2 (fun y => ?_) ?_ ?_ ?_ ?_
  · exact or_assoc
  · intro y c
    obtain ⟨u1, u2, u3⟩ := z.bin.left x y c
    exact ⟨hnoT y u1,by rw [<- hp_some, <- u2]; exact isIn_hp hx⟩
  · intro y c
    obtain ⟨u1, u2, u3⟩ := z.bin.right x y c
    exact ⟨hnoT y u1,by rw [<- hp_some, <- u2]; exact isIn_hp hx⟩
  · intro y c d
    exact z.bin.lr x y c d
  · intro y c
    exact offU_none (offU_none (z.free y c))
theorem Tops.dropped (z : Zip E L R U (fun y => ∃ g, top g = some y) L0 R0 h [] rest none) (e : top h = some x) (hm : ∀ g t, top g = some t -> isIn E g t) (hl : L0 x = none) (hr : R0 x = none) :
    Tops (put E x none) L R U (upd top h rest) := by
  obtain ⟨f1, f2⟩ := z.fix x ⟨h, e⟩
  have hx := hm h x e
  have hu := (z.bin.top x (.inl ⟨h, e⟩)).2
  refine ⟨z.bin.drop (.inl ⟨h, e⟩) (f1.trans hl) (f2.trans hr) fun y => ?_,?_,?_⟩
  · constructor
    · rintro ⟨g, c⟩
      by_cases d : g = h
      · subst d
        rw [upd_same] at c
        refine ⟨.inr (.inr (.inl c)),?_⟩
        rintro rfl
        exact (z.na y c).2.1 ⟨g, e⟩
      · rw [upd_other _ _ d] at c
        refine ⟨.inl ⟨g, c⟩,?_⟩
        rintro rfl
        exact d (isIn_one (hm g y c) hx)
    · rintro ⟨⟨g, c⟩ | c | c | c, d⟩
      · refine ⟨g,?_⟩
        have : g ≠ h := by
          rintro rfl
          rw [e] at c; cases c; exact d rfl
        rw [upd_other _ _ this]; exact c
      · cases c
      · exact ⟨h,by rw [upd_same]; exact c⟩
      · cases c
  · intro g t c
    by_cases d : g = h
    · subst d
      rw [upd_same] at c
      have : t ≠ x := by
        rintro rfl
        exact (z.na t c).2.1 ⟨g, e⟩
      rw [isIn_put_other this]; exact (z.na t c).2.2
    · rw [upd_other _ _ d] at c
      have : t ≠ x := by
        rintro rfl
        exact d (isIn_one (hm g t c) hx)
      rw [isIn_put_other this]; exact hm g t c
  · intro y c
    by_cases d : y = x
    · subst d; exact hu
    · rw [put_other E x _ d] at c; exact z.free y c
end
theorem Par.top_of {E : Ent} {U : Nat -> Option Nat} {n g x : Nat} (hb : Par E U) (hn : ∀ y,(E y).isSome -> y < n) (hx : isIn E g x) : ∃ t, U t = none ∧ isIn E g t := by
  have key : ∀ m x, before E n x <= m -> isIn E g x -> ∃ t, U t = none ∧ isIn E g t := by
    intro m
    induction m with
    | zero =>
      intro x hm hx
      cases c : U x with
      | none => exact ⟨x, c, hx⟩
      | some p =>
        have h3 := hb x p c
        have := before_lt (hn p (ahead_some h3.2).1) h3.2
        omega
    | succ m ih =>
      intro x hm hx
      cases c : U x with
      | none => exact ⟨x, c, hx⟩
      | some p =>
        have h3 := hb x p c
        have := before_lt (hn p (ahead_some h3.2).1) h3.2
        exact ih p (by omega) (by rw [<- hp_some, h3.1]; exact isIn_hp hx)
  exact key _ x (Nat.le_refl _) hx
structure Pairs (E : Ent) (K : Nat -> List Nat) (kid next back U top : Nat -> Option Nat) : Prop where
  ties : Ties K kid next back U
  par : Par E U
  all : ∀ g y, top g = some y ↔ (isIn E g y ∧ U y = none)
structure Pair (E : Ent) (K : Nat -> List Nat) (kid next back U : Nat -> Option Nat) (h : Nat) (l : List Nat) (top : Nat -> Option Nat) : Prop where
  ties : Ties K kid next back U
  par : Par E U
  here : ∀ y, y ∈ l ↔ (isIn E h y ∧ U y = none)
  nd : l.Nodup
  apart : ∀ g, g ≠ h -> ∀ y, top g = some y ↔ (isIn E g y ∧ U y = none)
section
variable {E : Ent} {K : Nat -> List Nat} {kid next back U top : Nat -> Option Nat} {n g h t x a b : Nat} {l l' : List Nat} {o : Option Nat}
theorem Pairs.init : Pairs (fun _ => none) (fun _ => []) (fun _ => none) (fun _ => none) (fun _ => none) (fun _ => none) (fun _ => none) :=
  ⟨Ties.init,(by intro x p e; cases e),(by intro g y; simp [isIn])⟩
theorem Pairs.first (z : Pairs E K kid next back U top) (hn : ∀ y,(E y).isSome -> y < n) (e : top g = some t) : least E g t :=
  z.par.least hn ((z.all g t).1 e).1 fun x hx hu hne => by
    have := (z.all g x).2 ⟨hx, hu⟩
    rw [e] at this; cases this; exact absurd rfl hne
theorem Pairs.none_of (z : Pairs E K kid next back U top) (hn : ∀ y,(E y).isSome -> y < n) (e : top g = none) : ∀ x, ¬ isIn E g x := by
  intro x hx
  obtain ⟨t, h1, h2⟩ := z.par.top_of hn hx
  rw [(z.all g t).2 ⟨h2, h1⟩] at e; cases e
theorem Pair.shut (z : Pair E K kid next back U h l top) (hl : ∀ y, y ∈ l ↔ o = some y) : Pairs E K kid next back U (upd top h o) :=
  ⟨z.ties, z.par,fun g y => by
    by_cases c : g = h
    · subst c; rw [upd_same, <- hl]; exact z.here y
    · rw [upd_other _ _ c]; exact z.apart g c y⟩
theorem Pair.link (z : Pair E K kid next back U h l top) (ha : a ∈ l) (hb : b ∈ l) (hab : ahead E a b = true) (hl : ∀ y, y ∈ l' ↔ y ∈ l ∧ y ≠ b) (hn : l'.Nodup) :
    Pair E (upd K a (b :: K a)) (upd kid a (some b)) (upd next b (kid a)) (backOf kid back a b) (upd U b (some a)) h l' top := by
  obtain ⟨a1, a2⟩ := (z.here a).1 ha
  obtain ⟨b1, b2⟩ := (z.here b).1 hb
  refine ⟨z.ties.link (ahead_ne hab) b2 (by rw [a2]; simp), z.par.attach (by rw [isIn_hp a1, isIn_hp b1]) hab,fun y => ?_, hn,fun g c y => ?_⟩
  · rw [hl, z.here]
    by_cases d : y = b
    · subst d; rw [upd_same]; simp
    · rw [upd_other _ _ d]; simp [d]
  · rw [z.apart g c]
    by_cases d : y = b
    · subst d
      rw [upd_same]
      constructor
      · intro e; exact absurd (isIn_one e.1 b1) c
      · intro e; cases e.2
    · rw [upd_other _ _ d]
theorem Pairs.insert (z : Pairs E K kid next back U top) (he : E x = none) (k : Int × Nat) : Pair (put E x (some (h, k))) K kid next back U h ((top h).toList ++ [x]) top := by
  have hu := z.par.off he
  have key : ∀ g y, top g = some y -> y ≠ x := by
    rintro g y e rfl
    have := ((z.all g y).1 e).1.some
    rw [he] at this; cases this
  refine ⟨z.ties, z.par.come he _,fun y => ?_,?_,fun g c y => ?_⟩
  · simp only [List.mem_append, List.mem_singleton]
    by_cases d : y = x
    · subst d; simp only [or_true, true_iff]; exact ⟨⟨k, put_same _ _ _⟩, hu⟩
    · rw [isIn_put_other d, <- z.all]
      cases top h with
      | none => simp [d]
      | some t => simp [d, eq_comm]
  · cases e : top h with
    | none => simp
    | some y => simpa using key h y e
  · rw [z.all]
    by_cases d : y = x
    · subst d
      constructor
      · rintro ⟨⟨k', e⟩, _⟩; rw [he] at e; cases e
      · rintro ⟨⟨k', e⟩, _⟩; rw [put_same] at e; cases e; exact absurd rfl c
    · rw [isIn_put_other d]
theorem Pairs.cut (z : Pairs E K kid next back U top) (e : top h = some x) :
    Pair E (upd K x []) (upd kid x none) (updL next (K x) none) (updL back (K x) none) (updL U (K x) none) h (x :: K x) top := by
  obtain ⟨x1, x2⟩ := (z.all h x).1 e
  have hk : ∀ y, y ∈ K x -> isIn E h y := by
    intro y hy
    have := z.par y x ((z.ties.mem x y).1 hy)
    rw [<- hp_some, <- this.1]; exact isIn_hp x1
  have hx : x ∉ K x := by
    intro c
    rw [z.ties.mem, x2] at c; cases c
  refine ⟨z.ties.clear x,?_,fun y => ?_, List.nodup_cons.2 ⟨hx, z.ties.nd x⟩,fun g c y => ?_⟩
  · exact z.par.scatter (fun y => y ∈ K x)
  · simp only [List.mem_cons]
    by_cases d : y ∈ K x
    · rw [updL_in _ _ d]; simp [d, hk y d]
    · rw [updL_out _ _ d]
      simp only [d, or_false]
      rw [<- z.all, e]; simp [eq_comm]
  · rw [z.all]
    by_cases d : y ∈ K x
    · rw [updL_in _ _ d,(z.ties.mem x y).1 d]
      constructor
      · intro e; cases e.2
      · intro e; exact absurd (isIn_one e.1 (hk y d)) c
    · rw [updL_out _ _ d]
theorem Pair.drop (z : Pair E K kid next back U h l top) (hx : x ∈ l) (hk : K x = []) (hl : ∀ y, y ∈ l ∧ y ≠ x ↔ o = some y) : Pairs (put E x none) K kid next back U (upd top h o) := by
  obtain ⟨x1, x2⟩ := (z.here x).1 hx
  refine ⟨z.ties, z.par.drop x2 fun y c => ?_,fun g y => ?_⟩
  · have := (z.ties.mem x y).2 c
    rw [hk] at this; cases this
  · by_cases d : y = x
    · subst d
      have h1 : ¬ isIn (put E y none) g y := by rintro ⟨k, e⟩; rw [put_same] at e; cases e
      constructor
      · intro e
        by_cases c : g = h
        · subst c; rw [upd_same, <- hl] at e; exact absurd rfl e.2
        · rw [upd_other _ _ c, z.apart g c] at e; exact absurd (isIn_one e.1 x1) c
      · intro e; exact absurd e.1 h1
    · rw [isIn_put_other d]
      by_cases c : g = h
      · subst c; rw [upd_same, <- hl, z.here]; simp [d]
      · rw [upd_other _ _ c]; exact z.apart g c y
end
end Go.Proofs.YtkdbjelhkfdfjaaGreatDoor
namespace Go.Proofs.YtkdbjelhkfdfjaaGreatDoor
open Go.RowKit
def topsV (top : Nat -> Option Nat) (n : Nat) : List Value := (List.range n).map fun i => .int .i64 (oZ (top i))
theorem topsV_set (top : Nat -> Option Nat) (n h : Nat) (o : Option Nat) : (topsV top n).set h (.int .i64 (oZ o)) = topsV (upd top h o) n := by
  apply List.ext_getElem (by simp [topsV])
  intro i h1 h2
  simp only [topsV, List.getElem_set, List.getElem_map, List.getElem_range]
  by_cases c : h = i
  · subst c; simp [upd_same]
  · simp [c, upd_other top o (fun e => c e.symm)]
theorem topsV_snoc (top : Nat -> Option Nat) (n : Nat) (e : top n = none) : topsV top (n + 1) = topsV top n ++ [.int .i64 (-1)] := by
  simp [topsV, List.range_succ, e, oZ]
structure TopRow (w : World) (g n c : Nat) (top : Nat -> Option Nat) : Prop where
  row : w.ownsRow 0 3 1 (.slice (some ⟨g,0,none⟩) n c) n (topsV top n)
  zero : top 0 = none
section
variable {w w' : World} {g n c : Nat} {top : Nat -> Option Nat} {S : List Nat}
theorem TopRow.keep (h : TopRow w g n c top) (k : Keeps S w w') (hg : g ∉ S) : TopRow w' g n c top := ⟨k.row h.row hg, h.zero⟩
theorem TopRow.lt (h : TopRow w g n c top) : g < w.heap.size := row_lt h.row
theorem TopRow.at (h : TopRow w g n c top) {i : Nat} (hi : i < n) : w.cell? ⟨g,i,none⟩ = some (.int .i64 (oZ (top i))) := by
  rw [h.row.cellAt i (by omega)]
  simp [topsV, hi]
theorem TopRow.frozen (h : TopRow w g n c top) (i : Nat) : w.frozen? ⟨g,i,none⟩ = false := h.row.frozenAt i
theorem TopRow.set (h : TopRow w g n c top) {i : Nat} (hi : i < n) (h0 : i ≠ 0) (o : Option Nat) : TopRow (w.setCell ⟨g,i,none⟩ (.int .i64 (oZ o))) g n c (upd top i o) := by
  refine ⟨?_,by rw [upd_other top o (fun e => h0 e.symm)]; exact h.zero⟩
  have := Rg.row_set h.row i hi (.int .i64 (oZ o))
  rwa [topsV_set] at this
theorem TopRow.like (h : TopRow w g n c top) (e : w'.heap = w.heap) : TopRow w' g n c top := ⟨by
    refine ⟨h.row.1,?_⟩
    rw [e]; exact h.row.2, h.zero⟩
end
section
variable {P : Program}
theorem wpList_app_at (w : World) (B : Nat) {ops : Array Oper} {rest : List Oper} {o : Oper} {a : Act} {Q : Exit -> Act -> World -> Prop} (hgd : o.guard = none) (s x : Operand) (t : TypeId)
    (ho : o.op = .call { callee := .builtin .append, args := #[s, x], argTypes := #[t, t] })
    (e : TypeId) (z : Value) (bytes : Nat) (ht : P.underlying t = some (.slice e)) (hi : (P.info? e).map (fun i => (i.zero, i.size, i.bytes)) = some (some z, 1, bytes)) (hzs : z.cells.size = 1)
    (v : Value) (n : Nat) (xs : List Value) (hs : a.eval s = v) (hown : w.ownsRow B e 1 v n xs)
    (ad : Addr) (m c : Nat) (news : List Value) (hx : a.eval x = .slice (some ad) m c) (hl : news.length = m) (hnews : ∀ j u, news[j]? = some u -> w.cell? (ad.add j) = some u) (h1 : ∀ u ∈ news, u.oneCell' = true)
    (h63 : n + m <= maxLen) (hbytes : (n + m) * bytes <= 140737488355328) (hB : B <= w.heap.size)
    (h : ∀ v' w', w'.ownsRow B e 1 v' (n + m) (xs ++ news) -> Keeps v.ownBlock.toList w w' -> wpList P ops Q rest (a.put o.dst v') w') : wpList P ops Q (o :: rest) a w := by
  obtain ⟨i, hi, hz, hsize, hby⟩ := info_parts hi
  refine wpList_plain hgd fun K hK => ?_
  obtain ⟨v', w', hr, h2, h3, _, _⟩ := run_append_own_at (P := P) w B t o.type e i z 1 bytes ht hi hz hsize hby hzs (by decide) v n xs hown ad m c news (by rw [hl]; omega) hnews h1 h63 hbytes hB
  unfold Oper.wp execOp
  simp only [ho, resolve, invoke, builtin, Sem.run_bind, Sem.run_pure, Result.andThen_ok, List.map_toArray, List.map_cons, List.map_nil, hs, hx, hr]
  exact hK _ _ (h v' w' h2 ((Keeps.refl _ _).grown h3 (fun k e => .inl (by simp [e]))))
end
def CloneDone (w : World) (L : List Nat) (e : Ending) (w' : World) : Prop := ∃ v, e = .returned v ∧ Rg.IR w.heap.size w' v L ∧ Keeps [] w w'
theorem clone_ints (w : World) (ao : Option Addr) (ca : Nat) (L : List Nat) (h : Rg.IR 0 w (.slice ao L.length ca) L) (hl : L.length <= 65536) :
    Calls Tryz.prog 252 #[.slice ao L.length ca] w (CloneDone w L) := by
  have qT : ∀ (w : World) (a : Option Addr) (n c n' c' : Nat),(binOp .eql 28 (.slice a n c) (.slice none n' c')).run Tryz.prog w = .ok (.bool a.isNone) w := fun w a n c n' c' => Lib.run_eql_slice_nil w _ _ a n c n' c' Tryz.underlying28
  cases ao with
  | none =>
    have hL : L = [] := by
      rcases h.2 with ⟨_, h1⟩ | ⟨g, cap', cur, e, _⟩
      · exact List.length_eq_zero_iff.1 h1
      · simp at e
    subst hL
    clear h
    go_enter Tryz.func252, Tryz.ntmps252
    go_wp2_with fail
    go_ret
    exact ⟨_,rfl, Rg.IR.nil _ _, Keeps.refl _ _⟩
  | some ad =>
    have h0 : ∀ o, Rg.IR 0 (w.alloc o) (.slice (some ad) L.length ca) L := fun o => ir_keep h ((Keeps.refl [] _).alloc o) (by simp)
    have hcell : ∀ o j u,(Rg.nCells L)[j]? = some u -> (w.alloc o).cell? (ad.add j) = some u := by
      intro o j u hj
      have hjl : j < L.length := by
        have := (List.getElem?_eq_some_iff.1 hj).1
        simpa [Rg.nCells] using this
      obtain ⟨g, e, _, _, c⟩ := (h0 o).at j hjl
      cases e
      rw [Addr.add_lit, Nat.zero_add, c]
      rw [<- hj]
      simp [Rg.nCells, Rg.fn, List.getD, hjl]
    have hone : ∀ u ∈ Rg.nCells L, u.oneCell' = true := by
      intro u hu
      simp only [Rg.nCells, List.mem_map] at hu
      obtain ⟨x, _,rfl⟩ := hu
      rfl
    have hown : (w.alloc (.cells #[] 3 (0,0))).ownsRow w.heap.size 3 1 (.slice (some ⟨w.heap.size,0,none⟩) 0 0) 0 [] :=
      ⟨by simp,.inr ⟨w.heap.size, 0, #[],rfl, Nat.le_refl _, blk_alloc_new _, Nat.le_refl _,by decide,by simp,by simp⟩⟩
    have hfin : ∀ v' w', w'.ownsRow w.heap.size 3 1 v' (0 + L.length) ([] ++ Rg.nCells L) -> Keeps (Value.slice (some ⟨w.heap.size,0,none⟩) 0 0).ownBlock.toList (w.alloc (.cells #[] 3 (0,0))) w' -> CloneDone w L (.returned v') w' := by
      intro v' w' hr hk
      refine ⟨v',rfl,by unfold Rg.IR; simpa using hr,?_⟩
      exact ((Keeps.refl [] w).alloc _).trans hk (fun b hb => by simp [Value.ownBlock] at hb; subst hb; exact .inr (Nat.le_refl _))
    have HF := Lib.hid hfin
    have HC := Lib.hid hcell
    have H1 := Lib.hid hone
    clear hfin hcell hone h0 h
    have hnl : (Rg.nCells L).length = L.length := by simp [Rg.nCells]
    have HNL := Lib.hid hnl
    clear hnl
    go_enter Tryz.func252, Tryz.ntmps252
    go_wp2_with (at_builtin; refine wpList_app_at _ w.heap.size rfl (.tmp 5) (.tmp 6) 28 rfl 3 (.int .i64 0) 8 Tryz.underlying28 Rg.Tryz.infoInt rfl _ 0 [] (by simp [Act.eval]) hown ad L.length ca (Rg.nCells L) (by simp [Act.eval]) HNL.out (HC.out _) H1.out (by unfold maxLen; omega) (by omega) (by simp) ?_; intro v' w' hr hk; have hz := HF.out v' w' hr hk; have HZ := Lib.hid hz; clear hr hk hz)
    go_ret
    exact HZ.out
def Win (B : Nat) (w : World) (v : Value) (L : List Nat) : Prop :=
  (v = .slice none 0 0 ∧ L = []) ∨ ∃ (g off cap : Nat) (cur : Array Value), v = .slice (some ⟨g,off,none⟩) L.length cap ∧ B <= g ∧ w.heap[g]? = some (.cells cur 3 (0,0)) ∧ L.length <= cap ∧ off + cap <= cur.size ∧ ∀ j x, L[j]? = some x -> cur[off + j]? = some (.int .i64 (x : Nat))
section
variable {w w' : World} {B : Nat} {v : Value} {L S : List Nat} {x : Nat}
theorem Win.form (h : Win B w v L) : ∃ ao cap, v = .slice ao L.length cap ∧ L.length <= cap := by
  rcases h with ⟨rfl,rfl⟩ | ⟨g, off, cap, cur,rfl, _, _, c, _⟩
  · exact ⟨none, 0,rfl,by simp⟩
  · exact ⟨_, _,rfl, c⟩
theorem Win.block (h : Win B w v L) : ∀ b, v.ownBlock = some b -> B <= b ∧ b < w.heap.size := by
  intro b e
  rcases h with ⟨rfl,rfl⟩ | ⟨g, off, cap, cur,rfl, hb, hg, _⟩
  · simp [Value.ownBlock] at e
  · simp only [Value.ownBlock] at e
    first
      | (cases e; exact ⟨hb, lt_of_block hg⟩)
      | (split at e <;> cases e <;> exact ⟨hb, lt_of_block hg⟩)
theorem Win.keep (h : Win B w v L) (k : Keeps S w w') (hS : ∀ g off cap, v = .slice (some ⟨g,off,none⟩) L.length cap -> g ∉ S) : Win B w' v L := by
  rcases h with h | ⟨g, off, cap, cur, e, hb, hg, r⟩
  · exact .inl h
  · exact .inr ⟨g, off, cap, cur, e, hb, k.blk hg (hS g off cap e), r⟩
theorem Win.of (h : Rg.IR B w v L) : Win B w v L := by
  obtain ⟨ao, ca,rfl⟩ := h.form
  rcases h.2 with ⟨h0, h1⟩ | ⟨g, cap', cur, e, hb, hg, r1, r2, r3, r4⟩
  · have : L = [] := List.length_eq_zero_iff.1 h1
    exact .inl ⟨h0, this⟩
  · refine .inr ⟨g, 0, cap', cur, e, hb, hg, r1,by omega,fun j x hx => ?_⟩
    have hj : j < L.length := (List.getElem?_eq_some_iff.1 hx).1
    have h1 : (cur.toList.take (L.length * 1))[j]? = some (.int .i64 (x : Nat)) := by rw [r4]; simp [Rg.nCells, hx]
    rw [List.getElem?_take_of_lt (by omega)] at h1
    simpa using h1
theorem Win.head (h : Win B w v (x :: L)) : ∃ g off cap, v = .slice (some ⟨g,off,none⟩) (L.length + 1) cap ∧ B <= g ∧ L.length + 1 <= cap ∧ w.cell? ⟨g,off,none⟩ = some (.int .i64 (x : Nat)) ∧ Win B w (.slice (some ⟨g, off + 1, none⟩) L.length (cap - 1)) L := by
  rcases h with ⟨_, h⟩ | ⟨g, off, cap, cur,rfl, hb, hg, h1, h2, h3⟩
  · cases h
  · simp only [List.length_cons] at h1
    refine ⟨g, off, cap,rfl, hb, h1,?_,.inr ⟨g, off + 1, cap - 1, cur,rfl, hb, hg,by omega,by omega,fun j y e => ?_⟩⟩
    · have := h3 0 x rfl
      rw [cell_of_blk hg]
      simpa using this
    · have := h3 (j + 1) y (by simpa using e)
      rw [show off + 1 + j = off + (j + 1) by omega]; exact this
end
section
variable {P : Program}
theorem run_win (w W : World) (B y : Nat) (t ty : TypeId) (ht : P.underlying t = some (.slice 3)) (hi : (P.info? 3).map (fun i => (i.zero, i.size, i.bytes)) = some (some (.int .i64 0), 1,8)) (hB : B <= w.heap.size)
    (hW : W.heap = (w.alloc (.cells #[.int .i64 (y : Int)] 3 (0,0))).heap) (hW1 : W.os = w.os) (hW2 : W.tape = w.tape) (hW3 : W.output = w.output) (v : Value) (L : List Nat) (h : Win B w v L) (hl : L.length + 1 <= 65536) :
    ∃ v' w',(Builtin.append_ #[t, t] ty #[v,.slice (some ⟨w.heap.size,0,none⟩) 1 1]).run P W = .ok v' w' ∧ Win B w' v' (L ++ [y]) ∧ Keeps v.ownBlock.toList w w' ∧ (v'.ownBlock = v.ownBlock ∨ ∃ b, v'.ownBlock = some b ∧ w.heap.size <= b) := by
  obtain ⟨i, hi, hz, hsize, hby⟩ := info_parts hi
  have k1 : Keeps [] w W := by
    have k : Keeps [] w (w.alloc (.cells #[.int .i64 (y : Int)] 3 (0,0))) := (Keeps.refl _ _).alloc _
    exact ⟨hW1.trans k.os, hW2.trans k.tape, hW3.trans k.output,by rw [hW]; exact k.size,by rw [hW]; exact k.block⟩
  have hcell : ∀ j u,([.int .i64 (y : Int)] : List Value)[j]? = some u -> W.cell? ((⟨w.heap.size,0,none⟩ : Addr).add j) = some u := by
    intro j u hj
    match j, hj with
    | 0, hj =>
      simp at hj; subst hj
      have : W.heap[w.heap.size]? = some (.cells #[.int .i64 (y : Int)] 3 (0,0)) := by rw [hW]; exact blk_alloc_new _
      show W.cell? ⟨w.heap.size,0,none⟩ = _
      rw [cell_of_blk this]; rfl
  have hone : ∀ u ∈ ([.int .i64 (y : Int)] : List Value), u.oneCell' = true := by intro u hu; simp at hu; subst hu; rfl
  have hws : w.heap.size <= W.heap.size := k1.size
  rcases h with ⟨rfl,rfl⟩ | ⟨g, off, cap, cur,rfl, hb, hg, h1, h2, h3⟩
  · obtain ⟨v', w', hr, r1, r2, _, r4⟩ := run_append_own_at (P := P) W B t ty 3 i (.int .i64 0) 1 8 ht hi hz hsize hby rfl (by decide) (.slice none 0 0) 0 [] (World.ownsRow_nil W _ _ _) ⟨w.heap.size,0,none⟩ 1 1 [.int .i64 (y : Int)] rfl hcell hone (by unfold maxLen; omega) (by omega) (Nat.le_trans hB hws)
    refine ⟨v', w', hr, Win.of (by unfold Rg.IR; simpa [Rg.nCells] using r1), k1.trans ((Keeps.refl [] W).grown r2 (fun k e => by simp [Value.ownBlock] at e)) (by simp) |>.mono (by simp),?_⟩
    rcases r4 with q | q
    · exact .inl q
    · exact .inr ⟨_, q, hws⟩
  · have hgl := lt_of_block hg
    have hgW := k1.blk hg (by simp)
    by_cases hroom : L.length + 1 <= cap
    · have hc : ∃ u, cur[off + L.length]? = some u := ⟨_, Array.getElem?_eq_getElem (show off + L.length < cur.size by omega)⟩
      obtain ⟨u0, hc⟩ := hc
      have hr := run_append_room_cells (P := P) (w := W) t ty 3 i ht hi g off L.length cap ⟨w.heap.size,0,none⟩ 1 1 [.int .i64 (y : Int)] (by rw [hsize]; rfl) hcell hone hroom (by
        intro j hj
        obtain rfl : j = 0 := by simpa using hj
        rw [hsize, cell_of_blk hgW]; simp [hc]) (by
        intro j hj
        exact frozen_of_blk hgW)
      rw [hsize] at hr
      refine ⟨_, _, hr,.inr ⟨g, off, cap, cur.setIfInBounds (off + L.length * 1) (.int .i64 (y : Int)),by simp, hb, blk_setCell _ hgW,by simpa using hroom,by simpa using h2,fun j x e => ?_⟩,?_,.inl rfl⟩
      rotate_left
      · have k2 : Keeps [g] W (W.setCell ⟨g, off + L.length * 1, none⟩ (.int .i64 (y : Int))) := (Keeps.refl _ _).setCell (.inl (by simp)) _
        exact (k1.mono (T := [g]) (by simp)).trans k2 (fun b hb => .inl hb)
      rw [Nat.mul_one]
      by_cases c : j < L.length
      · rw [List.getElem?_append_left c] at e
        rw [Array.getElem?_setIfInBounds_ne (by omega)]
        exact h3 j x e
      · rw [List.getElem?_append_right (by omega)] at e
        obtain rfl : j = L.length := by
          have := (List.getElem?_eq_some_iff.1 e).1
          simp at this; omega
        simp at e
        subst e
        rw [Array.getElem?_setIfInBounds_self_of_lt (by omega)]
    · obtain ⟨v', w', hr, r1, r2⟩ := run_append_arg_grows (P := P) (w := W) t ty 3 i (.int .i64 0) 1 8 ht hi hz hsize hby rfl (by decide) ⟨g,off,none⟩ L.length cap (Rg.nCells L) (by simp [Rg.nCells]) (by
        intro j u e
        obtain ⟨x, hx,rfl⟩ : ∃ x : Nat, L[j]? = some x ∧ u = .int .i64 (x : Int) := by
          simp only [Rg.nCells, List.getElem?_map, Option.map_eq_some_iff] at e
          obtain ⟨x, a, b⟩ := e
          exact ⟨x, a, b.symm⟩
        have := h3 j x hx
        rw [Addr.add_lit, cell_of_blk hgW]; exact this) ⟨w.heap.size,0,none⟩ 1 1 [.int .i64 (y : Int)] rfl hcell (by omega) (by unfold maxLen; omega) (by omega)
      have hir : Rg.IR W.heap.size w' v' (L ++ [y]) := by
        unfold Rg.IR
        rw [List.length_append]
        simpa [Rg.nCells] using r1
      refine ⟨v', w', hr, Win.of (hir.lo (Nat.le_trans hB hws)),(k1.trans ((Keeps.refl [] W).grown r2 (fun k e => by simp at e)) (by simp)).mono (by simp),?_⟩
      obtain ⟨a5, c5,rfl⟩ := hir.form
      have := hir.own
      cases a5 with
      | none =>
        rcases hir.2 with ⟨_, h0⟩ | ⟨_, _, _, e, _⟩
        · simp at h0
        · simp at e
      | some q =>
        obtain ⟨qb, qo, qi⟩ := q
        exact .inr ⟨qb,rfl, Nat.le_trans hws (this qb rfl).1⟩
theorem step_win {ops : Array Oper} {o : Oper} {a : Act} {K : Act -> World -> Prop} {Q : Exit -> Act -> World -> Prop} {X : Prop} (hgd : o.guard = none) (s x : Operand) (t : TypeId)
    (ho : o.op = .call { callee := .builtin .append, args := #[s, x], argTypes := #[t, t] })
    (ht : P.underlying t = some (.slice 3)) (hi : (P.info? 3).map (fun i => (i.zero, i.size, i.bytes)) = some (some (.int .i64 0), 1,8))
    (w W : World) (B y : Nat) (hB : B <= w.heap.size) (hW : W.heap = (w.alloc (.cells #[.int .i64 (y : Int)] 3 (0,0))).heap) (hW1 : W.os = w.os) (hW2 : W.tape = w.tape) (hW3 : W.output = w.output)
    (v : Value) (L : List Nat) (hs : a.eval s = v) (hwin : Win B w v L) (hx : a.eval x = .slice (some ⟨w.heap.size,0,none⟩) 1 1) (hl : L.length + 1 <= 65536)
    (h : ∀ v' w', Win B w' v' (L ++ [y]) -> Keeps v.ownBlock.toList w w' -> (v'.ownBlock = v.ownBlock ∨ ∃ b, v'.ownBlock = some b ∧ w.heap.size <= b) -> K (a.put o.dst v') w') :
    if Region.wanted o (yielded ops a.tmps) = true then Oper.wp P o a W K Q else X := by
  have hw : Region.wanted o (yielded ops a.tmps) = true := by simp [Region.wanted, hgd]
  rw [if_pos hw]
  obtain ⟨v', w', hr, h2, h3, h4⟩ := run_win (P := P) w W B y t o.type ht hi hB hW hW1 hW2 hW3 v L hwin hl
  have hfin := h v' w' h2 h3 h4
  unfold Oper.wp execOp
  simp only [ho, resolve, invoke, builtin, Sem.run_bind, Sem.run_pure, Result.andThen_ok, List.map_toArray, List.map_cons, List.map_nil, hs, hx, hr]
  exact hfin
end
def numV (f : Nat -> Int) (i : Nat) : List Value := [.int .i64 (f i)]
structure LeftMid (w : World) (p pc pt gt gr : Nat) (vT : Value) (Fc : List Nat) (cap hs : Nat) (E : Ent) (L R U : Nat -> Option Nat) : Prop where
  nd : (p :: pt :: gt :: gr :: Fc).Nodup
  blk : w.heap[p]? = some (.cells #[.pointer (some ⟨pc,0,none⟩),.pointer (some ⟨pt,0,none⟩),.slice (some ⟨gr,0,none⟩) cap cap, vT] 232 (0,0))
  ce : CellsAt w Fc pc cap hs E
  sp : SpineAt w pt gt cap L R U
  rk : ∃ f : Nat -> Int, Arr w 3 1 cap gr (numV f)
section
variable {w w' : World} {p pc pt gt gr cap hs : Nat} {vT : Value} {Fc S : List Nat} {E E' : Ent} {L R U L' R' U' : Nat -> Option Nat}
theorem LeftMid.ne (m : LeftMid w p pc pt gt gr vT Fc cap hs E L R U) : (p ≠ pt ∧ p ≠ gt ∧ p ≠ gr ∧ p ∉ Fc) ∧ (pt ≠ gt ∧ pt ≠ gr ∧ pt ∉ Fc) ∧ (gt ≠ gr ∧ gt ∉ Fc) ∧ gr ∉ Fc := by
  have := m.nd
  simp only [List.nodup_cons, List.mem_cons, not_or] at this
  obtain ⟨⟨a1, a2, a3, a4⟩,⟨b1, b2, b3⟩,⟨c1, c2⟩, d, _⟩ := this
  exact ⟨⟨a1, a2, a3, a4⟩,⟨b1, b2, b3⟩,⟨c1, c2⟩, d⟩
theorem LeftMid.rkeep (m : LeftMid w p pc pt gt gr vT Fc cap hs E L R U) (k : Keeps S w w') (h : gr ∉ S) : ∃ f : Nat -> Int, Arr w' 3 1 cap gr (numV f) := by
  obtain ⟨f, a⟩ := m.rk
  exact ⟨f, a.keep k h⟩
theorem LeftMid.keep (m : LeftMid w p pc pt gt gr vT Fc cap hs E L R U) (k : Keeps S w w') (hS : ∀ b ∈ p :: pt :: gt :: gr :: Fc, b ∉ S) : LeftMid w' p pc pt gt gr vT Fc cap hs E L R U :=
  ⟨m.nd, k.blk m.blk (hS p (by simp)), m.ce.keep k (fun b hb => hS b (by simp [hb])), m.sp.keep k (hS pt (by simp)) (hS gt (by simp)), m.rkeep k (hS gr (by simp))⟩
theorem LeftMid.below (m : LeftMid w p pc pt gt gr vT Fc cap hs E L R U) (k : Below w.heap.size w w') : LeftMid w' p pc pt gt gr vT Fc cap hs E L R U := m.keep (Below.keeps k (Nat.le_refl _) []) (by simp)
theorem LeftMid.drewN (m : LeftMid w p pc pt gt gr vT Fc cap hs E L R U) (n : Nat) : LeftMid (w.drewN n) p pc pt gt gr vT Fc cap hs E L R U := m.keep (S := []) ⟨rfl,rfl,rfl, Nat.le_refl _,fun _ _ _ => rfl⟩ (by simp)
theorem LeftMid.cells (m : LeftMid w p pc pt gt gr vT Fc cap hs E L R U) (c : CellsAt w' Fc pc cap hs E') (k : Keeps Fc w w') : LeftMid w' p pc pt gt gr vT Fc cap hs E' L R U := by
  obtain ⟨⟨a1, a2, a3, a4⟩,⟨b1, b2, b3⟩,⟨c1, c2⟩, d⟩ := m.ne
  exact ⟨m.nd, k.blk m.blk a4, c, m.sp.keep k b3 c2, m.rkeep k d⟩
theorem LeftMid.spine (m : LeftMid w p pc pt gt gr vT Fc cap hs E L R U) (c : SpineLeft w pt gt cap L' R' U' w') : LeftMid w' p pc pt gt gr vT Fc cap hs E L' R' U' := by
  obtain ⟨⟨a1, a2, a3, a4⟩,⟨b1, b2, b3⟩,⟨c1, c2⟩, d⟩ := m.ne
  exact ⟨m.nd, c.2.blk m.blk (by simpa using a2), m.ce.keep c.2 (fun b hb e => by simp at e; subst e; exact c2 hb), c.1, m.rkeep c.2 (by simpa using fun e => c1 e.symm)⟩
theorem LeftMid.rank (m : LeftMid w p pc pt gt gr vT Fc cap hs E L R U) {x : Nat} (hx : x < cap) (z : Int) : LeftMid (w.setCell ⟨gr,x,none⟩ (.int .i64 z)) p pc pt gt gr vT Fc cap hs E L R U := by
  obtain ⟨⟨a1, a2, a3, a4⟩,⟨b1, b2, b3⟩,⟨c1, c2⟩, d⟩ := m.ne
  have k : Keeps [gr] w (w.setCell ⟨gr,x,none⟩ (.int .i64 z)) := (Keeps.refl _ _).setCell (.inl (by simp)) _
  obtain ⟨f, a⟩ := m.rk
  refine ⟨m.nd, k.blk m.blk (by simpa using a3), m.ce.keep k (fun b hb e => by simp at e; subst e; exact d hb), m.sp.keep k (by simpa using b2) (by simpa using c1), upd f x z,(a.set1 hx (.int .i64 z)).congr fun i _ => ?_⟩
  by_cases c : i = x
  · subst c; simp [upd_same, numV]
  · simp [upd_other _ _ c, numV]
theorem LeftMid.lt (m : LeftMid w p pc pt gt gr vT Fc cap hs E L R U) : p < w.heap.size ∧ pt < w.heap.size ∧ gt < w.heap.size ∧ gr < w.heap.size ∧ ∀ b ∈ Fc, b < w.heap.size := by
  obtain ⟨f, a⟩ := m.rk
  exact ⟨lt_of_block m.blk, m.sp.lt.1, m.sp.lt.2, a.lt, m.ce.lt⟩
theorem LeftMid.c0 (m : LeftMid w p pc pt gt gr vT Fc cap hs E L R U) : w.cell? ⟨p,0,none⟩ = some (.pointer (some ⟨pc,0,none⟩)) := by rw [cell_of_blk m.blk]; rfl
theorem LeftMid.c1 (m : LeftMid w p pc pt gt gr vT Fc cap hs E L R U) : w.cell? ⟨p,1,none⟩ = some (.pointer (some ⟨pt,0,none⟩)) := by rw [cell_of_blk m.blk]; rfl
theorem LeftMid.c2 (m : LeftMid w p pc pt gt gr vT Fc cap hs E L R U) : w.cell? ⟨p,2,none⟩ = some (.slice (some ⟨gr,0,none⟩) cap cap) := by rw [cell_of_blk m.blk]; rfl
theorem LeftMid.c3 (m : LeftMid w p pc pt gt gr vT Fc cap hs E L R U) : w.cell? ⟨p,3,none⟩ = some vT := by rw [cell_of_blk m.blk]; rfl
end
theorem kid_calls (w : World) (o : Option Nat) : Calls Tryz.prog 410 #[.int .i64 ((o.getD 0 : Nat) : Int),.bool o.isSome] w fun e w' => e = .returned (.int .i64 (oZ o)) ∧ w' = w := by
  cases o with
  | none =>
    go_enter Tryz.func410, Tryz.ntmps410
    go_wp2
    go_ret
    exact ⟨rfl,rfl⟩
  | some x =>
    go_enter Tryz.func410, Tryz.ntmps410
    go_wp2
    go_ret
    exact ⟨rfl,rfl⟩
def SomeI (w : World) (e : Ending) (w' : World) : Prop := ∃ z : Int, e = .returned (.int .i64 z) ∧ w = w'
section
variable (w : World) (p pc pt gt gr : Nat) (vT : Value) (Fc : List Nat) (cap hs : Nat) (E : Ent) (L R U : Nat -> Option Nat)
theorem ranked_calls (m : LeftMid w p pc pt gt gr vT Fc cap hs E L R U) (o : Option Nat) (ho : ∀ x, o = some x -> x < cap) :
    Calls Tryz.prog 421 #[.pointer (some ⟨p,0,none⟩),.int .i64 (oZ o)] w (SomeI w) := by
  have c2 := m.c2
  obtain ⟨f, a⟩ := m.rk
  clear m
  cases o with
  | none =>
    simp only [oZ_none]
    go_enter Tryz.func421, Tryz.ntmps421
    go_wp2
    go_ret
    exact ⟨_,rfl,rfl⟩
  | some x =>
    have hx := ho x rfl
    have d0 := a.cell1 hx
    simp only [numV, List.getElem?_cons_zero] at d0
    have hx3 : (x : Int) < (cap : Int) := by omega
    have hxn : ((x : Int) == -1) = false := by rw [beq_eq_false_iff_ne]; omega
    simp only [oZ_some]
    clear ho
    go_enter Tryz.func421, Tryz.ntmps421
    go_wp2
    go_ret
    exact ⟨_,rfl,rfl⟩
def Settled (x : Nat) (e : Ending) (w' : World) : Prop :=
  ∃ L' R' : Nat -> Option Nat, e = .returned (.tuple #[]) ∧ ((L' = L ∧ R' = R) ∨ (L' = upd L x (R x) ∧ R' = upd R x (L x))) ∧ LeftMid w' p pc pt gt gr vT Fc cap hs E L' R' U ∧ Keeps [gt, gr] w w'
def SettledMid (x : Nat) (s : Value) (w' : World) : Prop :=
  ∃ (L' R' : Nat -> Option Nat) (o : Option Nat), s = .int .i64 (oZ o) ∧ (∀ y, o = some y -> y < cap) ∧ ((L' = L ∧ R' = R) ∨ (L' = upd L x (R x) ∧ R' = upd R x (L x))) ∧ LeftMid w' p pc pt gt gr vT Fc cap hs E L' R' U ∧ Keeps [gt, gr] w w'
theorem settle_calls (m : LeftMid w p pc pt gt gr vT Fc cap hs E L R U) (x : Nat) (hx : x < cap) :
    Calls Tryz.prog 418 #[.pointer (some ⟨p,0,none⟩),.int .i64 x] w (Settled w p pc pt gt gr vT Fc cap hs E L R U x) := by
  have c1 := m.c1
  have hL := fun y (e : L x = some y) => m.sp.wf x y (.inl e)
  have hR := fun y (e : R x = some y) => m.sp.wf x y (.inr (.inl e))
  have HL := Lib.hid hL
  have HR := Lib.hid hR
  clear hL hR
  go_enter Tryz.func418, Tryz.ntmps418
  go_wp2_with fail
  go_quiet ((first
    | (go_at_call 411; exact Calls.quiet_of (sp_Left _ pt gt cap L R U (by exact m.sp.like rfl) x hx))
    | (go_at_call 412; exact Calls.quiet_of (sp_Right _ pt gt cap L R U (by exact m.sp.like rfl) x hx))
    | (go_at_call 410; exact Calls.quiet_of_same (kid_calls _ (L x)))
    | (go_at_call 410; exact Calls.quiet_of_same (kid_calls _ (R x)))))
  have m0 := m.drewN nq
  have k0 : Keeps [gt, gr] w (w.drewN nq) := (Keeps.refl _ _).drewN nq
  generalize w.drewN nq = w0 at *
  have d1 := m0.c1
  go_upto_if 30 with (first
    | (go_at_call 421; (with_reducible refine (ranked_calls _ p pc pt gt gr vT Fc cap hs E L R U m0 (L x) HL.out).mono ?_); rintro e w' ⟨z1,rfl,rfl⟩)
    | (go_at_call 421; (with_reducible refine (ranked_calls _ p pc pt gt gr vT Fc cap hs E L R U m0 (R x) HR.out).mono ?_); rintro e w' ⟨z2,rfl,rfl⟩))
  go_cut [5] (fun s wc => SettledMid w p pc pt gt gr vT Fc cap hs E L R U x s wc)
  case first =>
    have ht := sp_turn w0 pt gt cap L R U m0.sp x hx
    by_cases hz : z1 < z2
    · go_wp2_with (go_at_call 422; refine ht.mono ?_; rintro e w1 ⟨rfl, hs1⟩)
      go_meet
      case rel => exact ⟨_, _, L x,rfl, HL.out,.inr ⟨rfl,rfl⟩, m0.spine hs1, k0.trans hs1.2 (by simp)⟩
    · go_wp2_with fail
      go_meet
      case rel => exact ⟨_, _, R x,rfl, HR.out,.inl ⟨rfl,rfl⟩, m0, k0⟩
  case rest =>
    clear m m0 k0 d1 c1
    obtain ⟨L', R', o,rfl, ho, hLR, m1, k1⟩ := hcut
    have d2 := m1.c2
    have hx3 : (x : Int) < (cap : Int) := by omega
    obtain ⟨f, a⟩ := m1.rk
    have f0 := a.frozen x
    have e0 := a.cell1 hx
    simp only [numV, List.getElem?_cons_zero] at e0
    have hpr : p ≠ gr := m1.ne.1.2.2.1
    have hrk := fun u (hu : LeftMid u p pc pt gt gr vT Fc cap hs E L' R' U) => ranked_calls u p pc pt gt gr vT Fc cap hs E L' R' U hu o ho
    clear a
    go_wp2_with fail
    go_region_held3 (fun u => u.cell? ⟨p,2,none⟩ = some (.slice (some ⟨gr,0,none⟩) cap cap)) (first | exact d2 | exact cell_set_ne hpr d2)
      (first
        | (go_at_call 421; refine (hrk _ (by exact m1.keep (S := []) ⟨rfl,rfl,rfl, Nat.le_refl _,fun _ _ _ => rfl⟩ (by simp))).mono ?_; rintro e w' ⟨z,rfl,rfl⟩))
    all_goals
      go_end0
      exact ⟨L', R',rfl, hLR,(m1.rank hx _).keep (S := []) ⟨rfl,rfl,rfl, Nat.le_refl _,fun _ _ _ => rfl⟩ (by simp),(k1.setCell (.inl (by simp)) _).trans (T := []) ⟨rfl,rfl,rfl, Nat.le_refl _,fun _ _ _ => rfl⟩ (by simp)⟩
end
end Go.Proofs.YtkdbjelhkfdfjaaGreatDoor
namespace Go.Proofs.YtkdbjelhkfdfjaaGreatDoor.Rg
section
variable {n : Nat} {N P : List Nat} {w : List (List Nat)}
theorem Rings.told_len (h : Rings n N P w) {x : Nat} (hx : x < n) {l : List Nat} (hl : l ∈ w) (hxl : x ∈ l) : (allZ w x).length = l.length := by
  obtain ⟨l', r, h1, h2, h3, h4, h5, h6, h7⟩ := h.home hx
  have e := uniq h.nd h1 hl h2 hxl
  subst e
  rw [h3]
  exact ((List.perm_ext_iff_of_nodup h5 (nodup_of h.nd h1)).2 h6).length_eq
theorem alone_all (n x : Nat) (hx : x < n) : allZ ((List.range n).map fun i => [i]) x = [x] := by
  have h := Rings.new n
  obtain ⟨lx, rx, hlx, hxl, hax, hpx, hndx, hmx, hbx⟩ := h.home hx
  have ht := h.told_len hx (l := [x]) (by simp [hx]) (by simp)
  rw [hax] at ht ⊢
  simp at ht
  rw [ht]
end
end Go.Proofs.YtkdbjelhkfdfjaaGreatDoor.Rg
namespace Go.Proofs.YtkdbjelhkfdfjaaGreatDoor
def kidsN (U : Nat -> Option Nat) (n p : Nat) : Nat := ((List.range n).filter fun y => U y == some p).length
theorem kidsN_le (U : Nat -> Option Nat) (n p : Nat) : kidsN U n p <= n := by
  unfold kidsN
  exact Nat.le_trans (List.length_filter_le _ _) (by simp)
theorem kidsN_zero {U : Nat -> Option Nat} {n p : Nat} (h : ∀ y, U y ≠ some p) : kidsN U n p = 0 := by
  unfold kidsN
  rw [List.length_eq_zero_iff, List.filter_eq_nil_iff]
  intro y _ e
  exact h y (by simpa using e)
def rootOf (E : Ent) (U : Nat -> Option Nat) (g x : Nat) : Prop := isIn E g x ∧ U x = none
structure FibM (E : Ent) (n : Nat) (R : Nat -> Nat -> Prop) (U kid : Nat -> Option Nat) (deg : Nat -> Nat) (top : Nat -> Option Nat) (h : Nat) (D : Nat -> Prop) : Prop where
  par : Par E U
  lt : ∀ y,(E y).isSome -> y < n
  rel : ∀ x y, x < n -> (R x y ↔ x = y ∨ (∃ p, U x = some p ∧ U y = some p) ∨ ∃ g, rootOf E U g x ∧ rootOf E U g y ∧ (g = h -> D x ∧ D y))
  kidS : ∀ p x, kid p = some x -> U x = some p
  kidN : ∀ p x, U x = some p -> (kid p).isSome
  dg : ∀ p, deg p = kidsN U n p
  topS : ∀ g t, top g = some t -> rootOf E U g t ∧ (g = h -> D t) ∧ ∀ y, rootOf E U g y -> (g = h -> D y) -> y ≠ t -> ahead E t y = true
  topN : ∀ g, top g = none -> ∀ y, rootOf E U g y -> g = h ∧ ¬ D y
def FibO (E : Ent) (n : Nat) (R : Nat -> Nat -> Prop) (U kid : Nat -> Option Nat) (deg : Nat -> Nat) (top : Nat -> Option Nat) : Prop := FibM E n R U kid deg top 0 (fun _ => True)
section
variable {E : Ent} {n : Nat} {R R' : Nat -> Nat -> Prop} {U kid : Nat -> Option Nat} {deg : Nat -> Nat} {top : Nat -> Option Nat} {h g x y t : Nat} {D D' : Nat -> Prop}
theorem FibM.any (m : FibM E n R U kid deg top g (fun _ => True)) (h : Nat) : FibM E n R U kid deg top h (fun _ => True) := by
  refine ⟨m.par, m.lt,?_, m.kidS, m.kidN, m.dg,?_,?_⟩
  · intro x y hx
    rw [m.rel x y hx]
    simp
  · intro k t e
    obtain ⟨h1, _, h3⟩ := m.topS k t e
    exact ⟨h1,fun _ => trivial,fun y a _ b => h3 y a (fun _ => trivial) b⟩
  · intro k e y hy
    exact absurd trivial (m.topN k e y hy).2
theorem FibO.init (n : Nat) (R : Nat -> Nat -> Prop) (hR : ∀ x y, x < n -> (R x y ↔ x = y)) : FibO (fun _ => none) n R (fun _ => none) (fun _ => none) (fun _ => 0) (fun _ => none) := by
  refine ⟨?_,?_,?_,?_,?_,?_,?_,?_⟩
  · intro x p e; cases e
  · intro y e; cases e
  · intro x y hx; rw [hR x y hx]; simp [rootOf, isIn]
  · intro p x e; cases e
  · intro p x e; cases e
  · intro p; rw [kidsN_zero]; intro y e; cases e
  · intro g t e; cases e
  · intro g _ y hy
    obtain ⟨⟨k, e⟩, _⟩ := hy; cases e
theorem FibM.first (m : FibM E n R U kid deg top h (fun _ => True)) (e : top g = some t) : least E g t := by
  obtain ⟨h1, _, h3⟩ := m.topS g t e
  exact m.par.least m.lt h1.1 fun y hy hu hne => h3 y ⟨hy, hu⟩ (fun _ => trivial) hne
theorem FibM.none_of (m : FibM E n R U kid deg top h (fun _ => True)) (e : top g = none) : ∀ x, ¬ isIn E g x := by
  intro x hx
  obtain ⟨t, h1, h2⟩ := m.par.top_of m.lt hx
  exact (m.topN g e t ⟨h2, h1⟩).2 trivial
theorem root_one {k : Nat} (a : rootOf E U g x) (b : rootOf E U k x) : g = k := isIn_one a.1 b.1
theorem rootOf.lt (m : FibM E n R U kid deg top h D) (a : rootOf E U g x) : x < n := m.lt x a.1.some
theorem FibM.insert (m : FibM E n R U kid deg top g (fun _ => True)) (he : E x = none) (k : Int × Nat) : FibM (put E x (some (h, k))) n R U kid deg top h (fun y => y ≠ x) ∨ n <= x := by
  by_cases hxn : n <= x
  · exact .inr hxn
  refine .inl ?_
  have hu := m.par.off he
  have hk := m.par.offKid he
  have hro : ∀ k y, y ≠ x -> (rootOf (put E x (some (h, k))) U g y ↔ rootOf E U g y) := fun k y hy => by
    unfold rootOf; rw [isIn_put_other hy]
  have hr : ∀ g y, y ≠ x -> (rootOf (put E x (some (h, k))) U g y ↔ rootOf E U g y) := fun g y hy => by
    unfold rootOf; rw [isIn_put_other hy]
  have hx : ∀ g, rootOf (put E x (some (h, k))) U g x -> g = h := fun g e => by
    obtain ⟨⟨q, e⟩, _⟩ := e; rw [put_same] at e; cases e; rfl
  have hno : ∀ g, ¬ rootOf E U g x := fun g e => by
    have := e.1.some; rw [he] at this; cases this
  refine ⟨m.par.come he _,?_,?_, m.kidS, m.kidN, m.dg,?_,?_⟩
  · intro y hy
    by_cases c : y = x
    · subst c; omega
    · rw [put_other _ _ _ c] at hy; exact m.lt y hy
  · intro a b ha
    rw [m.rel a b ha]
    have key : (∃ g, rootOf E U g a ∧ rootOf E U g b ∧ (g = h -> True ∧ True)) ↔ ∃ g, rootOf (put E x (some (h, k))) U g a ∧ rootOf (put E x (some (h, k))) U g b ∧ (g = h -> a ≠ x ∧ b ≠ x) := by
      constructor
      · rintro ⟨g, h1, h2, _⟩
        have c : a ≠ x := by rintro rfl; exact hno g h1
        have d : b ≠ x := by rintro rfl; exact hno g h2
        exact ⟨g,(hr g a c).2 h1,(hr g b d).2 h2,fun _ => ⟨c, d⟩⟩
      · rintro ⟨g, h1, h2, h3⟩
        have c : a ≠ x := by rintro rfl; exact (h3 (hx g h1)).1 rfl
        have d : b ≠ x := by rintro rfl; exact (h3 (hx g h2)).2 rfl
        exact ⟨g,(hr g a c).1 h1,(hr g b d).1 h2,fun _ => ⟨trivial, trivial⟩⟩
    rw [<- key]
    simp
  · intro k' t e
    obtain ⟨h1, _, h3⟩ := m.topS k' t e
    have c : t ≠ x := by rintro rfl; exact hno _ h1
    refine ⟨(hr k' t c).2 h1,fun _ => c,fun y hy hd hne => ?_⟩
    have d : y ≠ x := by
      rintro rfl
      exact hd (hx k' hy) rfl
    rw [ahead_put_other c d]
    exact h3 y ((hr k' y d).1 hy) (fun _ => trivial) hne
  · intro k' e y hy
    by_cases d : y = x
    · subst d; exact ⟨hx k' hy,fun q => q rfl⟩
    · exact absurd trivial (m.topN k' e y ((hr k' y d).1 hy)).2
theorem FibM.rootNone (m : FibM E n R U kid deg top h D) (e : top h = none) (hx : rootOf E U h x) : FibM E n R U kid deg (upd top h (some x)) h (fun y => D y ∨ y = x) := by
  have hno : ∀ y, rootOf E U h y -> ¬ D y := fun y hy => (m.topN h e y hy).2
  refine ⟨m.par, m.lt,?_, m.kidS, m.kidN, m.dg,?_,?_⟩
  · intro a b ha
    rw [m.rel a b ha]
    constructor
    · rintro (h1 | h1 | ⟨g, h1, h2, h3⟩)
      · exact .inl h1
      · exact .inr (.inl h1)
      · exact .inr (.inr ⟨g, h1, h2,fun q => ⟨.inl (h3 q).1,.inl (h3 q).2⟩⟩)
    · rintro (h1 | h1 | ⟨g, h1, h2, h3⟩)
      · exact .inl h1
      · exact .inr (.inl h1)
      · by_cases c : g = h
        · subst c
          obtain ⟨q1, q2⟩ := h3 rfl
          rcases q1 with q1 | q1
          · exact absurd q1 (hno _ h1)
          · rcases q2 with q2 | q2
            · exact absurd q2 (hno _ h2)
            · exact .inl (q1.trans q2.symm)
        · exact .inr (.inr ⟨g, h1, h2,fun q => absurd q c⟩)
  · intro g t e1
    by_cases c : g = h
    · subst c
      rw [upd_same] at e1; cases e1
      refine ⟨hx,fun _ => .inr rfl,fun y hy hd hne => ?_⟩
      rcases hd rfl with q | q
      · exact absurd q (hno y hy)
      · exact absurd q hne
    · rw [upd_other _ _ c] at e1
      obtain ⟨h1, h2, h3⟩ := m.topS g t e1
      exact ⟨h1,fun q => absurd q c,fun y hy _ hne => h3 y hy (fun q => absurd q c) hne⟩
  · intro g e1 y hy
    by_cases c : g = h
    · subst c; rw [upd_same] at e1; cases e1
    · rw [upd_other _ _ c] at e1
      exact absurd (m.topN g e1 y hy).1 c
theorem FibM.ringTop (m : FibM E n R U kid deg top h D) (e : top h = some t) (z : Nat) : R t z ↔ rootOf E U h z ∧ D z := by
  obtain ⟨h1, h2, h3⟩ := m.topS h t e
  rw [m.rel t z (h1.lt m)]
  constructor
  · rintro (q | ⟨p, q, _⟩ | ⟨g, q1, q2, q3⟩)
    · subst q; exact ⟨h1, h2 rfl⟩
    · rw [h1.2] at q; cases q
    · have := root_one q1 h1
      subst this
      exact ⟨q2,(q3 rfl).2⟩
  · rintro ⟨q1, q2⟩
    exact .inr (.inr ⟨h, h1, q1,fun _ => ⟨h2 rfl, q2⟩⟩)
theorem FibM.ringLoose (m : FibM E n R U kid deg top h D) (hx : rootOf E U h x) (hd : ¬ D x) (z : Nat) : R x z ↔ x = z := by
  rw [m.rel x z (hx.lt m)]
  constructor
  · rintro (q | ⟨p, q, _⟩ | ⟨g, q1, q2, q3⟩)
    · exact q
    · rw [hx.2] at q; cases q
    · have := root_one q1 hx
      exact absurd (q3 this).1 hd
  · exact fun q => .inl q
theorem FibM.rootSome (m : FibM E n R U kid deg top h D) (e : top h = some t) (hx : rootOf E U h x) (hd : ¬ D x) (hR : ∀ u v, u < n -> (R' u v ↔ R u v ∨ ((R t u ∨ R x u) ∧ (R t v ∨ R x v)))) (t' : Nat)
    (ht : (t' = x ∧ ahead E x t = true) ∨ (t' = t ∧ ahead E x t = false)) : FibM E n R' U kid deg (upd top h (some t')) h (fun y => D y ∨ y = x) := by
  obtain ⟨h1, h2, h3⟩ := m.topS h t e
  have hne : x ≠ t := by rintro rfl; exact hd (h2 rfl)
  refine ⟨m.par, m.lt,?_, m.kidS, m.kidN, m.dg,?_,?_⟩
  · intro a b ha
    rw [hR a b ha, m.rel a b ha, m.ringTop e, m.ringTop e, m.ringLoose hx hd, m.ringLoose hx hd]
    have hin : ∀ z,(rootOf E U h z ∧ D z ∨ x = z) ↔ rootOf E U h z ∧ (D z ∨ z = x) := fun z => by
      constructor
      · rintro (⟨q1, q2⟩ | rfl)
        · exact ⟨q1,.inl q2⟩
        · exact ⟨hx,.inr rfl⟩
      · rintro ⟨q1, q2 | q2⟩
        · exact .inl ⟨q1, q2⟩
        · exact .inr q2.symm
    rw [hin, hin]
    constructor
    · rintro ((q | q | ⟨g, q1, q2, q3⟩) | ⟨⟨q1, q2⟩, q3, q4⟩)
      · exact .inl q
      · exact .inr (.inl q)
      · exact .inr (.inr ⟨g, q1, q2,fun c => ⟨.inl (q3 c).1,.inl (q3 c).2⟩⟩)
      · exact .inr (.inr ⟨h, q1, q3,fun _ => ⟨q2, q4⟩⟩)
    · rintro (q | q | ⟨g, q1, q2, q3⟩)
      · exact .inl (.inl q)
      · exact .inl (.inr (.inl q))
      · by_cases c : g = h
        · subst c; exact .inr ⟨⟨q1,(q3 rfl).1⟩, q2,(q3 rfl).2⟩
        · exact .inl (.inr (.inr ⟨g, q1, q2,fun d => absurd d c⟩))
  · intro g s e1
    by_cases c : g = h
    · subst c
      rw [upd_same] at e1; cases e1
      rcases ht with ⟨rfl, ha⟩ | ⟨rfl, ha⟩
      · refine ⟨hx,fun _ => .inr rfl,fun y hy hd' hney => ?_⟩
        rcases hd' rfl with q | q
        · by_cases d : y = t
          · subst d; exact ha
          · exact ahead_tr ha (h3 y hy (fun _ => q) d)
        · exact absurd q hney
      · refine ⟨h1,fun _ => .inl (h2 rfl),fun y hy hd' hney => ?_⟩
        rcases hd' rfl with q | q
        · exact h3 y hy (fun _ => q) hney
        · subst q
          rcases ahead_tot hx.1.some h1.1.some hne with q | q
          · rw [ha] at q; cases q
          · exact q
    · rw [upd_other _ _ c] at e1
      obtain ⟨h1, h2, h3⟩ := m.topS g s e1
      exact ⟨h1,fun q => absurd q c,fun y hy _ hne => h3 y hy (fun q => absurd q c) hne⟩
  · intro g e1 y hy
    by_cases c : g = h
    · subst c; rw [upd_same] at e1; cases e1
    · rw [upd_other _ _ c] at e1
      exact absurd (m.topN g e1 y hy).1 c
theorem FibM.full (m : FibM E n R U kid deg top h D) (hd : ∀ y, rootOf E U h y -> D y) : FibM E n R U kid deg top h (fun _ => True) := by
  refine ⟨m.par, m.lt,?_, m.kidS, m.kidN, m.dg,?_,?_⟩
  · intro a b ha
    rw [m.rel a b ha]
    constructor
    · rintro (q | q | ⟨g, q1, q2, q3⟩)
      · exact .inl q
      · exact .inr (.inl q)
      · exact .inr (.inr ⟨g, q1, q2,fun _ => ⟨trivial, trivial⟩⟩)
    · rintro (q | q | ⟨g, q1, q2, q3⟩)
      · exact .inl q
      · exact .inr (.inl q)
      · exact .inr (.inr ⟨g, q1, q2,fun c => by subst c; exact ⟨hd a q1, hd b q2⟩⟩)
  · intro g t e
    obtain ⟨h1, h2, h3⟩ := m.topS g t e
    exact ⟨h1,fun _ => trivial,fun y hy _ hne => h3 y hy (fun c => by subst c; exact hd y hy) hne⟩
  · intro g e y hy
    obtain ⟨c, q⟩ := m.topN g e y hy
    subst c
    exact absurd (hd y hy) q
theorem FibM.drop (m : FibM E n R U kid deg top h D) (hx : rootOf E U h x) (hk : kid x = none) (hdx : ¬ D x) (hd : ∀ y, rootOf E U h y -> y ≠ x -> D y) : FibM (put E x none) n R U kid deg top h (fun _ => True) := by
  have hku : ∀ y, U y ≠ some x := fun y e => by
    have := m.kidN x y e; rw [hk] at this; cases this
  have hr : ∀ g y, rootOf (put E x none) U g y ↔ rootOf E U g y ∧ y ≠ x := fun g y => by
    unfold rootOf
    by_cases c : y = x
    · subst c
      constructor
      · rintro ⟨⟨q, e⟩, _⟩; rw [put_same] at e; cases e
      · rintro ⟨_, e⟩; exact absurd rfl e
    · rw [isIn_put_other c]; simp [c]
  refine ⟨m.par.drop hx.2 hku,?_,?_, m.kidS, m.kidN, m.dg,?_,?_⟩
  · intro y hy
    by_cases c : y = x
    · subst c; exact hx.lt m
    · rw [put_other _ _ _ c] at hy; exact m.lt y hy
  · intro a b ha
    rw [m.rel a b ha]
    constructor
    · rintro (q | q | ⟨g, q1, q2, q3⟩)
      · exact .inl q
      · exact .inr (.inl q)
      · have c : a ≠ x := by rintro rfl; exact hdx (q3 (root_one q1 hx)).1
        have d : b ≠ x := by rintro rfl; exact hdx (q3 (root_one q2 hx)).2
        exact .inr (.inr ⟨g,(hr g a).2 ⟨q1, c⟩,(hr g b).2 ⟨q2, d⟩,fun _ => ⟨trivial, trivial⟩⟩)
    · rintro (q | q | ⟨g, q1, q2, q3⟩)
      · exact .inl q
      · exact .inr (.inl q)
      · obtain ⟨q1, c⟩ := (hr g a).1 q1
        obtain ⟨q2, d⟩ := (hr g b).1 q2
        exact .inr (.inr ⟨g, q1, q2,fun e => by subst e; exact ⟨hd a q1 c, hd b q2 d⟩⟩)
  · intro g t e
    obtain ⟨h1, h2, h3⟩ := m.topS g t e
    have c : t ≠ x := by
      rintro rfl
      exact hdx (h2 (root_one h1 hx))
    refine ⟨(hr g t).2 ⟨h1, c⟩,fun _ => trivial,fun y hy _ hne => ?_⟩
    obtain ⟨q1, q2⟩ := (hr g y).1 hy
    rw [ahead_put_other c q2]
    exact h3 y q1 (fun e => by subst e; exact hd y q1 q2) hne
  · intro g e y hy
    obtain ⟨q1, q2⟩ := (hr g y).1 hy
    obtain ⟨c, q⟩ := m.topN g e y q1
    subst c
    exact absurd (hd y q1 q2) q
end
end Go.Proofs.YtkdbjelhkfdfjaaGreatDoor
namespace Go.Proofs.YtkdbjelhkfdfjaaGreatDoor.Ar
open Go.RowKit
structure Inv (S : List (Int × Bool)) (W : List Nat) (next : Nat) (cnt most : Int) : Prop where
  len : S.length <= 65536
  nx : next <= S.length
  m1 : 1 <= most
  m2 : most <= 4294967295
  w : ∀ i ∈ W, i < next ∧ (S.getD i (0, false)).2 = false ∧ (S.getD i (0, false)).1 < most
  nd : W.Nodup
  fresh : ∀ i, next <= i -> S.getD i (0, false) = (0, false)
  used : ∀ i, i < next -> 1 <= (S.getD i (0, false)).1 ∧ (S.getD i (0, false)).1 <= most
  waits : ∀ i, i < next -> (S.getD i (0, false)).2 = false -> (S.getD i (0, false)).1 < most -> i ∈ W
  cnt : cnt = (S.countP fun s => s.2 : Nat)
theorem getD_set_eq {S : List (Int × Bool)} {i : Nat} {x : Int × Bool} (h : i < S.length) : (S.set i x).getD i (0, false) = x := by simp [List.getD, h]
theorem getD_set_ne {S : List (Int × Bool)} {i j : Nat} {x : Int × Bool} (h : i ≠ j) : (S.set i x).getD j (0, false) = S.getD j (0, false) := by simp [List.getD, h]
theorem nodup_len {W : List Nat} {n : Nat} (hd : W.Nodup) (h : ∀ i ∈ W, i < n) : W.length <= n := by
  induction n generalizing W with
  | zero =>
    cases W with
    | nil => simp
    | cons x W => exact absurd (h x (by simp)) (by omega)
  | succ n ih =>
    by_cases hn : n ∈ W
    · have h1 := ih (hd.erase n) (fun i hi => by
        have h2 := (hd.mem_erase_iff).1 hi
        have h3 := h i h2.2
        have h4 := h2.1
        omega)
      rw [List.length_erase_of_mem hn] at h1
      omega
    · have := ih hd (fun i hi => by
        have h3 := h i hi
        have h4 : i ≠ n := fun e => hn (e ▸ hi)
        omega)
      omega
theorem Inv.wlen {S : List (Int × Bool)} {W : List Nat} {next : Nat} {cnt most : Int} (h : Inv S W next cnt most) : W.length <= next := nodup_len h.nd fun i hi => (h.w i hi).1
theorem countP_set {S : List (Int × Bool)} {i : Nat} {x : Int × Bool} (h : i < S.length) :
    (S.set i x).countP (fun s => s.2) + (if (S.getD i (0, false)).2 then 1 else 0) = S.countP (fun s => s.2) + if x.2 then 1 else 0 := by
  induction S generalizing i with
  | nil => simp at h
  | cons s S ih =>
    cases i with
    | zero => simp only [List.set_cons_zero, List.countP_cons, List.getD_cons_zero]; omega
    | succ i =>
      have := ih (i := i) (by simpa using h)
      simp only [List.set_cons_succ, List.countP_cons, List.getD_cons_succ]
      omega
theorem Inv.cntB {S : List (Int × Bool)} {W : List Nat} {next : Nat} {cnt most : Int} (h : Inv S W next cnt most) : 0 <= cnt ∧ cnt <= 65536 := by
  have := List.countP_le_length (p := fun s : Int × Bool => s.2) (l := S)
  have := h.len
  have := h.cnt
  omega
theorem Inv.pick {S : List (Int × Bool)} {W W' : List Nat} {next next' i : Nat} {cnt most : Int} (h : Inv S W next cnt most) (hp : pickS S.length W next = some (i, W', next')) :
    i < S.length ∧ (S.getD i (0, false)).2 = false ∧ 0 <= (S.getD i (0, false)).1 ∧ (S.getD i (0, false)).1 < most ∧ Inv (S.set i ((S.getD i (0, false)).1 + 1, true)) W' next' (cnt + 1) most ∧ i < next' ∧ next <= next' := by
  have hnx := h.nx
  cases hg : W.getLast? with
  | some j =>
    simp only [pickS, hg, Option.some.injEq, Prod.mk.injEq] at hp
    obtain ⟨rfl,rfl,rfl⟩ := hp
    obtain ⟨ys,rfl⟩ := List.getLast?_eq_some_iff.1 hg
    obtain ⟨a1, a2, a3⟩ := h.w j (by simp)
    have hu := h.used j a1
    have hnd := h.nd
    rw [List.nodup_append] at hnd
    have hjy : ∀ x ∈ ys, j ≠ x := fun x hx e => hnd.2.2 x hx j (by simp) e.symm
    refine ⟨by omega, a2,by omega, a3,?_, a1, Nat.le_refl _⟩
    rw [List.dropLast_concat]
    refine ⟨by simpa using h.len,by simpa using hnx, h.m1, h.m2,?_, hnd.1,?_,?_,?_,?_⟩
    · intro x hx
      rw [getD_set_ne (hjy x hx)]
      exact h.w x (by simp [hx])
    · intro x hx
      rw [getD_set_ne (by omega)]
      exact h.fresh x hx
    · intro x hx
      by_cases e : j = x
      · subst e; rw [getD_set_eq (by omega)]; simp only; omega
      · rw [getD_set_ne e]; exact h.used x hx
    · intro x hx h1 h2
      by_cases e : j = x
      · subst e; rw [getD_set_eq (by omega)] at h1; cases h1
      · rw [getD_set_ne e] at h1 h2
        have := h.waits x hx h1 h2
        simp only [List.mem_append, List.mem_singleton] at this
        rcases this with h3 | h3
        · exact h3
        · exact absurd h3.symm e
    · have := countP_set (S := S) (i := j) (x := ((S.getD j (0, false)).1 + 1, true)) (by omega)
      have := h.cnt
      simp only [a2] at *
      simp at *
      omega
  | none =>
    simp only [pickS, hg] at hp
    split at hp
    · rename_i hlt
      simp only [Option.some.injEq, Prod.mk.injEq] at hp
      obtain ⟨rfl,rfl,rfl⟩ := hp
      have hf := h.fresh next (Nat.le_refl _)
      have hW0 : W = [] := List.getLast?_eq_none_iff.1 hg
      subst hW0
      have hm1 := h.m1
      refine ⟨hlt,by rw [hf],by rw [hf]; simp,by rw [hf]; simp only; omega,?_,by omega,by omega⟩
      rw [hf]
      refine ⟨by simpa using h.len,by simp; omega, h.m1, h.m2,by simp,by simp,?_,?_,?_,?_⟩
      · intro x hx
        rw [getD_set_ne (by omega)]
        exact h.fresh x (by omega)
      · intro x hx
        by_cases e : next = x
        · subst e; rw [getD_set_eq hlt]; simp only; omega
        · rw [getD_set_ne e]; exact h.used x (by omega)
      · intro x hx h1 h2
        by_cases e : next = x
        · subst e; rw [getD_set_eq hlt] at h1; cases h1
        · rw [getD_set_ne e] at h1 h2; exact h.waits x (by omega) h1 h2
      · have := countP_set (S := S) (i := next) (x := ((0 : Int) + 1, true)) hlt
        have := h.cnt
        rw [hf] at *
        simp at *
        omega
    · cases hp
theorem Inv.give {S : List (Int × Bool)} {W : List Nat} {next i : Nat} {cnt most gen : Int} (h : Inv S W next cnt most) (hi : i < S.length) (hg : S.getD i (0, false) = (gen, true)) :
    Inv (S.set i (gen, false)) (waitS W i gen most) next (cnt - 1) most ∧ i < next := by
  have hin : i < next := by
    rcases Nat.lt_or_ge i next with h1 | h1
    · exact h1
    · rw [h.fresh i h1] at hg; cases hg
  have hiW : i ∉ W := by intro hw; have := (h.w i hw).2.1; rw [hg] at this; cases this
  have hu := h.used i hin
  rw [hg] at hu
  simp only at hu
  refine ⟨⟨by simpa using h.len,by simpa using h.nx, h.m1, h.m2,?_,?_,?_,?_,?_,?_⟩, hin⟩
  · intro x hx
    by_cases e : i = x
    · subst e
      rw [getD_set_eq hi]
      refine ⟨hin,rfl,?_⟩
      rw [waitS] at hx
      split at hx
      · assumption
      · exact absurd hx hiW
    · rw [getD_set_ne e]
      refine h.w x ?_
      rw [waitS] at hx
      split at hx
      · simp only [List.mem_append, List.mem_singleton] at hx
        rcases hx with hx | hx
        · exact hx
        · exact absurd hx.symm e
      · exact hx
  · rw [waitS]
    split
    · rw [List.nodup_append]
      exact ⟨h.nd,by simp,fun x hx y hy => by simp at hy; subst hy; intro e; subst e; exact hiW hx⟩
    · exact h.nd
  · intro x hx
    rw [getD_set_ne (by omega)]
    exact h.fresh x hx
  · intro x hx
    by_cases e : i = x
    · subst e; rw [getD_set_eq hi]; exact hu
    · rw [getD_set_ne e]; exact h.used x hx
  · intro x hx h1 h2
    by_cases e : i = x
    · subst e
      rw [getD_set_eq hi] at h2
      rw [waitS, if_pos h2]; simp
    · rw [getD_set_ne e] at h1 h2
      have := h.waits x hx h1 h2
      rw [waitS]; split
      · simp [this]
      · exact this
  · have h1 := countP_set (S := S) (i := i) (x := (gen, false)) hi
    have h2 := h.cnt
    rw [hg] at h1
    simp at h1
    omega
theorem Inv.new (n : Nat) (most : Int) (hn : n <= 65536) (h1 : 1 <= most) (h2 : most <= 4294967295) : Inv (List.replicate n (0, false)) [] 0 0 most := by
  have hf : ∀ i,(List.replicate n ((0 : Int), false)).getD i (0, false) = (0, false) := by
    intro i; simp [List.getD, List.getElem?_replicate]; split <;> rfl
  refine ⟨by simpa using hn,by omega, h1, h2,by simp,by simp,fun i _ => hf i,by omega,by omega,?_⟩
  simp [List.countP_replicate]
section
variable {B p : Nat} {O : List Nat} {S S' : List (Int × Bool)} {W W' : List Nat} {next next' : Nat} {cnt cnt' most : Int} {wr w1 : World}
end
section
variable (B p : Nat) (O : List Nat) (S : List (Int × Bool)) (W : List Nat) (next : Nat) (cnt most : Int) (w : World)
end
end Go.Proofs.YtkdbjelhkfdfjaaGreatDoor.Ar
namespace Go.Proofs.YtkdbjelhkfdfjaaGreatDoor
open Go.RowKit
def AreAt (w : World) (F : List Nat) (p cap : Nat) (most : Int) (G : Nat -> Nat) (V : Nat -> Bool) : Prop :=
  ∃ (gs : Nat) (ao : Option Addr) (cw : Nat) (S : List (Int × Bool)) (W : List Nat) (next : Nat) (cnt : Int), F = Ar.fp p gs ao ∧ Ar.ArenaAt w p gs ao cw S W next cnt most ∧ Ar.Inv S W next cnt most ∧ S.length = cap ∧ ∀ x, x < cap -> S.getD x (0, false) = ((G x : Int), V x)
section
variable {w w' : World} {F T : List Nat} {p cap : Nat} {most : Int} {G : Nat -> Nat} {V : Nat -> Bool}
theorem AreAt.lt (h : AreAt w F p cap most G V) : ∀ b ∈ F, b < w.heap.size := by
  obtain ⟨gs, ao, cw, S, W, next, cnt,rfl, a, i, l, g⟩ := h; exact a.lt
theorem AreAt.keep (h : AreAt w F p cap most G V) (k : Keeps T w w') (hT : ∀ b ∈ F, b ∉ T) : AreAt w' F p cap most G V := by
  obtain ⟨gs, ao, cw, S, W, next, cnt,rfl, a, i, l, g⟩ := h
  exact ⟨gs, ao, cw, S, W, next, cnt,rfl, a.keep k hT, i, l, g⟩
theorem fp_moved {gs : Nat} {ao ao' : Option Addr} (hk : Keeps (Ar.fp p gs ao) w w') (hao : ∀ x, ao' = some x -> ao = some x ∨ w.heap.size <= x.block) (hl : ∀ b ∈ Ar.fp p gs ao', b < w'.heap.size) : Moved (Ar.fp p gs ao) w (Ar.fp p gs ao') w' := by
  refine ⟨hk,fun b hb => ?_, hl⟩
  simp only [Ar.fp, List.mem_cons, List.mem_map, Option.mem_toList] at hb ⊢
  rcases hb with c | c | ⟨q, c,rfl⟩
  · exact .inl (.inl c)
  · exact .inl (.inr (.inl c))
  · rcases hao q c with d | d
    · exact .inl (.inr (.inr ⟨q, d,rfl⟩))
    · exact .inr d
theorem are_take (h : AreAt w F p cap most G V) (hx : ∃ x, x < cap ∧ V x = false ∧ (G x : Int) < most) :
    Calls Tryz.prog 36 #[.pointer (some ⟨p,0,none⟩)] w fun e w' => ∃ i : Nat, i < cap ∧ V i = false ∧ (G i : Int) < most ∧ e = .returned (.tuple #[.agg #[.int .i64 i,.int .u32 ((G i : Int) + 1)],.int .i64 0]) ∧
      ∃ F', AreAt w' F' p cap most (upd G i (G i + 1)) (upd V i true) ∧ Moved F w F' w' := by
  obtain ⟨gs, ao, cw, S, W, next, cnt,rfl, a, iv, l, g⟩ := h
  have hwl := iv.wlen
  have hnx := iv.nx
  have hln := iv.len
  have hm2 := iv.m2
  obtain ⟨hc0, hc1⟩ := iv.cntB
  cases hp : Ar.pickS S.length W next with
  | none =>
    exfalso
    obtain ⟨x, hx, hv, hg⟩ := hx
    have hgx := g x hx
    unfold Ar.pickS at hp
    cases hW : W.getLast? with
    | some j => rw [hW] at hp; cases hp
    | none =>
      rw [hW] at hp
      have hWn : W = [] := List.getLast?_eq_none_iff.1 hW
      simp only at hp
      split at hp
      · cases hp
      · rename_i hlt
        have := iv.waits x (by omega) (by rw [hgx]; exact hv) (by rw [hgx]; exact hg)
        rw [hWn] at this; cases this
  | some r =>
    obtain ⟨i, W', next'⟩ := r
    obtain ⟨h1, h2, h3, h4, h5, h6, h7⟩ := iv.pick hp
    have hgi := g i (by omega)
    rw [hgi] at h2 h3 h4 h5
    refine (Ar.take_calls w p gs ao cw S W next cnt most a (by omega) (by omega) hnx i W' next' hp h1 (G i) (by rw [hgi]) h3 (by omega) (by omega) (by omega)).mono ?_
    rintro e w' ⟨rfl, ao', cw', a', k', n'⟩
    refine ⟨i,by omega, h2, h4,rfl, _,⟨gs, ao', cw', _, W', next', cnt + 1,rfl, a', h5,by simpa using l,fun x hx => ?_⟩, fp_moved k' n' a'.lt⟩
    by_cases c : x = i
    · subst c; rw [Ar.getD_set_eq (by omega), upd_same, upd_same]; simp
    · rw [Ar.getD_set_ne (fun q => c q.symm), upd_other _ _ c, upd_other _ _ c]; exact g x hx
theorem are_at (h : AreAt w F p cap most G V) (x : Nat) (hx : x < cap) (hv : V x = true) :
    Calls Tryz.prog 86 #[.pointer (some ⟨p,0,none⟩),.int .i64 x] w fun e w' => e = .returned (.tuple #[.agg #[.int .i64 x,.int .u32 (G x : Nat)],.bool true]) ∧ Keeps [] w w' := by
  obtain ⟨gs, ao, cw, S, W, next, cnt,rfl, a, iv, l, g⟩ := h
  have hln := iv.len
  refine (Ar.at_yes w p gs ao cw S W next cnt most x (G x) a (by omega) ?_).mono ?_
  · unfold Ar.atS
    rw [Int.toNat_natCast, g x hx, if_pos ⟨by omega,by omega, hv⟩]
  · rintro e w' ⟨rfl, b⟩
    exact ⟨rfl, Below.keeps b (Nat.le_refl _) _⟩
theorem are_live (h : AreAt w F p cap most G V) (x : Nat) (hx : x < cap) (hv : V x = true) :
    Calls Tryz.prog 83 #[.pointer (some ⟨p,0,none⟩),.agg #[.int .i64 x,.int .u32 (G x : Nat)]] w fun e w' => e = .returned (.bool true) ∧ Keeps [] w w' := by
  obtain ⟨gs, ao, cw, S, W, next, cnt,rfl, a, iv, l, g⟩ := h
  have hln := iv.len
  have := Ar.live_calls w p gs ao cw S W next cnt most x (G x) a (by omega)
  have hb : Ar.liveB S x (G x) = true := by
    unfold Ar.liveB
    rw [Int.toNat_natCast, g x hx, hv]
    simp
    omega
  rw [hb] at this
  refine this.mono ?_
  rintro e w' ⟨rfl, b⟩
  exact ⟨rfl, Below.keeps b (Nat.le_refl _) _⟩
theorem are_give (h : AreAt w F p cap most G V) (x : Nat) (hx : x < cap) (hv : V x = true) :
    Calls Tryz.prog 50 #[.pointer (some ⟨p,0,none⟩),.agg #[.int .i64 x,.int .u32 (G x : Nat)]] w fun e w' => e = .returned (.int .i64 0) ∧ ∃ F', AreAt w' F' p cap most G (upd V x false) ∧ Moved F w F' w' := by
  obtain ⟨gs, ao, cw, S, W, next, cnt,rfl, a, iv, l, g⟩ := h
  have hwl := iv.wlen
  have hnx := iv.nx
  have hln := iv.len
  obtain ⟨hc0, hc1⟩ := iv.cntB
  have hgx : S.getD x (0, false) = ((G x : Int), true) := by rw [g x hx, hv]
  obtain ⟨i1, i2⟩ := iv.give (i := x) (by omega) hgx
  refine (Ar.give_live w p gs ao cw S W next cnt most (G x) a x (by omega) (by omega) (by omega) hgx (by omega) (by omega)).mono ?_
  rintro e w' ⟨rfl, ao', cw', a', k', n'⟩
  refine ⟨rfl, _,⟨gs, ao', cw', _, _, next, cnt - 1,rfl, a', i1,by simpa using l,fun y hy => ?_⟩, fp_moved k' n' a'.lt⟩
  by_cases c : y = x
  · subst c; rw [Ar.getD_set_eq (by omega), upd_same]
  · rw [Ar.getD_set_ne (fun q => c q.symm), upd_other _ _ c]; exact g y hy
theorem are_new (w : World) (n : Nat) (most : Int) (hn : n <= 65536) (h1 : 1 <= most) (h2 : most <= 4294967295) :
    Calls Tryz.prog 34 #[.int .i64 n,.int .u32 most] w fun e w' => ∃ F p, e = .returned (.tuple #[.pointer (some ⟨p,0,none⟩),.int .i64 0]) ∧ AreAt w' F p n most (fun _ => 0) (fun _ => false) ∧ Keeps [] w w' ∧ ∀ b ∈ F, w.heap.size <= b := by
  refine (Ar.new_yes w n most hn (by omega)).mono ?_
  rintro e w' ⟨p, gs,rfl, a, k, l1, l2⟩
  refine ⟨_, p,rfl,⟨gs, none, 0, _, [], 0,0,rfl, a, Ar.Inv.new n most hn h1 h2,by simp,fun x hx => ?_⟩, k,fun b hb => ?_⟩
  · simp [List.getD, hx]
  · simp only [Ar.fp, List.mem_cons, List.mem_map, Option.mem_toList] at hb
    rcases hb with rfl | rfl | ⟨q, c, _⟩
    · exact l2
    · exact l1
    · cases c
end
end Go.Proofs.YtkdbjelhkfdfjaaGreatDoor
namespace Go.Proofs.YtkdbjelhkfdfjaaGreatDoor
open Go.RowKit Go.Shelf
attribute [local go_sem] Oper.semAt_some
abbrev outA : List UInt8 := [115,111,114,116,32,49,32,48]
abbrev outK : List UInt8 := [111,107]
def DoGives (a : Int) (d : ByteArray) (o : List UInt8) (a' : Int) : Prop := ∀ (db : Nat) (u : World), u.heap[db]? = some (deskO a 0 (.pointer none)) ->
  Calls Tryz.prog 46 #[.pointer (some ⟨db,0,none⟩),.string d] u fun e w' => e = .returned (.string ⟨o.toArray⟩) ∧ w'.heap[db]? = some (deskO a' 0 (.pointer none)) ∧ Keeps [db] u w'
def RunT (pre : List ByteArray) (a : Int) (t : List UInt8) : Prop :=
  (pre = [] ∧ a = 1 ∧ t = []) ∨ (pre = [lineA] ∧ a = 1 ∧ t = outA ++ [10]) ∨ (pre = [lineA, lineK] ∧ a = 7 ∧ t = outA ++ [10] ++ (outK ++ [10])) ∨ (pre = [lineA, lineK, lineA] ∧ a = 7 ∧ t = outA ++ [10] ++ (outK ++ [10]) ++ (outA ++ [10]))
theorem RunT.len {pre : List ByteArray} {a : Int} {t : List UInt8} (h : RunT pre a t) : t.length <= 30 := by
  rcases h with ⟨_, _,rfl⟩ | ⟨_, _,rfl⟩ | ⟨_, _,rfl⟩ | ⟨_, _,rfl⟩ <;> decide
theorem RunT.next {pre : List ByteArray} {a : Int} {t : List UInt8} {x : ByteArray} (h : RunT pre a t) (hx : pre ++ [x] <+: [lineA, lineK, lineA])
    (d1 : DoGives 1 ⟨#[115,111,114,116,32,50,32,49]⟩ outA 1) (d7 : DoGives 7 ⟨#[115,111,114,116,32,50,32,49]⟩ outA 7) (dk : DoGives 1 ⟨#[107,105,110,100,32,115,107,101,119]⟩ outK 7) :
    ∃ d o a',(∀ u, Calls Tryz.prog 47 #[.string x,.string ⟨#[10]⟩] u fun e w' => e = .returned (.string d) ∧ u = w') ∧ DoGives a d o a' ∧ RunT (pre ++ [x]) a' (t ++ (o ++ [10])) ∧ o.length <= 8 := by
  obtain ⟨s, hs⟩ := hx
  rcases h with ⟨rfl,rfl,rfl⟩ | ⟨rfl,rfl,rfl⟩ | ⟨rfl,rfl,rfl⟩ | ⟨rfl,rfl,rfl⟩
  · simp only [List.nil_append, List.singleton_append, List.cons.injEq] at hs
    obtain rfl := hs.1
    exact ⟨_, _, _, trim_A, d1,.inr (.inl ⟨rfl,rfl,rfl⟩),by decide⟩
  · simp only [List.nil_append, List.cons_append, List.cons.injEq] at hs
    obtain rfl := hs.2.1
    exact ⟨_, _, _, trim_K, dk,.inr (.inr (.inl ⟨rfl,rfl,rfl⟩)),by decide⟩
  · simp only [List.nil_append, List.cons_append, List.cons.injEq] at hs
    obtain rfl := hs.2.2.1
    exact ⟨_, _, _, trim_A, d7,.inr (.inr (.inr ⟨rfl,rfl,rfl⟩)),by decide⟩
  · have := congrArg List.length hs
    simp at this
def RunI (w : World) (B db dp bp : Nat) (pre : List ByteArray) (W : World) : Prop :=
  ∃ (a : Int) (t : List UInt8) (v : Value), RunT pre a t ∧ W.heap[db]? = some (deskO a 0 (.pointer none)) ∧ W.heap[dp]? = some (.cells #[.pointer (some ⟨db,0,none⟩)] 117 (0,0)) ∧
    BldAt W bp t v ∧ (∀ b, v.ownBlock = some b -> B <= b) ∧ Keeps [] w W ∧ B <= W.heap.size
section
variable (w : World)
theorem new_calls : Calls Tryz.prog 43 #[] w fun e w' => e = .returned (.pointer (some ⟨w.heap.size,0,none⟩)) ∧ w' = w.alloc (deskO 1 0 (.pointer none)) := by
  go_enter Tryz.func43, Tryz.ntmps43
  go_wp2_with fail
  go_ret
  exact ⟨rfl,rfl⟩
theorem seqlines_calls : Calls Tryz.prog 44 #[.string textA] w fun e w' => e = .returned (.func (.func 75) #[] #[.pointer (some ⟨w.heap.size,0,none⟩)]) ∧ w' = w.alloc (.cells #[.string textA] 9 (0,0)) := by
  have hmf : ∀ (fn : Fn) (first cap : Array Value) (w : World),(Instr.makeFunc fn first cap).run Tryz.prog w = .ok (.func fn first cap) w := fun _ _ _ _ => rfl
  go_enter Tryz.func44, Tryz.ntmps44
  go_wp2_with fail
  go_ret
  exact ⟨rfl,rfl⟩
end
theorem RunI.own {w : World} {B db dp bp : Nat} (hB : w.heap.size <= B) : OwnFrom B (RunI w B db dp bp) := by
  rintro pre W W' row ⟨a, t, v, h1, h2, h3, h4, h5, h6, h7⟩ hg hr
  have hr' : ∀ r, row = some r -> ∃ o : Obj, W.heap[r]? = some o ∧ o.isCells = false := fun r e => (hr r e).2
  refine ⟨a, t, v, h1,(grownBy_keeps_cells hg hr' h2 rfl).trans h2,(grownBy_keeps_cells hg hr' h3 rfl).trans h3,?_, h5, h6.grown hg (fun k e => .inr (Nat.le_trans hB (hr k e).1)), Nat.le_trans h7 hg.size⟩
  obtain ⟨p, g1, g2, g3, g4⟩ := h4
  refine ⟨p,(grownBy_keeps_cells hg hr' g1 rfl).trans g1, g2,⟨g3.1,?_⟩, g4⟩
  rcases g3.2 with c | ⟨g, cap, cur, e, hb, hgg, r⟩
  · exact .inl c
  · exact .inr ⟨g, cap, cur, e, hb,(grownBy_keeps_cells hg hr' hgg rfl).trans hgg, r⟩
theorem RunI.cell {w : World} {B db dp bp c : Nat} (hc : c < B) (hcw : w.heap.size <= c) (h1 : c ≠ db) (h2 : c ≠ dp) (h3 : c ≠ bp) : ∀ s X v, RunI w B db dp bp s X -> RunI w B db dp bp s (X.setCell ⟨c,0,none⟩ v) := by
  rintro pre W u ⟨a, t, v, g1, g2, g3, g4, g5, g6, g7⟩
  have k : Keeps [c] W (W.setCell ⟨c,0,none⟩ u) := (Keeps.refl _ _).setCell (p := ⟨c,0,none⟩) (.inl (by simp)) _
  exact ⟨a, t, v, g1, k.blk g2 (by simpa using h1.symm), k.blk g3 (by simpa using h2.symm), g4.keep k (by simpa using h3.symm) (fun b e => by have := g5 b e; simp; omega), g5, g6.setCell (p := ⟨c,0,none⟩) (.inr hcw) u, Nat.le_trans g7 k.size⟩
theorem keeps_from {S : List Nat} {B : Nat} {W X : World} (k : Keeps S W X) (h : ∀ b ∈ S, b < B ∨ ∃ o : Obj, W.heap[b]? = some o ∧ o.isCells = true) : KeepsFrom B W X :=
  ⟨k.size,fun i o hi ho hc => k.blk ho (fun hm => by
    rcases h i hm with e | ⟨o', e1, e2⟩
    · omega
    · rw [ho] at e1; cases e1; rw [hc] at e2; cases e2)⟩
theorem run_calls (w : World) (d1 : DoGives 1 ⟨#[115,111,114,116,32,50,32,49]⟩ outA 1) (d7 : DoGives 7 ⟨#[115,111,114,116,32,50,32,49]⟩ outA 7) (dk : DoGives 1 ⟨#[107,105,110,100,32,115,107,101,119]⟩ outK 7) :
    Calls Tryz.prog 18 #[.string textA] w fun e w' => e = .returned (.string ⟨(outA ++ [10] ++ (outK ++ [10]) ++ (outA ++ [10])).toArray⟩) ∧ Keeps [] w w' := by
  refine (callsIn_wide (n := 9)).1 ?_
  refine callsIn_of_wp_marks Tryz.func18 rfl trivial ?_ rfl
  simp only [Tryz.ntmps18, List.size_toArray, List.length_cons, List.length_nil, Nat.reduceAdd, Nat.reduceSub, Array.replicate_succ, Array.replicate_zero, List.push_toArray, List.append_toArray, List.nil_append, List.cons_append]
  have hsz : ¬ (65536 : Int) < (textA.size : Int) := by decide
  gi_wp2_with (first
    | (refine ⟨trivial,?_⟩; gi_at_call 43; refine (callsIn_wide.2 (new_calls _)).mono ?_; rintro e w' ⟨rfl,rfl⟩)
    | (refine ⟨trivial,?_⟩; gi_at_call 44; refine (callsIn_wide.2 (seqlines_calls _)).mono ?_; rintro e w' ⟨rfl,rfl⟩))
  obtain ⟨W0, hW0⟩ : ∃ W0, W0 = (((w.alloc (deskO 1 0 (.pointer none))).alloc (.cells #[.pointer (some ⟨w.heap.size,0,none⟩)] 117 (0,0))).alloc (.cells #[.pointer none,.slice none 0 0] 122 (0,0))).alloc (.cells #[.string textA] 9 (0,0)) := ⟨_,rfl⟩
  have hs0 : W0.heap.size = w.heap.size + 4 := by rw [hW0]; simp
  have b0 : W0.heap[w.heap.size]? = some (deskO 1 0 (.pointer none)) := by
    rw [hW0]; exact (blk_alloc_old _ (by simp <;> omega)).trans ((blk_alloc_old _ (by simp <;> omega)).trans ((blk_alloc_old _ (by simp)).trans (blk_alloc_new _)))
  have b1 : W0.heap[w.heap.size + 1]? = some (.cells #[.pointer (some ⟨w.heap.size,0,none⟩)] 117 (0,0)) := by
    rw [hW0]
    have := blk_alloc_new (w := w.alloc (deskO 1 0 (.pointer none))) (.cells #[.pointer (some ⟨w.heap.size,0,none⟩)] 117 (0,0))
    rw [World.size_alloc] at this
    exact (blk_alloc_old _ (by simp <;> omega)).trans ((blk_alloc_old _ (by simp)).trans this)
  have b2 : BldAt W0 (w.heap.size + 1 + 1) [] (.slice none 0 0) := by
    have := BldAt.new ((w.alloc (deskO 1 0 (.pointer none))).alloc (.cells #[.pointer (some ⟨w.heap.size,0,none⟩)] 117 (0,0)))
    rw [World.size_alloc, World.size_alloc] at this
    rw [hW0]
    exact this.keep ((Keeps.refl [] _).alloc _) (by simp) (by simp [Value.ownBlock])
  have b3 : W0.heap[w.heap.size + 1 + 1 + 1]? = some (.cells #[.string textA] 9 (0,0)) := by
    rw [hW0]
    have := blk_alloc_new (w := ((w.alloc (deskO 1 0 (.pointer none))).alloc (.cells #[.pointer (some ⟨w.heap.size,0,none⟩)] 117 (0,0))).alloc (.cells #[.pointer none,.slice none 0 0] 122 (0,0))) (.cells #[.string textA] 9 (0,0))
    rw [World.size_alloc, World.size_alloc, World.size_alloc] at this
    exact this
  have kk : Keeps [] w W0 := by rw [hW0]; exact ((((Keeps.refl _ _).alloc _).alloc _).alloc _).alloc _
  rw [<- hW0]
  clear hW0
  obtain ⟨N, hN⟩ : ∃ N, N = w.heap.size := ⟨_,rfl⟩
  rw [<- hN] at hs0 b0 b1 b2 b3 ⊢
  have HN := Lib.hid hN
  have HK := Lib.hid kk
  clear hN kk
  have hseq := lines_seq 8 (by omega) W0 (N + 1 + 1 + 1) b3
  have h0 : RunI w W0.heap.size N (N + 1) (N + 1 + 1) [] W0 := ⟨1, [],.slice none 0 0,.inl ⟨rfl,rfl,rfl⟩, b0, b1, b2,by simp [Value.ownBlock], HK.out, Nat.le_refl _⟩
  refine range_cell (F := Fence.wide) (n := 9) rfl (by omega) (gf := 75) (lb := #[.pointer (some ⟨N + 1 + 1 + 1,0,none⟩)]) rfl trivial (enters_of Tryz.func75 (by kernel_rfl) rfl) (c := N + 1 + 1 + 1) (L := [lineA, lineK, lineA]) (by omega) hseq (fun _ => rfl)
    (RunI w W0.heap.size N (N + 1) (N + 1 + 1)) (RunI.own (by have := HK.out.size; omega)) (RunI.cell (by omega) (by have := HN.out; omega) (by omega) (by omega) (by omega)) h0
    (fun x => { tmps := #[.string textA, undef,.string ⟨#[]⟩,.pointer (some ⟨N + 1,0,none⟩),.pointer (some ⟨N + 1 + 1,0,none⟩),.string x,.string textA,.int .i64 28,.bool false, undef, undef,.pointer (some ⟨N,0,none⟩),.string textA,.func (.func 75) #[] #[.pointer (some ⟨N + 1 + 1 + 1,0,none⟩)],.string x, undef, undef, undef, undef, undef, undef, undef], defers := [] }) ?assign ?body ?done
  case assign =>
    intro l x W K hK
    gi_wp2
    exact hK
  case body =>
    rintro l pre x W ⟨a, t, v, h1, h2, h3, h4, h5, h6, hsW⟩ hpre
    rw [hs0] at h5 hsW
    have hl := h1.len
    obtain ⟨d, o, a', ht, hd, hn, ho⟩ := h1.next hpre d1 d7 dk
    have hmx : Tryz.prog.follows .mixedOrders = true := by kernel_rfl
    have hq : ¬ 9223372036854775807 < o.length + 1 := by omega
    have e3 : W.cell? ⟨N + 1,0,none⟩ = some (.pointer (some ⟨N,0,none⟩)) := by rw [cell_of_blk h3]; rfl
    have hsl : ((⟨o.toArray⟩ : ByteArray) ++ ⟨#[10]⟩).data.toList = o ++ [10] := by
      rw [show ((⟨o.toArray⟩ : ByteArray) ++ ⟨#[10]⟩) = ByteArray.mk (o ++ [10]).toArray from ByteArray.mk_append_mk o [10]]
    have hss : ((⟨o.toArray⟩ : ByteArray) ++ ⟨#[10]⟩).size = o.length + 1 := by
      rw [show ((⟨o.toArray⟩ : ByteArray) ++ ⟨#[10]⟩) = ByteArray.mk (o ++ [10]).toArray from ByteArray.mk_append_mk o [10]]
      simp [ByteArray.size]
    have hdo := hd N W.drew h2
    have hfin : ∀ w1, w1.heap[N]? = some (deskO a' 0 (.pointer none)) -> Keeps [N] W.drew w1 ->
        Calls Tryz.prog 45 #[.pointer (some ⟨N + 1 + 1,0,none⟩),.string (⟨o.toArray⟩ ++ ⟨#[10]⟩)] w1 fun e w2 => (∃ r, e = .returned r) ∧ Hid (KeepsFrom (N + 4) W w2 ∧ w2.heap[N + 1 + 1 + 1]? = W.heap[N + 1 + 1 + 1]? ∧ RunI w (N + 4) N (N + 1) (N + 1 + 1) (pre ++ [x]) w2) := by
      intro w1 g1 k1
      have k1' : Keeps [N] W w1 := ⟨k1.os, k1.tape, k1.output, k1.size, k1.block⟩
      have hb1 : BldAt w1 (N + 1 + 1) t v := h4.keep k1' (by simp <;> omega) (fun b e => by have := h5 b e; simp; omega)
      have hsz0 : N + 4 <= W.heap.size := hsW
      refine (bld_write w1 (N + 1 + 1) t v hb1 _ (by rw [hss]; omega) (N + 4) (Nat.le_trans hsz0 k1'.size) h5).mono ?_
      rintro e w2 ⟨v',rfl, hb2, k2, hv2⟩
      rw [hsl] at hb2
      have hcell : ∀ b, v.ownBlock = some b -> b < W.heap.size ∧ ∃ o : Obj, W.heap[b]? = some o ∧ o.isCells = true := fun b e => by
        obtain ⟨cur, hc⟩ := h4.rowBlk e
        exact ⟨lt_of_block hc, _, hc,rfl⟩
      have kAll : Keeps (N :: (N + 1 + 1) :: v.ownBlock.toList) W w2 := (k1'.mono (T := N :: (N + 1 + 1) :: v.ownBlock.toList) (fun x hx => .inl (by simp at hx; simp [hx]))).trans k2 (fun x hx => .inl (by simp at hx ⊢; exact .inr hx))
      have hmem : ∀ x, x ∈ v.ownBlock.toList -> N + 4 <= x := fun x hx => h5 x (by simpa [Option.mem_toList] using hx)
      have hnot : ∀ x, N <= x -> x < N + 4 -> x ≠ N -> x ≠ N + 1 + 1 -> x ∉ N :: (N + 1 + 1) :: v.ownBlock.toList := fun x h1 h2 h3 h4 hm => by
        rcases List.mem_cons.1 hm with e | hm
        · exact h3 e
        · rcases List.mem_cons.1 hm with e | hm
          · exact h4 e
          · have := hmem x hm; omega
      refine ⟨⟨_,rfl⟩, keeps_from kAll ?_, kAll.block _ (by omega) (hnot _ (by omega) (by omega) (by omega) (by omega)), a', _, v', hn,?_,?_, hb2, hv2,?_⟩
      · intro b hb
        rcases List.mem_cons.1 hb with rfl | hb
        · exact .inl (by omega)
        · rcases List.mem_cons.1 hb with rfl | hb
          · exact .inl (by omega)
          · exact .inr (hcell b (by simpa [Option.mem_toList] using hb)).2
      · refine k2.blk g1 (fun hm => ?_)
        rcases List.mem_cons.1 hm with e | hm
        · omega
        · have := hmem _ hm; omega
      · exact kAll.blk h3 (hnot _ (by omega) (by omega) (by omega) (by omega))
      · refine ⟨h6.trans kAll (fun x hx => .inr ?_), Nat.le_trans hsz0 kAll.size⟩
        rcases List.mem_cons.1 hx with rfl | hx
        · rw [<- HN.out]; omega
        · rcases List.mem_cons.1 hx with rfl | hx
          · have := HN.out; omega
          · have := HN.out; have := hmem x hx; omega
    have HF := Lib.hid hfin
    clear hfin hd hn h1 h2 h3 h4 h5 h6 hseq h0 b0 b1 b2 b3 hsl hss d1 d7 dk hpre hsz
    gi_wp2
    gi_region_with_o (first
      | (refine ⟨trivial,?_⟩; gi_at_call 47; refine (CallsIn.inRound l (callsIn_wide.2 (ht _))).mono ?_; rintro e w' ⟨rfl,rfl⟩)
      | (refine ⟨trivial,?_⟩; gi_at_call 46; refine (CallsIn.inRound l (callsIn_wide.2 hdo)).mono ?_; rintro e w1 ⟨rfl, y1, y2⟩; have z1 := HF.out w1 y1 y2)
      | (refine ⟨trivial,?_⟩; gi_at_call 45; refine (CallsIn.inRound l (callsIn_wide.2 z1)).mono ?_; rintro e w2 ⟨⟨r,rfl⟩, z2⟩))
    all_goals
      rw [hs0]
      exact z2.out
  case done =>
    rintro D W hD ⟨a, t, v, h1, h2, h3, h4, h5, h6, hsW⟩ hK
    have ht : t = outA ++ [10] ++ (outK ++ [10]) ++ (outA ++ [10]) := by
      rcases h1 with ⟨e, _⟩ | ⟨e, _⟩ | ⟨e, _⟩ | ⟨_, _, e⟩
      · cases e
      · cases e
      · cases e
      · exact e
    subst ht
    have hst := bld_string W (N + 1 + 1) _ v h4 (by simp) (by decide)
    have hfin : ∀ w2, Keeps v.ownBlock.toList W w2 -> w2.heap[D]? = some (.deferred (some [])) ∧ Hid (Keeps [] w (w2.putObj D (.deferred none))) := by
      intro w2 k2
      have hmem : ∀ x, x ∈ v.ownBlock.toList -> N + 4 <= x := fun x hx => by rw [<- hs0]; exact h5 x (by simpa [Option.mem_toList] using hx)
      refine ⟨k2.blk hK (fun hm => ?_),?_⟩
      · obtain ⟨cur, hc⟩ := h4.rowBlk (b := D) (by simpa [Option.mem_toList] using hm)
        rw [hK] at hc; cases hc
      · refine (h6.trans k2 (fun x hx => .inr ?_)).grown (grownBy_putObj' w2 D (.deferred none)) (fun k e => .inr ?_)
        · have := hmem x hx; have := HN.out; omega
        · cases e; have := HN.out; omega
    have HF := Lib.hid hfin
    clear hfin h1 h2 h3 h4 h5 h6 hsW hK hseq h0 b0 b1 b2 b3 d1 d7 dk
    gi_wp2_with (refine ⟨trivial,?_⟩; gi_at_call 48; refine (callsIn_wide.2 hst).mono ?_; rintro e w2 ⟨rfl, k2⟩; obtain ⟨z1, z2⟩ := HF.out w2 k2; clear k2)
    refine ⟨by simp,.inl ⟨_, _,rfl, run_takeDeferred z1,?_⟩⟩
    exact ⟨_, results_tmp rfl _ _ _,rfl, z2.out⟩
end Go.Proofs.YtkdbjelhkfdfjaaGreatDoor
namespace Go.Proofs.YtkdbjelhkfdfjaaGreatDoor
open Go.RowKit
theorem alive_of (w : World) (d1 : DoGives 1 ⟨#[115,111,114,116,32,50,32,49]⟩ outA 1) (d7 : DoGives 7 ⟨#[115,111,114,116,32,50,32,49]⟩ outA 7) (dk : DoGives 1 ⟨#[107,105,110,100,32,115,107,101,119]⟩ outK 7) :
    Calls Tryz.prog 7 #[] w fun e w' => e = .returned (.bool true) ∧ Keeps [] w w' := by
  have hrun := run_calls w d1 d7 dk
  have hk := kinds_calls
  clear d1 d7 dk
  go_enter Tryz.func7, Tryz.ntmps7
  go_wp2_with (first
    | (go_at_call 18; refine hrun.mono ?_; rintro e w1 ⟨rfl, k1⟩; have K1 := Lib.hid k1; clear k1)
    | (go_at_call 21; refine (hk _).mono ?_; rintro e w2 ⟨ao, ca,rfl, k2⟩; have K2 := Lib.hid k2; clear k2))
  go_ret
  exact ⟨rfl, K1.out.trans K2.out (by simp)⟩
end Go.Proofs.YtkdbjelhkfdfjaaGreatDoor


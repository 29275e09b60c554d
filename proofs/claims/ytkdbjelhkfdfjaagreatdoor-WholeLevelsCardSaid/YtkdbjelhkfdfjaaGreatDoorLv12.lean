/-
  Contracts that the law rests on. Conditions: none.
-/
import Derived.Test.YtkdbjelhkfdfjaaGreatDoorLv03
import Derived.Test.YtkdbjelhkfdfjaaGreatDoorLv07
import Derived.Test.YtkdbjelhkfdfjaaGreatDoorLv09
import Derived.Test.YtkdbjelhkfdfjaaGreatDoorLv11
import Derived.Defers
import Derived.LoopIn
import Derived.LoopNIn
import Derived.OwnWalkIn
import Derived.RangeFuncBound
import Derived.RangeFuncCalls
import Derived.RangeFuncLeaves
import Derived.RangeFuncNested
import Derived.Recover
import Derived.Shelf.Abstract
import Derived.Shelf.RegionOpen
import Derived.Sort.LoopGhostIn
import Derived.TacticsInMore
set_option linter.unusedVariables false
set_option maxRecDepth 100000
set_option maxHeartbeats 32000000
namespace Go.Proofs.YtkdbjelhkfdfjaaGreatDoor
def desc (E : Ent) : List Nat -> Prop
  | [] => True
  | y :: l => (∀ x, l.head? = some x -> ahead E x y = true) ∧ desc E l
structure Hd where
  h : Nat
  fx : Nat -> Prop
  lo : Nat -> Prop
abbrev Hd.of (h : Nat) : Hd := ⟨h,fun _ => False,fun _ => False⟩
instance : Coe Nat Hd := ⟨Hd.of⟩
structure Zip (E : Ent) (L R U : Nat -> Option Nat) (To : Nat -> Prop) (L0 R0 : Nat -> Option Nat) (h : Hd) (S : List Nat) (a b : Option Nat) : Prop where
  bin : Bin E L R U (fun y => To y ∨ y ∈ S ∨ a = some y ∨ b = some y)
  nd : S.Nodup
  na : ∀ y, a = some y -> y ∉ S ∧ ¬ To y ∧ isIn E h.h y
  nb : ∀ y, b = some y -> y ∉ S ∧ ¬ To y ∧ isIn E h.h y
  ab : ∀ y, a = some y -> b ≠ some y
  nm : ∀ y ∈ S, ¬ To y ∧ isIn E h.h y ∧ R y = none
  last : ∀ x, S.head? = some x -> ∀ y, a = some y ∨ b = some y -> ahead E x y = true
  chain : desc E S
  fix : ∀ y, To y -> L y = L0 y ∧ R y = R0 y
  free : ∀ y, E y = none -> U y = none
  fxd : ∀ y, h.fx y -> L y = L0 y ∧ R y = R0 y
  nf : ∀ y,(y ∈ S ∨ a = some y ∨ b = some y) -> ¬ h.fx y
  cl : ∀ y q, h.fx y -> U y = some q -> h.fx q
  low : ∀ z, h.lo z -> ∀ y,(y ∈ S ∨ a = some y ∨ b = some y) -> ahead E z y = true
def offU (U : Nat -> Option Nat) (o : Option Nat) : Nat -> Option Nat := match o with | some z => upd U z none | none => U
def onU (U : Nat -> Option Nat) (o : Option Nat) (p : Nat) : Nat -> Option Nat := match o with | some z => upd U z (some p) | none => U
section
variable {E : Ent} {L R U L0 R0 : Nat -> Option Nat} {To T : Nat -> Prop} {h : Hd} {S : List Nat} {a b : Option Nat} {x y : Nat}
theorem offU_other {U : Nat -> Option Nat} {o : Option Nat} {y : Nat} (h : o ≠ some y) : offU U o y = U y := by
  unfold offU
  split
  · rename_i z; rw [upd_other U _ (by rintro rfl; exact h rfl)]
  · rfl
theorem offU_none {U : Nat -> Option Nat} {o : Option Nat} {y : Nat} (h : U y = none) : offU U o y = none := by
  unfold offU
  split
  · rename_i z
    by_cases c : y = z
    · subst c; exact upd_same _ _ _
    · rw [upd_other U _ c]; exact h
  · exact h
theorem isIn_hp {h : Nat} (hx : isIn E h x) : hp E x = some h := hp_some.2 hx
theorem Zip.start {h : Nat} (hb : Bin E L R U T) (hT : ∀ y, T y ↔ To y ∨ a = some y ∨ b = some y) (ha : ∀ y, a = some y -> ¬ To y ∧ isIn E h y) (hb' : ∀ y, b = some y -> ¬ To y ∧ isIn E h y)
    (hab : ∀ y, a = some y -> b ≠ some y) (hf : ∀ y, E y = none -> U y = none) : Zip E L R U To L R h [] a b :=
  ⟨hb.cong (by intro y; rw [hT y]; simp), List.nodup_nil,fun y e => ⟨by simp, ha y e⟩,fun y e => ⟨by simp, hb' y e⟩, hab,by simp,by simp, trivial,fun y _ => ⟨rfl,rfl⟩, hf,fun y c => c.elim,fun y _ c => c,fun y q c => c.elim,fun z c => c.elim⟩
theorem Zip.swap (z : Zip E L R U To L0 R0 h S a b) : Zip E L R U To L0 R0 h S b a :=
  ⟨z.bin.cong (by intro y; constructor <;> (rintro (c | c | c | c) <;> simp [c])), z.nd, z.nb, z.na,fun y e c => z.ab y c e, z.nm,fun x e y c => z.last x e y c.symm, z.chain, z.fix, z.free, z.fxd,fun y c => z.nf y (by rcases c with c | c | c <;> simp [c]), z.cl,fun u hu y c => z.low u hu y (by rcases c with c | c | c <;> simp [c])⟩
theorem Zip.step (z : Zip E L R U To L0 R0 h S (some x) (some y)) (ha : ahead E x y = true) : Zip E L (upd R x none) (offU U (R x)) To L0 R0 h (x :: S) (R x) (some y) := by
  obtain ⟨x1, x2, x3⟩ := z.na x rfl
  obtain ⟨y1, y2, y3⟩ := z.nb y rfl
  have hxy : x ≠ y := ahead_ne ha
  have old : ∀ w,(To w ∨ w ∈ S ∨ some x = some w ∨ some y = some w) -> U w = none := fun w hw => (z.bin.top w hw).2
  have hbin : Bin E L (upd R x none) (offU U (R x)) (fun w => To w ∨ w ∈ x :: S ∨ R x = some w ∨ some y = some w) := by
    cases e : R x with
    | none =>
      rw [show upd R x none = R by rw [<- e]; exact upd_self R x]
      refine z.bin.cong fun w => ?_
      simp only [List.mem_cons, Option.some.injEq]
      constructor
      · rintro (c | (rfl | c) | c | c) <;> simp_all
      · rintro (c | c | rfl | c) <;> simp_all
    | some r =>
      refine z.bin.cutR e fun w => ?_
      simp only [List.mem_cons, Option.some.injEq]
      constructor
      · rintro (c | (rfl | c) | c | c) <;> simp_all
      · rintro ((c | c | rfl | c) | c) <;> simp_all
  have hr : ∀ r, R x = some r -> r ∉ x :: S ∧ ¬ To r ∧ isIn E h.h r := by
    intro r e
    obtain ⟨r1, r2, r3⟩ := z.bin.right x r e
    have no : ∀ w,(To w ∨ w ∈ S ∨ some x = some w ∨ some y = some w) -> w ≠ r := by
      rintro w hw rfl
      rw [old w hw] at r1; cases r1
    refine ⟨?_,fun c => no r (.inl c) rfl,?_⟩
    · simp only [List.mem_cons]
      rintro (rfl | c)
      · exact no r (.inr (.inr (.inl rfl))) rfl
      · exact no r (.inr (.inl c)) rfl
    · rw [<- hp_some, <- r2]; exact isIn_hp x3
  refine ⟨hbin, List.nodup_cons.2 ⟨x1, z.nd⟩, hr,?_,?_,?_,?_,⟨?_, z.chain⟩,?_,?_,?_,?_,?_,?_⟩
  · intro w e
    cases e
    refine ⟨?_, y2, y3⟩
    simp only [List.mem_cons]
    rintro (c | c)
    · exact hxy c.symm
    · exact y1 c
  · intro w e c
    cases c
    have := (z.bin.right x y e).1
    rw [old y (.inr (.inr (.inr rfl)))] at this; cases this
  · intro w hw
    simp only [List.mem_cons] at hw
    rcases hw with rfl | hw
    · exact ⟨x2, x3, upd_same _ _ _⟩
    · obtain ⟨n1, n2, n3⟩ := z.nm w hw
      refine ⟨n1, n2,?_⟩
      rw [upd_other R _ (by rintro rfl; exact x1 hw)]; exact n3
  · intro w e v c
    simp only [List.head?_cons, Option.some.injEq] at e
    subst e
    rcases c with c | c
    · exact (z.bin.right x v c).2.2
    · cases c; exact ha
  · intro w e
    exact z.last w e x (.inl rfl)
  · intro w hw
    obtain ⟨f1, f2⟩ := z.fix w hw
    refine ⟨f1,?_⟩
    rw [upd_other R _ (by rintro rfl; exact x2 hw)]; exact f2
  · intro w hw
    exact offU_none (z.free w hw)
  · intro w hw
    obtain ⟨f1, f2⟩ := z.fxd w hw
    refine ⟨f1,?_⟩
    rw [upd_other R _ (by rintro rfl; exact z.nf w (.inr (.inl rfl)) hw)]; exact f2
  · intro w c
    simp only [List.mem_cons] at c
    rcases c with (rfl | c) | c | c
    · exact z.nf w (.inr (.inl rfl))
    · exact z.nf w (.inl c)
    · intro d
      exact z.nf x (.inr (.inl rfl)) (z.cl w x d (z.bin.right x w c).1)
    · exact z.nf w (.inr (.inr c))
  · intro w q c e
    refine z.cl w q c ?_
    cases hr : R x with
    | none => rw [hr] at e; exact e
    | some r =>
      rw [hr] at e
      by_cases d : w = r
      · subst d; rw [show offU U (some w) = upd U w none from rfl, upd_same] at e; cases e
      · rw [show offU U (some r) = upd U r none from rfl, upd_other U _ d] at e; exact e
  · intro u hu w c
    have hx := z.low u hu x (.inr (.inl rfl))
    simp only [List.mem_cons] at c
    rcases c with (rfl | c) | c | c
    · exact hx
    · exact z.low u hu w (.inl c)
    · exact ahead_tr hx (z.bin.right x w c).2.2
    · exact z.low u hu w (.inr (.inr c))
theorem Zip.back (z : Zip E L R U To L0 R0 h (x :: S) a none) : Zip E L (upd R x a) (onU U a x) To L0 R0 h S (some x) none := by
  obtain ⟨x1, x2, x3⟩ := z.nm x (by simp)
  have hnd := List.nodup_cons.1 z.nd
  have hbin : Bin E L (upd R x a) (onU U a x) (fun w => To w ∨ w ∈ S ∨ some x = some w ∨ none = some w) := by
    cases e : a with
    | none =>
      rw [show upd R x none = R by rw [<- x3]; exact upd_self R x]
      refine z.bin.cong fun w => ?_
      subst e
      simp only [List.mem_cons, Option.some.injEq]
      constructor
      · rintro (c | c | rfl | c) <;> simp_all
      · rintro (c | (rfl | c) | c | c) <;> simp_all
    | some r =>
      subst e
      obtain ⟨r1, r2, r3⟩ := z.na r rfl
      refine z.bin.hangR x3 (.inr (.inr (.inl rfl))) ?_ (z.last x rfl r (.inl rfl)) fun w => ?_
      · rw [isIn_hp x2, isIn_hp r3]
      · simp only [List.mem_cons, Option.some.injEq] at r1 ⊢
        constructor
        · rintro (c | c | rfl | c)
          · exact ⟨.inl c,by rintro rfl; exact r2 c⟩
          · exact ⟨.inr (.inl (.inr c)),by rintro rfl; exact r1 (.inr c)⟩
          · exact ⟨.inr (.inl (.inl rfl)),fun c => r1 (.inl c.symm)⟩
          · cases c
        · rintro ⟨c | (rfl | c) | rfl | c, d⟩
          · exact .inl c
          · exact .inr (.inr (.inl rfl))
          · exact .inr (.inl c)
          · exact absurd rfl d
          · cases c
  refine ⟨hbin, hnd.2,?_,by simp,by simp,?_,?_, z.chain.2,?_,?_,?_,?_,?_,?_⟩
  · intro w e
    cases e
    exact ⟨hnd.1, x1, x2⟩
  · intro w hw
    obtain ⟨n1, n2, n3⟩ := z.nm w (by simp [hw])
    refine ⟨n1, n2,?_⟩
    rw [upd_other R _ (by rintro rfl; exact hnd.1 hw)]; exact n3
  · intro w e v c
    rcases c with c | c
    · cases c; exact z.chain.1 w e
    · cases c
  · intro w hw
    obtain ⟨f1, f2⟩ := z.fix w hw
    refine ⟨f1,?_⟩
    rw [upd_other R _ (by rintro rfl; exact x1 hw)]; exact f2
  · intro w hw
    unfold onU
    split
    · rename_i r
      obtain ⟨r1, r2, k, r3⟩ := z.na r rfl
      rw [upd_other U _ (by rintro rfl; rw [hw] at r3; cases r3)]; exact z.free w hw
    · exact z.free w hw
  · intro w hw
    obtain ⟨f1, f2⟩ := z.fxd w hw
    refine ⟨f1,?_⟩
    rw [upd_other R _ (by rintro rfl; exact z.nf w (.inl (by simp)) hw)]; exact f2
  · intro w c
    rcases c with c | c | c
    · exact z.nf w (.inl (by simp [c]))
    · cases c; exact z.nf x (.inl (by simp))
    · cases c
  · intro w q c e
    refine z.cl w q c ?_
    cases a with
    | none => exact e
    | some r =>
      by_cases d : w = r
      · subst d; exact absurd c (z.nf w (.inr (.inl rfl)))
      · rw [show onU U (some r) x = upd U r (some x) from rfl, upd_other U _ d] at e; exact e
  · intro u hu w c
    rcases c with c | c | c
    · exact z.low u hu w (.inl (by simp [c]))
    · cases c; exact z.low u hu x (.inl (by simp))
    · cases c
theorem Zip.turn (z : Zip E L R U To L0 R0 h S (some x) b) (hx : x ∉ S) (ht : ¬ To x) : Zip E (upd L x (R x)) (upd R x (L x)) U To L0 R0 h S (some x) b := by
  refine ⟨z.bin.turn x, z.nd, z.na, z.nb, z.ab,?_, z.last, z.chain,?_, z.free,?_, z.nf, z.cl, z.low⟩
  · intro w hw
    obtain ⟨n1, n2, n3⟩ := z.nm w hw
    exact ⟨n1, n2,by rw [upd_other R _ (by rintro rfl; exact hx hw)]; exact n3⟩
  · intro w hw
    have : w ≠ x := by rintro rfl; exact ht hw
    rw [upd_other L _ this, upd_other R _ this]; exact z.fix w hw
  · intro w hw
    have : w ≠ x := by rintro rfl; exact z.nf w (.inr (.inl rfl)) hw
    rw [upd_other L _ this, upd_other R _ this]; exact z.fxd w hw
theorem nodup_len : ∀ {n : Nat} {l : List Nat}, l.Nodup -> (∀ x ∈ l, x < n) -> l.length <= n := by
  intro n
  induction n with
  | zero =>
    intro l _ hl
    cases l with
    | nil => simp
    | cons x l => have := hl x (by simp); omega
  | succ n ih =>
    intro l hn hl
    have h1 := ih (l := l.erase n) (hn.erase n) fun x hx => by
      have h2 := (hn.mem_erase_iff).1 hx
      have := hl x h2.2
      have := h2.1
      omega
    rw [List.length_erase] at h1
    split at h1 <;> omega
theorem Zip.len (z : Zip E L R U To L0 R0 h S (some x) b) {n : Nat} (hn : ∀ y,(E y).isSome -> y < n) : S.length < n := by
  have h1 := nodup_len (n := n) (l := x :: S) (List.nodup_cons.2 ⟨(z.na x rfl).1, z.nd⟩) fun y hy => by
    simp only [List.mem_cons] at hy
    rcases hy with rfl | hy
    · exact hn _ (z.na y rfl).2.2.some
    · exact hn _ (z.nm y hy).2.1.some
  simp at h1
  omega
theorem Bin.top_of {n g : Nat} (hb : Bin E L R U T) (hn : ∀ y,(E y).isSome -> y < n) (hx : isIn E g x) : ∃ t, T t ∧ isIn E g t := by
  have key : ∀ m x, before E n x <= m -> isIn E g x -> ∃ t, T t ∧ isIn E g t := by
    intro m
    induction m with
    | zero =>
      intro x hm hx
      by_cases c : T x
      · exact ⟨x, c, hx⟩
      · obtain ⟨p, p1, p2⟩ := hb.up x hx.some c
        have h3 : U x = some p ∧ hp E p = hp E x ∧ ahead E p x = true := by
          rcases p2 with p2 | p2
          · exact hb.left p x p2
          · exact hb.right p x p2
        have := before_lt (hn p (ahead_some h3.2.2).1) h3.2.2
        omega
    | succ m ih =>
      intro x hm hx
      by_cases c : T x
      · exact ⟨x, c, hx⟩
      · obtain ⟨p, p1, p2⟩ := hb.up x hx.some c
        have h3 : U x = some p ∧ hp E p = hp E x ∧ ahead E p x = true := by
          rcases p2 with p2 | p2
          · exact hb.left p x p2
          · exact hb.right p x p2
        have := before_lt (hn p (ahead_some h3.2.2).1) h3.2.2
        exact ih p (by omega) (by rw [<- hp_some, h3.2.1]; exact isIn_hp hx)
  exact key _ x (Nat.le_refl _) hx
end
end Go.Proofs.YtkdbjelhkfdfjaaGreatDoor
namespace Go.Proofs.YtkdbjelhkfdfjaaGreatDoor
open Go.RowKit
structure SkewMid (w : World) (p pc pt gt mb : Nat) (Fc : List Nat) (cap hs : Nat) (E : Ent) (L R U : Nat -> Option Nat) : Prop where
  nd : (p :: pt :: gt :: mb :: Fc).Nodup
  blk : w.heap[p]? = some (.cells #[.pointer (some ⟨pc,0,none⟩),.pointer (some ⟨pt,0,none⟩),.map (some mb)] 235 (0,0))
  ce : CellsAt w Fc pc cap hs E
  sp : SpineAt w pt gt cap L R U
section
variable {w w' : World} {p pc pt gt mb cap hs : Nat} {Fc S : List Nat} {E E' : Ent} {L R U L' R' U' : Nat -> Option Nat}
theorem SkewMid.ne (m : SkewMid w p pc pt gt mb Fc cap hs E L R U) : (p ≠ pt ∧ p ≠ gt ∧ p ≠ mb ∧ p ∉ Fc) ∧ (pt ≠ gt ∧ pt ≠ mb ∧ pt ∉ Fc) ∧ (gt ≠ mb ∧ gt ∉ Fc) ∧ mb ∉ Fc := by
  have := m.nd
  simp only [List.nodup_cons, List.mem_cons, not_or] at this
  obtain ⟨⟨a1, a2, a3, a4⟩,⟨b1, b2, b3⟩,⟨c1, c2⟩, d, _⟩ := this
  exact ⟨⟨a1, a2, a3, a4⟩,⟨b1, b2, b3⟩,⟨c1, c2⟩, d⟩
theorem SkewMid.keep (m : SkewMid w p pc pt gt mb Fc cap hs E L R U) (k : Keeps S w w') (hS : ∀ b ∈ p :: pt :: gt :: Fc, b ∉ S) : SkewMid w' p pc pt gt mb Fc cap hs E L R U :=
  ⟨m.nd, k.blk m.blk (hS p (by simp)), m.ce.keep k (fun b hb => hS b (by simp [hb])), m.sp.keep k (hS pt (by simp)) (hS gt (by simp))⟩
theorem SkewMid.below (m : SkewMid w p pc pt gt mb Fc cap hs E L R U) (k : Below w.heap.size w w') : SkewMid w' p pc pt gt mb Fc cap hs E L R U := m.keep (Below.keeps k (Nat.le_refl _) []) (by simp)
theorem SkewMid.drewN (m : SkewMid w p pc pt gt mb Fc cap hs E L R U) (n : Nat) : SkewMid (w.drewN n) p pc pt gt mb Fc cap hs E L R U := m.keep (S := []) ⟨rfl,rfl,rfl, Nat.le_refl _,fun _ _ _ => rfl⟩ (by simp)
theorem SkewMid.cells (m : SkewMid w p pc pt gt mb Fc cap hs E L R U) (c : CellsAt w' Fc pc cap hs E') (k : Keeps Fc w w') : SkewMid w' p pc pt gt mb Fc cap hs E' L R U := by
  obtain ⟨⟨a1, a2, a3, a4⟩,⟨b1, b2, b3⟩,⟨c1, c2⟩, d⟩ := m.ne
  exact ⟨m.nd, k.blk m.blk a4, c, m.sp.keep k b3 c2⟩
theorem SkewMid.spine (m : SkewMid w p pc pt gt mb Fc cap hs E L R U) (c : SpineLeft w pt gt cap L' R' U' w') : SkewMid w' p pc pt gt mb Fc cap hs E L' R' U' := by
  obtain ⟨⟨a1, a2, a3, a4⟩,⟨b1, b2, b3⟩,⟨c1, c2⟩, d⟩ := m.ne
  exact ⟨m.nd, c.2.blk m.blk (by simpa using a2), m.ce.keep c.2 (fun b hb e => by simp at e; subst e; exact c2 hb), c.1⟩
theorem SkewMid.lt (m : SkewMid w p pc pt gt mb Fc cap hs E L R U) : p < w.heap.size ∧ pt < w.heap.size ∧ gt < w.heap.size ∧ ∀ b ∈ Fc, b < w.heap.size := ⟨lt_of_block m.blk, m.sp.lt.1, m.sp.lt.2, m.ce.lt⟩
theorem SkewMid.c0 (m : SkewMid w p pc pt gt mb Fc cap hs E L R U) : w.cell? ⟨p,0,none⟩ = some (.pointer (some ⟨pc,0,none⟩)) := by rw [cell_of_blk m.blk]; rfl
theorem SkewMid.c1 (m : SkewMid w p pc pt gt mb Fc cap hs E L R U) : w.cell? ⟨p,1,none⟩ = some (.pointer (some ⟨pt,0,none⟩)) := by rw [cell_of_blk m.blk]; rfl
theorem SkewMid.c2 (m : SkewMid w p pc pt gt mb Fc cap hs E L R U) : w.cell? ⟨p,2,none⟩ = some (.map (some mb)) := by rw [cell_of_blk m.blk]; rfl
end
theorem oZ_none : oZ none = -1 := rfl
theorem oZ_some (x : Nat) : oZ (some x) = (x : Int) := rfl
theorem offU_no (U : Nat -> Option Nat) : offU U none = U := rfl
theorem offU_yes (U : Nat -> Option Nat) (z : Nat) : offU U (some z) = upd U z none := rfl
section
variable (w : World) (p pc pt gt mb : Nat) (Fc : List Nat) (cap hs : Nat) (E : Ent) (L R U : Nat -> Option Nat)
theorem loose_R (m : SkewMid w p pc pt gt mb Fc cap hs E L R U) (u : Nat) (hz : ∀ z, R u = some z -> U z = some u) :
    Calls Tryz.prog 432 #[.pointer (some ⟨p,0,none⟩),.int .i64 (((R u).getD 0 : Nat) : Int),.bool (R u).isSome] w fun e w' => e = .returned (.int .i64 (oZ (R u))) ∧ SpineLeft w pt gt cap L (upd R u none) (offU U (R u)) w' := by
  have c1 := m.c1
  cases e : R u with
  | none =>
    have hf : SpineLeft w pt gt cap L (upd R u none) (offU U none) w := by
      rw [show upd R u none = R by rw [<- e]; exact upd_self R u, offU_no]
      exact ⟨m.sp, Keeps.refl _ _⟩
    go_enter Tryz.func432, Tryz.ntmps432
    go_wp2
    go_ret
    exact ⟨rfl, hf⟩
  | some z =>
    have hzc := m.sp.wf u z (.inr (.inl e))
    have hc := sp_cut_R w pt gt cap L R U m.sp z u hzc (hz z e) e
    rw [offU_yes]
    clear hz e
    go_enter Tryz.func432, Tryz.ntmps432
    go_wp2_with (go_at_call 407; refine hc.mono ?_; rintro e w' ⟨rfl, hs⟩)
    go_ret
    exact ⟨rfl, hs⟩
theorem loose_L (m : SkewMid w p pc pt gt mb Fc cap hs E L R U) (u : Nat) (hz : ∀ z, L u = some z -> U z = some u ∧ R u ≠ some z) :
    Calls Tryz.prog 432 #[.pointer (some ⟨p,0,none⟩),.int .i64 (((L u).getD 0 : Nat) : Int),.bool (L u).isSome] w fun e w' => e = .returned (.int .i64 (oZ (L u))) ∧ SpineLeft w pt gt cap (upd L u none) R (offU U (L u)) w' := by
  have c1 := m.c1
  cases e : L u with
  | none =>
    have hf : SpineLeft w pt gt cap (upd L u none) R (offU U none) w := by
      rw [show upd L u none = L by rw [<- e]; exact upd_self L u, offU_no]
      exact ⟨m.sp, Keeps.refl _ _⟩
    go_enter Tryz.func432, Tryz.ntmps432
    go_wp2
    go_ret
    exact ⟨rfl, hf⟩
  | some z =>
    have hzc := m.sp.wf u z (.inl e)
    have hc := sp_cut_L w pt gt cap L R U m.sp z u hzc (hz z e).1 e (hz z e).2
    rw [offU_yes]
    clear hz e
    go_enter Tryz.func432, Tryz.ntmps432
    go_wp2_with (go_at_call 407; refine hc.mono ?_; rintro e w' ⟨rfl, hs⟩)
    go_ret
    exact ⟨rfl, hs⟩
end
structure TwigR where
  ao : Option Addr
  ca : Nat
  kids : List Nat
def twigV (T : Nat -> TwigR) (U : Nat -> Option Nat) (x : Nat) : List Value := [.slice (T x).ao (T x).kids.length (T x).ca,.int .i64 (oZ (U x))]
structure ForestAt (w : World) (p g n : Nat) (T : Nat -> TwigR) (U : Nat -> Option Nat) : Prop where
  blk : w.heap[p]? = some (.cells #[.slice (some ⟨g,0,none⟩) n n] 263 (0,0))
  arr : Arr w 265 2 n g (twigV T U)
  rows : ∀ x, x < n -> Rg.IR 0 w (.slice (T x).ao (T x).kids.length (T x).ca) (T x).kids
  ne : p ≠ g
  own : ∀ x, x < n -> ∀ a,(T x).ao = some a -> a.block ≠ p ∧ a.block ≠ g
  dis : ∀ x y, x < n -> y < n -> x ≠ y -> ∀ a b,(T x).ao = some a -> (T y).ao = some b -> a.block ≠ b.block
  cap : n <= 65536
  num : ∀ x, x < n -> (T x).kids.length <= 65536 ∧ (∀ y ∈ (T x).kids, y < n) ∧ (∀ y, U x = some y -> y < n)
def treeF (p g n : Nat) (T : Nat -> TwigR) : List Nat := p :: g :: (List.range n).flatMap fun x => (T x).ao.toList.map (·.block)
theorem treeF_mem {p g n b : Nat} {T : Nat -> TwigR} : b ∈ treeF p g n T ↔ b = p ∨ b = g ∨ ∃ x, x < n ∧ ∃ a,(T x).ao = some a ∧ a.block = b := by
  simp only [treeF, List.mem_cons, List.mem_flatMap, List.mem_range, List.mem_map, Option.mem_toList]
section
variable {w w' : World} {p g n x : Nat} {T : Nat -> TwigR} {U : Nat -> Option Nat} {S : List Nat}
theorem ForestAt.lt (h : ForestAt w p g n T U) : ∀ b ∈ treeF p g n T, b < w.heap.size := by
  intro b hb
  rcases treeF_mem.1 hb with rfl | rfl | ⟨x, hx, a, e,rfl⟩
  · exact lt_of_block h.blk
  · exact h.arr.lt
  · rcases (h.rows x hx).2 with ⟨h0, _⟩ | ⟨g', cap', cur, e', hb, hg, r⟩
    · simp only [Value.slice.injEq] at h0
      rw [h0.1] at e; cases e
    · simp only [Value.slice.injEq] at e'
      rw [e'.1] at e; cases e
      exact lt_of_block hg
theorem ForestAt.keep (h : ForestAt w p g n T U) (k : Keeps S w w') (hS : ∀ b ∈ treeF p g n T, b ∉ S) : ForestAt w' p g n T U :=
  ⟨k.blk h.blk (hS p (treeF_mem.2 (.inl rfl))), h.arr.keep k (hS g (treeF_mem.2 (.inr (.inl rfl)))),fun x hx => ir_keep (h.rows x hx) k (fun a e => hS _ (treeF_mem.2 (.inr (.inr ⟨x, hx, a, e,rfl⟩)))), h.ne, h.own, h.dis, h.cap, h.num⟩
theorem ForestAt.like (h : ForestAt w p g n T U) (e : w'.heap = w.heap) : ForestAt w' p g n T U :=
  ⟨by rw [e]; exact h.blk,⟨by
    refine ⟨h.arr.row.1,?_⟩
    rw [e]; exact h.arr.row.2, h.arr.size⟩,fun x hx => by
    refine ⟨(h.rows x hx).1,?_⟩
    rw [e]; exact (h.rows x hx).2, h.ne, h.own, h.dis, h.cap, h.num⟩
theorem ForestAt.c0 (h : ForestAt w p g n T U) : w.cell? ⟨p,0,none⟩ = some (.slice (some ⟨g,0,none⟩) n n) := by rw [cell_of_blk h.blk]; rfl
theorem ForestAt.k0 (h : ForestAt w p g n T U) (hx : x < n) : w.cell? ⟨g, x * 2, none⟩ = some (.slice (T x).ao (T x).kids.length (T x).ca) := h.arr.cell (j := 0) hx (by decide)
theorem ForestAt.k1 (h : ForestAt w p g n T U) (hx : x < n) : w.cell? ⟨g, x * 2 + 1, none⟩ = some (.int .i64 (oZ (U x))) := h.arr.cell (j := 1) hx (by decide)
end
section
variable (w : World) (p g n : Nat) (T : Nat -> TwigR) (U : Nat -> Option Nat)
theorem fo_has (h : ForestAt w p g n T U) (x : Nat) (hx : x < n) : Calls Tryz.prog 361 #[.pointer (some ⟨p,0,none⟩),.int .i64 x] w fun e w' => e = .returned (.bool true) ∧ w = w' := by
  have c0 := h.c0
  have b1 : (x : Int) < (n : Int) := by omega
  have b2 : (0 : Int) <= (x : Int) := by omega
  clear h
  go_enter Tryz.func361, Tryz.ntmps361
  go_wp2
  go_ret
  exact ⟨rfl,rfl⟩
theorem fo_root (h : ForestAt w p g n T U) (x : Nat) (hx : x < n) : Calls Tryz.prog 363 #[.pointer (some ⟨p,0,none⟩),.int .i64 x] w fun e w' => e = .returned (.bool (U x).isNone) ∧ w = w' := by
  have c0 := h.c0
  have c1 := h.k1 hx
  have hh := fo_has w p g n T U h x hx
  have b1 : (x : Int) < (n : Int) := by omega
  clear h
  cases hu : U x with
  | none =>
    rw [hu] at c1
    simp only [oZ_none] at c1
    clear hu
    go_enter Tryz.func363, Tryz.ntmps363
    go_wp2_with (go_at_call 361; refine hh.mono ?_; rintro e w' ⟨rfl,rfl⟩)
    go_ret
    exact ⟨rfl,rfl⟩
  | some y =>
    rw [hu] at c1
    simp only [oZ_some] at c1
    have b2 : ((y : Int) == -1) = false := by rw [beq_eq_false_iff_ne]; omega
    clear hu
    go_enter Tryz.func363, Tryz.ntmps363
    go_wp2_with (go_at_call 361; refine hh.mono ?_; rintro e w' ⟨rfl,rfl⟩)
    go_ret
    exact ⟨rfl,rfl⟩
theorem fo_degree (h : ForestAt w p g n T U) (x : Nat) (hx : x < n) : Calls Tryz.prog 367 #[.pointer (some ⟨p,0,none⟩),.int .i64 x] w fun e w' => e = .returned (.int .i64 (T x).kids.length) ∧ w = w' := by
  have c0 := h.c0
  have c1 := h.k0 hx
  have hh := fo_has w p g n T U h x hx
  have b1 : (x : Int) < (n : Int) := by omega
  clear h
  go_enter Tryz.func367, Tryz.ntmps367
  go_wp2_with (go_at_call 361; refine hh.mono ?_; rintro e w' ⟨rfl,rfl⟩)
  go_ret
  exact ⟨rfl,rfl⟩
end
section
variable {P : Program}
theorem step_push2 {ops : Array Oper} {o : Oper} {a : Act} {K : Act -> World -> Prop} {Q : Exit -> Act -> World -> Prop} {E : Prop} (hgd : o.guard = none) (s x : Operand) (t e : TypeId)
    (ho : o.op = .call { callee := .builtin .append, args := #[s, x], argTypes := #[t, t] })
    (z : Value) (ht : P.underlying t = some (.slice e)) (hi : (P.info? e).map (fun i => (i.zero, i.size, i.bytes)) = some (some z, 1,8)) (hzs : z.cells.size = 1)
    (w W : World) (y : Value) (hy : y.oneCell' = true) (c : Nat × Nat) (hW : W.heap = (w.alloc (.cells #[y] e c)).heap) (hW1 : W.os = w.os) (hW2 : W.tape = w.tape) (hW3 : W.output = w.output)
    (v : Value) (n : Nat) (xs : List Value) (hs : a.eval s = v) (hown : w.ownsRow 0 e 1 v n xs) (hx : a.eval x = .slice (some ⟨w.heap.size,0,none⟩) 1 1)
    (h63 : n + 1 <= maxLen) (hbytes : (n + 1) * 8 <= 140737488355328)
    (h : ∀ g' cap' w', w'.ownsRow 0 e 1 (.slice (some ⟨g',0,none⟩) (n + 1) cap') (n + 1) (xs ++ [y]) -> Keeps v.ownBlock.toList w w' -> (v.ownBlock = some g' ∨ w.heap.size <= g') -> K (a.put o.dst (.slice (some ⟨g',0,none⟩) (n + 1) cap')) w') :
    if Region.wanted o (yielded ops a.tmps) = true then Oper.wp P o a W K Q else E := by
  obtain ⟨i, hi, hz, hsize, hby⟩ := info_parts hi
  have hw : Region.wanted o (yielded ops a.tmps) = true := by simp [Region.wanted, hgd]
  rw [if_pos hw]
  have hownW : W.ownsRow 0 e 1 v n xs := by
    have := hown.alloc (.cells #[y] e c)
    refine ⟨this.1,?_⟩
    rw [hW]; exact this.2
  have hcell : ∀ j u,([y] : List Value)[j]? = some u -> W.cell? ((⟨w.heap.size,0,none⟩ : Addr).add j) = some u := by
    intro j u hj
    match j, hj with
    | 0, hj =>
      simp at hj; subst hj
      have : W.heap[w.heap.size]? = some (.cells #[y] e c) := by rw [hW]; exact blk_alloc_new _
      show W.cell? ⟨w.heap.size,0,none⟩ = _
      rw [cell_of_blk this]; rfl
  obtain ⟨v', w', hr, h2, h3, _, h5⟩ := run_append_own_at (P := P) W 0 t o.type e i z 1 8 ht hi hz hsize hby hzs (by decide) v n xs hownW ⟨w.heap.size,0,none⟩ 1 1 [y] rfl hcell (by intro u hu; simp at hu; subst hu; exact hy) h63 hbytes (Nat.zero_le _)
  have k1 : Keeps [] w W := by
    have k : Keeps [] w (w.alloc (.cells #[y] e c)) := (Keeps.refl _ _).alloc _
    exact ⟨hW1.trans k.os, hW2.trans k.tape, hW3.trans k.output,by rw [hW]; exact k.size,by rw [hW]; exact k.block⟩
  have k2 : Keeps v.ownBlock.toList W w' := (Keeps.refl _ _).grown h3 (fun k e => .inl (by simp [e]))
  have hz' : w.heap.size <= W.heap.size := k1.size
  obtain ⟨g', cap',rfl, hg⟩ : ∃ g' cap', v' = .slice (some ⟨g',0,none⟩) (n + 1) cap' ∧ (v.ownBlock = some g' ∨ w.heap.size <= g') := by
    rcases h2.2 with ⟨_, h0⟩ | ⟨g', cap', cur, e1, _⟩
    · omega
    · refine ⟨g', cap', e1,?_⟩
      rw [e1] at h5
      rcases h5 with q | q
      · exact .inl q.symm
      · simp [Value.ownBlock] at q; exact .inr (by omega)
  have hfin := h g' cap' w' h2 ((k1.mono (T := v.ownBlock.toList) (by simp)).trans k2 fun _ hb => .inl hb) hg
  unfold Oper.wp execOp
  simp only [ho, resolve, invoke, builtin, Sem.run_bind, Sem.run_pure, Result.andThen_ok, List.map_toArray, List.map_cons, List.map_nil, hs, hx, hr]
  exact hfin
end
section
variable {w w5 : World} {p g n x a b g' cap' : Nat} {T : Nat -> TwigR} {U : Nat -> Option Nat} {o : Option Nat}
theorem twigV_up : upd (twigV T U) x ((twigV T U x).set 1 (.int .i64 (oZ o))) = twigV T (upd U x o) := by
  funext j
  by_cases e : j = x
  · subst e; rw [upd_same]; simp [twigV, upd_same]
  · rw [upd_other _ _ e]; simp only [twigV, upd_other U _ e]
theorem twigV_kids {t : TwigR} : upd (twigV T U) x ((twigV T U x).set 0 (.slice t.ao t.kids.length t.ca)) = twigV (upd T x t) U := by
  funext j
  by_cases e : j = x
  · subst e; rw [upd_same]; simp [twigV, upd_same]
  · rw [upd_other _ _ e]; simp only [twigV, upd_other T _ e]
theorem ForestAt.setUp (h : ForestAt w p g n T U) (hx : x < n) (ho : ∀ y, o = some y -> y < n) :
    ForestAt (w.setCell ⟨g, x * 2 + 1, none⟩ (.int .i64 (oZ o))) p g n T (upd U x o) := by
  have k : Keeps [g] w (w.setCell ⟨g, x * 2 + 1, none⟩ (.int .i64 (oZ o))) := (Keeps.refl _ _).setCell (.inl (by simp)) _
  refine ⟨k.blk h.blk (by simpa using h.ne),?_,fun y hy => ir_keep (h.rows y hy) k (fun q e => by simpa using (h.own y hy q e).2), h.ne, h.own, h.dis, h.cap,fun y hy => ⟨(h.num y hy).1,(h.num y hy).2.1,fun z e => ?_⟩⟩
  · have := h.arr.set hx (j := 1) (by decide) (.int .i64 (oZ o))
    rwa [twigV_up] at this
  · by_cases c : y = x
    · subst c; rw [upd_same] at e; exact ho z e
    · rw [upd_other _ _ c] at e; exact (h.num y hy).2.2 z e
theorem ForestAt.setKids (h : ForestAt w p g n T U) (ha : a < n) {t : TwigR} (k : Keeps ((T a).ao.toList.map (·.block)) w w5) (hr : Rg.IR 0 w5 (.slice t.ao t.kids.length t.ca) t.kids)
    (hf : ∀ q, t.ao = some q -> (∃ q',(T a).ao = some q' ∧ q'.block = q.block) ∨ w.heap.size <= q.block) (hl : t.kids.length <= 65536) (hm : ∀ y ∈ t.kids, y < n) :
    ForestAt (w5.setCell ⟨g, a * 2, none⟩ (.slice t.ao t.kids.length t.ca)) p g n (upd T a t) U ∧ Moved (treeF p g n T) w (treeF p g n (upd T a t)) (w5.setCell ⟨g, a * 2, none⟩ (.slice t.ao t.kids.length t.ca)) := by
  have hlt := h.lt
  have hno : ∀ y,(y = p ∨ y = g) -> y ∉ (T a).ao.toList.map (·.block) := by
    intro y hy e
    simp only [List.mem_map, Option.mem_toList] at e
    obtain ⟨q, e1, e2⟩ := e
    obtain ⟨q1, q2⟩ := h.own a ha q e1
    rcases hy with rfl | rfl
    · exact q1 e2
    · exact q2 e2
  have hpl := hlt p (treeF_mem.2 (.inl rfl))
  have hgl := hlt g (treeF_mem.2 (.inr (.inl rfl)))
  have k5 : Keeps [g] w5 (w5.setCell ⟨g, a * 2, none⟩ (.slice t.ao t.kids.length t.ca)) := (Keeps.refl _ _).setCell (.inl (by simp)) _
  have hnew : ∀ q, t.ao = some q -> q.block ≠ p ∧ q.block ≠ g := by
    intro q e
    rcases hf q e with ⟨q', e1, e2⟩ | e1
    · rw [<- e2]; exact h.own a ha q' e1
    · exact ⟨by omega,by omega⟩
  have hdis : ∀ y, y < n -> y ≠ a -> ∀ q r, t.ao = some q -> (T y).ao = some r -> q.block ≠ r.block := by
    intro y hy hne q r e1 e2 e3
    rcases hf q e1 with ⟨q', f1, f2⟩ | f1
    · exact h.dis a y ha hy (fun e => hne e.symm) q' r f1 e2 (f2.trans e3)
    · have := hlt r.block (treeF_mem.2 (.inr (.inr ⟨y, hy, r, e2,rfl⟩))); omega
  have hF : ForestAt (w5.setCell ⟨g, a * 2, none⟩ (.slice t.ao t.kids.length t.ca)) p g n (upd T a t) U := by
    refine ⟨k5.blk (k.blk h.blk (hno p (.inl rfl))) (by simpa using h.ne),?_,fun y hy => ?_, h.ne,fun y hy q e => ?_,fun y z hy hz hne q r e1 e2 => ?_, h.cap,fun y hy => ?_⟩
    · have := (h.arr.keep k (hno g (.inr rfl))).set ha (j := 0) (by decide) (.slice t.ao t.kids.length t.ca)
      rwa [twigV_kids] at this
    · by_cases c : y = a
      · subst c; rw [upd_same]; exact ir_keep hr k5 (fun q e => by simpa using (hnew q e).2)
      · rw [upd_other _ _ c]
        refine ir_keep (ir_keep (h.rows y hy) k (fun q e f => ?_)) k5 (fun q e => by simpa using (h.own y hy q e).2)
        simp only [List.mem_map, Option.mem_toList] at f
        obtain ⟨r, f1, f2⟩ := f
        exact h.dis a y ha hy (fun e => c e.symm) r q f1 e f2
    · by_cases c : y = a
      · subst c; rw [upd_same] at e; exact hnew q e
      · rw [upd_other _ _ c] at e; exact h.own y hy q e
    · by_cases c : y = a
      · subst c
        rw [upd_same] at e1
        rw [upd_other _ _ (fun e => hne e.symm)] at e2
        exact hdis z hz (fun e => hne e.symm) q r e1 e2
      · rw [upd_other _ _ c] at e1
        by_cases d : z = a
        · subst d
          rw [upd_same] at e2
          exact fun e => hdis y hy c r q e2 e1 e.symm
        · rw [upd_other _ _ d] at e2
          exact h.dis y z hy hz hne q r e1 e2
    · by_cases c : y = a
      · subst c; rw [upd_same]; exact ⟨hl, hm,(h.num y hy).2.2⟩
      · rw [upd_other _ _ c]; exact h.num y hy
  refine ⟨hF,(k.mono (T := treeF p g n T) fun b hb => .inl (treeF_mem.2 ?_)).trans k5 (fun b hb => .inl (treeF_mem.2 (.inr (.inl (by simpa using hb))))),fun b hb => ?_, hF.lt⟩
  · simp only [List.mem_map, Option.mem_toList] at hb
    obtain ⟨q, e1, e2⟩ := hb
    exact .inr (.inr ⟨a, ha, q, e1, e2⟩)
  · rcases treeF_mem.1 hb with e | e | ⟨y, hy, q, e,rfl⟩
    · exact .inl (treeF_mem.2 (.inl e))
    · exact .inl (treeF_mem.2 (.inr (.inl e)))
    · by_cases c : y = a
      · subst c
        rw [upd_same] at e
        rcases hf q e with ⟨q', e1, e2⟩ | e1
        · exact .inl (treeF_mem.2 (.inr (.inr ⟨y, hy, q', e1, e2⟩)))
        · exact .inr e1
      · rw [upd_other _ _ c] at e
        exact .inl (treeF_mem.2 (.inr (.inr ⟨y, hy, q, e,rfl⟩)))
end
abbrev wSort : ByteArray := ⟨#[115,111,114,116]⟩
abbrev wKind : ByteArray := ⟨#[107,105,110,100]⟩
abbrev wSkew : ByteArray := ⟨#[115,107,101,119]⟩
abbrev deskO (a b : Int) (st : Value) : Obj := .cells #[.int .i64 a,.int .i64 b, st] 184 (0,0)
section
variable (w : World)
theorem split_sort : Calls Tryz.prog 78 #[.string ⟨#[115,111,114,116,32,50,32,49]⟩,.string ⟨#[32]⟩] w fun e w' => e = .returned (.slice (some ⟨w.heap.size,0,none⟩) 3 3) ∧ Keeps [] w w' ∧ SAt w' w.heap.size 0 [wSort,⟨#[50]⟩,⟨#[49]⟩] := by
  have h := gen_sort w
  go_enter Tryz.func78, Tryz.ntmps78
  go_wp2_with (go_at_call 99; refine h.mono ?_; rintro e w' ⟨rfl, hk, hb⟩)
  go_ret
  refine ⟨rfl, hk,fun i s e => ?_⟩
  rw [cell_of_blk hb, Nat.zero_add]
  match i, e with
  | 0, e => cases e; rfl
  | 1, e => cases e; rfl
  | 2, e => cases e; rfl
theorem split_kind : Calls Tryz.prog 78 #[.string ⟨#[107,105,110,100,32,115,107,101,119]⟩,.string ⟨#[32]⟩] w fun e w' => e = .returned (.slice (some ⟨w.heap.size,0,none⟩) 2 2) ∧ Keeps [] w w' ∧ SAt w' w.heap.size 0 [wKind, wSkew] := by
  have h := gen_kind w
  go_enter Tryz.func78, Tryz.ntmps78
  go_wp2_with (go_at_call 99; refine h.mono ?_; rintro e w' ⟨rfl, hk, hb⟩)
  go_ret
  refine ⟨rfl, hk,fun i s e => ?_⟩
  rw [cell_of_blk hb, Nat.zero_add]
  match i, e with
  | 0, e => cases e; rfl
  | 1, e => cases e; rfl
theorem do_idle (p : Addr) : CallsD Tryz.prog 80 #[.pointer (some p)] .returning w fun e u' w' => e = .returned (.tuple #[]) ∧ u' = .returning ∧ w' = w := by
  refine callsD_of_wpS Tryz.func80 rfl fun c₀ cs hu => ?_
  apply wpS_seq
  apply wpS_region
  simp [wpOpsS, go_sem, recoverD, hu, Tryz.ntmps80, Exit.thenS]
  refine wpS_of_wp ?_
  go_wp2_with fail
  cases c₀
  simp_all [bodyPostS, results, Tryz.results80]
end
section
variable {α : Type} {F : Fence} {n : Nat} {P : Program}
def SeqC (F : Fence) (n : Nat) (P : Program) (gf : Nat) (lb : Array Value) (encs : α -> Array Value) (c : Nat) (L : List α) (w : World) : Prop :=
  ∀ (l : Nat) (J : List α -> World -> Prop) (W : World), W.heap[c]? = w.heap[c]? -> w.heap.size <= W.heap.size -> AbidesFrom W.heap.size J -> (∀ s X v, J s X -> J s (X.setCell ⟨c,0,none⟩ v)) ->
    (∀ pre x X, J pre X -> pre ++ [x] <+: L -> YieldAt F (n - 1) P l (encs x) X fun e X' => e = .returned (.bool true) ∧ J (pre ++ [x]) X' ∧ X'.heap[c]? = X.heap[c]?) ->
    J [] W -> CallsIn F n P gf (#[.func (.yield l) #[] #[]] ++ lb) W fun e X => (∃ v, e = .returned v) ∧ J L X
def goesOn (B c : Nat) (I : List α -> World -> Prop) (xs : List α) (W : World) : Exit -> Act -> World -> Prop
  | .normal, _, X => KeepsFrom B W X ∧ X.heap[c]? = W.heap[c]? ∧ I xs X
  | _, _, _ => False
theorem range_cell {g : Operand} {ps : Array Tmp} {assign body : Code} {Q : Exit -> Act -> World -> Prop} {a : Act} {w : World}
    (hro : F.round = none) (h1 : 1 <= n) {gf : Nat} {lb : Array Value} (hg : a.eval g = .func (.func gf) #[] lb) (hFg : F.fn gf) (eg : ∀ args w,(callFunc gf args).run P w = .ok (.enter gf args) w)
    {encs : α -> Array Value} {c : Nat} {L : List α} (hc : c < w.heap.size) (hseq : SeqC F (n - 1) P gf lb encs c L w) (hps : ∀ x,(encs x).size = ps.size)
    (I : List α -> World -> Prop) (hI : OwnFrom w.heap.size I) (hIc : ∀ s X v, I s X -> I s (X.setCell ⟨c,0,none⟩ v)) (h0 : I [] w) (a₁ : α -> Act)
    (hassign : ∀ (l : Nat) (x : α) (W : World) (K : Act -> World -> Prop), K (a₁ x) W ->
      assign.wpIn (F.inRound l) (n - 1 - 1) P (Exit.then K (fun _ _ _ => False)) { tmps := (ps.zip (encs x)).foldl (fun t (p, v) => t.setIfInBounds p v) a.tmps, defers := [] } W)
    (hbody : ∀ (l : Nat) (pre : List α) (x : α) (W : World), I pre W -> pre ++ [x] <+: L -> body.wpIn (F.inRound l) (n - 1 - 1) P (goesOn w.heap.size c I (pre ++ [x]) W) (a₁ x) W)
    (hdone : ∀ (D : Nat) (W : World), w.heap.size <= D -> I L W -> W.heap[D]? = some (.deferred (some [])) -> Q .normal { a with defers := { target := .collected D, args := #[] } :: a.defers } W) :
    (Code.rangeFunc g ps assign body).wpIn F n P Q a w := by
  refine wpIn_rangeFunc fun fn hfn => ?_
  rw [hro]
  obtain ⟨s0, hs0⟩ : ∃ s0, w.heap.size = s0 := ⟨_,rfl⟩
  rw [hs0] at hc hI hbody hdone
  obtain ⟨rc, hrc⟩ : ∃ rc : LoopState -> Loop, rc = fun st => { state := st, pending := none, fn, tmps := a.tmps, params := ps, assign, body, defers := s0 } := ⟨_,rfl⟩
  obtain ⟨W1, hW1⟩ : ∃ W1,(w.alloc (.deferred (some []))).alloc (.loop (rc .ready)) = W1 := ⟨_,rfl⟩
  have hsz : W1.heap.size = s0 + 2 := by rw [<- hW1, <- hs0]; simp
  have hL1 : W1.heap[s0 + 1]? = some (.loop (rc .ready)) := by
    rw [<- hW1, <- hs0]
    have := blk_alloc_new (w := w.alloc (.deferred (some []))) (.loop (rc .ready))
    rwa [World.size_alloc] at this
  have hK1 : W1.heap[s0]? = some (.deferred (some [])) := by
    rw [<- hW1, <- hs0]
    exact (blk_alloc_old _ (by simp)).trans (blk_alloc_new _)
  have hc1 : W1.heap[c]? = w.heap[c]? := by
    rw [<- hW1]
    exact (blk_alloc_old _ (by simp; omega)).trans (blk_alloc_old _ (by omega))
  have hI1 : I [] W1 := by rw [<- hW1]; exact hI.alloc _ (hI.alloc _ h0)
  refine ⟨s0 + 1, [{ target := .collected s0, args := #[] }], W1, { target := .fn (.func gf) lb, args := #[.func (.yield (s0 + 1)) #[] #[]] }, W1, gf,
    #[.func (.yield (s0 + 1)) #[] #[]] ++ lb, W1,?_,?_,fun f e => ?_,?_,fun _ => h1,?_⟩
  · have := run_enterLoop_outer (P := P) (w := w) fn a.tmps ps assign body
    rw [hs0] at this
    rw [<- hW1, hrc]
    exact this
  · simp only [resolve, hg]
    simp [go_sem]
  · simp [Target.leads] at e
    exact e ▸ hFg
  · simp [invoke, go_sem, eg]
  · have hwalk : ∀ {A : World} {row : Option Nat},(∀ r, row = some r -> W1.heap.size <= r ∧ ∃ o : Obj, A.heap[r]? = some o ∧ o.isWalk = true) -> ∀ r, row = some r -> s0 <= r ∧ ∃ o : Obj, A.heap[r]? = some o ∧ o.isCells = false := by
      intro A row h r e
      obtain ⟨x, o, y, z⟩ := h r e
      exact ⟨by omega, o, y, Obj.not_cells_of_walk z⟩
    refine (hseq (s0 + 1) (fun pre W => I pre W ∧ W.heap[s0 + 1]? = some (.loop (rc .ready)) ∧ W.heap[s0]? = some (.deferred (some []))) W1 hc1 (by omega) ?_ ?_ ?_ ⟨hI1, hL1, hK1⟩).mono ?_
    · rintro s A B row ⟨b1, b2, b3⟩ hgr hr
      exact ⟨hI s A B row b1 hgr (hwalk hr),(grownBy_keeps hgr (fun r e => (hr r e).2) b2 rfl).trans b2,(grownBy_keeps hgr (fun r e => (hr r e).2) b3 rfl).trans b3⟩
    · rintro s X v ⟨b1, b2, b3⟩
      exact ⟨hIc s X v b1,(blk_setCell_ne (a := ⟨c,0,none⟩) v (by show s0 + 1 ≠ c; omega)).trans b2,(blk_setCell_ne (a := ⟨c,0,none⟩) v (by show s0 ≠ c; omega)).trans b3⟩
    · rintro pre x W ⟨b1, b2, b3⟩ hpre
      have hlt : s0 + 1 < W.heap.size := lt_of_block b2
      have hy := run_yield (P := P) (args := encs x) b2 (by rw [hrc]; exact hps x)
      rw [hrc] at hy
      refine ⟨fn, _, assign, body, hy, roundIn_of_wpIn hfn (hassign _ x W _ ⟨_, run_beginRound b2 (by rw [hrc]),?_⟩)⟩
      have c2 : (W.putObj (s0 + 1) (.loop { rc .ready with state := .busy })).heap[s0 + 1]? = some (.loop { rc .ready with state := .busy }) := World.putObj_heap_same hlt
      have c3 : (W.putObj (s0 + 1) (.loop { rc .ready with state := .busy })).heap[s0]? = some (.deferred (some [])) := (World.putObj_heap_other (by omega)).trans b3
      have c4 : (W.putObj (s0 + 1) (.loop { rc .ready with state := .busy })).heap[c]? = W.heap[c]? := World.putObj_heap_other (by omega)
      refine wpIn_mono (hbody _ pre x _ (hI.putObj _ b1 (by omega) b2 rfl) hpre) ?_
      rintro e a3 W3 hp
      cases e with
      | normal =>
        obtain ⟨d1, d2, d3⟩ := hp
        have e2 := d1.same _ _ (by omega) c2 rfl
        have e3 := d1.same _ _ (Nat.le_refl _) c3 rfl
        have hlt3 := lt_of_block e2
        have hend := run_endRound (P := P) (r := { rc .ready with state := .busy }) none e2
        refine ⟨_, _, hend,rfl,⟨hI.putObj _ d3 (by omega) e2 rfl,?_,(World.putObj_heap_other (by omega)).trans e3⟩,(World.putObj_heap_other (by omega)).trans (d2.trans c4)⟩
        rw [World.putObj_heap_same hlt3, hrc]
        rfl
      | ret => exact hp.elim
      | exit id => exact hp.elim
      | goto t => exact hp.elim
      | panic ch => exact hp.elim
      | outgrown => exact hp.elim
    · rintro e W2 ⟨⟨v,rfl⟩, b1, b2, b3⟩
      have hend := run_endLoop (P := P) b2 (by rw [hrc]; simp)
      rw [hrc] at hend
      exact ⟨none, _, hend, hdone _ _ (Nat.le_refl _) (hI.putObj _ b1 (by omega) b2 rfl) ((World.putObj_heap_other (by omega)).trans b3)⟩
end
end Go.Proofs.YtkdbjelhkfdfjaaGreatDoor
namespace Go.Proofs.YtkdbjelhkfdfjaaGreatDoor
open Go.RowKit Go.Shelf
abbrev lineA : ByteArray := ⟨#[115,111,114,116,32,50,32,49,10]⟩
abbrev lineK : ByteArray := ⟨#[107,105,110,100,32,115,107,101,119,10]⟩
abbrev textA : ByteArray := ⟨#[115,111,114,116,32,50,32,49,10,107,105,110,100,32,115,107,101,119,10,115,111,114,116,32,50,32,49,10]⟩
abbrev textB : ByteArray := ⟨#[107,105,110,100,32,115,107,101,119,10,115,111,114,116,32,50,32,49,10]⟩
theorem byte_0 (w : World) : Calls Tryz.prog 76 #[.string ⟨#[115,111,114,116,32,50,32,49,10,107,105,110,100,32,115,107,101,119,10,115,111,114,116,32,50,32,49,10]⟩,.int .u8 10] w fun e w' => e = .returned (.int .i64 8) ∧ w = w' := by
  have hx : ∀ u,(callFunc 121 #[.string ⟨#[115,111,114,116,32,50,32,49,10,107,105,110,100,32,115,107,101,119,10,115,111,114,116,32,50,32,49,10]⟩,.int .u8 10]).run Tryz.prog u = .ok (.value (.int .i64 8)) u := fun u => by kernel_rfl
  have h0 : Calls Tryz.prog 97 #[.string ⟨#[115,111,114,116,32,50,32,49,10,107,105,110,100,32,115,107,101,119,10,115,111,114,116,32,50,32,49,10]⟩,.int .u8 10] w fun e w' => e = .returned (.int .i64 8) ∧ w = w' := by
    go_enter Tryz.func97, Tryz.ntmps97
    go_wp2_with fail
    go_ret
    exact ⟨rfl,rfl⟩
  go_enter Tryz.func76, Tryz.ntmps76
  go_wp2_with (go_at_call 97; refine h0.mono ?_; rintro e w' ⟨rfl,rfl⟩)
  go_ret
  exact ⟨rfl,rfl⟩
theorem byte_1 (w : World) : Calls Tryz.prog 76 #[.string ⟨#[107,105,110,100,32,115,107,101,119,10,115,111,114,116,32,50,32,49,10]⟩,.int .u8 10] w fun e w' => e = .returned (.int .i64 9) ∧ w = w' := by
  have hx : ∀ u,(callFunc 121 #[.string ⟨#[107,105,110,100,32,115,107,101,119,10,115,111,114,116,32,50,32,49,10]⟩,.int .u8 10]).run Tryz.prog u = .ok (.value (.int .i64 9)) u := fun u => by kernel_rfl
  have h0 : Calls Tryz.prog 97 #[.string ⟨#[107,105,110,100,32,115,107,101,119,10,115,111,114,116,32,50,32,49,10]⟩,.int .u8 10] w fun e w' => e = .returned (.int .i64 9) ∧ w = w' := by
    go_enter Tryz.func97, Tryz.ntmps97
    go_wp2_with fail
    go_ret
    exact ⟨rfl,rfl⟩
  go_enter Tryz.func76, Tryz.ntmps76
  go_wp2_with (go_at_call 97; refine h0.mono ?_; rintro e w' ⟨rfl,rfl⟩)
  go_ret
  exact ⟨rfl,rfl⟩
theorem byte_2 (w : World) : Calls Tryz.prog 76 #[.string ⟨#[115,111,114,116,32,50,32,49,10]⟩,.int .u8 10] w fun e w' => e = .returned (.int .i64 8) ∧ w = w' := by
  have hx : ∀ u,(callFunc 121 #[.string ⟨#[115,111,114,116,32,50,32,49,10]⟩,.int .u8 10]).run Tryz.prog u = .ok (.value (.int .i64 8)) u := fun u => by kernel_rfl
  have h0 : Calls Tryz.prog 97 #[.string ⟨#[115,111,114,116,32,50,32,49,10]⟩,.int .u8 10] w fun e w' => e = .returned (.int .i64 8) ∧ w = w' := by
    go_enter Tryz.func97, Tryz.ntmps97
    go_wp2_with fail
    go_ret
    exact ⟨rfl,rfl⟩
  go_enter Tryz.func76, Tryz.ntmps76
  go_wp2_with (go_at_call 97; refine h0.mono ?_; rintro e w' ⟨rfl,rfl⟩)
  go_ret
  exact ⟨rfl,rfl⟩
theorem trim_A (w : World) : Calls Tryz.prog 47 #[.string ⟨#[115,111,114,116,32,50,32,49,10]⟩,.string ⟨#[10]⟩] w fun e w' => e = .returned (.string ⟨#[115,111,114,116,32,50,32,49]⟩) ∧ w = w' := by
  have h0 : Calls Tryz.prog 114 #[.string ⟨#[115,111,114,116,32,50,32,49,10]⟩,.string ⟨#[10]⟩] w fun e w' => e = .returned (.bool true) ∧ w = w' := by
    have hq : ((((⟨#[115,111,114,116,32,50,32,49,10]⟩ : ByteArray).extract 8 9).toList == [10]) : Bool) = true := by kernel_rfl
    go_enter Tryz.func114, Tryz.ntmps114
    go_wp2_with fail
    go_ret
    exact ⟨rfl,rfl⟩
  have h1 : Calls Tryz.prog 82 #[.string ⟨#[115,111,114,116,32,50,32,49,10]⟩,.string ⟨#[10]⟩] w fun e w' => e = .returned (.string ⟨#[115,111,114,116,32,50,32,49]⟩) ∧ w = w' := by
    go_enter Tryz.func82, Tryz.ntmps82
    go_wp2_with (go_at_call 114; refine h0.mono ?_; rintro e w' ⟨rfl,rfl⟩)
    go_ret
    exact ⟨rfl,rfl⟩
  go_enter Tryz.func47, Tryz.ntmps47
  go_wp2_with (go_at_call 82; refine h1.mono ?_; rintro e w' ⟨rfl,rfl⟩)
  go_ret
  exact ⟨rfl,rfl⟩
theorem trim_K (w : World) : Calls Tryz.prog 47 #[.string ⟨#[107,105,110,100,32,115,107,101,119,10]⟩,.string ⟨#[10]⟩] w fun e w' => e = .returned (.string ⟨#[107,105,110,100,32,115,107,101,119]⟩) ∧ w = w' := by
  have h0 : Calls Tryz.prog 114 #[.string ⟨#[107,105,110,100,32,115,107,101,119,10]⟩,.string ⟨#[10]⟩] w fun e w' => e = .returned (.bool true) ∧ w = w' := by
    have hq : ((((⟨#[107,105,110,100,32,115,107,101,119,10]⟩ : ByteArray).extract 9 10).toList == [10]) : Bool) = true := by kernel_rfl
    go_enter Tryz.func114, Tryz.ntmps114
    go_wp2_with fail
    go_ret
    exact ⟨rfl,rfl⟩
  have h1 : Calls Tryz.prog 82 #[.string ⟨#[107,105,110,100,32,115,107,101,119,10]⟩,.string ⟨#[10]⟩] w fun e w' => e = .returned (.string ⟨#[107,105,110,100,32,115,107,101,119]⟩) ∧ w = w' := by
    go_enter Tryz.func82, Tryz.ntmps82
    go_wp2_with (go_at_call 114; refine h0.mono ?_; rintro e w' ⟨rfl,rfl⟩)
    go_ret
    exact ⟨rfl,rfl⟩
  go_enter Tryz.func47, Tryz.ntmps47
  go_wp2_with (go_at_call 82; refine h1.mono ?_; rintro e w' ⟨rfl,rfl⟩)
  go_ret
  exact ⟨rfl,rfl⟩
theorem lines_seq (n : Nat) (hn : 4 <= n) (w : World) (c : Nat) (hc : w.heap[c]? = some (.cells #[.string textA] 9 (0,0))) :
    SeqC Fence.wide n Tryz.prog 75 #[.pointer (some ⟨c,0,none⟩)] (fun s : ByteArray => #[Value.string s]) c [lineA, lineK, lineA] w := fun l J W hW hsz hJ hJc hY h0 => by
  have hcW : W.heap[c]? = some (.cells #[.string textA] 9 (0,0)) := hW.trans hc
  have x0 := fun u => callsIn_wide (n := n - 1).2 (byte_0 u)
  have x1 := fun u => callsIn_wide (n := n - 1).2 (byte_1 u)
  have x2 := fun u => callsIn_wide (n := n - 1).2 (byte_2 u)
  have HJ := Lib.hid hJ
  have HJC := Lib.hid hJc
  have HY := Lib.hid hY
  clear hJ hJc hY hW hc hsz
  have hmx : Tryz.prog.follows .mixedOrders = true := by kernel_rfl
  refine callsIn_of_wp Tryz.func75 rfl trivial ?_ rfl
  simp only [Tryz.ntmps75, List.size_toArray, List.length_cons, List.length_nil, Nat.reduceAdd, Nat.reduceSub, Array.replicate_succ, Array.replicate_zero, List.push_toArray, List.append_toArray, List.nil_append, List.cons_append]
  gi_wp2
  gi_loopg [3,4] 4 (fun k s i wr => (k = 4 ∧ wr.heap[c]? = some (.cells #[.string textA] 9 (0,0)) ∧ J [] wr) ∨ (k = 3 ∧ wr.heap[c]? = some (.cells #[.string textB] 9 (0,0)) ∧ J [lineA] wr)
    ∨ (k = 2 ∧ wr.heap[c]? = some (.cells #[.string lineA] 9 (0,0)) ∧ J [lineA, lineK] wr) ∨ (k = 1 ∧ wr.heap[c]? = some (.cells #[.string ByteArray.empty] 9 (0,0)) ∧ J [lineA, lineK, lineA] wr))
  case atStart => exact .inl ⟨rfl, hcW, h0⟩
  case round =>
    clear hcW h0
    rcases hrel with ⟨hk, hb, hj⟩ | ⟨hk, hb, hj⟩ | ⟨hk, hb, hj⟩ | ⟨hk, hb, hj⟩
    · have hc : wr.cell? ⟨c,0,none⟩ = some (.string ⟨#[115,111,114,116,32,50,32,49,10,107,105,110,100,32,115,107,101,119,10,115,111,114,116,32,50,32,49,10]⟩) := by rw [cell_of_blk hb]; rfl
      have hf : wr.frozen? ⟨c,0,none⟩ = false := frozen_of_blk hb
      have q1 : (⟨#[115,111,114,116,32,50,32,49,10,107,105,110,100,32,115,107,101,119,10,115,111,114,116,32,50,32,49,10]⟩ : ByteArray).extract 0 9 = ⟨#[115,111,114,116,32,50,32,49,10]⟩ := by kernel_rfl
      have q2 : (⟨#[115,111,114,116,32,50,32,49,10,107,105,110,100,32,115,107,101,119,10,115,111,114,116,32,50,32,49,10]⟩ : ByteArray).extract 9 28 = ⟨#[107,105,110,100,32,115,107,101,119,10,115,111,114,116,32,50,32,49,10]⟩ := by kernel_rfl
      have hb2 : (wr.setCell ⟨c,0,none⟩ (.string ⟨#[107,105,110,100,32,115,107,101,119,10,115,111,114,116,32,50,32,49,10]⟩)).drew.heap[c]? = some (.cells #[.string ⟨#[107,105,110,100,32,115,107,101,119,10,115,111,114,116,32,50,32,49,10]⟩] 9 (0,0)) := (blk_setCell (w := wr) (b := c) (i := 0) _ hb).trans rfl
      have hj2 : J [] (wr.setCell ⟨c,0,none⟩ (.string ⟨#[107,105,110,100,32,115,107,101,119,10,115,111,114,116,32,50,32,49,10]⟩)).drew := HJ.out _ _ _ none (HJC.out _ _ _ hj) ⟨rfl,rfl,rfl, Nat.le_refl _,fun _ _ _ => rfl⟩ (fun r e => by cases e)
      obtain ⟨fn, tm, asg, bd, hy, hR⟩ := HY.out [] ⟨#[115,111,114,116,32,50,32,49,10]⟩ (wr.setCell ⟨c,0,none⟩ (.string ⟨#[107,105,110,100,32,115,107,101,119,10,115,111,114,116,32,50,32,49,10]⟩)).drew hj2 ⟨[lineK, lineA],rfl⟩
      have HB := Lib.hid hb2
      clear hb hj hb2 hj2
      gi_wp2_with (refine ⟨trivial,fun _ => by omega,?_⟩; gi_at_call 76; refine (x0 _).mono ?_; rintro e w' ⟨rfl,rfl⟩)
      gi_region_o
      gi_wp2
      refine ⟨fun _ => by omega, hR.mono ?_⟩
      rintro e W3 ⟨rfl, hj3, hb3⟩
      have HJ3 := Lib.hid hj3
      have HB3 := Lib.hid (hb3.trans HB.out)
      clear hj3 hb3
      gi_wp2
      gi_roundg 3
      case measure => omega
      case rel => exact .inr (.inl ⟨rfl, HB3.out, HJ3.out⟩)
    · have hc : wr.cell? ⟨c,0,none⟩ = some (.string ⟨#[107,105,110,100,32,115,107,101,119,10,115,111,114,116,32,50,32,49,10]⟩) := by rw [cell_of_blk hb]; rfl
      have hf : wr.frozen? ⟨c,0,none⟩ = false := frozen_of_blk hb
      have q1 : (⟨#[107,105,110,100,32,115,107,101,119,10,115,111,114,116,32,50,32,49,10]⟩ : ByteArray).extract 0 10 = ⟨#[107,105,110,100,32,115,107,101,119,10]⟩ := by kernel_rfl
      have q2 : (⟨#[107,105,110,100,32,115,107,101,119,10,115,111,114,116,32,50,32,49,10]⟩ : ByteArray).extract 10 19 = ⟨#[115,111,114,116,32,50,32,49,10]⟩ := by kernel_rfl
      have hb2 : (wr.setCell ⟨c,0,none⟩ (.string ⟨#[115,111,114,116,32,50,32,49,10]⟩)).drew.heap[c]? = some (.cells #[.string ⟨#[115,111,114,116,32,50,32,49,10]⟩] 9 (0,0)) := (blk_setCell (w := wr) (b := c) (i := 0) _ hb).trans rfl
      have hj2 : J [lineA] (wr.setCell ⟨c,0,none⟩ (.string ⟨#[115,111,114,116,32,50,32,49,10]⟩)).drew := HJ.out _ _ _ none (HJC.out _ _ _ hj) ⟨rfl,rfl,rfl, Nat.le_refl _,fun _ _ _ => rfl⟩ (fun r e => by cases e)
      obtain ⟨fn, tm, asg, bd, hy, hR⟩ := HY.out [lineA] ⟨#[107,105,110,100,32,115,107,101,119,10]⟩ (wr.setCell ⟨c,0,none⟩ (.string ⟨#[115,111,114,116,32,50,32,49,10]⟩)).drew hj2 ⟨[lineA],rfl⟩
      have HB := Lib.hid hb2
      clear hb hj hb2 hj2
      gi_wp2_with (refine ⟨trivial,fun _ => by omega,?_⟩; gi_at_call 76; refine (x1 _).mono ?_; rintro e w' ⟨rfl,rfl⟩)
      gi_region_o
      gi_wp2
      refine ⟨fun _ => by omega, hR.mono ?_⟩
      rintro e W3 ⟨rfl, hj3, hb3⟩
      have HJ3 := Lib.hid hj3
      have HB3 := Lib.hid (hb3.trans HB.out)
      clear hj3 hb3
      gi_wp2
      gi_roundg 2
      case measure => omega
      case rel => exact .inr (.inr (.inl ⟨rfl, HB3.out, HJ3.out⟩))
    · have hc : wr.cell? ⟨c,0,none⟩ = some (.string ⟨#[115,111,114,116,32,50,32,49,10]⟩) := by rw [cell_of_blk hb]; rfl
      have hf : wr.frozen? ⟨c,0,none⟩ = false := frozen_of_blk hb
      have q1 : (⟨#[115,111,114,116,32,50,32,49,10]⟩ : ByteArray).extract 0 9 = ⟨#[115,111,114,116,32,50,32,49,10]⟩ := by kernel_rfl
      have q2 : (⟨#[115,111,114,116,32,50,32,49,10]⟩ : ByteArray).extract 9 9 = ByteArray.empty := by kernel_rfl
      have hb2 : (wr.setCell ⟨c,0,none⟩ (.string ByteArray.empty)).drew.heap[c]? = some (.cells #[.string ByteArray.empty] 9 (0,0)) := (blk_setCell (w := wr) (b := c) (i := 0) _ hb).trans rfl
      have hj2 : J [lineA, lineK] (wr.setCell ⟨c,0,none⟩ (.string ByteArray.empty)).drew := HJ.out _ _ _ none (HJC.out _ _ _ hj) ⟨rfl,rfl,rfl, Nat.le_refl _,fun _ _ _ => rfl⟩ (fun r e => by cases e)
      obtain ⟨fn, tm, asg, bd, hy, hR⟩ := HY.out [lineA, lineK] ⟨#[115,111,114,116,32,50,32,49,10]⟩ (wr.setCell ⟨c,0,none⟩ (.string ByteArray.empty)).drew hj2 ⟨[],rfl⟩
      have HB := Lib.hid hb2
      clear hb hj hb2 hj2
      gi_wp2_with (refine ⟨trivial,fun _ => by omega,?_⟩; gi_at_call 76; refine (x2 _).mono ?_; rintro e w' ⟨rfl,rfl⟩)
      gi_region_o
      gi_wp2
      refine ⟨fun _ => by omega, hR.mono ?_⟩
      rintro e W3 ⟨rfl, hj3, hb3⟩
      have HJ3 := Lib.hid hj3
      have HB3 := Lib.hid (hb3.trans HB.out)
      clear hj3 hb3
      gi_wp2
      gi_roundg 1
      case measure => omega
      case rel => exact .inr (.inr (.inr (⟨rfl, HB3.out, HJ3.out⟩)))
    · have hc : wr.cell? ⟨c,0,none⟩ = some (.string ByteArray.empty) := by rw [cell_of_blk hb]; rfl
      have HJ3 := Lib.hid hj
      clear hj hb
      gi_wp2
      go_end0
      exact ⟨⟨_,rfl⟩, HJ3.out⟩
end Go.Proofs.YtkdbjelhkfdfjaaGreatDoor


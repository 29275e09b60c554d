/-
  Contracts that the law rests on. Conditions: none.
-/
import Derived.Test.YtkdbjelhkfdfjaaGreatDoorLv01
import Derived.Test.YtkdbjelhkfdfjaaGreatDoorRows
import Derived.BigQuiet
import Derived.BigRegion
import Derived.Deep.LoopGhost
import Derived.Deep.QuietTactic
import Derived.Lib.Hide
import Derived.Outline
import Derived.RegionTactic
import Derived.WalkLawsBesides
import Derived.WalkSpells
set_option linter.unusedVariables false
set_option maxRecDepth 100000
set_option maxHeartbeats 32000000
namespace Go.Proofs.YtkdbjelhkfdfjaaGreatDoor.Rg
def Path (N : Nat -> Nat) : Nat -> List Nat -> Nat -> Prop
  | x, [], z => N x = z
  | x, y :: t, z => N x = y ∧ Path N y t z
theorem path_append {N : Nat -> Nat} {s : List Nat} {x y z : Nat} {t : List Nat} : Path N x (s ++ y :: t) z ↔ Path N x s y ∧ Path N y t z := by
  induction s generalizing x with
  | nil => simp [Path]
  | cons a s ih => simp only [List.cons_append, Path, ih, and_assoc]
theorem Path.turn {N N' : Nat -> Nat} {s : List Nat} {x x' z : Nat} (h : Path N x s z) (hx : N' x' = N x) (hs : ∀ v ∈ s, N' v = N v) : Path N' x' s z := by
  cases s with
  | nil => exact hx.trans h
  | cons a s =>
    refine ⟨hx.trans h.1,?_⟩
    have h2 := h.2
    clear h hx
    induction s generalizing a with
    | nil => exact (hs a (by simp)).trans h2
    | cons b s ih => exact ⟨(hs a (by simp)).trans h2.1, ih b (fun v hv => hs v (by simp at hv ⊢; exact .inr hv)) h2.2⟩
theorem Path.last {N : Nat -> Nat} {r : List Nat} {y x : Nat} (h : Path N y r x) : N ((y :: r).getLast (by simp)) = x := by
  induction r generalizing y with
  | nil => exact h
  | cons a s ih => rw [List.getLast_cons (by simp)]; exact ih h.2
theorem Path.at {N : Nat -> Nat} {r : List Nat} {y x : Nat} (h : Path N y r x) (k : Nat) (hk : k <= r.length) : N ((y :: r).getD k 0) = (r ++ [x]).getD k 0 := by
  induction r generalizing y k with
  | nil =>
    obtain rfl : k = 0 := by simpa using hk
    exact h
  | cons a s ih =>
    cases k with
    | zero => exact h.1
    | succ k => exact ih h.2 k (by simpa using hk)
def Ring (N : Nat -> Nat) (l : List Nat) : Prop := ∃ x t, l = x :: t ∧ Path N x t x
theorem Ring.from {N : Nat -> Nat} {s t : List Nat} {x : Nat} (h : Ring N (s ++ x :: t)) : Path N x (t ++ s) x := by
  obtain ⟨y, u, e, hp⟩ := h
  cases s with
  | nil =>
    simp only [List.nil_append, List.cons.injEq] at e
    obtain ⟨rfl,rfl⟩ := e
    simpa using hp
  | cons a s =>
    simp only [List.cons_append, List.cons.injEq] at e
    obtain ⟨rfl,rfl⟩ := e
    rw [path_append] at hp
    exact path_append.2 ⟨hp.2, hp.1⟩
def isI (x : Int) (y : Nat) : Bool := ((y : Nat) : Int) == x
theorem isI_nat (x y : Nat) : isI x y = decide (y = x) := by
  simp only [isI]
  by_cases h : y = x
  · subst h; simp
  · rw [decide_eq_false h, beq_eq_false_iff_ne]; omega
def rotZ (l : List Nat) (x : Int) : List Nat := l.dropWhile (fun y => !isI x y) ++ l.takeWhile (fun y => !isI x y)
def allZ (w : List (List Nat)) (x : Int) : List Nat :=
  match w.find? (fun l => l.any (isI x)) with
  | some l => rotZ l x
  | none => []
def withoutZ (w : List (List Nat)) (x y : Int) : List (List Nat) := w.filter fun l => !l.any (isI x) && !l.any (isI y)
def spliceZ (w : List (List Nat)) (x y : Int) : List (List Nat) × Bool :=
  if allZ w x = [] ∨ allZ w y = [] then (w, false)
  else if x = y then (w, true)
  else match (allZ w x).findIdx? (isI y) with
    | none => (withoutZ w x y ++ [x.toNat :: (allZ w y).tail ++ y.toNat :: (allZ w x).tail], true)
    | some i => (withoutZ w x y ++ [x.toNat :: (allZ w x).drop (i + 1), y.toNat :: ((allZ w x).take i).tail], true)
def partZ (w : List (List Nat)) (x : Int) : List (List Nat) × Bool :=
  if allZ w x = [] then (w, false)
  else if (allZ w x).length = 1 then (w, true)
  else (withoutZ w x x ++ [[x.toNat],(allZ w x).tail], true)
def fn (L : List Nat) : Nat -> Nat := fun i => L.getD i 0
theorem fn_set_eq {L : List Nat} {i x : Nat} (h : i < L.length) : fn (L.set i x) i = x := by simp [fn, List.getD, h]
theorem fn_set_ne {L : List Nat} {i j x : Nat} (h : i ≠ j) : fn (L.set i x) j = fn L j := by simp [fn, List.getD, h]
structure Rings (n : Nat) (N P : List Nat) (w : List (List Nat)) : Prop where
  ln : N.length = n
  lp : P.length = n
  inv : ∀ i, i < n -> fn N i < n ∧ fn P i < n ∧ fn P (fn N i) = i ∧ fn N (fn P i) = i
  ring : ∀ l ∈ w, Ring (fn N) l
  nd : w.flatten.Nodup
  mem : ∀ i, i ∈ w.flatten ↔ i < n
theorem uniq {w : List (List Nat)} (h : w.flatten.Nodup) {l l' : List Nat} {z : Nat} (h1 : l ∈ w) (h2 : l' ∈ w) (h3 : z ∈ l) (h4 : z ∈ l') : l = l' := by
  induction w with
  | nil => cases h1
  | cons a w ih =>
    rw [List.flatten_cons, List.nodup_append] at h
    simp only [List.mem_cons] at h1 h2
    rcases h1 with rfl | h1
    · rcases h2 with rfl | h2
      · rfl
      · exact absurd rfl (h.2.2 z h3 z (List.mem_flatten.2 ⟨_, h2, h4⟩))
    · rcases h2 with rfl | h2
      · exact absurd rfl (h.2.2 z h4 z (List.mem_flatten.2 ⟨_, h1, h3⟩))
      · exact ih h.2.1 h1 h2
theorem nodup_of {w : List (List Nat)} (h : w.flatten.Nodup) {l : List Nat} (h1 : l ∈ w) : l.Nodup := by
  induction w with
  | nil => cases h1
  | cons a w ih =>
    rw [List.flatten_cons, List.nodup_append] at h
    simp only [List.mem_cons] at h1
    rcases h1 with rfl | h1
    · exact h.1
    · exact ih h.2.1 h1
theorem flatten_filter (w : List (List Nat)) (p : List Nat -> Bool) : (w.filter p).flatten.Sublist w.flatten := by
  induction w with
  | nil => simp
  | cons a w ih =>
    rw [List.filter_cons, List.flatten_cons]
    split
    · rw [List.flatten_cons]; exact List.Sublist.append (List.Sublist.refl _) ih
    · exact ih.trans (List.sublist_append_right _ _)
theorem any_isI (l : List Nat) (x : Nat) : l.any (isI x) = decide (x ∈ l) := by
  rw [Bool.eq_iff_iff]
  simp only [List.any_eq_true, isI_nat, decide_eq_true_eq]
  constructor
  · rintro ⟨y, h,rfl⟩; exact h
  · intro h; exact ⟨x, h,rfl⟩
theorem split_at {l : List Nat} {x : Nat} (h : x ∈ l) : ∃ s t, l = s ++ x :: t ∧ x ∉ s ∧ rotZ l x = x :: t ++ s := by
  induction l with
  | nil => cases h
  | cons a l ih =>
    by_cases e : a = x
    · subst e
      exact ⟨[], l,rfl,by simp,by simp [rotZ, isI_nat]⟩
    · have hx : x ∈ l := by
        simp only [List.mem_cons] at h
        rcases h with h | h
        · exact absurd h.symm e
        · exact h
      obtain ⟨s, t,rfl, h2, h3⟩ := ih hx
      refine ⟨a :: s, t,rfl,by simp only [List.mem_cons, not_or]; exact ⟨fun h => e h.symm, h2⟩,?_⟩
      simp only [rotZ, isI_nat, List.cons_append, List.dropWhile_cons, List.takeWhile_cons, decide_eq_false e, Bool.not_false, if_true] at h3 ⊢
      have hd : (s ++ x :: t).dropWhile (fun y => !decide (y = x)) = x :: t := by
        clear h3 ih h hx
        induction s with
        | nil => simp
        | cons b s ih2 =>
          have hb : b ≠ x := fun e => h2 (by simp [e])
          simp only [List.cons_append, List.dropWhile_cons, decide_eq_false hb, Bool.not_false, if_true]
          exact ih2 (fun hm => h2 (by simp [hm]))
      have ht : (s ++ x :: t).takeWhile (fun y => !decide (y = x)) = s := by
        clear h3 ih h hx hd
        induction s with
        | nil => simp
        | cons b s ih2 =>
          have hb : b ≠ x := fun e => h2 (by simp [e])
          simp only [List.cons_append, List.takeWhile_cons, decide_eq_false hb, Bool.not_false, if_true]
          rw [ih2 (fun hm => h2 (by simp [hm]))]
      rw [hd, ht]
      simp
section
variable {n : Nat} {N P : List Nat} {w : List (List Nat)}
theorem Rings.home (h : Rings n N P w) {x : Nat} (hx : x < n) : ∃ l r, l ∈ w ∧ x ∈ l ∧ allZ w x = x :: r ∧ Path (fn N) x r x ∧ (x :: r).Nodup ∧ (∀ z, z ∈ x :: r ↔ z ∈ l) ∧ (∀ z ∈ r, z < n) := by
  obtain ⟨l0, hl0, hx0⟩ := List.mem_flatten.1 ((h.mem x).2 hx)
  cases hf : w.find? (fun l => l.any (isI x)) with
  | none =>
    rw [List.find?_eq_none] at hf
    exact absurd (by rw [any_isI]; simpa using hx0) (hf l0 hl0)
  | some l =>
    have h1 := List.find?_some hf
    have h2 := List.mem_of_find?_eq_some hf
    rw [any_isI, decide_eq_true_eq] at h1
    obtain ⟨s, t, e, h3, h4⟩ := split_at h1
    have hr := h.ring l h2
    have hnd := nodup_of h.nd h2
    rw [e] at hr
    have hmem : ∀ z, z ∈ x :: (t ++ s) ↔ z ∈ l := by
      intro z
      rw [e]
      simp only [List.mem_cons, List.mem_append]
      constructor
      · rintro (h | h | h)
        · exact .inr (.inl h)
        · exact .inr (.inr h)
        · exact .inl h
      · rintro (h | h | h)
        · exact .inr (.inr h)
        · exact .inl h
        · exact .inr (.inl h)
    refine ⟨l, t ++ s, h2, h1,?_, hr.from,?_, hmem,?_⟩
    · simp only [allZ, hf, h4, List.cons_append]
    · have hp : (x :: (t ++ s)).Perm l := by
        rw [e]
        have : (x :: t ++ s).Perm (s ++ x :: t) := List.perm_append_comm
        simpa using this
      exact hp.nodup_iff.2 hnd
    · intro z hz
      exact (h.mem z).1 (List.mem_flatten.2 ⟨l, h2,(hmem z).1 (by simp [hz])⟩)
theorem Rings.build (h : Rings n N P w) {x y : Nat} {N' P' : List Nat} (K : List (List Nat)) (ln : N'.length = n) (lp : P'.length = n)
    (inv : ∀ i, i < n -> fn N' i < n ∧ fn P' i < n ∧ fn P' (fn N' i) = i ∧ fn N' (fn P' i) = i) (hK : ∀ l ∈ K, Ring (fn N') l) (hnd : K.flatten.Nodup)
    {lx ly : List Nat} (hlx : lx ∈ w) (hly : ly ∈ w) (hxl : x ∈ lx) (hyl : y ∈ ly) (hmem : ∀ z, z ∈ K.flatten ↔ z ∈ lx ∨ z ∈ ly) (hN : ∀ v, v ≠ x -> v ≠ y -> fn N' v = fn N v) :
    Rings n N' P' (withoutZ w x y ++ K) := by
  have hwo : ∀ l, l ∈ withoutZ w x y ↔ l ∈ w ∧ x ∉ l ∧ y ∉ l := by
    intro l
    simp only [withoutZ, List.mem_filter, any_isI, Bool.and_eq_true, Bool.not_eq_true', decide_eq_false_iff_not]
  refine ⟨ln, lp, inv,?_,?_,?_⟩
  · intro l hl
    rcases List.mem_append.1 hl with hl | hl
    · obtain ⟨h1, h2, h3⟩ := (hwo l).1 hl
      obtain ⟨a, t,rfl, hp⟩ := h.ring l h1
      refine ⟨a, t,rfl, hp.turn (hN a (fun e => h2 (by simp [e])) (fun e => h3 (by simp [e]))) ?_⟩
      intro v hv
      exact hN v (fun e => h2 (by simp [<- e, hv])) (fun e => h3 (by simp [<- e, hv]))
    · exact hK l hl
  · rw [List.flatten_append, List.nodup_append]
    refine ⟨h.nd.sublist (flatten_filter _ _), hnd,?_⟩
    intro a ha b hb e
    subst e
    obtain ⟨l, hl, hal⟩ := List.mem_flatten.1 ha
    obtain ⟨h1, h2, h3⟩ := (hwo l).1 hl
    rcases (hmem a).1 hb with h4 | h4
    · exact h2 ((uniq h.nd h1 hlx hal h4) ▸ hxl)
    · exact h3 ((uniq h.nd h1 hly hal h4) ▸ hyl)
  · intro i
    rw [List.flatten_append, List.mem_append, hmem, <- h.mem]
    constructor
    · rintro (h1 | h1 | h1)
      · obtain ⟨l, hl, hil⟩ := List.mem_flatten.1 h1
        exact List.mem_flatten.2 ⟨l,((hwo l).1 hl).1, hil⟩
      · exact List.mem_flatten.2 ⟨lx, hlx, h1⟩
      · exact List.mem_flatten.2 ⟨ly, hly, h1⟩
    · intro h1
      obtain ⟨l, hl, hil⟩ := List.mem_flatten.1 h1
      by_cases e1 : x ∈ l
      · exact .inr (.inl ((uniq h.nd hl hlx e1 hxl) ▸ hil))
      · by_cases e2 : y ∈ l
        · exact .inr (.inr ((uniq h.nd hl hly e2 hyl) ▸ hil))
        · exact .inl (List.mem_flatten.2 ⟨l,(hwo l).2 ⟨hl, e1, e2⟩, hil⟩)
def nextS (N : List Nat) (x y : Nat) : List Nat := (N.set x (fn N y)).set y (fn N x)
def prevS (N P : List Nat) (x y : Nat) : List Nat := (P.set (fn N y) x).set (fn N x) y
theorem nextS_x (h : N.length = n) {x y : Nat} (hx : x < n) (hy : y < n) : fn (nextS N x y) x = fn N y := by
  rw [nextS]
  by_cases e : y = x
  · subst e; rw [fn_set_eq (by simpa using h ▸ hx)]
  · rw [fn_set_ne e, fn_set_eq (by rw [h]; exact hx)]
theorem nextS_y (h : N.length = n) {x y : Nat} (hy : y < n) : fn (nextS N x y) y = fn N x := by
  rw [nextS, fn_set_eq (by simpa using h ▸ hy)]
theorem nextS_o {x y v : Nat} (h1 : v ≠ x) (h2 : v ≠ y) : fn (nextS N x y) v = fn N v := by
  rw [nextS, fn_set_ne (Ne.symm h2), fn_set_ne (Ne.symm h1)]
theorem Rings.inj (h : Rings n N P w) {i j : Nat} (hi : i < n) (hj : j < n) (e : fn N i = fn N j) : i = j := by
  rw [<- (h.inv i hi).2.2.1, e,(h.inv j hj).2.2.1]
theorem Rings.invS (h : Rings n N P w) {x y : Nat} (hx : x < n) (hy : y < n) :
    (nextS N x y).length = n ∧ (prevS N P x y).length = n ∧ ∀ i, i < n -> fn (nextS N x y) i < n ∧ fn (prevS N P x y) i < n ∧ fn (prevS N P x y) (fn (nextS N x y) i) = i ∧ fn (nextS N x y) (fn (prevS N P x y) i) = i := by
  have ln := h.ln
  have lp := h.lp
  obtain ⟨a1, a2, a3, a4⟩ := h.inv x hx
  obtain ⟨b1, b2, b3, b4⟩ := h.inv y hy
  have pa : fn (prevS N P x y) (fn N x) = y := by rw [prevS, fn_set_eq (by simpa [lp] using a1)]
  have pb : fn (prevS N P x y) (fn N y) = x := by
    rw [prevS]
    by_cases e : fn N x = fn N y
    · rw [e, fn_set_eq (by simpa [lp] using b1)]
      exact (h.inj hx hy e).symm
    · rw [fn_set_ne e, fn_set_eq (by rw [lp]; exact b1)]
  have po : ∀ v, v ≠ fn N x -> v ≠ fn N y -> fn (prevS N P x y) v = fn P v := by
    intro v h1 h2
    rw [prevS, fn_set_ne (Ne.symm h1), fn_set_ne (Ne.symm h2)]
  refine ⟨by simp [nextS, ln],by simp [prevS, lp],fun i hi => ?_⟩
  obtain ⟨c1, c2, c3, c4⟩ := h.inv i hi
  refine ⟨?_,?_,?_,?_⟩
  · by_cases e1 : i = x
    · subst e1; rw [nextS_x ln hx hy]; exact b1
    · by_cases e2 : i = y
      · subst e2; rw [nextS_y ln hy]; exact a1
      · rw [nextS_o e1 e2]; exact c1
  · by_cases e1 : i = fn N x
    · rw [e1, pa]; exact hy
    · by_cases e2 : i = fn N y
      · rw [e2, pb]; exact hx
      · rw [po i e1 e2]; exact c2
  · by_cases e1 : i = x
    · subst e1; rw [nextS_x ln hx hy]; exact pb
    · by_cases e2 : i = y
      · subst e2; rw [nextS_y ln hy]; exact pa
      · rw [nextS_o e1 e2, po _ (fun e => e1 (h.inj hi hx e)) (fun e => e2 (h.inj hi hy e))]; exact c3
  · by_cases e1 : i = fn N x
    · rw [e1, pa, nextS_y ln hy]
    · by_cases e2 : i = fn N y
      · rw [e2, pb, nextS_x ln hx hy]
      · rw [po i e1 e2, nextS_o (fun e => e1 (by rw [<- e, c4])) (fun e => e2 (by rw [<- e, c4]))]; exact c4
theorem set_fn {L : List Nat} {i : Nat} : L.set i (fn L i) = L := by
  apply List.ext_getElem (by simp)
  intro j h1 h2
  by_cases e : i = j
  · subst e
    simp only [List.length_set] at h1
    simp [fn, List.getD, h2]
  · simp [e]
theorem nextS_self {x : Nat} : nextS N x x = N := by rw [nextS, set_fn, set_fn]
theorem prevS_self (h : Rings n N P w) {x : Nat} (hx : x < n) : prevS N P x x = P := by
  have := (h.inv x hx).2.2.1
  have e : P.set (fn N x) x = P := by
    have h2 := set_fn (L := P) (i := fn N x)
    rwa [this] at h2
  rw [prevS, e, e]
theorem findIdx_none {l : List Nat} {y : Nat} (h : y ∉ l) : l.findIdx? (isI y) = none := by
  rw [List.findIdx?_eq_none_iff]
  intro z hz
  rw [isI_nat, decide_eq_false_iff_not]
  intro e; subst e; exact h hz
theorem findIdx_some {s t : List Nat} {y : Nat} (h : y ∉ s) : (s ++ y :: t).findIdx? (isI y) = some s.length := by
  have h0 : (y :: t).findIdx? (isI y) = some 0 := by rw [List.findIdx?_cons]; simp [isI]
  rw [List.findIdx?_append, findIdx_none h, h0]
  simp
theorem Rings.splice (h : Rings n N P w) {x y : Nat} (hx : x < n) (hy : y < n) : (spliceZ w x y).2 = true ∧ Rings n (nextS N x y) (prevS N P x y) (spliceZ w x y).1 := by
  obtain ⟨lx, rx, hlx, hxl, hax, hpx, hndx, hmx, hbx⟩ := h.home hx
  obtain ⟨ly, ry, hly, hyl, hay, hpy, hndy, hmy, hby⟩ := h.home hy
  by_cases e : x = y
  · subst e
    rw [nextS_self, prevS_self h hx]
    simp [spliceZ, hax, h]
  · have e' : ¬ ((x : Int) = (y : Int)) := by omega
    obtain ⟨i1, i2, i3⟩ := h.invS hx hy
    have hN : ∀ v, v ≠ x -> v ≠ y -> fn (nextS N x y) v = fn N v := fun v h1 h2 => nextS_o h1 h2
    have hnx := nextS_x h.ln hx hy
    have hny := nextS_y (x := x) h.ln hy
    have hxr : x ∉ rx := (List.nodup_cons.1 hndx).1
    have hyr : y ∉ ry := (List.nodup_cons.1 hndy).1
    by_cases hy2 : y ∈ x :: rx
    · have hyrx : y ∈ rx := by
        simp only [List.mem_cons] at hy2
        rcases hy2 with h1 | h1
        · exact absurd h1.symm e
        · exact h1
      obtain ⟨s, t, est, hys, _⟩ := split_at hyrx
      subst est
      have hfi : (x :: (s ++ y :: t)).findIdx? (isI y) = some (s.length + 1) := by
        have := findIdx_some (s := x :: s) (t := t) (y := y) (by simp only [List.mem_cons, not_or]; exact ⟨fun h => e h.symm, hys⟩)
        simpa using this
      rw [path_append] at hpx
      have hxs : x ∉ s := fun h => hxr (by simp [h])
      have hxt : x ∉ t := fun h => hxr (by simp [h])
      have hnd2 := (List.nodup_cons.1 hndx).2
      rw [List.nodup_append] at hnd2
      obtain ⟨n1, n2, n3⟩ := hnd2
      have hyt : y ∉ t := (List.nodup_cons.1 n2).1
      have hr1 : Ring (fn (nextS N x y)) (x :: t) := ⟨x, t,rfl, hpx.2.turn hnx fun v hv => hN v (fun e => hxt (e ▸ hv)) (fun e => hyt (e ▸ hv))⟩
      have hr2 : Ring (fn (nextS N x y)) (y :: s) := ⟨y, s,rfl, hpx.1.turn hny fun v hv => hN v (fun e => hxs (e ▸ hv)) (fun e => hys (e ▸ hv))⟩
      have hd1 : (x :: (s ++ y :: t)).drop (s.length + 1 + 1) = t := by simp
      have hd2 : ((x :: (s ++ y :: t)).take (s.length + 1)).tail = s := by simp
      have hk := h.build (x := x) (y := y) [x :: t, y :: s] i1 i2 i3 (by
        intro l hl
        simp only [List.mem_cons, List.not_mem_nil, or_false] at hl
        rcases hl with rfl | rfl
        · exact hr1
        · exact hr2) (by
        have hp : ([x :: t, y :: s] : List (List Nat)).flatten.Perm (x :: (s ++ y :: t)) := by
          simp only [List.flatten_cons, List.flatten_nil, List.append_nil, List.cons_append]
          refine List.Perm.cons _ ?_
          have h1 : (t ++ y :: s).Perm (y :: s ++ t) := List.perm_append_comm
          have h2 : (y :: s ++ t).Perm (s ++ y :: t) := by simpa using (List.perm_middle (l₁ := s) (l₂ := t) (a := y)).symm
          exact h1.trans h2
        exact hp.nodup_iff.2 hndx) hlx hly hxl hyl (by
        intro z
        have hz1 := hmx z
        have hl : ly = lx := uniq h.nd hly hlx hyl ((hmx y).1 hy2)
        rw [hl, or_self, <- hz1]
        simp only [List.flatten_cons, List.flatten_nil, List.append_nil, List.cons_append, List.mem_cons, List.mem_append]
        constructor
        · rintro (h1 | h1 | h1 | h1)
          · exact .inl h1
          · exact .inr (.inr (.inr h1))
          · exact .inr (.inr (.inl h1))
          · exact .inr (.inl h1)
        · rintro (h1 | h1 | h1 | h1)
          · exact .inl h1
          · exact .inr (.inr (.inr h1))
          · exact .inr (.inr (.inl h1))
          · exact .inr (.inl h1)) hN
      have hsp : spliceZ w x y = (withoutZ w x y ++ [x :: t, y :: s], true) := by
        simp only [spliceZ, hax, hay, hfi, hd1, hd2, e', Int.toNat_natCast]
        simp
      rw [hsp]
      exact ⟨rfl, hk⟩
    · have hfi : (x :: rx).findIdx? (isI y) = none := findIdx_none hy2
      have hne : ∀ z, z ∈ x :: rx -> z ∉ y :: ry := by
        intro z hz1 hz2
        have := uniq h.nd hlx hly ((hmx z).1 hz1) ((hmy z).1 hz2)
        exact hy2 ((hmx y).2 (this ▸ hyl))
      have hxy2 : x ∉ ry := fun h => hne x (by simp) (by simp [h])
      have hyx2 : y ∉ rx := fun h => hy2 (by simp [h])
      have hr : Ring (fn (nextS N x y)) (x :: (ry ++ y :: rx)) := by
        refine ⟨x, _,rfl, path_append.2 ⟨hpy.turn hnx fun v hv => hN v (fun e => hxy2 (e ▸ hv)) (fun e => hyr (e ▸ hv)), hpx.turn hny fun v hv => hN v (fun e => hxr (e ▸ hv)) (fun e => hyx2 (e ▸ hv))⟩⟩
      have hk := h.build (x := x) (y := y) [x :: ry ++ y :: rx] i1 i2 i3 (by
        intro l hl
        simp only [List.mem_singleton] at hl
        subst hl
        exact hr) (by
        have hp : ([x :: ry ++ y :: rx] : List (List Nat)).flatten.Perm (x :: rx ++ y :: ry) := by
          simp only [List.flatten_cons, List.flatten_nil, List.append_nil, List.cons_append]
          refine List.Perm.cons _ ?_
          have h1 : (ry ++ y :: rx).Perm (y :: rx ++ ry) := List.perm_append_comm
          have h2 : (y :: rx ++ ry).Perm (rx ++ y :: ry) := by simpa using (List.perm_middle (l₁ := rx) (l₂ := ry) (a := y)).symm
          exact h1.trans h2
        refine hp.nodup_iff.2 (List.nodup_append.2 ⟨hndx, hndy,fun a ha b hb e => ?_⟩)
        subst e
        exact hne a ha hb) hlx hly hxl hyl (by
        intro z
        rw [<- hmx z, <- hmy z]
        simp only [List.flatten_cons, List.flatten_nil, List.append_nil, List.cons_append, List.mem_cons, List.mem_append]
        constructor
        · rintro (h1 | h1 | h1 | h1)
          · exact .inl (.inl h1)
          · exact .inr (.inr h1)
          · exact .inr (.inl h1)
          · exact .inl (.inr h1)
        · rintro ((h1 | h1) | (h1 | h1))
          · exact .inl h1
          · exact .inr (.inr (.inr h1))
          · exact .inr (.inr (.inl h1))
          · exact .inr (.inl h1)) hN
      have hsp : spliceZ w x y = (withoutZ w x y ++ [x :: ry ++ y :: rx], true) := by
        simp only [spliceZ, hax, hay, hfi, e', Int.toNat_natCast]
        simp
      rw [hsp]
      exact ⟨rfl, hk⟩
theorem last_snoc (l : List Nat) (y : Nat) (h : l ++ [y] ≠ []) : (l ++ [y]).getLast h = y := by simp
theorem Rings.prev (h : Rings n N P w) {x : Nat} (hx : x < n) {r : List Nat} (hp : Path (fn N) x r x) (hb : ∀ z ∈ r, z < n) : fn P x = (x :: r).getLast (by simp) := by
  have h1 := hp.last
  have h2 : (x :: r).getLast (by simp) < n := by
    have := List.getLast_mem (l := x :: r) (by simp)
    simp only [List.mem_cons] at this
    rcases this with h3 | h3
    · omega
    · exact hb _ h3
  have h3 := (h.inv _ h2).2.2.1
  rw [h1] at h3
  exact h3
theorem Rings.part (h : Rings n N P w) {x : Nat} (hx : x < n) : (partZ w x).2 = true ∧ Rings n (nextS N x (fn P x)) (prevS N P x (fn P x)) (partZ w x).1 := by
  obtain ⟨lx, rx, hlx, hxl, hax, hpx, hndx, hmx, hbx⟩ := h.home hx
  have hpr := h.prev hx hpx hbx
  have hxr : x ∉ rx := (List.nodup_cons.1 hndx).1
  rcases List.eq_nil_or_concat rx with rfl | ⟨s, y,rfl⟩
  · have e : fn P x = x := by rw [hpr]; rfl
    rw [e, nextS_self, prevS_self h hx]
    simp [partZ, hax, h]
  · have e : fn P x = y := by
      rw [hpr]
      simp only [List.concat_eq_append]
      exact last_snoc (x :: s) y _
    rw [List.concat_eq_append] at *
    have hy : y < n := hbx y (by simp)
    have hxy : y ≠ x := fun e => hxr (by simp [e])
    obtain ⟨i1, i2, i3⟩ := h.invS hx hy
    have hN : ∀ v, v ≠ x -> v ≠ y -> fn (nextS N x y) v = fn N v := fun v h1 h2 => nextS_o h1 h2
    have hnx := nextS_x h.ln hx hy
    have hny := nextS_y (x := x) h.ln hy
    rw [path_append] at hpx
    have hys : y ∉ s := by
      have := (List.nodup_cons.1 hndx).2
      rw [List.nodup_append] at this
      exact fun h => this.2.2 y h y (by simp) rfl
    have hxs : x ∉ s := fun h => hxr (by simp [h])
    have hr1 : Ring (fn (nextS N x y)) [x] := ⟨x, [],rfl, hnx.trans hpx.2⟩
    have hr2' : Path (fn (nextS N x y)) y s y := hpx.1.turn hny fun v hv => hN v (fun e => hxs (e ▸ hv)) (fun e => hys (e ▸ hv))
    have hr2 : Ring (fn (nextS N x y)) (s ++ [y]) := by
      cases s with
      | nil => exact ⟨y, [],rfl, hr2'⟩
      | cons a s => exact ⟨a, s ++ [y],rfl, path_append.2 ⟨hr2'.2, hr2'.1⟩⟩
    have hmem : ∀ z, z ∈ ([[x], s ++ [y]] : List (List Nat)).flatten ↔ z ∈ lx := by
      intro z
      rw [<- hmx z]
      simp
    have hk := h.build (x := x) (y := y) [[x], s ++ [y]] i1 i2 i3 (by
      intro l hl
      simp only [List.mem_cons, List.not_mem_nil, or_false] at hl
      rcases hl with rfl | rfl
      · exact hr1
      · exact hr2) (by simpa using hndx) hlx hlx hxl ((hmx y).1 (by simp)) (by intro z; rw [hmem, or_self]) hN
    have hw : withoutZ w x x = withoutZ w x y := by
      simp only [withoutZ]
      apply List.filter_congr
      intro l hl
      simp only [any_isI]
      by_cases e1 : x ∈ l
      · simp [e1]
      · have : y ∉ l := fun e2 => e1 ((uniq h.nd hlx hl ((hmx y).1 (by simp)) e2) ▸ hxl)
        simp [e1, this]
    have hsp : partZ w x = (withoutZ w x y ++ [[x], s ++ [y]], true) := by
      simp only [partZ, hax, hw, Int.toNat_natCast]
      simp
    rw [e, hsp]
    exact ⟨rfl, hk⟩
theorem Rings.new (n : Nat) : Rings n (List.range n) (List.range n) ((List.range n).map fun i => [i]) := by
  have hf : ∀ i, i < n -> fn (List.range n) i = i := by
    intro i hi; simp [fn, List.getD, hi]
  have hfl : ((List.range n).map fun i => [i]).flatten = List.range n := by
    rw [<- List.flatMap_def]; simp
  refine ⟨by simp,by simp,fun i hi => ⟨by rw [hf i hi]; exact hi,by rw [hf i hi]; exact hi,by rw [hf i hi, hf i hi],by rw [hf i hi, hf i hi]⟩,?_,?_,?_⟩
  · intro l hl
    simp only [List.mem_map, List.mem_range] at hl
    obtain ⟨i, hi,rfl⟩ := hl
    exact ⟨i, [],rfl, hf i hi⟩
  · rw [hfl]; exact List.nodup_range
  · intro i; rw [hfl]; simp
end
end Go.Proofs.YtkdbjelhkfdfjaaGreatDoor.Rg
namespace Go.Proofs.YtkdbjelhkfdfjaaGreatDoor.Rg
open Go.RowKit
theorem Tryz.infoInt : (Tryz.prog.info? 3).map (fun i => (i.zero, i.size, i.bytes)) = some (some (.int .i64 0), 1,8) := by kernel_rfl
def nCells (L : List Nat) : List Value := L.map fun (n : Nat) => .int .i64 (n : Int)
theorem nCells_at (L : List Nat) (k : Nat) (hk : k < L.length) : (nCells L)[k]? = some (.int .i64 (fn L k : Nat)) := by simp [nCells, fn, List.getD, hk]
theorem nCells_set (L : List Nat) (k x : Nat) : nCells (L.set k x) = (nCells L).set k (.int .i64 (x : Int)) := by simp [nCells, List.map_set]
theorem nCells_append (L M : List Nat) : nCells (L ++ M) = nCells L ++ nCells M := by simp [nCells]
def IR (B : Nat) (w : World) (v : Value) (L : List Nat) : Prop := w.ownsRow B 3 1 v L.length (nCells L)
theorem IR.form {B : Nat} {w : World} {v : Value} {L : List Nat} (h : IR B w v L) : ∃ ao cap, v = .slice ao L.length cap := by
  rcases h.2 with ⟨rfl, h0⟩ | ⟨g, cap, cur,rfl, _⟩
  · exact ⟨none, 0,by rw [h0]⟩
  · exact ⟨_, _,rfl⟩
theorem IR.nil (B : Nat) (w : World) : IR B w (.slice none 0 0) [] := World.ownsRow_nil _ _ _ _
theorem IR.at {B : Nat} {w : World} {ao : Option Addr} {n cap : Nat} {L : List Nat} (h : IR B w (.slice ao n cap) L) (k : Nat) (hk : k < L.length) :
    ∃ g, ao = some ⟨g,0,none⟩ ∧ g < w.heap.size ∧ B <= g ∧ w.cell? ⟨g,k,none⟩ = some (.int .i64 (fn L k : Nat)) := by
  rcases h.2 with ⟨h0, h1⟩ | ⟨g, cap', cur, e, hb, hg, _⟩
  · omega
  · cases e
    refine ⟨g,rfl, lt_of_block hg, hb,?_⟩
    rw [World.ownsRow.cellAt h k (by omega)]
    exact nCells_at L k hk
theorem IR.lo {B C : Nat} {w : World} {v : Value} {L : List Nat} (h : IR B w v L) (hc : C <= B) : IR C w v L := by
  refine ⟨h.1,?_⟩
  rcases h.2 with h0 | ⟨g, cap, cur, e, hb, r⟩
  · exact .inl h0
  · exact .inr ⟨g, cap, cur, e, Nat.le_trans hc hb, r⟩
theorem IR.up {B C : Nat} {w : World} {v : Value} {L : List Nat} (h : IR B w v L) (hc : ∀ b, v.ownBlock = some b -> C <= b) : IR C w v L := by
  refine ⟨h.1,?_⟩
  rcases h.2 with h0 | ⟨g, cap, cur,rfl, hb, r⟩
  · exact .inl h0
  · exact .inr ⟨g, cap, cur,rfl, hc g rfl, r⟩
theorem IR.own {B : Nat} {w : World} {v : Value} {L : List Nat} (h : IR B w v L) : ∀ b, v.ownBlock = some b -> B <= b ∧ b < w.heap.size := by
  intro b hb
  rcases h.2 with ⟨rfl, _⟩ | ⟨g, cap, cur,rfl, h1, hg, r⟩
  · cases hb
  · cases hb; exact ⟨h1, lt_of_block hg⟩
theorem IR.keep {B : Nat} {w w' : World} {F : List Nat} {v : Value} {L : List Nat} (h : IR B w v L) (k : Keeps F w w') (hf : ∀ b ∈ F, b < B) : IR B w' v L := by
  refine ⟨h.1,?_⟩
  rcases h.2 with h0 | ⟨g, cap, cur,rfl, hb, hg, r⟩
  · exact .inl h0
  · exact .inr ⟨g, cap, cur,rfl, hb, k.blk hg (fun e => by have := hf g e; omega), r⟩
theorem IR.below {B : Nat} {w w' : World} {v : Value} {L : List Nat} (h : IR B w v L) (hb : Below w.heap.size w w') : IR B w' v L := by
  refine ⟨h.1,?_⟩
  rcases h.2 with h0 | ⟨g, cap, cur,rfl, h1, hg, r⟩
  · exact .inl h0
  · exact .inr ⟨g, cap, cur,rfl, h1,(hb.block _ (lt_of_block hg)).trans hg, r⟩
theorem IR.alloc {B : Nat} {w : World} {v : Value} {L : List Nat} (h : IR B w v L) (o : Obj) : IR B (w.alloc o) v L := h.below ((Below.refl _ _).alloc (Nat.le_refl _) _)
theorem row_set {w : World} {B e g n cap : Nat} {xs : List Value} (h : w.ownsRow B e 1 (.slice (some ⟨g,0,none⟩) n cap) n xs) (i : Nat) (hi : i < n) (u : Value) :
    (w.setCell ⟨g,i,none⟩ u).ownsRow B e 1 (.slice (some ⟨g,0,none⟩) n cap) n (xs.set i u) := by
  refine ⟨by rw [List.length_set]; exact h.1,?_⟩
  rcases h.2 with ⟨h0, _⟩ | ⟨g', cap', cur, hv, hb, hg, h1, h2, h3, h4⟩
  · cases h0
  · cases hv
    refine .inr ⟨g, cap, cur.setIfInBounds i u,rfl, hb, blk_setCell _ hg, h1, h2,by simpa using h3,?_⟩
    have hl := h.1
    simp only [Nat.mul_one] at h4 hl ⊢
    rw [Array.toList_setIfInBounds, List.take_set, h4]
structure RingAt (w : World) (p gn gp : Nat) (N P : List Nat) : Prop where
  blk : w.heap[p]? = some (.cells #[.slice (some ⟨gn,0,none⟩) N.length N.length,.slice (some ⟨gp,0,none⟩) N.length N.length] 267 (0,0))
  rn : w.ownsRow 0 3 1 (.slice (some ⟨gn,0,none⟩) N.length N.length) N.length (nCells N)
  rp : w.ownsRow 0 3 1 (.slice (some ⟨gp,0,none⟩) N.length N.length) N.length (nCells P)
  ne : gn ≠ p ∧ gp ≠ p ∧ gn ≠ gp
  lp : P.length = N.length
section
variable {w w' : World} {p gn gp : Nat} {N P : List Nat}
theorem RingAt.lt (h : RingAt w p gn gp N P) : p < w.heap.size ∧ gn < w.heap.size ∧ gp < w.heap.size := ⟨lt_of_block h.blk, row_lt h.rn, row_lt h.rp⟩
theorem RingAt.n (h : RingAt w p gn gp N P) (i : Nat) (hi : i < N.length) : w.cell? ⟨gn,i,none⟩ = some (.int .i64 (fn N i : Nat)) ∧ w.frozen? ⟨gn,i,none⟩ = false := by
  constructor
  · rw [World.ownsRow.cellAt h.rn i (by omega)]; exact nCells_at N i hi
  · rcases h.rn.2 with ⟨h0, _⟩ | ⟨g, cap', cur, e, hb, hg, _⟩
    · cases h0
    · cases e; exact frozen_of_blk hg
theorem RingAt.q (h : RingAt w p gn gp N P) (i : Nat) (hi : i < N.length) : w.cell? ⟨gp,i,none⟩ = some (.int .i64 (fn P i : Nat)) ∧ w.frozen? ⟨gp,i,none⟩ = false := by
  have lp := h.lp
  constructor
  · rw [World.ownsRow.cellAt h.rp i (by omega)]; exact nCells_at P i (by omega)
  · rcases h.rp.2 with ⟨h0, _⟩ | ⟨g, cap', cur, e, hb, hg, _⟩
    · cases h0
    · cases e; exact frozen_of_blk hg
theorem RingAt.head (h : RingAt w p gn gp N P) : w.cell? ⟨p,0,none⟩ = some (.slice (some ⟨gn,0,none⟩) N.length N.length) ∧ w.cell? ⟨p,1,none⟩ = some (.slice (some ⟨gp,0,none⟩) N.length N.length) := by
  constructor
  · rw [cell_of_blk h.blk]; rfl
  · rw [cell_of_blk h.blk]; rfl
theorem RingAt.keep {F : List Nat} (h : RingAt w p gn gp N P) (k : Keeps F w w') (h1 : p ∉ F) (h2 : gn ∉ F) (h3 : gp ∉ F) : RingAt w' p gn gp N P :=
  ⟨k.blk h.blk h1, k.row h.rn h2, k.row h.rp h3, h.ne, h.lp⟩
end
theorem has_yes (w : World) (p gn gp : Nat) (N P : List Nat) (h : RingAt w p gn gp N P) (x : Nat) (hx : x < N.length) :
    Calls Tryz.prog 397 #[.pointer (some ⟨p,0,none⟩),.int .i64 x] w fun e w' => e = .returned (.bool true) ∧ w = w' := by
  obtain ⟨c0, _⟩ := h.head
  have hx0 : decide ((0 : Int) <= (x : Int)) = true := by rw [decide_eq_true_iff]; omega
  go_enter Tryz.func397, Tryz.ntmps397
  go_wp2
  go_ret
  exact ⟨rfl,rfl⟩
theorem has_no (w : World) (p gn gp : Nat) (N P : List Nat) (h : RingAt w p gn gp N P) (x : Int) (hx : x < 0 ∨ (N.length : Int) <= x) :
    Calls Tryz.prog 397 #[.pointer (some ⟨p,0,none⟩),.int .i64 x] w fun e w' => e = .returned (.bool false) ∧ w = w' := by
  obtain ⟨c0, _⟩ := h.head
  by_cases h0 : x < 0
  · have hx0 : decide ((0 : Int) <= x) = false := by rw [decide_eq_false_iff_not]; omega
    clear hx h0
    go_enter Tryz.func397, Tryz.ntmps397
    go_wp2
    go_ret
    exact ⟨rfl,rfl⟩
  · have hx0 : decide ((0 : Int) <= x) = true := by rw [decide_eq_true_iff]; omega
    have hx1 : decide (x < (N.length : Int)) = false := by rw [decide_eq_false_iff_not]; omega
    clear hx h0
    go_enter Tryz.func397, Tryz.ntmps397
    go_wp2
    go_ret
    exact ⟨rfl,rfl⟩
theorem row_one (w : World) (x : Nat) : IR w.heap.size (w.alloc (.cells #[.int .i64 (x : Int)] 3)) (.slice (some ⟨w.heap.size,0,none⟩) 1 1) [x] := by
  refine ⟨by simp [nCells],.inr ⟨w.heap.size, 1, #[.int .i64 (x : Int)],rfl, Nat.le_refl _, blk_alloc_new _, Nat.le_refl _,by unfold maxLen; omega,by simp,by simp [nCells]⟩⟩
theorem IR.pushed {B : Nat} {w : World} {L : List Nat} {x g cap : Nat} (h : w.ownsRow 0 3 1 (.slice (some ⟨g,0,none⟩) (L.length + 1) cap) (L.length + 1) (nCells L ++ [.int .i64 (x : Int)])) (hg : B <= g) :
    IR B w (.slice (some ⟨g,0,none⟩) (L.length + 1) cap) (L ++ [x]) := by
  have h2 : IR 0 w (.slice (some ⟨g,0,none⟩) (L.length + 1) cap) (L ++ [x]) := by
    unfold IR
    rw [nCells_append]
    simpa [nCells] using h
  exact h2.up (fun b hb => by simp [Value.ownBlock] at hb; omega)
theorem all_yes (w : World) (p gn gp : Nat) (N P : List Nat) (h : RingAt w p gn gp N P) (hN : N.length < 70000) (x : Nat) (hx : x < N.length) (r : List Nat) (hp : Path (fn N) x r x) (hxr : x ∉ r) (hb : ∀ y ∈ r, y < N.length) (hr : r.length < 70000) :
    Calls Tryz.prog 391 #[.pointer (some ⟨p,0,none⟩),.int .i64 x] w fun e w' => ∃ v, e = .returned v ∧ IR w.heap.size w' v (x :: r) ∧ Below w.heap.size w w' := by
  go_enter Tryz.func391, Tryz.ntmps391
  obtain ⟨c0, _⟩ := h.head
  obtain ⟨c1, _⟩ := h.n x hx
  obtain ⟨lt0, lt1, lt2⟩ := h.lt
  have hp0 := hp.at 0 (Nat.zero_le _)
  have HP0 := Lib.hid hp0
  have hrow := row_one w x
  have hbel : Below w.heap.size w (w.alloc (.cells #[.int .i64 (x : Int)] 3)) := (Below.refl _ _).alloc (Nat.le_refl _) _
  clear hp0
  go_wp2_with (go_at_call 397; refine (has_yes w p gn gp N P h x hx).mono ?_; rintro e w' ⟨rfl,rfl⟩)
  go_loopg [5,6] (r.length + 1) (fun m out y wr => ∃ (k : Nat) (ao : Option Addr) (ca : Nat), k <= r.length ∧ m + k = r.length + 1 ∧ y = .int .i64 ((r ++ [x]).getD k 0 : Nat) ∧ out = .slice ao (k + 1) ca ∧ IR w.heap.size wr out (x :: r.take k) ∧ Below w.heap.size w wr)
  case atStart =>
    refine ⟨0, _, _, Nat.zero_le _,by omega,?_,rfl, hrow, hbel⟩
    have := HP0.out
    simp only [List.getD_cons_zero] at this
    rw [this]
  case round =>
    clear hrow hbel HP0 c1
    obtain ⟨k, ao, ca, hk, hgk,rfl,rfl, hrow, hbel⟩ := hrel
    have HG := Lib.hid hgk
    clear hgk
    have hsz := hbel.size
    have c2 : wr.cell? ⟨p,0,none⟩ = some (.slice (some ⟨gn,0,none⟩) N.length N.length) := (hbel.cell (p := ⟨p,0,none⟩) lt0).trans c0
    by_cases hlt : k < r.length
    · have hy : (r ++ [x]).getD k 0 = r.getD k 0 := by simp [List.getD, List.getElem?_append_left hlt]
      have hmem : r.getD k 0 ∈ r := by simp [List.getD, hlt]
      have hyn := hb _ hmem
      have hyx : r.getD k 0 ≠ x := fun e => hxr (e ▸ hmem)
      have hnx := hp.at (k + 1) (by omega)
      rw [List.getD_cons_succ] at hnx
      have htk : r.take (k + 1) = r.take k ++ [r.getD k 0] := by rw [List.take_succ_eq_append_getElem hlt]; simp [List.getD, hlt]
      have hlk : (r.take k).length = k := by simp; omega
      rw [hy]
      have c3 : wr.cell? ⟨gn, r.getD k 0, none⟩ = some (.int .i64 (fn N (r.getD k 0) : Nat)) := (hbel.cell (p := ⟨gn, r.getD k 0, none⟩) lt1).trans (h.n _ hyn).1
      have HT := Lib.hid htk
      have HX := Lib.hid hnx
      clear hy hmem htk hnx
      generalize r.getD k 0 = y at *
      have hyb : ((y : Int) != (x : Int)) = true := by rw [bne_iff_ne]; omega
      clear hyx
      have h0row : wr.ownsRow 0 3 1 (.slice ao (k + 1) ca) (k + 1) (nCells (x :: r.take k)) := by
        have h1 := hrow.lo (Nat.zero_le _)
        unfold IR at h1
        rwa [show (x :: r.take k).length = k + 1 by rw [List.length_cons, hlk]] at h1
      go_wp2_with (at_builtin; refine wpList_push _ 3 (.int .i64 y) (0,0) rfl (.tmp 30) (.tmp 32) 28 rfl (.int .i64 0) 8 Tryz.underlying28 Tryz.infoInt rfl rfl _ (k + 1) (nCells (x :: r.take k)) (by simp [Act.eval]) h0row (by simp [Act.eval]) (by unfold maxLen; omega) (by omega) ?_)
      intro g' cap' w4 hr4 hk4 hf4
      have hg' : w.heap.size <= g' := by
        rcases hf4 with h1 | h1
        · exact (hrow.own g' h1).1
        · omega
      have hr5 : IR w.heap.size w4 (.slice (some ⟨g',0,none⟩) (k + 1 + 1) cap') (x :: r.take (k + 1)) := by
        rw [HT.out, <- List.cons_append]
        have hl2 : (x :: r.take k).length = k + 1 := by simp [hlk]
        have := IR.pushed (B := w.heap.size) (L := x :: r.take k) (x := y) (by rw [hl2]; exact hr4) hg'
        rw [hl2] at this
        exact this
      have hbel5 := hbel.trans (hk4.below hsz (fun b hb => (hrow.own b (by simpa using hb)).1))
      have c4 : w4.cell? ⟨p,0,none⟩ = some (.slice (some ⟨gn,0,none⟩) N.length N.length) := (hbel5.cell (p := ⟨p,0,none⟩) lt0).trans c0
      have c5 : w4.cell? ⟨gn,y,none⟩ = some (.int .i64 (fn N y : Nat)) := (hbel5.cell (p := ⟨gn,y,none⟩) lt1).trans (h.n _ hyn).1
      clear hr4 hk4 hf4 hrow h0row hbel c2 c3 hlk
      go_wp2_with fail
      go_roundg (gk - 1)
      case measure => have := HG.out; omega
      case rel => exact ⟨k + 1, _, _,by omega,by have := HG.out; omega,by rw [<- HX.out],rfl, hr5, hbel5⟩
    · obtain rfl : k = r.length := by omega
      have hy : (r ++ [x]).getD r.length 0 = x := by simp [List.getD]
      rw [hy]
      have hyb : ((x : Int) != (x : Int)) = false := by simp
      rw [List.take_length] at hrow
      go_wp2
      go_ret
      exact ⟨_,rfl, hrow, hbel⟩
def placeZ (l : List Nat) (x : Int) : Int := match l.findIdx? (isI x) with | some i => i | none => -1
theorem find_take {L : List Nat} {k : Nat} {q : Nat -> Bool} (h : (L.take k).findIdx? q = none) (hk : k < L.length) :
    (q (fn L k) = true -> L.findIdx? q = some k) ∧ (q (fn L k) = false -> (L.take (k + 1)).findIdx? q = none) := by
  have hs : L.take (k + 1) = L.take k ++ [fn L k] := by rw [List.take_succ_eq_append_getElem hk]; simp [fn, List.getD, hk]
  have hl : (L.take k).length = k := by simp; omega
  constructor
  · intro hq
    have h1 : (L.take (k + 1)).findIdx? q = some k := by
      rw [hs, List.findIdx?_append, h]
      simp [hq, hl]
    have hL : L.findIdx? q = (L.take (k + 1) ++ L.drop (k + 1)).findIdx? q := by rw [List.take_append_drop]
    rw [hL, List.findIdx?_append, h1]
    rfl
  · intro hq
    rw [hs, List.findIdx?_append, h]
    simp [hq]
theorem index_calls (w : World) (B : Nat) (v : Value) (L : List Nat) (h : IR B w v L) (hl : L.length < 70000) (x : Int) :
    Calls Tryz.prog 355 #[v,.int .i64 x] w fun e w' => e = .returned (.int .i64 (placeZ L x)) ∧ w = w' := by
  obtain ⟨ao, ca,rfl⟩ := h.form
  go_enter Tryz.func355, Tryz.ntmps355
  go_wp2
  go_loop [8] (fun u => ∃ k : Nat, k <= L.length ∧ u = .int .i64 k ∧ (L.take k).findIdx? (isI x) = none) (fun u => L.length - (intOf u).toNat)
  case atStart => exact ⟨0,by omega,rfl,by simp⟩
  case round =>
    obtain ⟨k, hk,rfl, hno⟩ := hrel
    by_cases hlt : k < L.length
    · obtain ⟨g,rfl, _, _, c0⟩ := h.at k hlt
      obtain ⟨h1, h2⟩ := find_take hno hlt
      have H1 := Lib.hid h1
      have H2 := Lib.hid h2
      clear h1 h2 hno
      generalize hy : fn L k = y at *
      clear hy
      cases hq : isI x y with
      | true =>
        have hqb : (x == (y : Int)) = true := by simp only [isI, beq_iff_eq] at hq ⊢; exact hq.symm
        have hf := H1.out hq
        have HF := Lib.hid hf
        clear hf hq
        go_wp2
        go_ret
        exact ⟨by simp only [placeZ, HF.out]; rfl,rfl⟩
      | false =>
        have hqb : (x == (y : Int)) = false := by simp only [isI, beq_eq_false_iff_ne] at hq ⊢; exact fun e => hq e.symm
        have hf := H2.out hq
        have HF := Lib.hid hf
        clear hf hq
        go_wp2
        go_round
        case rel => exact ⟨k + 1,by omega,by go_num, HF.out⟩
        case measure => simp [intOf]; omega
    · obtain rfl : k = L.length := by omega
      rw [List.take_length] at hno
      have HF := Lib.hid hno
      clear hno
      go_wp2
      go_ret
      exact ⟨by simp only [placeZ, HF.out]; rfl,rfl⟩
theorem placeZ_any (L : List Nat) (x : Int) : decide ((0 : Int) <= placeZ L x) = L.any (isI x) := by
  unfold placeZ
  cases hf : L.findIdx? (isI x) with
  | none =>
    rw [List.findIdx?_eq_none_iff] at hf
    have : L.any (isI x) = false := by rw [List.any_eq_false]; intro y hy; simp [hf y hy]
    rw [this]; rfl
  | some i =>
    have hs : (L.findIdx? (isI x)).isSome := by rw [hf]; rfl
    rw [List.findIdx?_isSome] at hs
    rw [hs]
    simp
theorem contains_calls (w : World) (B : Nat) (v : Value) (L : List Nat) (h : IR B w v L) (hl : L.length < 70000) (x : Int) :
    Calls Tryz.prog 366 #[v,.int .i64 x] w fun e w' => e = .returned (.bool (L.any (isI x))) ∧ w = w' := by
  have hp := placeZ_any L x
  have HP := Lib.hid hp
  clear hp
  go_enter Tryz.func366, Tryz.ntmps366
  go_wp2_with (go_at_call 355; refine (index_calls w B v L h hl x).mono ?_; rintro e w' ⟨rfl,rfl⟩)
  go_ret
  exact ⟨by rw [HP.out]; rfl,rfl⟩
theorem RingAt.splice {w : World} {p gn gp : Nat} {N P : List Nat} (h : RingAt w p gn gp N P) {x y : Nat} (hx : x < N.length) (hy : y < N.length) (ha : fn N x < N.length) (hb : fn N y < N.length) :
    RingAt ((((w.setCell ⟨gn,x,none⟩ (.int .i64 (fn N y : Nat))).setCell ⟨gn,y,none⟩ (.int .i64 (fn N x : Nat))).setCell ⟨gp, fn N y, none⟩ (.int .i64 (x : Nat))).setCell ⟨gp, fn N x, none⟩ (.int .i64 (y : Nat))) p gn gp (nextS N x y) (prevS N P x y) ∧
    Keeps [gn, gp] w ((((w.setCell ⟨gn,x,none⟩ (.int .i64 (fn N y : Nat))).setCell ⟨gn,y,none⟩ (.int .i64 (fn N x : Nat))).setCell ⟨gp, fn N y, none⟩ (.int .i64 (x : Nat))).setCell ⟨gp, fn N x, none⟩ (.int .i64 (y : Nat))) := by
  obtain ⟨n1, n2, n3⟩ := h.ne
  have hk : Keeps [gn, gp] w ((((w.setCell ⟨gn,x,none⟩ (.int .i64 (fn N y : Nat))).setCell ⟨gn,y,none⟩ (.int .i64 (fn N x : Nat))).setCell ⟨gp, fn N y, none⟩ (.int .i64 (x : Nat))).setCell ⟨gp, fn N x, none⟩ (.int .i64 (y : Nat))) :=
    ((((Keeps.refl _ _).setCell (.inl (by simp)) _).setCell (.inl (by simp)) _).setCell (.inl (by simp)) _).setCell (.inl (by simp)) _
  have hl : (nextS N x y).length = N.length := by simp [nextS]
  refine ⟨⟨?_,?_,?_, h.ne,by simp [prevS, hl, h.lp]⟩, hk⟩
  · rw [hl]; exact hk.blk h.blk (by simp [Ne.symm n1, Ne.symm n2])
  · rw [hl, nextS, nCells_set, nCells_set]
    have r1 := row_set (row_set h.rn x hx (.int .i64 (fn N y : Nat))) y hy (.int .i64 (fn N x : Nat))
    have k2 : Keeps [gp] ((w.setCell ⟨gn,x,none⟩ (.int .i64 (fn N y : Nat))).setCell ⟨gn,y,none⟩ (.int .i64 (fn N x : Nat))) ((((w.setCell ⟨gn,x,none⟩ (.int .i64 (fn N y : Nat))).setCell ⟨gn,y,none⟩ (.int .i64 (fn N x : Nat))).setCell ⟨gp, fn N y, none⟩ (.int .i64 (x : Nat))).setCell ⟨gp, fn N x, none⟩ (.int .i64 (y : Nat))) :=
      ((Keeps.refl _ _).setCell (.inl (by simp)) _).setCell (.inl (by simp)) _
    exact k2.row r1 (by simpa using n3)
  · rw [hl, prevS, nCells_set, nCells_set]
    have k1 : Keeps [gn] w ((w.setCell ⟨gn,x,none⟩ (.int .i64 (fn N y : Nat))).setCell ⟨gn,y,none⟩ (.int .i64 (fn N x : Nat))) := ((Keeps.refl _ _).setCell (.inl (by simp)) _).setCell (.inl (by simp)) _
    exact row_set (row_set (k1.row h.rp (by simpa using Ne.symm n3)) (fn N y) hb _) (fn N x) ha _
theorem RingAt.like {w w' : World} {p gn gp : Nat} {N P : List Nat} (h : RingAt w p gn gp N P) (e : w'.heap = w.heap) : RingAt w' p gn gp N P :=
  ⟨by rw [e]; exact h.blk, by
    refine ⟨h.rn.1,?_⟩
    rw [e]; exact h.rn.2, by
    refine ⟨h.rp.1,?_⟩
    rw [e]; exact h.rp.2, h.ne, h.lp⟩
theorem _root_.Go.Proofs.YtkdbjelhkfdfjaaGreatDoor.Keeps.like {F : List Nat} {a b c : World} (h : Keeps F a b) (e : c.heap = b.heap) (e1 : c.os = b.os) (e2 : c.tape = b.tape) (e3 : c.output = b.output) : Keeps F a c :=
  ⟨e1.trans h.os, e2.trans h.tape, e3.trans h.output,by rw [e]; exact h.size,by rw [e]; exact h.block⟩
def Left (w : World) (p gn gp : Nat) (N P : List Nat) (w' : World) : Prop := RingAt w' p gn gp N P ∧ Keeps [gn, gp] w w'
theorem splice_yes (w : World) (p gn gp : Nat) (N P : List Nat) (h : RingAt w p gn gp N P) (hN : N.length < 70000) (x y : Nat) (hx : x < N.length) (hy : y < N.length) (ha : fn N x < N.length) (hb : fn N y < N.length) (hne : x ≠ y -> fn N x ≠ fn N y) :
    Calls Tryz.prog 396 #[.pointer (some ⟨p,0,none⟩),.int .i64 x,.int .i64 y] w fun e w' => e = .returned (.bool true) ∧ Left w p gn gp (nextS N x y) (prevS N P x y) w' := by
  obtain ⟨c0, c1⟩ := h.head
  obtain ⟨n1, n2, n3⟩ := h.ne
  obtain ⟨d0, f0⟩ := h.n x hx
  obtain ⟨d1, f1⟩ := h.n y hy
  obtain ⟨d2, f2⟩ := h.q (fn N x) ha
  obtain ⟨d3, f3⟩ := h.q (fn N y) hb
  have hfin := h.splice hx hy ha hb
  go_enter Tryz.func396, Tryz.ntmps396
  go_wp2_with fail
  refine (has_yes w p gn gp N P h x hx).mono ?_
  rintro e w' ⟨rfl,rfl⟩
  go_wp2_with fail
  refine (has_yes w p gn gp N P h y hy).mono ?_
  rintro e w' ⟨rfl,rfl⟩
  go_wp2_with fail
  go_quiet (fail)
  go_wp2_with fail
  by_cases hxy : x = y
  · subst hxy
    go_region
    go_wp2_with fail
    go_region
    go_wp2
    go_ret
    exact ⟨rfl, hfin.1.like rfl, hfin.2.like rfl rfl rfl rfl⟩
  · have hab := hne hxy
    go_region
    go_wp2_with fail
    go_region
    go_wp2
    go_ret
    exact ⟨rfl, hfin.1.like rfl, hfin.2.like rfl rfl rfl rfl⟩
end Go.Proofs.YtkdbjelhkfdfjaaGreatDoor.Rg


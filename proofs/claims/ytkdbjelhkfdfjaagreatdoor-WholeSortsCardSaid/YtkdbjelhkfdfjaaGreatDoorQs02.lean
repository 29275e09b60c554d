/-
  Contracts that the law rests on. Conditions: none.
-/
import Derived.Test.YtkdbjelhkfdfjaaGreatDoorQs01
set_option linter.unusedVariables false
set_option maxRecDepth 100000
set_option maxHeartbeats 16000000
namespace Go.Proofs.YtkdbjelhkfdfjaaGreatDoor
open List
def keyAt (E : Ent) (h x : Nat) : Option Int := match E x with | some (g, k, _) => if g = h then some k else none | none => none
def keysOf (E : Ent) (n h : Nat) : List Int := (List.range n).filterMap (keyAt E h)
theorem range_filterMap_congr (n : Nat) (f f' : Nat → Option Int) (h : ∀ x, x < n → f' x = f x) : (List.range n).filterMap f' = (List.range n).filterMap f := by
  induction n with
  | zero => rfl
  | succ n ih => rw [List.range_succ, List.filterMap_append, List.filterMap_append, ih (fun x hx => h x (by omega)), List.filterMap_cons, List.filterMap_cons, h n (by omega)]; rfl
theorem range_filterMap_one (n i : Nat) (k : Int) (f f' : Nat → Option Int) (hi : i < n) (h0 : f i = none) (h1 : f' i = some k) (h : ∀ x, x ≠ i → f' x = f x) : (List.range n).filterMap f' ~ k :: (List.range n).filterMap f := by
  induction n with
  | zero => omega
  | succ n ih =>
    rw [List.range_succ, List.filterMap_append, List.filterMap_append]
    by_cases c : i = n
    · subst c
      rw [range_filterMap_congr i f f' (fun x hx => h x (by omega))]
      simp only [List.filterMap_cons, List.filterMap_nil, h0, h1, List.append_nil]
      exact perm_append_comm
    · have := ih (by omega)
      rw [show List.filterMap f' [n] = List.filterMap f [n] by rw [List.filterMap_cons, List.filterMap_cons, h n (fun e => c e.symm)]; rfl]
      exact this.append_right _
section
variable {E : Ent} {n h g i : Nat} {k : Int}
theorem keyAt_some {q : Nat} (e : E i = some (h, k, q)) : keyAt E h i = some k := by simp [keyAt, e]
theorem keyAt_put_other {o : Option (Nat × Int × Nat)} {x : Nat} (hx : x ≠ i) : keyAt (put E i o) h x = keyAt E h x := by simp [keyAt, put_other _ _ _ hx]
theorem keysOf_in (hi : i < n) (he : E i = none) (q : Nat) : keysOf (put E i (some (h, k, q))) n h ~ k :: keysOf E n h :=
  range_filterMap_one n i k _ _ hi (by simp [keyAt, he]) (by simp [keyAt, put_same]) (fun x hx => keyAt_put_other hx)
theorem keysOf_in_other (he : E i = none) (hg : g ≠ h) (q : Nat) : keysOf (put E i (some (g, k, q))) n h = keysOf E n h :=
  range_filterMap_congr n _ _ fun x hx => by
    by_cases c : x = i
    · subst c; simp [keyAt, put_same, he, hg]
    · exact keyAt_put_other c
theorem keysOf_out {q : Nat} (hi : i < n) (he : E i = some (h, k, q)) : keysOf E n h ~ k :: keysOf (put E i none) n h :=
  range_filterMap_one n i k _ _ hi (by simp [keyAt, put_same]) (keyAt_some he) (fun x hx => (keyAt_put_other hx).symm)
theorem keysOf_out_other {q : Nat} (he : E i = some (g, k, q)) (hg : g ≠ h) : keysOf (put E i none) n h = keysOf E n h :=
  range_filterMap_congr n _ _ fun x hx => by
    by_cases c : x = i
    · subst c; simp [keyAt, put_same, he, hg]
    · exact keyAt_put_other c
theorem mem_keysOf {a : Int} : a ∈ keysOf E n h ↔ ∃ x q, x < n ∧ E x = some (h, a, q) := by
  simp only [keysOf, List.mem_filterMap, List.mem_range, keyAt]
  constructor
  · rintro ⟨x, hx, e⟩
    cases he : E x with
    | none => rw [he] at e; cases e
    | some p =>
      obtain ⟨g, b, q⟩ := p
      rw [he] at e
      simp only at e
      split at e
      · cases e; rename_i hg; subst hg; exact ⟨x, q, hx, he⟩
      · cases e
  · rintro ⟨x, q, hx, e⟩
    exact ⟨x, hx,by simp [e]⟩
theorem keysOf_empty (n h : Nat) : keysOf (fun _ => none) n h = [] := by
  refine List.eq_nil_iff_forall_not_mem.2 fun a ha => ?_
  obtain ⟨x, q, _, e⟩ := mem_keysOf.1 ha
  cases e
theorem least_key {x q : Nat} (hl : least E h x) (he : E x = some (h, k, q)) : ∀ a ∈ keysOf E n h, k ≤ a := by
  intro a ha
  obtain ⟨y, q', _, e⟩ := mem_keysOf.1 ha
  by_cases c : y = x
  · subst c; rw [he] at e; cases e; exact Int.le_refl _
  · obtain ⟨_, _, _, _, q1, q2, q3⟩ := ahead_iff.1 (hl.2 y ⟨_, e⟩ c)
    rw [he] at q1; rw [e] at q2
    cases q1; cases q2
    simp only at q3
    omega
def held (E : Ent) (n : Nat) : Nat := ((List.range n).filter fun x => (E x).isSome).length
theorem held_in (hi : i < n) (he : E i = none) (o : Nat × Int × Nat) : held (put E i (some o)) n = held E n + 1 :=
  filter_range_one n i hi _ _ (by simp [he]) (by simp [put_same]) (fun y hy => by simp [put_other _ _ _ hy])
theorem held_out {o : Nat × Int × Nat} (hi : i < n) (he : E i = some o) : held E n = held (put E i none) n + 1 :=
  filter_range_one n i hi _ _ (by simp [put_same]) (by simp [he]) (fun y hy => by simp [put_other _ _ _ hy])
theorem held_room (hl : held E n < n) : ∃ x, x < n ∧ E x = none := by
  refine Classical.byContradiction fun hc => ?_
  have hall : ∀ x, x < n → (E x).isSome = true := fun x hx => by
    cases he : E x with
    | none => exact absurd ⟨x, hx, he⟩ hc
    | some p => rfl
  have : held E n = n := by
    unfold held
    rw [List.filter_eq_self.2 (fun x hx => hall x (List.mem_range.1 hx))]
    simp
  omega
theorem held_empty (n : Nat) : held (fun _ => none) n = 0 := by simp [held]
end
def turn (k : Int) : Int := -1 - k
theorem turn_turn (k : Int) : turn (turn k) = k := by unfold turn; omega
theorem turn_le {a b : Int} : turn a ≤ turn b ↔ b ≤ a := by unfold turn; omega
structure MedP (keys A B : List Int) : Prop where
  pm : (A ++ B) ~ keys
  le : ∀ a ∈ A, ∀ b ∈ B, a ≤ b
  ln : A.length = (keys.length + 1) / 2
theorem MedP.empty : MedP [] [] [] := ⟨.refl _,by simp,rfl⟩
section
variable {keys A B A1 B1 : List Int} {key top low : Int}
theorem Med_over (h : (A ++ B) ~ keys) (hle : ∀ a ∈ A, ∀ b ∈ B, a ≤ b) (h1 : (key :: A) ~ top :: A1) (h2 : ∀ a ∈ key :: A, a ≤ top) :
    (A1 ++ top :: B) ~ keys ++ [key] ∧ (∀ a ∈ A1, ∀ b ∈ top :: B, a ≤ b) ∧ A1.length = A.length := by
  refine ⟨?_,fun a ha b hb => ?_,?_⟩
  · have e1 : (A1 ++ top :: B) ~ top :: (A1 ++ B) := perm_middle
    have e2 : (top :: A1) ++ B ~ (key :: A) ++ B := h1.symm.append_right B
    have e3 : (key :: A) ++ B ~ key :: keys := h.cons key
    exact (e1.trans (e2.trans e3)).trans (perm_append_comm (l₁ := [key]) (l₂ := keys))
  · have ha' : a ≤ top := h2 a (h1.mem_iff.2 (List.mem_cons_of_mem _ ha))
    rcases List.mem_cons.1 hb with rfl | hb
    · exact ha'
    · have ht : top ∈ key :: A := h1.mem_iff.2 (List.mem_cons_self ..)
      rcases List.mem_cons.1 ht with c | c
      · subst c
        exact hle a (h1.cons_inv.mem_iff.2 ha) b hb
      · exact Int.le_trans ha' (hle top c b hb)
  · have := h1.length_eq; simp at this; omega
theorem Med_back (h : (A ++ B) ~ keys) (hle : ∀ a ∈ A, ∀ b ∈ B, a ≤ b) (h1 : B ~ low :: B1) (h2 : ∀ b ∈ B, low ≤ b) :
    (low :: A ++ B1) ~ keys ∧ (∀ a ∈ low :: A, ∀ b ∈ B1, a ≤ b) := by
  refine ⟨?_,fun a ha b hb => ?_⟩
  · have e1 : (low :: A ++ B1) ~ A ++ low :: B1 := perm_middle.symm
    exact (e1.trans (h1.symm.append_left A)).trans h
  · have hb' : b ∈ B := h1.mem_iff.2 (List.mem_cons_of_mem _ hb)
    rcases List.mem_cons.1 ha with rfl | ha
    · exact h2 b hb'
    · exact hle a ha b hb'
theorem Sorted.row {l : List Nat} (h : Sorted keys l) : (l.map fun i => keys.getD i 0) ~ keys ∧ (l.map fun i => keys.getD i 0).Pairwise (· ≤ ·) := by
  have hnd : l.Nodup := h.1.imp fun {a b} c e => by subst e; rw [kLess_iff] at c; omega
  have hp : l ~ List.range keys.length := (List.perm_ext_iff_of_nodup hnd List.nodup_range).2 (fun x => by rw [h.2, List.mem_range])
  refine ⟨?_,?_⟩
  · refine (hp.map _).trans (List.Perm.of_eq ?_)
    refine List.ext_getElem (by simp) fun i h1 h2 => ?_
    simp [List.getD, h2]
  · rw [List.pairwise_map]
    exact h.1.imp fun {a b} c => by rw [kLess_iff] at c; omega
theorem MedP.middle {l : List Nat} {m : Int} (p : MedP keys A B) (h : Sorted keys l) (hm : m ∈ A) (hmx : ∀ a ∈ A, a ≤ m) : (l.map fun i => keys.getD i 0)[(keys.length - 1) / 2]? = some m := by
  obtain ⟨q1, q2⟩ := h.row
  have le_tr : ∀ a b c : Int, decide (a ≤ b) = true → decide (b ≤ c) = true → decide (a ≤ c) = true := fun a b c x y => by simp at *; omega
  have le_tot : ∀ a b : Int, (decide (a ≤ b) || decide (b ≤ a)) = true := fun a b => by simp; omega
  have sA := List.pairwise_mergeSort (le := fun a b : Int => decide (a ≤ b)) le_tr le_tot A
  have sB := List.pairwise_mergeSort (le := fun a b : Int => decide (a ≤ b)) le_tr le_tot B
  have pA := List.mergeSort_perm A (fun a b : Int => decide (a ≤ b))
  have pB := List.mergeSort_perm B (fun a b : Int => decide (a ≤ b))
  generalize A.mergeSort (fun a b : Int => decide (a ≤ b)) = sa at *
  generalize B.mergeSort (fun a b : Int => decide (a ≤ b)) = sb at *
  simp only [decide_eq_true_eq] at sA sB
  have hall : (sa ++ sb).Pairwise (· ≤ ·) := by
    rw [List.pairwise_append]
    exact ⟨sA, sB,fun a ha b hb => p.le a (pA.mem_iff.1 ha) b (pB.mem_iff.1 hb)⟩
  have heq : (l.map fun i => keys.getD i 0) = sa ++ sb := by
    refine List.Perm.eq_of_pairwise (le := (· ≤ ·)) (fun a b _ _ x y => by omega) q2 hall ?_
    exact q1.trans (p.pm.symm.trans (pA.symm.append pB.symm))
  rw [heq]
  have hla : sa.length = (keys.length + 1) / 2 := by rw [pA.length_eq, p.ln]
  have hpos : 0 < sa.length := by rw [pA.length_eq]; exact List.length_pos_of_mem hm
  have hix : (keys.length - 1) / 2 = sa.length - 1 := by omega
  rw [hix, List.getElem?_append_left (by omega)]
  obtain ⟨j, hj, hjm⟩ := List.getElem_of_mem (pA.mem_iff.2 hm)
  rw [List.getElem?_eq_getElem (by omega)]
  have hz : sa[sa.length - 1] ≤ m := hmx _ (pA.mem_iff.1 (List.getElem_mem _))
  have hz2 : m ≤ sa[sa.length - 1] := by
    by_cases c : j = sa.length - 1
    · subst c; omega
    · rw [← hjm]; exact List.pairwise_iff_getElem.1 sA j (sa.length - 1) hj (by omega) (by omega)
  congr 1; omega
end
end Go.Proofs.YtkdbjelhkfdfjaaGreatDoor


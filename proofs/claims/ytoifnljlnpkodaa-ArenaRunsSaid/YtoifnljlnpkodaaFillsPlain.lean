/-
  ArenaFills in plain Lean: what is told of slots and handles while all that can be taken are, and while all are given back.
-/
import Derived.Test.YtoifnljlnpkodaaHands
namespace Go.Proofs.Ytoifnljlnpkodaa
open Go.RowKit
set_option linter.unusedVariables false

theorem nodup_full {W : List Nat} {n : Nat} (h : ∀ i, i < n → i ∈ W) : n ≤ W.length := by
  induction n generalizing W with
  | zero => omega
  | succ n ih =>
    have hn := h n (by omega)
    have := ih (W := W.erase n) fun i hi => (List.mem_erase_of_ne (by omega)).2 (h i (by omega))
    rw [List.length_erase_of_mem hn] at this
    have : 0 < W.length := List.length_pos_of_mem hn
    omega

theorem pickS_some {n next : Nat} {W : List Nat} (h : 0 < W.length ∨ next < n) : ∃ i W' next', pickS n W next = some (i, W', next') := by
  unfold pickS
  cases hg : W.getLast? with
  | some j => exact ⟨_, _, _, rfl⟩
  | none =>
    have : W = [] := List.getLast?_eq_none_iff.1 hg
    subst this
    rw [if_pos (by simpa using h)]
    exact ⟨_, _, _, rfl⟩

theorem pickS_us {n next i next' : Nat} {W W' : List Nat} (h : pickS n W next = some (i, W', next')) : W.length + next' = W'.length + next + 1 := by
  unfold pickS at h
  cases hg : W.getLast? with
  | some j =>
    simp only [hg, Option.some.injEq, Prod.mk.injEq] at h
    obtain ⟨rfl, rfl, rfl⟩ := h
    obtain ⟨ys, rfl⟩ := List.getLast?_eq_some_iff.1 hg
    simp <;> omega
  | none =>
    have : W = [] := List.getLast?_eq_none_iff.1 hg
    subst this
    simp only [hg] at h
    split at h
    · simp only [Option.some.injEq, Prod.mk.injEq] at h
      obtain ⟨rfl, rfl, rfl⟩ := h
      simp <;> omega
    · cases h

theorem pickS_none {n : Nat} : pickS n [] n = none := by simp [pickS]

/-- At the head of a round. -/
structure FHead (n k : Nat) (most : Int) (S : List (Int × Bool)) (next : Nat) : Prop where
  len : S.length = n
  st : ∀ j, j < n → S.getD j (0, false) = (min (k : Int) most, false)
  n0 : k = 0 → next = 0
  n1 : 0 < k → next = n

/-- While all are taken: 'g' is the generation of those that were not yet. -/
structure FTake (n : Nat) (g : Int) (left : Nat) (S : List (Int × Bool)) (W : List Nat) (next : Nat) (L : List (Nat × Int)) : Prop where
  len : S.length = n
  us : W.length + n + L.length = next + left
  st : ∀ j, j < n → S.getD j (0, false) = (g, false) ∨ (S.getD j (0, false) = (g + 1, true) ∧ (j, g + 1) ∈ L)
  hl : ∀ h ∈ L, h.1 < n ∧ S.getD h.1 (0, false) = (h.2, true)
  nd : (L.map (·.1)).Nodup

/-- While all are given back: those from 'i' on are live yet. -/
structure FGive (n : Nat) (G : Int) (S : List (Int × Bool)) (L : List (Nat × Int)) (i : Nat) : Prop where
  len : S.length = n
  st : ∀ j, j < n → (S.getD j (0, false)).1 = G ∧ ((S.getD j (0, false)).2 = true → ∃ x, i ≤ x ∧ x < L.length ∧ (L.getD x (0, 0)).1 = j)
  hl : ∀ x, i ≤ x → x < L.length → (L.getD x (0, 0)).1 < n ∧ S.getD (L.getD x (0, 0)).1 (0, false) = ((L.getD x (0, 0)).2, true)
  nd : ∀ x y, x < y → y < L.length → (L.getD x (0, 0)).1 ≠ (L.getD y (0, 0)).1

section
variable {n k left i next next' : Nat} {g most cnt : Int} {S : List (Int × Bool)} {W W' : List Nat} {L : List (Nat × Int)}

theorem FHead.start (h : FHead n k most S next) (hi : Inv S W next cnt most) : FTake n (min (k : Int) most) (W.length + n - next) S W next [] := by
  have h1 := hi.nx
  rw [h.len] at h1
  exact ⟨h.len, by simp; omega, fun j hj => .inl (h.st j hj), fun _ h => (by cases h), by simp⟩

theorem FHead.all (h : FHead n k most S next) (hi : Inv S W next cnt most) (hk : (k : Int) < most) : W.length + n - next = n := by
  have hw := hi.wlen
  by_cases h0 : k = 0
  · have := h.n0 h0; omega
  · have hn := h.n1 (by omega)
    have : n ≤ W.length := nodup_full fun j hj => by
      have hs := h.st j hj
      refine hi.waits j (by omega) (by rw [hs]) (by rw [hs]; simp only; omega)
    omega

theorem FHead.no (h : FHead n k most S next) (hi : Inv S W next cnt most) (hk : most ≤ (k : Int)) : W.length + n - next = 0 := by
  have hm := hi.m1
  have hn := h.n1 (by omega)
  have : W = [] := by
    cases W with
    | nil => rfl
    | cons j W =>
      obtain ⟨a1, a2, a3⟩ := hi.w j (by simp)
      rw [h.st j (by omega)] at a3
      simp only at a3
      omega
  subst this
  simp; omega

theorem FTake.can (h : FTake n g left S W next L) (hi : Inv S W next cnt most) (hL : L.length < left) : ∃ i W' next', pickS S.length W next = some (i, W', next') := by
  have h1 := hi.nx
  have h2 := h.us
  have h3 := h.len
  exact pickS_some (by omega)

theorem FTake.gen (h : FTake n g left S W next L) (hi : Inv S W next cnt most) (hp : pickS S.length W next = some (i, W', next')) : i < n ∧ S.getD i (0, false) = (g, false) := by
  obtain ⟨a1, a2, a3⟩ := hi.pick hp
  have h3 := h.len
  refine ⟨by omega, ?_⟩
  rcases h.st i (by omega) with e | ⟨e, _⟩
  · exact e
  · rw [e] at a2; cases a2

theorem FTake.take (h : FTake n g left S W next L) (hi : Inv S W next cnt most) (hp : pickS S.length W next = some (i, W', next')) : FTake n g left (S.set i (g + 1, true)) W' next' (L ++ [(i, g + 1)]) := by
  obtain ⟨hin, hg⟩ := h.gen hi hp
  have hus := pickS_us hp
  have h1 := h.us
  have hlen := h.len
  refine ⟨by simpa using h.len, by simp; omega, ?_, ?_, ?_⟩
  · intro j hj
    by_cases e : i = j
    · subst e
      right
      exact ⟨getD_set_eq (by omega), by simp⟩
    · rw [getD_set_ne e]
      rcases h.st j hj with h2 | ⟨h2, h3⟩
      · exact .inl h2
      · exact .inr ⟨h2, by simp [h3]⟩
  · intro x hx
    simp only [List.mem_append, List.mem_singleton] at hx
    rcases hx with hx | rfl
    · obtain ⟨a1, a2⟩ := h.hl x hx
      refine ⟨a1, ?_⟩
      rw [getD_set_ne, a2]
      intro e
      rw [← e, hg] at a2
      cases a2
    · exact ⟨hin, getD_set_eq (by omega)⟩
  · rw [List.map_append, List.nodup_append]
    refine ⟨h.nd, by simp, ?_⟩
    intro a ha b hb
    simp at hb
    subst hb
    intro e
    subst e
    simp only [List.mem_map] at ha
    obtain ⟨x, hx, rfl⟩ := ha
    have := (h.hl x hx).2
    rw [hg] at this
    cases this

theorem FTake.full (h : FTake n g left S W next L) (hi : Inv S W next cnt most) (hL : L.length = left) : W = [] ∧ next = n := by
  have h1 := hi.nx
  have h2 := h.us
  have h3 := h.len
  exact ⟨List.eq_nil_of_length_eq_zero (by omega), by omega⟩

theorem nd_at (h : (L.map (·.1)).Nodup) : ∀ x y, x < y → y < L.length → (L.getD x (0, 0)).1 ≠ (L.getD y (0, 0)).1 := by
  intro x y hxy hy
  have := List.pairwise_iff_getElem.1 h x y (by simp; omega) (by simpa using hy) hxy
  simpa [List.getD, show x < L.length by omega, hy] using this

theorem FTake.done (h : FTake n (min (k : Int) most) left S W next L) (hi : Inv S W next cnt most) (hL : L.length = left) : FGive n (min ((k + 1 : Nat) : Int) most) S L 0 := by
  obtain ⟨rfl, rfl⟩ := h.full hi hL
  refine ⟨h.len, ?_, ?_, nd_at h.nd⟩
  · intro j hj
    rcases h.st j hj with e | ⟨e, hm⟩
    · rw [e]
      refine ⟨?_, fun h => by cases h⟩
      by_cases hlt : min (k : Int) most < most
      · have := hi.waits j hj (by rw [e]) (by rw [e]; exact hlt)
        cases this
      · simp only; omega
    · have hu := (hi.used j hj).2
      rw [e] at hu ⊢
      simp only at hu ⊢
      refine ⟨by omega, fun _ => ?_⟩
      obtain ⟨x, hx, hxe⟩ := List.getElem_of_mem hm
      exact ⟨x, by omega, hx, by simp [List.getD, hx, hxe]⟩
  · intro x _ hx
    have := h.hl (L.getD x (0, 0)) (by simp [List.getD, hx])
    exact ⟨this.1, this.2⟩

theorem FGive.give {G : Int} (h : FGive n G S L i) (hi : i < L.length) : FGive n G (S.set (L.getD i (0, 0)).1 ((L.getD i (0, 0)).2, false)) L (i + 1) := by
  obtain ⟨a1, a2⟩ := h.hl i (Nat.le_refl _) hi
  have hlen := h.len
  refine ⟨by simpa using h.len, ?_, ?_, h.nd⟩
  · intro j hj
    by_cases e : (L.getD i (0, 0)).1 = j
    · subst e
      rw [getD_set_eq (by omega)]
      have := (h.st _ hj).1
      rw [a2] at this
      exact ⟨this, fun h => by cases h⟩
    · rw [getD_set_ne e]
      refine ⟨(h.st j hj).1, fun ht => ?_⟩
      obtain ⟨x, x1, x2, x3⟩ := (h.st j hj).2 ht
      refine ⟨x, ?_, x2, x3⟩
      rcases Nat.lt_or_ge i x with h4 | h4
      · exact h4
      · obtain rfl : x = i := by omega
        exact absurd x3 e
  · intro x hx hxl
    obtain ⟨b1, b2⟩ := h.hl x (by omega) hxl
    refine ⟨b1, ?_⟩
    rw [getD_set_ne (h.nd i x (by omega) hxl)]
    exact b2

theorem FGive.live {G : Int} (h : FGive n G S L i) (hi : i < L.length) : liveB S ((L.getD i (0, 0)).1 : Nat) (L.getD i (0, 0)).2 = true := by
  obtain ⟨a1, a2⟩ := h.hl i (Nat.le_refl _) hi
  have hlen := h.len
  simp only [liveB, Int.toNat_natCast, a2, Bool.and_true, Bool.and_eq_true, decide_eq_true_eq, beq_self_eq_true]
  omega

theorem FGive.head (h : FGive n (min ((k + 1 : Nat) : Int) most) S L L.length) : FHead n (k + 1) most S n := by
  refine ⟨h.len, fun j hj => ?_, fun h => by omega, fun _ => rfl⟩
  obtain ⟨a1, a2⟩ := h.st j hj
  have : (S.getD j (0, false)).2 = false := by
    cases hc : (S.getD j (0, false)).2 with
    | false => rfl
    | true =>
      obtain ⟨x, x1, x2, _⟩ := a2 hc
      omega
  exact Prod.ext a1 this
end

end Go.Proofs.Ytoifnljlnpkodaa

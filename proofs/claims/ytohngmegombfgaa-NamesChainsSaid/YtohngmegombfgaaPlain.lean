/-
  Plain facts on rows in which each number has the one into which it was joined: no program in sight.
-/
namespace Go.Proofs.Ytohngmegombfgaa

/-- In the row L each number has the one into which it was joined; R is as which each counts; d falls along the way. -/
structure Good (L : List Int) (R d : Nat → Nat) : Prop where
  pos : 0 < L.length
  zero : R 0 = 0
  out : ∀ i, L.length ≤ i → R i = i
  step : ∀ i, i < L.length → ∃ j : Nat, L.getD i 0 = (j : Int) ∧ j < L.length ∧ ((j = i ∧ R i = i) ∨ (j ≠ i ∧ 0 < j ∧ R i = R j ∧ R i ≠ i ∧ d j < d i))

theorem getD_set_same {L : List Int} {i : Nat} {x : Int} (h : i < L.length) : (L.set i x).getD i 0 = x := by
  simp [List.getD, h]

theorem getD_set_other {L : List Int} {i j : Nat} {x : Int} (h : i ≠ j) : (L.set i x).getD j 0 = L.getD j 0 := by
  simp [List.getD, h]

theorem getD_snoc_lt {L : List Int} {j : Nat} {x : Int} (h : j < L.length) : (L ++ [x]).getD j 0 = L.getD j 0 := by
  simp [List.getD, List.getElem?_append_left h]

theorem getD_snoc_at {L : List Int} {x : Int} : (L ++ [x]).getD L.length 0 = x := by
  simp [List.getD]

/-- A way is made shorter. -/
theorem Good.halve {L : List Int} {R d : Nat → Nat} (h : Good L R d) {i j k : Nat} (hi : i < L.length) (hj : L.getD i 0 = (j : Int)) (hji : j ≠ i) (hk : L.getD j 0 = (k : Int)) :
    Good (L.set i (k : Int)) R d ∧ 0 < k ∧ k < L.length ∧ R k = R i ∧ d k < d i := by
  obtain ⟨j', e1, hj1, h1⟩ := h.step i hi
  obtain rfl : j' = j := by rw [e1] at hj; omega
  rcases h1 with ⟨h1, _⟩ | ⟨_, hj0, hR, hRi, hd⟩
  · exact absurd h1 hji
  obtain ⟨k', e2, hk1, h2⟩ := h.step j' hj1
  obtain rfl : k' = k := by rw [e2] at hk; omega
  have hk0 : 0 < k' ∧ R k' = R i ∧ d k' < d i := by
    rcases h2 with ⟨h2, _⟩ | ⟨_, h20, h21, _, h22⟩
    · subst h2; exact ⟨hj0, hR.symm, hd⟩
    · exact ⟨h20, by rw [hR, h21], by omega⟩
  refine ⟨⟨by simpa using h.pos, h.zero, fun x hx => h.out x (by simpa using hx), fun x hx => ?_⟩, hk0.1, hk1, hk0.2.1, hk0.2.2⟩
  have hx' : x < L.length := by simpa using hx
  by_cases hxi : i = x
  · subst hxi
    refine ⟨k', getD_set_same hx', by simpa using hk1, .inr ⟨?_, hk0.1, hk0.2.1.symm, hRi, hk0.2.2⟩⟩
    intro e; rw [e] at hk0; omega
  · rw [getD_set_other hxi]
    obtain ⟨y, hy⟩ := h.step x hx'
    exact ⟨y, hy.1, by simpa using hy.2.1, hy.2.2⟩

/-- One number more. -/
theorem Good.snoc {L : List Int} {R d : Nat → Nat} (h : Good L R d) : Good (L ++ [(L.length : Int)]) R d := by
  refine ⟨by simp, h.zero, fun x hx => h.out x (by simp at hx; omega), fun x hx => ?_⟩
  by_cases hxl : x < L.length
  · rw [getD_snoc_lt hxl]
    obtain ⟨y, hy⟩ := h.step x hxl
    exact ⟨y, hy.1, by simp; omega, hy.2.2⟩
  · obtain rfl : x = L.length := by simp at hx; omega
    exact ⟨L.length, getD_snoc_at, by simp, .inl ⟨rfl, h.out _ (Nat.le_refl _)⟩⟩

/-- As which each counts, once b was joined into a. -/
def joinR (R : Nat → Nat) (a b : Nat) : Nat → Nat := fun i => if R i = b then a else R i

/-- The second one is joined into the first one. -/
theorem Good.join {L : List Int} {R d : Nat → Nat} (h : Good L R d) {a b : Nat} (ha0 : 0 < a) (ha : a < L.length) (hb0 : 0 < b) (hb : b < L.length) (hRa : R a = a) (hRb : R b = b) (hab : a ≠ b) :
    Good (L.set b (a : Int)) (joinR R a b) (fun i => if R i = b then d i + d a + 1 else d i) := by
  refine ⟨by simpa using h.pos, ?_, ?_, fun x hx => ?_⟩
  · simp only [joinR, h.zero]; rw [if_neg (by omega)]
  · intro x hx
    have hx' : L.length ≤ x := by simpa using hx
    simp only [joinR, h.out x hx']; rw [if_neg (by omega)]
  · have hx' : x < L.length := by simpa using hx
    by_cases hxb : b = x
    · subst hxb
      refine ⟨a, getD_set_same hx', by simpa using ha, .inr ⟨hab, ha0, ?_, ?_, ?_⟩⟩
      · simp only [joinR, hRb, hRa, if_true]; rw [if_neg hab]
      · simp only [joinR, hRb, if_true]; exact hab
      · simp only [hRb, hRa, if_true]; rw [if_neg hab]; omega
    · rw [getD_set_other hxb]
      obtain ⟨y, hy1, hy2, hy3⟩ := h.step x hx'
      refine ⟨y, hy1, by simpa using hy2, ?_⟩
      rcases hy3 with ⟨h1, h2⟩ | ⟨h1, h2, h3, h4, h5⟩
      · refine .inl ⟨h1, ?_⟩
        simp only [joinR, h2]; rw [if_neg (by omega)]
      · refine .inr ⟨h1, h2, ?_, ?_, ?_⟩
        · simp only [joinR, h3]
        · simp only [joinR]
          split
          · intro e; rw [← e] at h4; exact h4 hRa
          · exact h4
        · simp only [← h3]; split <;> omega

/-- As which one counts, that counts as itself. -/
theorem Good.idem {L : List Int} {R d : Nat → Nat} (h : Good L R d) : ∀ n i, d i = n → i < L.length → 0 < i → R (R i) = R i ∧ 0 < R i ∧ R i < L.length := by
  intro n
  induction n using Nat.strongRecOn with
  | _ n ih =>
    intro i hn hi h0
    obtain ⟨j, _, hj, h1⟩ := h.step i hi
    rcases h1 with ⟨_, h1⟩ | ⟨_, hj0, hR, _, hd⟩
    · rw [h1]; exact ⟨h1, h0, hi⟩
    · rw [hR]; exact ih (d j) (by omega) j rfl hj hj0

theorem Good.root {L : List Int} {R d : Nat → Nat} (h : Good L R d) {i : Nat} (hi : i < L.length) (h0 : 0 < i) : R (R i) = R i ∧ 0 < R i ∧ R i < L.length := h.idem _ i rfl hi h0

/-- It counts as itself: so the row says. -/
theorem Good.iff {L : List Int} {R d : Nat → Nat} (h : Good L R d) {i : Nat} (hi : i < L.length) : L.getD i 0 = (i : Int) ↔ R i = i := by
  obtain ⟨j, e, _, h1⟩ := h.step i hi
  rw [e]
  rcases h1 with ⟨h1, h2⟩ | ⟨h1, _, _, h2, _⟩
  · subst h1; exact ⟨fun _ => h2, fun _ => rfl⟩
  · exact ⟨fun h => by omega, fun h => absurd h h2⟩

end Go.Proofs.Ytohngmegombfgaa

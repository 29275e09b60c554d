/-
  ArenaRuns in plain Lean: the arena and the document's tell the same.
-/
import Derived.Test.YtoifnljlnpkodaaRef03A
namespace Go.Proofs.Ytoifnljlnpkodaa
open Go.RowKit
set_option linter.unusedVariables false

/-- The arena's slots and the document's lists tell the same. -/
structure Sim (most : Int) (S : List (Int × Bool)) (W : List Nat) (next : Nat) (cnt : Int) (T G : List (Nat × Int)) : Prop where
  last : ∀ i : Nat, lastP T i = (S.getD i (0, false)).1
  tm : ∀ (i : Nat) (g : Int), (i, g) ∈ T ↔ 1 ≤ g ∧ g ≤ (S.getD i (0, false)).1
  gm : ∀ (i : Nat) (g : Int), (i, g) ∈ G ↔ (i, g) ∈ T ∧ ¬(g = (S.getD i (0, false)).1 ∧ (S.getD i (0, false)).2 = true)
  fr : freshP T = next
  wt : waitsP T G most = W.reverse
  cnt : cnt = (T.length : Int) - G.length

theorem hasP_iff (L : List (Nat × Int)) (i : Nat) (g : Int) : hasP L i g = true ↔ (i, g) ∈ L := by
  simp only [hasP, List.any_eq_true, Bool.and_eq_true, beq_iff_eq]
  constructor
  · rintro ⟨⟨a, b⟩, h, h1, h2⟩
    have h3 : a = i := by omega
    simp only at h2
    rw [← h3, ← h2]; exact h
  · intro h
    exact ⟨_, h, rfl, rfl⟩

theorem hasP_neg (L : List (Nat × Int)) (s g : Int) (h : s < 0) : hasP L s g = false := by
  rw [hasP, List.any_eq_false]
  intro x _
  have : (((x.1 : Nat) : Int) == s) = false := by rw [beq_eq_false_iff_ne]; omega
  simp [this]

section
variable {most cnt : Int} {S : List (Int × Bool)} {W : List Nat} {next : Nat} {T G : List (Nat × Int)}

theorem Sim.liveNat (h : Sim most S W next cnt T G) (hi : Inv S W next cnt most) (i : Nat) (g : Int) : liveP T G i g = true ↔ (g = (S.getD i (0, false)).1 ∧ (S.getD i (0, false)).2 = true) := by
  rw [liveP, Bool.and_eq_true, Bool.not_eq_true', hasP_iff, h.tm]
  have hg : hasP G i g = false ↔ ¬ (i, g) ∈ G := by rw [← hasP_iff, Bool.not_eq_true]
  rw [hg, h.gm, h.tm]
  constructor
  · rintro ⟨h1, h2⟩
    by_cases h3 : g = (S.getD i (0, false)).1 ∧ (S.getD i (0, false)).2 = true
    · exact h3
    · exact absurd ⟨h1, h3⟩ h2
  · rintro ⟨h1, h2⟩
    have hin : i < next := by
      rcases Nat.lt_or_ge i next with h3 | h3
      · exact h3
      · rw [hi.fresh i h3] at h2; cases h2
    have := (hi.used i hin).1
    exact ⟨⟨by omega, by omega⟩, fun h3 => h3.2 ⟨h1, h2⟩⟩

theorem Sim.live (h : Sim most S W next cnt T G) (hi : Inv S W next cnt most) (s g : Int) : liveP T G s g = liveB S s g := by
  by_cases h0 : s < 0
  · rw [liveP, hasP_neg _ _ _ h0, liveB]
    have : decide (0 ≤ s) = false := by rw [decide_eq_false_iff_not]; omega
    rw [this]; rfl
  · obtain ⟨i, rfl⟩ := Int.eq_ofNat_of_zero_le (show 0 ≤ s by omega)
    rw [Bool.eq_iff_iff, h.liveNat hi, liveB]
    simp only [Int.toNat_natCast, Bool.and_eq_true, decide_eq_true_eq, beq_iff_eq]
    constructor
    · rintro ⟨h1, h2⟩
      have hin : i < next := by
        rcases Nat.lt_or_ge i next with h3 | h3
        · exact h3
        · rw [hi.fresh i h3] at h2; cases h2
      have := hi.nx
      exact ⟨by omega, by omega, h1.symm, h2⟩
    · rintro ⟨_, _, h1, h2⟩
      exact ⟨h1.symm, h2⟩

theorem Sim.at (h : Sim most S W next cnt T G) (hi : Inv S W next cnt most) (s : Int) : atP T G s = (atS S s).map fun g => (s.toNat, g) := by
  by_cases h0 : s < 0
  · have : atS S s = none := by rw [atS, if_neg (by omega)]
    rw [this, atP, Option.map_none, List.find?_eq_none]
    intro x _
    have : (((x.1 : Nat) : Int) == s) = false := by rw [beq_eq_false_iff_ne]; omega
    simp [this]
  · obtain ⟨i, rfl⟩ := Int.eq_ofNat_of_zero_le (show 0 ≤ s by omega)
    have key : ∀ x ∈ T, ((((x.1 : Nat) : Int) == (i : Int)) && !hasP G x.1 x.2) = true ↔ x = (i, (S.getD i (0, false)).1) ∧ (S.getD i (0, false)).2 = true := by
      rintro ⟨a, b⟩ hx
      rw [Bool.and_eq_true, beq_iff_eq]
      simp only
      have hlv := h.liveNat hi a b
      rw [liveP, Bool.and_eq_true, hasP_iff] at hlv
      constructor
      · rintro ⟨h1, h2⟩
        obtain rfl : a = i := by omega
        obtain ⟨h3, h4⟩ := hlv.1 ⟨hx, h2⟩
        exact ⟨by rw [h3], h4⟩
      · rintro ⟨h1, h2⟩
        simp only [Prod.mk.injEq] at h1
        obtain ⟨rfl, rfl⟩ := h1
        exact ⟨rfl, (hlv.2 ⟨rfl, h2⟩).2⟩
    by_cases hl : (S.getD i (0, false)).2 = true
    · have hin : i < next := by
        rcases Nat.lt_or_ge i next with h3 | h3
        · exact h3
        · rw [hi.fresh i h3] at hl; cases hl
      have hnx := hi.nx
      have : atS S i = some (S.getD i (0, false)).1 := by rw [atS, Int.toNat_natCast, if_pos ⟨by omega, by omega, hl⟩]
      rw [this, Option.map_some, Int.toNat_natCast, atP]
      have hmem : (i, (S.getD i (0, false)).1) ∈ T := (h.tm _ _).2 ⟨(hi.used i hin).1, Int.le_refl _⟩
      cases hf : T.find? fun h => (((h.1 : Nat) : Int) == (i : Int)) && !hasP G h.1 h.2 with
      | none =>
        rw [List.find?_eq_none] at hf
        exact absurd ((key _ hmem).2 ⟨rfl, hl⟩) (hf _ hmem)
      | some x =>
        have h1 := List.find?_some hf
        have h2 := List.mem_of_find?_eq_some hf
        rw [((key x h2).1 h1).1]
    · have : atS S i = none := by rw [atS, Int.toNat_natCast, if_neg (fun h => hl h.2.2)]
      rw [this, atP, Option.map_none, List.find?_eq_none]
      intro x hx hc
      exact hl ((key x hx).1 hc).2

theorem waitsP_snoc (T G : List (Nat × Int)) (most : Int) (h : Nat × Int) : waitsP T (G ++ [h]) most = (if wq T most h then [h.1] else []) ++ waitsP T G most := by
  simp only [waitsP, List.reverse_append, List.reverse_cons, List.reverse_nil, List.nil_append, List.singleton_append, List.filter_cons]
  split <;> simp

theorem Sim.new (n : Nat) (most : Int) : Sim most (List.replicate n (0, false)) [] 0 0 [] [] := by
  have hf : ∀ i, (List.replicate n ((0 : Int), false)).getD i (0, false) = (0, false) := by
    intro i; simp [List.getD, List.getElem?_replicate]; split <;> rfl
  refine ⟨fun i => by rw [hf]; rfl, fun i g => ?_, fun i g => by simp, rfl, rfl, rfl⟩
  rw [hf]
  simp
  omega

theorem Sim.give (h : Sim most S W next cnt T G) {i : Nat} {gen : Int} (hi : i < S.length) (hg : S.getD i (0, false) = (gen, true)) (hpos : 1 ≤ gen) :
    Sim most (S.set i (gen, false)) (waitS W i gen most) next (cnt - 1) T (G ++ [(i, gen)]) := by
  have hfst : ∀ j : Nat, ((S.set i (gen, false)).getD j (0, false)).1 = (S.getD j (0, false)).1 := by
    intro j
    by_cases e : i = j
    · subst e; rw [getD_set_eq hi, hg]
    · rw [getD_set_ne e]
  refine ⟨fun j => by rw [hfst]; exact h.last j, fun j g => by rw [hfst]; exact h.tm j g, fun j g => ?_, h.fr, ?_, ?_⟩
  · rw [List.mem_append, List.mem_singleton, h.gm, hfst]
    by_cases e : i = j
    · subst e
      rw [getD_set_eq hi, hg]
      simp only [Prod.mk.injEq, and_true, Bool.false_eq_true, and_false, not_false_eq_true, true_and]
      constructor
      · rintro (⟨h1, _⟩ | h1)
        · exact h1
        · subst h1
          have h2 := h.tm i g
          rw [hg] at h2
          exact h2.2 ⟨hpos, Int.le_refl _⟩
      · intro h1
        by_cases e2 : g = gen
        · exact .inr e2
        · exact .inl ⟨h1, e2⟩
    · rw [getD_set_ne e]
      constructor
      · rintro (h1 | h1)
        · exact h1
        · simp only [Prod.mk.injEq] at h1
          exact absurd h1.1.symm e
      · exact .inl
  · rw [waitsP_snoc, h.wt, wq, h.last, hg, waitS]
    by_cases hm : gen < most
    · simp [hm]
    · simp [hm]
  · have := h.cnt
    rw [List.length_append]
    simp
    omega


theorem waitsP_take (h : Sim most S W next cnt T G) {i : Nat} {g : Int} (hf : (S.getD i (0, false)) = (g, false)) :
    waitsP (T ++ [(i, g + 1)]) G most = (waitsP T G most).filter fun x => decide (x ≠ i) := by
  simp only [waitsP]
  rw [List.filter_map, List.filter_filter]
  congr 1
  apply List.filter_congr
  intro x hx
  rw [List.mem_reverse] at hx
  obtain ⟨a, b⟩ := x
  have h1 := ((h.tm a b).1 ((h.gm a b).1 hx).1).2
  simp only [wq, lastP_snoc, Function.comp_apply]
  by_cases e : i = a
  · subst e
    rw [hf] at h1
    simp only at h1
    have : ¬ (g + 1 = b) := by omega
    simp [this]
  · have e2 : ¬ ((i : Int) = (a : Int)) := by omega
    have e3 : a ≠ i := fun h => e h.symm
    simp [e2, e3]

theorem Sim.take (h : Sim most S W next cnt T G) (hi : Inv S W next cnt most) {i : Nat} {W' : List Nat} {next' : Nat} (hp : pickS S.length W next = some (i, W', next')) (g : Int) (hg : (S.getD i (0, false)).1 = g) :
    Sim most (S.set i (g + 1, true)) W' next' (cnt + 1) (T ++ [(i, g + 1)]) G := by
  obtain ⟨p1, p2, p3, p4, p5, _⟩ := hi.pick hp
  have hf : S.getD i (0, false) = (g, false) := Prod.ext hg p2
  refine ⟨fun j => ?_, fun j b => ?_, fun j b => ?_, ?_, ?_, ?_⟩
  · rw [lastP_snoc]
    by_cases e : i = j
    · subst e; rw [getD_set_eq p1, if_pos rfl]
    · rw [getD_set_ne e, if_neg (by simp only; omega)]; exact h.last j
  · rw [List.mem_append, List.mem_singleton, h.tm]
    by_cases e : i = j
    · subst e
      rw [getD_set_eq p1, hf]
      simp only [Prod.mk.injEq, true_and]
      omega
    · rw [getD_set_ne e]
      constructor
      · rintro (h1 | h1)
        · exact h1
        · simp only [Prod.mk.injEq] at h1
          exact absurd h1.1.symm e
      · exact .inl
  · rw [h.gm, List.mem_append, List.mem_singleton, h.tm]
    by_cases e : i = j
    · subst e
      rw [getD_set_eq p1, hf]
      simp only [Prod.mk.injEq, true_and, Bool.false_eq_true, and_false, not_false_eq_true, and_true]
      omega
    · rw [getD_set_ne e]
      constructor
      · rintro ⟨h1, h2⟩
        exact ⟨.inl h1, h2⟩
      · rintro ⟨h1 | h1, h2⟩
        · exact ⟨h1, h2⟩
        · simp only [Prod.mk.injEq] at h1
          exact absurd h1.1.symm e
  · rw [freshP, List.countP_append, ← freshP, h.fr]
    unfold pickS at hp
    cases hw : W.getLast? with
    | some j =>
      simp only [hw, Option.some.injEq, Prod.mk.injEq] at hp
      obtain ⟨rfl, _, rfl⟩ := hp
      obtain ⟨ys, rfl⟩ := List.getLast?_eq_some_iff.1 hw
      have := (hi.used j (hi.w j (by simp)).1).1
      rw [hf] at this
      simp only at this
      have e : ¬ (g + 1 = 1) := by omega
      simp [e]
    | none =>
      simp only [hw] at hp
      split at hp
      · simp only [Option.some.injEq, Prod.mk.injEq] at hp
        obtain ⟨rfl, _, rfl⟩ := hp
        have := hi.fresh next (Nat.le_refl _)
        rw [hf] at this
        simp only [Prod.mk.injEq] at this
        simp [this.1]
      · cases hp
  · rw [waitsP_take h hf, h.wt]
    unfold pickS at hp
    cases hw : W.getLast? with
    | some j =>
      simp only [hw, Option.some.injEq, Prod.mk.injEq] at hp
      obtain ⟨rfl, rfl, _⟩ := hp
      obtain ⟨ys, rfl⟩ := List.getLast?_eq_some_iff.1 hw
      have hnd := hi.nd
      rw [List.nodup_append] at hnd
      rw [List.dropLast_concat, List.reverse_append, List.reverse_cons, List.reverse_nil, List.nil_append, List.singleton_append, List.filter_cons, if_neg (by simp)]
      rw [List.filter_eq_self]
      intro x hx
      have := hnd.2.2 x (by simpa using hx) j (by simp)
      simpa using this
    | none =>
      have : W = [] := List.getLast?_eq_none_iff.1 hw
      subst this
      simp only [hw] at hp
      split at hp
      · simp only [Option.some.injEq, Prod.mk.injEq] at hp
        obtain ⟨_, rfl, _⟩ := hp
        rfl
      · cases hp
  · have := h.cnt
    rw [List.length_append]
    simp
    omega

end

end Go.Proofs.Ytoifnljlnpkodaa

/-
  Two arenas side by side.
-/
import Derived.Test.YtoifnljlnpkodaaArenaSt
namespace Go.Proofs.Ytoifnljlnpkodaa
open Go.RowKit
set_option linter.unusedVariables false

/-- Two arenas, apart from each other and from the blocks O. -/
def Two (B p q : Nat) (O : List Nat) (S : List (Int × Bool)) (W : List Nat) (next : Nat) (cnt : Int) (S' : List (Int × Bool)) (W' : List Nat) (next' : Nat) (cnt' most : Int) (wr : World) : Prop :=
  ∃ gs ao cw gs' ao' cw', ArenaAt wr p gs ao cw S W next cnt most ∧ ArenaAt wr q gs' ao' cw' S' W' next' cnt' most ∧ (∀ b ∈ fp p gs ao, B ≤ b ∧ b ∉ O ∧ b ∉ fp q gs' ao') ∧ (∀ b ∈ fp q gs' ao', B ≤ b ∧ b ∉ O) ∧
    (∀ b ∈ O, b < wr.heap.size) ∧ Inv S W next cnt most ∧ Inv S' W' next' cnt' most

theorem ArenaAt.stays {B p gs cw next : Nat} {O : List Nat} {ao : Option Addr} {S : List (Int × Bool)} {W : List Nat} {cnt most : Int} {wr w1 : World} (h : ArenaAt wr p gs ao cw S W next cnt most) (k : Stays B O wr w1) (ho : ∀ b ∈ fp p gs ao, b ∈ O) :
    ArenaAt w1 p gs ao cw S W next cnt most := by
  refine h.keep (F := (List.range wr.heap.size).filter fun b => decide (b ∉ O)) ⟨k.1.os, k.1.tape, k.1.output, k.1.size, fun b hb hf => ?_⟩ ?_
  · simp only [List.mem_filter, List.mem_range, decide_eq_true_eq, not_and, Classical.not_not] at hf
    exact k.2 b (hf hb)
  · intro b hb hf
    simp only [List.mem_filter, List.mem_range, decide_eq_true_eq] at hf
    exact hf.2 (ho b hb)

section
variable {B p q : Nat} {O : List Nat} {S S' : List (Int × Bool)} {W W' : List Nat} {next next' : Nat} {cnt cnt' most : Int} {wr w1 : World}

theorem Two.left (h : Two B p q O S W next cnt S' W' next' cnt' most wr) :
    ∃ O2, (∀ b ∈ O, b ∈ O2) ∧ AR B p O2 S W next cnt most wr ∧ ∀ S1 W1 n1 c1 w1, AR B p O2 S1 W1 n1 c1 most w1 → Stays B O2 wr w1 → Two B p q O S1 W1 n1 c1 S' W' next' cnt' most w1 := by
  obtain ⟨gs, ao, cw, gs', ao', cw', h1, h2, h3, h4, h5, h6, h7⟩ := h
  refine ⟨O ++ fp q gs' ao', fun b hb => List.mem_append_left _ hb, ⟨gs, ao, cw, h1, fun b hb => ⟨(h3 b hb).1, ?_⟩, ?_, h6⟩, ?_⟩
  · rw [List.mem_append, not_or]; exact (h3 b hb).2
  · intro b hb
    rcases List.mem_append.1 hb with hb | hb
    · exact h5 b hb
    · exact h2.lt b hb
  · rintro S1 W1 n1 c1 w1 ⟨gs1, ao1, cw1, k1, k2, k3, k4⟩ ks
    refine ⟨gs1, ao1, cw1, gs', ao', cw', k1, h2.stays ks fun b hb => List.mem_append_right _ hb, fun b hb => ?_, h4, fun b hb => k3 b (List.mem_append_left _ hb), k4, h7⟩
    have := (k2 b hb).2
    rw [List.mem_append, not_or] at this
    exact ⟨(k2 b hb).1, this⟩

theorem Two.right (h : Two B p q O S W next cnt S' W' next' cnt' most wr) :
    ∃ O2, (∀ b ∈ O, b ∈ O2) ∧ AR B q O2 S' W' next' cnt' most wr ∧ ∀ S1 W1 n1 c1 w1, AR B q O2 S1 W1 n1 c1 most w1 → Stays B O2 wr w1 → Two B p q O S W next cnt S1 W1 n1 c1 most w1 := by
  obtain ⟨gs, ao, cw, gs', ao', cw', h1, h2, h3, h4, h5, h6, h7⟩ := h
  refine ⟨O ++ fp p gs ao, fun b hb => List.mem_append_left _ hb, ⟨gs', ao', cw', h2, fun b hb => ⟨(h4 b hb).1, ?_⟩, ?_, h7⟩, ?_⟩
  · rw [List.mem_append, not_or]; exact ⟨(h4 b hb).2, fun e => (h3 b e).2.2 hb⟩
  · intro b hb
    rcases List.mem_append.1 hb with hb | hb
    · exact h5 b hb
    · exact h1.lt b hb
  · rintro S1 W1 n1 c1 w1 ⟨gs1, ao1, cw1, k1, k2, k3, k4⟩ ks
    refine ⟨gs, ao, cw, gs1, ao1, cw1, h1.stays ks fun b hb => List.mem_append_right _ hb, k1, fun b hb => ⟨(h3 b hb).1, (h3 b hb).2.1, fun e => ?_⟩, fun b hb => ⟨(k2 b hb).1, fun e => (k2 b hb).2 (List.mem_append_left _ e)⟩, fun b hb => k3 b (List.mem_append_left _ hb), h6, k4⟩
    exact (k2 b e).2 (List.mem_append_right _ hb)

theorem Two.drewN (h : Two B p q O S W next cnt S' W' next' cnt' most wr) (n : Nat) : Two B p q O S W next cnt S' W' next' cnt' most (wr.drewN n) := by
  obtain ⟨gs, ao, cw, gs', ao', cw', h1, h2, h3, h4, h5, h6, h7⟩ := h
  exact ⟨gs, ao, cw, gs', ao', cw', h1.drewN n, h2.drewN n, h3, h4, h5, h6, h7⟩

/-- Another block is new. -/
theorem Two.push (h : Two B p q O S W next cnt S' W' next' cnt' most wr) (o : Obj) : Two B p q (wr.heap.size :: O) S W next cnt S' W' next' cnt' most (wr.alloc o) := by
  obtain ⟨gs, ao, cw, gs', ao', cw', h1, h2, h3, h4, h5, h6, h7⟩ := h
  refine ⟨gs, ao, cw, gs', ao', cw', h1.alloc o, h2.alloc o, fun b hb => ⟨(h3 b hb).1, ?_, (h3 b hb).2.2⟩, fun b hb => ⟨(h4 b hb).1, ?_⟩, ?_, h6, h7⟩
  · have a1 := h1.lt b hb
    have a2 := (h3 b hb).2.1
    simp only [List.mem_cons, not_or]
    exact ⟨by omega, a2⟩
  · have a1 := h2.lt b hb
    have a2 := (h4 b hb).2
    simp only [List.mem_cons, not_or]
    exact ⟨by omega, a2⟩
  · intro b hb
    simp only [List.mem_cons] at hb
    simp only [World.size_alloc]
    rcases hb with rfl | hb
    · omega
    · have := h5 b hb; omega
end

/-- 'New' beside an arena that is there. -/
theorem two_new (B p : Nat) (O : List Nat) (S : List (Int × Bool)) (W : List Nat) (next : Nat) (cnt most : Int) (w : World) (h : AR B p O S W next cnt most w) (n : Nat) (hn : n ≤ 65536) (h1 : 1 ≤ most) (h2 : most ≤ 4294967295) (hB : B ≤ w.heap.size) :
    Calls Try.prog 8 #[.int .i64 n, .int .u32 most] w fun e w' => ∃ q, e = .returned (.tuple #[.pointer (some ⟨q, 0, none⟩), .int .i64 0]) ∧ q ≠ p ∧ Two B p q O S W next cnt (List.replicate n (0, false)) [] 0 0 most w' ∧ Stays B O w w' := by
  obtain ⟨gs, ao, cw, k1, k2, k3, k4⟩ := h
  refine (new_yes w n most hn (by omega)).mono ?_
  rintro e w' ⟨q, gs', rfl, ha, hk, hg, hp⟩
  have hlt := k1.lt
  have hk' : Below w.heap.size w w' := hk.below (Nat.le_refl _) (by simp)
  have hpl := hlt p (by simp [fp])
  refine ⟨q, rfl, by omega, ⟨gs, ao, cw, gs', none, 0, k1.keep (Below.keeps hk' (Nat.le_refl _) []) (by simp), ha, fun b hb => ⟨(k2 b hb).1, (k2 b hb).2, fun e => ?_⟩, ?_, fun b hb => Nat.lt_of_lt_of_le (k3 b hb) hk.size, k4, Inv.new n most hn h1 h2⟩,
    ⟨hk.below hB (by simp), fun b hb => hk.block b (k3 b hb) (by simp)⟩⟩
  · have := hlt b hb
    simp only [fp, Option.toList, List.map_nil, List.mem_cons, List.not_mem_nil, or_false] at e
    omega
  · intro b hb
    simp only [fp, Option.toList, List.map_nil, List.mem_cons, List.not_mem_nil, or_false] at hb
    rcases hb with rfl | rfl
    · exact ⟨by omega, fun e => by have := k3 _ e; omega⟩
    · exact ⟨by omega, fun e => by have := k3 _ e; omega⟩

/-- What 'Take' tells and leaves: the handle, the error; the slots, those that wait, the next new one, how many are live. -/
def tkS (S : List (Int × Bool)) (W : List Nat) (next : Nat) (cnt : Int) : (Int × Int × Int) × List (Int × Bool) × List Nat × Nat × Int :=
  match pickS S.length W next with
  | none => ((0, 0, 32), S, W, next, cnt)
  | some (i, W', next') => ((i, (S.getD i (0, false)).1 + 1, 0), S.set i ((S.getD i (0, false)).1 + 1, true), W', next', cnt + 1)

theorem ar_tk (B p : Nat) (O : List Nat) (S : List (Int × Bool)) (W : List Nat) (next : Nat) (cnt most : Int) (w : World) (h : AR B p O S W next cnt most w) (hB : B ≤ w.heap.size) (r : (Int × Int × Int) × List (Int × Bool) × List Nat × Nat × Int) (hr : tkS S W next cnt = r) :
    Calls Try.prog 11 #[.pointer (some ⟨p, 0, none⟩)] w fun e w' => e = .returned (.tuple #[.agg #[.int .i64 r.1.1, .int .u32 r.1.2.1], .int .i64 r.1.2.2]) ∧ AR B p O r.2.1 r.2.2.1 r.2.2.2.1 r.2.2.2.2 most w' ∧ Stays B O w w' := by
  subst hr
  unfold tkS
  split
  · rename_i hp
    exact ar_full _ _ _ _ _ _ _ _ _ h hB hp
  · rename_i i W' next' hp
    exact ar_take _ _ _ _ _ _ _ _ _ h hB i W' next' hp

end Go.Proofs.Ytoifnljlnpkodaa

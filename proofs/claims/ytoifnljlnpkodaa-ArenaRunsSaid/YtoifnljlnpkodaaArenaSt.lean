/-
  The contracts of package arena once more, with what always holds of an arena, and with other blocks that stay as they are.
-/
import Derived.Test.YtoifnljlnpkodaaArena
namespace Go.Proofs.Ytoifnljlnpkodaa
open Go.RowKit
set_option linter.unusedVariables false

/-- What always holds of slots, of those that wait, of the least one that was never given out, and of the greatest generation. -/
structure Inv (S : List (Int × Bool)) (W : List Nat) (next : Nat) (cnt most : Int) : Prop where
  len : S.length ≤ 65536
  nx : next ≤ S.length
  m1 : 1 ≤ most
  m2 : most ≤ 4294967295
  w : ∀ i ∈ W, i < next ∧ (S.getD i (0, false)).2 = false ∧ (S.getD i (0, false)).1 < most
  nd : W.Nodup
  fresh : ∀ i, next ≤ i → S.getD i (0, false) = (0, false)
  used : ∀ i, i < next → 1 ≤ (S.getD i (0, false)).1 ∧ (S.getD i (0, false)).1 ≤ most
  waits : ∀ i, i < next → (S.getD i (0, false)).2 = false → (S.getD i (0, false)).1 < most → i ∈ W
  cnt : cnt = (S.countP fun s => s.2 : Nat)

theorem getD_set_eq {S : List (Int × Bool)} {i : Nat} {x : Int × Bool} (h : i < S.length) : (S.set i x).getD i (0, false) = x := by simp [List.getD, h]
theorem getD_set_ne {S : List (Int × Bool)} {i j : Nat} {x : Int × Bool} (h : i ≠ j) : (S.set i x).getD j (0, false) = S.getD j (0, false) := by simp [List.getD, h]

theorem nodup_len {W : List Nat} {n : Nat} (hd : W.Nodup) (h : ∀ i ∈ W, i < n) : W.length ≤ n := by
  induction n generalizing W with
  | zero =>
    cases W with
    | nil => simp
    | cons x W => exact absurd (h x (by simp)) (by omega)
  | succ n ih =>
    by_cases hn : n ∈ W
    · have h1 := ih (hd.erase n) (fun i hi => by
        have h2 := (hd.mem_erase_iff).1 hi
        have h3 := h i h2.2
        have h4 := h2.1
        omega)
      rw [List.length_erase_of_mem hn] at h1
      omega
    · have := ih hd (fun i hi => by
        have h3 := h i hi
        have h4 : i ≠ n := fun e => hn (e ▸ hi)
        omega)
      omega

theorem Inv.wlen {S : List (Int × Bool)} {W : List Nat} {next : Nat} {cnt most : Int} (h : Inv S W next cnt most) : W.length ≤ next := nodup_len h.nd fun i hi => (h.w i hi).1

theorem countP_set {S : List (Int × Bool)} {i : Nat} {x : Int × Bool} (h : i < S.length) :
    (S.set i x).countP (fun s => s.2) + (if (S.getD i (0, false)).2 then 1 else 0) = S.countP (fun s => s.2) + if x.2 then 1 else 0 := by
  induction S generalizing i with
  | nil => simp at h
  | cons s S ih =>
    cases i with
    | zero => simp only [List.set_cons_zero, List.countP_cons, List.getD_cons_zero]; omega
    | succ i =>
      have := ih (i := i) (by simpa using h)
      simp only [List.set_cons_succ, List.countP_cons, List.getD_cons_succ]
      omega

theorem Inv.cntB {S : List (Int × Bool)} {W : List Nat} {next : Nat} {cnt most : Int} (h : Inv S W next cnt most) : 0 ≤ cnt ∧ cnt ≤ 65536 := by
  have := List.countP_le_length (p := fun s : Int × Bool => s.2) (l := S)
  have := h.len
  have := h.cnt
  omega

/-- The slot that comes next can be given out once more. -/
theorem Inv.pick {S : List (Int × Bool)} {W W' : List Nat} {next next' i : Nat} {cnt most : Int} (h : Inv S W next cnt most) (hp : pickS S.length W next = some (i, W', next')) :
    i < S.length ∧ (S.getD i (0, false)).2 = false ∧ 0 ≤ (S.getD i (0, false)).1 ∧ (S.getD i (0, false)).1 < most ∧ Inv (S.set i ((S.getD i (0, false)).1 + 1, true)) W' next' (cnt + 1) most ∧ i < next' ∧ next ≤ next' := by
  have hnx := h.nx
  cases hg : W.getLast? with
  | some j =>
    simp only [pickS, hg, Option.some.injEq, Prod.mk.injEq] at hp
    obtain ⟨rfl, rfl, rfl⟩ := hp
    obtain ⟨ys, rfl⟩ := List.getLast?_eq_some_iff.1 hg
    obtain ⟨a1, a2, a3⟩ := h.w j (by simp)
    have hu := h.used j a1
    have hnd := h.nd
    rw [List.nodup_append] at hnd
    have hjy : ∀ x ∈ ys, j ≠ x := fun x hx e => hnd.2.2 x hx j (by simp) e.symm
    refine ⟨by omega, a2, by omega, a3, ?_, a1, Nat.le_refl _⟩
    rw [List.dropLast_concat]
    refine ⟨by simpa using h.len, by simpa using hnx, h.m1, h.m2, ?_, hnd.1, ?_, ?_, ?_, ?_⟩
    · intro x hx
      rw [getD_set_ne (hjy x hx)]
      exact h.w x (by simp [hx])
    · intro x hx
      rw [getD_set_ne (by omega)]
      exact h.fresh x hx
    · intro x hx
      by_cases e : j = x
      · subst e; rw [getD_set_eq (by omega)]; simp only; omega
      · rw [getD_set_ne e]; exact h.used x hx
    · intro x hx h1 h2
      by_cases e : j = x
      · subst e; rw [getD_set_eq (by omega)] at h1; cases h1
      · rw [getD_set_ne e] at h1 h2
        have := h.waits x hx h1 h2
        simp only [List.mem_append, List.mem_singleton] at this
        rcases this with h3 | h3
        · exact h3
        · exact absurd h3.symm e
    · have := countP_set (S := S) (i := j) (x := ((S.getD j (0, false)).1 + 1, true)) (by omega)
      have := h.cnt
      simp only [a2] at *
      simp at *
      omega
  | none =>
    simp only [pickS, hg] at hp
    split at hp
    · rename_i hlt
      simp only [Option.some.injEq, Prod.mk.injEq] at hp
      obtain ⟨rfl, rfl, rfl⟩ := hp
      have hf := h.fresh next (Nat.le_refl _)
      have hW0 : W = [] := List.getLast?_eq_none_iff.1 hg
      subst hW0
      have hm1 := h.m1
      refine ⟨hlt, by rw [hf], by rw [hf]; simp, by rw [hf]; simp only; omega, ?_, by omega, by omega⟩
      rw [hf]
      refine ⟨by simpa using h.len, by simp; omega, h.m1, h.m2, by simp, by simp, ?_, ?_, ?_, ?_⟩
      · intro x hx
        rw [getD_set_ne (by omega)]
        exact h.fresh x (by omega)
      · intro x hx
        by_cases e : next = x
        · subst e; rw [getD_set_eq hlt]; simp only; omega
        · rw [getD_set_ne e]; exact h.used x (by omega)
      · intro x hx h1 h2
        by_cases e : next = x
        · subst e; rw [getD_set_eq hlt] at h1; cases h1
        · rw [getD_set_ne e] at h1 h2; exact h.waits x (by omega) h1 h2
      · have := countP_set (S := S) (i := next) (x := ((0 : Int) + 1, true)) hlt
        have := h.cnt
        rw [hf] at *
        simp at *
        omega
    · cases hp

/-- A slot that comes back. -/
theorem Inv.give {S : List (Int × Bool)} {W : List Nat} {next i : Nat} {cnt most gen : Int} (h : Inv S W next cnt most) (hi : i < S.length) (hg : S.getD i (0, false) = (gen, true)) :
    Inv (S.set i (gen, false)) (waitS W i gen most) next (cnt - 1) most ∧ i < next := by
  have hin : i < next := by
    rcases Nat.lt_or_ge i next with h1 | h1
    · exact h1
    · rw [h.fresh i h1] at hg; cases hg
  have hiW : i ∉ W := by intro hw; have := (h.w i hw).2.1; rw [hg] at this; cases this
  have hu := h.used i hin
  rw [hg] at hu
  simp only at hu
  refine ⟨⟨by simpa using h.len, by simpa using h.nx, h.m1, h.m2, ?_, ?_, ?_, ?_, ?_, ?_⟩, hin⟩
  · intro x hx
    by_cases e : i = x
    · subst e
      rw [getD_set_eq hi]
      refine ⟨hin, rfl, ?_⟩
      rw [waitS] at hx
      split at hx
      · assumption
      · exact absurd hx hiW
    · rw [getD_set_ne e]
      refine h.w x ?_
      rw [waitS] at hx
      split at hx
      · simp only [List.mem_append, List.mem_singleton] at hx
        rcases hx with hx | hx
        · exact hx
        · exact absurd hx.symm e
      · exact hx
  · rw [waitS]
    split
    · rw [List.nodup_append]
      exact ⟨h.nd, by simp, fun x hx y hy => by simp at hy; subst hy; intro e; subst e; exact hiW hx⟩
    · exact h.nd
  · intro x hx
    rw [getD_set_ne (by omega)]
    exact h.fresh x hx
  · intro x hx
    by_cases e : i = x
    · subst e; rw [getD_set_eq hi]; exact hu
    · rw [getD_set_ne e]; exact h.used x hx
  · intro x hx h1 h2
    by_cases e : i = x
    · subst e
      rw [getD_set_eq hi] at h2
      rw [waitS, if_pos h2]; simp
    · rw [getD_set_ne e] at h1 h2
      have := h.waits x hx h1 h2
      rw [waitS]; split
      · simp [this]
      · exact this
  · have h1 := countP_set (S := S) (i := i) (x := (gen, false)) hi
    have h2 := h.cnt
    rw [hg] at h1
    simp at h1
    omega

theorem Inv.new (n : Nat) (most : Int) (hn : n ≤ 65536) (h1 : 1 ≤ most) (h2 : most ≤ 4294967295) : Inv (List.replicate n (0, false)) [] 0 0 most := by
  have hf : ∀ i, (List.replicate n ((0 : Int), false)).getD i (0, false) = (0, false) := by
    intro i; simp [List.getD, List.getElem?_replicate]; split <;> rfl
  refine ⟨by simpa using hn, by omega, h1, h2, by simp, by simp, fun i _ => hf i, by omega, by omega, ?_⟩
  simp [List.countP_replicate]

/-- An arena at block p, all its blocks from B on, and none of them among O. -/
def AR (B p : Nat) (O : List Nat) (S : List (Int × Bool)) (W : List Nat) (next : Nat) (cnt most : Int) (wr : World) : Prop :=
  ∃ gs ao cw, ArenaAt wr p gs ao cw S W next cnt most ∧ (∀ b ∈ fp p gs ao, B ≤ b ∧ b ∉ O) ∧ (∀ b ∈ O, b < wr.heap.size) ∧ Inv S W next cnt most

/-- What was there below B, and the blocks O, are as they were. -/
def Stays (B : Nat) (O : List Nat) (w w' : World) : Prop := Below B w w' ∧ ∀ b ∈ O, w'.heap[b]? = w.heap[b]?

theorem Stays.trans {B : Nat} {O : List Nat} {a b c : World} (h : Stays B O a b) (k : Stays B O b c) : Stays B O a c := ⟨h.1.trans k.1, fun x hx => (k.2 x hx).trans (h.2 x hx)⟩
theorem Stays.cell {B : Nat} {O : List Nat} {a b : World} (h : Stays B O a b) {x i : Nat} (hx : x ∈ O) : b.cell? ⟨x, i, none⟩ = a.cell? ⟨x, i, none⟩ := World.cell?_of_block (a := ⟨x, i, none⟩) (h.2 x hx)
theorem Stays.frozen {B : Nat} {O : List Nat} {a b : World} (h : Stays B O a b) {x i : Nat} (hx : x ∈ O) : b.frozen? ⟨x, i, none⟩ = a.frozen? ⟨x, i, none⟩ := World.frozen?_of_block (a := ⟨x, i, none⟩) (h.2 x hx)

section
variable {B p : Nat} {O : List Nat} {S S' : List (Int × Bool)} {W W' : List Nat} {next next' : Nat} {cnt cnt' most : Int} {wr w1 : World}

theorem AR.inv (h : AR B p O S W next cnt most wr) : Inv S W next cnt most := by
  obtain ⟨gs, ao, cw, h1, h2, h3, h4⟩ := h
  exact h4

theorem AR.aft {gs : Nat} {ao : Option Addr} (hf : ∀ b ∈ fp p gs ao, B ≤ b ∧ b ∉ O) (ho : ∀ b ∈ O, b < wr.heap.size) (hB : B ≤ wr.heap.size) (hi : Inv S' W' next' cnt' most) (ha : ArenaAft wr p gs ao S' W' next' cnt' most w1) :
    AR B p O S' W' next' cnt' most w1 ∧ Stays B O wr w1 := by
  obtain ⟨ao', cw', h1, h2, h3⟩ := ha
  refine ⟨⟨gs, ao', cw', h1, ?_, fun b hb => Nat.lt_of_lt_of_le (ho b hb) h2.size, hi⟩, h2.below hB (fun k hk => (hf k hk).1), fun b hb => h2.block b (ho b hb) fun e => (hf b e).2 hb⟩
  intro b hb
  simp only [fp, List.mem_cons, List.mem_map, Option.mem_toList] at hb
  rcases hb with rfl | rfl | ⟨x, hx, rfl⟩
  · exact hf b (by simp [fp])
  · exact hf b (by simp [fp])
  · rcases h3 x hx with h4 | h4
    · exact hf _ (by simp [fp, h4])
    · exact ⟨by omega, fun e => by have := ho _ e; omega⟩

/-- A call that makes new memory alone. -/
theorem AR.below (h : AR B p O S W next cnt most wr) (hb : Below wr.heap.size wr w1) (hB : B ≤ wr.heap.size) : AR B p O S W next cnt most w1 ∧ Stays B O wr w1 := by
  obtain ⟨gs, ao, cw, h1, h2, h3, h4⟩ := h
  exact ⟨⟨gs, ao, cw, h1.keep (Below.keeps hb (Nat.le_refl _) []) (by simp), h2, fun b hx => Nat.lt_of_lt_of_le (h3 b hx) hb.size, h4⟩, hb.mono hB, fun b hx => hb.block b (h3 b hx)⟩

/-- A new block is looked at. -/
theorem AR.push (h : AR B p O S W next cnt most wr) (o : Obj) : AR B p (wr.heap.size :: O) S W next cnt most (wr.alloc o) := by
  obtain ⟨gs, ao, cw, h1, h2, h3, h4⟩ := h
  refine ⟨gs, ao, cw, h1.alloc o, fun b hb => ⟨(h2 b hb).1, ?_⟩, ?_, h4⟩
  · have h5 := h1.lt b hb
    have h6 := (h2 b hb).2
    simp only [List.mem_cons, not_or]
    exact ⟨by omega, h6⟩
  · intro b hb
    simp only [List.mem_cons] at hb
    simp only [World.size_alloc]
    rcases hb with rfl | hb
    · omega
    · have := h3 b hb; omega

/-- A store into one of the other blocks. -/
theorem AR.store (h : AR B p O S W next cnt most wr) {x : Nat} (hx : x ∈ O) (i : Nat) (v : Value) : AR B p O S W next cnt most (wr.setCell ⟨x, i, none⟩ v) := by
  obtain ⟨gs, ao, cw, h1, h2, h3, h4⟩ := h
  refine ⟨gs, ao, cw, h1.keep ((Keeps.refl [x] _).setCell (.inl (by simp)) v) ?_, h2, by simpa using h3, h4⟩
  intro b hb e
  simp only [List.mem_singleton] at e
  subst e
  exact (h2 b hb).2 hx

theorem AR.sub (h : AR B p O S W next cnt most wr) {O' : List Nat} (ho : ∀ b ∈ O', b ∈ O) : AR B p O' S W next cnt most wr := by
  obtain ⟨gs, ao, cw, h1, h2, h3, h4⟩ := h
  exact ⟨gs, ao, cw, h1, fun b hb => ⟨(h2 b hb).1, fun e => (h2 b hb).2 (ho b e)⟩, fun b hb => h3 b (ho b hb), h4⟩
end

section
variable (B p : Nat) (O : List Nat) (S : List (Int × Bool)) (W : List Nat) (next : Nat) (cnt most : Int) (w : World)

theorem ar_full (h : AR B p O S W next cnt most w) (hB : B ≤ w.heap.size) (hp : pickS S.length W next = none) :
    Calls Try.prog 11 #[.pointer (some ⟨p, 0, none⟩)] w fun e w' => e = .returned (.tuple #[.agg #[.int .i64 0, .int .u32 0], .int .i64 32]) ∧ AR B p O S W next cnt most w' ∧ Stays B O w w' := by
  obtain ⟨gs, ao, cw, h1, h2, h3, h4⟩ := h
  have := h4.len
  have := h4.wlen
  refine (take_full _ _ _ _ _ _ _ _ _ _ h1 (by omega) (by have := h4.nx; omega) h4.nx hp).mono ?_
  rintro e w' ⟨rfl, ha⟩
  exact ⟨rfl, AR.aft h2 h3 hB h4 ha⟩

theorem ar_take (h : AR B p O S W next cnt most w) (hB : B ≤ w.heap.size) (i : Nat) (W' : List Nat) (next' : Nat) (hp : pickS S.length W next = some (i, W', next')) :
    Calls Try.prog 11 #[.pointer (some ⟨p, 0, none⟩)] w fun e w' => e = .returned (.tuple #[.agg #[.int .i64 i, .int .u32 ((S.getD i (0, false)).1 + 1)], .int .i64 0]) ∧ AR B p O (S.set i ((S.getD i (0, false)).1 + 1, true)) W' next' (cnt + 1) most w' ∧ Stays B O w w' := by
  obtain ⟨gs, ao, cw, h1, h2, h3, h4⟩ := h
  have := h4.len
  have := h4.wlen
  have := h4.nx
  have := h4.m2
  have hc := h4.cntB
  obtain ⟨a1, a2, a3, a4, a5, _⟩ := h4.pick hp
  refine (take_calls _ _ _ _ _ _ _ _ _ _ h1 (by omega) (by omega) h4.nx i W' next' hp a1 _ rfl a3 (by omega) (by omega) (by omega)).mono ?_
  rintro e w' ⟨rfl, ha⟩
  exact ⟨rfl, AR.aft h2 h3 hB a5 ha⟩

theorem ar_stale (h : AR B p O S W next cnt most w) (hB : B ≤ w.heap.size) (slot gen : Int) (hlv : liveB S slot gen = false) :
    Calls Try.prog 10 #[.pointer (some ⟨p, 0, none⟩), .agg #[.int .i64 slot, .int .u32 gen]] w fun e w' => e = .returned (.int .i64 33) ∧ AR B p O S W next cnt most w' ∧ Stays B O w w' := by
  obtain ⟨gs, ao, cw, h1, h2, h3, h4⟩ := h
  have := h4.len
  refine (give_stale _ _ _ _ _ _ _ _ _ _ _ _ h1 (by omega) hlv).mono ?_
  rintro e w' ⟨rfl, ha⟩
  exact ⟨rfl, AR.aft h2 h3 hB h4 ha⟩

theorem ar_give (h : AR B p O S W next cnt most w) (hB : B ≤ w.heap.size) (i : Nat) (gen : Int) (hlv : liveB S i gen = true) :
    Calls Try.prog 10 #[.pointer (some ⟨p, 0, none⟩), .agg #[.int .i64 i, .int .u32 gen]] w fun e w' => e = .returned (.int .i64 0) ∧ AR B p O (S.set i (gen, false)) (waitS W i gen most) next (cnt - 1) most w' ∧ Stays B O w w' := by
  obtain ⟨gs, ao, cw, h1, h2, h3, h4⟩ := h
  have := h4.len
  have := h4.wlen
  have := h4.nx
  have hc := h4.cntB
  simp only [liveB, Bool.and_eq_true, decide_eq_true_eq, beq_iff_eq, Int.toNat_natCast] at hlv
  obtain ⟨_, hi, hg1, hg2⟩ := hlv
  have hi' : i < S.length := by omega
  have hg : S.getD i (0, false) = (gen, true) := by rw [← hg1, ← hg2]
  refine (give_live _ _ _ _ _ _ _ _ _ _ _ h1 i (by omega) (by omega) hi' hg (by omega) (by omega)).mono ?_
  rintro e w' ⟨rfl, ha⟩
  exact ⟨rfl, AR.aft h2 h3 hB (h4.give hi' hg).1 ha⟩

theorem ar_live (h : AR B p O S W next cnt most w) (hB : B ≤ w.heap.size) (slot gen : Int) :
    Calls Try.prog 12 #[.pointer (some ⟨p, 0, none⟩), .agg #[.int .i64 slot, .int .u32 gen]] w fun e w' => e = .returned (.bool (liveB S slot gen)) ∧ AR B p O S W next cnt most w' ∧ Stays B O w w' := by
  have h0 := h
  obtain ⟨gs, ao, cw, h1, h2, h3, h4⟩ := h
  have := h4.len
  refine (live_calls _ _ _ _ _ _ _ _ _ _ _ _ h1 (by omega)).mono ?_
  rintro e w' ⟨rfl, ha⟩
  exact ⟨rfl, h0.below ha hB⟩

theorem ar_count (h : AR B p O S W next cnt most w) :
    Calls Try.prog 13 #[.pointer (some ⟨p, 0, none⟩)] w fun e w' => e = .returned (.int .i64 cnt) ∧ w = w' := by
  obtain ⟨gs, ao, cw, h1, h2, h3, h4⟩ := h
  exact count_calls _ _ _ _ _ _ _ _ _ _ h1

theorem ar_usable (h : AR B p O S W next cnt most w) :
    Calls Try.prog 14 #[.pointer (some ⟨p, 0, none⟩)] w fun e w' => e = .returned (.int .i64 (W.length + S.length - next)) ∧ ∃ n, w' = w.drewN n := by
  obtain ⟨gs, ao, cw, h1, h2, h3, h4⟩ := h
  have := h4.len
  have := h4.wlen
  have := h4.nx
  exact usable_calls _ _ _ _ _ _ _ _ _ _ h1 (by omega) (by omega) (by omega)

def NewAR (B : Nat) (O : List Nat) (w : World) (n : Nat) (most : Int) (e : Ending) (w' : World) : Prop :=
  ∃ p, e = .returned (.tuple #[.pointer (some ⟨p, 0, none⟩), .int .i64 0]) ∧ AR B p O (List.replicate n (0, false)) [] 0 0 most w' ∧ Stays B O w w' ∧ w.heap.size ≤ p ∧ Below w.heap.size w w'

theorem ar_new (n : Nat) (hn : n ≤ 65536) (h1 : 1 ≤ most) (h2 : most ≤ 4294967295) (hB : B ≤ w.heap.size) (hO : ∀ b ∈ O, b < w.heap.size) :
    Calls Try.prog 8 #[.int .i64 n, .int .u32 most] w (NewAR B O w n most) := by
  refine (new_yes w n most hn (by omega)).mono ?_
  rintro e w' ⟨p, gs, rfl, ha, hk, hg, hp⟩
  refine ⟨p, rfl, ⟨gs, none, 0, ha, ?_, fun b hb => Nat.lt_of_lt_of_le (hO b hb) hk.size, Inv.new n most hn h1 h2⟩, ⟨hk.below hB (by simp), fun b hb => hk.block b (hO b hb) (by simp)⟩, hp, hk.below (Nat.le_refl _) (by simp)⟩
  intro b hb
  simp only [fp, Option.toList, List.map_nil, List.mem_cons, List.not_mem_nil, or_false] at hb
  rcases hb with rfl | rfl
  · exact ⟨by omega, fun e => by have := hO _ e; omega⟩
  · exact ⟨by omega, fun e => by have := hO _ e; omega⟩
end

end Go.Proofs.Ytoifnljlnpkodaa

/-
  The contracts of package names once more, said of the numbers and of as which each counts.
-/
import Derived.Test.YtohngmegombfgaaNames
namespace Go.Proofs.Ytohngmegombfgaa
open Go.RowKit

/-- At block p: n numbers (0 among them), of which i counts as R i. -/
def St (w : World) (p g n : Nat) (R : Nat → Nat) (most cnt : Int) : Prop :=
  ∃ cap L d, L.length = n ∧ Good L R d ∧ NamesAt w p g cap L most cnt

/-- What a call leaves. -/
def Aft (w : World) (p g n : Nat) (R : Nat → Nat) (most cnt : Int) (w' : World) : Prop :=
  ∃ g', St w' p g' n R most cnt ∧ Keeps [p, g] w w' ∧ (g' = g ∨ w.heap.size ≤ g')

theorem St.drewN {w : World} {p g n : Nat} {R : Nat → Nat} {most cnt : Int} (h : St w p g n R most cnt) (k : Nat) : St (w.drewN k) p g n R most cnt := by
  obtain ⟨cap, L, d, h1, h2, h3⟩ := h
  exact ⟨cap, L, d, h1, h2, h3.drewN k⟩

theorem St.lt {w : World} {p g n : Nat} {R : Nat → Nat} {most cnt : Int} (h : St w p g n R most cnt) : p < w.heap.size ∧ g < w.heap.size ∧ g ≠ p := by
  obtain ⟨cap, L, d, h1, h2, h3⟩ := h
  exact ⟨lt_of_block h3.blk, row_lt h3.row, h3.ne⟩

theorem St.keep {w w' : World} {p g n : Nat} {R : Nat → Nat} {most cnt : Int} {S : List Nat} (h : St w p g n R most cnt) (k : Keeps S w w') (hp : p ∉ S) (hg : g ∉ S) : St w' p g n R most cnt := by
  obtain ⟨cap, L, d, h1, h2, h3⟩ := h
  exact ⟨cap, L, d, h1, h2, k.blk h3.blk hp, k.row h3.row hg, h3.ne⟩

theorem St.out {w : World} {p g n : Nat} {R : Nat → Nat} {most cnt : Int} (h : St w p g n R most cnt) {i : Nat} (hi : n ≤ i) : R i = i := by
  obtain ⟨cap, L, d, h1, h2, h3⟩ := h
  exact h2.out i (by omega)

theorem St.root {w : World} {p g n : Nat} {R : Nat → Nat} {most cnt : Int} (h : St w p g n R most cnt) {i : Nat} (h0 : 0 < i) (hi : i < n) : R (R i) = R i ∧ 0 < R i ∧ R i < n := by
  obtain ⟨cap, L, d, h1, h2, h3⟩ := h
  have := h2.root (i := i) (by omega) h0
  rw [h1] at this; exact this

theorem st_last (w : World) (p g n : Nat) (R : Nat → Nat) (most cnt : Int) (h : St w p g n R most cnt) (hl : n < 70000) :
    Calls Try.prog 10 #[.pointer (some ⟨p, 0, none⟩)] w fun e w' => e = .returned (.int .i64 (n - 1)) ∧ w = w' := by
  obtain ⟨cap, L, d, rfl, h2, h3⟩ := h
  exact last_calls _ _ _ _ _ _ _ h3 h2.pos (by omega)

theorem st_count (w : World) (p g n : Nat) (R : Nat → Nat) (most cnt : Int) (h : St w p g n R most cnt) :
    Calls Try.prog 11 #[.pointer (some ⟨p, 0, none⟩)] w fun e w' => e = .returned (.int .i64 cnt) ∧ w = w' := by
  obtain ⟨cap, L, d, rfl, h2, h3⟩ := h
  exact count_calls _ _ _ _ _ _ _ h3

/-- Does a number count as itself? -/
def isRoot (n : Nat) (R : Nat → Nat) (id : Int) : Bool := decide (0 < id) && decide (id < n) && (R id.toNat == id.toNat)

theorem st_has (w : World) (p g n : Nat) (R : Nat → Nat) (most cnt id : Int) (h : St w p g n R most cnt) :
    Calls Try.prog 12 #[.pointer (some ⟨p, 0, none⟩), .int .i64 id] w fun e w' => e = .returned (.bool (isRoot n R id)) ∧ w = w' := by
  obtain ⟨cap, L, d, rfl, h2, h3⟩ := h
  by_cases hb : 0 < id ∧ id < L.length ∧ L.getD id.toNat 0 = id
  · obtain ⟨a0, a1, a2⟩ := hb
    obtain ⟨i, rfl⟩ := Int.eq_ofNat_of_zero_le (show 0 ≤ id by omega)
    rw [Int.toNat_natCast] at a2
    have e : isRoot L.length R i = true := by simp [isRoot, (h2.iff (by omega)).1 a2]; omega
    rw [e]
    exact has_yes _ _ _ _ _ _ _ _ h3 (by omega) (by omega) a2
  · have e : isRoot L.length R id = false := by
      rw [Bool.eq_false_iff]
      intro e
      simp only [isRoot, Bool.and_eq_true, decide_eq_true_eq, beq_iff_eq] at e
      obtain ⟨⟨a0, a1⟩, a2⟩ := e
      obtain ⟨i, rfl⟩ := Int.eq_ofNat_of_zero_le (show 0 ≤ id by omega)
      rw [Int.toNat_natCast] at a2
      exact hb ⟨a0, a1, by rw [Int.toNat_natCast]; exact (h2.iff (by omega)).2 a2⟩
    rw [e]
    exact has_no _ _ _ _ _ _ _ _ h3 hb

theorem st_make_yes (w : World) (p g n : Nat) (R : Nat → Nat) (most cnt : Int) (h : St w p g n R most cnt) (hl : n < 70000) (hm : (n : Int) ≤ most) (hc : -70000 < cnt) (hc' : cnt < 70000) :
    Calls Try.prog 13 #[.pointer (some ⟨p, 0, none⟩)] w fun e w' => e = .returned (.tuple #[.int .i64 n, .bool true]) ∧ Aft w p g (n + 1) R most (cnt + 1) w' := by
  obtain ⟨cap, L, d, rfl, h2, h3⟩ := h
  refine (make_yes _ _ _ _ _ _ _ h3 h2.pos hl hm hc hc').mono ?_
  rintro e w' ⟨rfl, g', cap', h4, h5, h6⟩
  exact ⟨rfl, g', ⟨cap', _, d, by simp, h2.snoc, h4⟩, h5, h6⟩

theorem st_make_no (w : World) (p g n : Nat) (R : Nat → Nat) (most cnt : Int) (h : St w p g n R most cnt) (hl : n < 70000) (hm : most = n - 1) :
    Calls Try.prog 13 #[.pointer (some ⟨p, 0, none⟩)] w fun e w' => e = .returned (.tuple #[.int .i64 0, .bool false]) ∧ Aft w p g n R most cnt w' := by
  obtain ⟨cap, L, d, rfl, h2, h3⟩ := h
  refine (make_no _ _ _ _ _ _ _ h3 h2.pos hl hm).mono ?_
  rintro e w' ⟨rfl, k, rfl⟩
  exact ⟨rfl, g, ⟨cap, L, d, rfl, h2, h3.drewN k⟩, (Keeps.refl _ _).drewN k, .inl rfl⟩

theorem Aft.same {w : World} {p g n : Nat} {R : Nat → Nat} {most cnt : Int} (h : St w p g n R most cnt) : Aft w p g n R most cnt w := ⟨g, h, Keeps.refl _ _, .inl rfl⟩

/-- What 'Root' answers. -/
def rootOf (n : Nat) (R : Nat → Nat) (id : Int) : Int × Bool := if 0 < id ∧ id < n then (R id.toNat, true) else (0, false)

theorem st_root (w : World) (p g n : Nat) (R : Nat → Nat) (most cnt id : Int) (h : St w p g n R most cnt) :
    Calls Try.prog 17 #[.pointer (some ⟨p, 0, none⟩), .int .i64 id] w fun e w' => e = .returned (.tuple #[.int .i64 (rootOf n R id).1, .bool (rootOf n R id).2]) ∧ Aft w p g n R most cnt w' := by
  obtain ⟨cap, L, d, rfl, h2, h3⟩ := h
  by_cases hb : 0 < id ∧ id < L.length
  · obtain ⟨i, rfl⟩ := Int.eq_ofNat_of_zero_le (show 0 ≤ id by omega)
    rw [rootOf, if_pos hb, Int.toNat_natCast]
    refine (root_yes _ _ _ _ _ _ _ _ _ i h3 h2 (by omega) (by omega)).mono ?_
    rintro e w' ⟨rfl, L', h4, h5, h6, h7⟩
    exact ⟨rfl, g, ⟨cap, L', d, h4, h6, h5⟩, h7.mono (by simp), .inl rfl⟩
  · rw [rootOf, if_neg hb]
    refine (root_no _ _ _ _ _ _ _ _ h3 hb).mono ?_
    rintro e w' ⟨rfl, rfl⟩
    exact ⟨rfl, Aft.same ⟨cap, L, d, rfl, h2, h3⟩⟩

/-- Can the second one be joined into the first one? -/
def canJoin (n : Nat) (R : Nat → Nat) (a b : Int) : Bool := isRoot n R a && isRoot n R b && !(a == b)

theorem st_join_no (w : World) (p g n : Nat) (R : Nat → Nat) (most cnt a b : Int) (h : St w p g n R most cnt) (hj : canJoin n R a b = false) :
    Calls Try.prog 16 #[.pointer (some ⟨p, 0, none⟩), .int .i64 a, .int .i64 b] w fun e w' => e = .returned (.bool false) ∧ Aft w p g n R most cnt w' := by
  have h0 := h
  obtain ⟨cap, L, d, rfl, h2, h3⟩ := h
  refine (join_no _ _ _ _ _ _ _ _ _ h3 ?_).mono ?_
  · rintro ⟨⟨a0, a1, a2⟩, ⟨b0, b1, b2⟩, hab⟩
    obtain ⟨i, rfl⟩ := Int.eq_ofNat_of_zero_le (show 0 ≤ a by omega)
    obtain ⟨j, rfl⟩ := Int.eq_ofNat_of_zero_le (show 0 ≤ b by omega)
    rw [Int.toNat_natCast] at a2 b2
    have e1 := (h2.iff (by omega)).1 a2
    have e2 := (h2.iff (by omega)).1 b2
    rw [Bool.eq_false_iff] at hj
    apply hj
    simp [canJoin, isRoot, e1, e2]
    omega
  · rintro e w' ⟨rfl, rfl⟩
    exact ⟨rfl, Aft.same h0⟩

theorem st_join_yes (w : World) (p g n : Nat) (R : Nat → Nat) (most cnt a b : Int) (h : St w p g n R most cnt) (hj : canJoin n R a b = true) (hc : -70000 < cnt) (hc' : cnt < 70000) :
    Calls Try.prog 16 #[.pointer (some ⟨p, 0, none⟩), .int .i64 a, .int .i64 b] w fun e w' => e = .returned (.bool true) ∧ Aft w p g n (joinR R a.toNat b.toNat) most (cnt - 1) w' := by
  obtain ⟨cap, L, d, rfl, h2, h3⟩ := h
  simp only [canJoin, isRoot, Bool.and_eq_true, decide_eq_true_eq, beq_iff_eq, Bool.not_eq_true', beq_eq_false_iff_ne] at hj
  obtain ⟨⟨⟨⟨a0, a1⟩, a2⟩, ⟨b0, b1⟩, b2⟩, hab⟩ := hj
  obtain ⟨i, rfl⟩ := Int.eq_ofNat_of_zero_le (show 0 ≤ a by omega)
  obtain ⟨j, rfl⟩ := Int.eq_ofNat_of_zero_le (show 0 ≤ b by omega)
  rw [Int.toNat_natCast] at a2 b2 ⊢
  rw [Int.toNat_natCast]
  refine (join_yes _ _ _ _ _ _ _ i j h3 (by omega) (by omega) ((h2.iff (by omega)).2 a2) (by omega) (by omega) ((h2.iff (by omega)).2 b2) (by omega) hc hc').mono ?_
  rintro e w' ⟨rfl, h4, h5⟩
  exact ⟨rfl, g, ⟨cap, _, _, by simp, h2.join (by omega) (by omega) (by omega) (by omega) a2 b2 (by omega), h4⟩, h5, .inl rfl⟩

def NewSt (w : World) (most : Int) (w' : World) : Prop := St w' (w.heap.size + 1) w.heap.size 1 (fun i => i) most 0 ∧ Keeps [] w w' ∧ w'.heap.size = w.heap.size + 2

theorem st_new_yes (w : World) (most : Int) (h0 : 0 ≤ most) (h1 : most ≤ 65536) :
    Calls Try.prog 8 #[.int .i64 most] w fun e w' => e = .returned (.tuple #[.pointer (some ⟨w.heap.size + 1, 0, none⟩), .int .i64 0]) ∧ NewSt w most w' := by
  refine (new_yes w most h0 h1).mono ?_
  rintro e w' ⟨rfl, h2, h3⟩
  refine ⟨rfl, ⟨1, [0], fun _ => 0, rfl, ⟨by simp, rfl, fun i _ => rfl, fun i hi => ⟨0, ?_, by simp, .inl ⟨?_, rfl⟩⟩⟩, h2⟩, h3⟩
  · obtain rfl : i = 0 := by simpa using hi
    rfl
  · obtain rfl : i = 0 := by simpa using hi
    rfl

end Go.Proofs.Ytohngmegombfgaa

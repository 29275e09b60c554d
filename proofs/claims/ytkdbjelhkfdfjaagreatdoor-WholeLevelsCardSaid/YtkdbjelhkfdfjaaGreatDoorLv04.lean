/-
  Contracts that the law rests on. Conditions: none.
-/
import Derived.Test.YtkdbjelhkfdfjaaGreatDoorLv01
set_option linter.unusedVariables false
set_option maxRecDepth 100000
set_option maxHeartbeats 32000000
namespace Go.Proofs.YtkdbjelhkfdfjaaGreatDoor
def sw (v : Nat -> Nat) (i j : Nat) : Nat -> Nat := fun k => if k = i then v j else if k = j then v i else v k
theorem sw_left (v : Nat -> Nat) (i j : Nat) : sw v i j i = v j := by simp [sw]
theorem sw_right (v : Nat -> Nat) (i j : Nat) : sw v i j j = v i := by
  simp only [sw]
  split
  · rename_i h; rw [h]
  · simp
theorem sw_other (v : Nat -> Nat) (i j k : Nat) (h1 : k ≠ i) (h2 : k ≠ j) : sw v i j k = v k := by simp [sw, h1, h2]
structure Ord (r : Nat -> Nat -> Bool) (v : Nat -> Nat) (n : Nat) : Prop where
  inj : ∀ i j, i < n -> j < n -> v i = v j -> i = j
  tr : ∀ i j k, i < n -> j < n -> k < n -> r (v i) (v j) = true -> r (v j) (v k) = true -> r (v i) (v k) = true
  tot : ∀ i j, i < n -> j < n -> i ≠ j -> r (v i) (v j) = true ∨ r (v j) (v i) = true
  irr : ∀ i, i < n -> r (v i) (v i) = false
theorem Ord.asym {r : Nat -> Nat -> Bool} {v : Nat -> Nat} {n : Nat} (h : Ord r v n) {i j : Nat} (hi : i < n) (hj : j < n) (e : r (v i) (v j) = true) : r (v j) (v i) = false := by
  cases hb : r (v j) (v i) with
  | false => rfl
  | true =>
    have := h.tr i j i hi hj hi e hb
    rw [h.irr i hi] at this
    cases this
theorem sw_idx (v : Nat -> Nat) (i j k : Nat) : ∃ m, sw v i j k = v m ∧ (k = i -> m = j) ∧ (k = j -> k ≠ i -> m = i) ∧ (k ≠ i -> k ≠ j -> m = k) := by
  by_cases h1 : k = i
  · exact ⟨j,by rw [h1, sw_left],fun _ => rfl,fun _ h => absurd h1 h,fun h => absurd h1 h⟩
  · by_cases h2 : k = j
    · exact ⟨i,by rw [h2, sw_right],fun h => absurd h h1,fun _ _ => rfl,fun _ h => absurd h2 h⟩
    · exact ⟨k, sw_other v i j k h1 h2,fun h => absurd h h1,fun h => absurd h h2,fun _ _ => rfl⟩
def par (d i : Nat) : Nat := (i - 1) / d
theorem par_lt {d i : Nat} (hd : 2 <= d) (hi : 0 < i) : par d i < i := by
  have : (i - 1) / d <= i - 1 := Nat.div_le_self _ _
  simp only [par]; omega
def Heap' (d : Nat) (r : Nat -> Nat -> Bool) (v : Nat -> Nat) (n : Nat) : Prop := ∀ j, 0 < j -> j < n -> r (v (par d j)) (v j) = true
def HeapUp (d : Nat) (r : Nat -> Nat -> Bool) (v : Nat -> Nat) (n i : Nat) : Prop :=
  (∀ j, 0 < j -> j < n -> j ≠ i -> r (v (par d j)) (v j) = true) ∧ (∀ j, 0 < j -> j < n -> par d j = i -> 0 < i -> r (v (par d i)) (v j) = true)
def HeapDown (d : Nat) (r : Nat -> Nat -> Bool) (v : Nat -> Nat) (n i : Nat) : Prop :=
  (∀ j, 0 < j -> j < n -> par d j ≠ i -> r (v (par d j)) (v j) = true) ∧ (∀ j, 0 < j -> j < n -> par d j = i -> 0 < i -> r (v (par d i)) (v j) = true)
section
variable {d n i : Nat} {r : Nat -> Nat -> Bool} {v : Nat -> Nat}
theorem HeapUp.stop (h : HeapUp d r v n i) (hd : 2 <= d) (ho : Ord r v n) (hs : i = 0 ∨ r (v i) (v (par d i)) = false) : Heap' d r v n := by
  intro j hj hn
  by_cases e : j = i
  · subst e
    rcases hs with h0 | h0
    · omega
    · have hp := par_lt hd hj
      rcases ho.tot j (par d j) hn (by omega) (by omega) with h1 | h1
      · rw [h0] at h1; cases h1
      · exact h1
  · exact h.1 j hj hn e
theorem HeapUp.step (h : HeapUp d r v n i) (hd : 2 <= d) (ho : Ord r v n) (hi : 0 < i) (hn : i < n) (hs : r (v i) (v (par d i)) = true) : HeapUp d r (sw v i (par d i)) n (par d i) := by
  have hp := par_lt hd hi
  constructor
  · intro j hj hjn hne
    by_cases e1 : j = i
    · subst e1
      rw [sw_left, sw_right]
      exact hs
    · rw [sw_other v i (par d i) j e1 hne]
      by_cases e2 : par d j = i
      · rw [e2, sw_left]
        exact h.2 j hj hjn e2 hi
      · by_cases e3 : par d j = par d i
        · rw [e3, sw_right]
          have h1 := h.1 j hj hjn e1
          rw [e3] at h1
          exact ho.tr i (par d i) j hn (by omega) hjn hs h1
        · rw [sw_other v i (par d i) (par d j) e2 e3]
          exact h.1 j hj hjn e1
  · intro j hj hjn hpj hp0
    have hpp := par_lt hd hp0
    have e0 : par d (par d i) ≠ i := by omega
    rw [sw_other v i (par d i) (par d (par d i)) e0 (by omega)]
    have h0 := h.1 (par d i) hp0 (by omega) (by omega)
    by_cases e1 : j = i
    · subst e1
      rw [sw_left]
      exact h0
    · have e2 : j ≠ par d i := by
        intro e; rw [e] at hpj; omega
      rw [sw_other v i (par d i) j e1 e2]
      have h1 := h.1 j hj hjn e1
      rw [hpj] at h1
      exact ho.tr (par d (par d i)) (par d i) j (by omega) (by omega) hjn h0 h1
theorem HeapDown.stop (h : HeapDown d r v n i) (hs : ∀ j, 0 < j -> j < n -> par d j = i -> r (v i) (v j) = true) : Heap' d r v n := by
  intro j hj hn
  by_cases e : par d j = i
  · rw [e]; exact hs j hj hn e
  · exact h.1 j hj hn e
theorem HeapDown.step (h : HeapDown d r v n i) (hd : 2 <= d) (ho : Ord r v n) {c : Nat} (hc0 : 0 < c) (hcn : c < n) (hpc : par d c = i) (hbest : ∀ j, 0 < j -> j < n -> par d j = i -> j ≠ c -> r (v c) (v j) = true) (hs : r (v c) (v i) = true) : HeapDown d r (sw v i c) n c := by
  have hp := par_lt hd hc0
  constructor
  · intro j hj hjn hne
    by_cases e1 : par d j = i
    · rw [e1, sw_left]
      by_cases e2 : j = c
      · rw [e2, sw_right]; exact hs
      · have e3 : j ≠ i := by
          intro e
          have := par_lt hd hj
          omega
        rw [sw_other v i c j e3 e2]
        exact hbest j hj hjn e1 e2
    · rw [sw_other v i c (par d j) e1 hne]
      by_cases e2 : j = i
      · subst e2
        rw [sw_left]
        exact h.2 c hc0 hcn hpc hj
      · have e3 : j ≠ c := fun e => by rw [e, hpc] at e1; exact e1 rfl
        rw [sw_other v i c j e2 e3]
        exact h.1 j hj hjn e1
  · intro j hj hjn hpj _
    rw [hpc, sw_left]
    have e1 : j ≠ c := by
      intro e
      have := par_lt hd hj
      omega
    have e2 : j ≠ i := by
      intro e
      have := par_lt hd hj
      omega
    rw [sw_other v i c j e2 e1]
    have h1 := h.1 j hj hjn (by omega)
    rw [hpj] at h1
    exact h1
theorem Heap'.root (h : Heap' d r v n) (hd : 2 <= d) (ho : Ord r v n) : ∀ j, 0 < j -> j < n -> r (v 0) (v j) = true := by
  intro j
  induction j using Nat.strongRecOn with
  | _ j ih =>
    intro hj hn
    have hp := par_lt hd hj
    have h1 := h j hj hn
    by_cases e : par d j = 0
    · rw [e] at h1; exact h1
    · exact ho.tr 0 (par d j) j (by omega) (by omega) hn (ih _ hp (by omega) (by omega)) h1
end
end Go.Proofs.YtkdbjelhkfdfjaaGreatDoor
namespace Go.Proofs.YtkdbjelhkfdfjaaGreatDoor
open Go.RowKit
def fCells (F : Nat -> List Value) (n : Nat) : List Value := (List.range n).flatMap F
theorem fCells_succ (F : Nat -> List Value) (n : Nat) : fCells F (n + 1) = fCells F n ++ F n := by simp [fCells, List.range_succ]
theorem fCells_len {F : Nat -> List Value} {n s : Nat} (h : ∀ i, i < n -> (F i).length = s) : (fCells F n).length = n * s := by
  induction n with
  | zero => simp [fCells]
  | succ n ih => rw [fCells_succ, List.length_append, ih (fun i hi => h i (by omega)), h n (by omega), Nat.succ_mul]
theorem idx_lt {i n j s : Nat} (hi : i < n) (hj : j < s) : i * s + j < n * s := by
  have : (i + 1) * s <= n * s := Nat.mul_le_mul_right s hi
  rw [Nat.succ_mul] at this
  omega
theorem fCells_at {F : Nat -> List Value} {n s : Nat} (h : ∀ i, i < n -> (F i).length = s) {i j : Nat} (hi : i < n) (hj : j < s) : (fCells F n)[i * s + j]? = (F i)[j]? := by
  induction n with
  | zero => omega
  | succ n ih =>
    have hl := fCells_len (F := F) (n := n) (s := s) (fun i hi => h i (by omega))
    rw [fCells_succ]
    by_cases e : i = n
    · subst e
      rw [List.getElem?_append_right (by omega), hl]
      congr 1; omega
    · have := idx_lt (i := i) (n := n) (by omega) hj
      rw [List.getElem?_append_left (by omega)]
      exact ih (fun i hi => h i (by omega)) (by omega)
theorem fCells_congr {F G : Nat -> List Value} {n : Nat} (h : ∀ i, i < n -> F i = G i) : fCells F n = fCells G n := by
  induction n with
  | zero => rfl
  | succ n ih => rw [fCells_succ, fCells_succ, ih (fun i hi => h i (by omega)), h n (by omega)]
theorem fCells_set {F : Nat -> List Value} {n s : Nat} (h : ∀ i, i < n -> (F i).length = s) {i j : Nat} (hi : i < n) (hj : j < s) (v : Value) : (fCells F n).set (i * s + j) v = fCells (upd F i ((F i).set j v)) n := by
  induction n with
  | zero => omega
  | succ n ih =>
    have hl := fCells_len (F := F) (n := n) (s := s) (fun i hi => h i (by omega))
    rw [fCells_succ, fCells_succ]
    by_cases e : i = n
    · subst e
      rw [List.set_append_right _ _ (by omega), hl, upd_same, show i * s + j - i * s = j by omega]
      congr 1
      refine fCells_congr fun k hk => ?_
      rw [upd_other _ _ (by omega)]
    · have := idx_lt (i := i) (n := n) (by omega) hj
      rw [List.set_append_left _ _ (by omega), ih (fun i hi => h i (by omega)) (by omega), upd_other _ _ (by omega)]
structure Arr (w : World) (T s n g : Nat) (F : Nat -> List Value) : Prop where
  row : w.ownsRow 0 T s (.slice (some ⟨g,0,none⟩) n n) n (fCells F n)
  size : ∀ i, i < n -> (F i).length = s
section
variable {w w' : World} {T s n g : Nat} {F G : Nat -> List Value}
theorem Arr.lt (h : Arr w T s n g F) : g < w.heap.size := row_lt h.row
theorem Arr.keep {S : List Nat} (h : Arr w T s n g F) (k : Keeps S w w') (hg : g ∉ S) : Arr w' T s n g F := ⟨k.row h.row hg, h.size⟩
theorem Arr.congr (h : Arr w T s n g F) (e : ∀ i, i < n -> F i = G i) : Arr w T s n g G := ⟨by rw [<- fCells_congr e]; exact h.row,fun i hi => by rw [<- e i hi]; exact h.size i hi⟩
theorem Arr.frozen (h : Arr w T s n g F) (i : Nat) : w.frozen? ⟨g,i,none⟩ = false := by
  rcases h.row.2 with ⟨h0, _⟩ | ⟨g', cap', cur, e, hb, hg, _⟩
  · cases h0
  · cases e; exact frozen_of_blk hg
theorem Arr.cell (h : Arr w T s n g F) {i j : Nat} (hi : i < n) (hj : j < s) : w.cell? ⟨g, i * s + j, none⟩ = (F i)[j]? := by
  rw [World.ownsRow.cellAt h.row (i * s + j) (idx_lt hi hj)]
  exact fCells_at h.size hi hj
theorem Arr.cell1 (h : Arr w T 1 n g F) {i : Nat} (hi : i < n) : w.cell? ⟨g,i,none⟩ = (F i)[0]? := by
  have := h.cell hi (j := 0) (by omega)
  simpa using this
end
theorem rows_set {w : World} {B e s g n cap : Nat} {xs : List Value} (h : w.ownsRow B e s (.slice (some ⟨g,0,none⟩) n cap) n xs) (i : Nat) (u : Value) :
    (w.setCell ⟨g,i,none⟩ u).ownsRow B e s (.slice (some ⟨g,0,none⟩) n cap) n (xs.set i u) := by
  refine ⟨by rw [List.length_set]; exact h.1,?_⟩
  rcases h.2 with ⟨h0, _⟩ | ⟨g', cap', cur, hv, hb, hg, h1, h2, h3, h4⟩
  · cases h0
  · cases hv
    refine .inr ⟨g, cap, cur.setIfInBounds i u,rfl, hb, blk_setCell _ hg, h1, h2,by simpa using h3,?_⟩
    rw [Array.toList_setIfInBounds, List.take_set, h4]
section
variable {w w' : World} {T s n g : Nat} {F G : Nat -> List Value}
theorem Arr.set (h : Arr w T s n g F) {i j : Nat} (hi : i < n) (hj : j < s) (v : Value) : Arr (w.setCell ⟨g, i * s + j, none⟩ v) T s n g (upd F i ((F i).set j v)) := by
  refine ⟨?_,?_⟩
  · rw [<- fCells_set h.size hi hj]
    exact rows_set h.row _ v
  · intro k hk
    by_cases e : k = i
    · subst e; rw [upd_same, List.length_set]; exact h.size k hk
    · rw [upd_other _ _ e]; exact h.size k hk
theorem Arr.set1 (h : Arr w T 1 n g F) {i : Nat} (hi : i < n) (v : Value) : Arr (w.setCell ⟨g,i,none⟩ v) T 1 n g (upd F i [v]) := by
  have h1 := h.set hi (j := 0) (by omega) v
  have h2 := h.size i hi
  have e : (F i).set 0 v = [v] := by
    cases hF : F i with
    | nil => rw [hF] at h2; simp at h2
    | cons a l => rw [hF] at h2; cases l with
      | nil => rfl
      | cons b l => simp at h2
  rw [e] at h1
  simpa using h1
theorem Arr.alloc (h : Arr w T s n g F) (o : Obj) : Arr (w.alloc o) T s n g F := h.keep ((Keeps.refl [] w).alloc o) (by simp)
end
theorem Keeps.ofDrewN {S : List Nat} {w w' : World} {n : Nat} (h : Keeps S (w.drewN n) w') : Keeps S w w' := ⟨h.os, h.tape, h.output, h.size, h.block⟩
theorem Keeps.ofDrew {S : List Nat} {w w' : World} (h : Keeps S w.drew w') : Keeps S w w' := ⟨h.os, h.tape, h.output, h.size, h.block⟩
structure Moved (F : List Nat) (w : World) (F' : List Nat) (w' : World) : Prop where
  keeps : Keeps F w w'
  from' : ∀ b ∈ F', b ∈ F ∨ w.heap.size <= b
  lt : ∀ b ∈ F', b < w'.heap.size
section
variable {F F' F'' G : List Nat} {w w' w'' : World}
theorem Moved.trans (h : Moved F w F' w') (k : Moved F' w' F'' w'') : Moved F w F'' w'' :=
  ⟨h.keeps.trans k.keeps h.from',fun b hb => by
    rcases k.from' b hb with c | c
    · exact h.from' b c
    · exact .inr (Nat.le_trans h.keeps.size c), k.lt⟩
theorem Moved.below (hF : ∀ b ∈ F, b < w.heap.size) (h : Below w.heap.size w w') : Moved F w F w' := ⟨Below.keeps h (Nat.le_refl _) F,fun b hb => .inl hb,fun b hb => Nat.lt_of_lt_of_le (hF b hb) h.size⟩
theorem Moved.part' (h : Moved F w F' w') (hG : ∀ b ∈ G, b < w.heap.size) : Moved (G ++ F) w (G ++ F') w' :=
  ⟨h.keeps.mono fun b hb => .inl (by simp [hb]),fun b hb => by
    rw [List.mem_append] at hb ⊢
    rcases hb with c | c
    · exact .inl (.inl c)
    · rcases h.from' b c with d | d
      · exact .inl (.inr d)
      · exact .inr d,fun b hb => by
    rw [List.mem_append] at hb
    rcases hb with c | c
    · exact Nat.lt_of_lt_of_le (hG b c) h.keeps.size
    · exact h.lt b c⟩
end
end Go.Proofs.YtkdbjelhkfdfjaaGreatDoor
namespace Go.Proofs.YtkdbjelhkfdfjaaGreatDoor
def manyF (E : Ent) (cap : Nat) (h : Int) : Option Int := if 0 <= h ∧ 0 < count E cap h.toNat then some (count E cap h.toNat) else none
def full (E : Ent) (cap hs : Nat) : Nat := ((List.range (hs + 1)).filter fun h => decide (0 < count E cap h)).length
theorem full_le (E : Ent) (cap hs : Nat) : full E cap hs <= hs + 1 := by
  have := List.length_filter_le (fun h => decide (0 < count E cap h)) (List.range (hs + 1))
  simpa [full] using this
theorem manyF_getD (E : Ent) (cap h : Nat) : (manyF E cap (h : Int)).getD 0 = count E cap h := by
  unfold manyF
  by_cases c : 0 < count E cap h
  · rw [if_pos ⟨by omega,by simpa using c⟩]; simp
  · rw [if_neg (by simp; omega)]; simp; omega
theorem manyF_some (E : Ent) (cap h : Nat) : (manyF E cap (h : Int)).isSome = decide (0 < count E cap h) := by
  unfold manyF
  by_cases c : 0 < count E cap h
  · rw [if_pos ⟨by omega,by simpa using c⟩]; simp [c]
  · rw [if_neg (by simp; omega)]; simp; omega
theorem manyF_at (E : Ent) (cap h : Nat) : manyF E cap (h : Int) = if 0 < count E cap h then some (count E cap h : Int) else none := by
  unfold manyF
  by_cases c : 0 < count E cap h
  · rw [if_pos ⟨by omega,by simpa using c⟩, if_pos c]; simp
  · rw [if_neg (by simp; omega), if_neg c]
theorem manyF_congr {E E' : Ent} {cap : Nat} {z : Int} (h : 0 <= z -> count E' cap z.toNat = count E cap z.toNat) : manyF E' cap z = manyF E cap z := by
  unfold manyF
  by_cases c : 0 <= z
  · rw [h c]
  · rw [if_neg (fun e => c e.1), if_neg (fun e => c e.1)]
theorem manyF_put {E : Ent} {cap x h : Nat} {k : Int × Nat} (hx : x < cap) (he : E x = none) :
    manyF (put E x (some (h, k))) cap = fun z => if z = (h : Int) then some ((count E cap h : Int) + 1) else manyF E cap z := by
  funext z
  by_cases e : z = (h : Int)
  · subst e
    rw [manyF_at, count_in hx he]; simp
  · rw [if_neg e]
    exact manyF_congr fun hz => count_in_other he (by omega)
theorem full_put {E : Ent} {cap hs x h : Nat} {k : Int × Nat} (hx : x < cap) (he : E x = none) (hh : h <= hs) :
    full (put E x (some (h, k))) cap hs = if (manyF E cap (h : Int)).isSome then full E cap hs else full E cap hs + 1 := by
  rw [manyF_some]
  by_cases c : 0 < count E cap h
  · simp only [c, decide_true, if_true]
    refine filter_range_congr _ _ _ fun g _ => ?_
    by_cases e : g = h
    · subst e; rw [count_in hx he]; simp [c]
    · rw [count_in_other he e]
  · simp only [c, decide_false, Bool.false_eq_true, if_false]
    refine filter_range_one _ h (by omega) _ _ (by simp; omega) (by rw [count_in hx he]; simp) fun g hg => ?_
    rw [count_in_other he hg]
theorem count_drop {E : Ent} {cap x h : Nat} {k : Int × Nat} (hx : x < cap) (he : E x = some (h, k)) : count E cap h = count (put E x none) cap h + 1 := count_out hx ⟨k, he⟩
theorem count_drop_other {E : Ent} {cap x h g : Nat} {k : Int × Nat} (he : E x = some (h, k)) (hg : g ≠ h) : count (put E x none) cap g = count E cap g := count_out_other ⟨k, he⟩ hg
theorem manyF_drop_more {E : Ent} {cap x h : Nat} {k : Int × Nat} (hx : x < cap) (he : E x = some (h, k)) (hc : 1 < count E cap h) :
    manyF (put E x none) cap = fun z => if z = (h : Int) then some ((count E cap h : Int) - 1) else manyF E cap z := by
  have h1 := count_drop hx he
  funext z
  by_cases e : z = (h : Int)
  · subst e
    rw [manyF_at, if_pos (by omega)]; simp; omega
  · rw [if_neg e]
    exact manyF_congr fun hz => count_drop_other he (by omega)
theorem manyF_drop_last {E : Ent} {cap x h : Nat} {k : Int × Nat} (hx : x < cap) (he : E x = some (h, k)) (hc : count E cap h = 1) (v : Int) :
    manyF (put E x none) cap = fun z => if z = (h : Int) then none else (if z = (h : Int) then some v else manyF E cap z) := by
  have h1 := count_drop hx he
  funext z
  by_cases e : z = (h : Int)
  · subst e
    rw [manyF_at, if_neg (by omega)]; simp
  · rw [if_neg e, if_neg e]
    exact manyF_congr fun hz => count_drop_other he (by omega)
theorem full_drop_more {E : Ent} {cap hs x h : Nat} {k : Int × Nat} (hx : x < cap) (he : E x = some (h, k)) (hc : 1 < count E cap h) :
    full (put E x none) cap hs = full E cap hs := by
  have h1 := count_drop hx he
  refine filter_range_congr _ _ _ fun g _ => ?_
  by_cases e : g = h
  · subst e; rw [decide_eq_decide]; omega
  · rw [count_drop_other he e]
theorem full_drop_last {E : Ent} {cap hs x h : Nat} {k : Int × Nat} (hx : x < cap) (he : E x = some (h, k)) (hh : h <= hs) (hc : count E cap h = 1) :
    full (put E x none) cap hs = full E cap hs - 1 := by
  have h1 := count_drop hx he
  have : full E cap hs = full (put E x none) cap hs + 1 := by
    refine filter_range_one _ h (by omega) _ _ (by simp; omega) (by simp; omega) fun g hg => ?_
    rw [count_drop_other he hg]
  omega
theorem count_pos {E : Ent} {cap x h : Nat} {k : Int × Nat} (hx : x < cap) (he : E x = some (h, k)) : 0 < count E cap h := by
  have := count_drop hx he; omega
theorem manyF_make {E : Ent} {cap hs : Nat} : full E cap (hs + 1) = full E cap hs + if 0 < count E cap (hs + 1) then 1 else 0 := by
  unfold full
  rw [List.range_succ (n := hs + 1), List.filter_append, List.length_append]
  congr 1
  by_cases c : 0 < count E cap (hs + 1) <;> simp [c]
theorem full_none (cap hs : Nat) : full (fun _ => none) cap hs = 0 := by
  unfold full
  rw [List.length_eq_zero_iff, List.filter_eq_nil_iff]
  intro h _
  have : count (fun _ => none) cap h = 0 := count_zero.2 fun x _ hx => by obtain ⟨k, e⟩ := hx; cases e
  simp [this]
theorem manyF_none (cap : Nat) : manyF (fun _ => none) cap = fun _ => none := by
  funext z
  unfold manyF
  have : count (fun _ => none) cap z.toNat = 0 := count_zero.2 fun x _ hx => by obtain ⟨k, e⟩ := hx; cases e
  rw [if_neg (by omega)]
structure Cubes (K : Nat -> List Nat) (U : Nat -> Option Nat) : Prop where
  mem : ∀ p x, x ∈ K p ↔ U x = some p
  deg : ∀ p i x,(K p)[i]? = some x -> (K x).length = i
def updM {α : Type} (f : Nat -> α) (l : List Nat) (v : α) : Nat -> α := fun k => if k ∈ l then v else f k
theorem updM_nil {α : Type} (f : Nat -> α) (v : α) : updM f [] v = f := by funext k; simp [updM]
theorem updM_snoc {α : Type} (f : Nat -> α) (l : List Nat) (x : Nat) (v : α) : updM f (l ++ [x]) v = upd (updM f l v) x v := by
  funext k
  simp only [updM, upd, List.mem_append, List.mem_singleton]
  by_cases c : k = x <;> by_cases d : k ∈ l <;> simp [c, d]
theorem updM_in {α : Type} (f : Nat -> α) {l : List Nat} {x : Nat} (v : α) (h : x ∈ l) : updM f l v x = v := by simp [updM, h]
theorem updM_out {α : Type} (f : Nat -> α) {l : List Nat} {x : Nat} (v : α) (h : x ∉ l) : updM f l v x = f x := by simp [updM, h]
section
variable {K : Nat -> List Nat} {U : Nat -> Option Nat} {a b x p : Nat}
theorem Cubes.init : Cubes (fun _ => []) (fun _ => none) := ⟨by simp,by simp⟩
theorem Cubes.nodup (h : Cubes K U) (p : Nat) : (K p).Nodup := by
  rw [List.Nodup, List.pairwise_iff_getElem]
  intro i j hi hj hij e
  have h1 := h.deg p i _ (List.getElem?_eq_getElem hi)
  have h2 := h.deg p j _ (List.getElem?_eq_getElem hj)
  rw [e, h2] at h1
  omega
theorem Cubes.lt (h : Cubes K U) (e : x ∈ K p) : (K x).length < (K p).length := by
  obtain ⟨i, hi, e⟩ := List.mem_iff_getElem.1 e
  have := h.deg p i x (by rw [List.getElem?_eq_getElem hi, e])
  omega
theorem Cubes.rise (h : Cubes K U) (p : Nat) : (K p).Pairwise fun a b => (K a).length < (K b).length := by
  rw [List.pairwise_iff_getElem]
  intro i j hi hj hij
  rw [h.deg p i _ (List.getElem?_eq_getElem hi), h.deg p j _ (List.getElem?_eq_getElem hj)]
  exact hij
theorem Cubes.link (h : Cubes K U) (hne : a ≠ b) (ha : U a = none) (hb : U b = none) (hd : (K a).length = (K b).length) : Cubes (upd K a (K a ++ [b])) (upd U b (some a)) := by
  have hbK : ∀ p, b ∉ K p := by intro p c; rw [h.mem, hb] at c; cases c
  have haK : ∀ p, a ∉ K p := by intro p c; rw [h.mem, ha] at c; cases c
  refine ⟨?_,?_⟩
  · intro p y
    by_cases c : p = a
    · subst c
      rw [upd_same, List.mem_append, List.mem_singleton]
      by_cases d : y = b
      · subst d; rw [upd_same]; simp
      · rw [upd_other _ _ d]; simp only [d, or_false]; exact h.mem p y
    · rw [upd_other _ _ c]
      by_cases d : y = b
      · subst d; rw [upd_same]
        constructor
        · intro e; exact absurd e (hbK p)
        · intro e; cases e; exact absurd rfl c
      · rw [upd_other _ _ d]; exact h.mem p y
  · intro p i y
    by_cases c : p = a
    · subst c
      rw [upd_same]
      intro e
      by_cases d : i < (K p).length
      · rw [List.getElem?_append_left d] at e
        have : y ≠ p := by rintro rfl; exact haK _ (List.mem_of_getElem? e)
        rw [upd_other _ _ this]; exact h.deg p i y e
      · rw [List.getElem?_append_right (by omega)] at e
        have hi : i - (K p).length = 0 := by
          have := (List.getElem?_eq_some_iff.1 e).1
          simp at this
          exact this
        rw [hi] at e
        have e : b = y := by simpa using e
        subst e
        rw [upd_other _ _ hne.symm]; omega
    · rw [upd_other _ _ c]
      intro e
      have : y ≠ a := fun q => haK p (q ▸ List.mem_of_getElem? e)
      rw [upd_other _ _ this]; exact h.deg p i y e
theorem Cubes.split (h : Cubes K U) (hx : U x = none) : Cubes (upd K x []) (updM U (K x) none) := by
  have hxK : ∀ p, x ∉ K p := by intro p c; rw [h.mem, hx] at c; cases c
  refine ⟨?_,?_⟩
  · intro p y
    by_cases c : p = x
    · subst c
      rw [upd_same]
      simp only [List.not_mem_nil, false_iff]
      by_cases d : y ∈ K p
      · rw [updM_in _ _ d]; simp
      · rw [updM_out _ _ d]; intro e; exact d ((h.mem p y).2 e)
    · rw [upd_other _ _ c]
      by_cases d : y ∈ K x
      · rw [updM_in _ _ d]
        constructor
        · intro e; rw [h.mem] at d e; rw [d] at e; cases e; exact absurd rfl c
        · intro e; cases e
      · rw [updM_out _ _ d]; exact h.mem p y
  · intro p i y
    by_cases c : p = x
    · subst c; rw [upd_same]; simp
    · rw [upd_other _ _ c]
      intro e
      have : y ≠ x := fun q => hxK p (q ▸ List.mem_of_getElem? e)
      rw [upd_other _ _ this]; exact h.deg p i y e
def CRow (K : Nat -> List Nat) (U : Nat -> Option Nat) (l : List Nat) : Prop := (∀ x ∈ l, U x = none) ∧ l.Pairwise fun a b => (K a).length < (K b).length
theorem CRow.nil : CRow K U [] := ⟨by simp,by simp⟩
theorem CRow.one (h : U x = none) : CRow K U [x] := ⟨by simpa using h,by simp⟩
theorem CRow.nodup {l : List Nat} (h : CRow K U l) : l.Nodup := h.2.imp fun {a b} c e => by rw [e] at c; omega
end
end Go.Proofs.YtkdbjelhkfdfjaaGreatDoor


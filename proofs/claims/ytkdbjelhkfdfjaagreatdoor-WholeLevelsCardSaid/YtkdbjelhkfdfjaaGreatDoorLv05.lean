/-
  Contracts that the law rests on. Conditions: none.
-/
import Derived.Test.YtkdbjelhkfdfjaaGreatDoorLv02
import Derived.Test.YtkdbjelhkfdfjaaGreatDoorLv04
import Derived.Deep.RegionHeld3
import Derived.Deep.RegionLaw
set_option linter.unusedVariables false
set_option maxRecDepth 100000
set_option maxHeartbeats 32000000
namespace Go.Proofs.YtkdbjelhkfdfjaaGreatDoor
def Inj (v : Nat -> Nat) (n : Nat) : Prop := ∀ i j, i < n -> j < n -> v i = v j -> i = j
theorem Inj.sw {v : Nat -> Nat} {n i j : Nat} (h : Inj v n) (hi : i < n) (hj : j < n) : Inj (sw v i j) n := by
  intro a b ha hb e
  obtain ⟨m, m1, m2, m3, m4⟩ := sw_idx v i j a
  obtain ⟨k, k1, k2, k3, k4⟩ := sw_idx v i j b
  have hm : m < n := by
    by_cases e1 : a = i
    · rw [m2 e1]; exact hj
    · by_cases e2 : a = j
      · rw [m3 e2 e1]; exact hi
      · rw [m4 e1 e2]; exact ha
  have hk : k < n := by
    by_cases e1 : b = i
    · rw [k2 e1]; exact hj
    · by_cases e2 : b = j
      · rw [k3 e2 e1]; exact hi
      · rw [k4 e1 e2]; exact hb
  rw [m1, k1] at e
  have hmk := h m k hm hk e
  by_cases a1 : a = i
  · have := m2 a1
    by_cases b1 : b = i
    · omega
    · have h1 := k3
      by_cases b2 : b = j
      · have := k3 b2 b1; omega
      · have := k4 b1 b2; omega
  · by_cases a2 : a = j
    · have := m3 a2 a1
      by_cases b1 : b = i
      · have := k2 b1; omega
      · by_cases b2 : b = j
        · omega
        · have := k4 b1 b2; omega
    · have := m4 a1 a2
      by_cases b1 : b = i
      · have := k2 b1; omega
      · by_cases b2 : b = j
        · have := k3 b2 b1; omega
        · have := k4 b1 b2; omega
def posF (v : Nat -> Nat) (n : Nat) (z : Int) : Option Int := if 0 <= z then ((List.range n).find? fun j => v j == z.toNat).map fun (j : Nat) => (j : Int) else none
section
variable {v v' : Nat -> Nat} {n i p x : Nat} {z : Int} {o : Option Int}
theorem posF_iff (h : Inj v n) (k : Int) : posF v n z = some k ↔ ∃ j : Nat, j < n ∧ z = (v j : Int) ∧ k = (j : Int) := by
  unfold posF
  by_cases c : 0 <= z
  · rw [if_pos c, Option.map_eq_some_iff]
    constructor
    · rintro ⟨j, hj,rfl⟩
      have h1 := List.find?_some hj
      have h2 := List.mem_of_find?_eq_some hj
      simp only [beq_iff_eq] at h1
      exact ⟨j, List.mem_range.1 h2,by omega,rfl⟩
    · rintro ⟨j, hj,rfl,rfl⟩
      refine ⟨j,?_,rfl⟩
      have h0 : ((List.range n).find? fun j' => v j' == (v j : Int).toNat).isSome := by
        rw [List.find?_isSome]
        exact ⟨j, List.mem_range.2 hj,by simp⟩
      obtain ⟨j', hj'⟩ := Option.isSome_iff_exists.1 h0
      have h1 := List.find?_some hj'
      have h2 := List.mem_range.1 (List.mem_of_find?_eq_some hj')
      simp only [beq_iff_eq, Int.toNat_natCast] at h1
      rw [hj', h j' j h2 hj h1]
  · rw [if_neg c]
    constructor
    · rintro ⟨⟩
    · rintro ⟨j, _,rfl, _⟩; omega
theorem posF_at (h : Inj v n) {j : Nat} (hj : j < n) : posF v n (v j : Int) = some (j : Int) := (posF_iff h _).2 ⟨j, hj,rfl,rfl⟩
theorem posF_no (hn : ∀ j, j < n -> v j ≠ x) : posF v n (x : Int) = none := by
  unfold posF
  rw [if_pos (by omega)]
  have : ((List.range n).find? fun j => v j == (x : Int).toNat) = none := by
    rw [List.find?_eq_none]
    intro j hj
    simpa using hn j (List.mem_range.1 hj)
  rw [this]; rfl
theorem opt_ext {α : Type} {a b : Option α} (h : ∀ k, a = some k ↔ b = some k) : a = b := by
  cases a with
  | none => cases b with
    | none => rfl
    | some y => exact absurd ((h y).2 rfl) (by simp)
  | some x => exact ((h x).1 rfl).symm
def holeF (v : Nat -> Nat) (n i : Nat) (o : Option Int) (z : Int) : Option Int := if z = (v i : Int) then o else posF v n z
theorem hole_full (h : Inj v n) (hi : i < n) : holeF v n i (some (i : Int)) = posF v n := by
  funext z
  unfold holeF
  by_cases e : z = (v i : Int)
  · rw [if_pos e, e, posF_at h hi]
  · rw [if_neg e]
theorem hole_close (h : Inj v n) (hi : i < n) : (fun z => if z = (v i : Int) then some (i : Int) else holeF v n i o z) = posF v n := by
  funext z
  unfold holeF
  by_cases e : z = (v i : Int)
  · simp only [if_pos e]; rw [e, posF_at h hi]
  · simp only [if_neg e]
theorem hole_move (h : Inj v n) (hi : i < n) (hp : p < n) (hne : i ≠ p) : (fun z => if z = (v p : Int) then some (i : Int) else holeF v n i o z) = holeF (sw v i p) n p o := by
  have hv : v i ≠ v p := fun e => hne (h i p hi hp e)
  have hs := h.sw hi hp
  funext z
  unfold holeF
  rw [sw_right]
  by_cases e1 : z = (v p : Int)
  · rw [if_pos e1, if_neg (by omega), e1]
    have := posF_at hs hi
    rw [sw_left] at this
    exact this.symm
  · rw [if_neg e1]
    by_cases e2 : z = (v i : Int)
    · rw [if_pos e2, if_pos e2]
    · rw [if_neg e2, if_neg e2]
      refine opt_ext fun k => ?_
      rw [posF_iff h, posF_iff hs]
      constructor
      · rintro ⟨j, hj, e,rfl⟩
        refine ⟨j, hj,?_,rfl⟩
        rw [sw_other]
        · exact e
        · rintro rfl; exact e2 e
        · rintro rfl; exact e1 e
      · rintro ⟨j, hj, e,rfl⟩
        refine ⟨j, hj,?_,rfl⟩
        by_cases c1 : j = i
        · subst c1; rw [sw_left] at e; exact absurd e e1
        · by_cases c2 : j = p
          · subst c2; rw [sw_right] at e; exact absurd e e2
          · rw [sw_other _ _ _ _ c1 c2] at e; exact e
theorem hole_add (h : Inj v n) (hx : ∀ j, j < n -> v j ≠ x) : posF v n = holeF (fun k => if k = n then x else v k) (n + 1) n none ∧ Inj (fun k => if k = n then x else v k) (n + 1) := by
  have hi : Inj (fun k => if k = n then x else v k) (n + 1) := by
    intro a b ha hb e
    simp only at e
    by_cases ea : a = n
    · by_cases eb : b = n
      · omega
      · rw [if_pos ea, if_neg eb] at e; exact absurd e.symm (hx b (by omega))
    · by_cases eb : b = n
      · rw [if_neg ea, if_pos eb] at e; exact absurd e (hx a (by omega))
      · rw [if_neg ea, if_neg eb] at e; exact h a b (by omega) (by omega) e
  refine ⟨?_, hi⟩
  funext z
  unfold holeF
  simp only [if_true]
  by_cases e : z = (x : Int)
  · rw [if_pos e, e]; exact posF_no hx
  · rw [if_neg e]
    refine opt_ext fun k => ?_
    rw [posF_iff h, posF_iff hi]
    constructor
    · rintro ⟨j, hj, e',rfl⟩
      exact ⟨j,by omega,by rw [if_neg (by omega)]; exact e',rfl⟩
    · rintro ⟨j, hj, e',rfl⟩
      by_cases c : j = n
      · rw [if_pos c] at e'; exact absurd e' e
      · rw [if_neg c] at e'; exact ⟨j,by omega, e',rfl⟩
theorem hole_take (h : Inj v (n + 1)) (hi : i < n) : (fun z => if z = (v i : Int) then none else posF v (n + 1) z) = holeF (fun k => if k = i then v n else v k) n i (some (n : Int)) ∧ Inj (fun k => if k = i then v n else v k) n := by
  have hinj : Inj (fun k => if k = i then v n else v k) n := by
    intro a b ha hb e
    simp only at e
    by_cases ea : a = i
    · by_cases eb : b = i
      · omega
      · rw [if_pos ea, if_neg eb] at e; have := h n b (by omega) (by omega) e; omega
    · by_cases eb : b = i
      · rw [if_neg ea, if_pos eb] at e; have := h a n (by omega) (by omega) e; omega
      · rw [if_neg ea, if_neg eb] at e; exact h a b (by omega) (by omega) e
  refine ⟨?_, hinj⟩
  have hv : v i ≠ v n := fun e => by have := h i n (by omega) (by omega) e; omega
  funext z
  unfold holeF
  simp only [if_true]
  by_cases e : z = (v n : Int)
  · rw [if_pos e, if_neg (by omega), e]; exact posF_at h (by omega)
  · rw [if_neg e]
    refine opt_ext fun k => ?_
    rw [posF_iff hinj]
    by_cases e2 : z = (v i : Int)
    · rw [if_pos e2]
      constructor
      · rintro ⟨⟩
      · rintro ⟨j, hj, e',rfl⟩
        by_cases c : j = i
        · rw [if_pos c] at e'; exact absurd e' e
        · rw [if_neg c, e2] at e'; have := h i j (by omega) (by omega) (by omega); omega
    · rw [if_neg e2, posF_iff h]
      constructor
      · rintro ⟨j, hj, e',rfl⟩
        refine ⟨j,?_,?_,rfl⟩
        · rcases Nat.lt_or_ge j n with c | c
          · exact c
          · obtain rfl : j = n := by omega
            exact absurd e' e
        · rw [if_neg (by rintro rfl; exact e2 e')]; exact e'
      · rintro ⟨j, hj, e',rfl⟩
        by_cases c : j = i
        · rw [if_pos c] at e'; exact absurd e' e
        · rw [if_neg c] at e'; exact ⟨j,by omega, e',rfl⟩
theorem hole_last (h : Inj v (n + 1)) : (fun z => if z = (v n : Int) then none else posF v (n + 1) z) = posF v n := by
  have hn : Inj v n := fun a b ha hb e => h a b (by omega) (by omega) e
  funext z
  refine opt_ext fun k => ?_
  rw [posF_iff hn]
  by_cases e : z = (v n : Int)
  · simp only [if_pos e]
    constructor
    · rintro ⟨⟩
    · rintro ⟨j, hj, e',rfl⟩
      have := h n j (by omega) (by omega) (by omega); omega
  · simp only [if_neg e]
    rw [posF_iff h]
    constructor
    · rintro ⟨j, hj, e',rfl⟩
      refine ⟨j,?_, e',rfl⟩
      rcases Nat.lt_or_ge j n with c | c
      · exact c
      · obtain rfl : j = n := by omega
        exact absurd e' e
    · rintro ⟨j, hj, e',rfl⟩
      exact ⟨j,by omega, e',rfl⟩
end
end Go.Proofs.YtkdbjelhkfdfjaaGreatDoor
namespace Go.Proofs.YtkdbjelhkfdfjaaGreatDoor
open Go.RowKit
def cellV (E : Ent) (i : Nat) : List Value :=
  match E i with
  | some (h, k, q) => [.int .i64 (h : Int),.int .i64 k,.int .u64 (q : Int)]
  | none => [.int .i64 0,.int .i64 0,.int .u64 0]
structure EntOk (E : Ent) (cap hs : Nat) : Prop where
  bc : cap <= 65536
  bh : hs <= 65536
  lt : ∀ x,(E x).isSome -> x < cap
  heap : ∀ x h k, E x = some (h, k) -> 1 <= h ∧ h <= hs
  wf : ∀ x h k q, E x = some (h, k, q) -> (Lit.int .i64 k).wf = true ∧ (Lit.int .u64 (q : Int)).wf = true
def CellsAt (w : World) (F : List Nat) (p cap hs : Nat) (E : Ent) : Prop :=
  ∃ (steps : Int) (gs pn gn cn mb : Nat), F = [p, gs, pn, gn, mb] ∧ F.Nodup ∧ EntOk E cap hs ∧ 0 <= steps ∧ steps <= 4611686018427387904 ∧
    w.heap[p]? = some (.cells #[.int .i64 steps,.slice (some ⟨gs,0,none⟩) cap cap,.pointer (some ⟨pn,0,none⟩),.map (some mb)] 258 (0,0)) ∧
    Arr w 448 3 cap gs (cellV E) ∧
    Nm.NamesAt w pn gn cn ((List.range (hs + 1)).map fun (n : Nat) => (n : Int)) 65536 hs ∧
    IMap Tryz.prog 3 w mb (full E cap hs) (manyF E cap)
def idL (hs : Nat) : List Int := (List.range (hs + 1)).map fun (n : Nat) => (n : Int)
theorem idL_len (hs : Nat) : (idL hs).length = hs + 1 := by simp [idL]
theorem idL_at (hs : Nat) {i : Nat} (h : i <= hs) : (idL hs).getD i 0 = i := by
  have : i < hs + 1 := by omega
  simp [idL, List.getD, this]
section
variable (w : World) (F : List Nat) (p cap hs : Nat) (E : Ent)
theorem cells_has (hc : CellsAt w F p cap hs E) (h : Int) :
    Calls Tryz.prog 301 #[.pointer (some ⟨p,0,none⟩),.int .i64 h] w fun e w' => e = .returned (.bool (decide (1 <= h ∧ h <= hs))) ∧ w = w' := by
  obtain ⟨steps, gs, pn, gn, cn, mb,rfl, hnd, hok, hs0, hs1, hb, ha, hn, hm⟩ := hc
  have c2 : w.cell? ⟨p,2,none⟩ = some (.pointer (some ⟨pn,0,none⟩)) := by rw [cell_of_blk hb]; rfl
  have hl := idL_len hs
  by_cases hy : 1 <= h ∧ h <= hs
  · obtain ⟨i,rfl⟩ : ∃ i : Nat, h = i := ⟨h.toNat,by omega⟩
    rw [decide_eq_true hy]
    go_enter Tryz.func301, Tryz.ntmps301
    go_wp2_with (go_at_call 314; refine (Nm.has_yes w pn gn cn _ _ _ i hn (by omega) (by change i < (idL hs).length; omega) (idL_at hs (by omega))).mono ?_; rintro e w' ⟨rfl,rfl⟩)
    go_ret
    exact ⟨rfl,rfl⟩
  · rw [decide_eq_false hy]
    go_enter Tryz.func301, Tryz.ntmps301
    go_wp2_with (go_at_call 314; refine (Nm.has_no w pn gn cn _ _ _ h hn (by change ¬ (0 < h ∧ h < ((idL hs).length : Int) ∧ _); omega)).mono ?_; rintro e w' ⟨rfl,rfl⟩)
    go_ret
    exact ⟨rfl,rfl⟩
theorem cells_there (hc : CellsAt w F p cap hs E) (x : Nat) (hx : x < cap) :
    Calls Tryz.prog 326 #[.pointer (some ⟨p,0,none⟩),.int .i64 x] w fun e w' => e = .returned (.bool true) ∧ w = w' := by
  obtain ⟨steps, gs, pn, gn, cn, mb,rfl, hnd, hok, hs0, hs1, hb, ha, hn, hm⟩ := hc
  have c1 : w.cell? ⟨p,1,none⟩ = some (.slice (some ⟨gs,0,none⟩) cap cap) := by rw [cell_of_blk hb]; rfl
  have hx0 : decide ((0 : Int) <= (x : Int)) = true := by rw [decide_eq_true_iff]; omega
  clear hb ha hn hm hok hnd
  go_enter Tryz.func326, Tryz.ntmps326
  go_wp2
  go_ret
  exact ⟨rfl,rfl⟩
theorem cellV_at {E : Ent} {x h q : Nat} {k : Int} (e : E x = some (h, k, q)) : cellV E x = [.int .i64 (h : Int),.int .i64 k,.int .u64 (q : Int)] := by simp [cellV, e]
theorem cellV_none {E : Ent} {x : Nat} (e : E x = none) : cellV E x = [.int .i64 0,.int .i64 0,.int .u64 0] := by simp [cellV, e]
theorem cells_in (hc : CellsAt w F p cap hs E) (x : Nat) (hx : x < cap) :
    Calls Tryz.prog 313 #[.pointer (some ⟨p,0,none⟩),.int .i64 x] w fun e w' => e = .returned (.bool (E x).isSome) ∧ w = w' := by
  have hc0 := hc
  obtain ⟨steps, gs, pn, gn, cn, mb,rfl, hnd, hok, hs0, hs1, hb, ha, hn, hm⟩ := hc
  have c1 : w.cell? ⟨p,1,none⟩ = some (.slice (some ⟨gs,0,none⟩) cap cap) := by rw [cell_of_blk hb]; rfl
  have d0 := ha.cell hx (j := 0) (by omega)
  cases e : E x with
  | none =>
    rw [cellV_none e] at d0
    simp only [List.getElem?_cons_zero, Nat.add_zero] at d0
    clear hb ha hn hm hok hnd
    go_enter Tryz.func313, Tryz.ntmps313
    go_wp2_with (go_at_call 326; refine (cells_there w _ p cap hs E hc0 x hx).mono ?_; rintro e w' ⟨rfl,rfl⟩)
    go_ret
    exact ⟨rfl,rfl⟩
  | some r =>
    obtain ⟨h, k, q⟩ := r
    have hh := (hok.heap x h _ e).1
    have hh0 : 0 < h := by omega
    rw [cellV_at e] at d0
    simp only [List.getElem?_cons_zero, Nat.add_zero] at d0
    clear hb ha hn hm hok hnd hh
    go_enter Tryz.func313, Tryz.ntmps313
    go_wp2_with (go_at_call 326; refine (cells_there w _ p cap hs E hc0 x hx).mono ?_; rintro e w' ⟨rfl,rfl⟩)
    go_ret
    exact ⟨by simp,rfl⟩
end
theorem Arr.set3 {w : World} {T n g i : Nat} {F : Nat -> List Value} (h : Arr w T 3 n g F) (hi : i < n) (a b c : Value) :
    Arr (((w.setCell ⟨g, i * 3, none⟩ a).setCell ⟨g, i * 3 + 1, none⟩ b).setCell ⟨g, i * 3 + 2, none⟩ c) T 3 n g (upd F i [a, b, c]) := by
  have h1 := ((h.set hi (j := 0) (by omega) a).set hi (j := 1) (by omega) b).set hi (j := 2) (by omega) c
  refine h1.congr fun k _ => ?_
  by_cases e : k = i
  · subst e
    simp only [upd_same]
    have hl := h.size k hi
    match hF : F k, hl with
    | [x, y, z], _ => rfl
  · simp only [upd_other _ _ e]
theorem cellV_put (E : Ent) (x h q : Nat) (k : Int) : cellV (put E x (some (h, k, q))) = upd (cellV E) x [.int .i64 (h : Int),.int .i64 k,.int .u64 (q : Int)] := by
  funext i
  by_cases e : i = x
  · subst e; rw [upd_same]; exact cellV_at (put_same _ _ _)
  · rw [upd_other _ _ e]; simp only [cellV, put_other E x _ e]
theorem cellV_drop (E : Ent) (x : Nat) : cellV (put E x none) = upd (cellV E) x [.int .i64 0,.int .i64 0,.int .u64 0] := by
  funext i
  by_cases e : i = x
  · subst e; rw [upd_same]; exact cellV_none (put_same _ _ _)
  · rw [upd_other _ _ e]; simp only [cellV, put_other E x _ e]
theorem EntOk.put {E : Ent} {cap hs x h q : Nat} {k : Int} (ok : EntOk E cap hs) (hx : x < cap) (h1 : 1 <= h) (h2 : h <= hs) (hk : (Lit.int .i64 k).wf = true) (hq : (Lit.int .u64 (q : Int)).wf = true) : EntOk (put E x (some (h, k, q))) cap hs := by
  refine ⟨ok.bc, ok.bh,fun y hy => ?_,fun y g l e => ?_,fun y g l r e => ?_⟩
  · by_cases c : y = x
    · rw [c]; exact hx
    · rw [put_other E x _ c] at hy; exact ok.lt y hy
  · by_cases c : y = x
    · subst c; rw [put_same] at e; cases e; exact ⟨h1, h2⟩
    · rw [put_other E x _ c] at e; exact ok.heap y g l e
  · by_cases c : y = x
    · subst c; rw [put_same] at e; cases e; exact ⟨hk, hq⟩
    · rw [put_other E x _ c] at e; exact ok.wf y g l r e
theorem EntOk.drop {E : Ent} {cap hs x : Nat} (ok : EntOk E cap hs) : EntOk (Go.Proofs.YtkdbjelhkfdfjaaGreatDoor.put E x none) cap hs := by
  refine ⟨ok.bc, ok.bh,fun y hy => ?_,fun y g l e => ?_,fun y g l r e => ?_⟩
  · by_cases c : y = x
    · subst c; rw [put_same] at hy; cases hy
    · rw [put_other E x _ c] at hy; exact ok.lt y hy
  · by_cases c : y = x
    · subst c; rw [put_same] at e; cases e
    · rw [put_other E x _ c] at e; exact ok.heap y g l e
  · by_cases c : y = x
    · subst c; rw [put_same] at e; cases e
    · rw [put_other E x _ c] at e; exact ok.wf y g l r e
theorem Nm.NamesAt.keep {S : List Nat} {w w' : World} {p g c : Nat} {L : List Int} {m n : Int} (h : Nm.NamesAt w p g c L m n) (k : Keeps S w w') (h1 : p ∉ S) (h2 : g ∉ S) : Nm.NamesAt w' p g c L m n :=
  ⟨k.blk h.blk h1, k.row h.row h2, h.ne⟩
section
variable {w w' : World} {F : List Nat} {p cap hs : Nat} {E : Ent}
theorem CellsAt.keep {S : List Nat} (hc : CellsAt w F p cap hs E) (k : Keeps S w w') (hS : ∀ b ∈ F, b ∉ S) : CellsAt w' F p cap hs E := by
  obtain ⟨steps, gs, pn, gn, cn, mb,rfl, hnd, hok, hs0, hs1, hb, ha, hn, hm⟩ := hc
  simp only [List.mem_cons, List.not_mem_nil, or_false, forall_eq_or_imp, forall_eq] at hS
  obtain ⟨s1, s2, s3, s4, s5⟩ := hS
  exact ⟨steps, gs, pn, gn, cn, mb,rfl, hnd, hok, hs0, hs1, k.blk hb s1, ha.keep k s2, hn.keep k s3 s4, hm.keep k s5⟩
theorem CellsAt.below (hc : CellsAt w F p cap hs E) (k : Below w.heap.size w w') : CellsAt w' F p cap hs E := hc.keep (Below.keeps k (Nat.le_refl _) []) (by simp)
theorem CellsAt.lt (hc : CellsAt w F p cap hs E) : ∀ b ∈ F, b < w.heap.size := by
  obtain ⟨steps, gs, pn, gn, cn, mb,rfl, hnd, hok, hs0, hs1, hb, ha, hn, hm⟩ := hc
  simp only [List.mem_cons, List.not_mem_nil, or_false, forall_eq_or_imp, forall_eq]
  exact ⟨lt_of_block hb, ha.lt, lt_of_block hn.blk, row_lt hn.row, hm.lt⟩
theorem CellsAt.nodup (hc : CellsAt w F p cap hs E) : F.Nodup := by obtain ⟨steps, gs, pn, gn, cn, mb,rfl, hnd, r⟩ := hc; exact hnd
theorem CellsAt.ok (hc : CellsAt w F p cap hs E) : EntOk E cap hs := by obtain ⟨steps, gs, pn, gn, cn, mb,rfl, hnd, hok, r⟩ := hc; exact hok
theorem CellsAt.mem (hc : CellsAt w F p cap hs E) : p ∈ F := by obtain ⟨steps, gs, pn, gn, cn, mb,rfl, r⟩ := hc; simp
end
theorem mapTy : MapTy Tryz.prog 233 3 := ⟨Tryz.underlying233, Tryz.underlying3,fun w => by kernel_rfl⟩
section
variable (w : World) (F : List Nat) (p cap hs : Nat) (E : Ent)
theorem cells_len (hc : CellsAt w F p cap hs E) (h : Nat) (hh : h <= 65536) :
    Calls Tryz.prog 304 #[.pointer (some ⟨p,0,none⟩),.int .i64 h] w fun e w' => e = .returned (.int .i64 (count E cap h : Nat)) ∧ w = w' := by
  obtain ⟨steps, gs, pn, gn, cn, mb,rfl, hnd, hok, hs0, hs1, hb, ha, hn, hm⟩ := hc
  have c3 : w.cell? ⟨p,3,none⟩ = some (.map (some mb)) := by rw [cell_of_blk hb]; rfl
  have hv := Lib.hid (manyF_getD E cap h)
  have HM := Lib.hid hm
  clear hb ha hn hok hnd hm hs0 hs1
  go_enter Tryz.func304, Tryz.ntmps304
  go_wp2_with (at_lookup; refine wpList_imap_look rfl _ _ rfl mapTy mb _ _ rfl HM.out (h : Int) rfl (WalkArith.wf_i64 (by omega)) ?_)
  go_ret
  exact ⟨by rw [hv.out]; rfl,rfl⟩
end
end Go.Proofs.YtkdbjelhkfdfjaaGreatDoor


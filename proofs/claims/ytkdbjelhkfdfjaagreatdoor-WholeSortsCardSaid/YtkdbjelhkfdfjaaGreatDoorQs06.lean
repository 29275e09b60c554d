/-
  Contracts that the law rests on. Conditions: none.
-/
import Derived.Test.YtkdbjelhkfdfjaaGreatDoorQs04
import Derived.Test.YtkdbjelhkfdfjaaGreatDoorQs05
import Derived.Deep.RegionLaw
import Derived.Deep.RegionHeld3
import Derived.Deep.Cut
set_option linter.unusedVariables false
set_option maxRecDepth 100000
set_option maxHeartbeats 16000000
namespace Go.Proofs.YtkdbjelhkfdfjaaGreatDoor
open Go.RowKit
def cellV (E : Ent) (i : Nat) : List Value :=
  match E i with
  | some (h, k, q) => [.int .i64 (h : Int), .int .i64 k, .int .u64 (q : Int)]
  | none => [.int .i64 0, .int .i64 0, .int .u64 0]
structure EntOk (E : Ent) (cap hs : Nat) : Prop where
  bc : cap ≤ 65536
  bh : hs ≤ 65536
  lt : ∀ x, (E x).isSome → x < cap
  heap : ∀ x h k, E x = some (h, k) → 1 ≤ h ∧ h ≤ hs
  wf : ∀ x h k q, E x = some (h, k, q) → (Lit.int .i64 k).wf = true ∧ (Lit.int .u64 (q : Int)).wf = true
def CellsAt (w : World) (F : List Nat) (p cap hs : Nat) (E : Ent) : Prop :=
  ∃ (steps : Int) (gs pn gn cn mb : Nat), F = [p, gs, pn, gn, mb] ∧ F.Nodup ∧ EntOk E cap hs ∧ 0 ≤ steps ∧ steps ≤ 4611686018427387904 ∧
    w.heap[p]? = some (.cells #[.int .i64 steps, .slice (some ⟨gs,0,none⟩) cap cap, .pointer (some ⟨pn,0,none⟩), .map (some mb)] 258 (0,0)) ∧
    Arr w 448 3 cap gs (cellV E) ∧
    Nm.NamesAt w pn gn cn ((List.range (hs + 1)).map fun (n : Nat) => (n : Int)) 65536 hs ∧
    IMap Tryz.prog 3 w mb (full E cap hs) (manyF E cap)
def idL (hs : Nat) : List Int := (List.range (hs + 1)).map fun (n : Nat) => (n : Int)
theorem idL_len (hs : Nat) : (idL hs).length = hs + 1 := by simp [idL]
theorem idL_at (hs : Nat) {i : Nat} (h : i ≤ hs) : (idL hs).getD i 0 = i := by
  have : i < hs + 1 := by omega
  simp [idL, List.getD, this]
section
variable (w : World) (F : List Nat) (p cap hs : Nat) (E : Ent)
theorem cells_has (hc : CellsAt w F p cap hs E) (h : Int) :
    Calls Tryz.prog 301 #[.pointer (some ⟨p,0,none⟩), .int .i64 h] w fun e w' => e = .returned (.bool (decide (1 ≤ h ∧ h ≤ hs))) ∧ w = w' := by
  obtain ⟨steps, gs, pn, gn, cn, mb,rfl, hnd, hok, hs0, hs1, hb, ha, hn, hm⟩ := hc
  have c2 : w.cell? ⟨p,2,none⟩ = some (.pointer (some ⟨pn,0,none⟩)) := by rw [cell_of_blk hb]; rfl
  have hl := idL_len hs
  by_cases hy : 1 ≤ h ∧ h ≤ hs
  · obtain ⟨i,rfl⟩ : ∃ i : Nat, h = i := ⟨h.toNat,by omega⟩
    rw [decide_eq_true hy]
    go_enter Tryz.func301, Tryz.ntmps301
    go_wp2_with (go_at_call 314; refine (Nm.has_yes w pn gn cn _ _ _ i hn (by omega) (by change i < (idL hs).length; omega) (idL_at hs (by omega))).mono ?_; rintro e w' ⟨rfl,rfl⟩)
    go_ret
    exact ⟨rfl,rfl⟩
  · rw [decide_eq_false hy]
    go_enter Tryz.func301, Tryz.ntmps301
    go_wp2_with (go_at_call 314; refine (Nm.has_no w pn gn cn _ _ _ h hn (by change ¬ (0 < h ∧ h < ((idL hs).length : Int) ∧ _); omega)).mono ?_; rintro e w' ⟨rfl,rfl⟩)
    go_ret
    exact ⟨rfl,rfl⟩
theorem cells_there (hc : CellsAt w F p cap hs E) (x : Nat) (hx : x < cap) :
    Calls Tryz.prog 326 #[.pointer (some ⟨p,0,none⟩), .int .i64 x] w fun e w' => e = .returned (.bool true) ∧ w = w' := by
  obtain ⟨steps, gs, pn, gn, cn, mb,rfl, hnd, hok, hs0, hs1, hb, ha, hn, hm⟩ := hc
  have c1 : w.cell? ⟨p,1,none⟩ = some (.slice (some ⟨gs,0,none⟩) cap cap) := by rw [cell_of_blk hb]; rfl
  have hx0 : decide ((0 : Int) ≤ (x : Int)) = true := by rw [decide_eq_true_iff]; omega
  clear hb ha hn hm hok hnd
  go_enter Tryz.func326, Tryz.ntmps326
  go_wp2
  go_ret
  exact ⟨rfl,rfl⟩
theorem cellV_at {E : Ent} {x h q : Nat} {k : Int} (e : E x = some (h, k, q)) : cellV E x = [.int .i64 (h : Int), .int .i64 k, .int .u64 (q : Int)] := by simp [cellV, e]
theorem cellV_none {E : Ent} {x : Nat} (e : E x = none) : cellV E x = [.int .i64 0, .int .i64 0, .int .u64 0] := by simp [cellV, e]
theorem cells_in (hc : CellsAt w F p cap hs E) (x : Nat) (hx : x < cap) :
    Calls Tryz.prog 313 #[.pointer (some ⟨p,0,none⟩), .int .i64 x] w fun e w' => e = .returned (.bool (E x).isSome) ∧ w = w' := by
  have hc0 := hc
  obtain ⟨steps, gs, pn, gn, cn, mb,rfl, hnd, hok, hs0, hs1, hb, ha, hn, hm⟩ := hc
  have c1 : w.cell? ⟨p,1,none⟩ = some (.slice (some ⟨gs,0,none⟩) cap cap) := by rw [cell_of_blk hb]; rfl
  have d0 := ha.cell hx (j := 0) (by omega)
  cases e : E x with
  | none =>
    rw [cellV_none e] at d0
    simp only [List.getElem?_cons_zero, Nat.add_zero] at d0
    clear hb ha hn hm hok hnd
    go_enter Tryz.func313, Tryz.ntmps313
    go_wp2_with (go_at_call 326; refine (cells_there w _ p cap hs E hc0 x hx).mono ?_; rintro e w' ⟨rfl,rfl⟩)
    go_ret
    exact ⟨rfl,rfl⟩
  | some r =>
    obtain ⟨h, k, q⟩ := r
    have hh := (hok.heap x h _ e).1
    have hh0 : 0 < h := by omega
    rw [cellV_at e] at d0
    simp only [List.getElem?_cons_zero, Nat.add_zero] at d0
    clear hb ha hn hm hok hnd hh
    go_enter Tryz.func313, Tryz.ntmps313
    go_wp2_with (go_at_call 326; refine (cells_there w _ p cap hs E hc0 x hx).mono ?_; rintro e w' ⟨rfl,rfl⟩)
    go_ret
    exact ⟨by simp,rfl⟩
end
theorem Arr.set3 {w : World} {T n g i : Nat} {F : Nat → List Value} (h : Arr w T 3 n g F) (hi : i < n) (a b c : Value) :
    Arr (((w.setCell ⟨g, i * 3, none⟩ a).setCell ⟨g, i * 3 + 1, none⟩ b).setCell ⟨g, i * 3 + 2, none⟩ c) T 3 n g (upd F i [a, b, c]) := by
  have h1 := ((h.set hi (j := 0) (by omega) a).set hi (j := 1) (by omega) b).set hi (j := 2) (by omega) c
  refine h1.congr fun k _ => ?_
  by_cases e : k = i
  · subst e
    simp only [upd_same]
    have hl := h.size k hi
    match hF : F k, hl with
    | [x, y, z], _ => rfl
  · simp only [upd_other _ _ e]
theorem cellV_put (E : Ent) (x h q : Nat) (k : Int) : cellV (put E x (some (h, k, q))) = upd (cellV E) x [.int .i64 (h : Int), .int .i64 k, .int .u64 (q : Int)] := by
  funext i
  by_cases e : i = x
  · subst e; rw [upd_same]; exact cellV_at (put_same _ _ _)
  · rw [upd_other _ _ e]; simp only [cellV, put_other E x _ e]
theorem cellV_drop (E : Ent) (x : Nat) : cellV (put E x none) = upd (cellV E) x [.int .i64 0, .int .i64 0, .int .u64 0] := by
  funext i
  by_cases e : i = x
  · subst e; rw [upd_same]; exact cellV_none (put_same _ _ _)
  · rw [upd_other _ _ e]; simp only [cellV, put_other E x _ e]
theorem EntOk.put {E : Ent} {cap hs x h q : Nat} {k : Int} (ok : EntOk E cap hs) (hx : x < cap) (h1 : 1 ≤ h) (h2 : h ≤ hs) (hk : (Lit.int .i64 k).wf = true) (hq : (Lit.int .u64 (q : Int)).wf = true) : EntOk (put E x (some (h, k, q))) cap hs := by
  refine ⟨ok.bc, ok.bh,fun y hy => ?_,fun y g l e => ?_,fun y g l r e => ?_⟩
  · by_cases c : y = x
    · rw [c]; exact hx
    · rw [put_other E x _ c] at hy; exact ok.lt y hy
  · by_cases c : y = x
    · subst c; rw [put_same] at e; cases e; exact ⟨h1, h2⟩
    · rw [put_other E x _ c] at e; exact ok.heap y g l e
  · by_cases c : y = x
    · subst c; rw [put_same] at e; cases e; exact ⟨hk, hq⟩
    · rw [put_other E x _ c] at e; exact ok.wf y g l r e
theorem EntOk.drop {E : Ent} {cap hs x : Nat} (ok : EntOk E cap hs) : EntOk (Go.Proofs.YtkdbjelhkfdfjaaGreatDoor.put E x none) cap hs := by
  refine ⟨ok.bc, ok.bh,fun y hy => ?_,fun y g l e => ?_,fun y g l r e => ?_⟩
  · by_cases c : y = x
    · subst c; rw [put_same] at hy; cases hy
    · rw [put_other E x _ c] at hy; exact ok.lt y hy
  · by_cases c : y = x
    · subst c; rw [put_same] at e; cases e
    · rw [put_other E x _ c] at e; exact ok.heap y g l e
  · by_cases c : y = x
    · subst c; rw [put_same] at e; cases e
    · rw [put_other E x _ c] at e; exact ok.wf y g l r e
theorem Nm.NamesAt.keep {S : List Nat} {w w' : World} {p g c : Nat} {L : List Int} {m n : Int} (h : Nm.NamesAt w p g c L m n) (k : Keeps S w w') (h1 : p ∉ S) (h2 : g ∉ S) : Nm.NamesAt w' p g c L m n :=
  ⟨k.blk h.blk h1, k.row h.row h2, h.ne⟩
section
variable {w w' : World} {F : List Nat} {p cap hs : Nat} {E : Ent}
theorem CellsAt.keep {S : List Nat} (hc : CellsAt w F p cap hs E) (k : Keeps S w w') (hS : ∀ b ∈ F, b ∉ S) : CellsAt w' F p cap hs E := by
  obtain ⟨steps, gs, pn, gn, cn, mb,rfl, hnd, hok, hs0, hs1, hb, ha, hn, hm⟩ := hc
  simp only [List.mem_cons, List.not_mem_nil, or_false, forall_eq_or_imp, forall_eq] at hS
  obtain ⟨s1, s2, s3, s4, s5⟩ := hS
  exact ⟨steps, gs, pn, gn, cn, mb,rfl, hnd, hok, hs0, hs1, k.blk hb s1, ha.keep k s2, hn.keep k s3 s4, hm.keep k s5⟩
theorem CellsAt.below (hc : CellsAt w F p cap hs E) (k : Below w.heap.size w w') : CellsAt w' F p cap hs E := hc.keep (Below.keeps k (Nat.le_refl _) []) (by simp)
theorem CellsAt.lt (hc : CellsAt w F p cap hs E) : ∀ b ∈ F, b < w.heap.size := by
  obtain ⟨steps, gs, pn, gn, cn, mb,rfl, hnd, hok, hs0, hs1, hb, ha, hn, hm⟩ := hc
  simp only [List.mem_cons, List.not_mem_nil, or_false, forall_eq_or_imp, forall_eq]
  exact ⟨lt_of_block hb, ha.lt, lt_of_block hn.blk, row_lt hn.row, hm.lt⟩
theorem CellsAt.nodup (hc : CellsAt w F p cap hs E) : F.Nodup := by obtain ⟨steps, gs, pn, gn, cn, mb,rfl, hnd, r⟩ := hc; exact hnd
theorem CellsAt.ok (hc : CellsAt w F p cap hs E) : EntOk E cap hs := by obtain ⟨steps, gs, pn, gn, cn, mb,rfl, hnd, hok, r⟩ := hc; exact hok
theorem CellsAt.mem (hc : CellsAt w F p cap hs E) : p ∈ F := by obtain ⟨steps, gs, pn, gn, cn, mb,rfl, r⟩ := hc; simp
end
theorem mapTy : MapTy Tryz.prog 233 3 := ⟨Tryz.underlying233, Tryz.underlying3,fun w => by kernel_rfl⟩
section
variable (w : World) (F : List Nat) (p cap hs : Nat) (E : Ent)
theorem cells_len (hc : CellsAt w F p cap hs E) (h : Nat) (hh : h ≤ 65536) :
    Calls Tryz.prog 304 #[.pointer (some ⟨p,0,none⟩), .int .i64 h] w fun e w' => e = .returned (.int .i64 (count E cap h : Nat)) ∧ w = w' := by
  obtain ⟨steps, gs, pn, gn, cn, mb,rfl, hnd, hok, hs0, hs1, hb, ha, hn, hm⟩ := hc
  have c3 : w.cell? ⟨p,3,none⟩ = some (.map (some mb)) := by rw [cell_of_blk hb]; rfl
  have hv := Lib.hid (manyF_getD E cap h)
  have HM := Lib.hid hm
  clear hb ha hn hok hnd hm hs0 hs1
  go_enter Tryz.func304, Tryz.ntmps304
  go_wp2_with (at_lookup; refine wpList_imap_look rfl _ _ rfl mapTy mb _ _ rfl HM.out (h : Int) rfl (WalkArith.wf_i64 (by omega)) ?_)
  go_ret
  exact ⟨by rw [hv.out]; rfl,rfl⟩
end
def cmpV (x y : Int) : Int := if x < y then -1 else if y < x then 1 else 0
theorem cmpV_lt {x y : Int} (h : x < y) : cmpV x y = -1 := by simp [cmpV, h]
theorem cmpV_gt {x y : Int} (h : y < x) : cmpV x y = 1 := by simp [cmpV, h]; omega
theorem cmpV_eq (x : Int) : cmpV x x = 0 := by simp [cmpV]
theorem isNaN_i64 (w : World) (x : Int) : Calls Tryz.prog 84 #[.int .i64 x] w fun e w' => e = .returned (.bool false) ∧ w = w' := by
  go_enter Tryz.func84, Tryz.ntmps84
  go_wp2
  go_ret
  exact ⟨by simp,rfl⟩
theorem isNaN_u64 (w : World) (x : Int) : Calls Tryz.prog 338 #[.int .u64 x] w fun e w' => e = .returned (.bool false) ∧ w = w' := by
  go_enter Tryz.func338, Tryz.ntmps338
  go_wp2
  go_ret
  exact ⟨by simp,rfl⟩
theorem cmp_i64 (w : World) (x y : Int) : Calls Tryz.prog 335 #[.int .i64 x, .int .i64 y] w fun e w' => e = .returned (.int .i64 (cmpV x y)) ∧ w = w' := by
  rcases Int.lt_trichotomy x y with h | h | h
  · rw [cmpV_lt h]
    go_enter Tryz.func335, Tryz.ntmps335
    go_wp2_with (go_at_call 84; refine (isNaN_i64 _ _).mono ?_; rintro e w' ⟨rfl,rfl⟩)
    go_ret
    exact ⟨rfl,rfl⟩
  · subst h
    rw [cmpV_eq]
    have h : decide (x < x) = false := by simp
    go_enter Tryz.func335, Tryz.ntmps335
    go_wp2_with (go_at_call 84; refine (isNaN_i64 _ _).mono ?_; rintro e w' ⟨rfl,rfl⟩)
    go_ret
    exact ⟨rfl,rfl⟩
  · rw [cmpV_gt h]
    have h' : decide (x < y) = false := by simp; omega
    go_enter Tryz.func335, Tryz.ntmps335
    go_wp2_with (go_at_call 84; refine (isNaN_i64 _ _).mono ?_; rintro e w' ⟨rfl,rfl⟩)
    go_ret
    exact ⟨rfl,rfl⟩
theorem cmp_u64 (w : World) (x y : Int) : Calls Tryz.prog 336 #[.int .u64 x, .int .u64 y] w fun e w' => e = .returned (.int .i64 (cmpV x y)) ∧ w = w' := by
  rcases Int.lt_trichotomy x y with h | h | h
  · rw [cmpV_lt h]
    go_enter Tryz.func336, Tryz.ntmps336
    go_wp2_with (go_at_call 338; refine (isNaN_u64 _ _).mono ?_; rintro e w' ⟨rfl,rfl⟩)
    go_ret
    exact ⟨rfl,rfl⟩
  · subst h
    rw [cmpV_eq]
    have h : decide (x < x) = false := by simp
    go_enter Tryz.func336, Tryz.ntmps336
    go_wp2_with (go_at_call 338; refine (isNaN_u64 _ _).mono ?_; rintro e w' ⟨rfl,rfl⟩)
    go_ret
    exact ⟨rfl,rfl⟩
  · rw [cmpV_gt h]
    have h' : decide (x < y) = false := by simp; omega
    go_enter Tryz.func336, Tryz.ntmps336
    go_wp2_with (go_at_call 338; refine (isNaN_u64 _ _).mono ?_; rintro e w' ⟨rfl,rfl⟩)
    go_ret
    exact ⟨rfl,rfl⟩
def orV (x y : Int) : Int := if x = 0 then y else x
theorem orV_zero (y : Int) : orV 0 y = y := by simp [orV]
theorem orV_else {x : Int} (y : Int) (h : x ≠ 0) : orV x y = x := by simp [orV, h]
theorem or2 (w : World) (b : Nat) (x y : Int) (h0 : w.cell? ⟨b,0,none⟩ = some (.int .i64 x)) (h1 : w.cell? ⟨b,1,none⟩ = some (.int .i64 y)) :
    Calls Tryz.prog 234 #[.slice (some ⟨b,0,none⟩) 2 2] w fun e w' => e = .returned (.int .i64 (orV x y)) ∧ w = w' := by
  by_cases hx : x = 0
  · subst hx
    rw [orV_zero]
    by_cases hy : y = 0
    · subst hy
      go_enter Tryz.func234, Tryz.ntmps234
      go_wp2
      go_loop [8] (fun i => ∃ k : Nat, k ≤ 2 ∧ i = .int .i64 k) (fun i => 2 - (intOf i).toNat)
      case atStart => exact ⟨0,by omega,rfl⟩
      case round =>
        obtain ⟨k, hk,rfl⟩ := hrel
        by_cases hlt : k < 2
        · have h2 : w.cell? ⟨b,k,none⟩ = some (.int .i64 0) := by
            rcases Nat.lt_or_ge k 1 with c | c
            · have : k = 0 := by omega
              subst this; exact h0
            · have : k = 1 := by omega
              subst this; exact h1
          clear h0 h1
          go_wp2
          go_round
          case rel => exact ⟨k + 1,by omega,by go_num⟩
          case measure => simp [intOf]; omega
        · go_wp2
          go_ret
          exact ⟨rfl,rfl⟩
    · have hyb : (y != 0) = true := by simpa using hy
      go_enter Tryz.func234, Tryz.ntmps234
      go_wp2
      go_loop [8] (fun i => ∃ k : Nat, k ≤ 1 ∧ i = .int .i64 k) (fun i => 2 - (intOf i).toNat)
      case atStart => exact ⟨0,by omega,rfl⟩
      case round =>
        obtain ⟨k, hk,rfl⟩ := hrel
        rcases Nat.lt_or_ge k 1 with c | c
        · obtain rfl : k = 0 := by omega
          go_wp2
          go_round
          case rel => exact ⟨1,by omega,rfl⟩
          case measure => simp [intOf]
        · obtain rfl : k = 1 := by omega
          go_wp2
          go_ret
          exact ⟨rfl,rfl⟩
  · have hxb : (x != 0) = true := by simpa using hx
    rw [orV_else y hx]
    go_enter Tryz.func234, Tryz.ntmps234
    go_wp2
    go_loop [8] (fun i => i = .int .i64 0) (fun i => 0)
    case atStart => rfl
    case round =>
      subst hrel
      go_wp2
      go_ret
      exact ⟨rfl,rfl⟩
def cmpE (k q l r : Int) : Int := orV (cmpV k l) (cmpV q r)
structure CmpW (w w' : World) (k q l r : Int) : Prop where
  c : w'.cell? ⟨w.heap.size,0,none⟩ = some (.int .i64 k) ∧ w'.cell? ⟨w.heap.size,1,none⟩ = some (.int .u64 q) ∧ w'.cell? ⟨w.heap.size + 1,0,none⟩ = some (.int .i64 l) ∧ w'.cell? ⟨w.heap.size + 1,1,none⟩ = some (.int .u64 r)
  b : Below w.heap.size w w'
  s : w.heap.size + 2 ≤ w'.heap.size
theorem CmpW.new (w : World) (k q l r : Int) (t : TypeId) : CmpW w ((w.alloc (.cells #[.int .i64 k, .int .u64 q] t)).alloc (.cells #[.int .i64 l, .int .u64 r] t)) k q l r := by
  refine ⟨⟨?_,?_,?_,?_⟩, ((Below.refl _ _).alloc (Nat.le_refl _) _).alloc (by simp) _,by simp⟩
  · rw [cell_of_blk ((blk_alloc_old _ (by simp)).trans (blk_alloc_new _))]; rfl
  · rw [cell_of_blk ((blk_alloc_old _ (by simp)).trans (blk_alloc_new _))]; rfl
  · have := blk_alloc_new (w := w.alloc (.cells #[.int .i64 k, .int .u64 q] t)) (.cells #[.int .i64 l, .int .u64 r] t)
    simp only [World.size_alloc] at this
    rw [cell_of_blk this]; rfl
  · have := blk_alloc_new (w := w.alloc (.cells #[.int .i64 k, .int .u64 q] t)) (.cells #[.int .i64 l, .int .u64 r] t)
    simp only [World.size_alloc] at this
    rw [cell_of_blk this]; rfl
theorem CmpW.next {w w' w'' : World} {k q l r : Int} (h : CmpW w w' k q l r) (n : Below w'.heap.size w' w'') : CmpW w w'' k q l r := by
  have hs := h.s
  refine ⟨?_, h.b.trans ⟨n.os, n.tape, n.output, n.size,fun i hi => n.block i (by omega)⟩,by have := n.size; omega⟩
  obtain ⟨c0, c1, c2, c3⟩ := h.c
  exact ⟨(n.cell (p := ⟨_,_,none⟩) (by simp; omega)).trans c0, (n.cell (p := ⟨_,_,none⟩) (by simp; omega)).trans c1, (n.cell (p := ⟨_,_,none⟩) (by simp; omega)).trans c2, (n.cell (p := ⟨_,_,none⟩) (by simp; omega)).trans c3⟩
theorem CmpW.alloc {w w' : World} {k q l r : Int} (h : CmpW w w' k q l r) (o : Obj) : CmpW w (w'.alloc o) k q l r := h.next ((Below.refl _ _).alloc (Nat.le_refl _) _)
theorem CmpW.drew {w w' : World} {k q l r : Int} (h : CmpW w w' k q l r) : CmpW w w'.drew k q l r := h.next ⟨rfl,rfl,rfl, Nat.le_refl _,fun _ _ => rfl⟩
theorem compare_calls (w : World) (k q l r : Int) : Calls Tryz.prog 330 #[.agg #[.int .i64 k, .int .u64 q], .agg #[.int .i64 l, .int .u64 r]] w fun e w' => e = .returned (.int .i64 (cmpE k q l r)) ∧ Below w.heap.size w w' := by
  have k0 := CmpW.new w k q l r 104
  go_enter Tryz.func330, Tryz.ntmps330
  go_wp2_with fail
  generalize (w.alloc (.cells #[.int .i64 k, .int .u64 q] 104)).alloc (.cells #[.int .i64 l, .int .u64 r] 104) = w2 at *
  have k1 := k0.drew
  go_region_held3 (fun w' => w'.cell? ⟨w.heap.size,0,none⟩ = some (.int .i64 k) ∧ w'.cell? ⟨w.heap.size,1,none⟩ = some (.int .u64 q) ∧ w'.cell? ⟨w.heap.size + 1,0,none⟩ = some (.int .i64 l) ∧ w'.cell? ⟨w.heap.size + 1,1,none⟩ = some (.int .u64 r))
    (first | exact CmpW.c (by assumption) | exact CmpW.c (CmpW.alloc (by assumption) _))
    (first
      | (go_at_call 335; refine (cmp_i64 _ _ _).mono ?_; rintro e w' ⟨rfl,rfl⟩)
      | (go_at_call 336; refine (cmp_u64 _ _ _).mono ?_; rintro e w' ⟨rfl,rfl⟩)
      | (go_at_call 234; refine (or2 _ _ (cmpV k l) (cmpV q r) (by show (w2.alloc _).cell? _ = _; rw [cell_of_blk (blk_alloc_new _)]; rfl) (by show (w2.alloc _).cell? _ = _; rw [cell_of_blk (blk_alloc_new _)]; rfl)).mono ?_; rintro e w' ⟨rfl,rfl⟩))
  all_goals
    have kb := k0.b
    have ks := kb.size
    go_wp2_with fail
    go_ret
    exact ⟨rfl, (kb.alloc ks _).drew⟩
theorem cmpE_lt (k q l r : Int) : cmpE k q l r < 0 ↔ k < l ∨ (k = l ∧ q < r) := by
  simp only [cmpE, orV, cmpV]
  split <;> split <;> (try split) <;> (try split) <;> omega
theorem cmpE_zero (k q l r : Int) : cmpE k q l r = 0 ↔ k = l ∧ q = r := by
  simp only [cmpE, orV, cmpV]
  split <;> split <;> (try split) <;> (try split) <;> omega
def turnV (k : Int) : Int := bits .xor .i64 (-1) k
theorem turn_calls (w : World) (k : Int) : Calls Tryz.prog 30 #[.int .i64 k] w fun e w' => e = .returned (.int .i64 (turnV k)) ∧ w = w' := by
  go_enter Tryz.func30, Tryz.ntmps30
  go_wp2
  go_ret
  exact ⟨rfl,rfl⟩
theorem count_calls (w : World) (p : Nat) (cs : List Value) (T : TypeId) (s : Int) (hb : w.heap[p]? = some (.cells (.int .i64 s :: cs).toArray T (0,0))) (h0 : 0 ≤ s) (h1 : s ≤ 4611686018427387904) :
    Calls Tryz.prog 347 #[.pointer (some ⟨p,0,none⟩), .int .i64 1] w fun e w' => e = .returned (.tuple #[]) ∧ ∃ s', 0 ≤ s' ∧ s' ≤ 4611686018427387904 ∧ w' = w.setCell ⟨p,0,none⟩ (.int .i64 s') := by
  have c0 : w.cell? ⟨p,0,none⟩ = some (.int .i64 s) := by rw [cell_of_blk hb]; rfl
  have f0 : w.frozen? ⟨p,0,none⟩ = false := frozen_of_blk hb
  by_cases hs : s < 4611686018427387904
  · have hx : ¬ (4611686018427387904 - s < 1) := by omega
    go_enter Tryz.func347, Tryz.ntmps347
    go_wp2
    go_end0
    exact ⟨rfl, s + 1,by omega,by omega,rfl⟩
  · have hx : 4611686018427387904 - s < 1 := by omega
    go_enter Tryz.func347, Tryz.ntmps347
    go_wp2
    go_end0
    exact ⟨rfl, 4611686018427387904,by omega,by omega,rfl⟩
section
variable (w : World) (F : List Nat) (p cap hs : Nat) (E : Ent)
theorem CellsAt.at {w : World} {F : List Nat} {p cap hs : Nat} {E : Ent} (hc : CellsAt w F p cap hs E) {x h q : Nat} {k : Int} (e : E x = some (h, k, q)) :
    ∃ gs, gs ∈ F ∧ w.cell? ⟨p,1,none⟩ = some (.slice (some ⟨gs,0,none⟩) cap cap) ∧ w.cell? ⟨gs, x * 3, none⟩ = some (.int .i64 (h : Int)) ∧ w.cell? ⟨gs, x * 3 + 1, none⟩ = some (.int .i64 k) ∧ w.cell? ⟨gs, x * 3 + 2, none⟩ = some (.int .u64 (q : Int)) := by
  obtain ⟨steps, gs, pn, gn, cn, mb,rfl, hnd, hok, hs0, hs1, hb, ha, hn, hm⟩ := hc
  have hx := hok.lt x (by rw [e]; rfl)
  have d0 := ha.cell hx (j := 0) (by omega)
  have d1 := ha.cell hx (j := 1) (by omega)
  have d2 := ha.cell hx (j := 2) (by omega)
  rw [cellV_at e] at d0 d1 d2
  refine ⟨gs,by simp,by rw [cell_of_blk hb]; rfl,by simpa using d0,by simpa using d1,by simpa using d2⟩
theorem ahead_entries {E : Ent} {a b g h q r : Nat} {k l : Int} (ea : E a = some (g, k, q)) (eb : E b = some (h, l, r)) :
    ahead E a b = (decide (cmpE k q l r < 0) || (decide (cmpE k q l r = 0) && decide (a < b))) := by
  rw [Bool.eq_iff_iff, ahead_iff]
  simp only [Bool.or_eq_true, Bool.and_eq_true, decide_eq_true_eq, cmpE_lt, cmpE_zero]
  constructor
  · rintro ⟨g', k', h', l', e1, e2, c⟩
    rw [ea] at e1; rw [eb] at e2
    cases e1; cases e2
    simp only at c
    omega
  · intro c
    exact ⟨_, _, _, _, ea, eb,by simp only; omega⟩
theorem cells_in_yes (hc : CellsAt w F p cap hs E) (x : Nat) (he : (E x).isSome) :
    Calls Tryz.prog 313 #[.pointer (some ⟨p,0,none⟩), .int .i64 x] w fun e w' => e = .returned (.bool true) ∧ w = w' := by
  have := cells_in w F p cap hs E hc x (hc.ok.lt x he)
  rwa [he] at this
theorem cells_in_no (hc : CellsAt w F p cap hs E) (x : Nat) (hx : x < cap) (he : E x = none) :
    Calls Tryz.prog 313 #[.pointer (some ⟨p,0,none⟩), .int .i64 x] w fun e w' => e = .returned (.bool false) ∧ w = w' := by
  have := cells_in w F p cap hs E hc x hx
  rwa [he] at this
def TwoAt (w : World) (p gs cap a b : Nat) (k l : Int) (q r : Nat) : Prop :=
  w.cell? ⟨p,1,none⟩ = some (.slice (some ⟨gs,0,none⟩) cap cap) ∧ w.cell? ⟨gs, a * 3 + 1, none⟩ = some (.int .i64 k) ∧ w.cell? ⟨gs, a * 3 + 2, none⟩ = some (.int .u64 (q : Int)) ∧ w.cell? ⟨gs, b * 3 + 1, none⟩ = some (.int .i64 l) ∧ w.cell? ⟨gs, b * 3 + 2, none⟩ = some (.int .u64 (r : Int))
theorem TwoAt.next {w w' : World} {p gs cap a b : Nat} {k l : Int} {q r : Nat} (h : TwoAt w p gs cap a b k l q r) (hp : p < w.heap.size) (hg : gs < w.heap.size) (n : Below w.heap.size w w') : TwoAt w' p gs cap a b k l q r :=
  ⟨(n.cell (p := ⟨_,_,none⟩) hp).trans h.1, (n.cell (p := ⟨_,_,none⟩) hg).trans h.2.1, (n.cell (p := ⟨_,_,none⟩) hg).trans h.2.2.1, (n.cell (p := ⟨_,_,none⟩) hg).trans h.2.2.2.1, (n.cell (p := ⟨_,_,none⟩) hg).trans h.2.2.2.2⟩
theorem CellsAt.two {w : World} {F : List Nat} {p cap hs : Nat} {E : Ent} (hc : CellsAt w F p cap hs E) {a b g h q r : Nat} {k l : Int} (ea : E a = some (g, k, q)) (eb : E b = some (h, l, r)) :
    ∃ gs, gs < w.heap.size ∧ p < w.heap.size ∧ TwoAt w p gs cap a b k l q r := by
  have hlt := hc.lt
  obtain ⟨steps, gs, pn, gn, cn, mb,rfl, hnd, hok, hs0, hs1, hblk, harr, hn, hm⟩ := hc
  have hax := hok.lt a (by rw [ea]; rfl)
  have hbx := hok.lt b (by rw [eb]; rfl)
  have d1 := harr.cell hax (j := 1) (by omega)
  have d2 := harr.cell hax (j := 2) (by omega)
  have d3 := harr.cell hbx (j := 1) (by omega)
  have d4 := harr.cell hbx (j := 2) (by omega)
  rw [cellV_at ea] at d1 d2
  rw [cellV_at eb] at d3 d4
  exact ⟨gs, hlt gs (by simp), hlt p (by simp),by rw [cell_of_blk hblk]; rfl,by simpa using d1,by simpa using d2,by simpa using d3,by simpa using d4⟩
theorem cells_ahead (hc : CellsAt w F p cap hs E) (a b : Nat) (ha : (E a).isSome) (hb : (E b).isSome) :
    Calls Tryz.prog 339 #[.pointer (some ⟨p,0,none⟩), .int .i64 a, .int .i64 b] w fun e w' => e = .returned (.bool (ahead E a b)) ∧ CellsAt w' F p cap hs E ∧ Keeps F w w' := by
  obtain ⟨⟨g, k, q⟩, ea⟩ := Option.isSome_iff_exists.1 ha
  obtain ⟨⟨h, l, r⟩, eb⟩ := Option.isSome_iff_exists.1 hb
  have hax := hc.ok.lt a ha
  have hbx := hc.ok.lt b hb
  have hae := ahead_entries ea eb
  obtain ⟨steps, gs, pn, gn, cn, mb,rfl, hnd, hok, hs0, hs1, hblk, harr, hn, hm⟩ := id hc
  have c1 := count_calls w p [_, _, _] _ steps hblk hs0 hs1
  have hpost : ∀ s', 0 ≤ s' → s' ≤ 4611686018427387904 → CellsAt (w.setCell ⟨p,0,none⟩ (.int .i64 s')) [p, gs, pn, gn, mb] p cap hs E ∧ Keeps [p, gs, pn, gn, mb] w (w.setCell ⟨p,0,none⟩ (.int .i64 s')) := by
    intro s' h0 h1
    have hk : Keeps [p] w (w.setCell ⟨p,0,none⟩ (.int .i64 s')) := (Keeps.refl _ _).setCell (.inl (by simp)) _
    have hnd0 := hnd
    simp only [List.nodup_cons, List.mem_cons, List.not_mem_nil, or_false, not_or, List.nodup_nil, and_true, not_false_eq_true] at hnd0
    obtain ⟨⟨n1, n2, n3, n4⟩, _⟩ := hnd0
    refine ⟨⟨s', gs, pn, gn, cn, mb,rfl, hnd, hok, h0, h1, blk_setCell _ hblk, harr.keep hk (by simp; exact fun e => n1 e.symm), hn.keep hk (by simp; exact fun e => n2 e.symm) (by simp; exact fun e => n3 e.symm), hm.keep hk (by simp; exact fun e => n4 e.symm)⟩, hk.mono (by simp)⟩
  go_enter Tryz.func339, Tryz.ntmps339
  have HA := Lib.hid hae
  have HI := Lib.hid (And.intro ha hb)
  have HE := Lib.hid (And.intro ea eb)
  have HP := Lib.hid hpost
  clear ha hb ea eb hblk harr hn hm hnd hok hae hpost hs0 hs1
  go_wp2_with (first
    | (go_at_call 313; refine (cells_in_yes _ _ p cap hs E hc _ (by first | exact HI.out.1 | exact HI.out.2)).mono ?_; rintro e w' ⟨rfl,rfl⟩)
    | (go_at_call 347; refine c1.mono ?_; rintro e w' ⟨rfl, s', h0, h1,rfl⟩)
    )
  obtain ⟨hc1, hk1⟩ := HP.out s' h0 h1
  generalize w.setCell ⟨p,0,none⟩ (.int .i64 s') = w1 at *
  obtain ⟨gs, hg, hp, ht⟩ := hc1.two HE.out.1 HE.out.2
  have hax3 : (a : Int) < (cap : Int) := by omega
  have hbx3 : (b : Int) < (cap : Int) := by omega
  have hlt := hc1.lt
  clear HP HE HI c1 hc
  go_region_held3 (fun w' => w'.cell? ⟨p,1,none⟩ = some (.slice (some ⟨gs,0,none⟩) cap cap) ∧ w'.cell? ⟨gs, a * 3 + 1, none⟩ = some (.int .i64 k) ∧ w'.cell? ⟨gs, a * 3 + 2, none⟩ = some (.int .u64 (q : Int)) ∧ w'.cell? ⟨gs, b * 3 + 1, none⟩ = some (.int .i64 l) ∧ w'.cell? ⟨gs, b * 3 + 2, none⟩ = some (.int .u64 (r : Int)))
    (first | exact ht | exact TwoAt.next (w := w1.drew) ht hp hg (by assumption))
    (first
      | (go_at_call 330; refine (compare_calls _ _ _ _ _).mono ?_; rintro e w' ⟨rfl, hb⟩))
  all_goals
    have hc2 := (CellsAt.below (w := w1.drew) (hc1.keep ⟨rfl,rfl,rfl, Nat.le_refl _,fun _ _ _ => rfl⟩ (S := []) (by simp)) hb)
    have hk2 : Keeps _ w w' := hk1.drew.trans (T := []) (Below.keeps hb (Nat.le_refl _) []) (by simp)
    clear hc1 hk1 hb ht hlt hax3 hbx3
    generalize cmpE k q l r = c at *
    rcases Int.lt_trichotomy c 0 with c0 | c0 | c0
    · have hb0 : decide (c < 0) = true := by simpa using c0
      rw [hb0] at HA
      have HA2 := HA.out
      rw [Bool.true_or] at HA2
      have HX := Lib.hid HA2
      clear HA HA2
      go_wp2_with fail
      go_ret
      exact ⟨by rw [HX.out]; rfl, hc2, hk2⟩
    · subst c0
      by_cases hab : a < b
      · have HA2 := HA.out
        have hab3 : (a : Int) < (b : Int) := by omega
        have HX := Lib.hid (show ahead E a b = true by rw [HA2]; simp [hab])
        clear HA HA2 hab
        go_wp2_with fail
        go_ret
        exact ⟨by rw [HX.out]; rfl, hc2, hk2⟩
      · have HA2 := HA.out
        have hab3 : ¬ (a : Int) < (b : Int) := by omega
        have HX := Lib.hid (show ahead E a b = false by rw [HA2]; simp; omega)
        clear HA HA2 hab
        go_wp2_with fail
        go_ret
        exact ⟨by rw [HX.out]; rfl, hc2, hk2⟩
    · have hb0 : ¬ c < 0 := by omega
      have hb1 : (c == 0) = false := by rw [beq_eq_false_iff_ne]; omega
      have HA2 := HA.out
      have HX := Lib.hid (show ahead E a b = false by rw [HA2]; simp; omega)
      clear HA HA2 c0
      go_wp2_with fail
      go_ret
      exact ⟨by rw [HX.out]; rfl, hc2, hk2⟩
end
section
variable (w : World) (F : List Nat) (p cap hs : Nat) (E : Ent)
theorem CellsAt.drew {w : World} {F : List Nat} {p cap hs : Nat} {E : Ent} (hc : CellsAt w F p cap hs E) : CellsAt w.drew F p cap hs E := hc.keep ⟨rfl,rfl,rfl, Nat.le_refl _,fun _ _ _ => rfl⟩ (S := []) (by simp)
theorem cells_entry (hc : CellsAt w F p cap hs E) (x h q : Nat) (k : Int) (e : E x = some (h, k, q)) :
    Calls Tryz.prog 299 #[.pointer (some ⟨p,0,none⟩), .int .i64 x] w fun e w' => e = .returned (.tuple #[.agg #[.int .i64 k, .int .u64 (q : Int)], .bool true]) ∧ Below w.heap.size w w' := by
  obtain ⟨gs, hgs, c1, d0, d1, d2⟩ := hc.at e
  have hx := hc.ok.lt x (by rw [e]; rfl)
  have hlt := hc.lt gs hgs
  have hpl := hc.lt p hc.mem
  have he : (E x).isSome := by rw [e]; rfl
  have HI := Lib.hid he
  have hc1 := hc.below ((Below.refl _ w).alloc (Nat.le_refl _) (.cells #[.int .i64 0, .int .u64 0] 104))
  have hx3 : (x : Int) < (cap : Int) := by omega
  clear he e
  go_enter Tryz.func299, Tryz.ntmps299
  go_wp2_with (go_at_call 313; refine (cells_in_yes _ _ p cap hs E hc1 _ HI.out).mono ?_; rintro e w' ⟨rfl,rfl⟩)
  refine bodyPost_ret (v := .tuple #[.agg #[.int .i64 k, .int .u64 (q : Int)], .bool true]) (by simp [results, Tryz.results299, go_sem]) rfl ⟨rfl, (Below.refl _ w).alloc (Nat.le_refl _) _⟩
theorem root_self {w : World} {p g cap i : Nat} {L : List Int} {most cnt : Int} (h : Nm.NamesAt w p g cap L most cnt) (h1 : 0 < i) (h2 : i < L.length) (h3 : L.getD i 0 = i) :
    Calls Tryz.prog 315 #[.pointer (some ⟨p,0,none⟩), .int .i64 i] w fun e w' => e = .returned (.tuple #[.int .i64 i, .bool true]) ∧ w = w' := by
  have c0 : w.cell? ⟨p,0,none⟩ = some (.slice (some ⟨g,0,none⟩) L.length cap) := by rw [cell_of_blk h.blk]; rfl
  have c1 := h.cell i h2
  rw [h3] at c1
  clear h3
  go_enter Tryz.func315, Tryz.ntmps315
  go_wp2_with (go_at_call 327; refine (Nm.made_yes _ _ _ _ _ _ _ _ h (by omega) (by omega)).mono ?_; rintro e w' ⟨rfl,rfl⟩)
  go_loop [1] (fun s => s = .int .i64 i) (fun s => 0)
  case atStart => rfl
  case round =>
    subst hrel
    go_wp2
    go_ret2
    exact ⟨rfl,rfl⟩
theorem cells_home (hc : CellsAt w F p cap hs E) (x h : Nat) (hi : isIn E h x) :
    Calls Tryz.prog 302 #[.pointer (some ⟨p,0,none⟩), .int .i64 x] w fun e w' => e = .returned (.tuple #[.int .i64 h, .bool true]) ∧ ∃ n, w' = w.drewN n := by
  obtain ⟨⟨k, q⟩, e⟩ := hi
  obtain ⟨gs, hgs, c1, d0, d1, d2⟩ := hc.at e
  have he : (E x).isSome := by rw [e]; rfl
  have hx := hc.ok.lt x he
  have hh := hc.ok.heap x h _ e
  have HI := Lib.hid he
  have hx3 : (x : Int) < (cap : Int) := by omega
  have c2 : ∃ pn gn cn, w.cell? ⟨p,2,none⟩ = some (.pointer (some ⟨pn,0,none⟩)) ∧ Nm.NamesAt w pn gn cn (idL hs) 65536 hs := by
    obtain ⟨steps, gs, pn, gn, cn, mb,rfl, hnd, hok, hs0, hs1, hb, ha, hn, hm⟩ := hc
    exact ⟨pn, gn, cn,by rw [cell_of_blk hb]; rfl, hn⟩
  obtain ⟨pn, gn, cn, c2, hn⟩ := c2
  have hl := idL_len hs
  clear he e
  go_enter Tryz.func302, Tryz.ntmps302
  go_wp2_with (go_at_call 313; refine (cells_in_yes _ _ p cap hs E hc _ HI.out).mono ?_; rintro e w' ⟨rfl,rfl⟩)
  go_quiet ((go_at_call 315; refine Calls.quiet_of_same ((root_self (i := h) (hn.drewN _) (by omega) (by omega) (idL_at hs hh.2)).mono fun _ _ hh => ⟨hh.1, hh.2.symm⟩)))
  go_wp2
  go_ret2
  exact ⟨rfl, _,rfl⟩
theorem cells_put (hc : CellsAt w F p cap hs E) (h x q : Nat) (k : Int) (h1 : 1 ≤ h) (h2 : h ≤ hs) (hx : x < cap) (he : E x = none) (hk : (Lit.int .i64 k).wf = true) (hq : (Lit.int .u64 (q : Int)).wf = true) :
    Calls Tryz.prog 316 #[.pointer (some ⟨p,0,none⟩), .int .i64 h, .int .i64 x, .agg #[.int .i64 k, .int .u64 (q : Int)]] w fun e w' => e = .returned (.bool true) ∧ CellsAt w' F p cap hs (put E x (some (h, k, q))) ∧ Keeps F w w' := by
  have hc1 := hc.below ((Below.refl _ w).alloc (Nat.le_refl _) (.cells #[.int .i64 k, .int .u64 (q : Int)] 104))
  have hhas := cells_has _ F p cap hs E hc1 h
  rw [decide_eq_true (by omega)] at hhas
  have hthere := cells_there _ F p cap hs E hc1 x hx
  have hin := cells_in_no _ F p cap hs E hc1 x hx he
  have hlt := hc.lt
  obtain ⟨steps, gs, pn, gn, cn, mb,rfl, hnd, hok, hs0, hs1, hb, ha, hn, hm⟩ := id hc
  have c1 : w.cell? ⟨p,1,none⟩ = some (.slice (some ⟨gs,0,none⟩) cap cap) := by rw [cell_of_blk hb]; rfl
  have c3 : w.cell? ⟨p,3,none⟩ = some (.map (some mb)) := by rw [cell_of_blk hb]; rfl
  have f0 := ha.frozen (x * 3)
  have f1 := ha.frozen (x * 3 + 1)
  have f2 := ha.frozen (x * 3 + 2)
  have d0 := ha.cell hx (j := 0) (by omega)
  have d1 := ha.cell hx (j := 1) (by omega)
  have d2 := ha.cell hx (j := 2) (by omega)
  rw [cellV_none he] at d0 d1 d2
  simp only [List.getElem?_cons_zero, List.getElem?_cons_succ, Nat.add_zero] at d0 d1 d2
  have hx3 : (x : Int) < (cap : Int) := by omega
  have hpl := hlt p (by simp)
  have hgl := hlt gs (by simp)
  have hml := hlt mb (by simp)
  have hh6 : h ≤ 65536 := Nat.le_trans h2 hok.bh
  have hcount : count E cap h ≤ 65536 := Nat.le_trans (count_le E cap h) hok.bc
  have hfull : full E cap hs < maxLen := by have := full_le E cap hs; have := hok.bh; unfold maxLen; omega
  have hv := manyF_getD E cap h
  have hK3 : ∀ W3, W3 = ((((w.setCell ⟨gs, x * 3, none⟩ (.int .i64 (h : Int))).setCell ⟨gs, x * 3 + 1, none⟩ (.int .i64 k)).setCell ⟨gs, x * 3 + 2, none⟩ (.int .u64 (q : Int))).alloc (.cells #[.int .i64 k, .int .u64 (q : Int)] 104)).drew →
      W3.cell? ⟨p,3,none⟩ = some (.map (some mb)) ∧ IMap Tryz.prog 3 W3 mb (full E cap hs) (manyF E cap) ∧ Arr W3 448 3 cap gs (cellV (put E x (some (h, k, q)))) ∧ Keeps [gs] w W3 := by
    rintro W3 rfl
    have hk3 : Keeps [gs] w ((((w.setCell ⟨gs, x * 3, none⟩ (.int .i64 (h : Int))).setCell ⟨gs, x * 3 + 1, none⟩ (.int .i64 k)).setCell ⟨gs, x * 3 + 2, none⟩ (.int .u64 (q : Int))).alloc (.cells #[.int .i64 k, .int .u64 (q : Int)] 104)).drew :=
      (((((Keeps.refl _ _).setCell (.inl (by simp)) _).setCell (.inl (by simp)) _).setCell (.inl (by simp)) _).alloc _).drew
    have hnd0 := hnd
    simp only [List.nodup_cons, List.mem_cons, List.not_mem_nil, or_false, not_or, List.nodup_nil, and_true, not_false_eq_true] at hnd0
    obtain ⟨⟨n1, n2, n3, n4⟩, ⟨n5, n6, n7⟩, _⟩ := hnd0
    refine ⟨?_, hm.keep hk3 (by simpa using fun e => n7 e.symm),?_, hk3⟩
    · rw [cell_of_blk (hk3.blk hb (by simpa using n1))]; rfl
    · have h3 := (ha.set3 hx (.int .i64 (h : Int)) (.int .i64 k) (.int .u64 (q : Int))).alloc (.cells #[.int .i64 k, .int .u64 (q : Int)] 104)
      rw [← cellV_put] at h3
      exact h3.keep ⟨rfl,rfl,rfl, Nat.le_refl _,fun _ _ _ => rfl⟩ (S := []) (by simp)
  have hpost : ∀ W3 w', W3.cell? ⟨p,3,none⟩ = some (.map (some mb)) → Arr W3 448 3 cap gs (cellV (put E x (some (h, k, q)))) → Keeps [gs] w W3 →
      IMap Tryz.prog 3 w' mb (if (manyF E cap (h : Int)).isSome then full E cap hs else full E cap hs + 1) (fun z => if z = (h : Int) then some ((count E cap h : Int) + 1) else manyF E cap z) → W3.grownBy w' (some mb) →
      CellsAt w' [p, gs, pn, gn, mb] p cap hs (put E x (some (h, k, q))) ∧ Keeps [p, gs, pn, gn, mb] w w' := by
    intro W3 w' c3' ha3 hk3 hm3 hg3
    have hnd0 := hnd
    simp only [List.nodup_cons, List.mem_cons, List.not_mem_nil, or_false, not_or, List.nodup_nil, and_true, not_false_eq_true] at hnd0
    obtain ⟨⟨n1, n2, n3, n4⟩, ⟨n5, n6, n7⟩, ⟨n8, n9⟩, n10⟩ := hnd0
    have hkm : Keeps [mb] W3 w' := (Keeps.refl _ _).grown hg3 (by simp)
    have hk4 : Keeps [gs, mb] w w' := (hk3.mono (T := [gs, mb]) (by simp)).trans hkm (by simp)
    rw [← manyF_put hx he (k := (k, q)), ← full_put hx he h2 (k := (k, q))] at hm3
    exact ⟨⟨steps, gs, pn, gn, cn, mb,rfl, hnd, hok.put hx h1 h2 hk hq, hs0, hs1, hk4.blk hb (by simp; exact ⟨n1, n4⟩), ha3.keep hkm (by simpa using n7), hn.keep hk4 (by simp; exact ⟨fun e => n5 e.symm, n9⟩) (by simp; exact ⟨fun e => n6 e.symm, n10⟩), hm3⟩, hk4.mono (by simp)⟩
  generalize hN : count E cap h = N at *
  go_enter Tryz.func316, Tryz.ntmps316
  have HK3 := Lib.hid hK3
  have HPOST := Lib.hid hpost
  have HFULL := Lib.hid hfull
  clear hb ha hn hm hnd hok hs0 hs1 hc1 hlt he hK3 hpost hfull hN
  go_wp2_with (first
    | (go_at_call 301; refine hhas.mono ?_; rintro e w' ⟨rfl,rfl⟩)
    | (go_at_call 326; refine hthere.mono ?_; rintro e w' ⟨rfl,rfl⟩)
    | (go_at_call 313; refine hin.mono ?_; rintro e w' ⟨rfl,rfl⟩))
  go_region
  generalize hW3 : ((((w.setCell ⟨gs, x * 3, none⟩ (.int .i64 (h : Int))).setCell ⟨gs, x * 3 + 1, none⟩ (.int .i64 k)).setCell ⟨gs, x * 3 + 2, none⟩ (.int .u64 (q : Int))).alloc (.cells #[.int .i64 k, .int .u64 (q : Int)] 104)).drew = W3
  obtain ⟨e3, hm3, ha3, hk3⟩ := HK3.out W3 hW3.symm
  have HM3 := Lib.hid hm3
  clear hW3 HK3 c1 c3 f0 f1 f2 d0 d1 d2 hm3
  go_wp2_with (first
    | (at_lookup; refine wpList_imap_look rfl _ _ rfl mapTy mb _ _ rfl HM3.out (h : Int) rfl (WalkArith.wf_i64 (by omega)) ?_)
    | (at_mapUpdate; refine wpList_imap_put rfl _ _ _ rfl mapTy mb _ _ rfl HM3.out HFULL.out (h : Int) ((N : Int) + 1) rfl rfl (WalkArith.wf_i64 (by omega)) (WalkArith.wf_i64 (by omega)) ?_; intro w4 hm4 hg4))
  go_ret
  obtain ⟨r1, r2⟩ := HPOST.out W3 w4 e3 ha3 hk3 hm4 hg4
  exact ⟨rfl, r1, r2⟩
theorem cells_drop (hc : CellsAt w F p cap hs E) (x h : Nat) (hi : isIn E h x) :
    Calls Tryz.prog 312 #[.pointer (some ⟨p,0,none⟩), .int .i64 x] w fun e w' => e = .returned (.bool true) ∧ CellsAt w' F p cap hs (put E x none) ∧ Keeps F w w' := by
  have hhome := cells_home w F p cap hs E hc x h hi
  have hlt := hc.lt
  obtain ⟨⟨k, q⟩, he⟩ := id hi
  obtain ⟨steps, gs, pn, gn, cn, mb,rfl, hnd, hok, hs0, hs1, hb, ha, hn, hm⟩ := id hc
  have hx := hok.lt x (by rw [he]; rfl)
  obtain ⟨h1, h2⟩ := hok.heap x h _ he
  have c1 : w.cell? ⟨p,1,none⟩ = some (.slice (some ⟨gs,0,none⟩) cap cap) := by rw [cell_of_blk hb]; rfl
  have f0 := ha.frozen (x * 3)
  have f1 := ha.frozen (x * 3 + 1)
  have f2 := ha.frozen (x * 3 + 2)
  have d0 := ha.cell hx (j := 0) (by omega)
  have d1 := ha.cell hx (j := 1) (by omega)
  have d2 := ha.cell hx (j := 2) (by omega)
  rw [cellV_at he] at d0 d1 d2
  simp only [List.getElem?_cons_zero, List.getElem?_cons_succ, Nat.add_zero] at d0 d1 d2
  have hx3 : (x : Int) < (cap : Int) := by omega
  have hpl := hlt p (by simp)
  have hgl := hlt gs (by simp)
  have hml := hlt mb (by simp)
  have hh6 : h ≤ 65536 := Nat.le_trans h2 hok.bh
  have hcount : count E cap h ≤ 65536 := Nat.le_trans (count_le E cap h) hok.bc
  have hfull : full E cap hs < maxLen := by have := full_le E cap hs; have := hok.bh; unfold maxLen; omega
  have hv := manyF_getD E cap h
  have hpos := count_pos hx he
  have hsome : (manyF E cap (h : Int)).isSome = true := by rw [manyF_some]; simpa using hpos
  have hK3 : ∀ W3 X, X = ((w.setCell ⟨gs, x * 3, none⟩ (.int .i64 0)).setCell ⟨gs, x * 3 + 1, none⟩ (.int .i64 0)).setCell ⟨gs, x * 3 + 2, none⟩ (.int .u64 0) → W3.heap = X.heap → W3.os = X.os → W3.tape = X.tape → W3.output = X.output →
      W3.cell? ⟨p,3,none⟩ = some (.map (some mb)) ∧ IMap Tryz.prog 3 W3 mb (full E cap hs) (manyF E cap) ∧ Arr W3 448 3 cap gs (cellV (put E x none)) ∧ Keeps [gs] w W3 := by
    rintro W3 X hX e1 e2 e3 e4
    have hk0 : Keeps [gs] w X := by
      rw [hX]
      exact (((Keeps.refl _ _).setCell (.inl (by simp)) _).setCell (.inl (by simp)) _).setCell (.inl (by simp)) _
    have hk1 : Keeps [] X W3 := ⟨e2, e3, e4,by rw [e1]; exact Nat.le_refl _,fun b _ _ => by rw [e1]⟩
    have hk3 : Keeps [gs] w W3 := hk0.trans hk1 (by simp)
    have hnd0 := hnd
    simp only [List.nodup_cons, List.mem_cons, List.not_mem_nil, or_false, not_or, List.nodup_nil, and_true, not_false_eq_true] at hnd0
    obtain ⟨⟨n1, n2, n3, n4⟩, ⟨n5, n6, n7⟩, _⟩ := hnd0
    refine ⟨?_, hm.keep hk3 (by simpa using fun e => n7 e.symm),?_, hk3⟩
    · rw [cell_of_blk (hk3.blk hb (by simpa using n1))]; rfl
    · have h3 := ha.set3 hx (.int .i64 0) (.int .i64 0) (.int .u64 0)
      rw [← cellV_drop, ← hX] at h3
      exact h3.keep hk1 (by simp)
  have hpost : ∀ W3 w', Arr W3 448 3 cap gs (cellV (put E x none)) → Keeps [gs] w W3 →
      IMap Tryz.prog 3 w' mb (full (put E x none) cap hs) (manyF (put E x none) cap) → Keeps [mb] W3 w' →
      CellsAt w' [p, gs, pn, gn, mb] p cap hs (put E x none) ∧ Keeps [p, gs, pn, gn, mb] w w' := by
    intro W3 w' ha3 hk3 hm3 hkm
    have hnd0 := hnd
    simp only [List.nodup_cons, List.mem_cons, List.not_mem_nil, or_false, not_or, List.nodup_nil, and_true, not_false_eq_true] at hnd0
    obtain ⟨⟨n1, n2, n3, n4⟩, ⟨n5, n6, n7⟩, ⟨n8, n9⟩, n10⟩ := hnd0
    have hk4 : Keeps [gs, mb] w w' := (hk3.mono (T := [gs, mb]) (by simp)).trans hkm (by simp)
    exact ⟨⟨steps, gs, pn, gn, cn, mb,rfl, hnd, hok.drop, hs0, hs1, hk4.blk hb (by simp; exact ⟨n1, n4⟩), ha3.keep hkm (by simpa using n7), hn.keep hk4 (by simp; exact ⟨fun e => n5 e.symm, n9⟩) (by simp; exact ⟨fun e => n6 e.symm, n10⟩), hm3⟩, hk4.mono (by simp)⟩
  have n1 : ¬ p = gs := by
    have hnd0 := hnd
    simp only [List.nodup_cons, List.mem_cons, List.not_mem_nil, or_false, not_or, List.nodup_nil, and_true, not_false_eq_true] at hnd0
    exact hnd0.1.1
  have c3 : w.cell? ⟨p,3,none⟩ = some (.map (some mb)) := by rw [cell_of_blk hb]; rfl
  have hc3 : ∀ W3 w' : World, W3.grownBy w' (some mb) → W3.cell? ⟨p,3,none⟩ = some (.map (some mb)) → p < W3.heap.size → w'.cell? ⟨p,3,none⟩ = some (.map (some mb)) := by
    intro W3 w' hg hc hp
    have hnd0 := hnd
    simp only [List.nodup_cons, List.mem_cons, List.not_mem_nil, or_false, not_or, List.nodup_nil, and_true, not_false_eq_true] at hnd0
    obtain ⟨⟨n1, n2, n3, n4⟩, _⟩ := hnd0
    have hkm : Keeps [mb] W3 w' := (Keeps.refl _ _).grown hg (by simp)
    exact (World.cell?_of_block (a := ⟨p,3,none⟩) (hkm.block p hp (by simpa using n4))).trans hc
  have hend : ∀ W3 w4 w5 : World, Arr W3 448 3 cap gs (cellV (put E x none)) → Keeps [gs] w W3 → count E cap h = 1 → W3.grownBy w4 (some mb) → w4.grownBy w5 (some mb) →
      IMap Tryz.prog 3 w5 mb (if ((fun z : Int => if z = (h : Int) then some ((count E cap h : Int) - 1) else manyF E cap z) (h : Int)).isSome then (if (manyF E cap (h : Int)).isSome then full E cap hs else full E cap hs + 1) - 1 else (if (manyF E cap (h : Int)).isSome then full E cap hs else full E cap hs + 1)) (fun z => if z = (h : Int) then none else (if z = (h : Int) then some ((count E cap h : Int) - 1) else manyF E cap z)) →
      CellsAt w5 [p, gs, pn, gn, mb] p cap hs (put E x none) ∧ Keeps [p, gs, pn, gn, mb] w w5 := by
    intro W3 w4 w5 ha3 hk3 hone hg4 hg5 hm5
    have k4 : Keeps [mb] W3 w4 := (Keeps.refl _ _).grown hg4 (by simp)
    have k5 : Keeps [mb] w4 w5 := (Keeps.refl _ _).grown hg5 (by simp)
    simp only [if_true, hsome, Option.isSome_some] at hm5
    rw [← full_drop_last hx he h2 hone, ← manyF_drop_last hx he hone] at hm5
    exact hpost W3 w5 ha3 hk3 hm5 (k4.trans k5 (by simp))
  have hend2 : ∀ W3 w4 : World, Arr W3 448 3 cap gs (cellV (put E x none)) → Keeps [gs] w W3 → 1 < count E cap h → W3.grownBy w4 (some mb) →
      IMap Tryz.prog 3 w4 mb (if (manyF E cap (h : Int)).isSome then full E cap hs else full E cap hs + 1) (fun z => if z = (h : Int) then some ((count E cap h : Int) - 1) else manyF E cap z) →
      CellsAt w4 [p, gs, pn, gn, mb] p cap hs (put E x none) ∧ Keeps [p, gs, pn, gn, mb] w w4 := by
    intro W3 w4 ha3 hk3 hmore hg4 hm4
    have k4 : Keeps [mb] W3 w4 := (Keeps.refl _ _).grown hg4 (by simp)
    rw [if_pos hsome, ← full_drop_more hx he hmore (hs := hs), ← manyF_drop_more hx he hmore] at hm4
    exact hpost W3 w4 ha3 hk3 hm4 k4
  go_enter Tryz.func312, Tryz.ntmps312
  generalize hN : count E cap h = N at hend hend2 hv hcount hpos
  have HK3 := Lib.hid hK3
  have HEND := Lib.hid hend
  have HEND2 := Lib.hid hend2
  have HFULL := Lib.hid hfull
  have HC3 := Lib.hid hc3
  have HS := Lib.hid hsome
  have HV := Lib.hid hv
  have HM5 : (if (manyF E cap (h : Int)).isSome then full E cap hs else full E cap hs + 1) < maxLen := by rw [if_pos hsome]; exact hfull
  have HM6 := Lib.hid HM5
  clear hb ha hn hm hnd hok hs0 hs1 hlt he hK3 hpost hend hend2 hfull hc3 hsome hN hv HM5
  go_upto_region 5 with (first
    | (go_at_call 302; refine hhome.mono ?_; rintro e w' ⟨rfl, n,rfl⟩))
  obtain ⟨c4, hm3, ha3, hk3⟩ := HK3.out ((((w.drewN n).setCell ⟨gs, x * 3, none⟩ (.int .i64 0)).setCell ⟨gs, x * 3 + 1, none⟩ (.int .i64 0)).setCell ⟨gs, x * 3 + 2, none⟩ (.int .u64 0)) _ rfl rfl rfl rfl rfl
  generalize (((w.drewN n).setCell ⟨gs, x * 3, none⟩ (.int .i64 0)).setCell ⟨gs, x * 3 + 1, none⟩ (.int .i64 0)).setCell ⟨gs, x * 3 + 2, none⟩ (.int .u64 0) = W3 at *
  have hp3 : p < W3.heap.size := Nat.lt_of_lt_of_le hpl hk3.size
  have HM3 := Lib.hid hm3
  clear HK3 c1 c3 f0 f1 f2 d0 d1 d2 hm3 n1
  go_upto_region 6 with (first
    | (at_lookup; refine wpList_imap_look rfl _ _ rfl mapTy mb _ _ rfl HM3.out (h : Int) rfl (WalkArith.wf_i64 (by omega)) ?_; rw [HV.out])
    | (at_mapUpdate; refine wpList_imap_put rfl _ _ _ rfl mapTy mb _ _ rfl HM3.out HFULL.out (h : Int) ((N : Int) - 1) rfl rfl (WalkArith.wf_i64 (by omega)) (WalkArith.wf_i64 (by omega)) ?_; intro w4 hm4 hg4))
  have e4 := HC3.out _ _ hg4 c4 hp3
  have HM4 := Lib.hid hm4
  have HG4 := Lib.hid hg4
  clear hm4 hg4 c4 hp3
  by_cases hone : N = 1
  · subst hone
    go_upto_region 7 with (first
      | (at_lookup; refine wpList_imap_look rfl _ _ rfl mapTy mb _ _ rfl HM4.out (h : Int) rfl (WalkArith.wf_i64 (by omega)) ?_))
    go_wp2_with (first
      | (at_delete; go_loud (refine wpList_imap_del rfl _ _ rfl mapTy mb _ _ rfl HM4.out (h : Int) rfl (WalkArith.wf_i64 (by omega)) ?_; intro w5 hm5 hg5; have HM5 := Lib.hid hm5; have HG5 := Lib.hid hg5; clear hm5 hg5)))
    go_ret
    exact ⟨rfl, HEND.out W3 w4 w5 ha3 hk3 (by simp) HG4.out HG5.out HM5.out⟩
  · have hne : ((N : Int) - 1 == 0) = false := by rw [beq_eq_false_iff_ne]; omega
    have hmore : 1 < N := by omega
    clear hone
    go_wp2_with (first
      | (at_lookup; refine wpList_imap_look rfl _ _ rfl mapTy mb _ _ rfl HM4.out (h : Int) rfl (WalkArith.wf_i64 (by omega)) ?_))
    go_ret
    exact ⟨rfl, HEND2.out W3 w4 ha3 hk3 hmore HG4.out HM4.out⟩
end
theorem made_fCells (zs : Array Value) (s n : Nat) (hs : zs.size = s) (h0 : 0 < s) : (madeCells zs (n * s)).toList = fCells (fun _ => zs.toList) n := by
  induction n with
  | zero => simp [madeCells, fCells]
  | succ n ih =>
    rw [fCells_succ, ← ih]
    simp only [madeCells, Array.toList_map, Array.toList_range]
    rw [show (n + 1) * s = n * s + s by rw [Nat.succ_mul], List.range_add, List.map_append]
    congr 1
    apply List.ext_getElem (by simp [hs])
    intro j h1 h2
    simp at h1
    have hm : (n * s + j) % s = j := by rw [Nat.mul_comm, Nat.mul_add_mod]; exact Nat.mod_eq_of_lt h1
    simp [hs, hm, h1]
theorem Arr.made {w : World} {T s n g : Nat} {zs : Array Value} (hs : zs.size = s) (h0 : 0 < s) (h : w.ownsRow 0 T s (.slice (some ⟨g,0,none⟩) n n) n (madeCells zs (n * s)).toList) : Arr w T s n g (fun _ => zs.toList) :=
  ⟨by rw [← made_fCells zs s n hs h0]; exact h,fun _ _ => by simpa using hs⟩
theorem Tryz.infoCell : (Tryz.prog.info? 448).map (fun i => (i.zero, i.size, i.bytes)) = some (some (.agg #[.int .i64 0, .int .i64 0, .int .u64 0]), 3,24) := by kernel_rfl
def NewCells (w : World) (n : Nat) (e : Ending) (w' : World) : Prop :=
  ∃ (F : List Nat) (p : Nat), e = .returned (.tuple #[.pointer (some ⟨p,0,none⟩), .int .i64 0]) ∧ CellsAt w' F p n 0 (fun _ => none) ∧ Keeps [] w w' ∧ ∀ b ∈ F, w.heap.size ≤ b
theorem cells_new (w : World) (n : Nat) (hn : n ≤ 65536) : Calls Tryz.prog 87 #[.int .i64 n] w (NewCells w n) := by
  have b1 : decide ((n : Int) < 0) = false := by rw [decide_eq_false_iff_not]; omega
  have b2 : decide (65536 < (n : Int)) = false := by rw [decide_eq_false_iff_not]; omega
  have hmm := @run_makeMap Tryz.prog
  obtain ⟨i0, hi, hz0, hz1, hzb⟩ := info_parts Tryz.infoCell
  go_enter Tryz.func87, Tryz.ntmps87
  go_upto_region 4 with (go_at_call 117; refine (Nm.new_yes _ 65536 (by omega) (by omega)).mono ?_; rintro e w1 ⟨rfl, hn1, hk1, hs1⟩)
  go_wp2_with (at_make; refine wpList_make_full _ rfl _ _ 254 rfl 0 448 i0 (.agg #[.int .i64 0, .int .i64 0, .int .u64 0]) 3 Tryz.underlying254 hi hz0 hz1 .i64 .i64 n n n rfl rfl rfl rfl (by rw [hzb]; omega) (by unfold maxLen; omega) (Nat.zero_le _) ?_; intro w2 hr2 hg2)
  have hk2 : Keeps [] w1 w2 := (Keeps.refl _ _).grown hg2 (fun k h => by cases h)
  have hs2 := hk2.size
  have hg1 : w1.heap.size < w2.heap.size := row_lt hr2
  have ha : Arr w2 448 3 n w1.heap.size (cellV fun _ => none) := Arr.made rfl (by decide) hr2
  have hm : IMap Tryz.prog 3 (w2.alloc (.map #[] 0)) w2.heap.size (full (fun _ => none) n 0) (manyF (fun _ => none) n) := by
    rw [full_none, manyF_none]; exact IMap.made _ _ _
  have hk3 : Keeps [] w2 (w2.alloc (.map #[] 0)) := (Keeps.refl _ _).alloc _
  have hk4 : ∀ o, Keeps [] w2 ((w2.alloc (.map #[] 0)).alloc o) := fun o => hk3.alloc _
  refine bodyPost_ret (results_tmp2 rfl _ _ _) rfl ⟨[w2.heap.size + 1, w1.heap.size, w.heap.size + 1, w.heap.size, w2.heap.size], w2.heap.size + 1,rfl, ⟨0, w1.heap.size, w.heap.size + 1, w.heap.size, 1, w2.heap.size,rfl,?_, ⟨by omega,by omega,by simp,by simp,by simp⟩,by omega,by omega,?_, ha.keep (hk4 _) (by simp), (hn1.keep hk2 (by simp) (by simp)).keep (hk4 _) (by simp) (by simp), hm.keep ((Keeps.refl [] _).alloc _) (by simp)⟩,?_,?_⟩
  · simp; omega
  · have := blk_alloc_new (w := w2.alloc (.map #[] 0)) (.cells #[.int .i64 0, .slice (some ⟨w.heap.size + 2,0,none⟩) n n, .pointer (some ⟨w.heap.size + 1,0,none⟩), .map (some w2.heap.size)] 258 (0,0))
    rw [hs1]
    simpa using this
  · exact (hk1.trans hk2 (by simp)).trans (hk4 _) (by simp)
  · intro b hb
    simp only [List.mem_cons, List.not_mem_nil, or_false] at hb
    omega
section
variable (w : World) (F : List Nat) (p cap hs : Nat) (E : Ent)
theorem idL_snoc (hs : Nat) : idL (hs + 1) = idL hs ++ [((idL hs).length : Int)] := by
  rw [idL_len]
  unfold idL
  rw [List.range_succ (n := hs + 1), List.map_append]
  simp
def MadeCells (e : Ending) (w' : World) : Prop := ∃ F', e = .returned (.int .i64 ((hs + 1 : Nat) : Int)) ∧ CellsAt w' F' p cap (hs + 1) E ∧ Moved F w F' w'
theorem cells_make (hc : CellsAt w F p cap hs E) (hh : hs < 65536) : Calls Tryz.prog 318 #[.pointer (some ⟨p,0,none⟩)] w (MadeCells w F p cap hs E) := by
  have hlt := hc.lt
  obtain ⟨steps, gs, pn, gn, cn, mb,rfl, hnd, hok, hs0, hs1, hb, ha, hn, hm⟩ := hc
  have c2 : w.cell? ⟨p,2,none⟩ = some (.pointer (some ⟨pn,0,none⟩)) := by rw [cell_of_blk hb]; rfl
  have hl := idL_len hs
  have hmk := Nm.make_yes w pn gn cn (idL hs) 65536 hs hn (by omega) (by omega) (by omega) (by omega) (by omega)
  unfold Nm.MadeOne at hmk
  rw [← idL_snoc, hl] at hmk
  have hc0 : count E cap (hs + 1) = 0 := count_zero.2 fun x _ ⟨k, e⟩ => by have := hok.heap x _ k e; omega
  have hfin : ∀ w', (∃ g' cap', Nm.NamesAt w' pn g' cap' (idL (hs + 1)) 65536 ((hs : Int) + 1) ∧ Keeps [pn, gn] w w' ∧ (g' = gn ∨ w.heap.size ≤ g')) → MadeCells w [p, gs, pn, gn, mb] p cap hs E (.returned (.int .i64 ((hs + 1 : Nat) : Int))) w' := by
    rintro w' ⟨g', cap', n', k', f'⟩
    have hnd0 := hnd
    simp only [List.nodup_cons, List.mem_cons, List.not_mem_nil, or_false, not_or, List.nodup_nil, and_true, not_false_eq_true] at hnd0
    obtain ⟨⟨n1, n2, n3, n4⟩, ⟨n5, n6, n7⟩, ⟨n8, n9⟩, n10⟩ := hnd0
    have l1 := hlt p (by simp)
    have l2 := hlt gs (by simp)
    have l3 := hlt pn (by simp)
    have l4 := hlt mb (by simp)
    have hg1 : p ≠ g' ∧ gs ≠ g' ∧ g' ≠ mb := by rcases f' with rfl | f' <;> refine ⟨?_,?_,?_⟩ <;> first | assumption | omega
    have hg2 : pn ≠ g' := by rcases f' with rfl | f'; exact n8; omega
    refine ⟨[p, gs, pn, g', mb],rfl, ⟨steps, gs, pn, g', cap', mb,rfl,?_, ⟨hok.bc,by omega, hok.lt,fun x h k e => by have := hok.heap x h k e; omega, hok.wf⟩, hs0, hs1, k'.blk hb (by simp; exact ⟨n2, n3⟩), ha.keep k' (by simp; exact ⟨n5, n6⟩), n',?_⟩, k'.mono (by simp),?_,?_⟩
    · simp; exact ⟨⟨n1, n2, hg1.1, n4⟩, ⟨n5, hg1.2.1, n7⟩, ⟨hg2, n9⟩, hg1.2.2⟩
    · have hfu : full E cap (hs + 1) = full E cap hs := by rw [manyF_make, hc0]; simp
      rw [hfu]
      exact hm.keep k' (by simp; exact ⟨fun e => n9 e.symm,fun e => n10 e.symm⟩)
    · intro b hb
      simp only [List.mem_cons, List.not_mem_nil, or_false] at hb ⊢
      rcases hb with rfl | rfl | rfl | rfl | rfl
      · simp
      · simp
      · simp
      · rcases f' with rfl | f'
        · simp
        · exact .inr f'
      · simp
    · intro b hb
      have := k'.size
      simp only [List.mem_cons, List.not_mem_nil, or_false] at hb
      rcases hb with rfl | rfl | rfl | rfl | rfl
      · omega
      · omega
      · omega
      · exact row_lt n'.row
      · omega
  have HF := Lib.hid hfin
  clear hfin hb ha hn hm hok hnd hc0 hl hlt hs0 hs1
  go_enter Tryz.func318, Tryz.ntmps318
  go_wp2_with (go_at_call 328; refine hmk.mono ?_; rintro e w1 ⟨rfl, hm1⟩)
  go_ret
  exact HF.out _ hm1
end
end Go.Proofs.YtkdbjelhkfdfjaaGreatDoor


/-
  Contracts that the law rests on. Conditions: none.
-/
import Derived.Test.YtkdbjelhkfdfjaaGreatDoorQs01
import Derived.Test.YtkdbjelhkfdfjaaGreatDoorQs03
import Derived.Test.YtkdbjelhkfdfjaaGreatDoorRows
import Derived.WalkLawsBesides
import Derived.WalkSpells
import Derived.Deep.QuietTactic
import Derived.BigQuiet
import Derived.RegionTactic
import Derived.BigRegion
import Derived.Outline
import Derived.Lib.Hide
import Derived.Deep.LoopGhost
import Derived.Deep.OwnRows
import Derived.OwnWalk
set_option linter.unusedVariables false
set_option maxRecDepth 100000
set_option maxHeartbeats 16000000
namespace Go.Proofs.YtkdbjelhkfdfjaaGreatDoor.Rg
open Go.RowKit
theorem Tryz.infoInt : (Tryz.prog.info? 3).map (fun i => (i.zero, i.size, i.bytes)) = some (some (.int .i64 0), 1,8) := by kernel_rfl
def nCells (L : List Nat) : List Value := L.map fun (n : Nat) => .int .i64 (n : Int)
theorem nCells_at (L : List Nat) (k : Nat) (hk : k < L.length) : (nCells L)[k]? = some (.int .i64 (fn L k : Nat)) := by simp [nCells, fn, List.getD, hk]
theorem nCells_set (L : List Nat) (k x : Nat) : nCells (L.set k x) = (nCells L).set k (.int .i64 (x : Int)) := by simp [nCells, List.map_set]
theorem nCells_append (L M : List Nat) : nCells (L ++ M) = nCells L ++ nCells M := by simp [nCells]
def IR (B : Nat) (w : World) (v : Value) (L : List Nat) : Prop := w.ownsRow B 3 1 v L.length (nCells L)
theorem IR.form {B : Nat} {w : World} {v : Value} {L : List Nat} (h : IR B w v L) : ∃ ao cap, v = .slice ao L.length cap := by
  rcases h.2 with ⟨rfl, h0⟩ | ⟨g, cap, cur,rfl, _⟩
  · exact ⟨none, 0,by rw [h0]⟩
  · exact ⟨_, _,rfl⟩
theorem IR.nil (B : Nat) (w : World) : IR B w (.slice none 0 0) [] := World.ownsRow_nil _ _ _ _
theorem IR.at {B : Nat} {w : World} {ao : Option Addr} {n cap : Nat} {L : List Nat} (h : IR B w (.slice ao n cap) L) (k : Nat) (hk : k < L.length) :
    ∃ g, ao = some ⟨g,0,none⟩ ∧ g < w.heap.size ∧ B ≤ g ∧ w.cell? ⟨g,k,none⟩ = some (.int .i64 (fn L k : Nat)) := by
  rcases h.2 with ⟨h0, h1⟩ | ⟨g, cap', cur, e, hb, hg, _⟩
  · omega
  · cases e
    refine ⟨g,rfl, lt_of_block hg, hb,?_⟩
    rw [World.ownsRow.cellAt h k (by omega)]
    exact nCells_at L k hk
theorem IR.lo {B C : Nat} {w : World} {v : Value} {L : List Nat} (h : IR B w v L) (hc : C ≤ B) : IR C w v L := by
  refine ⟨h.1,?_⟩
  rcases h.2 with h0 | ⟨g, cap, cur, e, hb, r⟩
  · exact .inl h0
  · exact .inr ⟨g, cap, cur, e, Nat.le_trans hc hb, r⟩
theorem IR.up {B C : Nat} {w : World} {v : Value} {L : List Nat} (h : IR B w v L) (hc : ∀ b, v.ownBlock = some b → C ≤ b) : IR C w v L := by
  refine ⟨h.1,?_⟩
  rcases h.2 with h0 | ⟨g, cap, cur,rfl, hb, r⟩
  · exact .inl h0
  · exact .inr ⟨g, cap, cur,rfl, hc g rfl, r⟩
theorem IR.own {B : Nat} {w : World} {v : Value} {L : List Nat} (h : IR B w v L) : ∀ b, v.ownBlock = some b → B ≤ b ∧ b < w.heap.size := by
  intro b hb
  rcases h.2 with ⟨rfl, _⟩ | ⟨g, cap, cur,rfl, h1, hg, r⟩
  · cases hb
  · cases hb; exact ⟨h1, lt_of_block hg⟩
theorem IR.keep {B : Nat} {w w' : World} {F : List Nat} {v : Value} {L : List Nat} (h : IR B w v L) (k : Keeps F w w') (hf : ∀ b ∈ F, b < B) : IR B w' v L := by
  refine ⟨h.1,?_⟩
  rcases h.2 with h0 | ⟨g, cap, cur,rfl, hb, hg, r⟩
  · exact .inl h0
  · exact .inr ⟨g, cap, cur,rfl, hb, k.blk hg (fun e => by have := hf g e; omega), r⟩
theorem IR.below {B : Nat} {w w' : World} {v : Value} {L : List Nat} (h : IR B w v L) (hb : Below w.heap.size w w') : IR B w' v L := by
  refine ⟨h.1,?_⟩
  rcases h.2 with h0 | ⟨g, cap, cur,rfl, h1, hg, r⟩
  · exact .inl h0
  · exact .inr ⟨g, cap, cur,rfl, h1, (hb.block _ (lt_of_block hg)).trans hg, r⟩
theorem IR.alloc {B : Nat} {w : World} {v : Value} {L : List Nat} (h : IR B w v L) (o : Obj) : IR B (w.alloc o) v L := h.below ((Below.refl _ _).alloc (Nat.le_refl _) _)
theorem row_set {w : World} {B e g n cap : Nat} {xs : List Value} (h : w.ownsRow B e 1 (.slice (some ⟨g,0,none⟩) n cap) n xs) (i : Nat) (hi : i < n) (u : Value) :
    (w.setCell ⟨g,i,none⟩ u).ownsRow B e 1 (.slice (some ⟨g,0,none⟩) n cap) n (xs.set i u) := by
  refine ⟨by rw [List.length_set]; exact h.1,?_⟩
  rcases h.2 with ⟨h0, _⟩ | ⟨g', cap', cur, hv, hb, hg, h1, h2, h3, h4⟩
  · cases h0
  · cases hv
    refine .inr ⟨g, cap, cur.setIfInBounds i u,rfl, hb, blk_setCell _ hg, h1, h2,by simpa using h3,?_⟩
    have hl := h.1
    simp only [Nat.mul_one] at h4 hl ⊢
    rw [Array.toList_setIfInBounds, List.take_set, h4]
structure RingAt (w : World) (p gn gp : Nat) (N P : List Nat) : Prop where
  blk : w.heap[p]? = some (.cells #[.slice (some ⟨gn,0,none⟩) N.length N.length, .slice (some ⟨gp,0,none⟩) N.length N.length] 267 (0,0))
  rn : w.ownsRow 0 3 1 (.slice (some ⟨gn,0,none⟩) N.length N.length) N.length (nCells N)
  rp : w.ownsRow 0 3 1 (.slice (some ⟨gp,0,none⟩) N.length N.length) N.length (nCells P)
  ne : gn ≠ p ∧ gp ≠ p ∧ gn ≠ gp
  lp : P.length = N.length
section
variable {w w' : World} {p gn gp : Nat} {N P : List Nat}
theorem RingAt.lt (h : RingAt w p gn gp N P) : p < w.heap.size ∧ gn < w.heap.size ∧ gp < w.heap.size := ⟨lt_of_block h.blk, row_lt h.rn, row_lt h.rp⟩
theorem RingAt.n (h : RingAt w p gn gp N P) (i : Nat) (hi : i < N.length) : w.cell? ⟨gn,i,none⟩ = some (.int .i64 (fn N i : Nat)) ∧ w.frozen? ⟨gn,i,none⟩ = false := by
  constructor
  · rw [World.ownsRow.cellAt h.rn i (by omega)]; exact nCells_at N i hi
  · rcases h.rn.2 with ⟨h0, _⟩ | ⟨g, cap', cur, e, hb, hg, _⟩
    · cases h0
    · cases e; exact frozen_of_blk hg
theorem RingAt.q (h : RingAt w p gn gp N P) (i : Nat) (hi : i < N.length) : w.cell? ⟨gp,i,none⟩ = some (.int .i64 (fn P i : Nat)) ∧ w.frozen? ⟨gp,i,none⟩ = false := by
  have lp := h.lp
  constructor
  · rw [World.ownsRow.cellAt h.rp i (by omega)]; exact nCells_at P i (by omega)
  · rcases h.rp.2 with ⟨h0, _⟩ | ⟨g, cap', cur, e, hb, hg, _⟩
    · cases h0
    · cases e; exact frozen_of_blk hg
theorem RingAt.head (h : RingAt w p gn gp N P) : w.cell? ⟨p,0,none⟩ = some (.slice (some ⟨gn,0,none⟩) N.length N.length) ∧ w.cell? ⟨p,1,none⟩ = some (.slice (some ⟨gp,0,none⟩) N.length N.length) := by
  constructor
  · rw [cell_of_blk h.blk]; rfl
  · rw [cell_of_blk h.blk]; rfl
theorem RingAt.keep {F : List Nat} (h : RingAt w p gn gp N P) (k : Keeps F w w') (h1 : p ∉ F) (h2 : gn ∉ F) (h3 : gp ∉ F) : RingAt w' p gn gp N P :=
  ⟨k.blk h.blk h1, k.row h.rn h2, k.row h.rp h3, h.ne, h.lp⟩
end
theorem has_yes (w : World) (p gn gp : Nat) (N P : List Nat) (h : RingAt w p gn gp N P) (x : Nat) (hx : x < N.length) :
    Calls Tryz.prog 397 #[.pointer (some ⟨p,0,none⟩), .int .i64 x] w fun e w' => e = .returned (.bool true) ∧ w = w' := by
  obtain ⟨c0, _⟩ := h.head
  have hx0 : decide ((0 : Int) ≤ (x : Int)) = true := by rw [decide_eq_true_iff]; omega
  go_enter Tryz.func397, Tryz.ntmps397
  go_wp2
  go_ret
  exact ⟨rfl,rfl⟩
theorem has_no (w : World) (p gn gp : Nat) (N P : List Nat) (h : RingAt w p gn gp N P) (x : Int) (hx : x < 0 ∨ (N.length : Int) ≤ x) :
    Calls Tryz.prog 397 #[.pointer (some ⟨p,0,none⟩), .int .i64 x] w fun e w' => e = .returned (.bool false) ∧ w = w' := by
  obtain ⟨c0, _⟩ := h.head
  by_cases h0 : x < 0
  · have hx0 : decide ((0 : Int) ≤ x) = false := by rw [decide_eq_false_iff_not]; omega
    clear hx h0
    go_enter Tryz.func397, Tryz.ntmps397
    go_wp2
    go_ret
    exact ⟨rfl,rfl⟩
  · have hx0 : decide ((0 : Int) ≤ x) = true := by rw [decide_eq_true_iff]; omega
    have hx1 : decide (x < (N.length : Int)) = false := by rw [decide_eq_false_iff_not]; omega
    clear hx h0
    go_enter Tryz.func397, Tryz.ntmps397
    go_wp2
    go_ret
    exact ⟨rfl,rfl⟩
theorem row_one (w : World) (x : Nat) : IR w.heap.size (w.alloc (.cells #[.int .i64 (x : Int)] 3)) (.slice (some ⟨w.heap.size,0,none⟩) 1 1) [x] := by
  refine ⟨by simp [nCells], .inr ⟨w.heap.size, 1, #[.int .i64 (x : Int)],rfl, Nat.le_refl _, blk_alloc_new _, Nat.le_refl _,by unfold maxLen; omega,by simp,by simp [nCells]⟩⟩
theorem IR.pushed {B : Nat} {w : World} {L : List Nat} {x g cap : Nat} (h : w.ownsRow 0 3 1 (.slice (some ⟨g,0,none⟩) (L.length + 1) cap) (L.length + 1) (nCells L ++ [.int .i64 (x : Int)])) (hg : B ≤ g) :
    IR B w (.slice (some ⟨g,0,none⟩) (L.length + 1) cap) (L ++ [x]) := by
  have h2 : IR 0 w (.slice (some ⟨g,0,none⟩) (L.length + 1) cap) (L ++ [x]) := by
    unfold IR
    rw [nCells_append]
    simpa [nCells] using h
  exact h2.up (fun b hb => by simp [Value.ownBlock] at hb; omega)
theorem all_yes (w : World) (p gn gp : Nat) (N P : List Nat) (h : RingAt w p gn gp N P) (hN : N.length < 70000) (x : Nat) (hx : x < N.length) (r : List Nat) (hp : Path (fn N) x r x) (hxr : x ∉ r) (hb : ∀ y ∈ r, y < N.length) (hr : r.length < 70000) :
    Calls Tryz.prog 391 #[.pointer (some ⟨p,0,none⟩), .int .i64 x] w fun e w' => ∃ v, e = .returned v ∧ IR w.heap.size w' v (x :: r) ∧ Below w.heap.size w w' := by
  go_enter Tryz.func391, Tryz.ntmps391
  obtain ⟨c0, _⟩ := h.head
  obtain ⟨c1, _⟩ := h.n x hx
  obtain ⟨lt0, lt1, lt2⟩ := h.lt
  have hp0 := hp.at 0 (Nat.zero_le _)
  have HP0 := Lib.hid hp0
  have hrow := row_one w x
  have hbel : Below w.heap.size w (w.alloc (.cells #[.int .i64 (x : Int)] 3)) := (Below.refl _ _).alloc (Nat.le_refl _) _
  clear hp0
  go_wp2_with (go_at_call 397; refine (has_yes w p gn gp N P h x hx).mono ?_; rintro e w' ⟨rfl,rfl⟩)
  go_loopg [5,6] (r.length + 1) (fun m out y wr => ∃ (k : Nat) (ao : Option Addr) (ca : Nat), k ≤ r.length ∧ m + k = r.length + 1 ∧ y = .int .i64 ((r ++ [x]).getD k 0 : Nat) ∧ out = .slice ao (k + 1) ca ∧ IR w.heap.size wr out (x :: r.take k) ∧ Below w.heap.size w wr)
  case atStart =>
    refine ⟨0, _, _, Nat.zero_le _,by omega,?_,rfl, hrow, hbel⟩
    have := HP0.out
    simp only [List.getD_cons_zero] at this
    rw [this]
  case round =>
    clear hrow hbel HP0 c1
    obtain ⟨k, ao, ca, hk, hgk,rfl,rfl, hrow, hbel⟩ := hrel
    have HG := Lib.hid hgk
    clear hgk
    have hsz := hbel.size
    have c2 : wr.cell? ⟨p,0,none⟩ = some (.slice (some ⟨gn,0,none⟩) N.length N.length) := (hbel.cell (p := ⟨p,0,none⟩) lt0).trans c0
    by_cases hlt : k < r.length
    · have hy : (r ++ [x]).getD k 0 = r.getD k 0 := by simp [List.getD, List.getElem?_append_left hlt]
      have hmem : r.getD k 0 ∈ r := by simp [List.getD, hlt]
      have hyn := hb _ hmem
      have hyx : r.getD k 0 ≠ x := fun e => hxr (e ▸ hmem)
      have hnx := hp.at (k + 1) (by omega)
      rw [List.getD_cons_succ] at hnx
      have htk : r.take (k + 1) = r.take k ++ [r.getD k 0] := by rw [List.take_succ_eq_append_getElem hlt]; simp [List.getD, hlt]
      have hlk : (r.take k).length = k := by simp; omega
      rw [hy]
      have c3 : wr.cell? ⟨gn, r.getD k 0, none⟩ = some (.int .i64 (fn N (r.getD k 0) : Nat)) := (hbel.cell (p := ⟨gn, r.getD k 0, none⟩) lt1).trans (h.n _ hyn).1
      have HT := Lib.hid htk
      have HX := Lib.hid hnx
      clear hy hmem htk hnx
      generalize r.getD k 0 = y at *
      have hyb : ((y : Int) != (x : Int)) = true := by rw [bne_iff_ne]; omega
      clear hyx
      have h0row : wr.ownsRow 0 3 1 (.slice ao (k + 1) ca) (k + 1) (nCells (x :: r.take k)) := by
        have h1 := hrow.lo (Nat.zero_le _)
        unfold IR at h1
        rwa [show (x :: r.take k).length = k + 1 by rw [List.length_cons, hlk]] at h1
      go_wp2_with (at_builtin; refine wpList_push _ 3 (.int .i64 y) (0,0) rfl (.tmp 30) (.tmp 32) 28 rfl (.int .i64 0) 8 Tryz.underlying28 Tryz.infoInt rfl rfl _ (k + 1) (nCells (x :: r.take k)) (by simp [Act.eval]) h0row (by simp [Act.eval]) (by unfold maxLen; omega) (by omega) ?_)
      intro g' cap' w4 hr4 hk4 hf4
      have hg' : w.heap.size ≤ g' := by
        rcases hf4 with h1 | h1
        · exact (hrow.own g' h1).1
        · omega
      have hr5 : IR w.heap.size w4 (.slice (some ⟨g',0,none⟩) (k + 1 + 1) cap') (x :: r.take (k + 1)) := by
        rw [HT.out, ← List.cons_append]
        have hl2 : (x :: r.take k).length = k + 1 := by simp [hlk]
        have := IR.pushed (B := w.heap.size) (L := x :: r.take k) (x := y) (by rw [hl2]; exact hr4) hg'
        rw [hl2] at this
        exact this
      have hbel5 := hbel.trans (hk4.below hsz (fun b hb => (hrow.own b (by simpa using hb)).1))
      have c4 : w4.cell? ⟨p,0,none⟩ = some (.slice (some ⟨gn,0,none⟩) N.length N.length) := (hbel5.cell (p := ⟨p,0,none⟩) lt0).trans c0
      have c5 : w4.cell? ⟨gn,y,none⟩ = some (.int .i64 (fn N y : Nat)) := (hbel5.cell (p := ⟨gn,y,none⟩) lt1).trans (h.n _ hyn).1
      clear hr4 hk4 hf4 hrow h0row hbel c2 c3 hlk
      go_wp2_with fail
      go_roundg (gk - 1)
      case measure => have := HG.out; omega
      case rel => exact ⟨k + 1, _, _,by omega,by have := HG.out; omega,by rw [← HX.out],rfl, hr5, hbel5⟩
    · obtain rfl : k = r.length := by omega
      have hy : (r ++ [x]).getD r.length 0 = x := by simp [List.getD]
      rw [hy]
      have hyb : ((x : Int) != (x : Int)) = false := by simp
      rw [List.take_length] at hrow
      go_wp2
      go_ret
      exact ⟨_,rfl, hrow, hbel⟩
def placeZ (l : List Nat) (x : Int) : Int := match l.findIdx? (isI x) with | some i => i | none => -1
theorem find_take {L : List Nat} {k : Nat} {q : Nat → Bool} (h : (L.take k).findIdx? q = none) (hk : k < L.length) :
    (q (fn L k) = true → L.findIdx? q = some k) ∧ (q (fn L k) = false → (L.take (k + 1)).findIdx? q = none) := by
  have hs : L.take (k + 1) = L.take k ++ [fn L k] := by rw [List.take_succ_eq_append_getElem hk]; simp [fn, List.getD, hk]
  have hl : (L.take k).length = k := by simp; omega
  constructor
  · intro hq
    have h1 : (L.take (k + 1)).findIdx? q = some k := by
      rw [hs, List.findIdx?_append, h]
      simp [hq, hl]
    have hL : L.findIdx? q = (L.take (k + 1) ++ L.drop (k + 1)).findIdx? q := by rw [List.take_append_drop]
    rw [hL, List.findIdx?_append, h1]
    rfl
  · intro hq
    rw [hs, List.findIdx?_append, h]
    simp [hq]
theorem index_calls (w : World) (B : Nat) (v : Value) (L : List Nat) (h : IR B w v L) (hl : L.length < 70000) (x : Int) :
    Calls Tryz.prog 355 #[v, .int .i64 x] w fun e w' => e = .returned (.int .i64 (placeZ L x)) ∧ w = w' := by
  obtain ⟨ao, ca,rfl⟩ := h.form
  go_enter Tryz.func355, Tryz.ntmps355
  go_wp2
  go_loop [8] (fun u => ∃ k : Nat, k ≤ L.length ∧ u = .int .i64 k ∧ (L.take k).findIdx? (isI x) = none) (fun u => L.length - (intOf u).toNat)
  case atStart => exact ⟨0,by omega,rfl,by simp⟩
  case round =>
    obtain ⟨k, hk,rfl, hno⟩ := hrel
    by_cases hlt : k < L.length
    · obtain ⟨g,rfl, _, _, c0⟩ := h.at k hlt
      obtain ⟨h1, h2⟩ := find_take hno hlt
      have H1 := Lib.hid h1
      have H2 := Lib.hid h2
      clear h1 h2 hno
      generalize hy : fn L k = y at *
      clear hy
      cases hq : isI x y with
      | true =>
        have hqb : (x == (y : Int)) = true := by simp only [isI, beq_iff_eq] at hq ⊢; exact hq.symm
        have hf := H1.out hq
        have HF := Lib.hid hf
        clear hf hq
        go_wp2
        go_ret
        exact ⟨by simp only [placeZ, HF.out]; rfl,rfl⟩
      | false =>
        have hqb : (x == (y : Int)) = false := by simp only [isI, beq_eq_false_iff_ne] at hq ⊢; exact fun e => hq e.symm
        have hf := H2.out hq
        have HF := Lib.hid hf
        clear hf hq
        go_wp2
        go_round
        case rel => exact ⟨k + 1,by omega,by go_num, HF.out⟩
        case measure => simp [intOf]; omega
    · obtain rfl : k = L.length := by omega
      rw [List.take_length] at hno
      have HF := Lib.hid hno
      clear hno
      go_wp2
      go_ret
      exact ⟨by simp only [placeZ, HF.out]; rfl,rfl⟩
theorem placeZ_any (L : List Nat) (x : Int) : decide ((0 : Int) ≤ placeZ L x) = L.any (isI x) := by
  unfold placeZ
  cases hf : L.findIdx? (isI x) with
  | none =>
    rw [List.findIdx?_eq_none_iff] at hf
    have : L.any (isI x) = false := by rw [List.any_eq_false]; intro y hy; simp [hf y hy]
    rw [this]; rfl
  | some i =>
    have hs : (L.findIdx? (isI x)).isSome := by rw [hf]; rfl
    rw [List.findIdx?_isSome] at hs
    rw [hs]
    simp
theorem contains_calls (w : World) (B : Nat) (v : Value) (L : List Nat) (h : IR B w v L) (hl : L.length < 70000) (x : Int) :
    Calls Tryz.prog 366 #[v, .int .i64 x] w fun e w' => e = .returned (.bool (L.any (isI x))) ∧ w = w' := by
  have hp := placeZ_any L x
  have HP := Lib.hid hp
  clear hp
  go_enter Tryz.func366, Tryz.ntmps366
  go_wp2_with (go_at_call 355; refine (index_calls w B v L h hl x).mono ?_; rintro e w' ⟨rfl,rfl⟩)
  go_ret
  exact ⟨by rw [HP.out]; rfl,rfl⟩
theorem RingAt.splice {w : World} {p gn gp : Nat} {N P : List Nat} (h : RingAt w p gn gp N P) {x y : Nat} (hx : x < N.length) (hy : y < N.length) (ha : fn N x < N.length) (hb : fn N y < N.length) :
    RingAt ((((w.setCell ⟨gn,x,none⟩ (.int .i64 (fn N y : Nat))).setCell ⟨gn,y,none⟩ (.int .i64 (fn N x : Nat))).setCell ⟨gp, fn N y, none⟩ (.int .i64 (x : Nat))).setCell ⟨gp, fn N x, none⟩ (.int .i64 (y : Nat))) p gn gp (nextS N x y) (prevS N P x y) ∧
    Keeps [gn, gp] w ((((w.setCell ⟨gn,x,none⟩ (.int .i64 (fn N y : Nat))).setCell ⟨gn,y,none⟩ (.int .i64 (fn N x : Nat))).setCell ⟨gp, fn N y, none⟩ (.int .i64 (x : Nat))).setCell ⟨gp, fn N x, none⟩ (.int .i64 (y : Nat))) := by
  obtain ⟨n1, n2, n3⟩ := h.ne
  have hk : Keeps [gn, gp] w ((((w.setCell ⟨gn,x,none⟩ (.int .i64 (fn N y : Nat))).setCell ⟨gn,y,none⟩ (.int .i64 (fn N x : Nat))).setCell ⟨gp, fn N y, none⟩ (.int .i64 (x : Nat))).setCell ⟨gp, fn N x, none⟩ (.int .i64 (y : Nat))) :=
    ((((Keeps.refl _ _).setCell (.inl (by simp)) _).setCell (.inl (by simp)) _).setCell (.inl (by simp)) _).setCell (.inl (by simp)) _
  have hl : (nextS N x y).length = N.length := by simp [nextS]
  refine ⟨⟨?_,?_,?_, h.ne,by simp [prevS, hl, h.lp]⟩, hk⟩
  · rw [hl]; exact hk.blk h.blk (by simp [Ne.symm n1, Ne.symm n2])
  · rw [hl, nextS, nCells_set, nCells_set]
    have r1 := row_set (row_set h.rn x hx (.int .i64 (fn N y : Nat))) y hy (.int .i64 (fn N x : Nat))
    have k2 : Keeps [gp] ((w.setCell ⟨gn,x,none⟩ (.int .i64 (fn N y : Nat))).setCell ⟨gn,y,none⟩ (.int .i64 (fn N x : Nat))) ((((w.setCell ⟨gn,x,none⟩ (.int .i64 (fn N y : Nat))).setCell ⟨gn,y,none⟩ (.int .i64 (fn N x : Nat))).setCell ⟨gp, fn N y, none⟩ (.int .i64 (x : Nat))).setCell ⟨gp, fn N x, none⟩ (.int .i64 (y : Nat))) :=
      ((Keeps.refl _ _).setCell (.inl (by simp)) _).setCell (.inl (by simp)) _
    exact k2.row r1 (by simpa using n3)
  · rw [hl, prevS, nCells_set, nCells_set]
    have k1 : Keeps [gn] w ((w.setCell ⟨gn,x,none⟩ (.int .i64 (fn N y : Nat))).setCell ⟨gn,y,none⟩ (.int .i64 (fn N x : Nat))) := ((Keeps.refl _ _).setCell (.inl (by simp)) _).setCell (.inl (by simp)) _
    exact row_set (row_set (k1.row h.rp (by simpa using Ne.symm n3)) (fn N y) hb _) (fn N x) ha _
theorem RingAt.like {w w' : World} {p gn gp : Nat} {N P : List Nat} (h : RingAt w p gn gp N P) (e : w'.heap = w.heap) : RingAt w' p gn gp N P :=
  ⟨by rw [e]; exact h.blk, by
    refine ⟨h.rn.1,?_⟩
    rw [e]; exact h.rn.2, by
    refine ⟨h.rp.1,?_⟩
    rw [e]; exact h.rp.2, h.ne, h.lp⟩
theorem _root_.Go.Proofs.YtkdbjelhkfdfjaaGreatDoor.Keeps.like {F : List Nat} {a b c : World} (h : Keeps F a b) (e : c.heap = b.heap) (e1 : c.os = b.os) (e2 : c.tape = b.tape) (e3 : c.output = b.output) : Keeps F a c :=
  ⟨e1.trans h.os, e2.trans h.tape, e3.trans h.output,by rw [e]; exact h.size,by rw [e]; exact h.block⟩
def Left (w : World) (p gn gp : Nat) (N P : List Nat) (w' : World) : Prop := RingAt w' p gn gp N P ∧ Keeps [gn, gp] w w'
theorem splice_yes (w : World) (p gn gp : Nat) (N P : List Nat) (h : RingAt w p gn gp N P) (hN : N.length < 70000) (x y : Nat) (hx : x < N.length) (hy : y < N.length) (ha : fn N x < N.length) (hb : fn N y < N.length) (hne : x ≠ y → fn N x ≠ fn N y) :
    Calls Tryz.prog 396 #[.pointer (some ⟨p,0,none⟩), .int .i64 x, .int .i64 y] w fun e w' => e = .returned (.bool true) ∧ Left w p gn gp (nextS N x y) (prevS N P x y) w' := by
  obtain ⟨c0, c1⟩ := h.head
  obtain ⟨n1, n2, n3⟩ := h.ne
  obtain ⟨d0, f0⟩ := h.n x hx
  obtain ⟨d1, f1⟩ := h.n y hy
  obtain ⟨d2, f2⟩ := h.q (fn N x) ha
  obtain ⟨d3, f3⟩ := h.q (fn N y) hb
  have hfin := h.splice hx hy ha hb
  go_enter Tryz.func396, Tryz.ntmps396
  go_wp2_with fail
  refine (has_yes w p gn gp N P h x hx).mono ?_
  rintro e w' ⟨rfl,rfl⟩
  go_wp2_with fail
  refine (has_yes w p gn gp N P h y hy).mono ?_
  rintro e w' ⟨rfl,rfl⟩
  go_wp2_with fail
  go_quiet (fail)
  go_wp2_with fail
  by_cases hxy : x = y
  · subst hxy
    go_region
    go_wp2_with fail
    go_region
    go_wp2
    go_ret
    exact ⟨rfl, hfin.1.like rfl, hfin.2.like rfl rfl rfl rfl⟩
  · have hab := hne hxy
    go_region
    go_wp2_with fail
    go_region
    go_wp2
    go_ret
    exact ⟨rfl, hfin.1.like rfl, hfin.2.like rfl rfl rfl rfl⟩
theorem part_yes (w : World) (p gn gp : Nat) (N P : List Nat) (h : RingAt w p gn gp N P) (hN : N.length < 70000) (x : Nat) (hx : x < N.length) (hy : fn P x < N.length) (ha : fn N x < N.length) (hb : fn N (fn P x) < N.length) (hne : x ≠ fn P x → fn N x ≠ fn N (fn P x)) :
    Calls Tryz.prog 390 #[.pointer (some ⟨p,0,none⟩), .int .i64 x] w fun e w' => e = .returned (.bool true) ∧ Left w p gn gp (nextS N x (fn P x)) (prevS N P x (fn P x)) w' := by
  obtain ⟨_, c1⟩ := h.head
  obtain ⟨d0, _⟩ := h.q x hx
  go_enter Tryz.func390, Tryz.ntmps390
  go_wp2_with fail
  refine (has_yes w p gn gp N P h x hx).mono ?_
  rintro e w' ⟨rfl,rfl⟩
  go_wp2_with fail
  refine (splice_yes w p gn gp N P h hN x (fn P x) hx hy ha hb hne).mono ?_
  rintro e w' ⟨rfl, hl⟩
  go_wp2
  go_ret
  exact ⟨rfl, hl⟩
def laid (n i : Nat) : List Nat := (List.range n).map fun j => if j < i then j else 0
theorem laid_len (n i : Nat) : (laid n i).length = n := by simp [laid]
theorem laid_zero (n : Nat) : laid n 0 = List.replicate n 0 := by
  apply List.ext_getElem (by simp [laid])
  intro j h1 h2
  simp [laid]
theorem laid_all (n : Nat) : laid n n = List.range n := by
  apply List.ext_getElem (by simp [laid])
  intro j h1 h2
  simp at h2
  simp [laid, h2]
theorem laid_set (n i : Nat) : (laid n i).set i i = laid n (i + 1) := by
  apply List.ext_getElem (by simp [laid])
  intro j h1 h2
  rw [List.getElem_set]
  simp only [laid, List.getElem_map, List.getElem_range]
  by_cases e : i = j
  · subst e; simp
  · have : (j < i + 1) = (j < i) := by rw [eq_iff_iff]; omega
    simp only [if_neg e, this]
theorem made_row (w : World) (n : Nat) (hn : n ≤ 65536) : (w.alloc (.cells (madeCells #[.int .i64 0] n) 3)).ownsRow 0 3 1 (.slice (some ⟨w.heap.size,0,none⟩) n n) n (nCells (List.replicate n 0)) := by
  refine ⟨by simp [nCells], .inr ⟨w.heap.size, n, madeCells #[.int .i64 0] n,rfl, Nat.zero_le _, blk_alloc_new _, Nat.le_refl _,by unfold maxLen; omega,by simp [size_madeCells],?_⟩⟩
  apply List.ext_getElem (by simp [nCells, size_madeCells])
  intro j h1 h2
  simp [madeCells, nCells, Nat.mod_one]
theorem init_at (w : World) (n : Nat) (hn : n ≤ 65536) (a b : Nat) (hab : a = w.heap.size ∧ b = w.heap.size + 1 ∨ a = w.heap.size + 1 ∧ b = w.heap.size) :
    RingAt (((w.alloc (.cells (madeCells #[.int .i64 0] n) 3)).alloc (.cells (madeCells #[.int .i64 0] n) 3)).alloc (.cells #[.slice (some ⟨a,0,none⟩) n n, .slice (some ⟨b,0,none⟩) n n] 267)).drew (w.heap.size + 1 + 1) a b (laid n 0) (laid n 0) := by
  have r1 := made_row w n hn
  have r2 := made_row (w.alloc (.cells (madeCells #[.int .i64 0] n) 3)) n hn
  have s1 := (r1.alloc (.cells (madeCells #[.int .i64 0] n) 3)).alloc (.cells #[.slice (some ⟨a,0,none⟩) n n, .slice (some ⟨b,0,none⟩) n n] 267)
  have s2 := r2.alloc (.cells #[.slice (some ⟨a,0,none⟩) n n, .slice (some ⟨b,0,none⟩) n n] 267)
  have s2 : (((w.alloc (.cells (madeCells #[.int .i64 0] n) 3)).alloc (.cells (madeCells #[.int .i64 0] n) 3)).alloc (.cells #[.slice (some ⟨a,0,none⟩) n n, .slice (some ⟨b,0,none⟩) n n] 267)).ownsRow 0 3 1 (.slice (some ⟨w.heap.size + 1,0,none⟩) n n) n (nCells (List.replicate n 0)) := by simpa using s2
  rw [← laid_zero] at s1 s2
  have hl := laid_len n 0
  have hb := blk_alloc_new (w := ((w.alloc (.cells (madeCells #[.int .i64 0] n) 3)).alloc (.cells (madeCells #[.int .i64 0] n) 3))) (.cells #[.slice (some ⟨a,0,none⟩) n n, .slice (some ⟨b,0,none⟩) n n] 267)
  have h0 : RingAt (((w.alloc (.cells (madeCells #[.int .i64 0] n) 3)).alloc (.cells (madeCells #[.int .i64 0] n) 3)).alloc (.cells #[.slice (some ⟨a,0,none⟩) n n, .slice (some ⟨b,0,none⟩) n n] 267)) (w.heap.size + 1 + 1) a b (laid n 0) (laid n 0) := by
    rcases hab with ⟨rfl,rfl⟩ | ⟨rfl,rfl⟩
    · exact ⟨by rw [hl]; simpa using hb,by rw [hl]; exact s1,by rw [hl]; exact s2,by omega,rfl⟩
    · exact ⟨by rw [hl]; simpa using hb,by rw [hl]; exact s2,by rw [hl]; exact s1,by omega,rfl⟩
  exact h0.like rfl
theorem init_below (w : World) (o1 o2 o3 : Obj) : Below w.heap.size w (((w.alloc o1).alloc o2).alloc o3).drew :=
  ((((Below.refl _ w).alloc (Nat.le_refl _) _).alloc (by simp) _).alloc (by simp; omega) _).drew
def NewDone (w : World) (n : Nat) (e : Ending) (w' : World) : Prop :=
  ∃ p gn gp, e = .returned (.tuple #[.pointer (some ⟨p,0,none⟩), .int .i64 0]) ∧ RingAt w' p gn gp (List.range n) (List.range n) ∧ Below w.heap.size w w' ∧ w.heap.size ≤ p ∧ w.heap.size ≤ gn ∧ w.heap.size ≤ gp
theorem new_yes (w : World) (n : Nat) (hn : n ≤ 65536) :
    Calls Tryz.prog 90 #[.int .i64 n] w (NewDone w n) := by
  have hm := fun (u : World) => run_make_row' (P := Tryz.prog) 28 3 (.int .i64 0) 8 Tryz.underlying28 Tryz.infoInt rfl .i64 .i64 n (by omega) (by omega) u
  have b1 : decide ((n : Int) < 0) = false := by rw [decide_eq_false_iff_not]; omega
  have b2 : decide (65536 < (n : Int)) = false := by rw [decide_eq_false_iff_not]; omega
  go_enter Tryz.func90, Tryz.ntmps90
  go_wp2_with fail
  go_region
  all_goals
    go_wp2_with fail
    go_loopg [19] (n + 1) (fun m s wr => ∃ i gn gp : Nat, i ≤ n ∧ m + i = n + 1 ∧ s = .int .i64 i ∧ RingAt wr (w.heap.size + 1 + 1) gn gp (laid n i) (laid n i) ∧ Below w.heap.size w wr ∧ w.heap.size ≤ gn ∧ w.heap.size ≤ gp)
    case atStart => first
      | exact ⟨0, _, _,by omega,by omega,rfl, init_at w n hn w.heap.size (w.heap.size + 1) (.inl ⟨rfl,rfl⟩), init_below _ _ _ _,by omega,by omega⟩
      | exact ⟨0, _, _,by omega,by omega,rfl, init_at w n hn (w.heap.size + 1) w.heap.size (.inr ⟨rfl,rfl⟩), init_below _ _ _ _,by omega,by omega⟩
    case round =>
      clear hm
      obtain ⟨i, gn, gp, hi, hgk,rfl, hr, hbel, b3, b4⟩ := hrel
      have HG := Lib.hid hgk
      clear hgk
      have hl := laid_len n i
      by_cases hlt : i < n
      · obtain ⟨c0, c1⟩ := hr.head
        obtain ⟨d0, f0⟩ := hr.n i (by omega)
        obtain ⟨d1, f1⟩ := hr.q i (by omega)
        obtain ⟨n1, n2, n3⟩ := hr.ne
        rw [hl] at c0 c1
        have r1 := row_set hr.rn i (by omega) (.int .i64 (i : Int))
        have r2 := row_set hr.rp i (by omega) (.int .i64 (i : Int))
        rw [← nCells_set, laid_set] at r1 r2
        have hfin : RingAt ((wr.setCell ⟨gn,i,none⟩ (.int .i64 (i : Int))).setCell ⟨gp,i,none⟩ (.int .i64 (i : Int))) (w.heap.size + 1 + 1) gn gp (laid n (i + 1)) (laid n (i + 1)) := by
          have k1 : Keeps [gn] wr (wr.setCell ⟨gn,i,none⟩ (.int .i64 (i : Int))) := (Keeps.refl _ _).setCell (.inl (by simp)) _
          have k2 : Keeps [gp] (wr.setCell ⟨gn,i,none⟩ (.int .i64 (i : Int))) ((wr.setCell ⟨gn,i,none⟩ (.int .i64 (i : Int))).setCell ⟨gp,i,none⟩ (.int .i64 (i : Int))) := (Keeps.refl _ _).setCell (.inl (by simp)) _
          have l2 := laid_len n (i + 1)
          refine ⟨?_,?_,?_, hr.ne,rfl⟩
          · rw [l2]
            have := hr.blk
            rw [hl] at this
            exact k2.blk (k1.blk this (by simpa using Ne.symm n1)) (by simpa using Ne.symm n2)
          · rw [l2]
            rw [hl] at r1
            exact k2.row r1 (by simpa using n3)
          · rw [l2]
            have := row_set (k1.row hr.rp (by simpa using Ne.symm n3)) i (by omega) (.int .i64 (i : Int))
            rw [← nCells_set, laid_set, hl] at this
            exact this
        have hb9 : Below w.heap.size w ((wr.setCell ⟨gn,i,none⟩ (.int .i64 (i : Int))).setCell ⟨gp,i,none⟩ (.int .i64 (i : Int))) := (hbel.setCell b3 _).setCell b4 _
        clear r1 r2 hr hbel
        go_wp2_with fail
        go_region
        go_wp2_with fail
        go_roundg (gk - 1)
        case measure => have := HG.out; omega
        case rel => exact ⟨i + 1, gn, gp,by omega,by have := HG.out; omega,by go_num, hfin.like rfl, hb9.trans ⟨rfl,rfl,rfl, Nat.le_refl _,fun _ _ => rfl⟩, b3, b4⟩
      · obtain rfl : i = n := by omega
        rw [laid_all] at hr
        go_wp2
        go_ret2
        exact ⟨_, gn, gp,rfl, hr, hbel,by omega, b3, b4⟩
theorem new_no (w : World) (n : Int) (h : n < 0 ∨ 65536 < n) :
    Calls Tryz.prog 90 #[.int .i64 n] w fun e w' => e = .returned (.tuple #[.pointer none, .int .i64 31]) ∧ w = w' := by
  by_cases h1 : n < 0
  · clear h
    go_enter Tryz.func90, Tryz.ntmps90
    go_wp2
    go_ret2
    exact ⟨rfl,rfl⟩
  · have h2 : 65536 < n := by omega
    clear h
    go_enter Tryz.func90, Tryz.ntmps90
    go_wp2
    go_ret2
    exact ⟨rfl,rfl⟩
end Go.Proofs.YtkdbjelhkfdfjaaGreatDoor.Rg


/-
  Contracts that the law rests on. Conditions: none.
-/
import Derived.Test.YtkdbjelhkfdfjaaGreatDoorQs06
import Derived.Test.YtkdbjelhkfdfjaaGreatDoorQs07
import Derived.Test.YtkdbjelhkfdfjaaGreatDoorQs08
set_option linter.unusedVariables false
set_option maxRecDepth 100000
set_option maxHeartbeats 16000000
namespace Go.Proofs.YtkdbjelhkfdfjaaGreatDoor
open Go.RowKit
structure RowRaw (w : World) (p d : Nat) (ao : Option Addr) (cap mb : Nat) (Lm : List Nat) (c : Nat) (f : Int → Option Int) : Prop where
  blk : w.heap[p]? = some (.cells #[.int .i64 (d : Int), .slice ao Lm.length cap, .map (some mb)] 260 (0,0))
  row : Rg.IR 0 w (.slice ao Lm.length cap) Lm
  map : IMap Tryz.prog 3 w mb c f
  ne : p ≠ mb
  na : ∀ x, ao = some x → x.block ≠ p ∧ x.block ≠ mb
def rfp (p mb : Nat) (ao : Option Addr) : List Nat := p :: mb :: ao.toList.map (·.block)
section
variable {w w' : World} {p d cap mb c : Nat} {ao : Option Addr} {Lm S : List Nat} {f : Int → Option Int}
theorem ir_keep {w w' : World} {S : List Nat} {ao : Option Addr} {n cap : Nat} {L : List Nat} (h : Rg.IR 0 w (.slice ao n cap) L) (k : Keeps S w w') (hs : ∀ x, ao = some x → x.block ∉ S) : Rg.IR 0 w' (.slice ao n cap) L := by
  refine ⟨h.1,?_⟩
  rcases h.2 with h0 | ⟨g, cap', cur, e, hb, hg, r⟩
  · exact .inl h0
  · cases e
    exact .inr ⟨g, cap, cur,rfl, hb, k.blk hg (hs _ rfl), r⟩
theorem RowRaw.keep (h : RowRaw w p d ao cap mb Lm c f) (k : Keeps S w w') (hS : ∀ b ∈ rfp p mb ao, b ∉ S) : RowRaw w' p d ao cap mb Lm c f :=
  ⟨k.blk h.blk (hS p (by simp [rfp])), ir_keep h.row k (fun x e => hS _ (by simp [rfp, e])), h.map.keep k (hS mb (by simp [rfp])), h.ne, h.na⟩
theorem RowRaw.lt (h : RowRaw w p d ao cap mb Lm c f) : ∀ b ∈ rfp p mb ao, b < w.heap.size := by
  intro b hb
  simp only [rfp, List.mem_cons, List.mem_map, Option.mem_toList] at hb
  rcases hb with rfl | rfl | ⟨x, e,rfl⟩
  · exact lt_of_block h.blk
  · exact h.map.lt
  · rcases h.row.2 with ⟨h0, _⟩ | ⟨g, cap', cur, e', hb, hg, r⟩
    · simp only [Value.slice.injEq] at h0
      rw [h0.1] at e; cases e
    · cases e'; cases e; exact lt_of_block hg
theorem RowRaw.c0 (h : RowRaw w p d ao cap mb Lm c f) : w.cell? ⟨p,0,none⟩ = some (.int .i64 (d : Int)) := by rw [cell_of_blk h.blk]; rfl
theorem RowRaw.c1 (h : RowRaw w p d ao cap mb Lm c f) : w.cell? ⟨p,1,none⟩ = some (.slice ao Lm.length cap) := by rw [cell_of_blk h.blk]; rfl
theorem RowRaw.c2 (h : RowRaw w p d ao cap mb Lm c f) : w.cell? ⟨p,2,none⟩ = some (.map (some mb)) := by rw [cell_of_blk h.blk]; rfl
theorem RowRaw.at (h : RowRaw w p d ao cap mb Lm c f) {i : Nat} (hi : i < Lm.length) : ∃ g, ao = some ⟨g,0,none⟩ ∧ g ≠ p ∧ g ≠ mb ∧ g < w.heap.size ∧ w.cell? ⟨g,i,none⟩ = some (.int .i64 (Rg.fn Lm i : Nat)) ∧ w.frozen? ⟨g,i,none⟩ = false := by
  obtain ⟨g, e, hlt, _, hc⟩ := h.row.at i hi
  subst e
  obtain ⟨n1, n2⟩ := h.na _ rfl
  refine ⟨g,rfl, n1, n2, hlt, hc,?_⟩
  rcases h.row.2 with ⟨h0, _⟩ | ⟨g', cap', cur, e', hb, hg, r⟩
  · cases h0
  · cases e'; exact frozen_of_blk hg
end
section
variable (w : World) (p d : Nat) (ao : Option Addr) (cap mb : Nat) (Lm : List Nat) (c : Nat) (f : Int → Option Int)
def RowSet (i x : Nat) (e : Ending) (w' : World) : Prop :=
  e = .returned (.tuple #[]) ∧ RowRaw w' p d ao cap mb (Lm.set i x) (if (f (x : Int)).isSome then c else c + 1) (fun z => if z = (x : Int) then some (i : Int) else f z) ∧ Keeps (rfp p mb ao) w w'
theorem rw_set (h : RowRaw w p d ao cap mb Lm c f) (i x : Nat) (hi : i < Lm.length) (hl : Lm.length ≤ 65536) (hx : x ≤ 65536) (hc : c < maxLen) :
    Calls Tryz.prog 332 #[.pointer (some ⟨p,0,none⟩), .int .i64 i, .int .i64 x] w (RowSet w p d ao cap mb Lm c f i x) := by
  have c1 := h.c1
  have c2 := h.c2
  obtain ⟨g,rfl, n1, n2, hgl, d0, f0⟩ := h.at hi
  have k1 : Keeps [g] w (w.setCell ⟨g,i,none⟩ (.int .i64 (x : Int))) := (Keeps.refl _ _).setCell (.inl (by simp)) _
  have hm : IMap Tryz.prog 3 (w.setCell ⟨g,i,none⟩ (.int .i64 (x : Int))) mb c f := h.map.keep k1 (by simpa using n2.symm)
  have hpost : ∀ w', IMap Tryz.prog 3 w' mb (if (f (x : Int)).isSome then c else c + 1) (fun z => if z = (x : Int) then some (i : Int) else f z) → (w.setCell ⟨g,i,none⟩ (.int .i64 (x : Int))).grownBy w' (some mb) →
      RowRaw w' p d (some ⟨g,0,none⟩) cap mb (Lm.set i x) (if (f (x : Int)).isSome then c else c + 1) (fun z => if z = (x : Int) then some (i : Int) else f z) ∧ Keeps (rfp p mb (some ⟨g,0,none⟩)) w w' := by
    intro w' hm' hg
    have k2 : Keeps [mb] (w.setCell ⟨g,i,none⟩ (.int .i64 (x : Int))) w' := (Keeps.refl _ _).grown hg (by simp)
    have k3 : Keeps [g, mb] w w' := (k1.mono (T := [g, mb]) (by simp)).trans k2 (by simp)
    refine ⟨⟨?_,?_, hm', h.ne, h.na⟩, k3.mono (by simp [rfp])⟩
    · rw [List.length_set]; exact k3.blk h.blk (by simp; exact ⟨fun e => n1 e.symm, h.ne⟩)
    · rw [List.length_set]
      have r1 := Rg.row_set h.row i hi (.int .i64 (x : Int))
      have r2 : Rg.IR 0 (w.setCell ⟨g,i,none⟩ (.int .i64 (x : Int))) (.slice (some ⟨g,0,none⟩) Lm.length cap) (Lm.set i x) := by
        unfold Rg.IR
        rw [List.length_set, Rg.nCells_set]
        exact r1
      exact ir_keep r2 k2 (by rintro y e; cases e; simpa using n2)
  have hi3 : (i : Int) < (Lm.length : Int) := by omega
  have HM := Lib.hid hm
  have HP := Lib.hid hpost
  have HC := Lib.hid hc
  clear h hm hpost k1 hc
  go_enter Tryz.func332, Tryz.ntmps332
  go_wp2_with (first
    | (at_mapUpdate; refine wpList_imap_put rfl _ _ _ rfl mapTy mb _ _ rfl HM.out HC.out (x : Int) (i : Int) rfl rfl (WalkArith.wf_i64 (by omega)) (WalkArith.wf_i64 (by omega)) ?_; intro w4 hm4 hg4))
  go_end0
  obtain ⟨r1, r2⟩ := HP.out _ hm4 hg4
  exact ⟨rfl, r1, r2⟩
theorem rw_at (h : RowRaw w p d ao cap mb Lm c f) (h0 : 0 < Lm.length) :
    Calls Tryz.prog 322 #[.pointer (some ⟨p,0,none⟩), .int .i64 0] w fun e w' => e = .returned (.tuple #[.int .i64 (Rg.fn Lm 0 : Nat), .bool true]) ∧ w = w' := by
  have c1 := h.c1
  obtain ⟨g,rfl, n1, n2, hgl, d0, f0⟩ := h.at h0
  clear h
  generalize Lm.length = n at *
  go_enter Tryz.func322, Tryz.ntmps322
  go_wp2
  go_ret2
  exact ⟨rfl,rfl⟩
theorem rw_at_no (h : RowRaw w p d ao cap mb Lm c f) (h0 : Lm.length = 0) :
    Calls Tryz.prog 322 #[.pointer (some ⟨p,0,none⟩), .int .i64 0] w fun e w' => e = .returned (.tuple #[.int .i64 0, .bool false]) ∧ w = w' := by
  have c1 := h.c1
  rw [h0] at c1
  clear h
  go_enter Tryz.func322, Tryz.ntmps322
  go_wp2
  go_ret2
  exact ⟨rfl,rfl⟩
end
theorem fine_yes (w : World) (d : Nat) (h1 : 2 ≤ d) (h2 : d ≤ 16) : Calls Tryz.prog 118 #[.int .i64 d] w fun e w' => e = .returned (.bool true) ∧ w = w' := by
  have b1 : (2 : Int) ≤ (d : Int) := by omega
  have b2 : decide ((d : Int) ≤ 16) = true := by rw [decide_eq_true_iff]; omega
  go_enter Tryz.func118, Tryz.ntmps118
  go_wp2
  go_ret
  exact ⟨rfl,rfl⟩
theorem par_int (d i : Nat) (hi : 1 ≤ i) : ((par d i : Nat) : Int) = ((i : Int) - 1) / (d : Int) := by
  unfold par
  have : ((i - 1 : Nat) : Int) = (i : Int) - 1 := by omega
  rw [Int.natCast_ediv, this]
theorem parent_yes (w : World) (d i : Nat) (h1 : 2 ≤ d) (h2 : d ≤ 16) (hi : 1 ≤ i) (hl : i ≤ 65536) : Calls Tryz.prog 331 #[.int .i64 d, .int .i64 i] w fun e w' => e = .returned (.tuple #[.int .i64 (par d i : Nat), .bool true]) ∧ w = w' := by
  have hp := Lib.hid (par_int d i hi)
  have b1 : (1 : Int) ≤ (i : Int) := by omega
  have b2 : decide ((i : Int) < 1) = false := by rw [decide_eq_false_iff_not]; omega
  have b3 : ¬ (d : Int) = 0 := by omega
  have b4 : (0 : Int) ≤ (i : Int) - 1 := by omega
  have b5 : (0 : Int) < (d : Int) := by omega
  go_enter Tryz.func331, Tryz.ntmps331
  go_wp2_with (go_at_call 118; refine (fine_yes _ d h1 h2).mono ?_; rintro e w' ⟨rfl,rfl⟩)
  go_ret2
  exact ⟨by rw [hp.out]; rfl,rfl⟩
theorem parent_no (w : World) (d : Nat) (h1 : 2 ≤ d) (h2 : d ≤ 16) : Calls Tryz.prog 331 #[.int .i64 d, .int .i64 0] w fun e w' => e = .returned (.tuple #[.int .i64 0, .bool false]) ∧ w = w' := by
  go_enter Tryz.func331, Tryz.ntmps331
  go_wp2_with (go_at_call 118; refine (fine_yes _ d h1 h2).mono ?_; rintro e w' ⟨rfl,rfl⟩)
  go_ret2
  exact ⟨rfl,rfl⟩
theorem child_calls (w : World) (d i k : Nat) (h1 : 2 ≤ d) (h2 : d ≤ 16) (hi : i ≤ 65536) (hk : 1 ≤ k) (hk2 : k ≤ d) : Calls Tryz.prog 337 #[.int .i64 d, .int .i64 i, .int .i64 k] w fun e w' => e = .returned (.tuple #[.int .i64 (d * i + k : Nat), .bool true]) ∧ w = w' := by
  have hmul : d * i ≤ 1048576 := by
    have : d * i ≤ 16 * 65536 := Nat.mul_le_mul h2 hi
    omega
  have e1 : ((d * i + k : Nat) : Int) = (d : Int) * (i : Int) + (k : Int) := by push_cast; rfl
  have e2 : (0 : Int) ≤ (d : Int) * (i : Int) := by have : ((d * i : Nat) : Int) = (d : Int) * (i : Int) := by push_cast; rfl
                                                    omega
  have e3 : (d : Int) * (i : Int) ≤ 1048576 := by have : ((d * i : Nat) : Int) = (d : Int) * (i : Int) := by push_cast; rfl
                                                  omega
  have b2 : decide ((i : Int) < 0) = false := by rw [decide_eq_false_iff_not]; omega
  have b3 : decide (1099511627776 < (i : Int)) = false := by rw [decide_eq_false_iff_not]; omega
  have b4 : decide ((k : Int) < 1) = false := by rw [decide_eq_false_iff_not]; omega
  have b5 : decide ((d : Int) < (k : Int)) = false := by rw [decide_eq_false_iff_not]; omega
  have b6 : decide (d < k) = false := by rw [decide_eq_false_iff_not]; omega
  have E1 := Lib.hid e1
  clear e1 hmul
  go_enter Tryz.func337, Tryz.ntmps337
  go_wp2_with (go_at_call 118; refine (fine_yes _ d h1 h2).mono ?_; rintro e w' ⟨rfl,rfl⟩)
  go_ret2
  exact ⟨by rw [E1.out]; rfl,rfl⟩
structure OrdAt (w : World) (pn pc : Nat) (Fc : List Nat) (cap hs : Nat) (E : Ent) : Prop where
  c0 : w.cell? ⟨pn,0,none⟩ = some (.pointer (some ⟨pc,0,none⟩))
  lt : pn < w.heap.size
  nf : pn ∉ Fc
  ce : CellsAt w Fc pc cap hs E
section
variable {w w' : World} {pn pc cap hs : Nat} {Fc S : List Nat} {E : Ent}
theorem OrdAt.keep (h : OrdAt w pn pc Fc cap hs E) (k : Keeps S w w') (hS : ∀ b ∈ pn :: Fc, b ∉ S) : OrdAt w' pn pc Fc cap hs E :=
  ⟨(World.cell?_of_block (a := ⟨pn,0,none⟩) (k.block pn h.lt (hS pn (by simp)))).trans h.c0, Nat.lt_of_lt_of_le h.lt k.size, h.nf, h.ce.keep k fun b hb => hS b (by simp [hb])⟩
theorem OrdAt.cells (h : OrdAt w pn pc Fc cap hs E) (c : CellsAt w' Fc pc cap hs E) (k : Keeps Fc w w') : OrdAt w' pn pc Fc cap hs E :=
  ⟨(World.cell?_of_block (a := ⟨pn,0,none⟩) (k.block pn h.lt h.nf)).trans h.c0, Nat.lt_of_lt_of_le h.lt k.size, h.nf, c⟩
end
def RowHole (w : World) (p d : Nat) (ao : Option Addr) (cap mb n : Nat) (v : Nat → Nat) (i : Nat) (o : Option Int) : Prop :=
  ∃ (Lm : List Nat) (c : Nat), RowRaw w p d ao cap mb Lm c (holeF v n i o) ∧ Lm.length = n ∧ (∀ j, j < n → j ≠ i → Rg.fn Lm j = v j) ∧ c + 1 = n + (if o.isSome then 1 else 0)
def RowFull (w : World) (p d : Nat) (ao : Option Addr) (cap mb n : Nat) (v : Nat → Nat) : Prop :=
  ∃ Lm : List Nat, RowRaw w p d ao cap mb Lm n (posF v n) ∧ Lm.length = n ∧ ∀ j, j < n → Rg.fn Lm j = v j
theorem fn_set_same {L : List Nat} {i x : Nat} (h : i < L.length) : Rg.fn (L.set i x) i = x := by simp [Rg.fn, List.getD, h]
theorem fn_set_other {L : List Nat} {i j x : Nat} (h : j ≠ i) : Rg.fn (L.set i x) j = Rg.fn L j := by
  simp [Rg.fn, List.getD, show i ≠ j from fun e => h e.symm]
section
variable {w w' : World} {p d cap mb n i q : Nat} {ao : Option Addr} {v : Nat → Nat} {o : Option Int} {S : List Nat}
theorem RowHole.keep (h : RowHole w p d ao cap mb n v i o) (k : Keeps S w w') (hS : ∀ b ∈ rfp p mb ao, b ∉ S) : RowHole w' p d ao cap mb n v i o := by
  obtain ⟨Lm, c, r, x⟩ := h
  exact ⟨Lm, c, r.keep k hS, x⟩
theorem RowFull.keep (h : RowFull w p d ao cap mb n v) (k : Keeps S w w') (hS : ∀ b ∈ rfp p mb ao, b ∉ S) : RowFull w' p d ao cap mb n v := by
  obtain ⟨Lm, r, x⟩ := h
  exact ⟨Lm, r.keep k hS, x⟩
theorem RowHole.lt (h : RowHole w p d ao cap mb n v i o) : ∀ b ∈ rfp p mb ao, b < w.heap.size := by obtain ⟨Lm, c, r, x⟩ := h; exact r.lt
theorem RowFull.lt (h : RowFull w p d ao cap mb n v) : ∀ b ∈ rfp p mb ao, b < w.heap.size := by obtain ⟨Lm, r, x⟩ := h; exact r.lt
theorem RowFull.hole (h : RowFull w p d ao cap mb n v) (hv : Inj v n) (hi : i < n) : RowHole w p d ao cap mb n v i (some (i : Int)) := by
  obtain ⟨Lm, r, h1, h2⟩ := h
  refine ⟨Lm, n,?_, h1,fun j hj _ => h2 j hj,by simp⟩
  rw [hole_full hv hi]; exact r
theorem rh_close (h : RowHole w p d ao cap mb n v i o) (hv : Inj v n) (hi : i < n) (hn : n ≤ 65536) (hx : v i ≤ 65536) :
    Calls Tryz.prog 332 #[.pointer (some ⟨p,0,none⟩), .int .i64 i, .int .i64 (v i : Nat)] w fun e w' => e = .returned (.tuple #[]) ∧ RowFull w' p d ao cap mb n v ∧ Keeps (rfp p mb ao) w w' := by
  obtain ⟨Lm, c, r, h1, h2, h3⟩ := h
  refine (rw_set w p d ao cap mb Lm c _ r i (v i) (by omega) (by omega) hx (by unfold maxLen; split at h3 <;> omega)).mono ?_
  rintro e w' ⟨rfl, r', k⟩
  refine ⟨rfl, ⟨Lm.set i (v i),?_,by rw [List.length_set]; exact h1,fun j hj => ?_⟩, k⟩
  · rw [hole_close hv hi] at r'
    have : (if (holeF v n i o (v i : Int)).isSome then c else c + 1) = n := by
      simp only [holeF, if_true]
      split <;> simp_all <;> omega
    rw [this] at r'
    exact r'
  · by_cases e : j = i
    · subst e; exact fn_set_same (by omega)
    · rw [fn_set_other e]; exact h2 j hj e
theorem rh_move (h : RowHole w p d ao cap mb n v i o) (hv : Inj v n) (hi : i < n) (hq : q < n) (hne : i ≠ q) (hn : n ≤ 65536) (hx : v q ≤ 65536) :
    Calls Tryz.prog 332 #[.pointer (some ⟨p,0,none⟩), .int .i64 i, .int .i64 (v q : Nat)] w fun e w' => e = .returned (.tuple #[]) ∧ RowHole w' p d ao cap mb n (sw v i q) q o ∧ Keeps (rfp p mb ao) w w' := by
  obtain ⟨Lm, c, r, h1, h2, h3⟩ := h
  refine (rw_set w p d ao cap mb Lm c _ r i (v q) (by omega) (by omega) hx (by unfold maxLen; split at h3 <;> omega)).mono ?_
  rintro e w' ⟨rfl, r', k⟩
  refine ⟨rfl, ⟨Lm.set i (v q), c,?_,by rw [List.length_set]; exact h1,fun j hj hjq => ?_, h3⟩, k⟩
  · rw [hole_move hv hi hq hne] at r'
    have : (if (holeF v n i o (v q : Int)).isSome then c else c + 1) = c := by
      have hvq : ¬ ((v q : Nat) : Int) = (v i : Int) := fun e => hne (hv i q hi hq (by omega))
      simp only [holeF, if_neg hvq, posF_at hv hq]
      simp
    rw [this] at r'
    exact r'
  · by_cases e : j = i
    · subst e; rw [sw_left]; exact fn_set_same (by omega)
    · rw [fn_set_other e, sw_other _ _ _ _ e hjq]; exact h2 j hj e
theorem RowHole.at (h : RowHole w p d ao cap mb n v i o) (hq : q < n) (hne : q ≠ i) : ∃ g, ao = some ⟨g,0,none⟩ ∧ g ∈ rfp p mb ao ∧ w.cell? ⟨p,1,none⟩ = some (.slice (some ⟨g,0,none⟩) n cap) ∧ w.cell? ⟨g,q,none⟩ = some (.int .i64 (v q : Nat)) := by
  obtain ⟨Lm, c, r, h1, h2, h3⟩ := h
  obtain ⟨g, e, n1, n2, hlt, hc, hf⟩ := r.at (i := q) (by omega)
  have c1 := r.c1
  subst e
  rw [h1] at c1
  rw [h2 q hq hne] at hc
  exact ⟨g,rfl,by simp [rfp], c1, hc⟩
theorem RowHole.c0 (h : RowHole w p d ao cap mb n v i o) : w.cell? ⟨p,0,none⟩ = some (.int .i64 (d : Int)) := by
  obtain ⟨Lm, c, r, h1, h2, h3⟩ := h
  exact r.c0
theorem RowHole.c1 (h : RowHole w p d ao cap mb n v i o) : w.cell? ⟨p,1,none⟩ = some (.slice ao n cap) := by
  obtain ⟨Lm, c, r, h1, h2, h3⟩ := h
  have := r.c1
  rwa [h1] at this
end
def topsV (top : Nat → Option Nat) (n : Nat) : List Value := (List.range n).map fun i => .int .i64 (oZ (top i))
theorem topsV_set (top : Nat → Option Nat) (n h : Nat) (o : Option Nat) : (topsV top n).set h (.int .i64 (oZ o)) = topsV (upd top h o) n := by
  apply List.ext_getElem (by simp [topsV])
  intro i h1 h2
  simp only [topsV, List.getElem_set, List.getElem_map, List.getElem_range]
  by_cases c : h = i
  · subst c; simp [upd_same]
  · simp [c, upd_other top o (fun e => c e.symm)]
theorem topsV_snoc (top : Nat → Option Nat) (n : Nat) (e : top n = none) : topsV top (n + 1) = topsV top n ++ [.int .i64 (-1)] := by
  simp [topsV, List.range_succ, e, oZ]
structure TopRow (w : World) (g n c : Nat) (top : Nat → Option Nat) : Prop where
  row : w.ownsRow 0 3 1 (.slice (some ⟨g,0,none⟩) n c) n (topsV top n)
  zero : top 0 = none
section
variable {w w' : World} {g n c : Nat} {top : Nat → Option Nat} {S : List Nat}
theorem TopRow.keep (h : TopRow w g n c top) (k : Keeps S w w') (hg : g ∉ S) : TopRow w' g n c top := ⟨k.row h.row hg, h.zero⟩
theorem TopRow.lt (h : TopRow w g n c top) : g < w.heap.size := row_lt h.row
theorem TopRow.at (h : TopRow w g n c top) {i : Nat} (hi : i < n) : w.cell? ⟨g,i,none⟩ = some (.int .i64 (oZ (top i))) := by
  rw [h.row.cellAt i (by omega)]
  simp [topsV, hi]
theorem TopRow.frozen (h : TopRow w g n c top) (i : Nat) : w.frozen? ⟨g,i,none⟩ = false := h.row.frozenAt i
theorem TopRow.set (h : TopRow w g n c top) {i : Nat} (hi : i < n) (h0 : i ≠ 0) (o : Option Nat) : TopRow (w.setCell ⟨g,i,none⟩ (.int .i64 (oZ o))) g n c (upd top i o) := by
  refine ⟨?_,by rw [upd_other top o (fun e => h0 e.symm)]; exact h.zero⟩
  have := Rg.row_set h.row i hi (.int .i64 (oZ o))
  rwa [topsV_set] at this
theorem TopRow.like (h : TopRow w g n c top) (e : w'.heap = w.heap) : TopRow w' g n c top := ⟨by
    refine ⟨h.row.1,?_⟩
    rw [e]; exact h.row.2, h.zero⟩
end
def RgAt (w : World) (p gn gp n : Nat) (wl : List (List Nat)) : Prop := ∃ N P, Rg.RingAt w p gn gp N P ∧ Rg.Rings n N P wl
section
variable {w w' : World} {p gn gp n x y : Nat} {wl : List (List Nat)} {S : List Nat}
theorem RgAt.keep (h : RgAt w p gn gp n wl) (k : Keeps S w w') (h1 : p ∉ S) (h2 : gn ∉ S) (h3 : gp ∉ S) : RgAt w' p gn gp n wl := by
  obtain ⟨N, P, a, b⟩ := h
  exact ⟨N, P, a.keep k h1 h2 h3, b⟩
theorem RgAt.lt (h : RgAt w p gn gp n wl) : p < w.heap.size ∧ gn < w.heap.size ∧ gp < w.heap.size := by
  obtain ⟨N, P, a, b⟩ := h
  exact a.lt
theorem RgAt.rings (h : RgAt w p gn gp n wl) : ∃ N P, Rg.Rings n N P wl := by
  obtain ⟨N, P, a, b⟩ := h
  exact ⟨N, P, b⟩
theorem rg_splice (h : RgAt w p gn gp n wl) (hn : n ≤ 65536) (hx : x < n) (hy : y < n) :
    Calls Tryz.prog 396 #[.pointer (some ⟨p,0,none⟩), .int .i64 x, .int .i64 y] w fun e w' => e = .returned (.bool true) ∧ RgAt w' p gn gp n (Rg.spliceZ wl x y).1 ∧ Keeps [gn, gp] w w' := by
  obtain ⟨N, P, a, b⟩ := h
  have hl := b.ln
  refine (Rg.splice_yes w p gn gp N P a (by omega) x y (by omega) (by omega) (by rw [hl]; exact (b.inv x hx).1) (by rw [hl]; exact (b.inv y hy).1) (fun hne e => hne (b.inj hx hy e))).mono ?_
  rintro e w' ⟨rfl, h1, h2⟩
  exact ⟨rfl, ⟨_, _, h1, (b.splice hx hy).2⟩, h2⟩
theorem rg_part (h : RgAt w p gn gp n wl) (hn : n ≤ 65536) (hx : x < n) :
    Calls Tryz.prog 390 #[.pointer (some ⟨p,0,none⟩), .int .i64 x] w fun e w' => e = .returned (.bool true) ∧ RgAt w' p gn gp n (Rg.partZ wl x).1 ∧ Keeps [gn, gp] w w' := by
  obtain ⟨N, P, a, b⟩ := h
  have hl := b.ln
  have hp := (b.inv x hx).2.1
  refine (Rg.part_yes w p gn gp N P a (by omega) x (by omega) (by rw [hl]; exact hp) (by rw [hl]; exact (b.inv x hx).1) (by rw [hl]; exact (b.inv _ hp).1) (fun hne e => hne (b.inj hx hp e))).mono ?_
  rintro e w' ⟨rfl, h1, h2⟩
  exact ⟨rfl, ⟨_, _, h1, (b.part hx).2⟩, h2⟩
theorem rg_all (h : RgAt w p gn gp n wl) (hn : n ≤ 65536) (hx : x < n) :
    Calls Tryz.prog 391 #[.pointer (some ⟨p,0,none⟩), .int .i64 x] w fun e w' => ∃ v, e = .returned v ∧ Rg.IR w.heap.size w' v (Rg.allZ wl x) ∧ Below w.heap.size w w' := by
  obtain ⟨N, P, a, b⟩ := h
  have hl := b.ln
  obtain ⟨lx, rx, hlx, hxl, hax, hpx, hndx, hmx, hbx⟩ := b.home hx
  rw [hax]
  have hlen := nodup_len hndx (n := n) (fun z hz => by
    rcases List.mem_cons.1 hz with rfl | hz
    · exact hx
    · exact hbx z hz)
  simp only [List.length_cons] at hlen
  exact Rg.all_yes w p gn gp N P a (by omega) x (by omega) rx hpx (List.nodup_cons.1 hndx).1 (fun z hz => by rw [hl]; exact hbx z hz) (by omega)
end
def placeV (U kid : Nat → Option Nat) (deg : Nat → Nat) (mk : Nat → Bool) (x : Nat) : List Value := [.int .i64 (oZ (U x)), .int .i64 (oZ (kid x)), .int .i64 (deg x), .bool (mk x)]
structure FibQ (w : World) (p pc pr gn gp gt gT cT : Nat) (Fc : List Nat) (cap hs : Nat) (E : Ent) (wl : List (List Nat)) (U kid : Nat → Option Nat) (deg : Nat → Nat) (mk : Nat → Bool) (top : Nat → Option Nat) : Prop where
  nd : (p :: pr :: gn :: gp :: gt :: gT :: Fc).Nodup
  blk : w.heap[p]? = some (.cells #[.pointer (some ⟨pc,0,none⟩), .pointer (some ⟨pr,0,none⟩), .slice (some ⟨gt,0,none⟩) cap cap, .slice (some ⟨gT,0,none⟩) (hs + 1) cT] 224 (0,0))
  ce : CellsAt w Fc pc cap hs E
  rg : RgAt w pr gn gp cap wl
  ar : Arr w 226 4 cap gt (placeV U kid deg mk)
  tr : TopRow w gT (hs + 1) cT top
  cp : cap ≤ 65536
def FibAt (w : World) (F : List Nat) (p cap hs : Nat) (E : Ent) : Prop :=
  ∃ (pc pr gn gp gt gT cT : Nat) (Fc : List Nat) (wl : List (List Nat)) (U kid : Nat → Option Nat) (deg : Nat → Nat) (mk : Nat → Bool) (top : Nat → Option Nat), F = p :: pr :: gn :: gp :: gt :: gT :: Fc ∧
    FibQ w p pc pr gn gp gt gT cT Fc cap hs E wl U kid deg mk top ∧ FibO E cap (Rl wl) U kid deg top
section
variable {w w' : World} {p pc pr gn gp gt gT cT cap hs : Nat} {F Fc S : List Nat} {E E' : Ent} {wl wl' : List (List Nat)} {U kid top top' : Nat → Option Nat} {deg : Nat → Nat} {mk : Nat → Bool}
theorem FibQ.apart (h : FibQ w p pc pr gn gp gt gT cT Fc cap hs E wl U kid deg mk top) :
    (p ≠ pr ∧ p ≠ gn ∧ p ≠ gp ∧ p ≠ gt ∧ p ≠ gT ∧ p ∉ Fc) ∧ (pr ≠ gn ∧ pr ≠ gp ∧ pr ≠ gt ∧ pr ≠ gT ∧ pr ∉ Fc) ∧ (gn ≠ gp ∧ gn ≠ gt ∧ gn ≠ gT ∧ gn ∉ Fc) ∧ (gp ≠ gt ∧ gp ≠ gT ∧ gp ∉ Fc) ∧ (gt ≠ gT ∧ gt ∉ Fc) ∧ gT ∉ Fc := by
  have := h.nd
  simp only [List.nodup_cons, List.mem_cons, not_or] at this
  obtain ⟨a, b, c, d, e, f, _⟩ := this
  exact ⟨a, b, c, d, e, f⟩
theorem FibQ.lt (h : FibQ w p pc pr gn gp gt gT cT Fc cap hs E wl U kid deg mk top) : ∀ b ∈ p :: pr :: gn :: gp :: gt :: gT :: Fc, b < w.heap.size := by
  obtain ⟨r1, r2, r3⟩ := h.rg.lt
  intro b hb
  simp only [List.mem_cons] at hb
  rcases hb with rfl | rfl | rfl | rfl | rfl | rfl | hb
  · exact lt_of_block h.blk
  · exact r1
  · exact r2
  · exact r3
  · exact h.ar.lt
  · exact h.tr.lt
  · exact h.ce.lt b hb
theorem FibQ.keep (h : FibQ w p pc pr gn gp gt gT cT Fc cap hs E wl U kid deg mk top) (k : Keeps S w w') (hS : ∀ b ∈ p :: pr :: gn :: gp :: gt :: gT :: Fc, b ∉ S) : FibQ w' p pc pr gn gp gt gT cT Fc cap hs E wl U kid deg mk top :=
  ⟨h.nd, k.blk h.blk (hS p (by simp)), h.ce.keep k (fun b hb => hS b (by simp [hb])), h.rg.keep k (hS pr (by simp)) (hS gn (by simp)) (hS gp (by simp)), h.ar.keep k (hS gt (by simp)), h.tr.keep k (hS gT (by simp)), h.cp⟩
theorem FibQ.same (h : FibQ w p pc pr gn gp gt gT cT Fc cap hs E wl U kid deg mk top) (k : Keeps [] w w') : FibQ w' p pc pr gn gp gt gT cT Fc cap hs E wl U kid deg mk top := h.keep k (by simp)
theorem FibQ.cells (h : FibQ w p pc pr gn gp gt gT cT Fc cap hs E wl U kid deg mk top) (hc : CellsAt w' Fc pc cap hs E') (k : Keeps Fc w w') : FibQ w' p pc pr gn gp gt gT cT Fc cap hs E' wl U kid deg mk top := by
  obtain ⟨⟨_, _, _, _, _, a⟩, ⟨_, _, _, _, b⟩, ⟨_, _, _, c⟩, ⟨_, _, d⟩, ⟨_, e⟩, f⟩ := h.apart
  exact ⟨h.nd, k.blk h.blk a, hc, h.rg.keep k b c d, h.ar.keep k e, h.tr.keep k f, h.cp⟩
theorem FibQ.ring (h : FibQ w p pc pr gn gp gt gT cT Fc cap hs E wl U kid deg mk top) (hr : RgAt w' pr gn gp cap wl') (k : Keeps [gn, gp] w w') : FibQ w' p pc pr gn gp gt gT cT Fc cap hs E wl' U kid deg mk top := by
  obtain ⟨⟨a1, a2, a3, a4, a5, a6⟩, ⟨b1, b2, b3, b4, b5⟩, ⟨c1, c2, c3, c4⟩, ⟨d1, d2, d3⟩, ⟨e1, e2⟩, f⟩ := h.apart
  exact ⟨h.nd, k.blk h.blk (by simp; exact ⟨a2, a3⟩), h.ce.keep k (fun b hb e => by
    simp only [List.mem_cons, List.not_mem_nil, or_false] at e
    rcases e with rfl | rfl
    · exact c4 hb
    · exact d3 hb), hr, h.ar.keep k (by simp; exact ⟨c2.symm, d1.symm⟩), h.tr.keep k (by simp; exact ⟨c3.symm, d2.symm⟩), h.cp⟩
theorem FibQ.setTop (h : FibQ w p pc pr gn gp gt gT cT Fc cap hs E wl U kid deg mk top) {g : Nat} (h1 : 1 ≤ g) (h2 : g ≤ hs) (o : Option Nat) :
    FibQ (w.setCell ⟨gT,g,none⟩ (.int .i64 (oZ o))) p pc pr gn gp gt gT cT Fc cap hs E wl U kid deg mk (upd top g o) := by
  obtain ⟨⟨a1, a2, a3, a4, a5, a6⟩, ⟨b1, b2, b3, b4, b5⟩, ⟨c1, c2, c3, c4⟩, ⟨d1, d2, d3⟩, ⟨e1, e2⟩, f⟩ := h.apart
  have k : Keeps [gT] w (w.setCell ⟨gT,g,none⟩ (.int .i64 (oZ o))) := (Keeps.refl _ _).setCell (.inl (by simp)) _
  exact ⟨h.nd, k.blk h.blk (by simpa using a5), h.ce.keep k (fun b hb e => by simp only [List.mem_singleton] at e; exact f (e ▸ hb)), h.rg.keep k (by simpa using b4) (by simpa using c3) (by simpa using d2), h.ar.keep k (by simpa using e1), h.tr.set (by omega) (by omega) o, h.cp⟩
theorem FibQ.setPlace (h : FibQ w p pc pr gn gp gt gT cT Fc cap hs E wl U kid deg mk top) {x j : Nat} (hx : x < cap) (hj : j < 4) (v : Value) {U' kid' : Nat → Option Nat} {deg' : Nat → Nat} {mk' : Nat → Bool}
    (e : upd (placeV U kid deg mk) x ((placeV U kid deg mk x).set j v) = placeV U' kid' deg' mk') : FibQ (w.setCell ⟨gt, x * 4 + j, none⟩ v) p pc pr gn gp gt gT cT Fc cap hs E wl U' kid' deg' mk' top := by
  obtain ⟨⟨a1, a2, a3, a4, a5, a6⟩, ⟨b1, b2, b3, b4, b5⟩, ⟨c1, c2, c3, c4⟩, ⟨d1, d2, d3⟩, ⟨e1, e2⟩, f⟩ := h.apart
  have k : Keeps [gt] w (w.setCell ⟨gt, x * 4 + j, none⟩ v) := (Keeps.refl _ _).setCell (.inl (by simp)) _
  exact ⟨h.nd, k.blk h.blk (by simpa using a4), h.ce.keep k (fun b hb e => by simp only [List.mem_singleton] at e; exact e2 (e ▸ hb)), h.rg.keep k (by simpa using b3) (by simpa using c2) (by simpa using d1),by rw [← e]; exact h.ar.set hx hj v, h.tr.keep k (by simpa using e1.symm), h.cp⟩
theorem place_up (x : Nat) (o : Option Nat) : upd (placeV U kid deg mk) x ((placeV U kid deg mk x).set 0 (.int .i64 (oZ o))) = placeV (upd U x o) kid deg mk := by
  funext j
  by_cases e : j = x
  · subst e; rw [upd_same]; simp [placeV, upd_same]
  · rw [upd_other _ _ e]; simp only [placeV, upd_other U _ e]
theorem place_kid (x : Nat) (o : Option Nat) : upd (placeV U kid deg mk) x ((placeV U kid deg mk x).set 1 (.int .i64 (oZ o))) = placeV U (upd kid x o) deg mk := by
  funext j
  by_cases e : j = x
  · subst e; rw [upd_same]; simp [placeV, upd_same]
  · rw [upd_other _ _ e]; simp only [placeV, upd_other kid _ e]
theorem place_deg (x d : Nat) : upd (placeV U kid deg mk) x ((placeV U kid deg mk x).set 2 (.int .i64 (d : Nat))) = placeV U kid (upd deg x d) mk := by
  funext j
  by_cases e : j = x
  · subst e; rw [upd_same]; simp [placeV, upd_same]
  · rw [upd_other _ _ e]; simp only [placeV, upd_other deg _ e]
theorem place_mark (x : Nat) (b : Bool) : upd (placeV U kid deg mk) x ((placeV U kid deg mk x).set 3 (.bool b)) = placeV U kid deg (upd mk x b) := by
  funext j
  by_cases e : j = x
  · subst e; rw [upd_same]; simp [placeV, upd_same]
  · rw [upd_other _ _ e]; simp only [placeV, upd_other mk _ e]
theorem FibQ.c0 (h : FibQ w p pc pr gn gp gt gT cT Fc cap hs E wl U kid deg mk top) : w.cell? ⟨p,0,none⟩ = some (.pointer (some ⟨pc,0,none⟩)) := by rw [cell_of_blk h.blk]; rfl
theorem FibQ.c1 (h : FibQ w p pc pr gn gp gt gT cT Fc cap hs E wl U kid deg mk top) : w.cell? ⟨p,1,none⟩ = some (.pointer (some ⟨pr,0,none⟩)) := by rw [cell_of_blk h.blk]; rfl
theorem FibQ.c2 (h : FibQ w p pc pr gn gp gt gT cT Fc cap hs E wl U kid deg mk top) : w.cell? ⟨p,2,none⟩ = some (.slice (some ⟨gt,0,none⟩) cap cap) := by rw [cell_of_blk h.blk]; rfl
theorem FibQ.c3 (h : FibQ w p pc pr gn gp gt gT cT Fc cap hs E wl U kid deg mk top) : w.cell? ⟨p,3,none⟩ = some (.slice (some ⟨gT,0,none⟩) (hs + 1) cT) := by rw [cell_of_blk h.blk]; rfl
theorem FibQ.k0 (h : FibQ w p pc pr gn gp gt gT cT Fc cap hs E wl U kid deg mk top) {x : Nat} (hx : x < cap) : w.cell? ⟨gt, x * 4, none⟩ = some (.int .i64 (oZ (U x))) := h.ar.cell (j := 0) hx (by decide)
theorem FibQ.k1 (h : FibQ w p pc pr gn gp gt gT cT Fc cap hs E wl U kid deg mk top) {x : Nat} (hx : x < cap) : w.cell? ⟨gt, x * 4 + 1, none⟩ = some (.int .i64 (oZ (kid x))) := h.ar.cell (j := 1) hx (by decide)
theorem FibQ.k2 (h : FibQ w p pc pr gn gp gt gT cT Fc cap hs E wl U kid deg mk top) {x : Nat} (hx : x < cap) : w.cell? ⟨gt, x * 4 + 2, none⟩ = some (.int .i64 (deg x : Nat)) := h.ar.cell (j := 2) hx (by decide)
theorem FibQ.k3 (h : FibQ w p pc pr gn gp gt gT cT Fc cap hs E wl U kid deg mk top) {x : Nat} (hx : x < cap) : w.cell? ⟨gt, x * 4 + 3, none⟩ = some (.bool (mk x)) := h.ar.cell (j := 3) hx (by decide)
theorem FibAt.lt (h : FibAt w F p cap hs E) : ∀ b ∈ F, b < w.heap.size := by
  obtain ⟨pc, pr, gn, gp, gt, gT, cT, Fc, wl, U, kid, deg, mk, top,rfl, q, o⟩ := h; exact q.lt
theorem FibAt.mem (h : FibAt w F p cap hs E) : p ∈ F := by
  obtain ⟨pc, pr, gn, gp, gt, gT, cT, Fc, wl, U, kid, deg, mk, top,rfl, q, o⟩ := h; simp
theorem FibAt.keep (h : FibAt w F p cap hs E) (k : Keeps S w w') (hS : ∀ b ∈ F, b ∉ S) : FibAt w' F p cap hs E := by
  obtain ⟨pc, pr, gn, gp, gt, gT, cT, Fc, wl, U, kid, deg, mk, top,rfl, q, o⟩ := h
  exact ⟨pc, pr, gn, gp, gt, gT, cT, Fc, wl, U, kid, deg, mk, top,rfl, q.keep k hS, o⟩
theorem FibAt.ok (h : FibAt w F p cap hs E) : EntOk E cap hs := by
  obtain ⟨pc, pr, gn, gp, gt, gT, cT, Fc, wl, U, kid, deg, mk, top,rfl, q, o⟩ := h; exact q.ce.ok
end
end Go.Proofs.YtkdbjelhkfdfjaaGreatDoor


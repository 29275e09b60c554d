/-
  Contracts that the law rests on. Conditions: none.
-/
import Derived.Test.YtkdbjelhkfdfjaaGreatDoorQs18
set_option linter.unusedVariables false
set_option maxRecDepth 100000
set_option maxHeartbeats 16000000
namespace Go.Proofs.YtkdbjelhkfdfjaaGreatDoor
open Go.RowKit
section
variable (w : World) (p pc ga q : Nat) (ao : Option Addr) (ca : Nat) (vP : Value) (Fc : List Nat) (cap hs : Nat) (E : Ent) (n : Nat) (v : Nat → Nat) (f : Nat → Int)
def SwapDone (i j : Nat) (e : Ending) (w' : World) : Prop :=
  ∃ f' : Nat → Int, e = .returned (.tuple #[]) ∧ PileOk w' p pc ga q ao ca vP Fc cap hs E n (sw v i j) f' ∧ Keeps (ga :: pfp q ao) w w' ∧ (∀ x, (∀ k, k < n → v k ≠ x) → f' x = f x)
theorem pile_swap (h : PileOk w p pc ga q ao ca vP Fc cap hs E n v f) (i j : Nat) (hi : i < n) (hj : j < n) (hij : i ≠ j) :
    Calls Tryz.prog 455 #[.pointer (some ⟨q,0,none⟩), .int .i64 i, .int .i64 j] w (SwapDone w p pc ga q ao ca vP Fc cap hs E n v f i j) := by
  obtain ⟨g,rfl, g1, g2, g3, g4, g5, c1, f1⟩ := h.at hi
  obtain ⟨g', e', _, _, _, _, _, c2, f2⟩ := h.at hj
  cases e'
  have q0 := h.q0
  have q1 := h.q1
  have p2 := h.p2
  obtain ⟨d1, e1⟩ := h.pl hi
  obtain ⟨d2, e2⟩ := h.pl hj
  have hvi := h.lt i hi
  have hvj := h.lt j hj
  have hv : v i ≠ v j := fun e => hij (h.inj i j hi hj e)
  obtain ⟨n1, n2, n3, n4, n5, n6⟩ := h.ne
  have hvi3 : ((v i : Nat) : Int) < (cap : Int) := by omega
  have hvj3 : ((v j : Nat) : Int) < (cap : Int) := by omega
  have hi3 : (i : Int) < (n : Int) := by omega
  have hj3 : (j : Int) < (n : Int) := by omega
  have hfin : ∀ W, W.heap = ((((w.setCell ⟨g,i,none⟩ (.int .i64 (v j : Nat))).setCell ⟨g,j,none⟩ (.int .i64 (v i : Nat))).setCell ⟨ga, v j, none⟩ (.int .i64 (i : Int))).setCell ⟨ga, v i, none⟩ (.int .i64 (j : Int))).heap → W.os = w.os → W.tape = w.tape → W.output = w.output →
      SwapDone w p pc ga q (some ⟨g,0,none⟩) ca vP Fc cap hs E n v f i j (.returned (.tuple #[])) W := by
    intro W e0 e3 e4 e5
    have k0 : Keeps [ga, g] w ((((w.setCell ⟨g,i,none⟩ (.int .i64 (v j : Nat))).setCell ⟨g,j,none⟩ (.int .i64 (v i : Nat))).setCell ⟨ga, v j, none⟩ (.int .i64 (i : Int))).setCell ⟨ga, v i, none⟩ (.int .i64 (j : Int))) := ((((Keeps.refl _ _).setCell (.inl (by simp)) _).setCell (.inl (by simp)) _).setCell (.inl (by simp)) _).setCell (.inl (by simp)) _
    have k1 : Keeps [ga, g] w W := ⟨by rw [e3],by rw [e4],by rw [e5],by rw [e0]; exact k0.size,by rw [e0]; exact k0.block⟩
    obtain ⟨Lm, l1, l2, l3⟩ := h.row
    have kr : Keeps [ga] ((w.setCell ⟨g,i,none⟩ (.int .i64 (v j : Nat))).setCell ⟨g,j,none⟩ (.int .i64 (v i : Nat))) W :=
      ⟨by rw [e3]; rfl,by rw [e4]; rfl,by rw [e5]; rfl,by rw [e0]; simp [World.setCell],fun b hb hg => by
        rw [e0]
        simp only [List.mem_cons, List.not_mem_nil, or_false] at hg
        rw [blk_setCell_ne _ hg, blk_setCell_ne _ hg]⟩
    have r1 := Rg.row_set (Rg.row_set l2 i (by omega) (.int .i64 (v j : Nat))) j (by omega) (.int .i64 (v i : Nat))
    have hr : Rg.IR 0 ((w.setCell ⟨g,i,none⟩ (.int .i64 (v j : Nat))).setCell ⟨g,j,none⟩ (.int .i64 (v i : Nat))) (.slice (some ⟨g,0,none⟩) ((Lm.set i (v j)).set j (v i)).length ca) ((Lm.set i (v j)).set j (v i)) := by
      unfold Rg.IR
      rw [List.length_set, List.length_set, Rg.nCells_set, Rg.nCells_set]
      exact r1
    have ka : Keeps [g] w ((w.setCell ⟨g,i,none⟩ (.int .i64 (v j : Nat))).setCell ⟨g,j,none⟩ (.int .i64 (v i : Nat))) := ((Keeps.refl _ _).setCell (.inl (by simp)) _).setCell (.inl (by simp)) _
    have ha := ((h.ar.keep ka (by simpa using fun e => g3 e.symm)).set1 hvj (.int .i64 (i : Int))).set1 hvi (.int .i64 (j : Int))
    have ha2 : Arr W 3 1 cap ga (numV (upd (upd f (v j) (i : Int)) (v i) (j : Int))) := by
      have : Arr W 3 1 cap ga _ := ⟨by
        refine ⟨ha.row.1,?_⟩
        rw [e0]; exact ha.row.2, ha.size⟩
      refine this.congr fun k _ => ?_
      by_cases a : k = v i
      · subst a; simp [upd_same, numV]
      · rw [upd_other _ _ a]
        by_cases b : k = v j
        · subst b; simp [upd_same, numV, upd_other _ _ a]
        · simp [upd_other _ _ b, numV, upd_other _ _ a]
    refine ⟨upd (upd f (v j) (i : Int)) (v i) (j : Int),rfl, ⟨k1.blk h.bp (by simp; exact ⟨n2,fun e => g1 e.symm⟩), k1.blk h.bq (by simp; exact ⟨n3,fun e => g2 e.symm⟩), h.ce.keep k1 (fun b hb e => by simp at e; rcases e with rfl | rfl; exact n6 hb; exact g4 hb), ha2,
      ⟨_,by rw [List.length_set, List.length_set]; exact l1, ir_keep hr kr (fun x e => by cases e; simpa using g3),?_⟩, h.ne, h.na,?_,?_, h.inj.sw hi hj⟩, k1.mono (by simp [pfp]),?_⟩
    · intro k hk
      by_cases a : k = j
      · subst a; rw [fn_set_same (by rw [List.length_set]; omega), sw_right]
      · rw [fn_set_other a]
        by_cases b : k = i
        · subst b; rw [fn_set_same (by omega), sw_left]
        · rw [fn_set_other b, sw_other _ _ _ _ b a]; exact l3 k hk
    · intro k hk
      by_cases b : k = i
      · subst b; rw [sw_left, upd_other _ _ (fun e => hv e.symm), upd_same]
      · by_cases a : k = j
        · subst a; rw [sw_right, upd_same]
        · rw [sw_other _ _ _ _ b a, upd_other _ _ (fun e => b (h.inj k i hk hi e)), upd_other _ _ (fun e => a (h.inj k j hk hj e))]; exact h.pos k hk
    · intro k hk
      obtain ⟨m, m1, m2, m3, m4⟩ := sw_idx v i j k
      rw [m1]
      refine h.lt m ?_
      by_cases b : k = i
      · rw [m2 b]; exact hj
      · by_cases a : k = j
        · rw [m3 a b]; exact hi
        · rw [m4 b a]; exact hk
    · intro x hx
      rw [upd_other _ _ (fun e => hx i hi e.symm), upd_other _ _ (fun e => hx j hj e.symm)]
  have HF := Lib.hid hfin
  have HC : ∀ u, u = ((w.setCell ⟨g,i,none⟩ (.int .i64 (v j : Nat))).setCell ⟨g,j,none⟩ (.int .i64 (v i : Nat))).drew →
      u.cell? ⟨q,0,none⟩ = some (.pointer (some ⟨p,0,none⟩)) ∧ u.cell? ⟨q,1,none⟩ = some (.slice (some ⟨g,0,none⟩) n ca) ∧ u.cell? ⟨p,2,none⟩ = some (.slice (some ⟨ga,0,none⟩) cap cap) ∧
      u.cell? ⟨g,i,none⟩ = some (.int .i64 (v j : Nat)) ∧ u.cell? ⟨g,j,none⟩ = some (.int .i64 (v i : Nat)) ∧
      u.cell? ⟨ga, v i, none⟩ = some (.int .i64 (i : Int)) ∧ u.frozen? ⟨ga, v i, none⟩ = false ∧ u.cell? ⟨ga, v j, none⟩ = some (.int .i64 (j : Int)) ∧ u.frozen? ⟨ga, v j, none⟩ = false := by
    rintro u rfl
    have k0 : Keeps [g] w ((w.setCell ⟨g,i,none⟩ (.int .i64 (v j : Nat))).setCell ⟨g,j,none⟩ (.int .i64 (v i : Nat))) := ((Keeps.refl _ _).setCell (.inl (by simp)) _).setCell (.inl (by simp)) _
    have k : Keeps [g] w ((w.setCell ⟨g,i,none⟩ (.int .i64 (v j : Nat))).setCell ⟨g,j,none⟩ (.int .i64 (v i : Nat))).drew := ⟨k0.os, k0.tape, k0.output, k0.size, k0.block⟩
    have bk : ∀ b, b < w.heap.size → b ≠ g → ((w.setCell ⟨g,i,none⟩ (.int .i64 (v j : Nat))).setCell ⟨g,j,none⟩ (.int .i64 (v i : Nat))).drew.heap[b]? = w.heap[b]? := fun b h1 h2 => k.block b h1 (by simpa using h2)
    have hq := h.below q (by simp [pfp])
    have hp := h.below p (by simp)
    have hga := h.below ga (by simp)
    refine ⟨(World.cell?_of_block (a := ⟨q,0,none⟩) (bk q hq (fun e => g2 e.symm))).trans q0, (World.cell?_of_block (a := ⟨q,1,none⟩) (bk q hq (fun e => g2 e.symm))).trans q1, (World.cell?_of_block (a := ⟨p,2,none⟩) (bk p hp (fun e => g1 e.symm))).trans p2,?_,?_,
      (World.cell?_of_block (a := ⟨ga, v i, none⟩) (bk ga hga (fun e => g3 e.symm))).trans d1, (World.frozen?_of_block (a := ⟨ga, v i, none⟩) (bk ga hga (fun e => g3 e.symm))).trans e1,
      (World.cell?_of_block (a := ⟨ga, v j, none⟩) (bk ga hga (fun e => g3 e.symm))).trans d2, (World.frozen?_of_block (a := ⟨ga, v j, none⟩) (bk ga hga (fun e => g3 e.symm))).trans e2⟩
    · show (World.setCell _ _ _).cell? _ = _
      rw [World.cell?_setCell_other _ _ _ _ (by first | simp | simpa using hij)]
      exact World.cell?_setCell_same _ _ _ c1
    · show (World.setCell _ _ _).cell? _ = _
      exact World.cell?_setCell_same _ _ _ (by rw [World.cell?_setCell_other _ _ _ _ (by first | simp | simpa using fun e => hij e.symm)]; exact c2)
  clear hfin h
  go_enter Tryz.func455, Tryz.ntmps455
  generalize hw0 : w = w0 at *
  clear hw0
  go_wp2_with fail
  go_region
  all_goals
    clear q0 q1 p2 c1 c2 d1 d2 e1 e2 f1 f2
    generalize hu : ((w0.setCell ⟨g,i,none⟩ (.int .i64 (v j : Nat))).setCell ⟨g,j,none⟩ (.int .i64 (v i : Nat))).drew = u
    obtain ⟨q0, q1, p2, c1, c2, d1, e1, d2, e2⟩ := HC u hu.symm
    have hu2 := Lib.hid hu
    clear hu HC
    go_wp2_with fail
    go_region_held3 (fun u => u.cell? ⟨q,0,none⟩ = some (.pointer (some ⟨p,0,none⟩)) ∧ u.cell? ⟨q,1,none⟩ = some (.slice (some ⟨g,0,none⟩) n ca) ∧ u.cell? ⟨p,2,none⟩ = some (.slice (some ⟨ga,0,none⟩) cap cap) ∧ u.cell? ⟨g,i,none⟩ = some (.int .i64 (v j : Nat)) ∧ u.cell? ⟨g,j,none⟩ = some (.int .i64 (v i : Nat)))
      (first | exact ⟨q0, q1, p2, c1, c2⟩ | exact ⟨cell_set_ne n3 q0, cell_set_ne n3 q1, cell_set_ne n2 p2, cell_set_ne g3 c1, cell_set_ne g3 c2⟩ | exact ⟨cell_set_ne n3 (cell_set_ne n3 q0), cell_set_ne n3 (cell_set_ne n3 q1), cell_set_ne n2 (cell_set_ne n2 p2), cell_set_ne g3 (cell_set_ne g3 c1), cell_set_ne g3 (cell_set_ne g3 c2)⟩) (fail)
  all_goals
    go_end0
    have hu := hu2.out
    subst hu
    exact HF.out _ rfl rfl rfl rfl
end
end Go.Proofs.YtkdbjelhkfdfjaaGreatDoor


/-
  Contracts that the law rests on. Conditions: none.
-/
import Derived.Test.YtkdbjelhkfdfjaaGreatDoorLv43
set_option linter.unusedVariables false
set_option maxRecDepth 100000
set_option maxHeartbeats 32000000
namespace Go.Proofs.YtkdbjelhkfdfjaaGreatDoor
open Go.RowKit
def ReachNew (w : World) (FP : List Nat) (p k n : Nat) (E : Ent) (q : Nat) (G : Nat -> Nat) (D K : Nat -> Option Nat) (v far : Nat) (e : Ending) (w' : World) : Prop :=
  e = .returned (.tuple #[]) ∧ ∃ (x : Nat) (FP' : List Nat), x < n ∧ K x = none ∧ E x = none ∧
    SrAt w' FP' p k n (put E x (some (1,(far : Int), q + 1))) (q + 1) (upd G x 1) (upd D v (some far)) (upd K x (some v)) ∧ Moved FP w FP' w'
theorem vtx_put {K : Nat -> Option Nat} {x v : Nat} : (fun u g => if u = x ∧ g = 1 then some v else vtx K u g) = vtx (upd K x (some v)) := by
  funext u g
  unfold vtx
  by_cases c : g = 1
  · subst c
    by_cases d : u = x
    · subst d; simp [upd_same]
    · simp [d, upd_other _ _ d]
  · simp [c]
section
variable (w : World) (FP : List Nat) (p k n : Nat) (E : Ent) (q : Nat) (G : Nat -> Nat) (D K : Nat -> Option Nat)
theorem reach_new (h : SrAt w FP p k n E q G D K) (v far : Nat) (hv : v < n) (hD : D v = none) (hfar : far <= 65536) (hn : n <= 65536) (hqq : q < 65536) (hroom : ∃ x, x < n ∧ E x = none ∧ G x = 0) (by' : Int) :
    Calls Tryz.prog 41 #[.pointer (some ⟨p,0,none⟩),.int .i64 (v : Int),.int .i64 (far : Int),.int .i64 by'] w (ReachNew w FP p k n E q G D K v far) := by
  obtain ⟨s, gh, mb, c, vd, vb, F, cur,rfl, hq⟩ := h
  have hb := hq.blk
  have hd := hq.dist
  have c0 : w.cell? ⟨p,0,none⟩ = some vd := by rw [cell_of_blk hb]; rfl
  have c2 : w.cell? ⟨p,2,none⟩ = some (.pointer (some ⟨s,0,none⟩)) := by rw [cell_of_blk hb]; rfl
  obtain ⟨ao, cd,rfl⟩ := hd.form
  rw [dvL_len] at c0 hd hq
  have hat := dvL_at D hv
  rw [hD, dv_none] at hat
  obtain ⟨gd,rfl, _, c1⟩ := hd.at hat
  have hv3 : (v : Int) < (n : Int) := by omega
  have hle3 : ¬ (9223372036854775807 : Int) <= (far : Int) := by omega
  have hins := pq_insert w F s k n 1 E q 1 G hq.st 1 (far : Int) (by omega) (by omega) (i64_wf far hfar) (by omega) (by obtain ⟨x, a, b, c⟩ := hroom; exact ⟨x, a, b,by omega⟩)
  have HQ := Lib.hid hq
  clear hq hb hd hat hroom
  go_enter Tryz.func41, Tryz.ntmps41
  go_upto_region 3 with (go_at_call 14; refine hins.mono ?_; rintro e w1 d; obtain ⟨x, F',rfl, hx, hE, hK, hG, hq1, mv⟩ := HQ.out.ins (far : Int) e d; have HQ1 := Lib.hid hq1; have MV := Lib.hid mv; clear d hq1 mv c0 c1 c2)
  obtain ⟨w2, hw2⟩ : ∃ w2, w2 = w1.alloc (.cells #[.int .i64 (x : Int),.int .u32 1] 45 (0,0)) := ⟨_,rfl⟩
  obtain ⟨t, ht⟩ : ∃ t, t = w1.heap.size := ⟨_,rfl⟩
  have k12 : Keeps [] w1 w2 := by rw [hw2]; exact (Keeps.refl _ _).alloc _
  have bt : w2.heap[t]? = some (.cells #[.int .i64 (x : Int),.int .u32 1] 45 (0,0)) := by rw [hw2, ht]; exact blk_alloc_new _
  have hq2 := HQ1.out.keep k12 (by simp)
  have e3 : w2.cell? ⟨p,3,none⟩ = some (.slice (some ⟨gh,0,none⟩) n n) := by rw [cell_of_blk hq2.blk]; rfl
  have e5 : w2.cell? ⟨t,0,none⟩ = some (.int .i64 (x : Int)) := by rw [cell_of_blk bt]; rfl
  have e6 : w2.cell? ⟨t,1,none⟩ = some (.int .u32 1) := by rw [cell_of_blk bt]; rfl
  obtain ⟨u0, e7⟩ : ∃ u, w2.cell? ⟨gh, v * 2, none⟩ = some u := by rw [cell_of_blk hq2.hand]; exact ⟨_, Array.getElem?_eq_getElem (by have := hq2.hsz; omega)⟩
  obtain ⟨u1, e8⟩ : ∃ u, w2.cell? ⟨gh, v * 2 + 1, none⟩ = some u := by rw [cell_of_blk hq2.hand]; exact ⟨_, Array.getElem?_eq_getElem (by have := hq2.hsz; omega)⟩
  have f7 : w2.frozen? ⟨gh, v * 2, none⟩ = false := frozen_of_blk hq2.hand
  have f8 : w2.frozen? ⟨gh, v * 2 + 1, none⟩ = false := frozen_of_blk hq2.hand
  have tl1 : t ≠ gh := by have := lt_of_block HQ1.out.hand; omega
  have tl2 : t ≠ mb := by have := HQ1.out.map.lt; omega
  have HQ2 := Lib.hid hq2
  have BT := Lib.hid bt
  have K12 := Lib.hid k12
  rw [<- hw2, <- ht]
  clear hw2 ht k12 bt hq2 hins
  go_region
  all_goals
    obtain ⟨cur', hq3, k3⟩ := HQ2.out.hand2 (v * 2) (v * 2 + 1) (.int .i64 (x : Int)) (.int .u32 1)
    obtain ⟨w3, hw3⟩ : ∃ w3, w3 = ((w2.setCell ⟨gh, v * 2, none⟩ (.int .i64 (x : Int))).setCell ⟨gh, v * 2 + 1, none⟩ (.int .u32 1)).drew := ⟨_,rfl⟩
    have k23 : Keeps [gh] w2 w3 := by rw [hw3]; exact k3.drew
    have hq3' : SrQ w3 p s gh mb c k n (.slice (some ⟨gd,0,none⟩) n cd) vb F' cur' (put E x (some (1,(far : Int), q + 1))) (q + 1) (upd G x 1) D K := by
      rw [hw3]; exact hq3.keep ((Keeps.refl [] _).drew) (by simp)
    have bt3 := k23.blk BT.out (by simpa using tl1)
    have d4 : w3.cell? ⟨p,4,none⟩ = some (.map (some mb)) := by rw [cell_of_blk hq3'.blk]; rfl
    have d5 : w3.cell? ⟨t,0,none⟩ = some (.int .i64 (x : Int)) := by rw [cell_of_blk bt3]; rfl
    have d6 : w3.cell? ⟨t,1,none⟩ = some (.int .u32 1) := by rw [cell_of_blk bt3]; rfl
    rw [<- hw3]
    have zm : HMap elmInt w3.drew mb c (vtx K) := hq3'.map.keep ((Keeps.refl [] _).drew) (by simp)
    have hnok : ∀ y g, vtx K y g ≠ none -> okH y g := fun y g hy => by
      unfold vtx at hy
      by_cases c1 : g = 1
      · subst c1
        rw [if_pos rfl] at hy
        have := hq3'.kx y hy
        exact ⟨by omega,by omega⟩
      · rw [if_neg c1] at hy; exact absurd rfl hy
    have hok : okH x 1 := ⟨by omega,by omega⟩
    have hcq := hq3'.few
    have hcq2 := HQ.out.few
    have hfin : ∀ w5, HMap elmInt w5 mb (if (vtx K x 1).isSome then c else c + 1) (fun u g => if u = x ∧ g = 1 then some v else vtx K u g) -> w3.drew.grownBy w5 (some mb) ->
        ∃ gb cb, w5.cell? ⟨p,0,none⟩ = some (.slice (some ⟨gd,0,none⟩) n cd) ∧ w5.cell? ⟨p,1,none⟩ = some (.slice (some ⟨gb,0,none⟩) n cb) ∧
          w5.frozen? ⟨gd,v,none⟩ = false ∧ w5.frozen? ⟨gb,v,none⟩ = false ∧ (∃ u, w5.cell? ⟨gd,v,none⟩ = some u) ∧ (∃ u, w5.cell? ⟨gb,v,none⟩ = some u) ∧ gd ≠ gb ∧
          Hid (∀ w6, w6.heap = ((w5.setCell ⟨gd,v,none⟩ (.int .i64 (far : Int))).setCell ⟨gb,v,none⟩ (.int .i64 by')).heap -> w6.os = w5.os -> w6.tape = w5.tape -> w6.output = w5.output ->
            ReachNew w (srF p gh mb F (.slice (some ⟨gd,0,none⟩) n cd) vb) p k n E q G D K v far (.returned (.tuple #[])) w6) := by
      intro w5 hm5 hg5
      have hqd := hq3'.keep ((Keeps.refl [] w3).drew) (by simp)
      have hone : vtx K x 1 = none := by unfold vtx; rw [if_pos rfl]; exact hK
      rw [hone] at hm5
      rw [vtx_put] at hm5
      obtain ⟨hq5, k5⟩ := hqd.named (v := v) (c' := c + 1) hx (by rw [upd_same]; omega) (by omega) hm5 hg5
      obtain ⟨xs, hxl, hxr⟩ := hq5.edge
      obtain ⟨gb, cb, curb,rfl, hbb, hcb⟩ : ∃ gb cb curb, vb = .slice (some ⟨gb,0,none⟩) n cb ∧ w5.heap[gb]? = some (.cells curb 3 (0,0)) ∧ n <= curb.size := by
        rcases hxr.2 with ⟨_, e⟩ | ⟨g, cap, cu, e, _, hg, h1, _, h2, _⟩
        · omega
        · exact ⟨g, cap, cu, e, hg,by omega⟩
      have hbd : ∃ curd, w5.heap[gd]? = some (.cells curd 2 (0,0)) ∧ n <= curd.size := by
        have hd5 := hq5.dist
        unfold KRow at hd5
        rw [dvL_len] at hd5
        rcases hd5.2 with ⟨_, e⟩ | ⟨g, cap, cu, e, _, hg, h1, _, h2, _⟩
        · omega
        · cases e; exact ⟨cu, hg,by omega⟩
      obtain ⟨curd, hbd, hcd⟩ := hbd
      have hgdb : gd ≠ gb := fun e => hq5.db gd rfl (by rw [e]; rfl)
      refine ⟨gb, cb,by rw [cell_of_blk hq5.blk]; rfl,by rw [cell_of_blk hq5.blk]; rfl, frozen_of_blk hbd, frozen_of_blk hbb,⟨_,by rw [cell_of_blk hbd]; exact Array.getElem?_eq_getElem (by omega)⟩,⟨_,by rw [cell_of_blk hbb]; exact Array.getElem?_eq_getElem (by omega)⟩, hgdb,fun w6 e1 e2 e3 e4 => ⟨rfl, x, srF p gh mb F' (.slice (some ⟨gd,0,none⟩) n cd) (.slice (some ⟨gb,0,none⟩) n cb), hx, hK, hE,?_,?_⟩⟩
      · obtain ⟨h6, k6⟩ := hq5.far1 (f := far) hv
        obtain ⟨h7, k7⟩ := h6.by1 hv by'
        exact ⟨s, gh, mb, c + 1, _, _, F', cur',rfl, h7.keep (S := []) ⟨e2, e3, e4,by rw [e1]; exact Nat.le_refl _,fun j _ _ => by rw [e1]⟩ (by simp)⟩
      · obtain ⟨h6, k6⟩ := hq5.far1 (f := far) hv
        obtain ⟨h7, k7⟩ := h6.by1 hv by'
        have kz : Keeps [] ((w5.setCell ⟨gd,v,none⟩ (.int .i64 (far : Int))).setCell ⟨gb,v,none⟩ (.int .i64 by')) w6 := ⟨e2, e3, e4,by rw [e1]; exact Nat.le_refl _,fun j _ _ => by rw [e1]⟩
        have hS : ∀ b, b ∈ srF p gh mb F' (.slice (some ⟨gd,0,none⟩) n cd) (.slice (some ⟨gb,0,none⟩) n cb) -> b ∈ srF p gh mb F (.slice (some ⟨gd,0,none⟩) n cd) (.slice (some ⟨gb,0,none⟩) n cb) ∨ w.heap.size <= b := fun b hb => by
          rw [srF_mem] at hb ⊢
          rcases hb with c1 | c1 | c1 | c1 | c1 | c1
          · exact .inl (.inl c1)
          · exact .inl (.inr (.inl c1))
          · exact .inl (.inr (.inr (.inl c1)))
          · rcases MV.out.from' b c1 with c2 | c2
            · exact .inl (.inr (.inr (.inr (.inl c2))))
            · exact .inr c2
          · exact .inl (.inr (.inr (.inr (.inr (.inl c1)))))
          · exact .inl (.inr (.inr (.inr (.inr (.inr c1)))))
        have ka : Keeps (srF p gh mb F (.slice (some ⟨gd,0,none⟩) n cd) (.slice (some ⟨gb,0,none⟩) n cb)) w w1 := MV.out.keeps.mono (fun b hb => .inl (srF_mem.2 (.inr (.inr (.inr (.inl hb))))))
        have kb := ka.trans K12.out (by simp)
        have kc := kb.trans k23 (fun b hb => .inl (srF_mem.2 (.inr (.inl (by simpa using hb)))))
        have kd := kc.drew.trans k5 (fun b hb => .inl (srF_mem.2 (.inr (.inr (.inl (by simpa using hb))))))
        have ke := kd.trans k6 (fun b hb => .inl (srF_mem.2 (.inr (.inr (.inr (.inr (.inl (by simp at hb; subst hb; rfl))))))))
        have kf := (ke.trans k7 (fun b hb => .inl (srF_mem.2 (.inr (.inr (.inr (.inr (.inr (by simp at hb; subst hb; rfl))))))))).trans kz (by simp)
        refine ⟨kf, hS,fun b hb => ?_⟩
        have h8 := h7.keep kz (by simp)
        rw [srF_mem] at hb
        rcases hb with rfl | rfl | rfl | c1 | c1 | c1
        · exact lt_of_block h8.blk
        · exact lt_of_block h8.hand
        · exact h8.map.lt
        · exact h8.st.lt b c1
        · exact (h8.dist.own b c1).2
        · cases c1
          exact Nat.lt_of_lt_of_le (lt_of_block hbb) (by rw [e1]; simp [World.setCell])
    have HF := Lib.hid hfin
    have NOK := Lib.hid hnok
    clear hfin hnok hq3 hq3' k3 k23 bt3 hw3 e3 e5 e6 e7 e8 f7 f8 hcq
    go_upto_region 4 with fail
    go_still_tail 6,(by kernel_rfl)
    change wpList _ _ _ _ _ w3.drew
    generalize w3.drew = wE at *
    go_upto_region 6 with (at_mapUpdate; refine wpList_hmap_put (E := elmInt) rfl _ _ _ rfl Tryz.underlying113 mb c _ rfl zm NOK.out (by unfold maxLen; omega) x 1 rfl hok v rfl (show v <= 65536 by omega) ?_; intro w5 hm5 hg5; obtain ⟨gb, cb, z0, z1, z2, z3,⟨u2, z4⟩,⟨u3, z5⟩, z6, z7⟩ := HF.out w5 hm5 hg5; clear hm5 hg5)
    clear HF NOK zm d4 d5 d6
    go_region
    all_goals
      rw [dvL_len]
      first | go_end0 | refine bodyPost_ret (results_none rfl _ _ _) rfl ?_
      exact z7.out _ rfl rfl rfl rfl
end
end Go.Proofs.YtkdbjelhkfdfjaaGreatDoor


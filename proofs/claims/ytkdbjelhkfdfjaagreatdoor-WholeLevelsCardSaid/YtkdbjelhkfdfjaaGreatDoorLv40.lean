/-
  Contracts that the law rests on. Conditions: none.
-/
import Derived.Test.YtkdbjelhkfdfjaaGreatDoorLv39
set_option linter.unusedVariables false
set_option maxRecDepth 100000
set_option maxHeartbeats 32000000
namespace Go.Proofs.YtkdbjelhkfdfjaaGreatDoor
open Go.RowKit
section
variable (w : World) (F : List Nat) (s k cap hs : Nat) (E : Ent) (q : Nat) (most : Int) (G : Nat -> Nat)
theorem u64_wf (n : Nat) (h : n <= 4294967295) : (Lit.int .u64 (n : Int)).wf = true := by
  have e1 : IntKind.u64.min = 0 := rfl
  have e2 : IntKind.u64.max = 18446744073709551615 := rfl
  simp only [Lit.wf, e1, e2, Bool.and_eq_true, decide_eq_true_eq]
  omega
def InsDone (h : Nat) (key : Int) (e : Ending) (w' : World) : Prop :=
  ∃ i : Nat, i < cap ∧ E i = none ∧ e = .returned (.tuple #[.agg #[.int .i64 i,.int .u32 ((G i : Int) + 1)],.int .i64 0]) ∧
    ∃ F', StoreAt w' F' s k cap hs (put E i (some (h, key, q + 1))) (q + 1) most (upd G i (G i + 1)) ∧ Moved F w F' w'
theorem pq_insert (c : StoreAt w F s k cap hs E q most G) (h : Nat) (key : Int) (h1 : 1 <= h) (h2 : h <= hs) (hk : (Lit.int .i64 key).wf = true) (hq : q < 4294967295) (hx : ∃ x, x < cap ∧ E x = none ∧ (G x : Int) < most) :
    Calls Tryz.prog 14 #[.pointer (some ⟨s,0,none⟩),.int .i64 h,.int .i64 key] w (InsDone w F s k cap hs E q most G h key) := by
  obtain ⟨pa, pn, Fa, Fn, c1, c2,rfl, st⟩ := c
  have hlt := st.lt
  have ls := hlt s (by simp)
  obtain ⟨w0, hw0⟩ : ∃ w0, w0 = w.alloc (.cells #[.int .i64 0,.int .u32 0] 45 (0,0)) := ⟨_,rfl⟩
  have k0 : Keeps [] w w0 := by rw [hw0]; exact (Keeps.refl _ _).alloc _
  have hb0 : w0.heap[w.heap.size]? = some (.cells #[.int .i64 0,.int .u32 0] 45 (0,0)) := by rw [hw0]; exact blk_alloc_new _
  have st0 := st.keep k0 (by simp)
  obtain ⟨pc, Fc, d0, ce, _⟩ := st0.ne.cells
  have hhas := cells_has w0 Fc pc cap hs E ce h
  rw [decide_eq_true (by omega)] at hhas
  have m1 := n_has_m k w0 pn pc d0
  have c3 := st0.c3
  have c2' := st0.c2'
  have htake := are_take st0.ar (by
    obtain ⟨x, a, b, c⟩ := hx
    exact ⟨x, a,by simp [b], c⟩)
  have hstep : ∀ (w1 : World) (i : Nat) (Fa' : List Nat), i < cap -> E i = none -> AreAt w1 Fa' pa cap most (upd G i (G i + 1)) (upd (fun x => (E x).isSome) i true) -> Moved Fa w0 Fa' w1 ->
      (w1.alloc (.cells #[.int .i64 (i : Int),.int .u32 ((G i : Int) + 1)] 45 (0,0))).cell? ⟨s,4,none⟩ = some (.int .u64 (q : Int)) ∧ (w1.alloc (.cells #[.int .i64 (i : Int),.int .u32 ((G i : Int) + 1)] 45 (0,0))).frozen? ⟨s,4,none⟩ = false ∧
      Hid (∀ w2, w2 = (w1.alloc (.cells #[.int .i64 (i : Int),.int .u32 ((G i : Int) + 1)] 45 (0,0))).setCell ⟨s,4,none⟩ (.int .u64 ((q : Int) + 1)) ->
        w2.cell? ⟨s,3,none⟩ = some (.iface (nTy k) (.pointer (some ⟨pn,0,none⟩))) ∧ w2.cell? ⟨s,4,none⟩ = some (.int .u64 ((q : Int) + 1)) ∧ w2.cell? ⟨w1.heap.size,0,none⟩ = some (.int .i64 (i : Int)) ∧
        Hid (∃ fn,(∀ u,(method 588 (nTy k) (.pointer (some ⟨pn,0,none⟩)) "Insert").run Tryz.prog u = .ok (fn,.pointer (some ⟨pn,0,none⟩)) u) ∧ (∀ args u,(callFunc fn args).run Tryz.prog u = .ok (.enter fn args) u) ∧
          Calls Tryz.prog fn #[.pointer (some ⟨pn,0,none⟩),.int .i64 h,.int .i64 i,.agg #[.int .i64 key,.int .u64 ((q : Int) + 1)]] w2.drew fun e w4 => e = .returned (.bool true) ∧
            w4.heap[w1.heap.size]? = some (.cells #[.int .i64 (i : Int),.int .u32 ((G i : Int) + 1)] 45 (0,0)) ∧ w4.heap[w.heap.size]? = some (.cells #[.int .i64 0,.int .u32 0] 45 (0,0)) ∧
            Hid (∀ v0 v1, InsDone w (s :: (Fa ++ Fn)) s k cap hs E q most G h key (.returned (.tuple #[.agg #[.int .i64 i,.int .u32 ((G i : Int) + 1)],.int .i64 0])) ((w4.setCell ⟨w.heap.size,0,none⟩ v0).setCell ⟨w.heap.size,1,none⟩ v1)))) := by
    intro w1 i Fa' hi hEi ha1 hm1
    have s1 := hm1.keeps.size
    have s0 := k0.size
    have sz0 : w.heap.size < w0.heap.size := lt_of_block hb0
    have kA : Keeps [] w1 (w1.alloc (.cells #[.int .i64 (i : Int),.int .u32 ((G i : Int) + 1)] 45 (0,0))) := (Keeps.refl _ _).alloc _
    have b1 := kA.blk (hm1.keeps.blk st0.blk st.sa) (by simp)
    have hh1 : (w1.alloc (.cells #[.int .i64 (i : Int),.int .u32 ((G i : Int) + 1)] 45 (0,0))).heap[w1.heap.size]? = some (.cells #[.int .i64 (i : Int),.int .u32 ((G i : Int) + 1)] 45 (0,0)) := blk_alloc_new _
    have hold : ∀ b, b < w.heap.size -> b ∉ Fa -> b ∉ Fa' := fun b a1 a2 a3 => by
      rcases hm1.from' b a3 with c | c
      · exact a2 c
      · omega
    have lFa' := ha1.lt
    refine ⟨by rw [cell_of_blk b1]; rfl, frozen_of_blk b1,fun w2 hw2 => ?_⟩
    have kS : Keeps [s] (w1.alloc (.cells #[.int .i64 (i : Int),.int .u32 ((G i : Int) + 1)] 45 (0,0))) w2 := by rw [hw2]; exact (Keeps.refl _ _).setCell (.inl (by simp)) _
    have b2 : w2.heap[s]? = some (.cells #[.int .i64 c1,.int .i64 c2,.pointer (some ⟨pa,0,none⟩),.iface (nTy k) (.pointer (some ⟨pn,0,none⟩)),.int .u64 ((q : Int) + 1)] 98 (0,0)) := by
      rw [hw2]; have := blk_setCell (i := 4) (.int .u64 ((q : Int) + 1)) b1; simpa using this
    have k12 : Keeps [s] w1 w2 := (kA.mono (T := [s]) (by simp)).trans kS (by simp)
    have hsw1 : w1.heap.size ≠ s := by omega
    have hh2 := kS.blk hh1 (by simpa using hsw1)
    have hr0 : w0.heap[w.heap.size]? = some (.cells #[.int .i64 0,.int .u32 0] 45 (0,0)) := hb0
    have hnF : w.heap.size ∉ Fa := fun e => by have := hlt _ (by simp [e] : w.heap.size ∈ s :: (Fa ++ Fn)); omega
    have hnN : w.heap.size ∉ Fn := fun e => by have := hlt _ (by simp [e] : w.heap.size ∈ s :: (Fa ++ Fn)); omega
    have hr2 := k12.blk (hm1.keeps.blk hr0 hnF) (by simp; omega)
    have kd : Keeps [] w2 w2.drew := ⟨rfl,rfl,rfl, Nat.le_refl _,fun _ _ _ => rfl⟩
    have ne2 : nAt k w2.drew Fn pn cap hs E := ((st0.ne.keep hm1.keeps (fun b hb e => st.an b e hb)).keep k12 (fun b hb e => st.sn (by simp only [List.mem_singleton] at e; exact e ▸ hb))).keep kd (by simp)
    have ar2 : AreAt w2.drew Fa' pa cap most (upd G i (G i + 1)) (upd (fun x => (E x).isSome) i true) := (ha1.keep k12 (fun b hb e => hold s ls st.sa (by simp only [List.mem_singleton] at e; exact e ▸ hb))).keep kd (by simp)
    refine ⟨by rw [cell_of_blk b2]; rfl,by rw [cell_of_blk b2]; rfl,by rw [cell_of_blk hh2]; rfl,?_⟩
    obtain ⟨fn, n1, n2, n3⟩ := n_insert k w2.drew Fn pn cap hs E ne2 h i (q + 1) key h1 h2 hi hEi hk (u64_wf (q + 1) (by omega))
    refine ⟨fn, n1, n2,?_⟩
    have ec : ((q + 1 : Nat) : Int) = (q : Int) + 1 := rfl
    rw [ec] at n3
    refine n3.mono ?_
    rintro e w4 ⟨rfl, Fn', hn4, hm4⟩
    have hnF' : ∀ b, b ∉ Fn -> b < w2.drew.heap.size -> b ∉ Fn' := fun b a1 a2 a3 => by
      rcases hm4.from' b a3 with c | c
      · exact a1 c
      · omega
    have s2 : w1.heap.size < w2.heap.size := lt_of_block hh2
    have h4n : w1.heap.size ∉ Fn := fun e => by have := hlt _ (by simp [e] : w1.heap.size ∈ s :: (Fa ++ Fn)); omega
    have hh4 := hm4.keeps.blk (k := w1.heap.size) hh2 h4n
    have hr4 := hm4.keeps.blk (k := w.heap.size) hr2 hnN
    refine ⟨rfl, hh4, hr4,fun v0 v1 => ⟨i, hi, hEi,rfl,?_⟩⟩
    have kR : Keeps [w.heap.size] w4 ((w4.setCell ⟨w.heap.size,0,none⟩ v0).setCell ⟨w.heap.size,1,none⟩ v1) := ((Keeps.refl _ _).setCell (.inl (by simp)) _).setCell (.inl (by simp)) _
    have an' : ∀ b ∈ Fa', b ∉ Fn := fun b hb e => by
      rcases hm1.from' b hb with c | c
      · exact st.an b c e
      · have := hlt b (by simp [e]); omega
    have hq4 : StoreQ w4 s pa pn Fa' Fn' c1 c2 k cap hs (put E i (some (h, key, q + 1))) (q + 1) most (upd G i (G i + 1)) := by
      refine ⟨hm4.keeps.blk (k := s) b2 st.sn,?_, hn4, hold s ls st.sa, hnF' s st.sn (lt_of_block (w := w2) b2),fun b hb => hnF' b (an' b hb) (by have := lFa' b hb; have := k12.size; show b < w2.heap.size; omega),?_,?_,?_⟩
      · have := ar2.keep hm4.keeps an'
        have e : (fun x => (put E i (some (h, key, q + 1)) x).isSome) = upd (fun x => (E x).isSome) i true := by
          funext x
          by_cases c : x = i
          · subst c; rw [put_same, upd_same]; rfl
          · rw [put_other _ _ _ c, upd_other _ _ c]
        rw [e]; exact this
      · intro x g kk n e
        by_cases c : x = i
        · subst c; rw [put_same] at e; cases e; exact Nat.le_refl _
        · rw [put_other _ _ _ c] at e; have := st.sq x g kk n e; omega
      · intro x y g kk n g' kk' e e'
        by_cases c : x = i <;> by_cases d : y = i
        · rw [c, d]
        · subst c; rw [put_same] at e; cases e
          rw [put_other _ _ _ d] at e'; have := st.sq _ _ _ _ e'; omega
        · subst d; rw [put_same] at e'; cases e'
          rw [put_other _ _ _ c] at e; have := st.sq _ _ _ _ e; omega
        · rw [put_other _ _ _ c] at e; rw [put_other _ _ _ d] at e'; exact st.uq x y g kk n g' kk' e e'
      · intro x
        by_cases c : x = i
        · subst c; rw [upd_same]; have := st.gq x; omega
        · rw [upd_other _ _ c]; have := st.gq x; omega
    have lF' : ∀ b ∈ s :: (Fa' ++ Fn'), b ≠ w.heap.size := fun b hb e => by
      subst e
      simp only [List.mem_cons, List.mem_append] at hb
      rcases hb with e | e | e
      · omega
      · rcases hm1.from' _ e with c | c
        · exact hnF c
        · omega
      · exact hnF' _ hnN (lt_of_block (w := w2) hr2) e
    have hq5 := hq4.keep kR (fun b hb e => lF' b hb (by simpa using e))
    refine ⟨_,⟨pa, pn, Fa', Fn', c1, c2,rfl, hq5⟩,?_,fun b hb => ?_, hq5.lt⟩
    · refine (((((k0.mono (T := s :: (Fa ++ Fn)) (by simp)).trans hm1.keeps (fun b hb => .inl (by simp [hb]))).trans k12 (fun b hb => .inl (by simp only [List.mem_singleton] at hb; simp [hb]))).trans kd (by simp)).trans hm4.keeps (fun b hb => .inl (by simp [hb]))).trans kR (fun b hb => .inr (by simp only [List.mem_singleton] at hb; omega))
    · simp only [List.mem_cons, List.mem_append] at hb ⊢
      rcases hb with e | e | e
      · exact .inl (.inl e)
      · rcases hm1.from' b e with c | c
        · exact .inl (.inr (.inl c))
        · exact .inr (by omega)
      · rcases hm4.from' b e with c | c
        · exact .inl (.inr (.inr c))
        · refine .inr ?_
          have h6 : w2.heap.size <= b := c
          omega
  have HS := Lib.hid hstep
  clear hstep st st0 ce d0 hlt k0 hx hb0
  have hqb : (q : Int) < 4294967295 := by omega
  go_enter Tryz.func14, Tryz.ntmps14
  go_upto_region 1 with fail
  rw [<- hw0]
  clear hw0
  go_upto_region 6 with (first
    | (go_at_call 301; refine hhas.mono ?_; rintro e w' ⟨rfl,rfl⟩)
    | (go_at_call 36; refine htake.mono ?_; rintro e w1 ⟨i, hi, hv, hg,rfl, Fa', ha1, hm1⟩; have hEi : E i = none := (by simpa using hv); obtain ⟨z1, z2, z3⟩ := HS.out w1 i Fa' hi hEi ha1 hm1; clear ha1 hm1 hv hg))
  clear hhas m1 c3 c2' htake HS
  go_upto_region 7 with fail
  obtain ⟨w2, hw2⟩ : ∃ w2, w2 = (w1.alloc (.cells #[.int .i64 (i : Int),.int .u32 ((G i : Int) + 1)] 45 (0,0))).setCell ⟨s,4,none⟩ (.int .u64 ((q : Int) + 1)) := ⟨_,rfl⟩
  obtain ⟨y1, y2, y3, y4⟩ := z3.out w2 hw2
  obtain ⟨fn, n1, n2, n3⟩ := y4.out
  rw [<- hw2]
  clear hw2 z1 z2 z3 y4
  go_region_law (first
    | (go_simp; refine n3.mono ?_; rintro e w4 ⟨rfl, b8, b6, hfin⟩))
  all_goals
    clear n1 n2 n3 y1 y2 y3
    have g0 : w4.cell? ⟨w1.heap.size,0,none⟩ = some (.int .i64 (i : Int)) := by rw [cell_of_blk b8]; rfl
    have g1 : w4.cell? ⟨w1.heap.size,1,none⟩ = some (.int .u32 ((G i : Int) + 1)) := by rw [cell_of_blk b8]; rfl
    have g2 : w4.cell? ⟨w.heap.size,0,none⟩ = some (.int .i64 0) := by rw [cell_of_blk b6]; rfl
    have g3 : w4.cell? ⟨w.heap.size,1,none⟩ = some (.int .u32 0) := by rw [cell_of_blk b6]; rfl
    have g4 : w4.frozen? ⟨w.heap.size,0,none⟩ = false := frozen_of_blk b6
    have g5 : w4.frozen? ⟨w.heap.size,1,none⟩ = false := frozen_of_blk b6
    have hblk := blk_setCell (i := 1) (.int .u32 ((G i : Int) + 1)) (blk_setCell (i := 0) (.int .i64 (i : Int)) b6)
    have HB := Lib.hid hblk
    clear hblk b6 b8
    go_wp2_with fail
    refine bodyPost_ret (v := .tuple #[.agg #[.int .i64 (i : Int),.int .u32 ((G i : Int) + 1)],.int .i64 0]) ?_ rfl (hfin.out _ _)
    refine (results_cell2 (p := 6) (u := 7) rfl _ _ w.heap.size 45 #[.int .i64 (i : Int),.int .u32 ((G i : Int) + 1)] (0,0) _ (by simp) ?_ Tryz.underlying45 rfl (by kernel_rfl)).trans ?_
    · have := HB.out
      simpa using this
    · simp
end
end Go.Proofs.YtkdbjelhkfdfjaaGreatDoor


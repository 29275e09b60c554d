/-
  Contracts that the law rests on. Conditions: none.
-/
import Derived.Test.YtkdbjelhkfdfjaaGreatDoorQt01
set_option linter.unusedVariables false
set_option maxRecDepth 100000
set_option maxHeartbeats 16000000
namespace Go.Proofs.YtkdbjelhkfdfjaaGreatDoor
open Go.RowKit
section
variable (w : World) (F : List Nat) (s k cap hs : Nat) (E : Ent) (q : Nat) (most : Int) (G : Nat -> Nat)
def FirstYes (h : Nat) (e : Ending) (w' : World) : Prop :=
  ∃ x : Nat, least E h x ∧ e = .returned (.tuple #[.agg #[.int .i64 x,.int .u32 (G x : Nat)],.int .i64 0]) ∧ StoreAt w' F s k cap hs E q most G ∧ Keeps F w w'
def FirstNo (e : Ending) (w' : World) : Prop :=
  e = .returned (.tuple #[.agg #[.int .i64 0,.int .u32 0],.int .i64 172]) ∧ StoreAt w' F s k cap hs E q most G ∧ Keeps F w w'
theorem pq_first_yes (c : StoreAt w F s k cap hs E q most G) (h : Nat) (h1 : 1 <= h) (h2 : h <= hs) (hi : ∃ y, isIn E h y) :
    Calls Tryz.prog 55 #[.pointer (some ⟨s,0,none⟩),.int .i64 h] w (FirstYes w F s k cap hs E q most G h) := by
  obtain ⟨pa, pn, Fa, Fn, c1, c2,rfl, st⟩ := c
  have hlt := st.lt
  obtain ⟨w0, hw0⟩ : ∃ w0, w0 = w.alloc (.cells #[.int .i64 0,.int .u32 0] 45 (0,0)) := ⟨_,rfl⟩
  have k0 : Keeps [] w w0 := by rw [hw0]; exact (Keeps.refl _ _).alloc _
  have hb0 : w0.heap[w.heap.size]? = some (.cells #[.int .i64 0,.int .u32 0] 45 (0,0)) := by rw [hw0]; exact blk_alloc_new _
  have st0 := st.keep k0 (by simp)
  obtain ⟨pc, Fc, d0, ce, _⟩ := st0.ne.cells
  have hhas := cells_has w0 Fc pc cap hs E ce h
  rw [decide_eq_true (by omega)] at hhas
  have m1 := n_has_m k w0 pn pc d0
  have c3 := st0.c3
  obtain ⟨fn, n1, n2, n3⟩ := n_min_yes k w0 Fn pn cap hs E st0.ne h h1 h2 hi
  have hnot : w.heap.size ∉ s :: (Fa ++ Fn) := fun e => Nat.lt_irrefl _ (hlt _ e)
  have hstep : ∀ (w1 : World) (x : Nat), least E h x -> nAt k w1 Fn pn cap hs E -> Keeps Fn w0 w1 -> w1.cell? ⟨s,2,none⟩ = some (.pointer (some ⟨pa,0,none⟩)) ∧
      Hid (Calls Tryz.prog 86 #[.pointer (some ⟨pa,0,none⟩),.int .i64 x] w1 fun e w2 => e = .returned (.tuple #[.agg #[.int .i64 x,.int .u32 (G x : Nat)],.bool true]) ∧
        (w2.alloc (.cells #[.int .i64 (x : Int),.int .u32 (G x : Int)] 45 (0,0))).heap[w.heap.size]? = some (.cells #[.int .i64 0,.int .u32 0] 45 (0,0)) ∧
        Hid (∀ v0 v1, FirstYes w (s :: (Fa ++ Fn)) s k cap hs E q most G h (.returned (.tuple #[.agg #[.int .i64 x,.int .u32 (G x : Nat)],.int .i64 0])) (((w2.alloc (.cells #[.int .i64 (x : Int),.int .u32 (G x : Int)] 45 (0,0))).setCell ⟨w.heap.size,0,none⟩ v0).setCell ⟨w.heap.size,1,none⟩ v1))) := by
    intro w1 x hl hn1 hk1
    have b1 := hk1.blk st0.blk st.sn
    have st1 : StoreQ w1 s pa pn Fa Fn c1 c2 k cap hs E q most G := ⟨b1, st0.ar.keep hk1 st.an, hn1, st.sa, st.sn, st.an, st.sq, st.uq, st.gq⟩
    have hxc := st1.ne.ok.lt x hl.1.some
    refine ⟨st1.c2',(are_at st1.ar x hxc hl.1.some).mono ?_⟩
    rintro e w2 ⟨rfl, k2⟩
    have kA : Keeps [] w2 (w2.alloc (.cells #[.int .i64 (x : Int),.int .u32 (G x : Int)] 45 (0,0))) := (Keeps.refl _ _).alloc _
    have kk : Keeps [] w1 (w2.alloc (.cells #[.int .i64 (x : Int),.int .u32 (G x : Int)] 45 (0,0))) := k2.trans kA (by simp)
    have hnN : w.heap.size ∉ Fn := fun e => hnot (by simp [e])
    refine ⟨rfl, kk.blk (hk1.blk hb0 hnN) (by simp),fun v0 v1 => ⟨x, hl,rfl,?_⟩⟩
    have kR : Keeps [w.heap.size] (w2.alloc (.cells #[.int .i64 (x : Int),.int .u32 (G x : Int)] 45 (0,0))) (((w2.alloc (.cells #[.int .i64 (x : Int),.int .u32 (G x : Int)] 45 (0,0))).setCell ⟨w.heap.size,0,none⟩ v0).setCell ⟨w.heap.size,1,none⟩ v1) := ((Keeps.refl _ _).setCell (.inl (by simp)) _).setCell (.inl (by simp)) _
    refine ⟨⟨pa, pn, Fa, Fn, c1, c2,rfl,(st1.keep kk (by simp)).keep kR (fun b hb e => hnot (by simp only [List.mem_singleton] at e; exact e ▸ hb))⟩,?_⟩
    exact (((k0.mono (T := s :: (Fa ++ Fn)) (by simp)).trans hk1 (fun b hb => .inl (by simp [hb]))).trans kk (by simp)).trans kR (fun b hb => .inr (by simp only [List.mem_singleton] at hb; omega))
  have HS := Lib.hid hstep
  clear hstep st st0 ce d0 hlt k0 hb0 hi
  go_enter Tryz.func55, Tryz.ntmps55
  go_upto_region 1 with fail
  rw [<- hw0]
  clear hw0
  go_upto_region 6 with (first
    | (go_at_call 301; refine hhas.mono ?_; rintro e w' ⟨rfl,rfl⟩)
    | (refine n3.mono ?_; rintro e w1 ⟨x,rfl, hl, hn1, hk1⟩; obtain ⟨z1, z2⟩ := HS.out w1 x hl hn1 hk1; clear hl hn1 hk1))
  clear hhas m1 n1 n2 n3 HS c3
  go_upto_region 7 with (go_at_call 86; refine z2.out.mono ?_; rintro e w2 ⟨rfl, b6, hfin⟩)
  clear z1 z2
  have g0 : (w2.alloc (.cells #[.int .i64 (x : Int),.int .u32 (G x : Int)] 45 (0,0))).cell? ⟨w2.heap.size,0,none⟩ = some (.int .i64 (x : Int)) := by rw [cell_of_blk (blk_alloc_new _)]; rfl
  have g1 : (w2.alloc (.cells #[.int .i64 (x : Int),.int .u32 (G x : Int)] 45 (0,0))).cell? ⟨w2.heap.size,1,none⟩ = some (.int .u32 (G x : Int)) := by rw [cell_of_blk (blk_alloc_new _)]; rfl
  generalize w2.alloc (.cells #[.int .i64 (x : Int),.int .u32 (G x : Int)] 45 (0,0)) = w3 at *
  have g2 : w3.cell? ⟨w.heap.size,0,none⟩ = some (.int .i64 0) := by rw [cell_of_blk b6]; rfl
  have g3 : w3.cell? ⟨w.heap.size,1,none⟩ = some (.int .u32 0) := by rw [cell_of_blk b6]; rfl
  have g4 : w3.frozen? ⟨w.heap.size,0,none⟩ = false := frozen_of_blk b6
  have g5 : w3.frozen? ⟨w.heap.size,1,none⟩ = false := frozen_of_blk b6
  have hblk := blk_setCell (i := 1) (.int .u32 (G x : Int)) (blk_setCell (i := 0) (.int .i64 (x : Int)) b6)
  have HB := Lib.hid hblk
  clear hblk b6
  go_wp2_with fail
  refine bodyPost_ret (v := .tuple #[.agg #[.int .i64 (x : Int),.int .u32 (G x : Int)],.int .i64 0]) ?_ rfl (hfin.out _ _)
  refine (results_cell2 (p := 4) (u := 5) rfl _ _ w.heap.size 45 #[.int .i64 (x : Int),.int .u32 (G x : Int)] (0,0) _ (by simp) ?_ Tryz.underlying45 rfl (by kernel_rfl)).trans ?_
  · have := HB.out
    simpa using this
  · simp
theorem pq_first_no (c : StoreAt w F s k cap hs E q most G) (h : Nat) (h1 : 1 <= h) (h2 : h <= hs) (hi : ∀ y, ¬ isIn E h y) :
    Calls Tryz.prog 55 #[.pointer (some ⟨s,0,none⟩),.int .i64 h] w (FirstNo w F s k cap hs E q most G) := by
  obtain ⟨pa, pn, Fa, Fn, c1, c2,rfl, st⟩ := c
  have hlt := st.lt
  obtain ⟨w0, hw0⟩ : ∃ w0, w0 = w.alloc (.cells #[.int .i64 0,.int .u32 0] 45 (0,0)) := ⟨_,rfl⟩
  have k0 : Keeps [] w w0 := by rw [hw0]; exact (Keeps.refl _ _).alloc _
  have b6 : w0.heap[w.heap.size]? = some (.cells #[.int .i64 0,.int .u32 0] 45 (0,0)) := by rw [hw0]; exact blk_alloc_new _
  have st0 := st.keep k0 (by simp)
  obtain ⟨pc, Fc, d0, ce, _⟩ := st0.ne.cells
  have hhas := cells_has w0 Fc pc cap hs E ce h
  rw [decide_eq_true (by omega)] at hhas
  have m1 := n_has_m k w0 pn pc d0
  have c3 := st0.c3
  obtain ⟨fn, n1, n2, n3⟩ := n_min_no k w0 Fn pn cap hs E st0.ne h h1 h2 hi
  have hnot : w.heap.size ∉ s :: (Fa ++ Fn) := fun e => Nat.lt_irrefl _ (hlt _ e)
  have hfin : ∀ v0 v1, FirstNo w (s :: (Fa ++ Fn)) s k cap hs E q most G (.returned (.tuple #[.agg #[.int .i64 0,.int .u32 0],.int .i64 172])) ((w0.setCell ⟨w.heap.size,0,none⟩ v0).setCell ⟨w.heap.size,1,none⟩ v1) := fun v0 v1 => by
    have kR : Keeps [w.heap.size] w0 ((w0.setCell ⟨w.heap.size,0,none⟩ v0).setCell ⟨w.heap.size,1,none⟩ v1) := ((Keeps.refl _ _).setCell (.inl (by simp)) _).setCell (.inl (by simp)) _
    exact ⟨rfl,⟨pa, pn, Fa, Fn, c1, c2,rfl, st0.keep kR (fun b hb e => hnot (by simp only [List.mem_singleton] at e; exact e ▸ hb))⟩,(k0.mono (T := s :: (Fa ++ Fn)) (by simp)).trans kR (fun b hb => .inr (by simp only [List.mem_singleton] at hb; omega))⟩
  have HF := Lib.hid hfin
  have g2 : w0.cell? ⟨w.heap.size,0,none⟩ = some (.int .i64 0) := by rw [cell_of_blk b6]; rfl
  have g3 : w0.cell? ⟨w.heap.size,1,none⟩ = some (.int .u32 0) := by rw [cell_of_blk b6]; rfl
  have g4 : w0.frozen? ⟨w.heap.size,0,none⟩ = false := frozen_of_blk b6
  have g5 : w0.frozen? ⟨w.heap.size,1,none⟩ = false := frozen_of_blk b6
  have hblk := blk_setCell (i := 1) (.int .u32 0) (blk_setCell (i := 0) (.int .i64 0) b6)
  have HB := Lib.hid hblk
  clear hfin st st0 ce d0 hlt k0 b6 hi hblk
  go_enter Tryz.func55, Tryz.ntmps55
  go_upto_region 1 with fail
  rw [<- hw0]
  clear hw0
  go_wp2_with (first
    | (go_at_call 301; refine hhas.mono ?_; rintro e w' ⟨rfl,rfl⟩)
    | (refine n3.mono ?_; rintro e w1 ⟨rfl,rfl⟩))
  refine bodyPost_ret (v := .tuple #[.agg #[.int .i64 0,.int .u32 0],.int .i64 172]) ?_ rfl (HF.out _ _)
  refine (results_cell2 (p := 4) (u := 5) rfl _ _ w.heap.size 45 #[.int .i64 0,.int .u32 0] (0,0) _ (by simp) ?_ Tryz.underlying45 rfl (by kernel_rfl)).trans ?_
  · have := HB.out
    simpa using this
  · simp
end
end Go.Proofs.YtkdbjelhkfdfjaaGreatDoor


/-
  Contracts that the law rests on. Conditions: none.
-/
import Derived.Test.YtkdbjelhkfdfjaaGreatDoorQt06
import Derived.Test.YtkdbjelhkfdfjaaGreatDoorQt07
import Derived.Test.YtkdbjelhkfdfjaaGreatDoorQt09
import Derived.Below
import Derived.ChangeOld
import Derived.Deep.Slices
import Derived.Deep.Strs
import Derived.OpenShut
import Derived.ProofKit
import Derived.ShutString
set_option linter.unusedVariables false
set_option maxRecDepth 100000
set_option maxHeartbeats 16000000
namespace Go.Proofs.YtkdbjelhkfdfjaaGreatDoor
open Go.RowKit
section
variable (w : World) (F : List Nat) (s k cap hs : Nat) (E : Ent) (q : Nat) (most : Int) (G : Nat -> Nat)
def MinYes (h : Nat) (e : Ending) (w' : World) : Prop :=
  ∃ (x n : Nat) (key : Int), least E h x ∧ E x = some (h, key, n) ∧ e = .returned (.tuple #[.agg #[.int .i64 x,.int .u32 (G x : Nat)],.int .i64 key,.int .i64 0]) ∧ StoreAt w' F s k cap hs E q most G ∧ Keeps F w w'
def MinNo (e : Ending) (w' : World) : Prop :=
  e = .returned (.tuple #[.agg #[.int .i64 0,.int .u32 0],.int .i64 0,.int .i64 172]) ∧ StoreAt w' F s k cap hs E q most G ∧ Keeps F w w'
theorem pq_min_yes (c : StoreAt w F s k cap hs E q most G) (h : Nat) (h1 : 1 <= h) (h2 : h <= hs) (hi : ∃ y, isIn E h y) :
    Calls Tryz.prog 32 #[.pointer (some ⟨s,0,none⟩),.int .i64 h] w (MinYes w F s k cap hs E q most G h) := by
  have hlt := c.lt
  obtain ⟨w0, hw0⟩ : ∃ w0, w0 = w.alloc (.cells #[.int .i64 0,.int .u32 0] 45 (0,0)) := ⟨_,rfl⟩
  have k0 : Keeps [] w w0 := by rw [hw0]; exact (Keeps.refl _ _).alloc _
  have hb0 : w0.heap[w.heap.size]? = some (.cells #[.int .i64 0,.int .u32 0] 45 (0,0)) := by rw [hw0]; exact blk_alloc_new _
  have hfirst := pq_first_yes w0 F s k cap hs E q most G (c.keep k0 (by simp)) h h1 h2 hi
  have hnot : w.heap.size ∉ F := fun e => Nat.lt_irrefl _ (hlt _ e)
  have hstep : ∀ (w1 : World) (x : Nat), least E h x -> StoreAt w1 F s k cap hs E q most G -> Keeps F w0 w1 ->
      ∃ (n : Nat) (key : Int), E x = some (h, key, n) ∧ Hid (Calls Tryz.prog 49 #[.pointer (some ⟨s,0,none⟩),.agg #[.int .i64 x,.int .u32 (G x : Nat)]] (w1.alloc (.cells #[.int .i64 (x : Int),.int .u32 (G x : Int)] 45 (0,0))) fun e w2 => e = .returned (.tuple #[.agg #[.int .i64 key,.int .u64 (n : Int)],.int .i64 0]) ∧
        (w2.alloc (.cells #[.int .i64 key,.int .u64 (n : Int)] 104 (0,0))).heap[w1.heap.size]? = some (.cells #[.int .i64 (x : Int),.int .u32 (G x : Int)] 45 (0,0)) ∧
        (w2.alloc (.cells #[.int .i64 key,.int .u64 (n : Int)] 104 (0,0))).heap[w.heap.size]? = some (.cells #[.int .i64 0,.int .u32 0] 45 (0,0)) ∧ w.heap.size ≠ w1.heap.size ∧ w.heap.size ≠ w2.heap.size ∧
        Hid (∀ v0 v1, MinYes w F s k cap hs E q most G h (.returned (.tuple #[.agg #[.int .i64 x,.int .u32 (G x : Nat)],.int .i64 key,.int .i64 0])) (((w2.alloc (.cells #[.int .i64 key,.int .u64 (n : Int)] 104 (0,0))).setCell ⟨w.heap.size,0,none⟩ v0).setCell ⟨w.heap.size,1,none⟩ v1).drew)) := by
    intro w1 x hl c1 k1
    obtain ⟨⟨key, n⟩, he⟩ := hl.1
    have kA : Keeps [] w1 (w1.alloc (.cells #[.int .i64 (x : Int),.int .u32 (G x : Int)] 45 (0,0))) := (Keeps.refl _ _).alloc _
    have hA : (w1.alloc (.cells #[.int .i64 (x : Int),.int .u32 (G x : Int)] 45 (0,0))).heap[w1.heap.size]? = some (.cells #[.int .i64 (x : Int),.int .u32 (G x : Int)] 45 (0,0)) := blk_alloc_new _
    have cA := c1.keep kA (by simp)
    refine ⟨n, key, he,(pq_entry _ F s k cap hs E q most G cA x h n key he).mono ?_⟩
    rintro e w2 ⟨rfl, k2⟩
    have kB : Keeps [] w2 (w2.alloc (.cells #[.int .i64 key,.int .u64 (n : Int)] 104 (0,0))) := (Keeps.refl _ _).alloc _
    have kk := k2.trans kB (by simp)
    have kk1 := kA.trans kk (by simp)
    have s0 : w.heap.size < w0.heap.size := lt_of_block hb0
    have s1 := k1.size
    have s2 := (kA.trans k2 (by simp)).size
    refine ⟨rfl, kk.blk hA (by simp), kk1.blk (k1.blk hb0 hnot) (by simp),by omega,by omega,fun v0 v1 => ⟨x, n, key, hl, he,rfl,?_,?_⟩⟩
    · refine ((c1.keep kk1 (by simp)).keep (T := [w.heap.size]) (((Keeps.refl _ _).setCell (.inl (by simp)) _).setCell (.inl (by simp)) _).drew (fun b hb e => hnot (by simp only [List.mem_singleton] at e; exact e ▸ hb)))
    · exact (((((k0.mono (T := F) (by simp)).trans k1 (fun b hb => .inl hb)).trans kk1 (by simp)).setCell (.inr (by simp)) _).setCell (.inr (by simp)) _).drew
  have HS := Lib.hid hstep
  clear hstep c hlt k0 hi hb0
  go_enter Tryz.func32, Tryz.ntmps32
  go_upto_region 1 with fail
  rw [<- hw0]
  clear hw0
  go_upto_region 4 with (go_at_call 55; refine hfirst.mono ?_; rintro e w1 ⟨x, hl,rfl, c1, k1⟩; obtain ⟨n, key, he, z⟩ := HS.out w1 x hl c1 k1; clear hl c1 k1 he)
  clear hfirst HS
  have g0 : (w1.alloc (.cells #[.int .i64 (x : Int),.int .u32 (G x : Int)] 45 (0,0))).cell? ⟨w1.heap.size,0,none⟩ = some (.int .i64 (x : Int)) := by rw [cell_of_blk (blk_alloc_new _)]; rfl
  have g1 : (w1.alloc (.cells #[.int .i64 (x : Int),.int .u32 (G x : Int)] 45 (0,0))).cell? ⟨w1.heap.size,1,none⟩ = some (.int .u32 (G x : Int)) := by rw [cell_of_blk (blk_alloc_new _)]; rfl
  go_upto_region 5 with (go_at_call 49; refine z.out.mono ?_; rintro e w2 ⟨rfl, b1, b0, n1, n2, hfin⟩)
  clear g0 g1 z
  have t0 : (w2.alloc (.cells #[.int .i64 key,.int .u64 (n : Int)] 104 (0,0))).cell? ⟨w2.heap.size,0,none⟩ = some (.int .i64 key) := by rw [cell_of_blk (blk_alloc_new _)]; rfl
  generalize w2.alloc (.cells #[.int .i64 key,.int .u64 (n : Int)] 104 (0,0)) = w3 at *
  generalize w2.heap.size = bb at *
  have g0 : w3.cell? ⟨w1.heap.size,0,none⟩ = some (.int .i64 (x : Int)) := by rw [cell_of_blk b1]; rfl
  have g1 : w3.cell? ⟨w1.heap.size,1,none⟩ = some (.int .u32 (G x : Int)) := by rw [cell_of_blk b1]; rfl
  have g2 : w3.cell? ⟨w.heap.size,0,none⟩ = some (.int .i64 0) := by rw [cell_of_blk b0]; rfl
  have g3 : w3.cell? ⟨w.heap.size,1,none⟩ = some (.int .u32 0) := by rw [cell_of_blk b0]; rfl
  have g4 : w3.frozen? ⟨w.heap.size,0,none⟩ = false := frozen_of_blk b0
  have g5 : w3.frozen? ⟨w.heap.size,1,none⟩ = false := frozen_of_blk b0
  have hblk := blk_setCell (i := 1) (.int .u32 (G x : Int)) (blk_setCell (i := 0) (.int .i64 (x : Int)) b0)
  have HB := Lib.hid hblk
  clear hblk b0 b1
  generalize w1.heap.size = ba at *
  go_region_held3 (fun u => u.cell? ⟨ba,0,none⟩ = some (.int .i64 (x : Int)) ∧ u.cell? ⟨ba,1,none⟩ = some (.int .u32 (G x : Int)) ∧ u.cell? ⟨bb,0,none⟩ = some (.int .i64 key))
    (first | exact ⟨g0, g1, t0⟩ | exact ⟨cell_set_ne n1.symm g0, cell_set_ne n1.symm g1, cell_set_ne n2.symm t0⟩ | exact ⟨cell_set_ne n1.symm (cell_set_ne n1.symm g0), cell_set_ne n1.symm (cell_set_ne n1.symm g1), cell_set_ne n2.symm (cell_set_ne n2.symm t0)⟩) (fail)
  all_goals
    clear g0 g1 g2 g3 g4 g5 t0
    go_wp2_with fail
    refine bodyPost_ret (v := .tuple #[.agg #[.int .i64 (x : Int),.int .u32 (G x : Int)],.int .i64 key,.int .i64 0]) ?_ rfl (hfin.out _ _)
    refine (results_cell3 (p := 4) (u := 5) (v := 6) rfl _ _ w.heap.size 45 #[.int .i64 (x : Int),.int .u32 (G x : Int)] (0,0) _ (by simp) ?_ Tryz.underlying45 rfl (by kernel_rfl)).trans ?_
    · show ((w3.setCell _ _).setCell _ _).heap[w.heap.size]? = _
      have := HB.out
      simpa using this
    · simp
theorem pq_min_no (c : StoreAt w F s k cap hs E q most G) (h : Nat) (h1 : 1 <= h) (h2 : h <= hs) (hi : ∀ y, ¬ isIn E h y) :
    Calls Tryz.prog 32 #[.pointer (some ⟨s,0,none⟩),.int .i64 h] w (MinNo w F s k cap hs E q most G) := by
  have hlt := c.lt
  obtain ⟨w0, hw0⟩ : ∃ w0, w0 = w.alloc (.cells #[.int .i64 0,.int .u32 0] 45 (0,0)) := ⟨_,rfl⟩
  have k0 : Keeps [] w w0 := by rw [hw0]; exact (Keeps.refl _ _).alloc _
  have hb0 : w0.heap[w.heap.size]? = some (.cells #[.int .i64 0,.int .u32 0] 45 (0,0)) := by rw [hw0]; exact blk_alloc_new _
  have hfirst := pq_first_no w0 F s k cap hs E q most G (c.keep k0 (by simp)) h h1 h2 hi
  have hnot : w.heap.size ∉ F := fun e => Nat.lt_irrefl _ (hlt _ e)
  have hstep : ∀ (w1 : World), StoreAt w1 F s k cap hs E q most G -> Keeps F w0 w1 ->
      (w1.alloc (.cells #[.int .i64 0,.int .u32 0] 45 (0,0))).heap[w.heap.size]? = some (.cells #[.int .i64 0,.int .u32 0] 45 (0,0)) ∧
        Hid (∀ v0 v1, MinNo w F s k cap hs E q most G (.returned (.tuple #[.agg #[.int .i64 0,.int .u32 0],.int .i64 0,.int .i64 172])) (((w1.alloc (.cells #[.int .i64 0,.int .u32 0] 45 (0,0))).setCell ⟨w.heap.size,0,none⟩ v0).setCell ⟨w.heap.size,1,none⟩ v1)) := by
    intro w1 c1 k1
    have kA : Keeps [] w1 (w1.alloc (.cells #[.int .i64 0,.int .u32 0] 45 (0,0))) := (Keeps.refl _ _).alloc _
    refine ⟨kA.blk (k1.blk hb0 hnot) (by simp),fun v0 v1 => ⟨rfl,?_,?_⟩⟩
    · exact (c1.keep kA (by simp)).keep (T := [w.heap.size]) (((Keeps.refl _ _).setCell (.inl (by simp)) _).setCell (.inl (by simp)) _) (fun b hb e => hnot (by simp only [List.mem_singleton] at e; exact e ▸ hb))
    · exact ((((k0.mono (T := F) (by simp)).trans k1 (fun b hb => .inl hb)).trans kA (by simp)).setCell (.inr (by simp)) _).setCell (.inr (by simp)) _
  have HS := Lib.hid hstep
  clear hstep c hlt k0 hi hb0
  go_enter Tryz.func32, Tryz.ntmps32
  go_upto_region 1 with fail
  rw [<- hw0]
  clear hw0
  go_upto_region 3 with (go_at_call 55; refine hfirst.mono ?_; rintro e w1 ⟨rfl, c1, k1⟩; obtain ⟨b6, hfin⟩ := HS.out w1 c1 k1; clear c1 k1)
  clear hfirst HS
  generalize w1.alloc (.cells #[.int .i64 0,.int .u32 0] 45 (0,0)) = w3 at *
  have g2 : w3.cell? ⟨w.heap.size,0,none⟩ = some (.int .i64 0) := by rw [cell_of_blk b6]; rfl
  have g3 : w3.cell? ⟨w.heap.size,1,none⟩ = some (.int .u32 0) := by rw [cell_of_blk b6]; rfl
  have g4 : w3.frozen? ⟨w.heap.size,0,none⟩ = false := frozen_of_blk b6
  have g5 : w3.frozen? ⟨w.heap.size,1,none⟩ = false := frozen_of_blk b6
  have hblk := blk_setCell (i := 1) (.int .u32 0) (blk_setCell (i := 0) (.int .i64 0) b6)
  have HB := Lib.hid hblk
  clear hblk b6
  go_wp2_with fail
  refine bodyPost_ret (v := .tuple #[.agg #[.int .i64 0,.int .u32 0],.int .i64 0,.int .i64 172]) ?_ rfl (hfin.out _ _)
  refine (results_cell3 (p := 4) (u := 5) (v := 6) rfl _ _ w.heap.size 45 #[.int .i64 0,.int .u32 0] (0,0) _ (by simp) ?_ Tryz.underlying45 rfl (by kernel_rfl)).trans ?_
  · have := HB.out
    simpa using this
  · simp
end
section
variable (w : World) (F : List Nat) (s k cap hs : Nat) (E : Ent) (q : Nat) (most : Int) (G : Nat -> Nat)
def ExtYes (h : Nat) (e : Ending) (w' : World) : Prop :=
  ∃ (x n : Nat) (key : Int), least E h x ∧ E x = some (h, key, n) ∧ e = .returned (.tuple #[.agg #[.int .i64 x,.int .u32 (G x : Nat)],.int .i64 key,.int .i64 0]) ∧
    ∃ F', StoreAt w' F' s k cap hs (put E x none) q most G ∧ Moved F w F' w'
theorem pq_extract_yes (c : StoreAt w F s k cap hs E q most G) (h : Nat) (h1 : 1 <= h) (h2 : h <= hs) (hi : ∃ y, isIn E h y) :
    Calls Tryz.prog 31 #[.pointer (some ⟨s,0,none⟩),.int .i64 h] w (ExtYes w F s k cap hs E q most G h) := by
  have hlt := c.lt
  obtain ⟨w0, hw0⟩ : ∃ w0, w0 = w.alloc (.cells #[.int .i64 0,.int .u32 0] 45 (0,0)) := ⟨_,rfl⟩
  have k0 : Keeps [] w w0 := by rw [hw0]; exact (Keeps.refl _ _).alloc _
  have hb0 : w0.heap[w.heap.size]? = some (.cells #[.int .i64 0,.int .u32 0] 45 (0,0)) := by rw [hw0]; exact blk_alloc_new _
  have hmin := pq_min_yes w0 F s k cap hs E q most G (c.keep k0 (by simp)) h h1 h2 hi
  have hnot : w.heap.size ∉ F := fun e => Nat.lt_irrefl _ (hlt _ e)
  have hstep : ∀ (w1 : World) (x n : Nat) (key : Int), least E h x -> E x = some (h, key, n) -> StoreAt w1 F s k cap hs E q most G -> Keeps F w0 w1 ->
      ∃ (pa pn : Nat) (fn : FuncId),(w1.alloc (.cells #[.int .i64 (x : Int),.int .u32 (G x : Int)] 45 (0,0))).cell? ⟨s,3,none⟩ = some (.iface (nTy k) (.pointer (some ⟨pn,0,none⟩))) ∧
        (∀ u,(method 588 (nTy k) (.pointer (some ⟨pn,0,none⟩)) "Extract").run Tryz.prog u = .ok (fn,.pointer (some ⟨pn,0,none⟩)) u) ∧ (∀ args u,(callFunc fn args).run Tryz.prog u = .ok (.enter fn args) u) ∧
        Hid (Calls Tryz.prog fn #[.pointer (some ⟨pn,0,none⟩),.int .i64 h] (w1.alloc (.cells #[.int .i64 (x : Int),.int .u32 (G x : Int)] 45 (0,0))) fun e w2 => ∃ v, e = .returned v ∧
          w2.cell? ⟨s,2,none⟩ = some (.pointer (some ⟨pa,0,none⟩)) ∧ w2.cell? ⟨w1.heap.size,0,none⟩ = some (.int .i64 (x : Int)) ∧ w2.cell? ⟨w1.heap.size,1,none⟩ = some (.int .u32 (G x : Int)) ∧
          Hid (Calls Tryz.prog 50 #[.pointer (some ⟨pa,0,none⟩),.agg #[.int .i64 x,.int .u32 (G x : Nat)]] w2.drew fun e w3 => e = .returned (.int .i64 0) ∧
            w3.heap[w1.heap.size]? = some (.cells #[.int .i64 (x : Int),.int .u32 (G x : Int)] 45 (0,0)) ∧ w3.heap[w.heap.size]? = some (.cells #[.int .i64 0,.int .u32 0] 45 (0,0)) ∧
            Hid (∀ v0 v1, ExtYes w F s k cap hs E q most G h (.returned (.tuple #[.agg #[.int .i64 x,.int .u32 (G x : Nat)],.int .i64 key,.int .i64 0])) ((w3.setCell ⟨w.heap.size,0,none⟩ v0).setCell ⟨w.heap.size,1,none⟩ v1)))) := by
    intro w1 x n key hl he c1 k1
    have kA : Keeps [] w1 (w1.alloc (.cells #[.int .i64 (x : Int),.int .u32 (G x : Int)] 45 (0,0))) := (Keeps.refl _ _).alloc _
    have hA : (w1.alloc (.cells #[.int .i64 (x : Int),.int .u32 (G x : Int)] 45 (0,0))).heap[w1.heap.size]? = some (.cells #[.int .i64 (x : Int),.int .u32 (G x : Int)] 45 (0,0)) := blk_alloc_new _
    have hl1 := c1.lt
    have hrA := kA.blk (k1.blk hb0 hnot) (by simp)
    obtain ⟨pa, pn, Fa, Fn, d1, d2,rfl, st⟩ := c1.keep kA (by simp)
    have s0 : w.heap.size < w0.heap.size := lt_of_block hb0
    have s1 := k1.size
    have sA := kA.size
    obtain ⟨fn, m1, m2, m3⟩ := n_extract k _ Fn pn cap hs E st.ne h h1 h2 hi
    refine ⟨pa, pn, fn, st.c3, m1, m2, m3.mono ?_⟩
    rintro e w2 ⟨x',rfl, hl', Fn', hn2, hm2⟩
    have hxx := hl'.one hl
    subst hxx
    have hxn : w1.heap.size ∉ s :: (Fa ++ Fn) := fun e => Nat.lt_irrefl _ (hl1 _ e)
    have b2 := hm2.keeps.blk st.blk st.sn
    have hA2 := hm2.keeps.blk hA (fun e => hxn (by simp [e]))
    have hr2 := hm2.keeps.blk hrA (fun e => hnot (by simp [e]))
    have kd : Keeps [] w2 w2.drew := ⟨rfl,rfl,rfl, Nat.le_refl _,fun _ _ _ => rfl⟩
    have arA := st.ar
    have ar2 : AreAt w2.drew Fa pa cap most G (fun y => (E y).isSome) := (arA.keep hm2.keeps st.an).keep kd (by simp)
    have hxc := st.ne.ok.lt x' hl.1.some
    refine ⟨_,rfl,by rw [cell_of_blk b2]; rfl,by rw [cell_of_blk hA2]; rfl,by rw [cell_of_blk hA2]; rfl,(are_give ar2 x' hxc hl.1.some).mono ?_⟩
    rintro e w3 ⟨rfl, Fa', ha3, hm3⟩
    have k23 : Keeps Fa w2 w3 := (kd.mono (T := Fa) (by simp)).trans hm3.keeps (fun b hb => .inl hb)
    have s2 := hm2.keeps.size
    have lA := st.lt
    have hFn' : ∀ b, b ∉ Fn -> b < (w1.alloc (.cells #[.int .i64 (x' : Int),.int .u32 (G x' : Int)] 45 (0,0))).heap.size -> b ∉ Fn' := fun b a1 a2 a3 => by
      rcases hm2.from' b a3 with c | c
      · exact a1 c
      · omega
    have hFa' : ∀ b, b ∉ Fa -> b < w2.heap.size -> b ∉ Fa' := fun b a1 a2 a3 => by
      rcases hm3.from' b a3 with c | c
      · exact a1 c
      · have : w2.heap.size <= b := c; omega
    have hxa : w1.heap.size ∉ Fa := fun e => hxn (by simp [e])
    have hra : w.heap.size ∉ Fa := fun e => hnot (by simp [e])
    have ln2 := hn2.lt
    have sa2 := hFa' s st.sa (lt_of_block b2)
    have anf : ∀ b ∈ Fa, b ∉ Fn' := fun b hb => hFn' b (st.an b hb) (arA.lt b hb)
    refine ⟨rfl, k23.blk hA2 hxa, k23.blk hr2 hra,fun v0 v1 => ⟨x', n, key, hl, he,rfl,?_⟩⟩
    have hq3 : StoreQ w3 s pa pn Fa' Fn' d1 d2 k cap hs (put E x' none) q most G := by
      refine ⟨k23.blk b2 st.sa,?_, hn2.keep k23 (fun b hb e => anf b e hb), sa2, hFn' s st.sn (lA s (by simp)),fun b hb => ?_,fun y g kk m e => ?_,fun y z g kk m g' kk' e e' => ?_, st.gq⟩
      · have e : (fun y => (put E x' none y).isSome) = upd (fun y => (E y).isSome) x' false := by
          funext y
          by_cases c : y = x'
          · subst c; rw [put_same, upd_same]; rfl
          · rw [put_other _ _ _ c, upd_other _ _ c]
        rw [e]; exact ha3
      · rcases hm3.from' b hb with c | c
        · exact anf b c
        · intro f; have := ln2 b f; have : w2.heap.size <= b := c; omega
      · by_cases c : y = x'
        · subst c; rw [put_same] at e; cases e
        · rw [put_other _ _ _ c] at e; exact st.sq y g kk m e
      · by_cases c : y = x'
        · subst c; rw [put_same] at e; cases e
        · by_cases d : z = x'
          · subst d; rw [put_same] at e'; cases e'
          · rw [put_other _ _ _ c] at e; rw [put_other _ _ _ d] at e'; exact st.uq y z g kk m g' kk' e e'
    have kR : Keeps [w.heap.size] w3 ((w3.setCell ⟨w.heap.size,0,none⟩ v0).setCell ⟨w.heap.size,1,none⟩ v1) := ((Keeps.refl _ _).setCell (.inl (by simp)) _).setCell (.inl (by simp)) _
    have hnF : ∀ b ∈ s :: (Fa' ++ Fn'), b ≠ w.heap.size := fun b hb e => by
      subst e
      simp only [List.mem_cons, List.mem_append] at hb
      rcases hb with e | e | e
      · exact hnot (by simp [e])
      · exact hFa' _ hra (by omega) e
      · exact hFn' _ (fun f => hnot (by simp [f])) (by omega) e
    have hq4 := hq3.keep kR (fun b hb e => hnF b hb (by simpa using e))
    refine ⟨_,⟨pa, pn, Fa', Fn', d1, d2,rfl, hq4⟩,?_,fun b hb => ?_, hq4.lt⟩
    · refine (((((k0.mono (T := s :: (Fa ++ Fn)) (by simp)).trans k1 (fun b hb => .inl hb)).trans kA (by simp)).trans hm2.keeps (fun b hb => .inl (by simp [hb]))).trans k23 (fun b hb => .inl (by simp [hb]))).trans kR (fun b hb => .inr (by simp only [List.mem_singleton] at hb; omega))
    · simp only [List.mem_cons, List.mem_append] at hb ⊢
      rcases hb with e | e | e
      · exact .inl (.inl e)
      · rcases hm3.from' b e with c | c
        · exact .inl (.inr (.inl c))
        · have : w2.heap.size <= b := c
          exact .inr (by omega)
      · rcases hm2.from' b e with c | c
        · exact .inl (.inr (.inr c))
        · exact .inr (by omega)
  have HS := Lib.hid hstep
  clear hstep c hlt k0 hi hb0
  go_enter Tryz.func31, Tryz.ntmps31
  go_upto_region 1 with fail
  rw [<- hw0]
  clear hw0
  go_upto_region 4 with (go_at_call 32; refine hmin.mono ?_; rintro e w1 ⟨x, n, key, hl, he,rfl, c1, k1⟩; obtain ⟨pa, pn, fn, z1, m1, m2, z2⟩ := HS.out w1 x n key hl he c1 k1; clear hl he c1 k1)
  clear hmin HS
  go_upto_region 5 with (refine z2.out.mono ?_; rintro e w2 ⟨v,rfl, y1, y2, y3, y4⟩)
  clear z1 z2 m1 m2
  go_region_law (first
    | (go_simp; go_at_call 50; refine y4.out.mono ?_; rintro e w3 ⟨rfl, b1, b0, hfin⟩))
  all_goals
    clear y1 y2 y3 y4
    have g0 : w3.cell? ⟨w1.heap.size,0,none⟩ = some (.int .i64 (x : Int)) := by rw [cell_of_blk b1]; rfl
    have g1 : w3.cell? ⟨w1.heap.size,1,none⟩ = some (.int .u32 (G x : Int)) := by rw [cell_of_blk b1]; rfl
    have g2 : w3.cell? ⟨w.heap.size,0,none⟩ = some (.int .i64 0) := by rw [cell_of_blk b0]; rfl
    have g3 : w3.cell? ⟨w.heap.size,1,none⟩ = some (.int .u32 0) := by rw [cell_of_blk b0]; rfl
    have g4 : w3.frozen? ⟨w.heap.size,0,none⟩ = false := frozen_of_blk b0
    have g5 : w3.frozen? ⟨w.heap.size,1,none⟩ = false := frozen_of_blk b0
    have hblk := blk_setCell (i := 1) (.int .u32 (G x : Int)) (blk_setCell (i := 0) (.int .i64 (x : Int)) b0)
    have HB := Lib.hid hblk
    clear hblk b0 b1
    go_wp2_with fail
    refine bodyPost_ret (v := .tuple #[.agg #[.int .i64 (x : Int),.int .u32 (G x : Int)],.int .i64 key,.int .i64 0]) ?_ rfl (hfin.out _ _)
    refine (results_cell3 (p := 4) (u := 5) (v := 6) rfl _ _ w.heap.size 45 #[.int .i64 (x : Int),.int .u32 (G x : Int)] (0,0) _ (by simp) ?_ Tryz.underlying45 rfl (by kernel_rfl)).trans ?_
    · have := HB.out
      simpa using this
    · simp
theorem pq_extract_no (c : StoreAt w F s k cap hs E q most G) (h : Nat) (h1 : 1 <= h) (h2 : h <= hs) (hi : ∀ y, ¬ isIn E h y) :
    Calls Tryz.prog 31 #[.pointer (some ⟨s,0,none⟩),.int .i64 h] w (MinNo w F s k cap hs E q most G) := by
  have hlt := c.lt
  obtain ⟨w0, hw0⟩ : ∃ w0, w0 = w.alloc (.cells #[.int .i64 0,.int .u32 0] 45 (0,0)) := ⟨_,rfl⟩
  have k0 : Keeps [] w w0 := by rw [hw0]; exact (Keeps.refl _ _).alloc _
  have hb0 : w0.heap[w.heap.size]? = some (.cells #[.int .i64 0,.int .u32 0] 45 (0,0)) := by rw [hw0]; exact blk_alloc_new _
  have hfirst := pq_min_no w0 F s k cap hs E q most G (c.keep k0 (by simp)) h h1 h2 hi
  have hnot : w.heap.size ∉ F := fun e => Nat.lt_irrefl _ (hlt _ e)
  have hstep : ∀ (w1 : World), StoreAt w1 F s k cap hs E q most G -> Keeps F w0 w1 ->
      (w1.alloc (.cells #[.int .i64 0,.int .u32 0] 45 (0,0))).heap[w.heap.size]? = some (.cells #[.int .i64 0,.int .u32 0] 45 (0,0)) ∧
        Hid (∀ v0 v1, MinNo w F s k cap hs E q most G (.returned (.tuple #[.agg #[.int .i64 0,.int .u32 0],.int .i64 0,.int .i64 172])) (((w1.alloc (.cells #[.int .i64 0,.int .u32 0] 45 (0,0))).setCell ⟨w.heap.size,0,none⟩ v0).setCell ⟨w.heap.size,1,none⟩ v1)) := by
    intro w1 c1 k1
    have kA : Keeps [] w1 (w1.alloc (.cells #[.int .i64 0,.int .u32 0] 45 (0,0))) := (Keeps.refl _ _).alloc _
    refine ⟨kA.blk (k1.blk hb0 hnot) (by simp),fun v0 v1 => ⟨rfl,?_,?_⟩⟩
    · exact (c1.keep kA (by simp)).keep (T := [w.heap.size]) (((Keeps.refl _ _).setCell (.inl (by simp)) _).setCell (.inl (by simp)) _) (fun b hb e => hnot (by simp only [List.mem_singleton] at e; exact e ▸ hb))
    · exact ((((k0.mono (T := F) (by simp)).trans k1 (fun b hb => .inl hb)).trans kA (by simp)).setCell (.inr (by simp)) _).setCell (.inr (by simp)) _
  have HS := Lib.hid hstep
  clear hstep c hlt k0 hi hb0
  go_enter Tryz.func31, Tryz.ntmps31
  go_upto_region 1 with fail
  rw [<- hw0]
  clear hw0
  go_upto_region 3 with (go_at_call 32; refine hfirst.mono ?_; rintro e w1 ⟨rfl, c1, k1⟩; obtain ⟨b6, hfin⟩ := HS.out w1 c1 k1; clear c1 k1)
  clear hfirst HS
  generalize w1.alloc (.cells #[.int .i64 0,.int .u32 0] 45 (0,0)) = w3 at *
  have g2 : w3.cell? ⟨w.heap.size,0,none⟩ = some (.int .i64 0) := by rw [cell_of_blk b6]; rfl
  have g3 : w3.cell? ⟨w.heap.size,1,none⟩ = some (.int .u32 0) := by rw [cell_of_blk b6]; rfl
  have g4 : w3.frozen? ⟨w.heap.size,0,none⟩ = false := frozen_of_blk b6
  have g5 : w3.frozen? ⟨w.heap.size,1,none⟩ = false := frozen_of_blk b6
  have hblk := blk_setCell (i := 1) (.int .u32 0) (blk_setCell (i := 0) (.int .i64 0) b6)
  have HB := Lib.hid hblk
  clear hblk b6
  go_wp2_with fail
  refine bodyPost_ret (v := .tuple #[.agg #[.int .i64 0,.int .u32 0],.int .i64 0,.int .i64 172]) ?_ rfl (hfin.out _ _)
  refine (results_cell3 (p := 4) (u := 5) (v := 6) rfl _ _ w.heap.size 45 #[.int .i64 0,.int .u32 0] (0,0) _ (by simp) ?_ Tryz.underlying45 rfl (by kernel_rfl)).trans ?_
  · have := HB.out
    simpa using this
  · simp
end
section
variable (w : World) (v : Value)
theorem made_dary : Calls Tryz.prog 56 #[v,.int .i64 0] w fun e w' => e = .returned (.tuple #[.iface 148 v,.int .i64 0]) ∧ w = w' := by
  go_enter Tryz.func56, Tryz.ntmps56
  go_wp2_with fail
  go_ret2
  exact ⟨rfl,rfl⟩
theorem made_binomial : Calls Tryz.prog 59 #[v,.int .i64 0] w fun e w' => e = .returned (.tuple #[.iface 152 v,.int .i64 0]) ∧ w = w' := by
  go_enter Tryz.func59, Tryz.ntmps59
  go_wp2_with fail
  go_ret2
  exact ⟨rfl,rfl⟩
theorem made_pairing : Calls Tryz.prog 61 #[v,.int .i64 0] w fun e w' => e = .returned (.tuple #[.iface 156 v,.int .i64 0]) ∧ w = w' := by
  go_enter Tryz.func61, Tryz.ntmps61
  go_wp2_with fail
  go_ret2
  exact ⟨rfl,rfl⟩
theorem made_fibonacci : Calls Tryz.prog 63 #[v,.int .i64 0] w fun e w' => e = .returned (.tuple #[.iface 160 v,.int .i64 0]) ∧ w = w' := by
  go_enter Tryz.func63, Tryz.ntmps63
  go_wp2_with fail
  go_ret2
  exact ⟨rfl,rfl⟩
theorem made_leftist : Calls Tryz.prog 65 #[v,.int .i64 0] w fun e w' => e = .returned (.tuple #[.iface 164 v,.int .i64 0]) ∧ w = w' := by
  go_enter Tryz.func65, Tryz.ntmps65
  go_wp2_with fail
  go_ret2
  exact ⟨rfl,rfl⟩
theorem made_skew : Calls Tryz.prog 67 #[v,.int .i64 0] w fun e w' => e = .returned (.tuple #[.iface 168 v,.int .i64 0]) ∧ w = w' := by
  go_enter Tryz.func67, Tryz.ntmps67
  go_wp2_with fail
  go_ret2
  exact ⟨rfl,rfl⟩
theorem made_shed : Calls Tryz.prog 69 #[v,.int .i64 0] w fun e w' => e = .returned (.tuple #[.iface 172 v,.int .i64 0]) ∧ w = w' := by
  go_enter Tryz.func69, Tryz.ntmps69
  go_wp2_with fail
  go_ret2
  exact ⟨rfl,rfl⟩
end
def NestNew (w : World) (k n : Nat) (e : Ending) (w' : World) : Prop :=
  ∃ (F : List Nat) (p : Nat), e = .returned (.tuple #[.iface (nTy k) (.pointer (some ⟨p,0,none⟩)),.int .i64 0]) ∧ nAt k w' F p n 0 (fun _ => none) ∧ Keeps [] w w' ∧ ∀ b ∈ F, w.heap.size <= b
section
variable (w : World) (a b : Int) (n : Nat)
theorem pq_open_nest (h : okC a b) (hn : n <= 65536) : Calls Tryz.prog 35 #[.agg #[.int .i64 a,.int .i64 b],.int .i64 n] w (NestNew w a.toNat n) := by
  obtain ⟨w0, hw0⟩ : ∃ w0, w0 = w.alloc (.cells #[.int .i64 a,.int .i64 b] 23 (0,0)) := ⟨_,rfl⟩
  have k0 : Keeps [] w w0 := by rw [hw0]; exact (Keeps.refl _ _).alloc _
  have hb0 : w0.heap[w.heap.size]? = some (.cells #[.int .i64 a,.int .i64 b] 23 (0,0)) := by rw [hw0]; exact blk_alloc_new _
  have e0 : w0.cell? ⟨w.heap.size,0,none⟩ = some (.int .i64 a) := by rw [cell_of_blk hb0]; rfl
  have e1 : w0.cell? ⟨w.heap.size,1,none⟩ = some (.int .i64 b) := by rw [cell_of_blk hb0]; rfl
  have hfin : ∀ k w1 w2 (F : List Nat) p, nAt k w2 F p n 0 (fun _ => none) -> Keeps [] w0 w1 -> Keeps [] w1 w2 -> (∀ x ∈ F, w1.heap.size <= x) -> NestNew w k n (.returned (.tuple #[.iface (nTy k) (.pointer (some ⟨p,0,none⟩)),.int .i64 0])) w2 := fun k w1 w2 F p hn2 k1 k2 hF =>
    ⟨F, p,rfl, hn2,(k0.trans k1 (by simp)).trans k2 (by simp),fun x hx => Nat.le_trans (k0.trans k1 (by simp)).size (hF x hx)⟩
  have HF := Lib.hid hfin
  have hor : a = 1 ∨ a = 2 ∨ a = 3 ∨ a = 4 ∨ a = 5 ∨ a = 6 ∨ a = 7 ∨ a = 8 := by unfold okC at h; omega
  have HO := Lib.hid h
  clear hfin k0 hb0 h
  go_enter Tryz.func35, Tryz.ntmps35
  go_upto_region 1 with fail
  rw [<- hw0]
  clear hw0
  rcases hor with rfl | rfl | rfl | rfl | rfl | rfl | rfl | rfl
  · have har := arity_calls w0 1 b HO.out (by simp)
    go_wp2_with (first
      | (go_at_call 58; refine har.mono ?_; rintro e w1 ⟨⟨d,rfl, hd1, hd2⟩, k1⟩; have K1 := Lib.hid k1; clear k1)
      | (go_at_call 57; refine (dary_new w1 n d hn hd1 hd2).mono ?_; rintro e w2 ⟨F, p,rfl, hn2, k2, hF⟩; have H2 := Lib.hid (And.intro hn2 (And.intro k2 hF)); clear hn2 k2 hF)
      | (go_at_call 56; refine (made_dary w2 _).mono ?_; rintro e w3 ⟨rfl,rfl⟩))
    go_ret2
    exact HF.out 1 w1 w2 F p H2.out.1 K1.out H2.out.2.1 H2.out.2.2
  · have har := arity_calls w0 2 b HO.out (by simp)
    go_wp2_with (first
      | (go_at_call 58; refine har.mono ?_; rintro e w1 ⟨⟨d,rfl, hd1, hd2⟩, k1⟩; have K1 := Lib.hid k1; clear k1)
      | (go_at_call 57; refine (dary_new w1 n d hn hd1 hd2).mono ?_; rintro e w2 ⟨F, p,rfl, hn2, k2, hF⟩; have H2 := Lib.hid (And.intro hn2 (And.intro k2 hF)); clear hn2 k2 hF)
      | (go_at_call 56; refine (made_dary w2 _).mono ?_; rintro e w3 ⟨rfl,rfl⟩))
    go_ret2
    exact HF.out 2 w1 w2 F p H2.out.1 K1.out H2.out.2.1 H2.out.2.2
  · go_wp2_with (first
      | (go_at_call 60; refine (bin_new w0 n hn).mono ?_; rintro e w2 ⟨F, p,rfl, hn2, k2, hF⟩; have H2 := Lib.hid (And.intro hn2 (And.intro k2 hF)); clear hn2 k2 hF)
      | (go_at_call 59; refine (made_binomial w2 _).mono ?_; rintro e w3 ⟨rfl,rfl⟩))
    go_ret2
    exact HF.out 3 w0 w2 F p H2.out.1 (Keeps.refl _ _) H2.out.2.1 H2.out.2.2
  · go_wp2_with (first
      | (go_at_call 62; refine (pair_new w0 n hn).mono ?_; rintro e w2 ⟨F, p,rfl, hn2, k2, hF⟩; have H2 := Lib.hid (And.intro hn2 (And.intro k2 hF)); clear hn2 k2 hF)
      | (go_at_call 61; refine (made_pairing w2 _).mono ?_; rintro e w3 ⟨rfl,rfl⟩))
    go_ret2
    exact HF.out 4 w0 w2 F p H2.out.1 (Keeps.refl _ _) H2.out.2.1 H2.out.2.2
  · go_wp2_with (first
      | (go_at_call 64; refine (fib_new w0 n hn).mono ?_; rintro e w2 ⟨F, p,rfl, hn2, k2, hF⟩; have H2 := Lib.hid (And.intro hn2 (And.intro k2 hF)); clear hn2 k2 hF)
      | (go_at_call 63; refine (made_fibonacci w2 _).mono ?_; rintro e w3 ⟨rfl,rfl⟩))
    go_ret2
    exact HF.out 5 w0 w2 F p H2.out.1 (Keeps.refl _ _) H2.out.2.1 H2.out.2.2
  · go_wp2_with (first
      | (go_at_call 66; refine (left_new w0 n hn).mono ?_; rintro e w2 ⟨F, p,rfl, hn2, k2, hF⟩; have H2 := Lib.hid (And.intro hn2 (And.intro k2 hF)); clear hn2 k2 hF)
      | (go_at_call 65; refine (made_leftist w2 _).mono ?_; rintro e w3 ⟨rfl,rfl⟩))
    go_ret2
    exact HF.out 6 w0 w2 F p H2.out.1 (Keeps.refl _ _) H2.out.2.1 H2.out.2.2
  · go_wp2_with (first
      | (go_at_call 68; refine (skew_new w0 n hn).mono ?_; rintro e w2 ⟨F, p,rfl, hn2, k2, hF⟩; have H2 := Lib.hid (And.intro hn2 (And.intro k2 hF)); clear hn2 k2 hF)
      | (go_at_call 67; refine (made_skew w2 _).mono ?_; rintro e w3 ⟨rfl,rfl⟩))
    go_ret2
    exact HF.out 7 w0 w2 F p H2.out.1 (Keeps.refl _ _) H2.out.2.1 H2.out.2.2
  · go_wp2_with (first
      | (go_at_call 70; refine (shed_new w0 n hn).mono ?_; rintro e w2 ⟨F, p,rfl, hn2, k2, hF⟩; have H2 := Lib.hid (And.intro hn2 (And.intro k2 hF)); clear hn2 k2 hF)
      | (go_at_call 69; refine (made_shed w2 _).mono ?_; rintro e w3 ⟨rfl,rfl⟩))
    go_ret2
    exact HF.out 8 w0 w2 F p H2.out.1 (Keeps.refl _ _) H2.out.2.1 H2.out.2.2
def StoreNew (w : World) (k n : Nat) (most : Int) (e : Ending) (w' : World) : Prop :=
  ∃ (F : List Nat) (s : Nat), e = .returned (.tuple #[.pointer (some ⟨s,0,none⟩),.int .i64 0]) ∧ StoreAt w' F s k n 0 (fun _ => none) 0 most (fun _ => 0) ∧ Keeps [] w w' ∧ ∀ b ∈ F, w.heap.size <= b
theorem pq_open (most : Int) (h : okC a b) (hn : n <= 65536) (hm1 : 1 <= most) (hm2 : most <= 4294967295) : Calls Tryz.prog 12 #[.agg #[.int .i64 a,.int .i64 b],.int .i64 n,.int .u32 most] w (StoreNew w a.toNat n most) := by
  obtain ⟨w0, hw0⟩ : ∃ w0, w0 = w.alloc (.cells #[.int .i64 a,.int .i64 b] 23 (0,0)) := ⟨_,rfl⟩
  have k0 : Keeps [] w w0 := by rw [hw0]; exact (Keeps.refl _ _).alloc _
  have hb0 : w0.heap[w.heap.size]? = some (.cells #[.int .i64 a,.int .i64 b] 23 (0,0)) := by rw [hw0]; exact blk_alloc_new _
  have hcell : ∀ u, Keeps [] w0 u -> u.cell? ⟨w.heap.size,0,none⟩ = some (.int .i64 a) ∧ u.cell? ⟨w.heap.size,1,none⟩ = some (.int .i64 b) := fun u k => by
    have := k.blk hb0 (by simp)
    exact ⟨by rw [cell_of_blk this]; rfl,by rw [cell_of_blk this]; rfl⟩
  have hc := check_ok w0 a b h
  have hfin : ∀ w1 w2 w3 (Fa Fn : List Nat) pa pn, Keeps [] w0 w1 -> AreAt w2 Fa pa n most (fun _ => 0) (fun _ => false) -> Keeps [] w1 w2 -> (∀ x ∈ Fa, w1.heap.size <= x) -> nAt a.toNat w3 Fn pn n 0 (fun _ => none) -> Keeps [] w2 w3 -> (∀ x ∈ Fn, w2.heap.size <= x) ->
      StoreNew w a.toNat n most (.returned (.tuple #[.pointer (some ⟨w3.heap.size,0,none⟩),.int .i64 0])) (w3.alloc (.cells #[.int .i64 a,.int .i64 b,.pointer (some ⟨pa,0,none⟩),.iface (nTy a.toNat) (.pointer (some ⟨pn,0,none⟩)),.int .u64 0] 98 (0,0))) := by
    intro w1 w2 w3 Fa Fn pa pn k1 ha2 k2 hFa hn3 k3 hFn
    have kA : Keeps [] w3 (w3.alloc (.cells #[.int .i64 a,.int .i64 b,.pointer (some ⟨pa,0,none⟩),.iface (nTy a.toNat) (.pointer (some ⟨pn,0,none⟩)),.int .u64 0] 98 (0,0))) := (Keeps.refl _ _).alloc _
    have la := ha2.lt
    have ln := hn3.lt
    have s0 := k0.size
    have s1 := k1.size
    have s2 := k2.size
    have s3 := k3.size
    have e : (fun x => ((fun _ => none : Ent) x).isSome) = fun _ => false := rfl
    refine ⟨_, w3.heap.size,rfl,⟨pa, pn, Fa, Fn, a, b,rfl,⟨blk_alloc_new _,(ha2.keep k3 (by simp)).keep kA (by simp), hn3.keep kA (by simp),fun e => by have := la _ e; omega,fun e => by have := ln _ e; omega,fun x hx e => by have := la x hx; have := hFn x e; omega,by intro x h key m e; simp at e,by intro x y h key m h' key' e; simp at e,by simp⟩⟩,(((k0.trans k1 (by simp)).trans k2 (by simp)).trans k3 (by simp)).trans kA (by simp),fun x hx => ?_⟩
    simp only [List.mem_cons, List.mem_append] at hx
    rcases hx with e | e | e
    · omega
    · have := hFa x e; omega
    · have := hFn x e; omega
  have hop := fun u => pq_open_nest u a b n h hn
  have har := fun u => are_new u n most hn hm1 hm2
  have HF := Lib.hid hfin
  have HC := Lib.hid hcell
  obtain ⟨e0, e1⟩ := hcell w0 (Keeps.refl _ _)
  clear hfin k0 hb0 h hcell
  generalize a.toNat = kk at *
  go_enter Tryz.func12, Tryz.ntmps12
  go_upto_region 1 with fail
  rw [<- hw0]
  clear hw0
  go_wp2_with (first
    | (go_at_call 33; refine hc.mono ?_; rintro e w1 ⟨rfl, k1⟩; have K1 := Lib.hid k1; clear k1)
    | (go_at_call 34; refine (har w1).mono ?_; rintro e w2 ⟨Fa, pa,rfl, ha2, k2, hFa⟩; have H2 := Lib.hid (And.intro ha2 (And.intro k2 hFa)); obtain ⟨z0, z1⟩ := HC.out w2 (K1.out.trans k2 (by simp)); clear ha2 k2 hFa)
    | (go_at_call 35; refine (hop w2).mono ?_; rintro e w3 ⟨Fn, pn,rfl, hn3, k3, hFn⟩; have H3 := Lib.hid (And.intro hn3 (And.intro k3 hFn)); obtain ⟨y0, y1⟩ := HC.out w3 ((K1.out.trans H2.out.2.1 (by simp)).trans k3 (by simp)); clear z0 z1 hn3 k3 hFn))
  go_ret2
  exact HF.out w1 w2 w3 Fa Fn pa pn K1.out H2.out.1 H2.out.2.1 H2.out.2.2 H3.out.1 H3.out.2.1 H3.out.2.2
end
def RankNew (w : World) (k n m : Nat) (e : Ending) (w' : World) : Prop :=
  ∃ (F : List Nat) (s : Nat), e = .returned (.tuple #[.pointer (some ⟨s,0,none⟩),.int .i64 0]) ∧ StoreAt w' F s k n m (fun _ => none) 0 4294967295 (fun _ => 0) ∧ Keeps [] w w' ∧ ∀ b ∈ F, w.heap.size <= b
section
variable (w : World) (a b : Int) (n m : Nat)
theorem rank_open (h : okC a b) (hn : n <= 65536) (hm : m <= 1000) : Calls Tryz.prog 24 #[.agg #[.int .i64 a,.int .i64 b],.int .i64 n,.int .i64 m] w (RankNew w a.toNat n m) := by
  obtain ⟨w0, hw0⟩ : ∃ w0, w0 = w.alloc (.cells #[.int .i64 a,.int .i64 b] 23 (0,0)) := ⟨_,rfl⟩
  have k0 : Keeps [] w w0 := by rw [hw0]; exact (Keeps.refl _ _).alloc _
  have hb0 : w0.heap[w.heap.size]? = some (.cells #[.int .i64 a,.int .i64 b] 23 (0,0)) := by rw [hw0]; exact blk_alloc_new _
  have hcell : ∀ u, Keeps [] w0 u -> u.cell? ⟨w.heap.size,0,none⟩ = some (.int .i64 a) ∧ u.cell? ⟨w.heap.size,1,none⟩ = some (.int .i64 b) := fun u k => by
    have := k.blk hb0 (by simp)
    exact ⟨by rw [cell_of_blk this]; rfl,by rw [cell_of_blk this]; rfl⟩
  have hc := check_ok w0 a b h
  have hop := fun u => pq_open u a b n 4294967295 h hn (by omega) (by omega)
  have HC := Lib.hid hcell
  obtain ⟨e0, e1⟩ := hcell w0 (Keeps.refl _ _)
  have hn3 : ¬ (65536 : Int) < (n : Int) := by omega
  have K0 := Lib.hid k0
  clear k0 hb0 h hcell
  generalize a.toNat = kk at *
  go_enter Tryz.func24, Tryz.ntmps24
  go_upto_region 1 with fail
  rw [<- hw0]
  clear hw0
  go_wp2_with (first
    | (go_at_call 33; refine hc.mono ?_; rintro e w1 ⟨rfl, k1⟩; have K1 := Lib.hid k1; obtain ⟨z0, z1⟩ := HC.out w1 k1; clear k1 e0 e1)
    | (go_at_call 12; refine (hop w1).mono ?_; rintro e w2 ⟨F, s,rfl, st, k2, hF⟩; have ST := Lib.hid st; have K2 := Lib.hid k2; have HF := Lib.hid hF; clear st k2 hF z0 z1))
  go_loopg [25] (m + 1) (fun j t wr => ∃ (i : Nat) (F' : List Nat), j + i = m + 1 ∧ i <= m ∧ t = .int .i64 i ∧ StoreAt wr F' s kk n i (fun _ => none) 0 4294967295 (fun _ => 0) ∧ Keeps [] w wr ∧ ∀ x ∈ F', w.heap.size <= x)
  case atStart => exact ⟨0, F,by omega,by omega,rfl, ST.out,(K0.out.trans K1.out (by simp)).trans K2.out (by simp),fun x hx => Nat.le_trans (K0.out.trans K1.out (by simp)).size (HF.out x hx)⟩
  case round =>
    clear ST K2 HF hc hop
    obtain ⟨i, F', hk, hin,rfl, st, kp, hF⟩ := hrel
    have HK := Lib.hid hk
    clear hk
    by_cases hi : i < m
    · have hnh := pq_newheap wr F' s kk n i _ 0 4294967295 _ st (by omega)
      have hi3 : (i : Int) < (m : Int) := by omega
      have hfin : ∀ e w3, HeapDone wr F' s kk n i (fun _ => none) 0 4294967295 (fun _ => 0) e w3 -> ∃ F'', StoreAt w3 F'' s kk n (i + 1) (fun _ => none) 0 4294967295 (fun _ => 0) ∧ Keeps [] w w3 ∧ ∀ x ∈ F'', w.heap.size <= x := by
        rintro e w3 ⟨_, F'', a1, a2⟩
        have := kp.size
        refine ⟨F'', a1, kp.trans a2.keeps (fun x hx => .inr (hF x hx)),fun x hx => ?_⟩
        rcases a2.from' x hx with c | c
        · exact hF x c
        · omega
      have HF := Lib.hid hfin
      clear hfin st kp hF
      go_wp2_with (go_at_call 13; refine hnh.mono ?_; intro e w3 hd; have H3 := Lib.hid (HF.out e w3 hd); obtain ⟨rfl, _⟩ := hd)
      go_roundg (gk - 1)
      case measure => have := HK.out; omega
      case rel =>
        obtain ⟨F'', a1, a2, a3⟩ := H3.out
        exact ⟨i + 1, F'',by have := HK.out; omega,by omega,by go_num, a1, a2, a3⟩
    · obtain rfl : i = m := by omega
      have ST := Lib.hid st
      have KP := Lib.hid kp
      have HF := Lib.hid hF
      clear st kp hF
      go_wp2_with fail
      go_ret2
      exact ⟨F', s,rfl, ST.out, KP.out, HF.out⟩
end
def keysV (l : List Int) : List Value := l.map fun k => .int .i64 k
def KRow (B : Nat) (w : World) (v : Value) (l : List Int) : Prop := w.ownsRow B 2 1 v l.length (keysV l)
theorem Tryz.infoInt64 : (Tryz.prog.info? 2).map (fun i => (i.zero, i.size, i.bytes)) = some (some (.int .i64 0), 1,8) := by kernel_rfl
section
variable {w w' : World} {B : Nat} {v : Value} {l : List Int} {S : List Nat}
theorem KRow.keep (h : KRow B w v l) (k : Keeps S w w') (hS : ∀ b, v.ownBlock = some b -> b ∉ S) : KRow B w' v l := by
  refine ⟨h.1,?_⟩
  rcases h.2 with h0 | ⟨g, cap', cur, e, hb, hg, r⟩
  · exact .inl h0
  · exact .inr ⟨g, cap', cur, e, hb, k.blk hg (hS g (by rw [e]; simp [Value.ownBlock])), r⟩
theorem KRow.own (h : KRow B w v l) : ∀ b, v.ownBlock = some b -> B <= b ∧ b < w.heap.size := by
  intro b e
  rcases h.2 with ⟨h0, _⟩ | ⟨g, cap', cur, e', hb, hg, r⟩
  · rw [h0] at e; cases e
  · rw [e'] at e; simp [Value.ownBlock] at e; subst e; exact ⟨hb, lt_of_block hg⟩
theorem KRow.form (h : KRow B w v l) : ∃ ao cap, v = .slice ao l.length cap := by
  rcases h.2 with ⟨rfl, h0⟩ | ⟨g, cap', cur,rfl, _⟩
  · exact ⟨none, 0,by rw [h0]⟩
  · exact ⟨_, _,rfl⟩
theorem KRow.at {ao : Option Addr} {n ca i : Nat} {x : Int} (h : KRow B w (.slice ao n ca) l) (hi : l[i]? = some x) : ∃ g, ao = some ⟨g,0,none⟩ ∧ B <= g ∧ w.cell? ⟨g,i,none⟩ = some (.int .i64 x) := by
  have hl := (List.getElem?_eq_some_iff.1 hi).1
  have h' := h
  rcases h.2 with ⟨_, h0⟩ | ⟨g, cap', cur, e, hb, hg, _⟩
  · omega
  · cases e
    refine ⟨g,rfl, hb,?_⟩
    rw [World.ownsRow.cellAt h' i (by omega)]
    simp [keysV, hi]
theorem KRow.lo {C : Nat} (h : KRow B w v l) (hc : C <= B) : KRow C w v l := by
  refine ⟨h.1,?_⟩
  rcases h.2 with h0 | ⟨g, cap', cur, e, hb, r⟩
  · exact .inl h0
  · exact .inr ⟨g, cap', cur, e, Nat.le_trans hc hb, r⟩
theorem KRow.pushed {g ca : Nat} {x : Int} (h : w.ownsRow 0 2 1 (.slice (some ⟨g,0,none⟩) (l.length + 1) ca) (l.length + 1) (keysV l ++ [.int .i64 x])) (hg : B <= g) : KRow B w (.slice (some ⟨g,0,none⟩) (l.length + 1) ca) (l ++ [x]) := by
  unfold KRow
  have e : keysV (l ++ [x]) = keysV l ++ [.int .i64 x] := by simp [keysV]
  rw [e, List.length_append]
  refine ⟨h.1,?_⟩
  rcases h.2 with ⟨h0, _⟩ | ⟨g', cap, cur, e, hb, r⟩
  · cases h0
  · cases e; exact .inr ⟨g, ca, cur,rfl, hg, r⟩
end
def DrainDone (w : World) (F : List Nat) (E : Ent) (h : Nat) (e : Ending) (w' : World) : Prop :=
  ∃ (o : List Nat) (v : Value), e = .returned (.tuple #[v,.bool true]) ∧ Drn E h o ∧ (∀ y, y ∈ o ↔ isIn E h y) ∧ KRow w.heap.size w' v (o.map (keyE E)) ∧ Keeps F w w'
section
variable (w : World) (F : List Nat) (s k cap hs : Nat) (E : Ent) (q : Nat) (most : Int) (G : Nat -> Nat)
def DrainS (h n i : Nat) (v : Value) (wr : World) : Prop :=
  ∃ (o F' : List Nat), o.length = i ∧ Drn E h o ∧ count (remL E o) cap h + i = n ∧ StoreAt wr F' s k cap hs (remL E o) q most G ∧ Keeps F w wr ∧ (∀ b ∈ F', b ∈ F ∨ w.heap.size <= b) ∧ KRow w.heap.size wr v (o.map (keyE E)) ∧ ∀ b, v.ownBlock = some b -> b ∉ F'
theorem drain_calls (c : StoreAt w F s k cap hs E q most G) (h : Nat) (h1 : 1 <= h) (h2 : h <= hs) (hcap : cap <= 65536) :
    Calls Tryz.prog 15 #[.pointer (some ⟨s,0,none⟩),.int .i64 h] w (DrainDone w F E h) := by
  have hlt := c.lt
  obtain ⟨w0, hw0⟩ : ∃ w0, w0 = w.alloc (.cells #[] 2 (0,0)) := ⟨_,rfl⟩
  have k0 : Keeps [] w w0 := by rw [hw0]; exact (Keeps.refl _ _).alloc _
  have hb0 : w0.heap[w.heap.size]? = some (.cells #[] 2 (0,0)) := by rw [hw0]; exact blk_alloc_new _
  have c0 := c.keep k0 (by simp)
  have hlen := pq_len w0 F s k cap hs E q most G c0 h h1 h2
  obtain ⟨n, hn⟩ : ∃ n, count E cap h = n := ⟨_,rfl⟩
  have hnb : n <= 65536 := by rw [<- hn]; exact Nat.le_trans (count_le _ _ _) hcap
  rw [hn] at hlen
  have hst : DrainS w F s k cap hs E q most G h n 0 (.slice (some ⟨w.heap.size,0,none⟩) 0 0) w0 :=
    ⟨[], F,rfl, Drn.nil E h,by rw [remL_nil, hn]; rfl,by rw [remL_nil]; exact c0, k0.mono (by simp),fun b hb => .inl hb,⟨by simp [keysV],.inr ⟨w.heap.size, 0, #[],rfl, Nat.le_refl _, hb0, Nat.le_refl _,by decide,by simp,by simp [keysV]⟩⟩,fun b e f => by
      simp [Value.ownBlock] at e; subst e; exact Nat.lt_irrefl _ (hlt _ f)⟩
  have HS := Lib.hid hst
  clear hst c c0 hb0 hn k0 hlt
  go_enter Tryz.func15, Tryz.ntmps15
  go_upto_region 2 with fail
  rw [<- hw0]
  clear hw0
  go_wp2_with (go_at_call 37; refine hlen.mono ?_; rintro e w' ⟨rfl,rfl⟩)
  go_loopg [6,9] (n + 1) (fun j v t wr => ∃ i : Nat, j + i = n + 1 ∧ i <= n ∧ t = .int .i64 i ∧ DrainS w F s k cap hs E q most G h n i v wr)
  case atStart => exact ⟨0,by omega,by omega,rfl, HS.out⟩
  case round =>
    clear HS hlen
    obtain ⟨i, hk, hin,rfl, o, F', ho, hd, hc, st, kp, hF, hrow, hvF⟩ := hrel
    have HK := Lib.hid hk
    clear hk
    obtain ⟨ao, ca,rfl⟩ := hrow.form
    have hol : (o.map (keyE E)).length = i := by rw [List.length_map, ho]
    by_cases hi : i < n
    · have hex : ∃ y, isIn (remL E o) h y := by
        refine Classical.byContradiction fun hne => ?_
        have : count (remL E o) cap h = 0 := count_zero.2 fun x _ hx => hne ⟨x, hx⟩
        omega
      have hext := pq_extract_yes wr F' s k cap hs (remL E o) q most G st h h1 h2 hex
      have hi3 : (i : Int) < (n : Int) := by omega
      have hfin : ∀ e w1, ExtYes wr F' s k cap hs (remL E o) q most G h e w1 -> ∃ (key : Int) (x : Nat), e = .returned (.tuple #[.agg #[.int .i64 (x : Int),.int .u32 (G x : Nat)],.int .i64 key,.int .i64 0]) ∧ (w1.alloc (.cells #[.int .i64 (x : Int),.int .u32 (G x : Nat)] 45 (0,0))).ownsRow 0 2 1 (.slice ao (o.map (keyE E)).length ca) (o.map (keyE E)).length (keysV (o.map (keyE E))) ∧
          Hid (∀ g' c' w2, w2.ownsRow 0 2 1 (.slice (some ⟨g',0,none⟩) ((o.map (keyE E)).length + 1) c') ((o.map (keyE E)).length + 1) (keysV (o.map (keyE E)) ++ [.int .i64 key]) -> Keeps (Value.slice ao (o.map (keyE E)).length ca).ownBlock.toList (w1.alloc (.cells #[.int .i64 (x : Int),.int .u32 (G x : Nat)] 45 (0,0))) w2 -> ((Value.slice ao (o.map (keyE E)).length ca).ownBlock = some g' ∨ (w1.alloc (.cells #[.int .i64 (x : Int),.int .u32 (G x : Nat)] 45 (0,0))).heap.size <= g') ->
            DrainS w F s k cap hs E q most G h n (i + 1) (.slice (some ⟨g',0,none⟩) ((o.map (keyE E)).length + 1) c') w2) := by
        rintro e w1 ⟨x, nn, key, hl, hex,rfl, F'', st', hm⟩
        refine ⟨key, x,rfl,?_,fun g' c' w2 hr2 k2 hg2 => ?_⟩
        · have kA : Keeps [] w1 (w1.alloc (.cells #[.int .i64 (x : Int),.int .u32 (G x : Nat)] 45 (0,0))) := (Keeps.refl _ _).alloc _
          exact ((hrow.keep hm.keeps hvF).keep kA (by simp)).lo (Nat.zero_le _)
        · have hxo : x ∉ o := (remL_in.1 hl.1).2
          have hex' : E x = some (h, key, nn) := by rw [<- hex, remL_at hxo]
          have kA : Keeps [] w1 (w1.alloc (.cells #[.int .i64 (x : Int),.int .u32 (G x : Nat)] 45 (0,0))) := (Keeps.refl _ _).alloc _
          have stA := st'.keep kA (by simp)
          have hlt' := stA.lt
          have hown := hrow.own
          have s1 := hm.keeps.size
          have sA := kA.size
          have sw := kp.size
          have hvF'' : ∀ b,(Value.slice ao (o.map (keyE E)).length ca).ownBlock = some b -> b ∉ F'' := fun b eb f => by
            rcases hm.from' b f with c | c
            · exact hvF b eb c
            · have := (hown b eb).2; omega
          refine ⟨o ++ [x], F'',by simp [ho], hd.step hl,?_,?_,?_,fun b hb => ?_,?_,fun b eb f => ?_⟩
          · rw [<- remL_put]
            have := count_out (n := cap) (st.ok.lt x hl.1.some) hl.1
            omega
          · rw [<- remL_put]
            exact stA.keep k2 (fun b hb e => hvF'' b (by simpa [Option.mem_toList] using e) hb)
          · exact ((kp.trans hm.keeps hF).trans kA (by simp)).trans k2 (fun b hb => .inr (hown b (by simpa [Option.mem_toList] using hb)).1)
          · rcases hm.from' b hb with c | c
            · exact hF b c
            · exact .inr (by omega)
          · have hg' : w.heap.size <= g' := by
              rcases hg2 with e | e
              · exact (hown g' e).1
              · omega
            have := KRow.pushed (B := w.heap.size) hr2 hg'
            rw [List.map_append, List.map_singleton, keyE_some hex']
            exact this
          · simp [Value.ownBlock] at eb; subst eb
            rcases hg2 with e | e
            · exact hvF'' _ e f
            · have := hlt' _ f; omega
      have HF := Lib.hid hfin
      clear hfin st kp hF hrow hvF hd hc hex
      rw [hol]
      rw [hol] at HF
      have hib : (i : Int) <= 65536 := by omega
      go_wp2_with (first
        | (go_at_call 31; refine hext.mono ?_; intro e w1 hd1; obtain ⟨key, x,rfl, z1, z2⟩ := HF.out e w1 hd1; clear hd1)
        | (at_builtin; refine wpList_push _ 2 (.int .i64 key) (0,0) rfl (.tmp 39) (.tmp 41) 25 rfl (.int .i64 0) 8 Tryz.underlying25 Tryz.infoInt64 rfl rfl (.slice ao i ca) i (keysV (o.map (keyE E))) (by simp [Act.eval]) z1 (by simp [Act.eval]) (by unfold maxLen; omega) (by omega) ?_; intro g' cap' w4 hr4 hk4 hf4; have z3 := Lib.hid (z2.out g' cap' w4 hr4 hk4 hf4); clear hr4 hk4 hf4))
      go_roundg (gk - 1)
      case measure => have := HK.out; omega
      case rel => exact ⟨i + 1,by have := HK.out; omega,by omega,by go_num, z3.out⟩
    · obtain rfl : i = n := by omega
      have hnone : ∀ y, ¬ isIn (remL E o) h y := fun y hy => by
        have := (count_zero (E := remL E o) (n := cap) (h := h)).1 (by omega) y (st.ok.lt y hy.some)
        exact this hy
      have hext := pq_extract_no wr F' s k cap hs (remL E o) q most G st h h1 h2 hnone
      have hfin : ∀ e w1, MinNo wr F' s k cap hs (remL E o) q most G e w1 -> e = .returned (.tuple #[.agg #[.int .i64 0,.int .u32 0],.int .i64 0,.int .i64 172]) ∧ Hid (DrainDone w F E h (.returned (.tuple #[.slice ao (o.map (keyE E)).length ca,.bool true])) (w1.alloc (.cells #[.int .i64 0,.int .u32 0] 45 (0,0)))) := by
        rintro e w1 ⟨rfl, st', k1⟩
        have kA : Keeps [] w1 (w1.alloc (.cells #[.int .i64 0,.int .u32 0] 45 (0,0))) := (Keeps.refl _ _).alloc _
        exact ⟨rfl, o, _,rfl, hd, hd.all hnone,(hrow.keep k1 hvF).keep kA (by simp),(kp.trans k1 hF).trans kA (by simp)⟩
      have HF := Lib.hid hfin
      clear hfin st kp hF hrow hvF hd hc hnone
      rw [hol]
      rw [hol] at HF
      go_wp2_with (go_at_call 31; refine hext.mono ?_; intro e w1 hd1; obtain ⟨rfl, z1⟩ := HF.out e w1 hd1; clear hd1)
      go_ret2
      exact z1.out
end
theorem StoreAt.gq {w : World} {F : List Nat} {s k cap hs q : Nat} {most : Int} {E : Ent} {G : Nat -> Nat} (h : StoreAt w F s k cap hs E q most G) : ∀ x, G x <= q := by
  obtain ⟨pa, pn, Fa, Fn, c1, c2,rfl, st⟩ := h; exact st.gq
theorem StoreAt.uq {w : World} {F : List Nat} {s k cap hs q : Nat} {most : Int} {E : Ent} {G : Nat -> Nat} (h : StoreAt w F s k cap hs E q most G) : ∀ x y h key n h' key', E x = some (h, key, n) -> E y = some (h', key', n) -> x = y := by
  obtain ⟨pa, pn, Fa, Fn, c1, c2,rfl, st⟩ := h; exact st.uq
structure FillP (E : Ent) (G : Nat -> Nat) (cap h : Nat) (keys : List Int) : Prop where
  fl : Filled E h keys
  ct : count E cap h = keys.length
  g0 : ∀ x, E x = none -> G x = 0
  g1 : ∀ x, E x ≠ none -> G x = 1
theorem FillP.empty (cap h : Nat) : FillP (fun _ => none) (fun _ => 0) cap h [] :=
  ⟨⟨by simp,by simp⟩, count_zero.2 (fun x _ hx => by obtain ⟨k, e⟩ := hx; cases e),by simp,by simp⟩
section
variable {E : Ent} {G : Nat -> Nat} {cap h : Nat} {keys : List Int}
theorem FillP.room (f : FillP E G cap h keys) (hn : keys.length < cap) : ∃ x, x < cap ∧ E x = none ∧ G x = 0 := by
  refine Classical.byContradiction fun hc => ?_
  have hall : ∀ x, x < cap -> isIn E h x := fun x hx => by
    cases he : E x with
    | none => exact absurd ⟨x, hx, he, f.g0 x he⟩ hc
    | some p =>
      obtain ⟨g, k, n⟩ := p
      obtain ⟨rfl, _⟩ := f.fl.only x g k n he
      exact ⟨_, he⟩
  have : count E cap h = cap := by
    unfold count
    rw [List.filter_eq_self.2 (fun x hx => by simpa using hall x (List.mem_range.1 hx))]
    simp
  have := f.ct
  omega
theorem FillP.step (f : FillP E G cap h keys) {i : Nat} (hi : i < cap) (he : E i = none) (key : Int) : FillP (put E i (some (h, key, keys.length + 1))) (upd G i (G i + 1)) cap h (keys ++ [key]) := by
  refine ⟨⟨fun j k hj => ?_,fun x g k n e => ?_⟩,?_,fun x e => ?_,fun x e => ?_⟩
  · by_cases c : j < keys.length
    · rw [List.getElem?_append_left c] at hj
      obtain ⟨x, hx⟩ := f.fl.has j k hj
      exact ⟨x,by rw [put_other _ _ _ (fun e => by rw [e, he] at hx; cases hx)]; exact hx⟩
    · rw [List.getElem?_append_right (by omega)] at hj
      have hj0 : j = keys.length := by
        rcases Nat.lt_or_ge 0 (j - keys.length) with c' | c'
        · rw [List.getElem?_eq_none (by simp; omega)] at hj; cases hj
        · omega
      subst hj0
      simp at hj; subst hj
      exact ⟨i, put_same _ _ _⟩
  · by_cases c : x = i
    · subst c; rw [put_same] at e; cases e
      exact ⟨rfl, keys.length,rfl,by simp⟩
    · rw [put_other _ _ _ c] at e
      obtain ⟨a, j, b, d⟩ := f.fl.only x g k n e
      exact ⟨a, j, b,by rw [List.getElem?_append_left (List.getElem?_eq_some_iff.1 d).1]; exact d⟩
  · rw [count_in hi he, f.ct]; simp
  · by_cases c : x = i
    · subst c; rw [put_same] at e; cases e
    · rw [put_other _ _ _ c] at e; rw [upd_other _ _ c]; exact f.g0 x e
  · by_cases c : x = i
    · subst c; rw [upd_same, f.g0 x he]
    · rw [put_other _ _ _ c] at e; rw [upd_other _ _ c]; exact f.g1 x e
def numF (E : Ent) (x g : Nat) : Option Nat := if g = 1 then (E x).map (fun p => p.2.2 - 1) else none
theorem numF_put {i : Nat} (he : E i = none) (key : Int) (n : Nat) : numF (put E i (some (h, key, n + 1))) = fun u v => if u = i ∧ v = 1 then some n else numF E u v := by
  funext u v
  unfold numF
  by_cases c : v = 1
  · by_cases d : u = i
    · subst d; simp [c, put_same]
    · simp [c, d, put_other _ _ _ d]
  · simp [c]
theorem numF_some {x n : Nat} {k : Int} (e : E x = some (h, k, n)) : numF E x 1 = some (n - 1) := by simp [numF, e]
theorem numF_ok (hc : ∀ x,(E x).isSome -> x < cap) (hcap : cap <= 65536) : ∀ x g, numF E x g ≠ none -> okH x g := by
  intro x g hn
  unfold numF at hn
  by_cases c : g = 1
  · simp only [c, if_true] at hn
    have : (E x).isSome := by cases he : E x with | none => rw [he] at hn; exact absurd rfl hn | some _ => rfl
    have := hc x this
    exact ⟨by omega,by omega⟩
  · simp [c] at hn
end
def FillS (w : World) (F : List Nat) (s k cap hs : Nat) (most : Int) (keys : List Int) (E : Ent) (G : Nat -> Nat) : Prop :=
  StoreAt w F s k cap hs E keys.length most G ∧ FillP E G cap 1 keys
def KIn (w : World) (v : Value) (keys : List Int) : Prop :=
  (∃ ao ca, v = .slice ao keys.length ca) ∧ ∀ (i : Nat) x, keys[i]? = some x -> (Lit.int .i64 x).wf = true ∧ ∃ g off ca, v = .slice (some ⟨g,off,none⟩) keys.length ca ∧ w.cell? ⟨g, off + i, none⟩ = some (.int .i64 x)
theorem KIn.keep {w w' : World} {v : Value} {keys : List Int} {S : List Nat} (h : KIn w v keys) (k : Keeps S w w') (hS : ∀ b ∈ S, w.heap.size <= b) : KIn w' v keys := by
  refine ⟨h.1,fun i x hx => ?_⟩
  obtain ⟨h0, g, off, ca, h1, h2⟩ := h.2 i x hx
  have hb := World.block_lt_of_cell? w _ h2
  exact ⟨h0, g, off, ca, h1,by rw [World.cell?_of_block (a := ⟨g, off + i, none⟩) (k.block g hb (fun e => by have := hS g e; simp at hb; omega))]; exact h2⟩
def natV (l : List Nat) : List Value := l.map fun (n : Nat) => .int .i64 (n : Int)
def NRow (B : Nat) (w : World) (v : Value) (l : List Nat) : Prop := w.ownsRow B 3 1 v l.length (natV l)
theorem NRow.nil (B : Nat) (w : World) : NRow B w (.slice none 0 0) [] := ⟨by simp [natV],.inl ⟨rfl,rfl⟩⟩
section
variable {w w' : World} {B : Nat} {v : Value} {l : List Nat} {S : List Nat}
theorem NRow.keep (h : NRow B w v l) (k : Keeps S w w') (hS : ∀ b, v.ownBlock = some b -> b ∉ S) : NRow B w' v l := by
  refine ⟨h.1,?_⟩
  rcases h.2 with h0 | ⟨g, cap', cur, e, hb, hg, r⟩
  · exact .inl h0
  · exact .inr ⟨g, cap', cur, e, hb, k.blk hg (hS g (by rw [e]; simp [Value.ownBlock])), r⟩
theorem NRow.own (h : NRow B w v l) : ∀ b, v.ownBlock = some b -> B <= b ∧ b < w.heap.size := by
  intro b e
  rcases h.2 with ⟨h0, _⟩ | ⟨g, cap', cur, e', hb, hg, r⟩
  · rw [h0] at e; cases e
  · rw [e'] at e; simp [Value.ownBlock] at e; subst e; exact ⟨hb, lt_of_block hg⟩
theorem NRow.form (h : NRow B w v l) : ∃ ao cap, v = .slice ao l.length cap := by
  rcases h.2 with ⟨rfl, h0⟩ | ⟨g, cap', cur,rfl, _⟩
  · exact ⟨none, 0,by rw [h0]⟩
  · exact ⟨_, _,rfl⟩
theorem NRow.at {ao : Option Addr} {n ca i : Nat} {x : Nat} (h : NRow B w (.slice ao n ca) l) (hi : l[i]? = some x) : ∃ g, ao = some ⟨g,0,none⟩ ∧ B <= g ∧ w.cell? ⟨g,i,none⟩ = some (.int .i64 (x : Int)) := by
  have hl := (List.getElem?_eq_some_iff.1 hi).1
  have h' := h
  rcases h.2 with ⟨_, h0⟩ | ⟨g, cap', cur, e, hb, hg, _⟩
  · omega
  · cases e
    refine ⟨g,rfl, hb,?_⟩
    rw [World.ownsRow.cellAt h' i (by omega)]
    simp [natV, hi]
theorem NRow.lo {C : Nat} (h : NRow B w v l) (hc : C <= B) : NRow C w v l := by
  refine ⟨h.1,?_⟩
  rcases h.2 with h0 | ⟨g, cap', cur, e, hb, r⟩
  · exact .inl h0
  · exact .inr ⟨g, cap', cur, e, Nat.le_trans hc hb, r⟩
theorem NRow.pushed {g ca : Nat} {x : Nat} (h : w.ownsRow 0 3 1 (.slice (some ⟨g,0,none⟩) (l.length + 1) ca) (l.length + 1) (natV l ++ [.int .i64 (x : Int)])) (hg : B <= g) : NRow B w (.slice (some ⟨g,0,none⟩) (l.length + 1) ca) (l ++ [x]) := by
  unfold NRow
  have e : natV (l ++ [x]) = natV l ++ [.int .i64 (x : Int)] := by simp [natV]
  rw [e, List.length_append]
  refine ⟨h.1,?_⟩
  rcases h.2 with ⟨h0, _⟩ | ⟨g', cap, cur, e, hb, r⟩
  · cases h0
  · cases e; exact .inr ⟨g, ca, cur,rfl, hg, r⟩
end
theorem KRow.nil (B : Nat) (w : World) : KRow B w (.slice none 0 0) [] := ⟨by simp [keysV],.inl ⟨rfl,rfl⟩⟩
end Go.Proofs.YtkdbjelhkfdfjaaGreatDoor


/-
  Contracts that the law rests on. Conditions: none.
-/
import Derived.Test.YtkdbjelhkfdfjaaGreatDoorLv40
import Derived.Test.YtkdbjelhkfdfjaaGreatDoorLv41
import Derived.Test.YtkdbjelhkfdfjaaGreatDoorLv42
set_option linter.unusedVariables false
set_option maxRecDepth 100000
set_option maxHeartbeats 32000000
namespace Go.Proofs.YtkdbjelhkfdfjaaGreatDoor
open Go.RowKit
section
variable (w : World) (F : List Nat) (s k cap hs : Nat) (E : Ent) (q : Nat) (most : Int) (G : Nat -> Nat)
def MinYes (h : Nat) (e : Ending) (w' : World) : Prop :=
  ∃ (x n : Nat) (key : Int), least E h x ∧ E x = some (h, key, n) ∧ e = .returned (.tuple #[.agg #[.int .i64 x,.int .u32 (G x : Nat)],.int .i64 key,.int .i64 0]) ∧ StoreAt w' F s k cap hs E q most G ∧ Keeps F w w'
def MinNo (e : Ending) (w' : World) : Prop :=
  e = .returned (.tuple #[.agg #[.int .i64 0,.int .u32 0],.int .i64 0,.int .i64 172]) ∧ StoreAt w' F s k cap hs E q most G ∧ Keeps F w w'
theorem pq_min_yes (c : StoreAt w F s k cap hs E q most G) (h : Nat) (h1 : 1 <= h) (h2 : h <= hs) (hi : ∃ y, isIn E h y) :
    Calls Tryz.prog 32 #[.pointer (some ⟨s,0,none⟩),.int .i64 h] w (MinYes w F s k cap hs E q most G h) := by
  have hlt := c.lt
  obtain ⟨w0, hw0⟩ : ∃ w0, w0 = w.alloc (.cells #[.int .i64 0,.int .u32 0] 45 (0,0)) := ⟨_,rfl⟩
  have k0 : Keeps [] w w0 := by rw [hw0]; exact (Keeps.refl _ _).alloc _
  have hb0 : w0.heap[w.heap.size]? = some (.cells #[.int .i64 0,.int .u32 0] 45 (0,0)) := by rw [hw0]; exact blk_alloc_new _
  have hfirst := pq_first_yes w0 F s k cap hs E q most G (c.keep k0 (by simp)) h h1 h2 hi
  have hnot : w.heap.size ∉ F := fun e => Nat.lt_irrefl _ (hlt _ e)
  have hstep : ∀ (w1 : World) (x : Nat), least E h x -> StoreAt w1 F s k cap hs E q most G -> Keeps F w0 w1 ->
      ∃ (n : Nat) (key : Int), E x = some (h, key, n) ∧ Hid (Calls Tryz.prog 49 #[.pointer (some ⟨s,0,none⟩),.agg #[.int .i64 x,.int .u32 (G x : Nat)]] (w1.alloc (.cells #[.int .i64 (x : Int),.int .u32 (G x : Int)] 45 (0,0))) fun e w2 => e = .returned (.tuple #[.agg #[.int .i64 key,.int .u64 (n : Int)],.int .i64 0]) ∧
        (w2.alloc (.cells #[.int .i64 key,.int .u64 (n : Int)] 104 (0,0))).heap[w1.heap.size]? = some (.cells #[.int .i64 (x : Int),.int .u32 (G x : Int)] 45 (0,0)) ∧
        (w2.alloc (.cells #[.int .i64 key,.int .u64 (n : Int)] 104 (0,0))).heap[w.heap.size]? = some (.cells #[.int .i64 0,.int .u32 0] 45 (0,0)) ∧ w.heap.size ≠ w1.heap.size ∧ w.heap.size ≠ w2.heap.size ∧
        Hid (∀ v0 v1, MinYes w F s k cap hs E q most G h (.returned (.tuple #[.agg #[.int .i64 x,.int .u32 (G x : Nat)],.int .i64 key,.int .i64 0])) (((w2.alloc (.cells #[.int .i64 key,.int .u64 (n : Int)] 104 (0,0))).setCell ⟨w.heap.size,0,none⟩ v0).setCell ⟨w.heap.size,1,none⟩ v1).drew)) := by
    intro w1 x hl c1 k1
    obtain ⟨⟨key, n⟩, he⟩ := hl.1
    have kA : Keeps [] w1 (w1.alloc (.cells #[.int .i64 (x : Int),.int .u32 (G x : Int)] 45 (0,0))) := (Keeps.refl _ _).alloc _
    have hA : (w1.alloc (.cells #[.int .i64 (x : Int),.int .u32 (G x : Int)] 45 (0,0))).heap[w1.heap.size]? = some (.cells #[.int .i64 (x : Int),.int .u32 (G x : Int)] 45 (0,0)) := blk_alloc_new _
    have cA := c1.keep kA (by simp)
    refine ⟨n, key, he,(pq_entry _ F s k cap hs E q most G cA x h n key he).mono ?_⟩
    rintro e w2 ⟨rfl, k2⟩
    have kB : Keeps [] w2 (w2.alloc (.cells #[.int .i64 key,.int .u64 (n : Int)] 104 (0,0))) := (Keeps.refl _ _).alloc _
    have kk := k2.trans kB (by simp)
    have kk1 := kA.trans kk (by simp)
    have s0 : w.heap.size < w0.heap.size := lt_of_block hb0
    have s1 := k1.size
    have s2 := (kA.trans k2 (by simp)).size
    refine ⟨rfl, kk.blk hA (by simp), kk1.blk (k1.blk hb0 hnot) (by simp),by omega,by omega,fun v0 v1 => ⟨x, n, key, hl, he,rfl,?_,?_⟩⟩
    · refine ((c1.keep kk1 (by simp)).keep (T := [w.heap.size]) (((Keeps.refl _ _).setCell (.inl (by simp)) _).setCell (.inl (by simp)) _).drew (fun b hb e => hnot (by simp only [List.mem_singleton] at e; exact e ▸ hb)))
    · exact (((((k0.mono (T := F) (by simp)).trans k1 (fun b hb => .inl hb)).trans kk1 (by simp)).setCell (.inr (by simp)) _).setCell (.inr (by simp)) _).drew
  have HS := Lib.hid hstep
  clear hstep c hlt k0 hi hb0
  go_enter Tryz.func32, Tryz.ntmps32
  go_upto_region 1 with fail
  rw [<- hw0]
  clear hw0
  go_upto_region 4 with (go_at_call 55; refine hfirst.mono ?_; rintro e w1 ⟨x, hl,rfl, c1, k1⟩; obtain ⟨n, key, he, z⟩ := HS.out w1 x hl c1 k1; clear hl c1 k1 he)
  clear hfirst HS
  have g0 : (w1.alloc (.cells #[.int .i64 (x : Int),.int .u32 (G x : Int)] 45 (0,0))).cell? ⟨w1.heap.size,0,none⟩ = some (.int .i64 (x : Int)) := by rw [cell_of_blk (blk_alloc_new _)]; rfl
  have g1 : (w1.alloc (.cells #[.int .i64 (x : Int),.int .u32 (G x : Int)] 45 (0,0))).cell? ⟨w1.heap.size,1,none⟩ = some (.int .u32 (G x : Int)) := by rw [cell_of_blk (blk_alloc_new _)]; rfl
  go_upto_region 5 with (go_at_call 49; refine z.out.mono ?_; rintro e w2 ⟨rfl, b1, b0, n1, n2, hfin⟩)
  clear g0 g1 z
  have t0 : (w2.alloc (.cells #[.int .i64 key,.int .u64 (n : Int)] 104 (0,0))).cell? ⟨w2.heap.size,0,none⟩ = some (.int .i64 key) := by rw [cell_of_blk (blk_alloc_new _)]; rfl
  generalize w2.alloc (.cells #[.int .i64 key,.int .u64 (n : Int)] 104 (0,0)) = w3 at *
  generalize w2.heap.size = bb at *
  have g0 : w3.cell? ⟨w1.heap.size,0,none⟩ = some (.int .i64 (x : Int)) := by rw [cell_of_blk b1]; rfl
  have g1 : w3.cell? ⟨w1.heap.size,1,none⟩ = some (.int .u32 (G x : Int)) := by rw [cell_of_blk b1]; rfl
  have g2 : w3.cell? ⟨w.heap.size,0,none⟩ = some (.int .i64 0) := by rw [cell_of_blk b0]; rfl
  have g3 : w3.cell? ⟨w.heap.size,1,none⟩ = some (.int .u32 0) := by rw [cell_of_blk b0]; rfl
  have g4 : w3.frozen? ⟨w.heap.size,0,none⟩ = false := frozen_of_blk b0
  have g5 : w3.frozen? ⟨w.heap.size,1,none⟩ = false := frozen_of_blk b0
  have hblk := blk_setCell (i := 1) (.int .u32 (G x : Int)) (blk_setCell (i := 0) (.int .i64 (x : Int)) b0)
  have HB := Lib.hid hblk
  clear hblk b0 b1
  generalize w1.heap.size = ba at *
  go_region_held3 (fun u => u.cell? ⟨ba,0,none⟩ = some (.int .i64 (x : Int)) ∧ u.cell? ⟨ba,1,none⟩ = some (.int .u32 (G x : Int)) ∧ u.cell? ⟨bb,0,none⟩ = some (.int .i64 key))
    (first | exact ⟨g0, g1, t0⟩ | exact ⟨cell_set_ne n1.symm g0, cell_set_ne n1.symm g1, cell_set_ne n2.symm t0⟩ | exact ⟨cell_set_ne n1.symm (cell_set_ne n1.symm g0), cell_set_ne n1.symm (cell_set_ne n1.symm g1), cell_set_ne n2.symm (cell_set_ne n2.symm t0)⟩) (fail)
  all_goals
    clear g0 g1 g2 g3 g4 g5 t0
    go_wp2_with fail
    refine bodyPost_ret (v := .tuple #[.agg #[.int .i64 (x : Int),.int .u32 (G x : Int)],.int .i64 key,.int .i64 0]) ?_ rfl (hfin.out _ _)
    refine (results_cell3 (p := 4) (u := 5) (v := 6) rfl _ _ w.heap.size 45 #[.int .i64 (x : Int),.int .u32 (G x : Int)] (0,0) _ (by simp) ?_ Tryz.underlying45 rfl (by kernel_rfl)).trans ?_
    · show ((w3.setCell _ _).setCell _ _).heap[w.heap.size]? = _
      have := HB.out
      simpa using this
    · simp
theorem pq_min_no (c : StoreAt w F s k cap hs E q most G) (h : Nat) (h1 : 1 <= h) (h2 : h <= hs) (hi : ∀ y, ¬ isIn E h y) :
    Calls Tryz.prog 32 #[.pointer (some ⟨s,0,none⟩),.int .i64 h] w (MinNo w F s k cap hs E q most G) := by
  have hlt := c.lt
  obtain ⟨w0, hw0⟩ : ∃ w0, w0 = w.alloc (.cells #[.int .i64 0,.int .u32 0] 45 (0,0)) := ⟨_,rfl⟩
  have k0 : Keeps [] w w0 := by rw [hw0]; exact (Keeps.refl _ _).alloc _
  have hb0 : w0.heap[w.heap.size]? = some (.cells #[.int .i64 0,.int .u32 0] 45 (0,0)) := by rw [hw0]; exact blk_alloc_new _
  have hfirst := pq_first_no w0 F s k cap hs E q most G (c.keep k0 (by simp)) h h1 h2 hi
  have hnot : w.heap.size ∉ F := fun e => Nat.lt_irrefl _ (hlt _ e)
  have hstep : ∀ (w1 : World), StoreAt w1 F s k cap hs E q most G -> Keeps F w0 w1 ->
      (w1.alloc (.cells #[.int .i64 0,.int .u32 0] 45 (0,0))).heap[w.heap.size]? = some (.cells #[.int .i64 0,.int .u32 0] 45 (0,0)) ∧
        Hid (∀ v0 v1, MinNo w F s k cap hs E q most G (.returned (.tuple #[.agg #[.int .i64 0,.int .u32 0],.int .i64 0,.int .i64 172])) (((w1.alloc (.cells #[.int .i64 0,.int .u32 0] 45 (0,0))).setCell ⟨w.heap.size,0,none⟩ v0).setCell ⟨w.heap.size,1,none⟩ v1)) := by
    intro w1 c1 k1
    have kA : Keeps [] w1 (w1.alloc (.cells #[.int .i64 0,.int .u32 0] 45 (0,0))) := (Keeps.refl _ _).alloc _
    refine ⟨kA.blk (k1.blk hb0 hnot) (by simp),fun v0 v1 => ⟨rfl,?_,?_⟩⟩
    · exact (c1.keep kA (by simp)).keep (T := [w.heap.size]) (((Keeps.refl _ _).setCell (.inl (by simp)) _).setCell (.inl (by simp)) _) (fun b hb e => hnot (by simp only [List.mem_singleton] at e; exact e ▸ hb))
    · exact ((((k0.mono (T := F) (by simp)).trans k1 (fun b hb => .inl hb)).trans kA (by simp)).setCell (.inr (by simp)) _).setCell (.inr (by simp)) _
  have HS := Lib.hid hstep
  clear hstep c hlt k0 hi hb0
  go_enter Tryz.func32, Tryz.ntmps32
  go_upto_region 1 with fail
  rw [<- hw0]
  clear hw0
  go_upto_region 3 with (go_at_call 55; refine hfirst.mono ?_; rintro e w1 ⟨rfl, c1, k1⟩; obtain ⟨b6, hfin⟩ := HS.out w1 c1 k1; clear c1 k1)
  clear hfirst HS
  generalize w1.alloc (.cells #[.int .i64 0,.int .u32 0] 45 (0,0)) = w3 at *
  have g2 : w3.cell? ⟨w.heap.size,0,none⟩ = some (.int .i64 0) := by rw [cell_of_blk b6]; rfl
  have g3 : w3.cell? ⟨w.heap.size,1,none⟩ = some (.int .u32 0) := by rw [cell_of_blk b6]; rfl
  have g4 : w3.frozen? ⟨w.heap.size,0,none⟩ = false := frozen_of_blk b6
  have g5 : w3.frozen? ⟨w.heap.size,1,none⟩ = false := frozen_of_blk b6
  have hblk := blk_setCell (i := 1) (.int .u32 0) (blk_setCell (i := 0) (.int .i64 0) b6)
  have HB := Lib.hid hblk
  clear hblk b6
  go_wp2_with fail
  refine bodyPost_ret (v := .tuple #[.agg #[.int .i64 0,.int .u32 0],.int .i64 0,.int .i64 172]) ?_ rfl (hfin.out _ _)
  refine (results_cell3 (p := 4) (u := 5) (v := 6) rfl _ _ w.heap.size 45 #[.int .i64 0,.int .u32 0] (0,0) _ (by simp) ?_ Tryz.underlying45 rfl (by kernel_rfl)).trans ?_
  · have := HB.out
    simpa using this
  · simp
end
section
variable (w : World) (F : List Nat) (s k cap hs : Nat) (E : Ent) (q : Nat) (most : Int) (G : Nat -> Nat)
def ExtYes (h : Nat) (e : Ending) (w' : World) : Prop :=
  ∃ (x n : Nat) (key : Int), least E h x ∧ E x = some (h, key, n) ∧ e = .returned (.tuple #[.agg #[.int .i64 x,.int .u32 (G x : Nat)],.int .i64 key,.int .i64 0]) ∧
    ∃ F', StoreAt w' F' s k cap hs (put E x none) q most G ∧ Moved F w F' w'
theorem pq_extract_yes (c : StoreAt w F s k cap hs E q most G) (h : Nat) (h1 : 1 <= h) (h2 : h <= hs) (hi : ∃ y, isIn E h y) :
    Calls Tryz.prog 31 #[.pointer (some ⟨s,0,none⟩),.int .i64 h] w (ExtYes w F s k cap hs E q most G h) := by
  have hlt := c.lt
  obtain ⟨w0, hw0⟩ : ∃ w0, w0 = w.alloc (.cells #[.int .i64 0,.int .u32 0] 45 (0,0)) := ⟨_,rfl⟩
  have k0 : Keeps [] w w0 := by rw [hw0]; exact (Keeps.refl _ _).alloc _
  have hb0 : w0.heap[w.heap.size]? = some (.cells #[.int .i64 0,.int .u32 0] 45 (0,0)) := by rw [hw0]; exact blk_alloc_new _
  have hmin := pq_min_yes w0 F s k cap hs E q most G (c.keep k0 (by simp)) h h1 h2 hi
  have hnot : w.heap.size ∉ F := fun e => Nat.lt_irrefl _ (hlt _ e)
  have hstep : ∀ (w1 : World) (x n : Nat) (key : Int), least E h x -> E x = some (h, key, n) -> StoreAt w1 F s k cap hs E q most G -> Keeps F w0 w1 ->
      ∃ (pa pn : Nat) (fn : FuncId),(w1.alloc (.cells #[.int .i64 (x : Int),.int .u32 (G x : Int)] 45 (0,0))).cell? ⟨s,3,none⟩ = some (.iface (nTy k) (.pointer (some ⟨pn,0,none⟩))) ∧
        (∀ u,(method 588 (nTy k) (.pointer (some ⟨pn,0,none⟩)) "Extract").run Tryz.prog u = .ok (fn,.pointer (some ⟨pn,0,none⟩)) u) ∧ (∀ args u,(callFunc fn args).run Tryz.prog u = .ok (.enter fn args) u) ∧
        Hid (Calls Tryz.prog fn #[.pointer (some ⟨pn,0,none⟩),.int .i64 h] (w1.alloc (.cells #[.int .i64 (x : Int),.int .u32 (G x : Int)] 45 (0,0))) fun e w2 => ∃ v, e = .returned v ∧
          w2.cell? ⟨s,2,none⟩ = some (.pointer (some ⟨pa,0,none⟩)) ∧ w2.cell? ⟨w1.heap.size,0,none⟩ = some (.int .i64 (x : Int)) ∧ w2.cell? ⟨w1.heap.size,1,none⟩ = some (.int .u32 (G x : Int)) ∧
          Hid (Calls Tryz.prog 50 #[.pointer (some ⟨pa,0,none⟩),.agg #[.int .i64 x,.int .u32 (G x : Nat)]] w2.drew fun e w3 => e = .returned (.int .i64 0) ∧
            w3.heap[w1.heap.size]? = some (.cells #[.int .i64 (x : Int),.int .u32 (G x : Int)] 45 (0,0)) ∧ w3.heap[w.heap.size]? = some (.cells #[.int .i64 0,.int .u32 0] 45 (0,0)) ∧
            Hid (∀ v0 v1, ExtYes w F s k cap hs E q most G h (.returned (.tuple #[.agg #[.int .i64 x,.int .u32 (G x : Nat)],.int .i64 key,.int .i64 0])) ((w3.setCell ⟨w.heap.size,0,none⟩ v0).setCell ⟨w.heap.size,1,none⟩ v1)))) := by
    intro w1 x n key hl he c1 k1
    have kA : Keeps [] w1 (w1.alloc (.cells #[.int .i64 (x : Int),.int .u32 (G x : Int)] 45 (0,0))) := (Keeps.refl _ _).alloc _
    have hA : (w1.alloc (.cells #[.int .i64 (x : Int),.int .u32 (G x : Int)] 45 (0,0))).heap[w1.heap.size]? = some (.cells #[.int .i64 (x : Int),.int .u32 (G x : Int)] 45 (0,0)) := blk_alloc_new _
    have hl1 := c1.lt
    have hrA := kA.blk (k1.blk hb0 hnot) (by simp)
    obtain ⟨pa, pn, Fa, Fn, d1, d2,rfl, st⟩ := c1.keep kA (by simp)
    have s0 : w.heap.size < w0.heap.size := lt_of_block hb0
    have s1 := k1.size
    have sA := kA.size
    obtain ⟨fn, m1, m2, m3⟩ := n_extract k _ Fn pn cap hs E st.ne h h1 h2 hi
    refine ⟨pa, pn, fn, st.c3, m1, m2, m3.mono ?_⟩
    rintro e w2 ⟨x',rfl, hl', Fn', hn2, hm2⟩
    have hxx := hl'.one hl
    subst hxx
    have hxn : w1.heap.size ∉ s :: (Fa ++ Fn) := fun e => Nat.lt_irrefl _ (hl1 _ e)
    have b2 := hm2.keeps.blk st.blk st.sn
    have hA2 := hm2.keeps.blk hA (fun e => hxn (by simp [e]))
    have hr2 := hm2.keeps.blk hrA (fun e => hnot (by simp [e]))
    have kd : Keeps [] w2 w2.drew := ⟨rfl,rfl,rfl, Nat.le_refl _,fun _ _ _ => rfl⟩
    have arA := st.ar
    have ar2 : AreAt w2.drew Fa pa cap most G (fun y => (E y).isSome) := (arA.keep hm2.keeps st.an).keep kd (by simp)
    have hxc := st.ne.ok.lt x' hl.1.some
    refine ⟨_,rfl,by rw [cell_of_blk b2]; rfl,by rw [cell_of_blk hA2]; rfl,by rw [cell_of_blk hA2]; rfl,(are_give ar2 x' hxc hl.1.some).mono ?_⟩
    rintro e w3 ⟨rfl, Fa', ha3, hm3⟩
    have k23 : Keeps Fa w2 w3 := (kd.mono (T := Fa) (by simp)).trans hm3.keeps (fun b hb => .inl hb)
    have s2 := hm2.keeps.size
    have lA := st.lt
    have hFn' : ∀ b, b ∉ Fn -> b < (w1.alloc (.cells #[.int .i64 (x' : Int),.int .u32 (G x' : Int)] 45 (0,0))).heap.size -> b ∉ Fn' := fun b a1 a2 a3 => by
      rcases hm2.from' b a3 with c | c
      · exact a1 c
      · omega
    have hFa' : ∀ b, b ∉ Fa -> b < w2.heap.size -> b ∉ Fa' := fun b a1 a2 a3 => by
      rcases hm3.from' b a3 with c | c
      · exact a1 c
      · have : w2.heap.size <= b := c; omega
    have hxa : w1.heap.size ∉ Fa := fun e => hxn (by simp [e])
    have hra : w.heap.size ∉ Fa := fun e => hnot (by simp [e])
    have ln2 := hn2.lt
    have sa2 := hFa' s st.sa (lt_of_block b2)
    have anf : ∀ b ∈ Fa, b ∉ Fn' := fun b hb => hFn' b (st.an b hb) (arA.lt b hb)
    refine ⟨rfl, k23.blk hA2 hxa, k23.blk hr2 hra,fun v0 v1 => ⟨x', n, key, hl, he,rfl,?_⟩⟩
    have hq3 : StoreQ w3 s pa pn Fa' Fn' d1 d2 k cap hs (put E x' none) q most G := by
      refine ⟨k23.blk b2 st.sa,?_, hn2.keep k23 (fun b hb e => anf b e hb), sa2, hFn' s st.sn (lA s (by simp)),fun b hb => ?_,fun y g kk m e => ?_,fun y z g kk m g' kk' e e' => ?_, st.gq⟩
      · have e : (fun y => (put E x' none y).isSome) = upd (fun y => (E y).isSome) x' false := by
          funext y
          by_cases c : y = x'
          · subst c; rw [put_same, upd_same]; rfl
          · rw [put_other _ _ _ c, upd_other _ _ c]
        rw [e]; exact ha3
      · rcases hm3.from' b hb with c | c
        · exact anf b c
        · intro f; have := ln2 b f; have : w2.heap.size <= b := c; omega
      · by_cases c : y = x'
        · subst c; rw [put_same] at e; cases e
        · rw [put_other _ _ _ c] at e; exact st.sq y g kk m e
      · by_cases c : y = x'
        · subst c; rw [put_same] at e; cases e
        · by_cases d : z = x'
          · subst d; rw [put_same] at e'; cases e'
          · rw [put_other _ _ _ c] at e; rw [put_other _ _ _ d] at e'; exact st.uq y z g kk m g' kk' e e'
    have kR : Keeps [w.heap.size] w3 ((w3.setCell ⟨w.heap.size,0,none⟩ v0).setCell ⟨w.heap.size,1,none⟩ v1) := ((Keeps.refl _ _).setCell (.inl (by simp)) _).setCell (.inl (by simp)) _
    have hnF : ∀ b ∈ s :: (Fa' ++ Fn'), b ≠ w.heap.size := fun b hb e => by
      subst e
      simp only [List.mem_cons, List.mem_append] at hb
      rcases hb with e | e | e
      · exact hnot (by simp [e])
      · exact hFa' _ hra (by omega) e
      · exact hFn' _ (fun f => hnot (by simp [f])) (by omega) e
    have hq4 := hq3.keep kR (fun b hb e => hnF b hb (by simpa using e))
    refine ⟨_,⟨pa, pn, Fa', Fn', d1, d2,rfl, hq4⟩,?_,fun b hb => ?_, hq4.lt⟩
    · refine (((((k0.mono (T := s :: (Fa ++ Fn)) (by simp)).trans k1 (fun b hb => .inl hb)).trans kA (by simp)).trans hm2.keeps (fun b hb => .inl (by simp [hb]))).trans k23 (fun b hb => .inl (by simp [hb]))).trans kR (fun b hb => .inr (by simp only [List.mem_singleton] at hb; omega))
    · simp only [List.mem_cons, List.mem_append] at hb ⊢
      rcases hb with e | e | e
      · exact .inl (.inl e)
      · rcases hm3.from' b e with c | c
        · exact .inl (.inr (.inl c))
        · have : w2.heap.size <= b := c
          exact .inr (by omega)
      · rcases hm2.from' b e with c | c
        · exact .inl (.inr (.inr c))
        · exact .inr (by omega)
  have HS := Lib.hid hstep
  clear hstep c hlt k0 hi hb0
  go_enter Tryz.func31, Tryz.ntmps31
  go_upto_region 1 with fail
  rw [<- hw0]
  clear hw0
  go_upto_region 4 with (go_at_call 32; refine hmin.mono ?_; rintro e w1 ⟨x, n, key, hl, he,rfl, c1, k1⟩; obtain ⟨pa, pn, fn, z1, m1, m2, z2⟩ := HS.out w1 x n key hl he c1 k1; clear hl he c1 k1)
  clear hmin HS
  go_upto_region 5 with (refine z2.out.mono ?_; rintro e w2 ⟨v,rfl, y1, y2, y3, y4⟩)
  clear z1 z2 m1 m2
  go_region_law (first
    | (go_simp; go_at_call 50; refine y4.out.mono ?_; rintro e w3 ⟨rfl, b1, b0, hfin⟩))
  all_goals
    clear y1 y2 y3 y4
    have g0 : w3.cell? ⟨w1.heap.size,0,none⟩ = some (.int .i64 (x : Int)) := by rw [cell_of_blk b1]; rfl
    have g1 : w3.cell? ⟨w1.heap.size,1,none⟩ = some (.int .u32 (G x : Int)) := by rw [cell_of_blk b1]; rfl
    have g2 : w3.cell? ⟨w.heap.size,0,none⟩ = some (.int .i64 0) := by rw [cell_of_blk b0]; rfl
    have g3 : w3.cell? ⟨w.heap.size,1,none⟩ = some (.int .u32 0) := by rw [cell_of_blk b0]; rfl
    have g4 : w3.frozen? ⟨w.heap.size,0,none⟩ = false := frozen_of_blk b0
    have g5 : w3.frozen? ⟨w.heap.size,1,none⟩ = false := frozen_of_blk b0
    have hblk := blk_setCell (i := 1) (.int .u32 (G x : Int)) (blk_setCell (i := 0) (.int .i64 (x : Int)) b0)
    have HB := Lib.hid hblk
    clear hblk b0 b1
    go_wp2_with fail
    refine bodyPost_ret (v := .tuple #[.agg #[.int .i64 (x : Int),.int .u32 (G x : Int)],.int .i64 key,.int .i64 0]) ?_ rfl (hfin.out _ _)
    refine (results_cell3 (p := 4) (u := 5) (v := 6) rfl _ _ w.heap.size 45 #[.int .i64 (x : Int),.int .u32 (G x : Int)] (0,0) _ (by simp) ?_ Tryz.underlying45 rfl (by kernel_rfl)).trans ?_
    · have := HB.out
      simpa using this
    · simp
theorem pq_extract_no (c : StoreAt w F s k cap hs E q most G) (h : Nat) (h1 : 1 <= h) (h2 : h <= hs) (hi : ∀ y, ¬ isIn E h y) :
    Calls Tryz.prog 31 #[.pointer (some ⟨s,0,none⟩),.int .i64 h] w (MinNo w F s k cap hs E q most G) := by
  have hlt := c.lt
  obtain ⟨w0, hw0⟩ : ∃ w0, w0 = w.alloc (.cells #[.int .i64 0,.int .u32 0] 45 (0,0)) := ⟨_,rfl⟩
  have k0 : Keeps [] w w0 := by rw [hw0]; exact (Keeps.refl _ _).alloc _
  have hb0 : w0.heap[w.heap.size]? = some (.cells #[.int .i64 0,.int .u32 0] 45 (0,0)) := by rw [hw0]; exact blk_alloc_new _
  have hfirst := pq_min_no w0 F s k cap hs E q most G (c.keep k0 (by simp)) h h1 h2 hi
  have hnot : w.heap.size ∉ F := fun e => Nat.lt_irrefl _ (hlt _ e)
  have hstep : ∀ (w1 : World), StoreAt w1 F s k cap hs E q most G -> Keeps F w0 w1 ->
      (w1.alloc (.cells #[.int .i64 0,.int .u32 0] 45 (0,0))).heap[w.heap.size]? = some (.cells #[.int .i64 0,.int .u32 0] 45 (0,0)) ∧
        Hid (∀ v0 v1, MinNo w F s k cap hs E q most G (.returned (.tuple #[.agg #[.int .i64 0,.int .u32 0],.int .i64 0,.int .i64 172])) (((w1.alloc (.cells #[.int .i64 0,.int .u32 0] 45 (0,0))).setCell ⟨w.heap.size,0,none⟩ v0).setCell ⟨w.heap.size,1,none⟩ v1)) := by
    intro w1 c1 k1
    have kA : Keeps [] w1 (w1.alloc (.cells #[.int .i64 0,.int .u32 0] 45 (0,0))) := (Keeps.refl _ _).alloc _
    refine ⟨kA.blk (k1.blk hb0 hnot) (by simp),fun v0 v1 => ⟨rfl,?_,?_⟩⟩
    · exact (c1.keep kA (by simp)).keep (T := [w.heap.size]) (((Keeps.refl _ _).setCell (.inl (by simp)) _).setCell (.inl (by simp)) _) (fun b hb e => hnot (by simp only [List.mem_singleton] at e; exact e ▸ hb))
    · exact ((((k0.mono (T := F) (by simp)).trans k1 (fun b hb => .inl hb)).trans kA (by simp)).setCell (.inr (by simp)) _).setCell (.inr (by simp)) _
  have HS := Lib.hid hstep
  clear hstep c hlt k0 hi hb0
  go_enter Tryz.func31, Tryz.ntmps31
  go_upto_region 1 with fail
  rw [<- hw0]
  clear hw0
  go_upto_region 3 with (go_at_call 32; refine hfirst.mono ?_; rintro e w1 ⟨rfl, c1, k1⟩; obtain ⟨b6, hfin⟩ := HS.out w1 c1 k1; clear c1 k1)
  clear hfirst HS
  generalize w1.alloc (.cells #[.int .i64 0,.int .u32 0] 45 (0,0)) = w3 at *
  have g2 : w3.cell? ⟨w.heap.size,0,none⟩ = some (.int .i64 0) := by rw [cell_of_blk b6]; rfl
  have g3 : w3.cell? ⟨w.heap.size,1,none⟩ = some (.int .u32 0) := by rw [cell_of_blk b6]; rfl
  have g4 : w3.frozen? ⟨w.heap.size,0,none⟩ = false := frozen_of_blk b6
  have g5 : w3.frozen? ⟨w.heap.size,1,none⟩ = false := frozen_of_blk b6
  have hblk := blk_setCell (i := 1) (.int .u32 0) (blk_setCell (i := 0) (.int .i64 0) b6)
  have HB := Lib.hid hblk
  clear hblk b6
  go_wp2_with fail
  refine bodyPost_ret (v := .tuple #[.agg #[.int .i64 0,.int .u32 0],.int .i64 0,.int .i64 172]) ?_ rfl (hfin.out _ _)
  refine (results_cell3 (p := 4) (u := 5) (v := 6) rfl _ _ w.heap.size 45 #[.int .i64 0,.int .u32 0] (0,0) _ (by simp) ?_ Tryz.underlying45 rfl (by kernel_rfl)).trans ?_
  · have := HB.out
    simpa using this
  · simp
end
theorem Tryz.infoInt64 : (Tryz.prog.info? 2).map (fun i => (i.zero, i.size, i.bytes)) = some (some (.int .i64 0), 1,8) := by kernel_rfl
section
variable {w w' : World} {B : Nat} {v : Value} {l : List Int} {S : List Nat}
theorem KRow.keep (h : KRow B w v l) (k : Keeps S w w') (hS : ∀ b, v.ownBlock = some b -> b ∉ S) : KRow B w' v l := by
  refine ⟨h.1,?_⟩
  rcases h.2 with h0 | ⟨g, cap', cur, e, hb, hg, r⟩
  · exact .inl h0
  · exact .inr ⟨g, cap', cur, e, hb, k.blk hg (hS g (by rw [e]; simp [Value.ownBlock])), r⟩
theorem KRow.own (h : KRow B w v l) : ∀ b, v.ownBlock = some b -> B <= b ∧ b < w.heap.size := by
  intro b e
  rcases h.2 with ⟨h0, _⟩ | ⟨g, cap', cur, e', hb, hg, r⟩
  · rw [h0] at e; cases e
  · rw [e'] at e; simp [Value.ownBlock] at e; subst e; exact ⟨hb, lt_of_block hg⟩
theorem KRow.form (h : KRow B w v l) : ∃ ao cap, v = .slice ao l.length cap := by
  rcases h.2 with ⟨rfl, h0⟩ | ⟨g, cap', cur,rfl, _⟩
  · exact ⟨none, 0,by rw [h0]⟩
  · exact ⟨_, _,rfl⟩
theorem KRow.at {ao : Option Addr} {n ca i : Nat} {x : Int} (h : KRow B w (.slice ao n ca) l) (hi : l[i]? = some x) : ∃ g, ao = some ⟨g,0,none⟩ ∧ B <= g ∧ w.cell? ⟨g,i,none⟩ = some (.int .i64 x) := by
  have hl := (List.getElem?_eq_some_iff.1 hi).1
  have h' := h
  rcases h.2 with ⟨_, h0⟩ | ⟨g, cap', cur, e, hb, hg, _⟩
  · omega
  · cases e
    refine ⟨g,rfl, hb,?_⟩
    rw [World.ownsRow.cellAt h' i (by omega)]
    simp [keysV, hi]
theorem KRow.lo {C : Nat} (h : KRow B w v l) (hc : C <= B) : KRow C w v l := by
  refine ⟨h.1,?_⟩
  rcases h.2 with h0 | ⟨g, cap', cur, e, hb, r⟩
  · exact .inl h0
  · exact .inr ⟨g, cap', cur, e, Nat.le_trans hc hb, r⟩
theorem KRow.pushed {g ca : Nat} {x : Int} (h : w.ownsRow 0 2 1 (.slice (some ⟨g,0,none⟩) (l.length + 1) ca) (l.length + 1) (keysV l ++ [.int .i64 x])) (hg : B <= g) : KRow B w (.slice (some ⟨g,0,none⟩) (l.length + 1) ca) (l ++ [x]) := by
  unfold KRow
  have e : keysV (l ++ [x]) = keysV l ++ [.int .i64 x] := by simp [keysV]
  rw [e, List.length_append]
  refine ⟨h.1,?_⟩
  rcases h.2 with ⟨h0, _⟩ | ⟨g', cap, cur, e, hb, r⟩
  · cases h0
  · cases e; exact .inr ⟨g, ca, cur,rfl, hg, r⟩
end
section
variable (w : World) (F : List Nat) (s k cap hs : Nat) (E : Ent) (q : Nat) (most : Int) (G : Nat -> Nat)
end
def dv (o : Option Nat) : Int := match o with | some k => (k : Int) | none => 9223372036854775807
theorem dv_some (k : Nat) : dv (some k) = (k : Int) := rfl
theorem dv_none : dv none = 9223372036854775807 := rfl
def dvL (D : Nat -> Option Nat) (n : Nat) : List Int := (List.range n).map fun v => dv (D v)
theorem dvL_len (D : Nat -> Option Nat) (n : Nat) : (dvL D n).length = n := by simp [dvL]
theorem dvL_at (D : Nat -> Option Nat) {n v : Nat} (h : v < n) : (dvL D n)[v]? = some (dv (D v)) := by simp [dvL, h]
theorem dvL_set (D : Nat -> Option Nat) {n v k : Nat} (h : v < n) : (dvL D n).set v (k : Int) = dvL (upd D v (some k)) n := by
  apply List.ext_getElem (by simp [dvL])
  intro i h1 h2
  rw [List.getElem_set]
  simp only [dvL, List.getElem_map, List.getElem_range]
  by_cases c : v = i
  · subst c; rw [if_pos rfl, upd_same]; rfl
  · rw [if_neg c, upd_other _ _ (Ne.symm c)]
def AnyI (B : Nat) (w : World) (v : Value) (n : Nat) : Prop := ∃ xs : List Int, xs.length = n ∧ w.ownsRow B 3 1 v n (xs.map fun x => .int .i64 x)
def vtx (K : Nat -> Option Nat) : Nat -> Nat -> Option Nat := fun x g => if g = 1 then K x else none
structure SrQ (w : World) (p s gh mb c k n : Nat) (vd vb : Value) (F : List Nat) (cur : Array Value) (E : Ent) (q : Nat) (G : Nat -> Nat) (D K : Nat -> Option Nat) : Prop where
  blk : w.heap[p]? = some (.cells #[vd, vb,.pointer (some ⟨s,0,none⟩),.slice (some ⟨gh,0,none⟩) n n,.map (some mb)] 115 (0,0))
  dist : KRow 0 w vd (dvL D n)
  edge : AnyI 0 w vb n
  st : StoreAt w F s k n 1 E q 1 G
  hand : w.heap[gh]? = some (.cells cur 45 (0,0))
  hsz : cur.size = n * 2
  map : HMap elmInt w mb c (vtx K)
  few : c <= q
  ne : p ≠ gh ∧ p ≠ mb ∧ gh ≠ mb ∧ p ∉ F ∧ gh ∉ F ∧ mb ∉ F
  od : ∀ b, vd.ownBlock = some b -> b ≠ p ∧ b ≠ gh ∧ b ≠ mb ∧ b ∉ F
  ob : ∀ b, vb.ownBlock = some b -> b ≠ p ∧ b ≠ gh ∧ b ≠ mb ∧ b ∉ F
  db : ∀ b, vd.ownBlock = some b -> vb.ownBlock ≠ some b
  fresh : ∀ x, G x = 0 -> K x = none
  kx : ∀ x, K x ≠ none -> x < n
def srF (p gh mb : Nat) (F : List Nat) (vd vb : Value) : List Nat := p :: gh :: mb :: (F ++ (vd.ownBlock.toList ++ vb.ownBlock.toList))
theorem srF_mem {p gh mb b : Nat} {F : List Nat} {vd vb : Value} : b ∈ srF p gh mb F vd vb ↔ b = p ∨ b = gh ∨ b = mb ∨ b ∈ F ∨ vd.ownBlock = some b ∨ vb.ownBlock = some b := by
  simp [srF, Option.mem_toList]
def SrAt (w : World) (FP : List Nat) (p k n : Nat) (E : Ent) (q : Nat) (G : Nat -> Nat) (D K : Nat -> Option Nat) : Prop :=
  ∃ (s gh mb c : Nat) (vd vb : Value) (F : List Nat) (cur : Array Value), FP = srF p gh mb F vd vb ∧ SrQ w p s gh mb c k n vd vb F cur E q G D K
theorem AnyI.keep {B : Nat} {w w' : World} {v : Value} {n : Nat} {S : List Nat} (h : AnyI B w v n) (k : Keeps S w w') (hS : ∀ b, v.ownBlock = some b -> b ∉ S) : AnyI B w' v n := by
  obtain ⟨xs, h1, h2⟩ := h
  refine ⟨xs, h1, h2.1,?_⟩
  rcases h2.2 with c | ⟨g, cap, cur, e, hb, hg, r⟩
  · exact .inl c
  · exact .inr ⟨g, cap, cur, e, hb, k.blk hg (hS g (by rw [e]; rfl)), r⟩
section
variable {w w' : World} {p s gh mb c k n q : Nat} {vd vb : Value} {F S : List Nat} {cur : Array Value} {E : Ent} {G : Nat -> Nat} {D K : Nat -> Option Nat}
theorem SrQ.keep (h : SrQ w p s gh mb c k n vd vb F cur E q G D K) (kk : Keeps S w w') (hS : ∀ b ∈ srF p gh mb F vd vb, b ∉ S) : SrQ w' p s gh mb c k n vd vb F cur E q G D K :=
  ⟨kk.blk h.blk (hS p (srF_mem.2 (.inl rfl))), h.dist.keep kk (fun b e => hS b (srF_mem.2 (.inr (.inr (.inr (.inr (.inl e))))))), h.edge.keep kk (fun b e => hS b (srF_mem.2 (.inr (.inr (.inr (.inr (.inr e))))))),
    h.st.keep kk (fun b e => hS b (srF_mem.2 (.inr (.inr (.inr (.inl e)))))), kk.blk h.hand (hS gh (srF_mem.2 (.inr (.inl rfl)))), h.hsz, h.map.keep kk (hS mb (srF_mem.2 (.inr (.inr (.inl rfl))))), h.few, h.ne, h.od, h.ob, h.db, h.fresh, h.kx⟩
end
theorem StoreAt.most {w : World} {F : List Nat} {s k cap hs q : Nat} {most : Int} {E : Ent} {G : Nat -> Nat} (h : StoreAt w F s k cap hs E q most G) : ∀ x, x < cap -> (G x : Int) <= most := by
  obtain ⟨pa, pn, Fa, Fn, c1, c2,rfl, st⟩ := h
  obtain ⟨gs, ao, cw, S, W, next, cnt, _, a, i, hl, hg⟩ := st.ar
  intro x hx
  have hx2 := hg x hx
  by_cases c : x < next
  · have := (i.used x c).2
    rw [hx2] at this
    exact this
  · have hf := i.fresh x (by omega)
    rw [hf] at hx2
    have h0 := congrArg Prod.fst hx2
    simp only at h0
    rw [<- h0]
    exact Int.le_trans (by decide) i.m1
theorem row_set' {w : World} {B e g n cap : Nat} {xs : List Value} (h : w.ownsRow B e 1 (.slice (some ⟨g,0,none⟩) n cap) n xs) (i : Nat) (hi : i < n) (u : Value) :
    (w.setCell ⟨g,i,none⟩ u).ownsRow B e 1 (.slice (some ⟨g,0,none⟩) n cap) n (xs.set i u) := Rg.row_set h i hi u
section
variable {w w' : World} {p s gh mb c k n q : Nat} {vd vb : Value} {F S : List Nat} {cur : Array Value} {E : Ent} {G : Nat -> Nat} {D K : Nat -> Option Nat}
theorem SrQ.ins (h : SrQ w p s gh mb c k n vd vb F cur E q G D K) (far : Int) (e : Ending) (d : InsDone w F s k n 1 E q 1 G 1 far e w') :
    ∃ (x : Nat) (F' : List Nat), e = .returned (.tuple #[.agg #[.int .i64 (x : Int),.int .u32 1],.int .i64 0]) ∧ x < n ∧ E x = none ∧ K x = none ∧ G x = 0 ∧
      SrQ w' p s gh mb c k n vd vb F' cur (put E x (some (1, far, q + 1))) (q + 1) (upd G x 1) D K ∧ Moved F w F' w' := by
  obtain ⟨x, hx, hn,rfl, F', st, mv⟩ := d
  have hm := st.most x hx
  rw [upd_same] at hm
  have hg : G x = 0 := by omega
  have hlt := h.st.lt
  have hin : ∀ b, b ∉ F -> b < w.heap.size -> b ∉ F' := fun b h1 h2 h3 => by
    rcases mv.from' b h3 with e | e
    · exact h1 e
    · omega
  have lp := lt_of_block h.blk
  have lg := lt_of_block h.hand
  have lm := h.map.lt
  have ld : ∀ b, vd.ownBlock = some b -> b < w.heap.size := fun b e => (h.dist.own b e).2
  have lb : ∀ b, vb.ownBlock = some b -> b < w.heap.size := fun b e => by
    obtain ⟨xs, _, hr⟩ := h.edge
    rcases hr.2 with ⟨a, _⟩ | ⟨g, cap, cu, a, _, hg, _⟩
    · rw [a] at e; cases e
    · rw [a] at e; cases e; exact lt_of_block hg
  obtain ⟨n1, n2, n3, n4, n5, n6⟩ := h.ne
  refine ⟨x, F',by rw [hg]; rfl, hx, hn, h.fresh x hg, hg,⟨mv.keeps.blk h.blk n4, h.dist.keep mv.keeps (fun b e => (h.od b e).2.2.2), h.edge.keep mv.keeps (fun b e => (h.ob b e).2.2.2),?_, mv.keeps.blk h.hand n5, h.hsz, h.map.keep mv.keeps n6,by have := h.few; omega,
    ⟨n1, n2, n3, hin p n4 lp, hin gh n5 lg, hin mb n6 lm⟩,fun b e => ?_,fun b e => ?_, h.db,fun y hy => ?_, h.kx⟩, mv⟩
  · rw [hg] at st; exact st
  · obtain ⟨a1, a2, a3, a4⟩ := h.od b e; exact ⟨a1, a2, a3, hin b a4 (ld b e)⟩
  · obtain ⟨a1, a2, a3, a4⟩ := h.ob b e; exact ⟨a1, a2, a3, hin b a4 (lb b e)⟩
  · by_cases c : y = x
    · subst c; rw [upd_same] at hy; omega
    · rw [upd_other _ _ c] at hy; exact h.fresh y hy
theorem SrQ.hand2 (h : SrQ w p s gh mb c k n vd vb F cur E q G D K) (i j : Nat) (u u' : Value) :
    ∃ cur', SrQ ((w.setCell ⟨gh,i,none⟩ u).setCell ⟨gh,j,none⟩ u') p s gh mb c k n vd vb F cur' E q G D K ∧ Keeps [gh] w ((w.setCell ⟨gh,i,none⟩ u).setCell ⟨gh,j,none⟩ u') := by
  have k2 : Keeps [gh] w ((w.setCell ⟨gh,i,none⟩ u).setCell ⟨gh,j,none⟩ u') := Keeps.setCell (p := ⟨gh,j,none⟩) (Keeps.setCell (p := ⟨gh,i,none⟩) (Keeps.refl _ _) (.inl (by simp)) u) (.inl (by simp)) u'
  obtain ⟨n1, n2, n3, n4, n5, n6⟩ := h.ne
  exact ⟨_,⟨k2.blk h.blk (by simpa using n1), h.dist.keep k2 (fun b e => by simpa using (h.od b e).2.1), h.edge.keep k2 (fun b e => by simpa using (h.ob b e).2.1), h.st.keep k2 (fun b hb e => by simp at e; subst e; exact n5 hb), blk_setCell (i := j) _ (blk_setCell (i := i) _ h.hand),by simp [h.hsz], h.map.keep k2 (by simpa using n3.symm), h.few, h.ne, h.od, h.ob, h.db, h.fresh, h.kx⟩, k2⟩
theorem SrQ.named (h : SrQ w p s gh mb c k n vd vb F cur E q G D K) {x v c' : Nat} (hx : x < n) (hg : G x ≠ 0) (hc : c' <= q) (hm : HMap elmInt w' mb c' (vtx (upd K x (some v)))) (hgr : w.grownBy w' (some mb)) :
    SrQ w' p s gh mb c' k n vd vb F cur E q G D (upd K x (some v)) ∧ Keeps [mb] w w' := by
  have k2 : Keeps [mb] w w' := (Keeps.refl _ _).grown hgr (fun b e => .inl (by cases e; simp))
  obtain ⟨n1, n2, n3, n4, n5, n6⟩ := h.ne
  refine ⟨⟨k2.blk h.blk (by simpa using n2), h.dist.keep k2 (fun b e => by simpa using (h.od b e).2.2.1), h.edge.keep k2 (fun b e => by simpa using (h.ob b e).2.2.1), h.st.keep k2 (fun b hb e => by simp at e; subst e; exact n6 hb), k2.blk h.hand (by simpa using n3), h.hsz, hm, hc, h.ne, h.od, h.ob, h.db,fun y hy => ?_,fun y hy => ?_⟩, k2⟩
  · rw [upd_other _ _ (fun e => by subst e; exact hg hy)]; exact h.fresh y hy
  · by_cases e : y = x
    · subst e; exact hx
    · rw [upd_other _ _ e] at hy; exact h.kx y hy
theorem SrQ.far1 {gd cd v f : Nat} (h : SrQ w p s gh mb c k n (.slice (some ⟨gd,0,none⟩) n cd) vb F cur E q G D K) (hv : v < n) :
    SrQ (w.setCell ⟨gd,v,none⟩ (.int .i64 (f : Int))) p s gh mb c k n (.slice (some ⟨gd,0,none⟩) n cd) vb F cur E q G (upd D v (some f)) K ∧ Keeps [gd] w (w.setCell ⟨gd,v,none⟩ (.int .i64 (f : Int))) := by
  have k2 : Keeps [gd] w (w.setCell ⟨gd,v,none⟩ (.int .i64 (f : Int))) := Keeps.setCell (p := ⟨gd,v,none⟩) (Keeps.refl _ _) (.inl (by simp)) _
  obtain ⟨a1, a2, a3, a4⟩ := h.od gd rfl
  refine ⟨⟨k2.blk h.blk (by simpa using a1.symm),?_, h.edge.keep k2 (fun b e => by simp; intro e2; subst e2; exact h.db b rfl e), h.st.keep k2 (fun b hb e => by simp at e; subst e; exact a4 hb), k2.blk h.hand (by simpa using a2.symm), h.hsz, h.map.keep k2 (by simpa using a3.symm), h.few, h.ne, h.od, h.ob, h.db, h.fresh, h.kx⟩, k2⟩
  have hd := h.dist
  unfold KRow at hd ⊢
  rw [dvL_len] at hd ⊢
  have := row_set' hd v hv (.int .i64 (f : Int))
  rw [<- dvL_set D hv]
  have e : keysV ((dvL D n).set v (f : Int)) = (keysV (dvL D n)).set v (.int .i64 (f : Int)) := by simp [keysV]
  rw [e]; exact this
theorem SrQ.by1 {gb cb v : Nat} (h : SrQ w p s gh mb c k n vd (.slice (some ⟨gb,0,none⟩) n cb) F cur E q G D K) (hv : v < n) (x : Int) :
    SrQ (w.setCell ⟨gb,v,none⟩ (.int .i64 x)) p s gh mb c k n vd (.slice (some ⟨gb,0,none⟩) n cb) F cur E q G D K ∧ Keeps [gb] w (w.setCell ⟨gb,v,none⟩ (.int .i64 x)) := by
  have k2 : Keeps [gb] w (w.setCell ⟨gb,v,none⟩ (.int .i64 x)) := Keeps.setCell (p := ⟨gb,v,none⟩) (Keeps.refl _ _) (.inl (by simp)) _
  obtain ⟨a1, a2, a3, a4⟩ := h.ob gb rfl
  refine ⟨⟨k2.blk h.blk (by simpa using a1.symm), h.dist.keep k2 (fun b e => by simp; intro e2; subst e2; exact h.db b e rfl),?_, h.st.keep k2 (fun b hb e => by simp at e; subst e; exact a4 hb), k2.blk h.hand (by simpa using a2.symm), h.hsz, h.map.keep k2 (by simpa using a3.symm), h.few, h.ne, h.od, h.ob, h.db, h.fresh, h.kx⟩, k2⟩
  obtain ⟨xs, h1, h2⟩ := h.edge
  refine ⟨xs.set v x,by simpa using h1,?_⟩
  have := row_set' h2 v hv (.int .i64 x)
  simpa using this
end
end Go.Proofs.YtkdbjelhkfdfjaaGreatDoor


/-
  Contracts that the law rests on. Conditions: none.
-/
import Derived.Test.YtkdbjelhkfdfjaaGreatDoorQs45
import Derived.Lib.Builder
import Derived.Lib.AppendStr
import Derived.Lib.UnsafeStr
import Derived.RangeFuncNested
import Derived.RangeFuncBound
import Derived.RangeFuncCalls
import Derived.RangeFuncLeaves
import Derived.Shelf.Abstract
import Derived.Shelf.RegionOpen
import Derived.OwnWalkIn
import Derived.TacticsInMore
import Derived.LoopNIn
import Derived.LoopIn
import Derived.Sort.LoopGhostIn
set_option linter.unusedVariables false
set_option maxRecDepth 100000
set_option maxHeartbeats 16000000
namespace Go.Proofs.YtkdbjelhkfdfjaaGreatDoor
open Go.RowKit
theorem Tryz.infoBldP : (Tryz.prog.info? 122).map (·.size) = some 2 := by kernel_rfl
theorem Tryz.infoU8 : (Tryz.prog.info? 5).map (fun i => (i.zero, i.size, i.bytes)) = some (some (.int .u8 0), 1,1) := by kernel_rfl
theorem Tryz.cellsU8 : Tryz.prog.cellsOf 5 = 1 := by kernel_rfl
def BldAt (w : World) (p : Nat) (t : List UInt8) (v : Value) : Prop :=
  ∃ a, w.heap[p]? = some (.cells #[a, v] 122 (0,0)) ∧ (a = .pointer none ∨ a = .pointer (some ⟨p,0,none⟩)) ∧ w.ownsRow 0 5 1 v t.length (Lib.byteCells t) ∧ v.ownBlock ≠ some p
section
variable {w w' : World} {p : Nat} {t : List UInt8} {v : Value} {S : List Nat}
theorem BldAt.keep (h : BldAt w p t v) (k : Keeps S w w') (hp : p ∉ S) (hv : ∀ b, v.ownBlock = some b → b ∉ S) : BldAt w' p t v := by
  obtain ⟨a, h1, h2, h3, h4⟩ := h
  refine ⟨a, k.blk h1 hp, h2, ⟨h3.1,?_⟩, h4⟩
  rcases h3.2 with c | ⟨g, cap, cur, e, hb, hg, r⟩
  · exact .inl c
  · exact .inr ⟨g, cap, cur, e, hb, k.blk hg (hv g (by rw [e]; rfl)), r⟩
theorem BldAt.new (w : World) : BldAt (w.alloc (.cells #[.pointer none, .slice none 0 0] 122 (0,0))) w.heap.size [] (.slice none 0 0) :=
  ⟨_, blk_alloc_new _, .inl rfl, ⟨rfl, .inl ⟨rfl,rfl⟩⟩,by simp [Value.ownBlock]⟩
theorem BldAt.rowBlk (h : BldAt w p t v) {b : Nat} (e : v.ownBlock = some b) : ∃ cur, w.heap[b]? = some (.cells cur 5 (0,0)) := by
  obtain ⟨a, h1, h2, h3, h4⟩ := h
  rcases h3.2 with ⟨c, _⟩ | ⟨g, cap, cur, e', hb, hg, r⟩
  · rw [c] at e; cases e
  · rw [e'] at e; cases e; exact ⟨cur, hg⟩
theorem BldAt.lt (h : BldAt w p t v) : p < w.heap.size := by obtain ⟨a, h1, _⟩ := h; exact lt_of_block h1
end
section
variable (w : World) (p : Nat) (t : List UInt8) (v : Value)
theorem bld_check (h : BldAt w p t v) : Calls Tryz.prog 77 #[.pointer (some ⟨p,0,none⟩)] w fun e w' => e = .returned (.tuple #[]) ∧ BldAt w' p t v ∧ Keeps [p] w w' ∧ w'.heap[p]? = some (.cells #[.pointer (some ⟨p,0,none⟩), v] 122 (0,0)) := by
  obtain ⟨j, hj, hjs⟩ := Option.map_eq_some_iff.1 Tryz.infoBldP
  obtain ⟨a, h1, h2, h3, h4⟩ := h
  have c0 : w.cell? ⟨p,0,none⟩ = some a := by rw [cell_of_blk h1]; rfl
  have f0 : w.frozen? ⟨p,0,none⟩ = false := frozen_of_blk h1
  rcases h2 with rfl | rfl
  · have hsh : w.shape? p = some (122,2) := by simp [World.shape?, h1]
    have q1 := Lib.run_to_unsafe (P := Tryz.prog) w ⟨p,0,none⟩ Tryz.underlying119 Tryz.underlying244 hj (by rw [hjs]; decide) hsh (show 0 < 2 by decide)
    have q2 : (callFunc 98 #[.pointer (some ⟨p,0,none⟩)]).run Tryz.prog w = .ok (.value (.pointer (some ⟨p,0,none⟩))) w := by kernel_rfl
    have q3 := Lib.run_from_unsafe (P := Tryz.prog) w ⟨p,0,none⟩ Tryz.underlying244 Tryz.underlying119 hj hsh (by kernel_rfl)
    have hb : (w.setCell ⟨p,0,none⟩ (.pointer (some ⟨p,0,none⟩))).heap[p]? = some (.cells #[.pointer (some ⟨p,0,none⟩), v] 122 (0,0)) := (blk_setCell (i := 0) _ h1).trans rfl
    have kk : Keeps [p] w (w.setCell ⟨p,0,none⟩ (.pointer (some ⟨p,0,none⟩))) := (Keeps.refl _ _).setCell (p := ⟨p,0,none⟩) (.inl (by simp)) _
    have HF : Hid (BldAt (w.setCell ⟨p,0,none⟩ (.pointer (some ⟨p,0,none⟩))) p t v ∧ Keeps [p] w (w.setCell ⟨p,0,none⟩ (.pointer (some ⟨p,0,none⟩))) ∧ (w.setCell ⟨p,0,none⟩ (.pointer (some ⟨p,0,none⟩))).heap[p]? = some (.cells #[.pointer (some ⟨p,0,none⟩), v] 122 (0,0))) := by
      refine Lib.hid ⟨⟨_, hb, .inr rfl, ⟨h3.1,?_⟩, h4⟩, kk, hb⟩
      rcases h3.2 with c | ⟨g, cap, cur, e, hb', hg, r⟩
      · exact .inl c
      · exact .inr ⟨g, cap, cur, e, hb', kk.blk hg (by simp; intro c; exact h4 (by rw [e, ← c]; rfl)), r⟩
    clear hb kk h1 h3 h4
    go_enter Tryz.func77, Tryz.ntmps77
    go_wp2_with fail
    go_end0
    exact ⟨rfl, HF.out⟩
  · have q1 := Lib.run_neq_ptr_same (P := Tryz.prog) w ⟨p,0,none⟩ Tryz.underlying119 hj
    have HF := Lib.hid (show BldAt w p t v ∧ Keeps [p] w w ∧ w.heap[p]? = some (.cells #[.pointer (some ⟨p,0,none⟩), v] 122 (0,0)) from ⟨⟨_, h1, .inr rfl, h3, h4⟩, Keeps.refl _ _, h1⟩)
    clear h1 h3 h4
    go_enter Tryz.func77, Tryz.ntmps77
    go_wp2_with fail
    go_end0
    exact ⟨rfl, HF.out⟩
def Wrote (B : Nat) (s : List UInt8) (e : Ending) (w' : World) : Prop :=
  ∃ v', e = .returned (.tuple #[.int .i64 (s.length : Int), .nilIface]) ∧ BldAt w' p (t ++ s) v' ∧ Keeps (p :: v.ownBlock.toList) w w' ∧ ∀ b, v'.ownBlock = some b → B ≤ b
theorem brow_up {w : World} {e size n B : Nat} {v : Value} {xs : List Value} (h : w.ownsRow 0 e size v n xs) (hB : ∀ b, v.ownBlock = some b → B ≤ b) : w.ownsRow B e size v n xs := by
  refine ⟨h.1,?_⟩
  rcases h.2 with c | ⟨g, cap, cur, e', hb, r⟩
  · exact .inl c
  · exact .inr ⟨g, cap, cur, e', hB g (by rw [e']; rfl), r⟩
theorem brow_down {w : World} {e size n B : Nat} {v : Value} {xs : List Value} (h : w.ownsRow B e size v n xs) : w.ownsRow 0 e size v n xs := by
  refine ⟨h.1,?_⟩
  rcases h.2 with c | ⟨g, cap, cur, e', hb, r⟩
  · exact .inl c
  · exact .inr ⟨g, cap, cur, e', Nat.zero_le _, r⟩
theorem brow_base {w : World} {e size n B : Nat} {v : Value} {xs : List Value} (h : w.ownsRow B e size v n xs) : ∀ b, v.ownBlock = some b → B ≤ b := by
  intro b hb
  rcases h.2 with ⟨c, _⟩ | ⟨g, cap, cur, e', hg, r⟩
  · rw [c] at hb; cases hb
  · rw [e'] at hb; cases hb; exact hg
theorem bld_write (h : BldAt w p t v) (s : ByteArray) (hl : t.length + s.size ≤ 65536000) (B : Nat) (hB : B ≤ w.heap.size) (hvB : ∀ b, v.ownBlock = some b → B ≤ b) : Calls Tryz.prog 45 #[.pointer (some ⟨p,0,none⟩), .string s] w (Wrote w p t v B s.data.toList) := by
  have hc := bld_check w p t v h
  obtain ⟨i0, hi, hzz⟩ := Option.map_eq_some_iff.1 Tryz.infoU8
  simp only [Prod.mk.injEq] at hzz
  obtain ⟨hz0, hz1, hz2⟩ := hzz
  have hlt := h.lt
  have hfin : ∀ w1, BldAt w1 p t v → Keeps [p] w w1 → w1.heap[p]? = some (.cells #[.pointer (some ⟨p,0,none⟩), v] 122 (0,0)) → w1.cell? ⟨p,1,none⟩ = some v ∧ w1.ownsRow B 5 1 v t.length (Lib.byteCells t) ∧ B ≤ w1.heap.size ∧
      Hid (∀ v' w2, w2.ownsRow B 5 1 v' (t.length + s.size) (Lib.byteCells t ++ Lib.strCells s) → w1.grownBy w2 v.ownBlock → (∃ ao n cap, v' = .slice ao n cap) ∧ w2.frozen? ⟨p,1,none⟩ = false ∧ w2.cell? ⟨p,1,none⟩ = some v ∧ Hid (Wrote w p t v B s.data.toList (.returned (.tuple #[.int .i64 (s.size : Int), .nilIface])) (w2.setCell ⟨p,1,none⟩ v'))) := by
    intro w1 hb k1 hbk
    obtain ⟨a, h1, h2, h3, h4⟩ := hb
    refine ⟨by rw [cell_of_blk hbk]; rfl, brow_up h3 hvB, Nat.le_trans hB k1.size,fun v' w2 hoB hg => ?_⟩
    have ho := brow_down hoB
    have k2 : Keeps v.ownBlock.toList w1 w2 := (Keeps.refl _ _).grown hg (fun b e => .inl (by rw [e]; simp))
    have hp : p ∉ v.ownBlock.toList := by
      intro c
      cases e : v.ownBlock with
      | none => rw [e] at c; simp at c
      | some b => rw [e] at c; simp at c; exact h4 (by rw [e, c])
    have hb2 := k2.blk hbk hp
    have hb3 : (w2.setCell ⟨p,1,none⟩ v').heap[p]? = some (.cells #[.pointer (some ⟨p,0,none⟩), v'] 122 (0,0)) := (blk_setCell (i := 1) _ hb2).trans rfl
    have hlen : (t ++ s.data.toList).length = t.length + s.size := by rw [List.length_append]; rfl
    have hne : v'.ownBlock ≠ some p := by
      intro e
      rcases ho.2 with ⟨c, _⟩ | ⟨g, cap, cur, e', hb, hg', r⟩
      · rw [c] at e; cases e
      · rw [e'] at e; cases e
        rw [hb2] at hg'
        injection hg' with hg'; injection hg' with _ ht; cases ht
    refine ⟨?_, frozen_of_blk hb2,by rw [cell_of_blk hb2]; rfl, v',rfl, ⟨_, hb3, .inr rfl,?_, hne⟩,?_, brow_base hoB⟩
    · rcases ho.2 with ⟨c, _⟩ | ⟨g, cap, cur, e', _⟩
      · exact ⟨_, _, _, c⟩
      · exact ⟨_, _, _, e'⟩
    · rw [hlen, Lib.byteCells_append, ← Lib.strCells_eq]
      refine ⟨ho.1,?_⟩
      rcases ho.2 with c | ⟨g, cap, cur, e', hb, hg', r⟩
      · exact .inl c
      · refine .inr ⟨g, cap, cur, e', hb,?_, r⟩
        rw [blk_setCell_ne]
        · exact hg'
        · intro c
          exact hne (by rw [e']; show some g = some p; rw [c])
    · exact ((k1.mono (T := p :: v.ownBlock.toList) (fun x hx => .inl (by simp at hx; simp [hx]))).trans k2 (fun x hx => .inl (by simp [hx]))).setCell (p := ⟨p,1,none⟩) (.inl (by simp)) _
  have HF := Lib.hid hfin
  clear hfin h
  have hsl : (s.size : Int) = (s.data.toList.length : Int) := rfl
  have HSL := Lib.hid hsl
  clear hsl
  go_enter Tryz.func45, Tryz.ntmps45
  go_wp2_with (first
    | (go_at_call 77; refine hc.mono ?_; rintro e w1 ⟨rfl, z1, z2, z3⟩; obtain ⟨c1, c2, cB, c3⟩ := HF.out w1 z1 z2 z3; clear z1 z2 z3)
    | (at_builtin; refine Lib.wpList_append_own_string _ rfl _ _ 120 9 rfl B 5 i0 Tryz.underlying120 Tryz.underlying9 hi hz0 hz1 hz2 v t.length (Lib.byteCells t) rfl c2 s rfl ?_ ?_ ?_ ?_; (unfold maxLen; omega); omega; exact cB; intro v' w2 ho hg _; obtain ⟨⟨ao, n, cap,rfl⟩, f1, c4, c5⟩ := c3.out v' w2 ho hg; clear ho hg))
  go_ret2
  exact c5.out
theorem keeps_freeze {S : List Nat} {w w' : World} (h : Keeps S w w') {a : Addr} (ha : a.block ∈ S ∨ w.heap.size ≤ a.block) (n : Nat) : Keeps S w (w'.freeze a n) := by
  by_cases hn : n = 0
  · have : w'.freeze a n = w' := by simp [World.freeze, hn]
    rw [this]; exact h
  · refine h.trans (T := [a.block]) ⟨?_,?_,?_,?_,fun k hk hs => ?_⟩ (fun x hx => by simp at hx; subst hx; exact ha)
    · simp [World.freeze, hn]
    · simp [World.freeze, hn]
    · simp [World.freeze, hn]
    · simp [World.freeze, hn]
    · simp at hs
      simp [World.freeze, hn, Array.getElem?_modify, Ne.symm hs]
theorem bld_string (h : BldAt w p t v) (h0 : t ≠ []) (hl : t.length ≤ 65536000) : Calls Tryz.prog 48 #[.pointer (some ⟨p,0,none⟩)] w fun e w' => e = .returned (.string ⟨t.toArray⟩) ∧ Keeps v.ownBlock.toList w w' := by
  obtain ⟨a, h1, h2, h3, h4⟩ := h
  have hl0 : t.length ≠ 0 := by simpa using h0
  obtain ⟨g, cap, cur,rfl, hbg, hg, hnc, hcm, hcs, htake⟩ : ∃ g cap cur, v = .slice (some ⟨g,0,none⟩) t.length cap ∧ 0 ≤ g ∧ w.heap[g]? = some (.cells cur 5 (0,0)) ∧ t.length ≤ cap ∧ cap ≤ maxLen ∧ cur.size = cap * 1 ∧ cur.toList.take (t.length * 1) = Lib.byteCells t := by
    rcases h3.2 with ⟨_, hz⟩ | ⟨g, cap, cur, hv, r⟩
    · exact absurd hz hl0
    · exact ⟨g, cap, cur, hv, r⟩
  have c1 : w.drew.cell? ⟨p,1,none⟩ = some (.slice (some ⟨g,0,none⟩) t.length cap) := by
    have : w.drew.heap[p]? = some (.cells #[a, .slice (some ⟨g,0,none⟩) t.length cap] 122 (0,0)) := h1
    rw [cell_of_blk this]; rfl
  have hSD : (Builtin.unsafeSliceData_ #[120] 192 #[.slice (some ⟨g,0,none⟩) t.length cap]).run Tryz.prog w.drew = .ok (.pointer (some ⟨g,0,none⟩)) w.drew :=
    Lib.run_unsafeSliceData_row _ _ _ _ _ _ (by omega)
  have hUS : (Builtin.unsafeString_ #[192,3] 9 #[.pointer (some ⟨g,0,none⟩), .int .i64 t.length]).run Tryz.prog w.drew = .ok (.string ⟨t.toArray⟩) (w.drew.freeze ⟨g,0,none⟩ t.length) := by
    refine Lib.run_unsafeString_row w.drew 192 3 9 5 Tryz.underlying192 Tryz.cellsU8 g cur.size (by have hg' : w.drew.heap[g]? = some (.cells cur 5 (0,0)) := hg; simp [World.shape?, hg']) t h0 (by omega) (by unfold maxLen at hcm; omega) ?_
    intro j x hx
    exact h3.cells (g := g) rfl j (.int .u8 x.toNat) (by simp [Lib.byteCells, hx])
  have HF : Hid (Keeps [g] w (w.drew.freeze ⟨g,0,none⟩ t.length)) := Lib.hid (keeps_freeze (Keeps.refl _ _).drew (.inl (by simp)) _)
  clear h1 h2 h3 h4 hg hcs htake hcm hnc
  go_enter Tryz.func48, Tryz.ntmps48
  go_wp2_with fail
  go_region
  all_goals
    go_wp2_with fail
    go_ret
    exact ⟨rfl, HF.out⟩
end
section
variable {α : Type} {F : Fence} {n : Nat} {P : Program}
def SeqC (F : Fence) (n : Nat) (P : Program) (gf : Nat) (lb : Array Value) (encs : α → Array Value) (c : Nat) (L : List α) (w : World) : Prop :=
  ∀ (l : Nat) (J : List α → World → Prop) (W : World), W.heap[c]? = w.heap[c]? → w.heap.size ≤ W.heap.size → AbidesFrom W.heap.size J → (∀ s X v, J s X → J s (X.setCell ⟨c,0,none⟩ v)) →
    (∀ pre x X, J pre X → pre ++ [x] <+: L → YieldAt F (n - 1) P l (encs x) X fun e X' => e = .returned (.bool true) ∧ J (pre ++ [x]) X' ∧ X'.heap[c]? = X.heap[c]?) →
    J [] W → CallsIn F n P gf (#[.func (.yield l) #[] #[]] ++ lb) W fun e X => (∃ v, e = .returned v) ∧ J L X
def goesOn (B c : Nat) (I : List α → World → Prop) (xs : List α) (W : World) : Exit → Act → World → Prop
  | .normal, _, X => KeepsFrom B W X ∧ X.heap[c]? = W.heap[c]? ∧ I xs X
  | _, _, _ => False
theorem range_cell {g : Operand} {ps : Array Tmp} {assign body : Code} {Q : Exit → Act → World → Prop} {a : Act} {w : World}
    (hro : F.round = none) (h1 : 1 ≤ n) {gf : Nat} {lb : Array Value} (hg : a.eval g = .func (.func gf) #[] lb) (hFg : F.fn gf) (eg : ∀ args w, (callFunc gf args).run P w = .ok (.enter gf args) w)
    {encs : α → Array Value} {c : Nat} {L : List α} (hc : c < w.heap.size) (hseq : SeqC F (n - 1) P gf lb encs c L w) (hps : ∀ x, (encs x).size = ps.size)
    (I : List α → World → Prop) (hI : OwnFrom w.heap.size I) (hIc : ∀ s X v, I s X → I s (X.setCell ⟨c,0,none⟩ v)) (h0 : I [] w) (a₁ : α → Act)
    (hassign : ∀ (l : Nat) (x : α) (W : World) (K : Act → World → Prop), K (a₁ x) W →
      assign.wpIn (F.inRound l) (n - 1 - 1) P (Exit.then K (fun _ _ _ => False)) { tmps := (ps.zip (encs x)).foldl (fun t (p, v) => t.setIfInBounds p v) a.tmps, defers := [] } W)
    (hbody : ∀ (l : Nat) (pre : List α) (x : α) (W : World), I pre W → pre ++ [x] <+: L → body.wpIn (F.inRound l) (n - 1 - 1) P (goesOn w.heap.size c I (pre ++ [x]) W) (a₁ x) W)
    (hdone : ∀ (D : Nat) (W : World), w.heap.size ≤ D → I L W → W.heap[D]? = some (.deferred (some [])) → Q .normal { a with defers := { target := .collected D, args := #[] } :: a.defers } W) :
    (Code.rangeFunc g ps assign body).wpIn F n P Q a w := by
  refine wpIn_rangeFunc fun fn hfn => ?_
  rw [hro]
  obtain ⟨s0, hs0⟩ : ∃ s0, w.heap.size = s0 := ⟨_,rfl⟩
  rw [hs0] at hc hI hbody hdone
  obtain ⟨rc, hrc⟩ : ∃ rc : LoopState → Loop, rc = fun st => { state := st, pending := none, fn, tmps := a.tmps, params := ps, assign, body, defers := s0 } := ⟨_,rfl⟩
  obtain ⟨W1, hW1⟩ : ∃ W1, (w.alloc (.deferred (some []))).alloc (.loop (rc .ready)) = W1 := ⟨_,rfl⟩
  have hsz : W1.heap.size = s0 + 2 := by rw [← hW1, ← hs0]; simp
  have hL1 : W1.heap[s0 + 1]? = some (.loop (rc .ready)) := by
    rw [← hW1, ← hs0]
    have := blk_alloc_new (w := w.alloc (.deferred (some []))) (.loop (rc .ready))
    rwa [World.size_alloc] at this
  have hK1 : W1.heap[s0]? = some (.deferred (some [])) := by
    rw [← hW1, ← hs0]
    exact (blk_alloc_old _ (by simp)).trans (blk_alloc_new _)
  have hc1 : W1.heap[c]? = w.heap[c]? := by
    rw [← hW1]
    exact (blk_alloc_old _ (by simp; omega)).trans (blk_alloc_old _ (by omega))
  have hI1 : I [] W1 := by rw [← hW1]; exact hI.alloc _ (hI.alloc _ h0)
  refine ⟨s0 + 1, [{ target := .collected s0, args := #[] }], W1, { target := .fn (.func gf) lb, args := #[.func (.yield (s0 + 1)) #[] #[]] }, W1, gf,
    #[.func (.yield (s0 + 1)) #[] #[]] ++ lb, W1,?_,?_,fun f e => ?_,?_,fun _ => h1,?_⟩
  · have := run_enterLoop_outer (P := P) (w := w) fn a.tmps ps assign body
    rw [hs0] at this
    rw [← hW1, hrc]
    exact this
  · simp only [resolve, hg]
    simp [go_sem]
  · simp [Target.leads] at e
    exact e ▸ hFg
  · simp [invoke, go_sem, eg]
  · have hwalk : ∀ {A : World} {row : Option Nat}, (∀ r, row = some r → W1.heap.size ≤ r ∧ ∃ o : Obj, A.heap[r]? = some o ∧ o.isWalk = true) → ∀ r, row = some r → s0 ≤ r ∧ ∃ o : Obj, A.heap[r]? = some o ∧ o.isCells = false := by
      intro A row h r e
      obtain ⟨x, o, y, z⟩ := h r e
      exact ⟨by omega, o, y, Obj.not_cells_of_walk z⟩
    refine (hseq (s0 + 1) (fun pre W => I pre W ∧ W.heap[s0 + 1]? = some (.loop (rc .ready)) ∧ W.heap[s0]? = some (.deferred (some []))) W1 hc1 (by omega) ?_ ?_ ?_ ⟨hI1, hL1, hK1⟩).mono ?_
    · rintro s A B row ⟨b1, b2, b3⟩ hgr hr
      exact ⟨hI s A B row b1 hgr (hwalk hr), (grownBy_keeps hgr (fun r e => (hr r e).2) b2 rfl).trans b2, (grownBy_keeps hgr (fun r e => (hr r e).2) b3 rfl).trans b3⟩
    · rintro s X v ⟨b1, b2, b3⟩
      exact ⟨hIc s X v b1, (blk_setCell_ne (a := ⟨c,0,none⟩) v (by show s0 + 1 ≠ c; omega)).trans b2, (blk_setCell_ne (a := ⟨c,0,none⟩) v (by show s0 ≠ c; omega)).trans b3⟩
    · rintro pre x W ⟨b1, b2, b3⟩ hpre
      have hlt : s0 + 1 < W.heap.size := lt_of_block b2
      have hy := run_yield (P := P) (args := encs x) b2 (by rw [hrc]; exact hps x)
      rw [hrc] at hy
      refine ⟨fn, _, assign, body, hy, roundIn_of_wpIn hfn (hassign _ x W _ ⟨_, run_beginRound b2 (by rw [hrc]),?_⟩)⟩
      have c2 : (W.putObj (s0 + 1) (.loop { rc .ready with state := .busy })).heap[s0 + 1]? = some (.loop { rc .ready with state := .busy }) := World.putObj_heap_same hlt
      have c3 : (W.putObj (s0 + 1) (.loop { rc .ready with state := .busy })).heap[s0]? = some (.deferred (some [])) := (World.putObj_heap_other (by omega)).trans b3
      have c4 : (W.putObj (s0 + 1) (.loop { rc .ready with state := .busy })).heap[c]? = W.heap[c]? := World.putObj_heap_other (by omega)
      refine wpIn_mono (hbody _ pre x _ (hI.putObj _ b1 (by omega) b2 rfl) hpre) ?_
      rintro e a3 W3 hp
      cases e with
      | normal =>
        obtain ⟨d1, d2, d3⟩ := hp
        have e2 := d1.same _ _ (by omega) c2 rfl
        have e3 := d1.same _ _ (Nat.le_refl _) c3 rfl
        have hlt3 := lt_of_block e2
        have hend := run_endRound (P := P) (r := { rc .ready with state := .busy }) none e2
        refine ⟨_, _, hend,rfl, ⟨hI.putObj _ d3 (by omega) e2 rfl,?_, (World.putObj_heap_other (by omega)).trans e3⟩, (World.putObj_heap_other (by omega)).trans (d2.trans c4)⟩
        rw [World.putObj_heap_same hlt3, hrc]
        rfl
      | ret => exact hp.elim
      | exit id => exact hp.elim
      | goto t => exact hp.elim
      | panic ch => exact hp.elim
      | outgrown => exact hp.elim
    · rintro e W2 ⟨⟨v,rfl⟩, b1, b2, b3⟩
      have hend := run_endLoop (P := P) b2 (by rw [hrc]; simp)
      rw [hrc] at hend
      exact ⟨none, _, hend, hdone _ _ (Nat.le_refl _) (hI.putObj _ b1 (by omega) b2 rfl) ((World.putObj_heap_other (by omega)).trans b3)⟩
end
end Go.Proofs.YtkdbjelhkfdfjaaGreatDoor
namespace Go.Proofs.YtkdbjelhkfdfjaaGreatDoor
open Go.RowKit Go.Shelf
abbrev lineA : ByteArray := ⟨#[115,111,114,116,32,50,32,49,10]⟩
abbrev lineK : ByteArray := ⟨#[107,105,110,100,32,115,107,101,119,10]⟩
abbrev textA : ByteArray := ⟨#[115,111,114,116,32,50,32,49,10,107,105,110,100,32,115,107,101,119,10,115,111,114,116,32,50,32,49,10]⟩
abbrev textB : ByteArray := ⟨#[107,105,110,100,32,115,107,101,119,10,115,111,114,116,32,50,32,49,10]⟩
theorem byte_0 (w : World) : Calls Tryz.prog 76 #[.string ⟨#[115,111,114,116,32,50,32,49,10,107,105,110,100,32,115,107,101,119,10,115,111,114,116,32,50,32,49,10]⟩, .int .u8 10] w fun e w' => e = .returned (.int .i64 8) ∧ w = w' := by
  have hx : ∀ u, (callFunc 121 #[.string ⟨#[115,111,114,116,32,50,32,49,10,107,105,110,100,32,115,107,101,119,10,115,111,114,116,32,50,32,49,10]⟩, .int .u8 10]).run Tryz.prog u = .ok (.value (.int .i64 8)) u := fun u => by kernel_rfl
  have h0 : Calls Tryz.prog 97 #[.string ⟨#[115,111,114,116,32,50,32,49,10,107,105,110,100,32,115,107,101,119,10,115,111,114,116,32,50,32,49,10]⟩, .int .u8 10] w fun e w' => e = .returned (.int .i64 8) ∧ w = w' := by
    go_enter Tryz.func97, Tryz.ntmps97
    go_wp2_with fail
    go_ret
    exact ⟨rfl,rfl⟩
  go_enter Tryz.func76, Tryz.ntmps76
  go_wp2_with (go_at_call 97; refine h0.mono ?_; rintro e w' ⟨rfl,rfl⟩)
  go_ret
  exact ⟨rfl,rfl⟩
theorem byte_1 (w : World) : Calls Tryz.prog 76 #[.string ⟨#[107,105,110,100,32,115,107,101,119,10,115,111,114,116,32,50,32,49,10]⟩, .int .u8 10] w fun e w' => e = .returned (.int .i64 9) ∧ w = w' := by
  have hx : ∀ u, (callFunc 121 #[.string ⟨#[107,105,110,100,32,115,107,101,119,10,115,111,114,116,32,50,32,49,10]⟩, .int .u8 10]).run Tryz.prog u = .ok (.value (.int .i64 9)) u := fun u => by kernel_rfl
  have h0 : Calls Tryz.prog 97 #[.string ⟨#[107,105,110,100,32,115,107,101,119,10,115,111,114,116,32,50,32,49,10]⟩, .int .u8 10] w fun e w' => e = .returned (.int .i64 9) ∧ w = w' := by
    go_enter Tryz.func97, Tryz.ntmps97
    go_wp2_with fail
    go_ret
    exact ⟨rfl,rfl⟩
  go_enter Tryz.func76, Tryz.ntmps76
  go_wp2_with (go_at_call 97; refine h0.mono ?_; rintro e w' ⟨rfl,rfl⟩)
  go_ret
  exact ⟨rfl,rfl⟩
theorem byte_2 (w : World) : Calls Tryz.prog 76 #[.string ⟨#[115,111,114,116,32,50,32,49,10]⟩, .int .u8 10] w fun e w' => e = .returned (.int .i64 8) ∧ w = w' := by
  have hx : ∀ u, (callFunc 121 #[.string ⟨#[115,111,114,116,32,50,32,49,10]⟩, .int .u8 10]).run Tryz.prog u = .ok (.value (.int .i64 8)) u := fun u => by kernel_rfl
  have h0 : Calls Tryz.prog 97 #[.string ⟨#[115,111,114,116,32,50,32,49,10]⟩, .int .u8 10] w fun e w' => e = .returned (.int .i64 8) ∧ w = w' := by
    go_enter Tryz.func97, Tryz.ntmps97
    go_wp2_with fail
    go_ret
    exact ⟨rfl,rfl⟩
  go_enter Tryz.func76, Tryz.ntmps76
  go_wp2_with (go_at_call 97; refine h0.mono ?_; rintro e w' ⟨rfl,rfl⟩)
  go_ret
  exact ⟨rfl,rfl⟩
theorem trim_A (w : World) : Calls Tryz.prog 47 #[.string ⟨#[115,111,114,116,32,50,32,49,10]⟩, .string ⟨#[10]⟩] w fun e w' => e = .returned (.string ⟨#[115,111,114,116,32,50,32,49]⟩) ∧ w = w' := by
  have h0 : Calls Tryz.prog 114 #[.string ⟨#[115,111,114,116,32,50,32,49,10]⟩, .string ⟨#[10]⟩] w fun e w' => e = .returned (.bool true) ∧ w = w' := by
    have hq : ((((⟨#[115,111,114,116,32,50,32,49,10]⟩ : ByteArray).extract 8 9).toList == [10]) : Bool) = true := by kernel_rfl
    go_enter Tryz.func114, Tryz.ntmps114
    go_wp2_with fail
    go_ret
    exact ⟨rfl,rfl⟩
  have h1 : Calls Tryz.prog 82 #[.string ⟨#[115,111,114,116,32,50,32,49,10]⟩, .string ⟨#[10]⟩] w fun e w' => e = .returned (.string ⟨#[115,111,114,116,32,50,32,49]⟩) ∧ w = w' := by
    go_enter Tryz.func82, Tryz.ntmps82
    go_wp2_with (go_at_call 114; refine h0.mono ?_; rintro e w' ⟨rfl,rfl⟩)
    go_ret
    exact ⟨rfl,rfl⟩
  go_enter Tryz.func47, Tryz.ntmps47
  go_wp2_with (go_at_call 82; refine h1.mono ?_; rintro e w' ⟨rfl,rfl⟩)
  go_ret
  exact ⟨rfl,rfl⟩
theorem trim_K (w : World) : Calls Tryz.prog 47 #[.string ⟨#[107,105,110,100,32,115,107,101,119,10]⟩, .string ⟨#[10]⟩] w fun e w' => e = .returned (.string ⟨#[107,105,110,100,32,115,107,101,119]⟩) ∧ w = w' := by
  have h0 : Calls Tryz.prog 114 #[.string ⟨#[107,105,110,100,32,115,107,101,119,10]⟩, .string ⟨#[10]⟩] w fun e w' => e = .returned (.bool true) ∧ w = w' := by
    have hq : ((((⟨#[107,105,110,100,32,115,107,101,119,10]⟩ : ByteArray).extract 9 10).toList == [10]) : Bool) = true := by kernel_rfl
    go_enter Tryz.func114, Tryz.ntmps114
    go_wp2_with fail
    go_ret
    exact ⟨rfl,rfl⟩
  have h1 : Calls Tryz.prog 82 #[.string ⟨#[107,105,110,100,32,115,107,101,119,10]⟩, .string ⟨#[10]⟩] w fun e w' => e = .returned (.string ⟨#[107,105,110,100,32,115,107,101,119]⟩) ∧ w = w' := by
    go_enter Tryz.func82, Tryz.ntmps82
    go_wp2_with (go_at_call 114; refine h0.mono ?_; rintro e w' ⟨rfl,rfl⟩)
    go_ret
    exact ⟨rfl,rfl⟩
  go_enter Tryz.func47, Tryz.ntmps47
  go_wp2_with (go_at_call 82; refine h1.mono ?_; rintro e w' ⟨rfl,rfl⟩)
  go_ret
  exact ⟨rfl,rfl⟩
theorem lines_seq (n : Nat) (hn : 4 ≤ n) (w : World) (c : Nat) (hc : w.heap[c]? = some (.cells #[.string textA] 9 (0,0))) :
    SeqC Fence.wide n Tryz.prog 75 #[.pointer (some ⟨c,0,none⟩)] (fun s : ByteArray => #[Value.string s]) c [lineA, lineK, lineA] w := fun l J W hW hsz hJ hJc hY h0 => by
  have hcW : W.heap[c]? = some (.cells #[.string textA] 9 (0,0)) := hW.trans hc
  have x0 := fun u => callsIn_wide (n := n - 1).2 (byte_0 u)
  have x1 := fun u => callsIn_wide (n := n - 1).2 (byte_1 u)
  have x2 := fun u => callsIn_wide (n := n - 1).2 (byte_2 u)
  have HJ := Lib.hid hJ
  have HJC := Lib.hid hJc
  have HY := Lib.hid hY
  clear hJ hJc hY hW hc hsz
  have hmx : Tryz.prog.follows .mixedOrders = true := by kernel_rfl
  refine callsIn_of_wp Tryz.func75 rfl trivial ?_ rfl
  simp only [Tryz.ntmps75, List.size_toArray, List.length_cons, List.length_nil, Nat.reduceAdd, Nat.reduceSub, Array.replicate_succ, Array.replicate_zero, List.push_toArray, List.append_toArray, List.nil_append, List.cons_append]
  gi_wp2
  gi_loopg [3,4] 4 (fun k s i wr => (k = 4 ∧ wr.heap[c]? = some (.cells #[.string textA] 9 (0,0)) ∧ J [] wr) ∨ (k = 3 ∧ wr.heap[c]? = some (.cells #[.string textB] 9 (0,0)) ∧ J [lineA] wr)
    ∨ (k = 2 ∧ wr.heap[c]? = some (.cells #[.string lineA] 9 (0,0)) ∧ J [lineA, lineK] wr) ∨ (k = 1 ∧ wr.heap[c]? = some (.cells #[.string ByteArray.empty] 9 (0,0)) ∧ J [lineA, lineK, lineA] wr))
  case atStart => exact .inl ⟨rfl, hcW, h0⟩
  case round =>
    clear hcW h0
    rcases hrel with ⟨hk, hb, hj⟩ | ⟨hk, hb, hj⟩ | ⟨hk, hb, hj⟩ | ⟨hk, hb, hj⟩
    · have hc : wr.cell? ⟨c,0,none⟩ = some (.string ⟨#[115,111,114,116,32,50,32,49,10,107,105,110,100,32,115,107,101,119,10,115,111,114,116,32,50,32,49,10]⟩) := by rw [cell_of_blk hb]; rfl
      have hf : wr.frozen? ⟨c,0,none⟩ = false := frozen_of_blk hb
      have q1 : (⟨#[115,111,114,116,32,50,32,49,10,107,105,110,100,32,115,107,101,119,10,115,111,114,116,32,50,32,49,10]⟩ : ByteArray).extract 0 9 = ⟨#[115,111,114,116,32,50,32,49,10]⟩ := by kernel_rfl
      have q2 : (⟨#[115,111,114,116,32,50,32,49,10,107,105,110,100,32,115,107,101,119,10,115,111,114,116,32,50,32,49,10]⟩ : ByteArray).extract 9 28 = ⟨#[107,105,110,100,32,115,107,101,119,10,115,111,114,116,32,50,32,49,10]⟩ := by kernel_rfl
      have hb2 : (wr.setCell ⟨c,0,none⟩ (.string ⟨#[107,105,110,100,32,115,107,101,119,10,115,111,114,116,32,50,32,49,10]⟩)).drew.heap[c]? = some (.cells #[.string ⟨#[107,105,110,100,32,115,107,101,119,10,115,111,114,116,32,50,32,49,10]⟩] 9 (0,0)) := (blk_setCell (w := wr) (b := c) (i := 0) _ hb).trans rfl
      have hj2 : J [] (wr.setCell ⟨c,0,none⟩ (.string ⟨#[107,105,110,100,32,115,107,101,119,10,115,111,114,116,32,50,32,49,10]⟩)).drew := HJ.out _ _ _ none (HJC.out _ _ _ hj) ⟨rfl,rfl,rfl, Nat.le_refl _,fun _ _ _ => rfl⟩ (fun r e => by cases e)
      obtain ⟨fn, tm, asg, bd, hy, hR⟩ := HY.out [] ⟨#[115,111,114,116,32,50,32,49,10]⟩ (wr.setCell ⟨c,0,none⟩ (.string ⟨#[107,105,110,100,32,115,107,101,119,10,115,111,114,116,32,50,32,49,10]⟩)).drew hj2 ⟨[lineK, lineA],rfl⟩
      have HB := Lib.hid hb2
      clear hb hj hb2 hj2
      gi_wp2_with (refine ⟨trivial,fun _ => by omega,?_⟩; gi_at_call 76; refine (x0 _).mono ?_; rintro e w' ⟨rfl,rfl⟩)
      gi_region_o
      gi_wp2
      refine ⟨fun _ => by omega, hR.mono ?_⟩
      rintro e W3 ⟨rfl, hj3, hb3⟩
      have HJ3 := Lib.hid hj3
      have HB3 := Lib.hid (hb3.trans HB.out)
      clear hj3 hb3
      gi_wp2
      gi_roundg 3
      case measure => omega
      case rel => exact .inr (.inl ⟨rfl, HB3.out, HJ3.out⟩)
    · have hc : wr.cell? ⟨c,0,none⟩ = some (.string ⟨#[107,105,110,100,32,115,107,101,119,10,115,111,114,116,32,50,32,49,10]⟩) := by rw [cell_of_blk hb]; rfl
      have hf : wr.frozen? ⟨c,0,none⟩ = false := frozen_of_blk hb
      have q1 : (⟨#[107,105,110,100,32,115,107,101,119,10,115,111,114,116,32,50,32,49,10]⟩ : ByteArray).extract 0 10 = ⟨#[107,105,110,100,32,115,107,101,119,10]⟩ := by kernel_rfl
      have q2 : (⟨#[107,105,110,100,32,115,107,101,119,10,115,111,114,116,32,50,32,49,10]⟩ : ByteArray).extract 10 19 = ⟨#[115,111,114,116,32,50,32,49,10]⟩ := by kernel_rfl
      have hb2 : (wr.setCell ⟨c,0,none⟩ (.string ⟨#[115,111,114,116,32,50,32,49,10]⟩)).drew.heap[c]? = some (.cells #[.string ⟨#[115,111,114,116,32,50,32,49,10]⟩] 9 (0,0)) := (blk_setCell (w := wr) (b := c) (i := 0) _ hb).trans rfl
      have hj2 : J [lineA] (wr.setCell ⟨c,0,none⟩ (.string ⟨#[115,111,114,116,32,50,32,49,10]⟩)).drew := HJ.out _ _ _ none (HJC.out _ _ _ hj) ⟨rfl,rfl,rfl, Nat.le_refl _,fun _ _ _ => rfl⟩ (fun r e => by cases e)
      obtain ⟨fn, tm, asg, bd, hy, hR⟩ := HY.out [lineA] ⟨#[107,105,110,100,32,115,107,101,119,10]⟩ (wr.setCell ⟨c,0,none⟩ (.string ⟨#[115,111,114,116,32,50,32,49,10]⟩)).drew hj2 ⟨[lineA],rfl⟩
      have HB := Lib.hid hb2
      clear hb hj hb2 hj2
      gi_wp2_with (refine ⟨trivial,fun _ => by omega,?_⟩; gi_at_call 76; refine (x1 _).mono ?_; rintro e w' ⟨rfl,rfl⟩)
      gi_region_o
      gi_wp2
      refine ⟨fun _ => by omega, hR.mono ?_⟩
      rintro e W3 ⟨rfl, hj3, hb3⟩
      have HJ3 := Lib.hid hj3
      have HB3 := Lib.hid (hb3.trans HB.out)
      clear hj3 hb3
      gi_wp2
      gi_roundg 2
      case measure => omega
      case rel => exact .inr (.inr (.inl ⟨rfl, HB3.out, HJ3.out⟩))
    · have hc : wr.cell? ⟨c,0,none⟩ = some (.string ⟨#[115,111,114,116,32,50,32,49,10]⟩) := by rw [cell_of_blk hb]; rfl
      have hf : wr.frozen? ⟨c,0,none⟩ = false := frozen_of_blk hb
      have q1 : (⟨#[115,111,114,116,32,50,32,49,10]⟩ : ByteArray).extract 0 9 = ⟨#[115,111,114,116,32,50,32,49,10]⟩ := by kernel_rfl
      have q2 : (⟨#[115,111,114,116,32,50,32,49,10]⟩ : ByteArray).extract 9 9 = ByteArray.empty := by kernel_rfl
      have hb2 : (wr.setCell ⟨c,0,none⟩ (.string ByteArray.empty)).drew.heap[c]? = some (.cells #[.string ByteArray.empty] 9 (0,0)) := (blk_setCell (w := wr) (b := c) (i := 0) _ hb).trans rfl
      have hj2 : J [lineA, lineK] (wr.setCell ⟨c,0,none⟩ (.string ByteArray.empty)).drew := HJ.out _ _ _ none (HJC.out _ _ _ hj) ⟨rfl,rfl,rfl, Nat.le_refl _,fun _ _ _ => rfl⟩ (fun r e => by cases e)
      obtain ⟨fn, tm, asg, bd, hy, hR⟩ := HY.out [lineA, lineK] ⟨#[115,111,114,116,32,50,32,49,10]⟩ (wr.setCell ⟨c,0,none⟩ (.string ByteArray.empty)).drew hj2 ⟨[],rfl⟩
      have HB := Lib.hid hb2
      clear hb hj hb2 hj2
      gi_wp2_with (refine ⟨trivial,fun _ => by omega,?_⟩; gi_at_call 76; refine (x2 _).mono ?_; rintro e w' ⟨rfl,rfl⟩)
      gi_region_o
      gi_wp2
      refine ⟨fun _ => by omega, hR.mono ?_⟩
      rintro e W3 ⟨rfl, hj3, hb3⟩
      have HJ3 := Lib.hid hj3
      have HB3 := Lib.hid (hb3.trans HB.out)
      clear hj3 hb3
      gi_wp2
      gi_roundg 1
      case measure => omega
      case rel => exact .inr (.inr (.inr (⟨rfl, HB3.out, HJ3.out⟩)))
    · have hc : wr.cell? ⟨c,0,none⟩ = some (.string ByteArray.empty) := by rw [cell_of_blk hb]; rfl
      have HJ3 := Lib.hid hj
      clear hj hb
      gi_wp2
      go_end0
      exact ⟨⟨_,rfl⟩, HJ3.out⟩
end Go.Proofs.YtkdbjelhkfdfjaaGreatDoor


/-
  Contracts that the law rests on. Conditions: none.
-/
import Derived.Test.YtkdbjelhkfdfjaaGreatDoorQs21
set_option linter.unusedVariables false
set_option maxRecDepth 100000
set_option maxHeartbeats 16000000
namespace Go.Proofs.YtkdbjelhkfdfjaaGreatDoor
open Go.RowKit
section
variable {w w4 : World} {p pc ga q ca cap hs n x g' cap' : Nat} {ao : Option Addr} {vP : Value} {Fc : List Nat} {E : Ent} {v : Nat → Nat} {f : Nat → Int}
theorem PileOk.list (h : PileOk w p pc ga q ao ca vP Fc cap hs E n v f) : ∃ Lm : List Nat, Lm.length = n ∧ Rg.IR 0 w (.slice ao n ca) Lm ∧ ∀ j, j < n → Rg.fn Lm j = v j := by
  obtain ⟨Lm, l1, l2, l3⟩ := h.row
  exact ⟨Lm, l1,by rw [l1] at l2; exact l2, l3⟩
theorem PileOk.setAt (h : PileOk w p pc ga q ao ca vP Fc cap hs E n v f) (hx : ∀ j, j < n → v j ≠ x) (hc : x < cap) (z : Int) :
    PileOk (w.setCell ⟨ga,x,none⟩ (.int .i64 z)) p pc ga q ao ca vP Fc cap hs E n v (upd f x z) := by
  have k : Keeps [ga] w (w.setCell ⟨ga,x,none⟩ (.int .i64 z)) := (Keeps.refl _ _).setCell (.inl (by simp)) _
  obtain ⟨n1, n2, n3, n4, n5, n6⟩ := h.ne
  obtain ⟨Lm, l1, l2, l3⟩ := h.row
  refine ⟨k.blk h.bp (by simpa using n2), k.blk h.bq (by simpa using n3), h.ce.keep k (fun b hb e => by simp at e; subst e; exact n6 hb),?_, ⟨Lm, l1, ir_keep l2 k (fun y e => by simpa using (h.na y e).2.2.1), l3⟩, h.ne, h.na,?_, h.lt, h.inj⟩
  · refine (h.ar.set1 hc (.int .i64 z)).congr fun k _ => ?_
    by_cases a : k = x
    · subst a; simp [upd_same, numV]
    · simp [upd_other _ _ a, numV]
  · intro j hj
    rw [upd_other _ _ (hx j hj)]; exact h.pos j hj
theorem PileOk.push (h : PileOk w p pc ga q ao ca vP Fc cap hs E n v f) (hx : ∀ j, j < n → v j ≠ x) (hc : x < cap) (hf : f x = (n : Int)) {Lm : List Nat} (l1 : Lm.length = n) (l3 : ∀ j, j < n → Rg.fn Lm j = v j)
    (hr : w4.ownsRow 0 3 1 (.slice (some ⟨g',0,none⟩) (n + 1) cap') (n + 1) (Rg.nCells Lm ++ [.int .i64 (x : Int)]))
    (hk : Keeps (Value.slice ao n ca).ownBlock.toList w w4) (hg : (Value.slice ao n ca).ownBlock = some g' ∨ w.heap.size ≤ g') :
    PileOk (w4.setCell ⟨q,1,none⟩ (.slice (some ⟨g',0,none⟩) (n + 1) cap')) p pc ga q (some ⟨g',0,none⟩) cap' vP Fc cap hs E (n + 1) (fun k => if k = n then x else v k) f ∧
      Keeps (pfp q ao) w (w4.setCell ⟨q,1,none⟩ (.slice (some ⟨g',0,none⟩) (n + 1) cap')) ∧ (∀ b ∈ pfp q (some ⟨g',0,none⟩), b ∈ pfp q ao ∨ w.heap.size ≤ b) ∧ (∃ u, w4.cell? ⟨q,1,none⟩ = some u) ∧ w4.frozen? ⟨q,1,none⟩ = false := by
  have hown : ∀ b ∈ (Value.slice ao n ca).ownBlock.toList, ∃ x, ao = some x ∧ x.block = b := by
    intro b hb
    cases ao with
    | none => simp [Value.ownBlock] at hb
    | some a =>
      obtain ⟨b', o', i'⟩ := a
      refine ⟨_,rfl,?_⟩
      simp [Value.ownBlock] at hb
      exact hb.symm
  have hno : ∀ b, b = p ∨ b = q ∨ b = ga ∨ b ∈ Fc → b ∉ (Value.slice ao n ca).ownBlock.toList := by
    intro b hb e
    obtain ⟨y, e1, e2⟩ := hown b e
    obtain ⟨m1, m2, m3, m4⟩ := h.na y e1
    rw [e2] at m1 m2 m3 m4
    rcases hb with rfl | rfl | rfl | hb
    · exact m1 rfl
    · exact m2 rfl
    · exact m3 rfl
    · exact m4 hb
  have hbl := h.below
  obtain ⟨n1, n2, n3, n4, n5, n6⟩ := h.ne
  have hgp : g' ≠ p ∧ g' ≠ q ∧ g' ≠ ga ∧ g' ∉ Fc := by
    rcases hg with e | e
    · obtain ⟨y, e1, e2⟩ := hown g' (by simp [e])
      rw [← e2]; exact h.na y e1
    · have a1 := hbl p (by simp)
      have a2 := hbl q (by simp [pfp])
      have a3 := hbl ga (by simp)
      exact ⟨by omega,by omega,by omega,fun hm => by have := hbl g' (by simp [hm]); omega⟩
  have k2 : Keeps [q] w4 (w4.setCell ⟨q,1,none⟩ (.slice (some ⟨g',0,none⟩) (n + 1) cap')) := (Keeps.refl _ _).setCell (.inl (by simp)) _
  have bq4 := hk.blk h.bq (hno q (by simp))
  have hr2 : Rg.IR 0 w4 (.slice (some ⟨g',0,none⟩) (Lm ++ [x]).length cap') (Lm ++ [x]) := by
    subst l1
    have := Rg.IR.pushed (B := 0) (L := Lm) (x := x) hr (Nat.zero_le _)
    simpa using this
  refine ⟨⟨k2.blk (hk.blk h.bp (hno p (by simp))) (by simpa using n1),?_, (h.ce.keep hk (fun b hb => hno b (by simp [hb]))).keep k2 (fun b hb e => by simp at e; subst e; exact n5 hb), (h.ar.keep hk (hno ga (by simp))).keep k2 (by simpa using fun e => n3 e.symm),
    ⟨Lm ++ [x],by simp [l1], ir_keep hr2 k2 (fun y e => by cases e; simpa using hgp.2.1),?_⟩, h.ne,fun y e => by cases e; exact hgp,?_,?_, (hole_add h.inj hx).2⟩,?_,?_, ⟨_,by rw [cell_of_blk bq4]; rfl⟩, frozen_of_blk bq4⟩
  · rw [blk_setCell _ bq4]; simp
  · intro j hj
    by_cases e : j = n
    · subst e; subst l1; simp [Rg.fn, List.getD]
    · simp only [if_neg e]
      rw [← l3 j (by omega)]
      simp [Rg.fn, List.getD, List.getElem?_append_left (show j < Lm.length by omega)]
  · intro j hj
    by_cases e : j = n
    · subst e; simpa using hf
    · simp only [if_neg e]; exact h.pos j (by omega)
  · intro j hj
    by_cases e : j = n
    · subst e; simpa using hc
    · simp only [if_neg e]; exact h.lt j (by omega)
  · refine (hk.mono (T := pfp q ao) fun b hb => .inl ?_).trans k2 (by simp [pfp])
    obtain ⟨y, e1, e2⟩ := hown b hb
    simp [pfp, e1, e2]
  · intro b hb
    simp only [pfp, Option.toList_some, List.map_cons, List.map_nil, List.mem_cons, List.not_mem_nil, or_false] at hb
    rcases hb with rfl | rfl
    · exact .inl (by simp [pfp])
    · rcases hg with e | e
      · obtain ⟨y, e1, e2⟩ := hown b (by simp [e])
        exact .inl (by simp [pfp, e1, e2])
      · exact .inr e
theorem PileOk.pop (h : PileOk w p pc ga q ao ca vP Fc cap hs E (n + 1) v f) : PileOk (w.setCell ⟨q,1,none⟩ (.slice ao n ca)) p pc ga q ao ca vP Fc cap hs E n v f := by
  have k : Keeps [q] w (w.setCell ⟨q,1,none⟩ (.slice ao n ca)) := (Keeps.refl _ _).setCell (.inl (by simp)) _
  obtain ⟨n1, n2, n3, n4, n5, n6⟩ := h.ne
  obtain ⟨Lm, l1, l2, l3⟩ := h.row
  have hlt : (Lm.take n).length = n := by simp; omega
  refine ⟨k.blk h.bp (by simpa using n1),by rw [blk_setCell _ h.bq]; simp, h.ce.keep k (fun b hb e => by simp at e; subst e; exact n5 hb), h.ar.keep k (by simpa using fun e => n3 e.symm), ⟨Lm.take n, hlt,?_,fun j hj => ?_⟩, h.ne, h.na,fun j hj => h.pos j (by omega),fun j hj => h.lt j (by omega),fun a b ha hb e => h.inj a b (by omega) (by omega) e⟩
  · rw [hlt]
    have hr := ir_keep l2 k (fun x hx => by simpa using (h.na x hx).2.1)
    rcases hr.2 with ⟨h0, h1⟩ | ⟨g', cap', cur, hv, hb, hh, r1, r2, r3, r4⟩
    · omega
    · cases hv
      refine ⟨by simp [Rg.nCells], .inr ⟨g', ca, cur,by rw [hlt], hb, hh,by omega, r2, r3,?_⟩⟩
      rw [Nat.mul_one] at r4 ⊢
      have e : cur.toList.take (Lm.take n).length = (cur.toList.take Lm.length).take n := by rw [List.take_take, hlt, Nat.min_eq_left (by omega)]
      rw [e, r4]; simp [Rg.nCells, List.map_take]
  · rw [← l3 j (by omega)]
    simp [Rg.fn, List.getD, hj]
end
section
variable (w : World) (p pc ga q : Nat) (ao : Option Addr) (ca : Nat) (vP : Value) (Fc : List Nat) (cap hs : Nat) (E : Ent) (n : Nat) (v : Nat → Nat) (f : Nat → Int)
theorem assert_int (x : Int) (t : TypeId) (w : World) : (Instr.typeAssert (.iface 3 (.int .i64 x)) t 3 false).run Tryz.prog w = .ok (.int .i64 x) w := by kernel_rfl
def PushDone (x : Nat) (e : Ending) (w' : World) : Prop :=
  ∃ ao' ca', e = .returned (.tuple #[]) ∧ PileOk w' p pc ga q ao' ca' vP Fc cap hs E (n + 1) (fun k => if k = n then x else v k) (upd f x (n : Int)) ∧ Keeps (ga :: pfp q ao) w w' ∧ (∀ b ∈ pfp q ao', b ∈ pfp q ao ∨ w.heap.size ≤ b)
theorem pile_push (h : PileOk w p pc ga q ao ca vP Fc cap hs E n v f) (x : Nat) (hx : ∀ j, j < n → v j ≠ x) (hc : x < cap) (hn : n + 1 ≤ 65536) :
    Calls Tryz.prog 454 #[.pointer (some ⟨q,0,none⟩), .iface 3 (.int .i64 x)] w (PushDone w p pc ga q ao vP Fc cap hs E n v f x) := by
  have q0 := h.q0
  have q1 := h.q1
  have p2 := h.p2
  obtain ⟨n1, n2, n3, n4, n5, n6⟩ := h.ne
  obtain ⟨xv, hxv⟩ : ∃ u, w.cell? ⟨ga,x,none⟩ = some u := ⟨_, h.ar.cell1 hc⟩
  have hxf : w.frozen? ⟨ga,x,none⟩ = false := h.ar.frozen _
  have hx3 : (x : Int) < (cap : Int) := by omega
  have hset := h.setAt hx hc (n : Int)
  have hmid : ∀ u, u.heap = (w.setCell ⟨ga,x,none⟩ (.int .i64 (n : Int))).heap → u.os = w.os → u.tape = w.tape → u.output = w.output → ∃ Lm : List Nat, Lm.length = n ∧ Rg.IR 0 u (.slice ao n ca) Lm ∧ u.cell? ⟨q,1,none⟩ = some (.slice ao n ca) ∧ u.frozen? ⟨q,1,none⟩ = false ∧
      ∀ (w4 : World) (g' cap' : Nat), w4.ownsRow 0 3 1 (.slice (some ⟨g',0,none⟩) (n + 1) cap') (n + 1) (Rg.nCells Lm ++ [.int .i64 (x : Int)]) → Keeps (Value.slice ao n ca).ownBlock.toList u w4 → ((Value.slice ao n ca).ownBlock = some g' ∨ u.heap.size ≤ g') →
        w4.frozen? ⟨q,1,none⟩ = false ∧ (∃ u, w4.cell? ⟨q,1,none⟩ = some u) ∧ ∀ W, W = w4.setCell ⟨q,1,none⟩ (.slice (some ⟨g',0,none⟩) (n + 1) cap') → PushDone w p pc ga q ao vP Fc cap hs E n v f x (.returned (.tuple #[])) W := by
    intro u e1 e2 e3 e4
    have k0 : Keeps [ga] w (w.setCell ⟨ga,x,none⟩ (.int .i64 (n : Int))) := (Keeps.refl _ _).setCell (.inl (by simp)) _
    have ku : Keeps [] (w.setCell ⟨ga,x,none⟩ (.int .i64 (n : Int))) u := ⟨by rw [e2]; rfl,by rw [e3]; rfl,by rw [e4]; rfl,by rw [e1]; exact Nat.le_refl _,fun k _ _ => by rw [e1]⟩
    have hu := hset.same ku
    have kwu : Keeps [ga] w u := k0.trans ku (by simp)
    obtain ⟨Lm, l1, l2, l3⟩ := hu.list
    refine ⟨Lm, l1, l2, hu.q1, frozen_of_blk hu.bq,fun w4 g' cap' a1 a2 a3 => ?_⟩
    obtain ⟨b1, b2, b3, b4, b5⟩ := hu.push hx hc (by rw [upd_same]) l1 l3 a1 a2 a3
    refine ⟨b5, b4,?_⟩
    rintro W rfl
    refine ⟨_, _,rfl, b1, (kwu.mono (T := ga :: pfp q ao) (by simp)).trans b2 (fun b hb => .inl (by simp [hb])),fun b hb => ?_⟩
    rcases b3 b hb with c | c
    · exact .inl c
    · exact .inr (by have := kwu.size; omega)
  have HMID := Lib.hid hmid
  clear hmid hset h hx
  have hta := fun t => assert_int x t w
  go_enter Tryz.func454, Tryz.ntmps454
  go_wp2_with fail
  go_region_held3 (fun u => u.cell? ⟨q,0,none⟩ = some (.pointer (some ⟨p,0,none⟩)) ∧ u.cell? ⟨q,1,none⟩ = some (.slice ao n ca) ∧ u.cell? ⟨p,2,none⟩ = some (.slice (some ⟨ga,0,none⟩) cap cap))
    (first | exact ⟨q0, q1, p2⟩ | exact ⟨cell_set_ne n3 q0, cell_set_ne n3 q1, cell_set_ne n2 p2⟩) (fail)
  all_goals
    obtain ⟨u, hu⟩ : ∃ u, u = (w.setCell ⟨ga,x,none⟩ (.int .i64 (n : Int))).drew := ⟨_,rfl⟩
    obtain ⟨Lm, l1, l2, l4, l5, l6⟩ := HMID.out u (by rw [hu]; rfl) (by rw [hu]; rfl) (by rw [hu]; rfl) (by rw [hu]; rfl)
    have l2' : u.ownsRow 0 3 1 (.slice ao n ca) n (Rg.nCells Lm) := by
      unfold Rg.IR at l2; rwa [l1] at l2
    have H6 := Lib.hid l6
    have H1 := Lib.hid l1
    clear l6 HMID q0 q1 p2 hxv hxf l2 l1
    rw [← hu]
    clear hu
    go_upto_region 3 with (first
      | (at_builtin; refine wpList_push _ 3 (.int .i64 (x : Int)) (0,0) rfl (.tmp 25) (.tmp 27) 28 rfl (.int .i64 0) 8 Tryz.underlying28 Rg.Tryz.infoInt rfl rfl _ n (Rg.nCells Lm) (by simp [Act.eval]) l2' (by simp [Act.eval]) (by unfold maxLen; omega) (by omega) ?_; intro g' cap' w4 hr4 hk4 hf4; obtain ⟨f4, ⟨u4, c4⟩, HF⟩ := H6.out w4 g' cap' hr4 hk4 hf4; have HF4 := Lib.hid HF; clear hr4 hk4 hf4 HF))
    go_end0
    exact HF4.out _ rfl
def PopDone (e : Ending) (w' : World) : Prop := e = .returned (.iface 3 (.int .i64 (v n : Nat))) ∧ PileOk w' p pc ga q ao ca vP Fc cap hs E n v f ∧ Keeps [q] w w'
theorem pile_pop (h : PileOk w p pc ga q ao ca vP Fc cap hs E (n + 1) v f) (hn : n + 1 ≤ 65536) :
    Calls Tryz.prog 453 #[.pointer (some ⟨q,0,none⟩)] w (PopDone w p pc ga q ao ca vP Fc cap hs E n v f) := by
  obtain ⟨g,rfl, g1, g2, g3, g4, g5, c1, _⟩ := h.at (i := n) (by omega)
  have q1 := h.q1
  have f1 : w.frozen? ⟨q,1,none⟩ = false := frozen_of_blk h.bq
  have hcap : n + 1 ≤ ca := by
    obtain ⟨Lm, l1, l2, l3⟩ := h.row
    have := row_cap l2
    omega
  have hn3 : (n : Int) < ((n + 1 : Nat) : Int) := by omega
  have hfin : ∀ W, W.heap = (w.setCell ⟨q,1,none⟩ (.slice (some ⟨g,0,none⟩) n ca)).heap → W.os = w.os → W.tape = w.tape → W.output = w.output → PopDone w p pc ga q (some ⟨g,0,none⟩) ca vP Fc cap hs E n v f (.returned (.iface 3 (.int .i64 (v n : Nat)))) W := by
    intro W e1 e2 e3 e4
    have k0 : Keeps [q] w (w.setCell ⟨q,1,none⟩ (.slice (some ⟨g,0,none⟩) n ca)) := (Keeps.refl _ _).setCell (.inl (by simp)) _
    have ku : Keeps [] (w.setCell ⟨q,1,none⟩ (.slice (some ⟨g,0,none⟩) n ca)) W := ⟨by rw [e2]; rfl,by rw [e3]; rfl,by rw [e4]; rfl,by rw [e1]; exact Nat.le_refl _,fun k _ _ => by rw [e1]⟩
    exact ⟨rfl, h.pop.same ku, k0.trans ku (by simp)⟩
  have HF := Lib.hid hfin
  clear hfin h
  go_enter Tryz.func453, Tryz.ntmps453
  go_wp2_with fail
  go_quiet (fail)
  go_wp2_with fail
  go_region
  all_goals
    go_wp2_with fail
    go_ret
    exact HF.out _ rfl rfl rfl rfl
end
theorem HeapAt.cong {d n i : Nat} {r : Nat → Nat → Bool} {v v' : Nat → Nat} (h : HeapAt d r v n i) (hd : 2 ≤ d) (hi : i < n) (hv : ∀ j, j < n → v' j = v j) : HeapAt d r v' n i := by
  refine ⟨fun j hj hn hne hp => ?_,fun j hj hn hp h0 => ?_⟩
  · have := par_lt hd hj
    rw [hv j hn, hv _ (by omega)]; exact h.1 j hj hn hne hp
  · have := par_lt hd h0
    rw [hv j hn, hv _ (by omega)]; exact h.2 j hj hn hp h0
theorem pile_m3 (fuel : Nat) (a : Addr) (w : World) : (method (fuel + 1) 478 (.pointer (some a)) "Len").run Tryz.prog w = .ok (443, .pointer (some a)) w := by kernel_rfl
theorem pile_m4 (fuel : Nat) (a : Addr) (w : World) : (method (fuel + 1) 478 (.pointer (some a)) "Push").run Tryz.prog w = .ok (454, .pointer (some a)) w := by kernel_rfl
theorem pile_m5 (fuel : Nat) (a : Addr) (w : World) : (method (fuel + 1) 478 (.pointer (some a)) "Pop").run Tryz.prog w = .ok (453, .pointer (some a)) w := by kernel_rfl
section
variable (w : World) (p pc ga q : Nat) (ao : Option Addr) (ca : Nat) (vP : Value) (Fc : List Nat) (cap hs : Nat) (E : Ent) (n : Nat) (v : Nat → Nat) (f : Nat → Int)
def HAdd (x : Nat) (e : Ending) (w' : World) : Prop :=
  ∃ ao' ca' v' f', e = .returned (.tuple #[]) ∧ PileOk w' p pc ga q ao' ca' vP Fc cap hs E (n + 1) v' f' ∧ (∀ z, (∃ j, j < n + 1 ∧ v' j = z) ↔ z = x ∨ ∃ j, j < n ∧ v j = z) ∧ Heap' 2 (ahead E) v' (n + 1) ∧
    Keeps (ga :: (pfp q ao ++ Fc)) w w' ∧ (∀ b ∈ pfp q ao', b ∈ pfp q ao ∨ w.heap.size ≤ b) ∧ (∀ y, y ≠ x → (∀ k, k < n → v k ≠ y) → f' y = f y)
theorem heap_push (h : PileOk w p pc ga q ao ca vP Fc cap hs E n v f) (x : Nat) (hx : ∀ j, j < n → v j ≠ x) (hE : ∀ j, j < n → (E (v j)).isSome) (hEx : (E x).isSome) (hn : n + 1 ≤ 65536) (hh : Heap' 2 (ahead E) v n) :
    Calls Tryz.prog 442 #[.iface 478 (.pointer (some ⟨q,0,none⟩)), .iface 3 (.int .i64 x)] w (HAdd w p pc ga q ao vP Fc cap hs E n v f x) := by
  have hc := h.ce.ok.lt x hEx
  have hpu := pile_push w p pc ga q ao ca vP Fc cap hs E n v f h x hx hc hn
  have hE' : ∀ j, j < n + 1 → (E ((fun k => if k = n then x else v k) j)).isSome := by
    intro j hj
    by_cases e : j = n
    · simp only [if_pos e]; exact hEx
    · simp only [if_neg e]; exact hE j (by omega)
  have hat := hh.at_end (by decide) x
  have hup := fun u ao' ca' (hu : PileOk u p pc ga q ao' ca' vP Fc cap hs E (n + 1) (fun k => if k = n then x else v k) (upd f x (n : Int))) => pile_up u p pc ga q ao' ca' vP Fc cap hs E (n + 1) (n + 1) _ _ hu n (by omega) (Nat.le_refl _) hE' hn hat
  have hle := fun u ao' ca' (hu : PileOk u p pc ga q ao' ca' vP Fc cap hs E (n + 1) (fun k => if k = n then x else v k) (upd f x (n : Int))) => pile_len u p pc ga q ao' ca' vP Fc cap hs E (n + 1) _ _ hu
  have hfin : ∀ ao' (w1 w2 : World) e ca', (∀ b ∈ pfp q ao', b ∈ pfp q ao ∨ w.heap.size ≤ b) → Keeps (ga :: pfp q ao) w w1 → PUp w1 p pc ga q ao' ca' vP Fc cap hs E (n + 1) (n + 1) (fun k => if k = n then x else v k) (upd f x (n : Int)) n e w2 → HAdd w p pc ga q ao vP Fc cap hs E n v f x e w2 := by
    rintro ao' w1 w2 e ca' fp k1 ⟨v', f',rfl, hp, hm, k2, hres⟩
    have hd6 : Ord (ahead E) v' (n + 1) := ordOf hp.inj (fun j hj => by obtain ⟨k, hk, e⟩ := hm.range (Nat.le_refl _) hj; rw [e]; exact hE' k hk)
    refine ⟨ao', ca', v', f',rfl, hp,fun z => ?_,?_, (k1.mono fun b hb => .inl (by simp at hb ⊢; rcases hb with rfl | hb; exact .inl rfl; exact .inr (.inl hb))).trans k2 (fun b hb => ?_), fp,fun y hy hk => ?_⟩
    · rw [hm.same z]
      constructor
      · rintro ⟨j, hj, e⟩
        simp only at e
        by_cases c : j = n
        · rw [if_pos c] at e; exact .inl e.symm
        · rw [if_neg c] at e; exact .inr ⟨j,by omega, e⟩
      · rintro (rfl | ⟨j, hj, e⟩)
        · exact ⟨n,by omega,by simp⟩
        · exact ⟨j,by omega,by simp only [if_neg (show j ≠ n by omega)]; exact e⟩
    · rcases hres with ⟨rfl, hst⟩ | hh
      · refine (hat.down (by decide) hd6 (by omega) ?_).last (by decide) (by omega)
        simpa using hst
      · exact hh
    · simp only [List.mem_cons, List.mem_append] at hb ⊢
      rcases hb with rfl | hb | hb
      · exact .inl (.inl rfl)
      · rcases fp b hb with c | c
        · exact .inl (.inr (.inl c))
        · exact .inr c
      · exact .inl (.inr (.inr hb))
    · rw [hm.off y (fun k hk' e => ?_), upd_other _ _ hy]
      by_cases c : k = n
      · simp only [if_pos c] at e; exact hy e.symm
      · simp only [if_neg c] at e; exact hk k (by omega) e
  have HF := Lib.hid hfin
  have hm3 := fun (u : World) => pile_m3 587 ⟨q,0,none⟩ u
  have hm4 := fun (u : World) => pile_m4 587 ⟨q,0,none⟩ u
  clear hfin hat hE' hh h hx hE
  go_enter Tryz.func442, Tryz.ntmps442
  go_wp2_with (first
    | (go_at_call 454; refine hpu.mono ?_; rintro e w1 ⟨ao', ca',rfl, hp1, hk1, fp1⟩)
    | (go_at_call 443; refine (hle _ _ _ hp1).mono ?_; rintro e w1' ⟨rfl,rfl⟩)
    | (go_at_call 445; refine (hup _ _ _ hp1).mono ?_; intro e w2 hu2; have hup2 := HF.out _ _ _ _ _ fp1 hk1 hu2; obtain ⟨ao2, ca2, v2, f2,rfl, hr2⟩ := hup2))
  go_end0
  exact ⟨ao2, ca2, v2, f2,rfl, hr2⟩
def HRem (i : Nat) (e : Ending) (w' : World) : Prop :=
  ∃ v' f', e = .returned (.iface 3 (.int .i64 (v i : Nat))) ∧ PileOk w' p pc ga q ao ca vP Fc cap hs E n v' f' ∧ (∀ z, (∃ j, j < n ∧ v' j = z) ↔ z ≠ v i ∧ ∃ j, j < n + 1 ∧ v j = z) ∧ Heap' 2 (ahead E) v' n ∧
    Keeps (ga :: (pfp q ao ++ Fc)) w w' ∧ (∀ y, (∀ k, k < n + 1 → v k ≠ y) → f' y = f y)
theorem heap_remove (h : PileOk w p pc ga q ao ca vP Fc cap hs E (n + 1) v f) (i : Nat) (hi : i < n + 1) (hE : ∀ j, j < n + 1 → (E (v j)).isSome) (hn : n + 1 ≤ 65536) (hh : Heap' 2 (ahead E) v (n + 1)) :
    Calls Tryz.prog 441 #[.iface 478 (.pointer (some ⟨q,0,none⟩)), .int .i64 i] w (HRem w p pc ga q ao ca vP Fc cap hs E n v f i) := by
  have hle := pile_len w p pc ga q ao ca vP Fc cap hs E (n + 1) v f h
  have hpo := fun u v2 f2 (hu : PileOk u p pc ga q ao ca vP Fc cap hs E (n + 1) v2 f2) => pile_pop u p pc ga q ao ca vP Fc cap hs E n v2 f2 hu hn
  have hm1 := fun (u : World) => pile_m3 587 ⟨q,0,none⟩ u
  have hm2 := fun (u : World) => pile_m2 587 ⟨q,0,none⟩ u
  have hm5 := fun (u : World) => pile_m5 587 ⟨q,0,none⟩ u
  by_cases hin : i = n
  · subst hin
    go_enter Tryz.func441, Tryz.ntmps441
    go_wp2_with (first
      | (go_at_call 443; refine hle.mono ?_; rintro e w1' ⟨rfl,rfl⟩)
      | (go_at_call 453; refine (hpo _ _ _ h).mono ?_; rintro e w2 ⟨rfl, hp2, hk2⟩))
    go_ret
    refine ⟨v, f,rfl, hp2,fun z => ?_,fun j h0 hj => hh j h0 (by omega), hk2.mono (fun b hb => .inl (by simp at hb; subst hb; simp [pfp])),fun y hy => rfl⟩
    constructor
    · rintro ⟨j, hj,rfl⟩
      exact ⟨fun e => by have := h.inj j i (by omega) (by omega) e; omega, j,by omega,rfl⟩
    · rintro ⟨hz, j, hj,rfl⟩
      refine ⟨j,?_,rfl⟩
      rcases Nat.lt_or_ge j i with c | c
      · exact c
      · obtain rfl : j = i := by omega
        exact absurd rfl hz
  · have hin2 : i < n := by omega
    have hord : Ord (ahead E) v (n + 1) := ordOf h.inj hE
    have hswp := pile_swap w p pc ga q ao ca vP Fc cap hs E (n + 1) v f h i n hi (by omega) hin
    have hat : HeapAt 2 (ahead E) (sw v i n) n i := (hh.refill (by decide) hord hin2).cong (by decide) hin2 (fun j hj => by
      by_cases c : j = i
      · subst c; rw [sw_left]; simp
      · rw [sw_other _ _ _ _ c (by omega)]; simp [c])
    have hE2 : ∀ j, j < n + 1 → (E (sw v i n j)).isSome := by
      intro j hj
      obtain ⟨m, m1, m2, m3, m4⟩ := sw_idx v i n j
      rw [m1]
      refine hE m ?_
      by_cases b : j = i
      · rw [m2 b]; omega
      · by_cases a : j = n
        · rw [m3 a b]; omega
        · rw [m4 b a]; exact hj
    have hinj2 : Inj (sw v i n) (n + 1) := h.inj.sw hi (by omega)
    have hord2 : Ord (ahead E) (sw v i n) n := ordOf (fun a b ha hb e => hinj2 a b (by omega) (by omega) e) (fun j hj => hE2 j (by omega))
    have hset : ∀ z, (∃ j, j < n ∧ sw v i n j = z) ↔ z ≠ v i ∧ ∃ j, j < n + 1 ∧ v j = z := by
      intro z
      have hvn : v n ≠ v i := fun e => hin (h.inj n i (by omega) (by omega) e).symm
      constructor
      · rintro ⟨j, hj, e⟩
        by_cases c : j = i
        · subst c; rw [sw_left] at e; subst e; exact ⟨hvn, n,by omega,rfl⟩
        · rw [sw_other _ _ _ _ c (by omega)] at e; subst e; exact ⟨fun e => c (h.inj j i (by omega) (by omega) e), j,by omega,rfl⟩
      · rintro ⟨hz, j, hj,rfl⟩
        rcases Nat.lt_or_ge j n with c | c
        · exact ⟨j, c, sw_other _ _ _ _ (fun e => hz (by rw [e])) (by omega)⟩
        · obtain rfl : j = n := by omega
          exact ⟨i, hin2, sw_left _ _ _⟩
    have hhd : HeapDown 2 (ahead E) (sw v i n) n i ∨ HeapUp 2 (ahead E) (sw v i n) n i := by
      by_cases h0 : i = 0
      · exact .inl (hat.down (by decide) hord2 hin2 (.inl h0))
      · cases hb : ahead E (sw v i n i) (sw v i n (par 2 i)) with
        | false => exact .inl (hat.down (by decide) hord2 hin2 (.inr hb))
        | true => exact .inr (hat.up (by decide) hord2 hin2 (by omega) hb)
    have hgo : i = 0 ∨ ahead E (sw v i n i) (sw v i n (par 2 i)) = false → HeapDown 2 (ahead E) (sw v i n) n i := fun c => hat.down (by decide) hord2 hin2 c
    have hdn := fun u f2 (hu : PileOk u p pc ga q ao ca vP Fc cap hs E (n + 1) (sw v i n) f2) => pile_down u p pc ga q ao ca vP Fc cap hs E (n + 1) n _ _ hu i hin2 (by omega) hE2 hn hhd
    have hup := fun u f2 (hu : PileOk u p pc ga q ao ca vP Fc cap hs E (n + 1) (sw v i n) f2) => pile_up u p pc ga q ao ca vP Fc cap hs E (n + 1) n _ _ hu i hin2 (by omega) hE2 hn hat
    have hfin : ∀ f2 v3 f3 w1 w4 w5, (∀ x, (∀ k, k < n + 1 → v k ≠ x) → f2 x = f x) → Keeps (ga :: (pfp q ao ++ Fc)) w w1 → PMoved (n + 1) n (sw v i n) f2 v3 f3 → Keeps (ga :: (pfp q ao ++ Fc)) w1 w4 → Heap' 2 (ahead E) v3 n → PopDone w4 p pc ga q ao ca vP Fc cap hs E n v3 f3 (.returned (.iface 3 (.int .i64 (v3 n : Nat)))) w5 → HRem w p pc ga q ao ca vP Fc cap hs E n v f i (.returned (.iface 3 (.int .i64 (v3 n : Nat)))) w5 := by
      rintro f2 v3 f3 w1 w4 w5 h2 k1 hm k2 hh3 ⟨_, hp5, k5⟩
      have hvn : v3 n = v i := by rw [hm.rest n (Nat.le_refl _), sw_right]
      refine ⟨v3, f3,by rw [hvn], hp5,fun z => (hm.same z).trans (hset z), hh3, (k1.trans k2 (fun b hb => .inl hb)).trans k5 (fun b hb => .inl (by simp at hb; subst hb; simp [pfp])),fun y hy => ?_⟩
      rw [hm.off y (fun k hk e => ?_)]
      · exact h2 y hy
      · obtain ⟨m, m1, m2, m3, m4⟩ := sw_idx v i n k
        rw [m1] at e
        refine hy m ?_ e
        by_cases b : k = i
        · rw [m2 b]; omega
        · by_cases a : k = n
          · rw [m3 a b]; omega
          · rw [m4 b a]; exact hk
    have b1 : ((n : Int) == (i : Int)) = false := by rw [beq_eq_false_iff_ne]; omega
    have HF := Lib.hid hfin
    have HGO := Lib.hid hgo
    have HAT := Lib.hid hat
    have HO := Lib.hid hord2
    clear hfin hset hat hord hh hE hE2 hinj2 hord2 hhd hin hgo
    go_enter Tryz.func441, Tryz.ntmps441
    go_upto_region 4 with (first
      | (go_at_call 443; refine hle.mono ?_; rintro e w1' ⟨rfl,rfl⟩)
      | (go_at_call 455; refine hswp.mono ?_; rintro e w1 ⟨f2,rfl, hp1, hk1, ho1⟩))
    have k1 : Keeps (ga :: (pfp q ao ++ Fc)) w w1 := hk1.mono (fun b hb => .inl (by simp at hb ⊢; rcases hb with rfl | hb; exact .inl rfl; exact .inr (.inl hb)))
    have HO1 := Lib.hid ho1
    clear ho1 hk1
    go_upto_if 20 with (go_at_call 444; refine (hdn _ _ hp1).mono ?_; rintro e w2 ⟨v2, f3, bb,rfl, hp2, hm2', hk2, ht2, hf2⟩)
    cases bb with
    | true =>
      have hh2 := ht2 rfl
      clear ht2 hf2
      have HM := Lib.hid hm2'
      have HH := Lib.hid hh2
      clear hm2' hh2
      go_wp2_with (go_at_call 453; refine (hpo _ _ _ hp2).mono ?_; intro e w5 hd5; obtain rfl := hd5.1; have HD := Lib.hid hd5; clear hd5)
      go_ret
      exact HF.out _ _ _ _ _ _ HO1.out k1 HM.out hk2 HH.out HD.out
    | false =>
      obtain ⟨rfl, hh2⟩ := hf2 rfl
      have HH := Lib.hid hh2
      have HM := Lib.hid hm2'
      clear ht2 hf2 hh2 hm2'
      go_wp2_with (first
        | (go_at_call 445; refine (hup _ _ hp2).mono ?_; rintro e w4 ⟨v4, f4,rfl, hp4, hm4, hk4, hr4⟩; have HM4 := Lib.hid hm4; have HR4 := Lib.hid hr4; clear hm4 hr4)
        | (go_at_call 453; refine (hpo _ _ _ hp4).mono ?_; intro e w5 hd5; obtain rfl := hd5.1; have HD := Lib.hid hd5; clear hd5))
      go_ret
      refine HF.out _ _ _ _ _ _ HO1.out k1 (HM.out.trans HM4.out (by omega)) (hk2.trans hk4 (fun b hb => .inl hb)) ?_ HD.out
      rcases HR4.out with ⟨rfl, hst⟩ | hh4
      · exact HH.out (HGO.out hst)
      · exact hh4
end
def pf (r : RowR) : List Nat := pfp r.p r.ao
structure ShedP (w : World) (p pc gr rc ga : Nat) (Fc : List Nat) (cap hs : Nat) (E : Ent) (R : Nat → RowR) (f : Nat → Int) : Prop where
  blk : w.heap[p]? = some (.cells #[.pointer (some ⟨pc,0,none⟩), .slice (some ⟨gr,0,none⟩) (hs + 1) rc, .slice (some ⟨ga,0,none⟩) cap cap] 238 (0,0))
  ce : CellsAt w Fc pc cap hs E
  rows : w.ownsRow 0 478 1 (.slice (some ⟨gr,0,none⟩) (hs + 1) rc) (hs + 1) (rowsV (fun i => (R i).p) (hs + 1))
  ar : Arr w 3 1 cap ga (numV f)
  ne : p ≠ gr ∧ p ≠ ga ∧ gr ≠ ga ∧ p ∉ Fc ∧ gr ∉ Fc ∧ ga ∉ Fc
  own : ∀ g, 1 ≤ g → g ≤ hs → ∀ b ∈ pf (R g), b ≠ p ∧ b ≠ gr ∧ b ≠ ga ∧ b ∉ Fc
  dis : ∀ g g', 1 ≤ g → g ≤ hs → 1 ≤ g' → g' ≤ hs → g ≠ g' → ∀ b ∈ pf (R g), b ∉ pf (R g')
  mem : ∀ g, 1 ≤ g → g ≤ hs → PileOk w p pc ga (R g).p (R g).ao (R g).ca (.slice (some ⟨gr,0,none⟩) (hs + 1) rc) Fc cap hs E (R g).n (R g).v f
  ok : ∀ g, 1 ≤ g → g ≤ hs → RowOk E 2 g (R g)
def ShedAt (w : World) (F : List Nat) (p cap hs : Nat) (E : Ent) : Prop :=
  ∃ (pc gr rc ga : Nat) (Fc : List Nat) (R : Nat → RowR) (f : Nat → Int), F = nestF p gr (ga :: Fc) hs (fun g => pf (R g)) ∧ ShedP w p pc gr rc ga Fc cap hs E R f
section
variable {w w' : World} {p pc gr rc ga cap hs : Nat} {F Fc S : List Nat} {E E' : Ent} {R : Nat → RowR} {f f' : Nat → Int}
theorem ShedP.lt (h : ShedP w p pc gr rc ga Fc cap hs E R f) : ∀ b ∈ nestF p gr (ga :: Fc) hs (fun g => pf (R g)), b < w.heap.size := by
  intro b hb
  rcases nestF_mem.1 hb with rfl | rfl | c | ⟨i, h1, h2, c⟩
  · exact lt_of_block h.blk
  · exact row_lt h.rows
  · rcases List.mem_cons.1 c with rfl | c
    · exact h.ar.lt
    · exact h.ce.lt b c
  · exact (h.mem i h1 h2).below b (by simp only [List.mem_cons, List.mem_append]; exact .inr (.inr (.inl c)))
theorem ShedP.keep (h : ShedP w p pc gr rc ga Fc cap hs E R f) (k : Keeps S w w') (hS : ∀ b ∈ nestF p gr (ga :: Fc) hs (fun g => pf (R g)), b ∉ S) : ShedP w' p pc gr rc ga Fc cap hs E R f :=
  ⟨k.blk h.blk (hS p (nestF_mem.2 (.inl rfl))), h.ce.keep k (fun b hb => hS b (nestF_mem.2 (.inr (.inr (.inl (by simp [hb])))))), k.row h.rows (hS gr (nestF_mem.2 (.inr (.inl rfl)))), h.ar.keep k (hS ga (nestF_mem.2 (.inr (.inr (.inl (by simp)))))), h.ne, h.own, h.dis,
    fun g h1 h2 => (h.mem g h1 h2).keep k (fun b hb => hS b (nestF_mem.2 (by
      simp only [List.mem_cons, List.mem_append] at hb ⊢
      rcases hb with e | e | e | e
      · exact .inl e
      · exact .inr (.inr (.inl (.inl e)))
      · exact .inr (.inr (.inr ⟨g, h1, h2, e⟩))
      · exact .inr (.inr (.inl (.inr e)))))), h.ok⟩
theorem ShedAt.lt (h : ShedAt w F p cap hs E) : ∀ b ∈ F, b < w.heap.size := by obtain ⟨pc, gr, rc, ga, Fc, R, f,rfl, h⟩ := h; exact h.lt
theorem ShedAt.mem (h : ShedAt w F p cap hs E) : p ∈ F := by obtain ⟨pc, gr, rc, ga, Fc, R, f,rfl, h⟩ := h; exact nestF_mem.2 (.inl rfl)
theorem ShedAt.keep (h : ShedAt w F p cap hs E) (k : Keeps S w w') (hS : ∀ b ∈ F, b ∉ S) : ShedAt w' F p cap hs E := by
  obtain ⟨pc, gr, rc, ga, Fc, R, f,rfl, h⟩ := h
  exact ⟨pc, gr, rc, ga, Fc, R, f,rfl, h.keep k hS⟩
theorem ShedAt.ok (h : ShedAt w F p cap hs E) : EntOk E cap hs := by obtain ⟨pc, gr, rc, ga, Fc, R, f,rfl, h⟩ := h; exact h.ce.ok
theorem ShedP.c0 (h : ShedP w p pc gr rc ga Fc cap hs E R f) : w.cell? ⟨p,0,none⟩ = some (.pointer (some ⟨pc,0,none⟩)) := by rw [cell_of_blk h.blk]; rfl
theorem ShedP.c1 (h : ShedP w p pc gr rc ga Fc cap hs E R f) : w.cell? ⟨p,1,none⟩ = some (.slice (some ⟨gr,0,none⟩) (hs + 1) rc) := by rw [cell_of_blk h.blk]; rfl
theorem ShedP.c2 (h : ShedP w p pc gr rc ga Fc cap hs E R f) : w.cell? ⟨p,2,none⟩ = some (.slice (some ⟨ga,0,none⟩) cap cap) := by rw [cell_of_blk h.blk]; rfl
theorem ShedP.row (h : ShedP w p pc gr rc ga Fc cap hs E R f) {g : Nat} (h1 : 1 ≤ g) (h2 : g ≤ hs) : w.cell? ⟨gr,g,none⟩ = some (.pointer (some ⟨(R g).p,0,none⟩)) := by
  rw [h.rows.cellAt g (by omega)]
  exact rowsV_at _ _ _ h1 (by omega)
theorem ShedP.isSome (h : ShedP w p pc gr rc ga Fc cap hs E R f) {g : Nat} (h1 : 1 ≤ g) (h2 : g ≤ hs) : ∀ j, j < (R g).n → (E ((R g).v j)).isSome := fun j hj => (((h.ok g h1 h2).mem _).2 ⟨j, hj,rfl⟩).some
theorem ShedP.change (h : ShedP w p pc gr rc ga Fc cap hs E R f) {g : Nat} (h1 : 1 ≤ g) (h2 : g ≤ hs) {r : RowR} (k : Keeps (ga :: (pf (R g) ++ Fc)) w w') (hp : r.p = (R g).p) (hf : ∀ b ∈ pf r, b ∈ pf (R g) ∨ w.heap.size ≤ b)
    (hr : PileOk w' p pc ga r.p r.ao r.ca (.slice (some ⟨gr,0,none⟩) (hs + 1) rc) Fc cap hs E' r.n r.v f') (ho : RowOk E' 2 g r) (hoth : ∀ g', 1 ≤ g' → g' ≤ hs → g' ≠ g → RowOk E' 2 g' (R g'))
    (hff : ∀ g', 1 ≤ g' → g' ≤ hs → g' ≠ g → ∀ j, j < (R g').n → f' ((R g').v j) = f ((R g').v j)) :
    ShedP w' p pc gr rc ga Fc cap hs E' (upd R g r) f' ∧ Moved (nestF p gr (ga :: Fc) hs (fun g => pf (R g))) w (nestF p gr (ga :: Fc) hs (fun g' => pf (upd R g r g'))) w' := by
  have hlt := h.lt
  obtain ⟨n1, n2, n3, n4, n5, n6⟩ := h.ne
  have hnot : ∀ b, b ≠ ga → b ∉ pf (R g) → b ∉ Fc → b ∉ ga :: (pf (R g) ++ Fc) := fun b z a c e => by
    simp only [List.mem_cons, List.mem_append] at e
    rcases e with e | e | e
    · exact z e
    · exact a e
    · exact c e
  have hpg : p ∉ pf (R g) := fun e => (h.own g h1 h2 p e).1 rfl
  have hgg : gr ∉ pf (R g) := fun e => (h.own g h1 h2 gr e).2.1 rfl
  have hD : ShedP w' p pc gr rc ga Fc cap hs E' (upd R g r) f' := by
    refine ⟨k.blk h.blk (hnot p n2 hpg n4), hr.ce,?_, hr.ar, h.ne,?_,?_,?_,?_⟩
    · have := k.row h.rows (hnot gr n3 hgg n5)
      rw [rowsV_congr (r := fun i => (R i).p) (r' := fun i => (upd R g r i).p)]
      · exact this
      · intro i a b
        by_cases c : i = g
        · subst c; simp only [upd_same]; exact hp
        · simp only [upd_other R r c]
    · intro g' a b x hx
      by_cases c : g' = g
      · subst c
        rw [upd_same] at hx
        rcases hf x hx with e | e
        · exact h.own g' a b x e
        · have l1 := hlt p (nestF_mem.2 (.inl rfl))
          have l2 := hlt gr (nestF_mem.2 (.inr (.inl rfl)))
          have l3 := h.ar.lt
          exact ⟨by omega,by omega,by omega,fun e2 => by have := h.ce.lt x e2; omega⟩
      · rw [upd_other R r c] at hx; exact h.own g' a b x hx
    · intro g1 g2 a1 a2 b1 b2 hne x hx hx2
      by_cases c1 : g1 = g
      · subst c1
        rw [upd_same] at hx
        rw [upd_other R r (fun e => hne e.symm)] at hx2
        rcases hf x hx with e | e
        · exact h.dis g1 g2 a1 a2 b1 b2 hne x e hx2
        · have := hlt x (nestF_mem.2 (.inr (.inr (.inr ⟨g2, b1, b2, hx2⟩)))); omega
      · rw [upd_other R r c1] at hx
        by_cases c2 : g2 = g
        · subst c2
          rw [upd_same] at hx2
          rcases hf x hx2 with e | e
          · exact h.dis g1 g2 a1 a2 b1 b2 hne x hx e
          · have := hlt x (nestF_mem.2 (.inr (.inr (.inr ⟨g1, a1, a2, hx⟩)))); omega
        · rw [upd_other R r c2] at hx2
          exact h.dis g1 g2 a1 a2 b1 b2 hne x hx hx2
    · intro g' a b
      by_cases c : g' = g
      · subst c; rw [upd_same]; exact hr
      · rw [upd_other R r c]
        have hm := h.mem g' a b
        obtain ⟨Lm, l1, l2, l3⟩ := hm.row
        have hno : ∀ x ∈ pf (R g'), x ∉ ga :: (pf (R g) ++ Fc) := fun x hx => by
          obtain ⟨q1, q2, q3, q4⟩ := h.own g' a b x hx
          exact hnot x q3 (fun e => h.dis g' g a b h1 h2 c x hx e) q4
        exact ⟨hr.bp, k.blk hm.bq (hno _ (by simp [pf, pfp])), hr.ce, hr.ar, ⟨Lm, l1, ir_keep l2 k (fun x e => hno _ (by simp [pf, pfp, e])), l3⟩, hm.ne, hm.na,fun j hj => (hff g' a b c j hj).trans (hm.pos j hj), hm.lt, hm.inj⟩
    · intro g' a b
      by_cases c : g' = g
      · subst c; rw [upd_same]; exact ho
      · rw [upd_other R r c]; exact hoth g' a b c
  refine ⟨hD, k.mono (fun b hb => .inl (nestF_mem.2 ?_)),fun b hb => ?_, hD.lt⟩
  · simp only [List.mem_cons, List.mem_append] at hb ⊢
    rcases hb with e | e | e
    · exact .inr (.inr (.inl (.inl e)))
    · exact .inr (.inr (.inr ⟨g, h1, h2, e⟩))
    · exact .inr (.inr (.inl (.inr e)))
  · rcases nestF_mem.1 hb with e | e | e | ⟨g', a1, a2, e⟩
    · exact .inl (nestF_mem.2 (.inl e))
    · exact .inl (nestF_mem.2 (.inr (.inl e)))
    · exact .inl (nestF_mem.2 (.inr (.inr (.inl e))))
    · by_cases c : g' = g
      · subst c
        rw [upd_same] at e
        rcases hf b e with q | q
        · exact .inl (nestF_mem.2 (.inr (.inr (.inr ⟨g', a1, a2, q⟩))))
        · exact .inr q
      · rw [upd_other R r c] at e
        exact .inl (nestF_mem.2 (.inr (.inr (.inr ⟨g', a1, a2, e⟩))))
end
section
variable (w : World) (F : List Nat) (p cap hs : Nat) (E : Ent)
theorem shed_min_yes (c : ShedAt w F p cap hs E) (h : Nat) (h1 : 1 ≤ h) (h2 : h ≤ hs) (hi : ∃ y, isIn E h y) :
    Calls Tryz.prog 439 #[.pointer (some ⟨p,0,none⟩), .int .i64 h] w fun e w' => (∃ x : Nat, e = .returned (.tuple #[.int .i64 x, .bool true]) ∧ least E h x) ∧ w = w' := by
  obtain ⟨pc, gr, rc, ga, Fc, R, f,rfl, m⟩ := c
  have hlen := cells_len w Fc pc cap hs E m.ce h (by have := m.ce.ok.bh; omega)
  obtain ⟨cn, hcn⟩ : ∃ cn, count E cap h = cn + 1 := by
    have := count_some (h := h) m.ce.ok hi
    exact ⟨count E cap h - 1,by omega⟩
  rw [hcn] at hlen
  have c0 := m.c0
  have c1 := m.c1
  have c3 := m.row h1 h2
  have hok := m.ok h h1 h2
  have hm := m.mem h h1 h2
  have hn : 0 < (R h).n := by
    obtain ⟨y, hy⟩ := hi
    obtain ⟨j, hj, _⟩ := (hok.mem y).1 hy
    omega
  obtain ⟨g, hao, _, _, _, _, _, d1, _⟩ := hm.at hn
  have d0 := hm.q1
  rw [hao] at d0
  have hord : Ord (ahead E) (R h).v (R h).n := ordOf hok.inj (m.isSome h1 h2)
  have hl := hok.heap.least (by decide) hord hn hok.mem
  have HL := Lib.hid hl
  have hhs3 : (h : Int) < ((hs + 1 : Nat) : Int) := by omega
  have hhs4 : (h : Int) < (hs : Int) + 1 := by omega
  have b0 : (((cn + 1 : Nat) : Int) == 0) = false := by rw [beq_eq_false_iff_ne]; omega
  have hn3 : (0 : Int) < ((R h).n : Int) := by omega
  clear hl hok hm hord m hi hao hcn
  go_enter Tryz.func439, Tryz.ntmps439
  go_wp2_with (go_at_call 304; refine hlen.mono ?_; rintro e w' ⟨rfl,rfl⟩)
  go_ret2
  exact ⟨⟨_,rfl, HL.out⟩,rfl⟩
theorem shed_min_no (c : ShedAt w F p cap hs E) (h : Nat) (h1 : 1 ≤ h) (h2 : h ≤ hs) (hi : ∀ y, ¬ isIn E h y) :
    Calls Tryz.prog 439 #[.pointer (some ⟨p,0,none⟩), .int .i64 h] w fun e w' => e = .returned (.tuple #[.int .i64 0, .bool false]) ∧ w = w' := by
  obtain ⟨pc, gr, rc, ga, Fc, R, f,rfl, m⟩ := c
  have hlen := cells_len w Fc pc cap hs E m.ce h (by have := m.ce.ok.bh; omega)
  rw [count_no hi] at hlen
  have c0 := m.c0
  clear m hi
  go_enter Tryz.func439, Tryz.ntmps439
  go_wp2_with (go_at_call 304; refine hlen.mono ?_; rintro e w' ⟨rfl,rfl⟩)
  go_ret2
  exact ⟨rfl,rfl⟩
end
end Go.Proofs.YtkdbjelhkfdfjaaGreatDoor


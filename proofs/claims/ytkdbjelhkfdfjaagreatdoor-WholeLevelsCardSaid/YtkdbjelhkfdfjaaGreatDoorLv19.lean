/-
  Contracts that the law rests on. Conditions: none.
-/
import Derived.Test.YtkdbjelhkfdfjaaGreatDoorLv12
set_option linter.unusedVariables false
set_option maxRecDepth 100000
set_option maxHeartbeats 32000000
namespace Go.Proofs.YtkdbjelhkfdfjaaGreatDoor
open Go.RowKit
section
variable (w : World) (p g n : Nat) (T : Nat -> TwigR) (U : Nat -> Option Nat)
def LinkDone (a b : Nat) (e : Ending) (w' : World) : Prop :=
  ∃ t : TwigR, t.kids = (T a).kids ++ [b] ∧ e = .returned (.bool true) ∧ ForestAt w' p g n (upd T a t) (upd U b (some a)) ∧ Moved (treeF p g n T) w (treeF p g n (upd T a t)) w'
theorem fo_link (h : ForestAt w p g n T U) (a b : Nat) (ha : a < n) (hb : b < n) (hne : a ≠ b) (hua : U a = none) (hub : U b = none) (hd : (T a).kids.length = (T b).kids.length) (hl : (T a).kids.length + 1 <= 65536) :
    Calls Tryz.prog 369 #[.pointer (some ⟨p,0,none⟩),.int .i64 a,.int .i64 b] w (LinkDone w p g n T U a b) := by
  have hrt : ∀ x, x < n -> U x = none -> Calls Tryz.prog 363 #[.pointer (some ⟨p,0,none⟩),.int .i64 x] w fun e w' => e = .returned (.bool true) ∧ w = w' := fun x hx hu => by
    have := fo_root w p g n T U h x hx
    rw [hu] at this; exact this
  have hdg : ∀ x m, x < n -> (T x).kids.length = m -> Calls Tryz.prog 367 #[.pointer (some ⟨p,0,none⟩),.int .i64 x] w fun e w' => e = .returned (.int .i64 m) ∧ w = w' := fun x m hx hu => by
    have := fo_degree w p g n T U h x hx
    rw [hu] at this; exact this
  have hncap := h.cap
  have c0 := h.c0
  have c1 := h.k0 ha
  have hrow := h.rows a ha
  have hal := h.keep (S := []) (w' := w.alloc (.cells #[.int .i64 (b : Int)] 3 (0,0))) ((Keeps.refl _ _).alloc _) (by simp)
  have c2 := hal.c0
  have c3 := hal.k0 ha
  obtain ⟨ao, hao⟩ : ∃ ao,(T a).ao = ao := ⟨_,rfl⟩
  obtain ⟨ca, hca⟩ : ∃ ca,(T a).ca = ca := ⟨_,rfl⟩
  obtain ⟨L, hL⟩ : ∃ L,(T a).kids = L := ⟨_,rfl⟩
  have hmid : ∀ (w5 : World) (g' cap' : Nat), w5.ownsRow 0 3 1 (.slice (some ⟨g',0,none⟩) (L.length + 1) cap') (L.length + 1) (Rg.nCells L ++ [.int .i64 (b : Int)]) -> Keeps (Value.slice ao L.length ca).ownBlock.toList w w5 -> ((Value.slice ao L.length ca).ownBlock = some g' ∨ w.heap.size <= g') ->
      w5.cell? ⟨p,0,none⟩ = some (.slice (some ⟨g,0,none⟩) n n) ∧ w5.cell? ⟨g, a * 2, none⟩ = some (.slice ao L.length ca) ∧ w5.frozen? ⟨g, a * 2, none⟩ = false ∧
      ∀ w6 : World, w6.heap = (w5.setCell ⟨g, a * 2, none⟩ (.slice (some ⟨g',0,none⟩) (L.length + 1) cap')).heap -> w6.os = w5.os -> w6.tape = w5.tape -> w6.output = w5.output ->
        w6.cell? ⟨p,0,none⟩ = some (.slice (some ⟨g,0,none⟩) n n) ∧ w6.cell? ⟨g, b * 2 + 1, none⟩ = some (.int .i64 (oZ (U b))) ∧ w6.frozen? ⟨g, b * 2 + 1, none⟩ = false ∧
        LinkDone w p g n T U a b (.returned (.bool true)) (w6.setCell ⟨g, b * 2 + 1, none⟩ (.int .i64 (a : Int))) := by
    intro w5 g' cap' hr hk hf
    have hob : ∀ y,(Value.slice ao L.length ca).ownBlock = some y -> ∃ q,(T a).ao = some q ∧ q.block = y := by
      intro y e
      rw [hao]
      cases ao with
      | none => simp [Value.ownBlock] at e
      | some q =>
        obtain ⟨b', o', i'⟩ := q
        simp [Value.ownBlock] at e
        exact ⟨_,rfl, e⟩
    have hk' : Keeps ((T a).ao.toList.map (·.block)) w w5 := hk.mono (fun y hy => .inl (by
      obtain ⟨q, e1, e2⟩ := hob y (by simpa using hy)
      simp only [List.mem_map, Option.mem_toList]
      exact ⟨q, e1, e2⟩))
    have hir : Rg.IR 0 w5 (.slice (some ⟨g',0,none⟩) (L ++ [b]).length cap') (L ++ [b]) := by
      have := Rg.IR.pushed (B := 0) (L := L) (x := b) hr (Nat.zero_le _)
      simpa using this
    have hset := h.setKids ha (t := ⟨some ⟨g',0,none⟩, cap', L ++ [b]⟩) hk' hir (fun q e => by
      cases e
      rcases hf with e | e
      · obtain ⟨q', e1, e2⟩ := hob g' e
        exact .inl ⟨q', e1, e2⟩
      · exact .inr e) (by simp; rw [hL] at hl; omega) (fun y hy => by
      simp only [List.mem_append, List.mem_singleton] at hy
      rcases hy with hy | rfl
      · exact (h.num a ha).2.1 y (by rw [hL]; exact hy)
      · exact hb)
    simp only [List.length_append, List.length_singleton] at hset
    have hgo : g ∉ (T a).ao.toList.map (·.block) := fun e => by
      simp only [List.mem_map, Option.mem_toList] at e
      obtain ⟨q, e1, e2⟩ := e
      exact (h.own a ha q e1).2 e2
    have hpo : p ∉ (T a).ao.toList.map (·.block) := fun e => by
      simp only [List.mem_map, Option.mem_toList] at e
      obtain ⟨q, e1, e2⟩ := e
      exact (h.own a ha q e1).1 e2
    have har5 := h.arr.keep hk' hgo
    refine ⟨by rw [cell_of_blk (hk'.blk h.blk hpo)]; rfl,?_, har5.frozen _,fun w6 e1 e2 e3 e4 => ?_⟩
    · have := har5.cell (i := a) (j := 0) ha (by decide)
      simpa [twigV, hao, hca, hL] using this
    · have h6 := hset.1.like (w' := w6) e1
      have hm6 : Moved (treeF p g n T) w (treeF p g n (upd T a ⟨some ⟨g',0,none⟩, cap', L ++ [b]⟩)) w6 :=
        ⟨hset.2.keeps.trans (T := []) ⟨by rw [e2]; rfl,by rw [e3]; rfl,by rw [e4]; rfl,by rw [e1]; exact Nat.le_refl _,fun k _ _ => by rw [e1]⟩ (by simp), hset.2.from', h6.lt⟩
      have h7 := h6.setUp (x := b) (o := some a) hb (fun y e => by cases e; exact ha)
      have k7 : Keeps [g] w6 (w6.setCell ⟨g, b * 2 + 1, none⟩ (.int .i64 (oZ (some a)))) := (Keeps.refl _ _).setCell (.inl (by simp)) _
      refine ⟨h6.c0, h6.k1 hb, h6.arr.frozen _,⟨some ⟨g',0,none⟩, cap', L ++ [b]⟩,by rw [hL],rfl, h7, hm6.keeps.trans k7 (fun y hy => .inl (treeF_mem.2 (.inr (.inl (by simpa using hy))))), hm6.from', h7.lt⟩
  have hrow' : w.ownsRow 0 3 1 (.slice ao L.length ca) L.length (Rg.nCells L) := by
    rw [hao, hca, hL] at hrow
    unfold Rg.IR at hrow; exact hrow
  rw [hao, hca, hL] at c1 c3
  rw [hL] at hl hd
  have ha3 : (a : Int) < (n : Int) := by omega
  have hb3 : (b : Int) < (n : Int) := by omega
  have hab : ((a : Int) == (b : Int)) = false := by rw [beq_eq_false_iff_ne]; omega
  have HM := Lib.hid hmid
  have HD1 := Lib.hid hL
  have HD2 := Lib.hid hd
  clear hmid h hal hrow hao hca hL hd
  go_enter Tryz.func369, Tryz.ntmps369
  go_upto_region 3 with (first
    | (go_at_call 363; refine (hrt _ (by assumption) (by assumption)).mono ?_; rintro e w' ⟨rfl,rfl⟩)
    | (go_at_call 367; refine (hdg _ L.length (by assumption) (by first | exact congrArg List.length HD1.out | exact HD2.out.symm)).mono ?_; rintro e w' ⟨rfl,rfl⟩))
  clear hrt hdg
  go_region_law (refine step_push2 rfl (.tmp 43) (.tmp 45) 28 3 rfl (.int .i64 0) Tryz.underlying28 Rg.Tryz.infoInt rfl w _ (.int .i64 (b : Int)) rfl (0,0) rfl rfl rfl rfl (.slice ao L.length ca) L.length (Rg.nCells L) rfl hrow' rfl (by unfold maxLen; omega) (by omega) ?_; intro g' cap' w5 hr5 hk5 hf5; obtain ⟨z0, z1, z2, z3⟩ := HM.out w5 g' cap' hr5 hk5 hf5; have HZ := Lib.hid z3; clear hr5 hk5 hf5 z3)
  all_goals
    obtain ⟨w6, hw6⟩ : ∃ w6, w6 = w5.setCell ⟨g, a * 2, none⟩ (.slice (some ⟨g',0,none⟩) (L.length + 1) cap') := ⟨_,rfl⟩
    rw [<- hw6]
    obtain ⟨y1, y2, y3, y4⟩ := HZ.out w6 (by rw [hw6]) (by rw [hw6]; rfl) (by rw [hw6]; rfl) (by rw [hw6]; rfl)
    have HY := Lib.hid y4
    clear HZ HM c0 c1 c2 c3 z0 z1 z2 hw6 y4
    go_wp2_with fail
    go_ret
    exact HY.out
end
end Go.Proofs.YtkdbjelhkfdfjaaGreatDoor


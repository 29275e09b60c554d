/-
  What lies in memory in a round of ArenaRuns: an arena, the document's, the act.
-/
import Derived.Test.YtoifnljlnpkodaaRunsPlain
import Derived.Test.YtoifnljlnpkodaaRef03U
namespace Go.Proofs.Ytoifnljlnpkodaa
open Go.RowKit
set_option linter.unusedVariables false

/-- The arena, and the document's. -/
structure RI (B p zb : Nat) (cap most : Int) (O : List Nat) (S : List (Int × Bool)) (W : List Nat) (next : Nat) (cnt : Int) (T G : List (Nat × Int)) (vT vG : Value) (wr : World) : Prop where
  ar : AR B p O S W next cnt most wr
  ob : ∀ b ∈ O, B ≤ b
  hb : B ≤ wr.heap.size
  zO : zb ∈ O
  box : wr.heap[zb]? = some (.cells #[.int .i64 cap, .int .u32 most, vT, vG] 42 (0, 0))
  t : HRow wr O vT T
  g : HRow wr O vG G
  nt : ∀ b, vT.ownBlock = some b → b ≠ zb
  ng : ∀ b, vG.ownBlock = some b → b ≠ zb

/-- The act beside them. -/
structure RX (B p zb xb : Nat) (c : Array Value) (cap most : Int) (O : List Nat) (S : List (Int × Bool)) (W : List Nat) (next : Nat) (cnt : Int) (T G : List (Nat × Int)) (vT vG : Value) (wr : World) : Prop where
  i : RI B p zb cap most O S W next cnt T G vT vG wr
  xO : xb ∈ O
  xz : xb ≠ zb
  xt : ∀ b, vT.ownBlock = some b → b ≠ xb
  xg : ∀ b, vG.ownBlock = some b → b ≠ xb
  act : wr.heap[xb]? = some (.cells c 46 (0, 0))

section
variable {B p zb xb next next' : Nat} {c : Array Value} {cap most cnt cnt' : Int} {O : List Nat} {S S' : List (Int × Bool)} {W W' : List Nat} {T G : List (Nat × Int)} {vT vG : Value} {wr w1 : World}

theorem RI.stays (h : RI B p zb cap most O S W next cnt T G vT vG wr) (ha : AR B p O S' W' next' cnt' most w1) (k : Stays B O wr w1) : RI B p zb cap most O S' W' next' cnt' T G vT vG w1 :=
  ⟨ha, h.ob, Nat.le_trans h.hb k.1.size, h.zO, (k.2 _ h.zO).trans h.box, h.t.stays k, h.g.stays k, h.nt, h.ng⟩

theorem RI.below (h : RI B p zb cap most O S W next cnt T G vT vG wr) (hb : Below wr.heap.size wr w1) : RI B p zb cap most O S W next cnt T G vT vG w1 := by
  obtain ⟨h1, h2⟩ := h.ar.below hb h.hb
  exact h.stays h1 h2

theorem RX.stays (h : RX B p zb xb c cap most O S W next cnt T G vT vG wr) (ha : AR B p O S' W' next' cnt' most w1) (k : Stays B O wr w1) : RX B p zb xb c cap most O S' W' next' cnt' T G vT vG w1 :=
  ⟨h.i.stays ha k, h.xO, h.xz, h.xt, h.xg, (k.2 _ h.xO).trans h.act⟩

theorem RX.below (h : RX B p zb xb c cap most O S W next cnt T G vT vG wr) (hb : Below wr.heap.size wr w1) : RX B p zb xb c cap most O S W next cnt T G vT vG w1 :=
  ⟨h.i.below hb, h.xO, h.xz, h.xt, h.xg, (hb.block _ (h.i.ar.lt _ h.xO)).trans h.act⟩

theorem below_alloc (w : World) (o : Obj) : Below w.heap.size w (w.alloc o) := (Below.refl _ _).alloc (Nat.le_refl _) _
theorem below_drew (w : World) : Below w.heap.size w w.drew := ⟨rfl, rfl, rfl, Nat.le_refl _, fun _ _ => rfl⟩
theorem below_drewN (w : World) (n : Nat) : Below w.heap.size w (w.drewN n) := ⟨rfl, rfl, rfl, Nat.le_refl _, fun _ _ => rfl⟩

/-- An act is laid beside. -/
theorem RI.act (h : RI B p zb cap most O S W next cnt T G vT vG wr) (c : Array Value) : RX B p zb wr.heap.size c cap most (wr.heap.size :: O) S W next cnt T G vT vG (wr.alloc (.cells c 46 (0, 0))) := by
  have hlt := h.ar.lt
  have hk : ∀ b ∈ O, (wr.alloc (.cells c 46 (0, 0))).heap[b]? = wr.heap[b]? := fun b hb => blk_alloc_old _ (hlt b hb)
  have hm : ∀ b ∈ O, b ∈ wr.heap.size :: O := fun b hb => List.mem_cons_of_mem _ hb
  refine ⟨⟨h.ar.push _, ?_, ?_, hm _ h.zO, (hk _ h.zO).trans h.box, h.t.kept hk hm, h.g.kept hk hm, h.nt, h.ng⟩, by simp, ?_, ?_, ?_, blk_alloc_new _⟩
  · intro b hb
    simp only [List.mem_cons] at hb
    rcases hb with rfl | hb
    · exact h.hb
    · exact h.ob b hb
  · have := h.hb; simp; omega
  · have := hlt _ h.zO; omega
  · intro b hb; have := hlt _ (h.t.mem b hb); omega
  · intro b hb; have := hlt _ (h.g.mem b hb); omega

/-- A new row belongs to them. -/
theorem RX.grow (h : RX B p zb xb c cap most O S W next cnt T G vT vG wr) (hb : Below wr.heap.size wr w1) {v : Value} {L : List (Nat × Int)} (hr : HR w1 v L) (hv : ∀ b, v.ownBlock = some b → wr.heap.size ≤ b) :
    ∃ O2, RX B p zb xb c cap most O2 S W next cnt T G vT vG w1 ∧ HRow w1 O2 v L ∧ (∀ b, v.ownBlock = some b → b ≠ zb ∧ b ≠ xb) := by
  obtain ⟨O2, a1, a2, a3, a4⟩ := h.i.ar.own h.i.hb hb hr hv
  have h2 := h.below hb
  have hlt := h.i.ar.lt
  refine ⟨O2, ⟨⟨a1, ?_, h2.i.hb, a2 _ h.i.zO, h2.i.box, ⟨h2.i.t.row, fun b hb => a2 _ (h2.i.t.mem b hb)⟩, ⟨h2.i.g.row, fun b hb => a2 _ (h2.i.g.mem b hb)⟩, h2.i.nt, h2.i.ng⟩, a2 _ h.xO, h.xz, h.xt, h.xg, h2.act⟩, ⟨hr, a3⟩, ?_⟩
  · intro b hb
    rcases a4 b hb with h1 | h1
    · exact h.i.ob b h1
    · have := h.i.hb; omega
  · intro b hb
    have h1 := hv b hb
    have h3 := hlt _ h.i.zO
    have h4 := hlt _ h.xO
    exact ⟨by omega, by omega⟩

/-- The box is laid anew. -/
theorem RX.put (h : RX B p zb xb c cap most O S W next cnt T G vT vG wr) {v u : Value} {T' G' : List (Nat × Int)} (ht : HRow wr O v T') (hg : HRow wr O u G') (nt : ∀ b, v.ownBlock = some b → b ≠ zb ∧ b ≠ xb) (ng : ∀ b, u.ownBlock = some b → b ≠ zb ∧ b ≠ xb) :
    RX B p zb xb c cap most O S W next cnt T' G' v u ((((wr.setCell ⟨zb, 0, none⟩ (.int .i64 cap)).setCell ⟨zb, 1, none⟩ (.int .u32 most)).setCell ⟨zb, 2, none⟩ v).setCell ⟨zb, 3, none⟩ u) := by
  have hk : Keeps [zb] wr ((((wr.setCell ⟨zb, 0, none⟩ (.int .i64 cap)).setCell ⟨zb, 1, none⟩ (.int .u32 most)).setCell ⟨zb, 2, none⟩ v).setCell ⟨zb, 3, none⟩ u) :=
    ((((Keeps.refl _ _).setCell (.inl (by simp)) _).setCell (.inl (by simp)) _).setCell (.inl (by simp)) _).setCell (.inl (by simp)) _
  refine ⟨⟨(((h.i.ar.store h.i.zO _ _).store h.i.zO _ _).store h.i.zO _ _).store h.i.zO _ _, h.i.ob, by simpa using h.i.hb, h.i.zO, ?_, ht.keep hk (fun b hb => by have := (nt b hb).1; simpa using this), hg.keep hk (fun b hb => by have := (ng b hb).1; simpa using this), fun b hb => (nt b hb).1, fun b hb => (ng b hb).1⟩, h.xO, h.xz, fun b hb => (nt b hb).2, fun b hb => (ng b hb).2, hk.blk h.act (by simpa using h.xz)⟩
  rw [blk_setCell _ (blk_setCell _ (blk_setCell _ (blk_setCell _ h.i.box)))]
  simp

theorem HRow.alloc {O : List Nat} {w : World} {v : Value} {L : List (Nat × Int)} (h : HRow w O v L) (o : Obj) : HRow (w.alloc o) O v L := ⟨World.ownsRow.alloc h.row o, h.mem⟩

theorem RX.alloc (h : RX B p zb xb c cap most O S W next cnt T G vT vG wr) (o : Obj) : RX B p zb xb c cap most O S W next cnt T G vT vG (wr.alloc o) := h.below (below_alloc _ _)

theorem RX.put1 (h : RX B p zb xb c cap most O S W next cnt T G vT vG wr) (o : Obj) {v u : Value} {T' G' : List (Nat × Int)} (ht : HRow wr O v T') (hg : HRow wr O u G') (nt : ∀ b, v.ownBlock = some b → b ≠ zb ∧ b ≠ xb) (ng : ∀ b, u.ownBlock = some b → b ≠ zb ∧ b ≠ xb) :
    RX B p zb xb c cap most O S W next cnt T' G' v u (((((wr.alloc o).setCell ⟨zb, 0, none⟩ (.int .i64 cap)).setCell ⟨zb, 1, none⟩ (.int .u32 most)).setCell ⟨zb, 2, none⟩ v).setCell ⟨zb, 3, none⟩ u) :=
  (h.alloc o).put (ht.alloc o) (hg.alloc o) nt ng

theorem RX.put2 (h : RX B p zb xb c cap most O S W next cnt T G vT vG wr) (o o' : Obj) {v u : Value} {T' G' : List (Nat × Int)} (ht : HRow wr O v T') (hg : HRow wr O u G') (nt : ∀ b, v.ownBlock = some b → b ≠ zb ∧ b ≠ xb) (ng : ∀ b, u.ownBlock = some b → b ≠ zb ∧ b ≠ xb) :
    RX B p zb xb c cap most O S W next cnt T' G' v u ((((((wr.alloc o).alloc o').setCell ⟨zb, 0, none⟩ (.int .i64 cap)).setCell ⟨zb, 1, none⟩ (.int .u32 most)).setCell ⟨zb, 2, none⟩ v).setCell ⟨zb, 3, none⟩ u) :=
  (h.alloc o).put1 o' (ht.alloc o) (hg.alloc o) nt ng

theorem RX.nt2 (h : RX B p zb xb c cap most O S W next cnt T G vT vG wr) : (∀ b, vT.ownBlock = some b → b ≠ zb ∧ b ≠ xb) ∧ (∀ b, vG.ownBlock = some b → b ≠ zb ∧ b ≠ xb) :=
  ⟨fun b hb => ⟨h.i.nt b hb, h.xt b hb⟩, fun b hb => ⟨h.i.ng b hb, h.xg b hb⟩⟩

theorem RX.lt (h : RX B p zb xb c cap most O S W next cnt T G vT vG wr) : zb < wr.heap.size ∧ xb < wr.heap.size ∧ B ≤ zb ∧ B ≤ xb ∧ xb ≠ zb := ⟨h.i.ar.lt _ h.i.zO, h.i.ar.lt _ h.xO, h.i.ob _ h.i.zO, h.i.ob _ h.xO, h.xz⟩

/-- The act's handle is another. -/
theorem RX.turn {a s g s' g' : Int} (h : RX B p zb xb #[.int .i64 a, .int .i64 s, .int .u32 g] cap most O S W next cnt T G vT vG wr) :
    RX B p zb xb #[.int .i64 a, .int .i64 s', .int .u32 g'] cap most O S W next cnt T G vT vG ((wr.setCell ⟨xb, 1, none⟩ (.int .i64 s')).setCell ⟨xb, 2, none⟩ (.int .u32 g')) := by
  have hk : Keeps [xb] wr ((wr.setCell ⟨xb, 1, none⟩ (.int .i64 s')).setCell ⟨xb, 2, none⟩ (.int .u32 g')) := ((Keeps.refl _ _).setCell (.inl (by simp)) _).setCell (.inl (by simp)) _
  refine ⟨⟨(h.i.ar.store h.xO _ _).store h.xO _ _, h.i.ob, by simpa using h.i.hb, h.i.zO, hk.blk h.i.box (by simpa using fun e => h.xz e.symm), h.i.t.keep hk (fun b hb => by simpa using h.xt b hb), h.i.g.keep hk (fun b hb => by simpa using h.xg b hb), h.i.nt, h.i.ng⟩, h.xO, h.xz, h.xt, h.xg, ?_⟩
  rw [blk_setCell _ (blk_setCell _ h.act)]
  simp

theorem RX.read {a s g : Int} (h : RX B p zb xb #[.int .i64 a, .int .i64 s, .int .u32 g] cap most O S W next cnt T G vT vG wr) :
    (wr.cell? ⟨zb, 0, none⟩ = some (.int .i64 cap) ∧ wr.cell? ⟨zb, 1, none⟩ = some (.int .u32 most) ∧ wr.cell? ⟨zb, 2, none⟩ = some vT ∧ wr.cell? ⟨zb, 3, none⟩ = some vG) ∧
    (wr.cell? ⟨xb, 0, none⟩ = some (.int .i64 a) ∧ wr.cell? ⟨xb, 1, none⟩ = some (.int .i64 s) ∧ wr.cell? ⟨xb, 2, none⟩ = some (.int .u32 g)) ∧
    (∀ i, wr.frozen? ⟨zb, i, none⟩ = false) ∧ (∀ i, wr.frozen? ⟨xb, i, none⟩ = false) := by
  refine ⟨⟨?_, ?_, ?_, ?_⟩, ⟨?_, ?_, ?_⟩, fun i => frozen_of_blk h.i.box, fun i => frozen_of_blk h.act⟩
  · rw [cell_of_blk h.i.box]; rfl
  · rw [cell_of_blk h.i.box]; rfl
  · rw [cell_of_blk h.i.box]; rfl
  · rw [cell_of_blk h.i.box]; rfl
  · rw [cell_of_blk h.act]; rfl
  · rw [cell_of_blk h.act]; rfl
  · rw [cell_of_blk h.act]; rfl

/-- All that the last look of a round reads. -/
structure RF (w : World) (p zb xb h1 h2 : Nat) (a s g j1 j2 : Int) (cap most : Int) (O : List Nat) (S : List (Int × Bool)) (W : List Nat) (next : Nat) (cnt : Int) (T G : List (Nat × Int)) (vT vG : Value) (wr : World) : Prop where
  x : RX w.heap.size p zb xb #[.int .i64 a, .int .i64 s, .int .u32 g] cap most O S W next cnt T G vT vG wr
  c1 : wr.heap[h1]? = some (.cells #[.int .i64 j1, .int .u32 j2] 30 (0, 0))
  c2 : wr.heap[h2]? = some (.cells #[.int .i64 j1, .int .u32 j2] 30 (0, 0))
  bel : Below w.heap.size w wr

theorem RF.below {w : World} {h1 h2 : Nat} {a s g j1 j2 : Int} (h : RF w p zb xb h1 h2 a s g j1 j2 cap most O S W next cnt T G vT vG wr) (hb : Below wr.heap.size wr w1) : RF w p zb xb h1 h2 a s g j1 j2 cap most O S W next cnt T G vT vG w1 :=
  ⟨h.x.below hb, (hb.block _ (lt_of_block h.c1)).trans h.c1, (hb.block _ (lt_of_block h.c2)).trans h.c2, h.bel.trans (hb.mono h.bel.size)⟩

theorem RF.read {w : World} {h1 h2 : Nat} {a s g j1 j2 : Int} (h : RF w p zb xb h1 h2 a s g j1 j2 cap most O S W next cnt T G vT vG wr) :
    wr.cell? ⟨h1, 0, none⟩ = some (.int .i64 j1) ∧ wr.cell? ⟨h1, 1, none⟩ = some (.int .u32 j2) ∧ wr.cell? ⟨h2, 0, none⟩ = some (.int .i64 j1) ∧ wr.cell? ⟨h2, 1, none⟩ = some (.int .u32 j2) ∧ wr.cell? ⟨xb, 1, none⟩ = some (.int .i64 s) ∧ wr.cell? ⟨xb, 2, none⟩ = some (.int .u32 g) ∧
    wr.cell? ⟨zb, 0, none⟩ = some (.int .i64 cap) ∧ wr.cell? ⟨zb, 1, none⟩ = some (.int .u32 most) ∧ wr.cell? ⟨zb, 2, none⟩ = some vT ∧ wr.cell? ⟨zb, 3, none⟩ = some vG := by
  obtain ⟨⟨z0, z1, z2, z3⟩, ⟨_, x1, x2⟩, _, _⟩ := h.x.read
  refine ⟨?_, ?_, ?_, ?_, x1, x2, z0, z1, z2, z3⟩
  · rw [cell_of_blk h.c1]; rfl
  · rw [cell_of_blk h.c1]; rfl
  · rw [cell_of_blk h.c2]; rfl
  · rw [cell_of_blk h.c2]; rfl

theorem HRow.hr {w : World} {O : List Nat} {v : Value} {L : List (Nat × Int)} (h : HRow w O v L) : HR w v L := h.row
end

section
variable (B p : Nat) (O : List Nat) (S : List (Int × Bool)) (W : List Nat) (next : Nat) (cnt most : Int) (w : World)

theorem ar_at (h : AR B p O S W next cnt most w) (slot : Int) :
    Calls Try.prog 19 #[.pointer (some ⟨p, 0, none⟩), .int .i64 slot] w fun e w' => e = .returned (atV ((atS S slot).map fun g => (slot.toNat, g))) ∧ Below w.heap.size w w' := by
  obtain ⟨gs, ao, cw, h1, h2, h3, h4⟩ := h
  have := h4.len
  cases ha : atS S slot with
  | none => exact at_no _ _ _ _ _ _ _ _ _ _ _ h1 (by omega) ha
  | some g =>
    refine (at_yes _ _ _ _ _ _ _ _ _ _ _ g h1 (by omega) ha).mono ?_
    rintro e w' ⟨rfl, hb⟩
    refine ⟨?_, hb⟩
    have : 0 ≤ slot := by
      unfold atS at ha
      split at ha
      · rename_i hc; exact hc.1
      · cases ha
    simp only [atV, Option.map_some]
    rw [Int.toNat_of_nonneg this]

theorem ar_live2 (h : AR B p O S W next cnt most w) (slot gen : Int) :
    Calls Try.prog 12 #[.pointer (some ⟨p, 0, none⟩), .agg #[.int .i64 slot, .int .u32 gen]] w fun e w' => e = .returned (.bool (liveB S slot gen)) ∧ Below w.heap.size w w' := by
  obtain ⟨gs, ao, cw, h1, h2, h3, h4⟩ := h
  have := h4.len
  exact live_calls _ _ _ _ _ _ _ _ _ _ _ _ h1 (by omega)

theorem ar_capacity (h : AR B p O S W next cnt most w) :
    Calls Try.prog 23 #[.pointer (some ⟨p, 0, none⟩)] w fun e w' => e = .returned (.int .i64 S.length) ∧ w = w' := by
  obtain ⟨gs, ao, cw, h1, h2, h3, h4⟩ := h
  exact capacity_calls _ _ _ _ _ _ _ _ _ _ h1
end

section
variable {most cnt : Int} {S : List (Int × Bool)} {W : List Nat} {next : Nat} {T G : List (Nat × Int)}

theorem Sim.no (h : Sim most S W next cnt T G) (hp : pickS S.length W next = none) : waitsP T G most = [] ∧ S.length ≤ freshP T := by
  unfold pickS at hp
  cases hw : W.getLast? with
  | some j => simp [hw] at hp
  | none =>
    have : W = [] := List.getLast?_eq_none_iff.1 hw
    subst this
    simp only [hw] at hp
    split at hp
    · cases hp
    · exact ⟨by rw [h.wt]; rfl, by rw [h.fr]; omega⟩

theorem Sim.can (h : Sim most S W next cnt T G) (hi : Inv S W next cnt most) {i : Nat} {W' : List Nat} {next' : Nat} (hp : pickS S.length W next = some (i, W', next')) (g : Int) (hg : (S.getD i (0, false)).1 = g) : CanTake T G S.length most i g := by
  obtain ⟨p1, p2, p3, p4, _⟩ := hi.pick hp
  have hm := hi.m2
  unfold pickS at hp
  cases hw : W.getLast? with
  | some j =>
    simp only [hw, Option.some.injEq, Prod.mk.injEq] at hp
    obtain ⟨rfl, _, _⟩ := hp
    obtain ⟨ys, rfl⟩ := List.getLast?_eq_some_iff.1 hw
    exact .inl ⟨ys.reverse, by rw [h.wt]; simp, by rw [h.last, hg], by omega, by omega⟩
  | none =>
    have : W = [] := List.getLast?_eq_none_iff.1 hw
    subst this
    simp only [hw] at hp
    split at hp
    · rename_i hlt
      simp only [Option.some.injEq, Prod.mk.injEq] at hp
      obtain ⟨rfl, _, _⟩ := hp
      refine .inr ⟨by rw [h.wt]; rfl, by rw [h.fr]; omega, h.fr.symm, ?_⟩
      rw [← hg, hi.fresh next (Nat.le_refl _)]
    · cases hp

theorem Sim.usable (h : Sim most S W next cnt T G) : ((waitsP T G most).length : Int) + (S.length : Int) - (freshP T : Int) = (W.length : Int) + (S.length : Int) - (next : Int) := by
  rw [h.wt, h.fr, List.length_reverse]
end

/-- What 'At' tells, in parts. -/
theorem atV_parts (o : Option (Nat × Int)) : ∃ (x y : Int) (b : Bool), atV o = .tuple #[.agg #[.int .i64 x, .int .u32 y], .bool b] ∧ (b = true → o = some (x.toNat, y) ∧ 0 ≤ x) := by
  cases o with
  | none => exact ⟨0, 0, false, rfl, by simp⟩
  | some h => exact ⟨h.1, h.2, true, rfl, fun _ => by simp⟩

end Go.Proofs.Ytoifnljlnpkodaa

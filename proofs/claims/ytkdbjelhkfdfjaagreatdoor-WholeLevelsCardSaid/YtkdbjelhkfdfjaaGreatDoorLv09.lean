/-
  Contracts that the law rests on. Conditions: none.
-/
import Derived.Test.YtkdbjelhkfdfjaaGreatDoorLv05
import Derived.Test.YtkdbjelhkfdfjaaGreatDoorLv06
import Derived.ChangeKeysEq
import Derived.Deep.Cut
import Derived.Laws.Entries
import Derived.Laws.ResultCell
import Derived.Laws.Rows
set_option linter.unusedVariables false
set_option maxRecDepth 100000
set_option maxHeartbeats 32000000
namespace Go.Proofs.YtkdbjelhkfdfjaaGreatDoor
open Go.RowKit
structure RowRaw (w : World) (p d : Nat) (ao : Option Addr) (cap mb : Nat) (Lm : List Nat) (c : Nat) (f : Int -> Option Int) : Prop where
  blk : w.heap[p]? = some (.cells #[.int .i64 (d : Int),.slice ao Lm.length cap,.map (some mb)] 260 (0,0))
  row : Rg.IR 0 w (.slice ao Lm.length cap) Lm
  map : IMap Tryz.prog 3 w mb c f
  ne : p ≠ mb
  na : ∀ x, ao = some x -> x.block ≠ p ∧ x.block ≠ mb
def rfp (p mb : Nat) (ao : Option Addr) : List Nat := p :: mb :: ao.toList.map (·.block)
section
variable {w w' : World} {p d cap mb c : Nat} {ao : Option Addr} {Lm S : List Nat} {f : Int -> Option Int}
theorem ir_keep {w w' : World} {S : List Nat} {ao : Option Addr} {n cap : Nat} {L : List Nat} (h : Rg.IR 0 w (.slice ao n cap) L) (k : Keeps S w w') (hs : ∀ x, ao = some x -> x.block ∉ S) : Rg.IR 0 w' (.slice ao n cap) L := by
  refine ⟨h.1,?_⟩
  rcases h.2 with h0 | ⟨g, cap', cur, e, hb, hg, r⟩
  · exact .inl h0
  · cases e
    exact .inr ⟨g, cap, cur,rfl, hb, k.blk hg (hs _ rfl), r⟩
theorem RowRaw.keep (h : RowRaw w p d ao cap mb Lm c f) (k : Keeps S w w') (hS : ∀ b ∈ rfp p mb ao, b ∉ S) : RowRaw w' p d ao cap mb Lm c f :=
  ⟨k.blk h.blk (hS p (by simp [rfp])), ir_keep h.row k (fun x e => hS _ (by simp [rfp, e])), h.map.keep k (hS mb (by simp [rfp])), h.ne, h.na⟩
theorem RowRaw.lt (h : RowRaw w p d ao cap mb Lm c f) : ∀ b ∈ rfp p mb ao, b < w.heap.size := by
  intro b hb
  simp only [rfp, List.mem_cons, List.mem_map, Option.mem_toList] at hb
  rcases hb with rfl | rfl | ⟨x, e,rfl⟩
  · exact lt_of_block h.blk
  · exact h.map.lt
  · rcases h.row.2 with ⟨h0, _⟩ | ⟨g, cap', cur, e', hb, hg, r⟩
    · simp only [Value.slice.injEq] at h0
      rw [h0.1] at e; cases e
    · cases e'; cases e; exact lt_of_block hg
theorem RowRaw.c0 (h : RowRaw w p d ao cap mb Lm c f) : w.cell? ⟨p,0,none⟩ = some (.int .i64 (d : Int)) := by rw [cell_of_blk h.blk]; rfl
theorem RowRaw.c1 (h : RowRaw w p d ao cap mb Lm c f) : w.cell? ⟨p,1,none⟩ = some (.slice ao Lm.length cap) := by rw [cell_of_blk h.blk]; rfl
theorem RowRaw.c2 (h : RowRaw w p d ao cap mb Lm c f) : w.cell? ⟨p,2,none⟩ = some (.map (some mb)) := by rw [cell_of_blk h.blk]; rfl
theorem RowRaw.at (h : RowRaw w p d ao cap mb Lm c f) {i : Nat} (hi : i < Lm.length) : ∃ g, ao = some ⟨g,0,none⟩ ∧ g ≠ p ∧ g ≠ mb ∧ g < w.heap.size ∧ w.cell? ⟨g,i,none⟩ = some (.int .i64 (Rg.fn Lm i : Nat)) ∧ w.frozen? ⟨g,i,none⟩ = false := by
  obtain ⟨g, e, hlt, _, hc⟩ := h.row.at i hi
  subst e
  obtain ⟨n1, n2⟩ := h.na _ rfl
  refine ⟨g,rfl, n1, n2, hlt, hc,?_⟩
  rcases h.row.2 with ⟨h0, _⟩ | ⟨g', cap', cur, e', hb, hg, r⟩
  · cases h0
  · cases e'; exact frozen_of_blk hg
end
section
variable (w : World) (p d : Nat) (ao : Option Addr) (cap mb : Nat) (Lm : List Nat) (c : Nat) (f : Int -> Option Int)
def RowSet (i x : Nat) (e : Ending) (w' : World) : Prop :=
  e = .returned (.tuple #[]) ∧ RowRaw w' p d ao cap mb (Lm.set i x) (if (f (x : Int)).isSome then c else c + 1) (fun z => if z = (x : Int) then some (i : Int) else f z) ∧ Keeps (rfp p mb ao) w w'
theorem rw_set (h : RowRaw w p d ao cap mb Lm c f) (i x : Nat) (hi : i < Lm.length) (hl : Lm.length <= 65536) (hx : x <= 65536) (hc : c < maxLen) :
    Calls Tryz.prog 332 #[.pointer (some ⟨p,0,none⟩),.int .i64 i,.int .i64 x] w (RowSet w p d ao cap mb Lm c f i x) := by
  have c1 := h.c1
  have c2 := h.c2
  obtain ⟨g,rfl, n1, n2, hgl, d0, f0⟩ := h.at hi
  have k1 : Keeps [g] w (w.setCell ⟨g,i,none⟩ (.int .i64 (x : Int))) := (Keeps.refl _ _).setCell (.inl (by simp)) _
  have hm : IMap Tryz.prog 3 (w.setCell ⟨g,i,none⟩ (.int .i64 (x : Int))) mb c f := h.map.keep k1 (by simpa using n2.symm)
  have hpost : ∀ w', IMap Tryz.prog 3 w' mb (if (f (x : Int)).isSome then c else c + 1) (fun z => if z = (x : Int) then some (i : Int) else f z) -> (w.setCell ⟨g,i,none⟩ (.int .i64 (x : Int))).grownBy w' (some mb) ->
      RowRaw w' p d (some ⟨g,0,none⟩) cap mb (Lm.set i x) (if (f (x : Int)).isSome then c else c + 1) (fun z => if z = (x : Int) then some (i : Int) else f z) ∧ Keeps (rfp p mb (some ⟨g,0,none⟩)) w w' := by
    intro w' hm' hg
    have k2 : Keeps [mb] (w.setCell ⟨g,i,none⟩ (.int .i64 (x : Int))) w' := (Keeps.refl _ _).grown hg (by simp)
    have k3 : Keeps [g, mb] w w' := (k1.mono (T := [g, mb]) (by simp)).trans k2 (by simp)
    refine ⟨⟨?_,?_, hm', h.ne, h.na⟩, k3.mono (by simp [rfp])⟩
    · rw [List.length_set]; exact k3.blk h.blk (by simp; exact ⟨fun e => n1 e.symm, h.ne⟩)
    · rw [List.length_set]
      have r1 := Rg.row_set h.row i hi (.int .i64 (x : Int))
      have r2 : Rg.IR 0 (w.setCell ⟨g,i,none⟩ (.int .i64 (x : Int))) (.slice (some ⟨g,0,none⟩) Lm.length cap) (Lm.set i x) := by
        unfold Rg.IR
        rw [List.length_set, Rg.nCells_set]
        exact r1
      exact ir_keep r2 k2 (by rintro y e; cases e; simpa using n2)
  have hi3 : (i : Int) < (Lm.length : Int) := by omega
  have HM := Lib.hid hm
  have HP := Lib.hid hpost
  have HC := Lib.hid hc
  clear h hm hpost k1 hc
  go_enter Tryz.func332, Tryz.ntmps332
  go_wp2_with (first
    | (at_mapUpdate; refine wpList_imap_put rfl _ _ _ rfl mapTy mb _ _ rfl HM.out HC.out (x : Int) (i : Int) rfl rfl (WalkArith.wf_i64 (by omega)) (WalkArith.wf_i64 (by omega)) ?_; intro w4 hm4 hg4))
  go_end0
  obtain ⟨r1, r2⟩ := HP.out _ hm4 hg4
  exact ⟨rfl, r1, r2⟩
theorem rw_at (h : RowRaw w p d ao cap mb Lm c f) (h0 : 0 < Lm.length) :
    Calls Tryz.prog 322 #[.pointer (some ⟨p,0,none⟩),.int .i64 0] w fun e w' => e = .returned (.tuple #[.int .i64 (Rg.fn Lm 0 : Nat),.bool true]) ∧ w = w' := by
  have c1 := h.c1
  obtain ⟨g,rfl, n1, n2, hgl, d0, f0⟩ := h.at h0
  clear h
  generalize Lm.length = n at *
  go_enter Tryz.func322, Tryz.ntmps322
  go_wp2
  go_ret2
  exact ⟨rfl,rfl⟩
theorem rw_at_no (h : RowRaw w p d ao cap mb Lm c f) (h0 : Lm.length = 0) :
    Calls Tryz.prog 322 #[.pointer (some ⟨p,0,none⟩),.int .i64 0] w fun e w' => e = .returned (.tuple #[.int .i64 0,.bool false]) ∧ w = w' := by
  have c1 := h.c1
  rw [h0] at c1
  clear h
  go_enter Tryz.func322, Tryz.ntmps322
  go_wp2
  go_ret2
  exact ⟨rfl,rfl⟩
end
theorem fine_yes (w : World) (d : Nat) (h1 : 2 <= d) (h2 : d <= 16) : Calls Tryz.prog 118 #[.int .i64 d] w fun e w' => e = .returned (.bool true) ∧ w = w' := by
  have b1 : (2 : Int) <= (d : Int) := by omega
  have b2 : decide ((d : Int) <= 16) = true := by rw [decide_eq_true_iff]; omega
  go_enter Tryz.func118, Tryz.ntmps118
  go_wp2
  go_ret
  exact ⟨rfl,rfl⟩
theorem par_int (d i : Nat) (hi : 1 <= i) : ((par d i : Nat) : Int) = ((i : Int) - 1) / (d : Int) := by
  unfold par
  have : ((i - 1 : Nat) : Int) = (i : Int) - 1 := by omega
  rw [Int.natCast_ediv, this]
theorem parent_yes (w : World) (d i : Nat) (h1 : 2 <= d) (h2 : d <= 16) (hi : 1 <= i) (hl : i <= 65536) : Calls Tryz.prog 331 #[.int .i64 d,.int .i64 i] w fun e w' => e = .returned (.tuple #[.int .i64 (par d i : Nat),.bool true]) ∧ w = w' := by
  have hp := Lib.hid (par_int d i hi)
  have b1 : (1 : Int) <= (i : Int) := by omega
  have b2 : decide ((i : Int) < 1) = false := by rw [decide_eq_false_iff_not]; omega
  have b3 : ¬ (d : Int) = 0 := by omega
  have b4 : (0 : Int) <= (i : Int) - 1 := by omega
  have b5 : (0 : Int) < (d : Int) := by omega
  go_enter Tryz.func331, Tryz.ntmps331
  go_wp2_with (go_at_call 118; refine (fine_yes _ d h1 h2).mono ?_; rintro e w' ⟨rfl,rfl⟩)
  go_ret2
  exact ⟨by rw [hp.out]; rfl,rfl⟩
theorem parent_no (w : World) (d : Nat) (h1 : 2 <= d) (h2 : d <= 16) : Calls Tryz.prog 331 #[.int .i64 d,.int .i64 0] w fun e w' => e = .returned (.tuple #[.int .i64 0,.bool false]) ∧ w = w' := by
  go_enter Tryz.func331, Tryz.ntmps331
  go_wp2_with (go_at_call 118; refine (fine_yes _ d h1 h2).mono ?_; rintro e w' ⟨rfl,rfl⟩)
  go_ret2
  exact ⟨rfl,rfl⟩
theorem child_calls (w : World) (d i k : Nat) (h1 : 2 <= d) (h2 : d <= 16) (hi : i <= 65536) (hk : 1 <= k) (hk2 : k <= d) : Calls Tryz.prog 337 #[.int .i64 d,.int .i64 i,.int .i64 k] w fun e w' => e = .returned (.tuple #[.int .i64 (d * i + k : Nat),.bool true]) ∧ w = w' := by
  have hmul : d * i <= 1048576 := by
    have : d * i <= 16 * 65536 := Nat.mul_le_mul h2 hi
    omega
  have e1 : ((d * i + k : Nat) : Int) = (d : Int) * (i : Int) + (k : Int) := by push_cast; rfl
  have e0 : ((d * i : Nat) : Int) = (d : Int) * (i : Int) := by push_cast; rfl
  have e2 : (0 : Int) <= (d : Int) * (i : Int) := by omega
  have e3 : (d : Int) * (i : Int) <= 1048576 := by omega
  have b2 : decide ((i : Int) < 0) = false := by rw [decide_eq_false_iff_not]; omega
  have b3 : decide (1099511627776 < (i : Int)) = false := by rw [decide_eq_false_iff_not]; omega
  have b4 : decide ((k : Int) < 1) = false := by rw [decide_eq_false_iff_not]; omega
  have b5 : decide ((d : Int) < (k : Int)) = false := by rw [decide_eq_false_iff_not]; omega
  have b6 : decide (d < k) = false := by rw [decide_eq_false_iff_not]; omega
  have E1 := Lib.hid e1
  clear e1 hmul e0
  go_enter Tryz.func337, Tryz.ntmps337
  go_wp2_with (go_at_call 118; refine (fine_yes _ d h1 h2).mono ?_; rintro e w' ⟨rfl,rfl⟩)
  go_ret2
  exact ⟨by rw [E1.out]; rfl,rfl⟩
section
variable {P : Program}
theorem em_info {t : TypeId} {i : TypeInfo} (h : P.info? t = some i) (w : World) : (typeInfo t).run P w = .ok i w := by
  unfold typeInfo
  simp [Sem.run_bind, h, Result.andThen]
theorem run_method_embed (w : World) (fuel : Nat) (T S e : TypeId) (ti tf : TypeInfo) (name : String) (m : Method) (f : Field) (fields : Array Field) (p : Nat) (k : FuncId) (v : Value)
    (h1 : P.info? T = some ti) (h2 : ti.methods.find? (·.name == name) = some m) (h3 : m.path = #[⟨S, 0, true⟩]) (h4 : m.func = some (k, true)) (h5 : P.underlying S = some (.struct fields)) (h6 : fields[0]? = some f) (h7 : f.offset = 0)
    (h8 : P.underlying f.type = some (.pointer e)) (h9 : P.info? f.type = some tf) (h10 : tf.size = 1) (hc : w.cell? ⟨p,0,none⟩ = some v) : (method (fuel + 1) T (.pointer (some ⟨p,0,none⟩)) name).run P w = .ok (k, v) w := by
  have e1 := em_info h1 w
  have e2 := run_underlying h5 w
  have e3 := run_underlying h8 w
  have e4 := em_info h9 w
  unfold method
  simp [Sem.run_bind, e1, h2, h3, h4, follow, e2, h6, Place.get, asAddr, fieldPlace, sizeOf, e4, h7, h10, receiverAt, e3, loadVar, isAgg, Addr.add, hc, Result.andThen]
theorem run_method_embedded (w : World) (fuel : Nat) (T S e t : TypeId) (name : String) (p : Nat) (k : FuncId) (v : Value)
    (h1 : (P.info? T).bind (fun i => (i.methods.find? (·.name == name)).map fun m => (m.path, m.func)) = some (#[⟨S, 0, true⟩], some (k, true)))
    (h5 : (P.underlying S).bind (fun d => match d with | .struct fields => (fields[0]?).map (fun f => (f.type, f.offset)) | _ => none) = some (t, 0))
    (h8 : P.underlying t = some (.pointer e)) (h9 : (P.info? t).map (·.size) = some 1) (hc : w.cell? ⟨p,0,none⟩ = some v) : (method (fuel + 1) T (.pointer (some ⟨p,0,none⟩)) name).run P w = .ok (k, v) w := by
  obtain ⟨ti, a1, a2⟩ := Option.bind_eq_some_iff.1 h1
  obtain ⟨m, b1, b2⟩ := Option.map_eq_some_iff.1 a2
  obtain ⟨d, c1, c2⟩ := Option.bind_eq_some_iff.1 h5
  obtain ⟨tf, d1, d2⟩ := Option.map_eq_some_iff.1 h9
  cases d with
  | struct fields =>
    obtain ⟨f, f1, f2⟩ := Option.map_eq_some_iff.1 c2
    simp only [Prod.mk.injEq] at b2 f2
    obtain ⟨rfl, f3⟩ := f2
    exact run_method_embed w fuel T S e ti tf name m f fields p k v a1 b1 b2.1 b2.2 c1 f1 f3 h8 d1 d2 hc
  | _ => simp at c2
end
end Go.Proofs.YtkdbjelhkfdfjaaGreatDoor
namespace Go.Proofs.YtkdbjelhkfdfjaaGreatDoor
def Par (E : Ent) (U : Nat -> Option Nat) : Prop := ∀ x p, U x = some p -> hp E p = hp E x ∧ ahead E p x = true
section
variable {E : Ent} {U : Nat -> Option Nat} {p x : Nat}
theorem Par.off (h : Par E U) (e : E x = none) : U x = none := by
  cases c : U x with
  | none => rfl
  | some p => have := (ahead_some (h x p c).2).2; rw [e] at this; cases this
theorem Par.offKid (h : Par E U) (e : E p = none) : ∀ x, U x ≠ some p := by
  intro x c
  have := (ahead_some (h x p c).2).1; rw [e] at this; cases this
theorem Par.attach (h : Par E U) (hh : hp E p = hp E x) (ha : ahead E p x = true) : Par E (upd U x (some p)) := by
  intro y q hq
  by_cases c : y = x
  · subst c; rw [upd_same] at hq; cases hq; exact ⟨hh, ha⟩
  · rw [upd_other U _ c] at hq; exact h y q hq
theorem Par.scatter (h : Par E U) (S : Nat -> Prop) [DecidablePred S] : Par E (fun y => if S y then none else U y) := by
  intro y q hq
  simp only at hq
  split at hq
  · cases hq
  · exact h y q hq
theorem Par.drop (h : Par E U) (hu : U x = none) (hk : ∀ y, U y ≠ some x) : Par (put E x none) U := by
  intro y q hq
  have a : q ≠ x := fun c => hk y (by rw [<- c]; exact hq)
  have b : y ≠ x := by rintro rfl; rw [hu] at hq; cases hq
  rw [hp_put_other a, hp_put_other b, ahead_put_other a b]; exact h y q hq
theorem Par.come (h : Par E U) (he : E x = none) (o : Nat × Int × Nat) : Par (put E x (some o)) U := by
  intro y q hq
  obtain ⟨a, b⟩ := ahead_some (h y q hq).2
  have c : q ≠ x := by rintro rfl; rw [he] at a; cases a
  have d : y ≠ x := by rintro rfl; rw [he] at b; cases b
  rw [hp_put_other c, hp_put_other d, ahead_put_other c d]; exact h y q hq
theorem Par.least {t g n : Nat} (h : Par E U) (hn : ∀ x,(E x).isSome -> x < n) (ht : isIn E g t) (h1 : ∀ x, isIn E g x -> U x = none -> x ≠ t -> ahead E t x = true) : least E g t := by
  refine least_of_parents (n := n) (fun x hx => hn x hx.some) ht ?_
  intro x hx hne
  cases c : U x with
  | none => exact ⟨t, ht, h1 x hx c hne⟩
  | some p =>
    have := h x p c
    refine ⟨p,?_, this.2⟩
    rw [<- hp_some, this.1, hp_some]; exact hx
end
end Go.Proofs.YtkdbjelhkfdfjaaGreatDoor
namespace Go.Proofs.YtkdbjelhkfdfjaaGreatDoor
open Go.RowKit
section
variable {P : Program}
theorem results_cell2 {fn : Func} {p u : Tmp} {ty : TypeId} (h : fn.results = #[.cell p ty,.tmp u]) (tmps : Array Value) (w : World) (g : Nat) (t : TypeId) (cs : Array Value) (fr : Nat × Nat) (d : TypeDesc)
    (hp : tmps.getD p undef = .pointer (some ⟨g,0,none⟩)) (hg : w.heap[g]? = some (.cells cs t fr))
    (hu : P.underlying ty = some d) (hd : (match d with | .struct _ | .array _ _ => true | _ => false) = true) (hi : (P.info? ty).map (·.size) = some cs.size) :
    (results fn tmps).run P w = .ok (.tuple #[.agg cs, tmps.getD u undef]) w := by
  have hp' : tmps[p]?.getD undef = .pointer (some ⟨g,0,none⟩) := by simpa using hp
  simp [results, h, hp', asAddr, Result.andThen, run_loadVar_row w g t ty cs fr d hg hu hd hi]
theorem results_cell3 {fn : Func} {p u v : Tmp} {ty : TypeId} (h : fn.results = #[.cell p ty,.tmp u,.tmp v]) (tmps : Array Value) (w : World) (g : Nat) (t : TypeId) (cs : Array Value) (fr : Nat × Nat) (d : TypeDesc)
    (hp : tmps.getD p undef = .pointer (some ⟨g,0,none⟩)) (hg : w.heap[g]? = some (.cells cs t fr))
    (hu : P.underlying ty = some d) (hd : (match d with | .struct _ | .array _ _ => true | _ => false) = true) (hi : (P.info? ty).map (·.size) = some cs.size) :
    (results fn tmps).run P w = .ok (.tuple #[.agg cs, tmps.getD u undef, tmps.getD v undef]) w := by
  have hp' : tmps[p]?.getD undef = .pointer (some ⟨g,0,none⟩) := by simpa using hp
  simp [results, h, hp', asAddr, Result.andThen, run_loadVar_row w g t ty cs fr d hg hu hd hi]
end
end Go.Proofs.YtkdbjelhkfdfjaaGreatDoor


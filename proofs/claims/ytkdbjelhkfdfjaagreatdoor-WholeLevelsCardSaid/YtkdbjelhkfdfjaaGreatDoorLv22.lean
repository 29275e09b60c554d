/-
  Contracts that the law rests on. Conditions: none.
-/
import Derived.Test.YtkdbjelhkfdfjaaGreatDoorLv16
import Derived.Test.YtkdbjelhkfdfjaaGreatDoorLv21
import Derived.Below
import Derived.ChangeOld
import Derived.ChangeSame
import Derived.Deep.Slices
import Derived.Deep.Strs
import Derived.OpenShut
import Derived.ProofKit
import Derived.ShutString
set_option linter.unusedVariables false
set_option maxRecDepth 100000
set_option maxHeartbeats 32000000
namespace Go.Proofs.YtkdbjelhkfdfjaaGreatDoor
open Go.RowKit
theorem RowRaw.like {w w' : World} {p d cap mb c : Nat} {ao : Option Addr} {Lm : List Nat} {f : Int -> Option Int} (h : RowRaw w p d ao cap mb Lm c f) (e : w'.heap = w.heap) : RowRaw w' p d ao cap mb Lm c f :=
  ⟨by rw [e]; exact h.blk, by
    refine ⟨h.row.1,?_⟩
    rw [e]; exact h.row.2, h.map.blk (by rw [e]), h.ne, h.na⟩
theorem RowRaw.pop {w : World} {p d cap mb c m : Nat} {ao : Option Addr} {Lm : List Nat} {f : Int -> Option Int} (h : RowRaw w p d ao cap mb Lm c f) (hl : Lm.length = m + 1) :
    RowRaw (w.setCell ⟨p,1,none⟩ (.slice ao m cap)) p d ao cap mb (Lm.take m) c f := by
  have hk : Keeps [p] w (w.setCell ⟨p,1,none⟩ (.slice ao m cap)) := (Keeps.refl _ _).setCell (.inl (by simp)) _
  have hlt : (Lm.take m).length = m := by simp; omega
  refine ⟨?_,?_, h.map.keep hk (by simpa using h.ne.symm), h.ne, h.na⟩
  · rw [hlt, blk_setCell _ h.blk]; simp
  · have hr := ir_keep h.row hk (fun x hx => by simpa using (h.na x hx).1)
    rcases hr.2 with ⟨h0, h1⟩ | ⟨g', cap', cur, hv, hb, hh, r1, r2, r3, r4⟩
    · omega
    · cases hv
      refine ⟨by simp [Rg.nCells],.inr ⟨g', cap, cur,by rw [hlt], hb, hh,by omega, r2, r3,?_⟩⟩
      rw [Nat.mul_one] at r4 ⊢
      have e : cur.toList.take (Lm.take m).length = (cur.toList.take Lm.length).take m := by rw [List.take_take, hlt, Nat.min_eq_left (by omega)]
      rw [e, r4]; simp [Rg.nCells, List.map_take]
theorem RowRaw.push {w w4 : World} {p d cap mb c g' cap' x : Nat} {ao : Option Addr} {Lm : List Nat} {f : Int -> Option Int} (h : RowRaw w p d ao cap mb Lm c f)
    (hr : w4.ownsRow 0 3 1 (.slice (some ⟨g',0,none⟩) (Lm.length + 1) cap') (Lm.length + 1) (Rg.nCells Lm ++ [.int .i64 (x : Int)]))
    (hk : Keeps (Value.slice ao Lm.length cap).ownBlock.toList w w4) (hf : (Value.slice ao Lm.length cap).ownBlock = some g' ∨ w.heap.size <= g') :
    RowRaw (w4.setCell ⟨p,1,none⟩ (.slice (some ⟨g',0,none⟩) (Lm.length + 1) cap')) p d (some ⟨g',0,none⟩) cap' mb (Lm ++ [x]) c f ∧
      Keeps (rfp p mb ao) w (w4.setCell ⟨p,1,none⟩ (.slice (some ⟨g',0,none⟩) (Lm.length + 1) cap')) ∧ (∀ b ∈ rfp p mb (some ⟨g',0,none⟩), b ∈ rfp p mb ao ∨ w.heap.size <= b) := by
  have hown : ∀ b ∈ (Value.slice ao Lm.length cap).ownBlock.toList, ∃ x, ao = some x ∧ x.block = b := by
    intro b hb
    cases ao with
    | none => simp [Value.ownBlock] at hb
    | some a =>
      obtain ⟨b', o', i'⟩ := a
      refine ⟨_,rfl,?_⟩
      simp [Value.ownBlock] at hb
      exact hb.symm
  have hpl := h.lt p (by simp [rfp])
  have hml := h.lt mb (by simp [rfp])
  have hp4 : p ∉ (Value.slice ao Lm.length cap).ownBlock.toList := fun e => by obtain ⟨x, e1, e2⟩ := hown p e; exact (h.na x e1).1 e2
  have hm4 : mb ∉ (Value.slice ao Lm.length cap).ownBlock.toList := fun e => by obtain ⟨x, e1, e2⟩ := hown mb e; exact (h.na x e1).2 e2
  have hgp : g' ≠ p ∧ g' ≠ mb := by
    rcases hf with e | e
    · obtain ⟨x, e1, e2⟩ := hown g' (by simp [e])
      rw [<- e2]; exact h.na x e1
    · omega
  have k2 : Keeps [p] w4 (w4.setCell ⟨p,1,none⟩ (.slice (some ⟨g',0,none⟩) (Lm.length + 1) cap')) := (Keeps.refl _ _).setCell (.inl (by simp)) _
  refine ⟨⟨?_,?_,(h.map.keep hk hm4).keep k2 (by simpa using h.ne.symm), h.ne,fun x e => by cases e; exact hgp⟩,?_,?_⟩
  · rw [blk_setCell _ (hk.blk h.blk hp4)]; simp
  · have := Rg.IR.pushed (B := 0) (L := Lm) (x := x) hr (Nat.zero_le _)
    have h2 := ir_keep this k2 (fun x e => by cases e; simpa using hgp.1)
    simpa using h2
  · refine (hk.mono (T := rfp p mb ao) fun b hb => .inl ?_).trans k2 (by simp [rfp])
    obtain ⟨x, e1, e2⟩ := hown b hb
    simp [rfp, e1, e2]
  · intro b hb
    simp only [rfp, Option.toList_some, List.map_cons, List.map_nil, List.mem_cons, List.not_mem_nil, or_false] at hb
    rcases hb with rfl | rfl | rfl
    · exact .inl (by simp [rfp])
    · exact .inl (by simp [rfp])
    · rcases hf with e | e
      · obtain ⟨x, e1, e2⟩ := hown b (by simp [e])
        exact .inl (by simp [rfp, e1, e2])
      · exact .inr e
section
variable (w : World) (pn pc : Nat) (Fc : List Nat) (cap hs : Nat) (E : Ent) (p d : Nat) (ao : Option Addr) (ca mb n : Nat)
def AddDone (v : Nat -> Nat) (x : Nat) (e : Ending) (w' : World) : Prop :=
  ∃ (ao' : Option Addr) (ca' : Nat) (v' : Nat -> Nat), e = .returned (.bool true) ∧ RowFull w' p d ao' ca' mb (n + 1) v' ∧ OrdAt w' pn pc Fc cap hs E ∧ Inj v' (n + 1) ∧ (∀ z,(∃ j, j < n + 1 ∧ v' j = z) ↔ z = x ∨ ∃ j, j < n ∧ v j = z) ∧ Heap' d (ahead E) v' (n + 1) ∧
    Keeps (rfp p mb ao ++ Fc) w w' ∧ (∀ b ∈ rfp p mb ao', b ∈ rfp p mb ao ∨ w.heap.size <= b)
theorem row_add (v : Nat -> Nat) (x : Nat) (hr : RowFull w p d ao ca mb n v) (ho : OrdAt w pn pc Fc cap hs E) (hv : Inj v n) (hE : ∀ j, j < n -> (E (v j)).isSome) (hEx : (E x).isSome) (hx : ∀ j, j < n -> v j ≠ x) (hn : n + 1 <= 65536) (hd1 : 2 <= d) (hd2 : d <= 16)
    (hh : Heap' d (ahead E) v n) (hap : ∀ b ∈ rfp p mb ao, b ∉ pn :: Fc) :
    Calls Tryz.prog 317 #[.pointer (some ⟨p,0,none⟩),.iface 148 (.pointer (some ⟨pn,0,none⟩)),.int .i64 x] w (AddDone w pn pc Fc cap hs E p d ao mb n v x) := by
  have hbc := ho.ce.ok.bc
  have hxc := ho.ce.ok.lt x hEx
  obtain ⟨Lm, r, hl, hlv⟩ := hr
  have hlt := r.lt
  have c1 := r.c1
  have c2 := r.c2
  have hrow : w.ownsRow 0 3 1 (.slice ao n ca) n (Rg.nCells Lm) := by
    have := r.row
    unfold Rg.IR at this
    rwa [hl] at this
  have f1 : w.frozen? ⟨p,1,none⟩ = false := frozen_of_blk r.blk
  have HM := Lib.hid r.map
  have HNO := Lib.hid (posF_no hx)
  obtain ⟨ha1, ha2⟩ := hole_add hv hx
  have hmid : ∀ (w4 : World) (g' cap' : Nat), w4.ownsRow 0 3 1 (.slice (some ⟨g',0,none⟩) (n + 1) cap') (n + 1) (Rg.nCells Lm ++ [.int .i64 (x : Int)]) -> Keeps (Value.slice ao n ca).ownBlock.toList w w4 -> ((Value.slice ao n ca).ownBlock = some g' ∨ w.heap.size <= g') ->
      w4.frozen? ⟨p,1,none⟩ = false ∧ (∃ u, w4.cell? ⟨p,1,none⟩ = some u) ∧ RowHole (w4.setCell ⟨p,1,none⟩ (.slice (some ⟨g',0,none⟩) (n + 1) cap')) p d (some ⟨g',0,none⟩) cap' mb (n + 1) (fun k => if k = n then x else v k) n none ∧
      OrdAt (w4.setCell ⟨p,1,none⟩ (.slice (some ⟨g',0,none⟩) (n + 1) cap')) pn pc Fc cap hs E ∧ Keeps (rfp p mb ao) w (w4.setCell ⟨p,1,none⟩ (.slice (some ⟨g',0,none⟩) (n + 1) cap')) ∧ (∀ b ∈ rfp p mb (some ⟨g',0,none⟩), b ∈ rfp p mb ao ∨ w.heap.size <= b) := by
    intro w4 g' cap' h1 h2 h3
    obtain ⟨q1, q2, q3⟩ := RowRaw.push (g' := g') (cap' := cap') (x := x) (w4 := w4) r (by rw [hl]; exact h1) (by rw [hl]; exact h2) (by rw [hl]; exact h3)
    rw [hl] at q1 q2
    have hp4 : p ∉ (Value.slice ao n ca).ownBlock.toList := by
      intro e
      cases ao with
      | none => simp [Value.ownBlock] at e
      | some a =>
        obtain ⟨b', o', i'⟩ := a
        have := (r.na _ rfl).1
        simp [Value.ownBlock] at e
        exact this e.symm
    have b4 := h2.blk r.blk hp4
    refine ⟨frozen_of_blk b4,⟨_,by rw [cell_of_blk b4]; rfl⟩,⟨Lm ++ [x], n,?_,by simp [hl],?_,by simp⟩, ho.keep q2 (fun b hb e => hap b e hb), q2, q3⟩
    · rw [<- ha1]; exact q1
    · intro j hj hjn
      have hjl : j < n := by omega
      simp only [if_neg hjn]
      rw [<- hlv j hjl]
      simp [Rg.fn, List.getD, List.getElem?_append_left (show j < Lm.length by omega)]
  have hE' : ∀ j, j < n + 1 -> (E ((fun k => if k = n then x else v k) j)).isSome := by
    intro j hj
    by_cases e : j = n
    · simp only [if_pos e]; exact hEx
    · simp only [if_neg e]; exact hE j (by omega)
  have hat := hh.at_end hd1 x
  have hap2 : ∀ g',(∀ b ∈ rfp p mb (some ⟨g',0,none⟩), b ∈ rfp p mb ao ∨ w.heap.size <= b) -> ∀ b ∈ rfp p mb (some ⟨g',0,none⟩), b ∉ pn :: Fc := by
    intro g' h b hb
    rcases h b hb with c | c
    · exact hap b c
    · intro e
      simp only [List.mem_cons] at e
      rcases e with rfl | e
      · have := ho.lt; omega
      · have := ho.ce.lt b e; omega
  have HMID := Lib.hid hmid
  have HAT := Lib.hid hat
  have HE' := Lib.hid hE'
  have HAP2 := Lib.hid hap2
  have HL := Lib.hid hl
  have HLT := Lib.hid hlt
  rw [hl] at c1
  clear hmid hat hE' hap2 r hlv hl hlt hx hh hv hE hap ha1 ho
  go_enter Tryz.func317, Tryz.ntmps317
  go_upto_region 4 with (first
    | (at_lookup; refine wpList_imap_look_ok rfl _ _ rfl mapTy mb _ _ rfl HM.out (x : Int) rfl (WalkArith.wf_i64 (by omega)) ?_; rw [HNO.out]))
  go_upto_region 5 with (first
    | (at_builtin; refine wpList_push _ 3 (.int .i64 (x : Int)) (0,0) rfl (.tmp 23) (.tmp 25) 28 rfl (.int .i64 0) 8 Tryz.underlying28 Rg.Tryz.infoInt rfl rfl _ n (Rg.nCells Lm) (by simp [Act.eval]) hrow (by simp [Act.eval]) (by unfold maxLen; omega) (by omega) ?_; intro g' cap' w4 hr4 hk4 hf4; obtain ⟨f4,⟨u4, c4⟩, hh4, ho4, kp4, fp4⟩ := HMID.out w4 g' cap' hr4 hk4 hf4; clear hr4 hk4 hf4))
  generalize w4.setCell ⟨p,1,none⟩ (.slice (some ⟨g',0,none⟩) (n + 1) cap') = w5 at *
  have d1 := hh4.c1
  have hup := row_up w5 pn pc Fc cap hs E p d (some ⟨g',0,none⟩) cap' mb (n + 1) _ n none hh4 ho4 ha2 HE'.out (by omega) (by omega) hd1 hd2 HAT.out (HAP2.out g' fp4)
  simp only [if_true] at hup
  clear c4 f4 c1 c2 f1
  go_wp2_with (go_at_call 324; refine hup.mono ?_; rintro e w6 ⟨i', v',rfl, hi', hf6, ho6, hv6, hs6, hk6, hres⟩)
  go_ret
  have hd6 : Ord (ahead E) v' (n + 1) := ordOf hv6 (fun j hj => by obtain ⟨k, hk, e⟩ := (hs6 (v' j)).1 ⟨j, hj,rfl⟩; rw [<- e]; exact HE'.out k hk)
  refine ⟨some ⟨g',0,none⟩, cap', v',rfl, hf6, ho6, hv6,?_,?_,?_, fp4⟩
  · intro z
    rw [hs6 z]
    constructor
    · rintro ⟨j, hj, e⟩
      simp only at e
      by_cases c : j = n
      · rw [if_pos c] at e; exact .inl e.symm
      · rw [if_neg c] at e; exact .inr ⟨j,by omega, e⟩
    · rintro (rfl | ⟨j, hj, e⟩)
      · exact ⟨n,by omega,by simp⟩
      · exact ⟨j,by omega,by simp only [if_neg (show j ≠ n by omega)]; exact e⟩
  · rcases hres with ⟨rfl,rfl, hst⟩ | ⟨_, hh⟩
    · refine (HAT.out.down hd1 hd6 (by omega) ?_).last hd1 (by omega)
      simpa using hst
    · exact hh
  · refine kp4.mono (fun b hb => .inl (by simp [hb])) |>.trans hk6 (fun b hb => ?_)
    simp only [List.mem_append] at hb ⊢
    rcases hb with hb | hb
    · rcases fp4 b hb with c | c
      · exact .inl (.inl c)
      · exact .inr c
    · exact .inl (.inr hb)
end
section
variable {P : Program}
theorem run_push (w : World) (B y : Nat) (t ty : TypeId) (ht : P.underlying t = some (.slice 3)) (hi : (P.info? 3).map (fun i => (i.zero, i.size, i.bytes)) = some (some (.int .i64 0), 1,8)) (hB : B <= w.heap.size)
    (v : Value) (L : List Nat) (h : Rg.IR B w v L) (hl : L.length + 1 <= 65536) :
    ∃ v' w',(Builtin.append_ #[t, t] ty #[v,.slice (some ⟨w.heap.size,0,none⟩) 1 1]).run P (w.alloc (.cells #[.int .i64 (y : Int)] 3 (0,0))) = .ok v' w' ∧ Rg.IR B w' v' (L ++ [y]) ∧ Keeps v.ownBlock.toList w w' ∧ (v'.ownBlock = v.ownBlock ∨ ∃ b, v'.ownBlock = some b ∧ w.heap.size <= b) := by
  obtain ⟨i, hi, hz, hsize, hby⟩ := info_parts hi
  have k1 : Keeps [] w (w.alloc (.cells #[.int .i64 (y : Int)] 3 (0,0))) := (Keeps.refl _ _).alloc _
  have hcell : ∀ j u,([.int .i64 (y : Int)] : List Value)[j]? = some u -> (w.alloc (.cells #[.int .i64 (y : Int)] 3 (0,0))).cell? ((⟨w.heap.size,0,none⟩ : Addr).add j) = some u := by
    intro j u hj
    match j, hj with
    | 0, hj =>
      simp at hj; subst hj
      have : (w.alloc (.cells #[.int .i64 (y : Int)] 3 (0,0))).heap[w.heap.size]? = some (.cells #[.int .i64 (y : Int)] 3 (0,0)) := blk_alloc_new _
      show (w.alloc _).cell? ⟨w.heap.size,0,none⟩ = _
      rw [cell_of_blk this]; rfl
  have hws : w.heap.size <= (w.alloc (.cells #[.int .i64 (y : Int)] 3 (0,0))).heap.size := k1.size
  obtain ⟨v', w', hr, r1, r2, _, r4⟩ := run_append_own_at (P := P) (w.alloc (.cells #[.int .i64 (y : Int)] 3 (0,0))) B t ty 3 i (.int .i64 0) 1 8 ht hi hz hsize hby rfl (by decide) v L.length (Rg.nCells L) (h.alloc _) ⟨w.heap.size,0,none⟩ 1 1 [.int .i64 (y : Int)] rfl hcell (by intro u hu; simp at hu; subst hu; rfl) (by unfold maxLen; omega) (by omega) (Nat.le_trans hB hws)
  refine ⟨v', w', hr,by unfold Rg.IR; rw [List.length_append, Rg.nCells_append]; exact r1,(k1.mono (T := v.ownBlock.toList) (by simp)).trans ((Keeps.refl v.ownBlock.toList (w.alloc (.cells #[.int .i64 (y : Int)] 3 (0,0)))).grown r2 (fun k e => .inl (by simp [e]))) (fun _ hb => .inl hb),?_⟩
  rcases r4 with q | q
  · exact .inl q
  · exact .inr ⟨_, q, hws⟩
theorem wpList_push1 {ops : Array Oper} {rest : List Oper} {o : Oper} {a : Act} {Q : Exit -> Act -> World -> Prop} (hgd : o.guard = none) (s x : Operand) (t : TypeId)
    (ho : o.op = .call { callee := .builtin .append, args := #[s, x], argTypes := #[t, t] })
    (ht : P.underlying t = some (.slice 3)) (hi : (P.info? 3).map (fun i => (i.zero, i.size, i.bytes)) = some (some (.int .i64 0), 1,8))
    (w : World) (B y : Nat) (hB : B <= w.heap.size)
    (v : Value) (L : List Nat) (hs : a.eval s = v) (hwin : Rg.IR B w v L) (hx : a.eval x = .slice (some ⟨w.heap.size,0,none⟩) 1 1) (hl : L.length + 1 <= 65536)
    (h : ∀ v' w', Rg.IR B w' v' (L ++ [y]) -> Keeps v.ownBlock.toList w w' -> (v'.ownBlock = v.ownBlock ∨ ∃ b, v'.ownBlock = some b ∧ w.heap.size <= b) -> wpList P ops Q rest (a.put o.dst v') w') : wpList P ops Q (o :: rest) a (w.alloc (.cells #[.int .i64 (y : Int)] 3 (0,0))) := by
  refine wpList_plain hgd fun K hK => ?_
  obtain ⟨v', w', hr, h2, h3, h4⟩ := run_push (P := P) w B y t o.type ht hi hB v L hwin hl
  have hfin := hK _ _ (h v' w' h2 h3 h4)
  unfold Oper.wp execOp
  simp only [ho, resolve, invoke, builtin, Sem.run_bind, Sem.run_pure, Result.andThen_ok, List.map_toArray, List.map_cons, List.map_nil, hs, hx, hr]
  exact hfin
end
end Go.Proofs.YtkdbjelhkfdfjaaGreatDoor
namespace Go.Proofs.YtkdbjelhkfdfjaaGreatDoor
structure BinO (E : Ent) (K : Nat -> List Nat) (U : Nat -> Option Nat) (rw : Nat -> List Nat) : Prop where
  cubes : Cubes K U
  par : Par E U
  row : ∀ h, CRow K U (rw h)
  mem : ∀ h x, x ∈ rw h ↔ isIn E h x ∧ U x = none
structure BinH (E : Ent) (K : Nat -> List Nat) (U : Nat -> Option Nat) (rw : Nat -> List Nat) (h : Nat) (a b : List Nat) : Prop where
  cubes : Cubes K U
  par : Par E U
  row : ∀ g, g ≠ h -> CRow K U (rw g) ∧ ∀ x, x ∈ rw g ↔ isIn E g x ∧ U x = none
  ra : CRow K U a
  rb : CRow K U b
  dis : ∀ x ∈ a, x ∉ b
  mem : ∀ x,(x ∈ a ∨ x ∈ b) ↔ isIn E h x ∧ U x = none
theorem CRow.other {K K' : Nat -> List Nat} {U U' : Nat -> Option Nat} {l : List Nat} (h : CRow K U l) (e : ∀ x ∈ l, K' x = K x ∧ U' x = none) : CRow K' U' l := by
  refine ⟨fun x hx => (e x hx).2, List.Pairwise.imp_of_mem ?_ h.2⟩
  intro x y hx hy q
  rw [(e x hx).1,(e y hy).1]; exact q
section
variable {E : Ent} {K K' : Nat -> List Nat} {U U' : Nat -> Option Nat} {rw' : Nat -> List Nat} {a b out : List Nat} {h x n : Nat}
theorem BinO.init : BinO (fun _ => none) (fun _ => []) (fun _ => none) (fun _ => []) := by
  refine ⟨Cubes.init,?_,fun _ => CRow.nil,?_⟩
  · intro x p e; cases e
  · intro h x
    simp [isIn]
theorem BinO.first (z : BinO E K U rw') (hn : ∀ y,(E y).isSome -> y < n) (hx : x ∈ rw' h) (hl : ∀ y ∈ rw' h, y ≠ x -> ahead E x y = true) : least E h x :=
  z.par.least hn ((z.mem h x).1 hx).1 fun y hy hu hne => hl y ((z.mem h y).2 ⟨hy, hu⟩) hne
theorem BinO.none_of (z : BinO E K U rw') (hn : ∀ y,(E y).isSome -> y < n) (e : rw' h = []) : ∀ x, ¬ isIn E h x := by
  intro x hx
  obtain ⟨t, h1, h2⟩ := z.par.top_of hn hx
  have := (z.mem h t).2 ⟨h2, h1⟩
  rw [e] at this; cases this
theorem BinO.insert (z : BinO E K U rw') (he : E x = none) (k : Int × Nat) : BinH (put E x (some (h, k))) K U rw' h (rw' h) [x] := by
  have hu := z.par.off he
  have hx : ∀ g, x ∉ rw' g := fun g e => by
    have := ((z.mem g x).1 e).1.some
    rw [he] at this; cases this
  refine ⟨z.cubes, z.par.come he _,fun g hg => ⟨z.row g,fun y => ?_⟩, z.row h, CRow.one hu,?_,fun y => ?_⟩
  · by_cases c : y = x
    · subst c
      constructor
      · intro e; exact absurd e (hx g)
      · rintro ⟨⟨q, e⟩, _⟩
        rw [put_same] at e; cases e; exact absurd rfl hg
    · rw [isIn_put_other c]; exact z.mem g y
  · intro y hy e
    simp only [List.mem_singleton] at e; subst e
    exact hx h hy
  · simp only [List.mem_singleton]
    by_cases c : y = x
    · subst c
      constructor
      · intro _; exact ⟨⟨k, put_same _ _ _⟩, hu⟩
      · intro _; exact .inr rfl
    · rw [isIn_put_other c]; simp only [c, or_false]; exact z.mem h y
theorem BinO.cut (z : BinO E K U rw') (hx : x ∈ rw' h) : BinH (put E x none) (upd K x []) (updM U (K x) none) rw' h ((rw' h).filter fun y => !decide (x = y)) (K x) := by
  obtain ⟨hin, hu⟩ := (z.mem h x).1 hx
  have hxk : x ∉ K x := fun e => by have := z.cubes.lt e; omega
  have hk : ∀ y, y ∈ K x -> isIn E h y ∧ y ≠ x := fun y hy => by
    have := z.par y x ((z.cubes.mem x y).1 hy)
    refine ⟨?_,by rintro rfl; exact hxk hy⟩
    rw [<- hp_some, <- this.1, hp_some]; exact hin
  have hiu : ∀ y, updM U (K x) none y = none ↔ y ∈ K x ∨ U y = none := fun y => by
    by_cases c : y ∈ K x
    · rw [updM_in _ _ c]; simp [c]
    · rw [updM_out _ _ c]; simp [c]
  have hpar : Par (put E x none) (updM U (K x) none) := by
    refine Par.drop (fun y q e => ?_) ((hiu x).2 (.inr hu)) ?_
    · by_cases c : y ∈ K x
      · rw [updM_in _ _ c] at e; cases e
      · rw [updM_out _ _ c] at e; exact z.par y q e
    · intro y e
      by_cases c : y ∈ K x
      · rw [updM_in _ _ c] at e; cases e
      · rw [updM_out _ _ c] at e; exact c ((z.cubes.mem x y).2 e)
  have hii : ∀ g y, isIn (put E x none) g y ↔ isIn E g y ∧ y ≠ x := fun g y => by
    by_cases c : y = x
    · subst c
      constructor
      · rintro ⟨q, e⟩; rw [put_same] at e; cases e
      · rintro ⟨_, e⟩; exact absurd rfl e
    · rw [isIn_put_other c]; simp [c]
  refine ⟨z.cubes.split hu, hpar,fun g hg => ⟨?_,fun y => ?_⟩,?_,?_,?_,fun y => ?_⟩
  · refine (z.row g).other fun y hy => ?_
    have h1 := (z.mem g y).1 hy
    have : y ≠ x := by rintro rfl; exact hg (isIn_one h1.1 hin)
    rw [upd_other _ _ this]; exact ⟨rfl,(hiu y).2 (.inr h1.2)⟩
  · rw [z.mem, hii, hiu]
    constructor
    · rintro ⟨h1, h2⟩
      exact ⟨⟨h1,by rintro rfl; exact hg (isIn_one h1 hin)⟩,.inr h2⟩
    · rintro ⟨⟨h1, h2⟩, h3 | h3⟩
      · exact absurd (isIn_one h1 (hk y h3).1) hg
      · exact ⟨h1, h3⟩
  · refine CRow.other (K := K) (U := U) ⟨fun y hy => (z.row h).1 y (List.mem_filter.1 hy).1,(z.row h).2.filter _⟩ fun y hy => ?_
    obtain ⟨h1, h2⟩ := List.mem_filter.1 hy
    have : y ≠ x := by rintro rfl; simp at h2
    rw [upd_other _ _ this]; exact ⟨rfl,(hiu y).2 (.inr ((z.row h).1 y h1))⟩
  · refine ⟨fun y hy => updM_in _ _ hy, List.Pairwise.imp_of_mem ?_ (z.cubes.rise x)⟩
    intro u v hu hv e
    rw [upd_other _ _ (hk u hu).2, upd_other _ _ (hk v hv).2]; exact e
  · intro y hy e
    obtain ⟨h1, _⟩ := List.mem_filter.1 hy
    have h2 := (z.cubes.mem x y).1 e
    rw [(z.row h).1 y h1] at h2; cases h2
  · rw [hii, hiu, List.mem_filter]
    constructor
    · rintro (⟨h1, h2⟩ | h1)
      · have := (z.mem h y).1 h1
        exact ⟨⟨this.1,by rintro rfl; simp at h2⟩,.inr this.2⟩
      · exact ⟨hk y h1,.inl h1⟩
    · rintro ⟨⟨h1, h2⟩, h3 | h3⟩
      · exact .inr h3
      · exact .inl ⟨(z.mem h y).2 ⟨h1, h3⟩,by simpa using fun e => h2 e.symm⟩
theorem CarDone.without {K0 : Nat -> List Nat} {U0 : Nat -> Option Nat} (d : CarDone E K0 U0 a b K' U' out) (ha : x ∉ a) (hb : x ∉ b) (o : Option (Nat × Int × Nat)) : CarDone (put E x o) K0 U0 a b K' U' out := by
  refine ⟨d.cubes,fun u v e => ?_, d.fr, d.row, d.mem⟩
  rcases d.up u v e with q | ⟨q1, q2, q3⟩
  · exact .inl q
  · have : ∀ u, u ∈ a ∨ u ∈ b -> u ≠ x := by
      rintro u (q | q) rfl
      · exact ha q
      · exact hb q
    exact .inr ⟨q1, q2,by rw [ahead_put_other (this v q2) (this u q1)]; exact q3⟩
theorem BinH.shut (z : BinH E K U rw' h a b) (d : CarDone E K U a b K' U' out) : BinO E K' U' (upd rw' h out) := by
  have hf : ∀ y, ¬ (y ∈ a ∨ y ∈ b) -> K' y = K y ∧ U' y = U y := fun y hy => d.fr y (fun q => hy (.inl q)) (fun q => hy (.inr q))
  refine ⟨d.cubes,?_,fun g => ?_,fun g y => ?_⟩
  · intro y q e
    rcases d.up y q e with c | ⟨c1, c2, c3⟩
    · exact z.par y q c
    · have h1 := ((z.mem y).1 c1).1
      have h2 := ((z.mem q).1 c2).1
      exact ⟨by rw [hp_some.2 h1, hp_some.2 h2], c3⟩
  · by_cases c : g = h
    · subst c; rw [upd_same]; exact d.row
    · rw [upd_other _ _ c]
      obtain ⟨h1, h2⟩ := z.row g c
      refine h1.other fun y hy => ?_
      obtain ⟨q1, q2⟩ := (h2 y).1 hy
      have := hf y fun q => c (isIn_one q1 ((z.mem y).1 q).1)
      exact ⟨this.1, this.2.trans q2⟩
  · by_cases c : g = h
    · subst c; rw [upd_same, d.mem, z.mem]
      constructor
      · rintro ⟨⟨q1, _⟩, q2⟩; exact ⟨q1, q2⟩
      · rintro ⟨q1, q2⟩
        refine ⟨⟨q1,?_⟩, q2⟩
        by_cases e : y ∈ a ∨ y ∈ b
        · exact ((z.mem y).1 e).2
        · rw [<- (hf y e).2]; exact q2
    · rw [upd_other _ _ c,(z.row g c).2]
      constructor
      · rintro ⟨q1, q2⟩
        have := hf y fun q => c (isIn_one q1 ((z.mem y).1 q).1)
        exact ⟨q1, this.2.trans q2⟩
      · rintro ⟨q1, q2⟩
        have := hf y fun q => c (isIn_one q1 ((z.mem y).1 q).1)
        exact ⟨q1, this.2.symm.trans q2⟩
end
def InT (tab : List (Option Nat)) (y : Nat) : Prop := ∃ d : Nat, tab[d]? = some (some y)
structure Tidy (E : Ent) (n : Nat) (R : Nat -> Nat -> Prop) (U kid : Nat -> Option Nat) (deg : Nat -> Nat) (top : Nat -> Option Nat) (h x : Nat) (tab : List (Option Nat)) (cur : Option Nat) (rest : List Nat) : Prop where
  m : FibM E n R U kid deg top h (fun _ => False)
  play : ∀ y,(rootOf E U h y ∧ y ≠ x) ↔ InT tab y ∨ cur = some y ∨ y ∈ rest
  pos : ∀ d y, tab[d]? = some (some y) -> deg y = d
  c1 : ∀ y, cur = some y -> ¬ InT tab y ∧ y ∉ rest
  r1 : ∀ y, y ∈ rest -> ¬ InT tab y
  rn : rest.Nodup
  rx : rootOf E U h x
  kx : kid x = none
section
variable {E : Ent} {n : Nat} {R R' : Nat -> Nat -> Prop} {U kid : Nat -> Option Nat} {deg : Nat -> Nat} {top : Nat -> Option Nat} {h x y c w l r : Nat} {tab : List (Option Nat)} {cur : Option Nat} {rest : List Nat}
theorem Tidy.start (m : FibM E n R U kid deg top h (fun _ => False)) (hr : ∀ z, z ∈ x :: rest ↔ rootOf E U h z) (hn : (x :: rest).Nodup) (hk : kid x = none) : Tidy E n R U kid deg top h x [] none rest := by
  obtain ⟨n1, n2⟩ := List.nodup_cons.1 hn
  refine ⟨m,fun y => ?_,?_,?_,?_, n2,(hr x).1 (by simp), hk⟩
  · rw [<- hr]
    simp only [List.mem_cons, InT, List.getElem?_nil]
    constructor
    · rintro ⟨q | q, q2⟩
      · exact absurd q q2
      · exact .inr (.inr q)
    · rintro (⟨d, q⟩ | q | q)
      · cases q
      · cases q
      · exact ⟨.inr q,by rintro rfl; exact n1 q⟩
  · intro d y q; cases q
  · intro y q; cases q
  · rintro y _ ⟨d, q⟩; cases q
theorem Tidy.take (t : Tidy E n R U kid deg top h x tab none (r :: rest)) : Tidy E n R U kid deg top h x tab (some r) rest := by
  obtain ⟨n1, n2⟩ := List.nodup_cons.1 t.rn
  refine ⟨t.m,fun y => ?_, t.pos,?_,fun y q => t.r1 y (by simp [q]), n2, t.rx, t.kx⟩
  · rw [t.play]
    simp only [List.mem_cons, Option.some.injEq]
    constructor
    · rintro (q | q | q | q)
      · exact .inl q
      · cases q
      · exact .inr (.inl q.symm)
      · exact .inr (.inr q)
    · rintro (q | q | q)
      · exact .inl q
      · exact .inr (.inr (.inl q.symm))
      · exact .inr (.inr (.inr q))
  · intro y q
    cases q
    exact ⟨t.r1 _ (by simp), n1⟩
theorem inT_pad : InT (tab ++ [none]) y ↔ InT tab y := by
  unfold InT
  constructor
  · rintro ⟨d, q⟩
    by_cases c : d < tab.length
    · rw [List.getElem?_append_left c] at q; exact ⟨d, q⟩
    · rw [List.getElem?_append_right (by omega)] at q
      have := (List.getElem?_eq_some_iff.1 q).1
      have e : d - tab.length = 0 := by simpa using this
      rw [e] at q; cases q
  · rintro ⟨d, q⟩
    have := (List.getElem?_eq_some_iff.1 q).1
    exact ⟨d,by rw [List.getElem?_append_left this]; exact q⟩
theorem Tidy.pad (t : Tidy E n R U kid deg top h x tab cur rest) : Tidy E n R U kid deg top h x (tab ++ [none]) cur rest := by
  refine ⟨t.m,fun y => by rw [inT_pad]; exact t.play y,?_,fun y q => by rw [inT_pad]; exact t.c1 y q,fun y q => by rw [inT_pad]; exact t.r1 y q, t.rn, t.rx, t.kx⟩
  intro d y q
  by_cases c : d < tab.length
  · rw [List.getElem?_append_left c] at q; exact t.pos d y q
  · rw [List.getElem?_append_right (by omega)] at q
    have := (List.getElem?_eq_some_iff.1 q).1
    have e : d - tab.length = 0 := by simpa using this
    rw [e] at q; cases q
theorem set_at {o v : Option Nat} {d e : Nat} (h : tab[d]? = some o) : (tab.set d v)[e]? = if e = d then some v else tab[e]? := by
  have := (List.getElem?_eq_some_iff.1 h).1
  rw [List.getElem?_set]
  by_cases c : e = d
  · subst c; simp [this]
  · rw [if_neg (fun q => c q.symm), if_neg c]
theorem Tidy.put (t : Tidy E n R U kid deg top h x tab (some c) rest) (e : tab[deg c]? = some none) : Tidy E n R U kid deg top h x (tab.set (deg c) (some c)) none rest := by
  have hin : ∀ y, InT (tab.set (deg c) (some c)) y ↔ InT tab y ∨ y = c := fun y => by
    unfold InT
    constructor
    · rintro ⟨d, q⟩
      rw [set_at e] at q
      split at q
      · cases q; exact .inr rfl
      · exact .inl ⟨d, q⟩
    · rintro (⟨d, q⟩ | rfl)
      · refine ⟨d,?_⟩
        rw [set_at e, if_neg]
        · exact q
        · rintro rfl; rw [e] at q; cases q
      · exact ⟨deg y,by rw [set_at e, if_pos rfl]⟩
  refine ⟨t.m,fun y => ?_,?_,?_,?_, t.rn, t.rx, t.kx⟩
  · rw [t.play, hin]
    simp only [Option.some.injEq]
    constructor
    · rintro (q | q | q)
      · exact .inl (.inl q)
      · exact .inl (.inr q.symm)
      · exact .inr (.inr q)
    · rintro ((q | q) | q | q)
      · exact .inl q
      · exact .inr (.inl q.symm)
      · cases q
      · exact .inr (.inr q)
  · intro d y q
    rw [set_at e] at q
    split at q
    · rename_i f; cases q; exact f.symm
    · exact t.pos d y q
  · intro y q; cases q
  · intro y q
    rw [hin]
    rintro (f | rfl)
    · exact t.r1 y q f
    · exact (t.c1 y rfl).2 q
theorem Tidy.curRoot (t : Tidy E n R U kid deg top h x tab (some c) rest) : rootOf E U h c ∧ c ≠ x := (t.play c).2 (.inr (.inl rfl))
theorem Tidy.tabRoot (t : Tidy E n R U kid deg top h x tab cur rest) (e : InT tab y) : rootOf E U h y ∧ y ≠ x := (t.play y).2 (.inl e)
theorem Tidy.join (t : Tidy E n R U kid deg top h x tab (some c) rest) (e : tab[deg c]? = some (some y)) (hw : (w = c ∧ l = y) ∨ (w = y ∧ l = c)) (ha : ahead E w l = true)
    (hR : ∀ u v, u < n -> (R' u v ↔ R u v ∨ ((U u = some w ∨ u = l) ∧ (U v = some w ∨ v = l)))) :
    Tidy E n R' (upd U l (some w)) (upd kid w (some l)) (upd deg w (deg w + 1)) top h x (tab.set (deg c) none) (some w) rest ∧ deg w = deg c := by
  have hyT : InT tab y := ⟨_, e⟩
  have hdy := t.pos _ _ e
  have hcR := t.curRoot
  have hyR := t.tabRoot hyT
  have hcn := t.c1 c rfl
  have hyr : y ∉ rest := fun q => t.r1 y q hyT
  have hcy : c ≠ y := by rintro rfl; exact hcn.1 hyT
  have hwR : rootOf E U h w ∧ w ≠ x := by rcases hw with ⟨rfl,rfl⟩ | ⟨rfl,rfl⟩ <;> assumption
  have hlR : rootOf E U h l ∧ l ≠ x := by rcases hw with ⟨rfl,rfl⟩ | ⟨rfl,rfl⟩ <;> assumption
  have hwl : w ≠ l := ahead_ne ha
  have hroot : ∀ z, rootOf E (upd U l (some w)) h z ↔ rootOf E U h z ∧ z ≠ l := fun z => by
    unfold rootOf
    by_cases f : z = l
    · subst f; rw [upd_same]
      constructor
      · rintro ⟨_, q⟩; cases q
      · rintro ⟨_, q⟩; exact absurd rfl q
    · rw [upd_other _ _ f]; simp [f]
  have hin : ∀ z, InT (tab.set (deg c) none) z ↔ InT tab z ∧ z ≠ y := fun z => by
    unfold InT
    constructor
    · rintro ⟨d, q⟩
      rw [set_at e] at q
      split at q
      · cases q
      · rename_i f
        exact ⟨⟨d, q⟩,by rintro rfl; rw [t.pos d z q] at hdy; exact f hdy⟩
    · rintro ⟨⟨d, q⟩, f⟩
      refine ⟨d,?_⟩
      rw [set_at e, if_neg]
      · exact q
      · rintro rfl; rw [e] at q; cases q; exact f rfl
  refine ⟨⟨t.m.under hwR.1 hlR.1 ha hR,fun z => ?_,?_,?_,?_, t.rn,(hroot x).2 ⟨t.rx,fun q => hlR.2 q.symm⟩,?_⟩,?_⟩
  · rw [hroot, hin]
    have h1 := t.play z
    simp only [Option.some.injEq] at h1 ⊢
    constructor
    · rintro ⟨⟨q1, q2⟩, q3⟩
      rcases h1.1 ⟨q1, q3⟩ with f | f | f
      · by_cases g : z = y
        · subst g
          rcases hw with ⟨_,rfl⟩ | ⟨rfl, _⟩
          · exact absurd rfl q2
          · exact .inr (.inl rfl)
        · exact .inl ⟨f, g⟩
      · subst f
        rcases hw with ⟨rfl, _⟩ | ⟨_,rfl⟩
        · exact .inr (.inl rfl)
        · exact absurd rfl q2
      · exact .inr (.inr f)
    · rintro (⟨f1, f2⟩ | f | f)
      · obtain ⟨q1, q2⟩ := h1.2 (.inl f1)
        refine ⟨⟨q1,?_⟩, q2⟩
        rintro rfl
        rcases hw with ⟨_,rfl⟩ | ⟨_,rfl⟩
        · exact f2 rfl
        · exact hcn.1 f1
      · subst f; exact ⟨⟨hwR.1, hwl⟩, hwR.2⟩
      · obtain ⟨q1, q2⟩ := h1.2 (.inr (.inr f))
        refine ⟨⟨q1,?_⟩, q2⟩
        rintro rfl
        rcases hw with ⟨_,rfl⟩ | ⟨_,rfl⟩
        · exact hyr f
        · exact hcn.2 f
  · intro d z q
    rw [set_at e] at q
    split at q
    · cases q
    · rename_i f
      have hz := t.pos d z q
      have : z ≠ w := by
        rintro rfl
        rcases hw with ⟨rfl, _⟩ | ⟨rfl, _⟩
        · exact hcn.1 ⟨d, q⟩
        · omega
      rw [upd_other _ _ this]; exact hz
  · intro z q
    cases q
    rcases hw with ⟨rfl, _⟩ | ⟨rfl, _⟩
    · exact ⟨fun q => hcn.1 ((hin _).1 q).1, hcn.2⟩
    · exact ⟨fun q => ((hin _).1 q).2 rfl, hyr⟩
  · intro z q f
    exact t.r1 z q ((hin z).1 f).1
  · rw [upd_other _ _ (fun q => hwR.2 q.symm)]; exact t.kx
  · rcases hw with ⟨rfl, _⟩ | ⟨rfl, _⟩
    · rfl
    · exact hdy
structure Back (E : Ent) (n : Nat) (R : Nat -> Nat -> Prop) (U kid : Nat -> Option Nat) (deg : Nat -> Nat) (top : Nat -> Option Nat) (h x : Nat) (tab : List (Option Nat)) (i : Nat) : Prop where
  m : FibM E n R U kid deg top h (fun y => ∃ d, d < i ∧ tab[d]? = some (some y))
  play : ∀ y,(rootOf E U h y ∧ y ≠ x) ↔ InT tab y
  pos : ∀ d y, tab[d]? = some (some y) -> deg y = d
  rx : rootOf E U h x
  kx : kid x = none
theorem FibM.cong {D D' : Nat -> Prop} (m : FibM E n R U kid deg top h D) (e : ∀ y, D' y ↔ D y) : FibM E n R U kid deg top h D' := by
  have : D' = D := funext fun y => propext (e y)
  rw [this]; exact m
theorem Tidy.back (t : Tidy E n R U kid deg top h x tab none []) : Back E n R U kid deg top h x tab 0 := by
  refine ⟨t.m.cong fun y => ?_,fun y => ?_, t.pos, t.rx, t.kx⟩
  · constructor
    · rintro ⟨d, q, _⟩; omega
    · exact False.elim
  · rw [t.play]; simp
theorem Back.skip {i : Nat} (b : Back E n R U kid deg top h x tab i) (e : tab[i]? = some none) : Back E n R U kid deg top h x tab (i + 1) := by
  refine ⟨b.m.cong fun y => ?_, b.play, b.pos, b.rx, b.kx⟩
  constructor
  · rintro ⟨d, q1, q2⟩
    refine ⟨d,?_, q2⟩
    by_cases f : d = i
    · subst f; rw [e] at q2; cases q2
    · omega
  · rintro ⟨d, q1, q2⟩; exact ⟨d,by omega, q2⟩
theorem Back.more {i : Nat} {top' : Nat -> Option Nat} (b : Back E n R U kid deg top h x tab i) (e : tab[i]? = some (some y)) (m : FibM E n R' U kid deg top' h (fun z => (∃ d, d < i ∧ tab[d]? = some (some z)) ∨ z = y)) : Back E n R' U kid deg top' h x tab (i + 1) := by
  refine ⟨m.cong fun z => ?_, b.play, b.pos, b.rx, b.kx⟩
  constructor
  · rintro ⟨d, q1, q2⟩
    by_cases f : d = i
    · subst f; rw [e] at q2; cases q2; exact .inr rfl
    · exact .inl ⟨d,by omega, q2⟩
  · rintro (⟨d, q1, q2⟩ | rfl)
    · exact ⟨d,by omega, q2⟩
    · exact ⟨i,by omega, e⟩
theorem Back.loose {i : Nat} (b : Back E n R U kid deg top h x tab i) (e : tab[i]? = some (some y)) : rootOf E U h y ∧ ¬ ∃ d, d < i ∧ tab[d]? = some (some y) := by
  refine ⟨((b.play y).2 ⟨i, e⟩).1,?_⟩
  rintro ⟨d, q1, q2⟩
  have h1 := b.pos d y q2
  have h2 := b.pos i y e
  omega
theorem Back.drop (b : Back E n R U kid deg top h x tab tab.length) : FibO (put E x none) n R U kid deg top := by
  refine FibM.any (g := h) ?_ 0
  refine b.m.drop b.rx b.kx ?_ ?_
  · rintro ⟨d, _, q⟩
    exact ((b.play x).2 ⟨d, q⟩).2 rfl
  · intro y hy hne
    obtain ⟨d, q⟩ := (b.play y).1 ⟨hy, hne⟩
    exact ⟨d,(List.getElem?_eq_some_iff.1 q).1, q⟩
theorem FibM.degLe {D : Nat -> Prop} (m : FibM E n R U kid deg top h D) (p : Nat) : deg p <= n := by rw [m.dg]; exact kidsN_le _ _ _
end
end Go.Proofs.YtkdbjelhkfdfjaaGreatDoor
namespace Go.Proofs.YtkdbjelhkfdfjaaGreatDoor
open Go.Deep Go.RowKit
def IsRows (w : World) (k : Nat) (a : Option Addr) (len : Nat) (C : Nat -> List Value) : Prop :=
  len = 0 ∨ ∃ b off, a = some ⟨b,off,none⟩ ∧ b < w.heap.size ∧ ∀ i, i < len -> ∀ j, j < k -> w.cell? ⟨b, off + (i * k + j), none⟩ = (C i)[j]?
section
variable {H : Type} {enc : TypeId × Value -> H} {P : Program} {w : World} {base : Nat} {spare : Nat -> Bool} {held : Bool}
theorem open_rows {t e fuel k : Nat} {v : Value} {x : DataW H × List MemPlace} (E : List Value -> Prop) (ht : P.underlying t = some (.slice e)) (hk : P.cellsOf e = k) (hk0 : 0 < k)
    (hE : ∀ n cs y, DataW.trod enc P w base spare held n e cs = some y -> E cs) (h : DataW.trod enc P w base spare held fuel t [v] = some x) :
    ∃ a len cap C, v = .slice a len cap ∧ len <= cap ∧ cap <= maxLen ∧ (∀ i, i < len -> E (C i)) ∧ IsRows w k a len C := by
  rcases open_slice ht h with ⟨h0, _⟩ | ⟨a, len, cap, m, n, D, Pl, h0, _, hl, hm, hmm, _, hx⟩
  · simp only [List.cons.injEq, and_true] at h0
    subst h0
    exact ⟨none, 0,0,fun _ => [],rfl, Nat.le_refl _, Nat.zero_le _,fun i hi => by omega,.inl rfl⟩
  · simp only [List.cons.injEq, and_true] at h0
    subst h0
    have hlm : len <= m := by rw [hmm]; split <;> omega
    obtain ⟨C, hC⟩ := choose_lt (α := List Value) (n := len) (p := fun i cs' => w.cells? base (a.add (i * P.cellsOf e)) (P.cellsOf e) = some cs' ∧ DataW.trod enc P w base spare held n e cs' = some (D i, Pl i)) (fun i hi => hx i (by omega))
    refine ⟨some a, len, cap, C,rfl, hl, hm,fun i hi => hE _ _ _ (hC i hi).2,?_⟩
    by_cases h0 : len = 0
    · exact .inl h0
    · right
      have hcell : ∀ i, i < len -> ∀ j, j < k -> w.cell? (a.add (i * k + j)) = (C i)[j]? ∧ ((C i)[j]?).isSome = true := by
        intro i hi j hj
        obtain ⟨h1, _⟩ := hC i hi
        obtain ⟨_, hlen, hget⟩ := World.cells?_some h1
        rw [hk] at hlen
        have := hget j (by omega)
        rw [hk, add_add] at this
        exact ⟨this,by simp; omega⟩
      have h00 := hcell 0 (by omega) 0 hk0
      obtain ⟨u, hu⟩ := Option.isSome_iff_exists.1 h00.2
      have hspot := World.cell?_spot (h00.1.trans hu)
      obtain ⟨b, off, spot⟩ := a
      simp [Addr.add] at hspot
      subst hspot
      have hb := World.block_lt_of_cell? w _ (h00.1.trans hu)
      refine ⟨b, off,rfl,?_,fun i hi j hj => ?_⟩
      · simpa [Addr.add] using hb
      · have := (hcell i hi j hj).1
        rwa [Addr.add_lit] at this
end
end Go.Proofs.YtkdbjelhkfdfjaaGreatDoor
namespace Go.Proofs.YtkdbjelhkfdfjaaGreatDoor
open Go.RowKit Go.WideShapes Go.ChangeShapes Go.Deep
section
variable {H : Type} {enc : TypeId × Value -> H} {w : World} {base : Nat} {spare : Nat -> Bool} {held : Bool}
def EdgeCells (cs : List Value) : Prop := ∃ x y z : Int, cs = [.int .i64 x,.int .i64 y,.int .i64 z]
theorem edge_cells {n : Nat} {cs : List Value} {y : DataW H × List MemPlace} (h : DataW.trod enc Tryz.prog w base spare held n 58 cs = some y) : EdgeCells cs := by
  obtain ⟨y0, y1, y2, m, _, hl, h0, h1, h2⟩ := trod_struct3 Tryz.underlying58 h
  have hc : Tryz.prog.cellsOf 58 = 3 := by kernel_rfl
  have hc1 : Tryz.prog.cellsOf 3 = 1 := by kernel_rfl
  have hc2 : Tryz.prog.cellsOf 2 = 1 := by kernel_rfl
  rw [hc] at hl
  match cs, hl with
  | [c0, c1, c2], _ =>
    simp only [hc1, hc2, List.drop_zero, List.take_succ_cons, List.take_zero, List.drop_succ_cons] at h0 h1 h2
    obtain ⟨x0, e0, _, _⟩ := Go.DataW.trod_int Tryz.underlying3 h0
    obtain ⟨x1, e1, _, _⟩ := Go.DataW.trod_int Tryz.underlying3 h1
    obtain ⟨x2, e2, _, _⟩ := Go.DataW.trod_int Tryz.underlying2 h2
    simp only [List.cons.injEq, and_true] at e0 e1 e2
    subst e0 e1 e2
    exact ⟨x0, x1, x2,rfl⟩
theorem edges_in {a : Option Addr} {len cap : Nat} {C : Nat -> List Value} (hE : ∀ i, i < len -> EdgeCells (C i)) (hr : IsRows w 3 a len C) : ∃ es : List E3, es.length = len ∧ EIn w (.slice a len cap) es := by
  obtain ⟨f, hf⟩ := choose_lt (α := E3) (n := len) (p := fun i x => C i = [.int .i64 x.1,.int .i64 x.2.1,.int .i64 x.2.2]) (fun i hi => by
    obtain ⟨x, y, z, e⟩ := hE i hi
    exact ⟨(x, y, z), e⟩)
  refine ⟨(List.range len).map f,by simp,⟨a, cap,by simp⟩,fun i x hx => ?_⟩
  have hi : i < len := by have := (List.getElem?_eq_some_iff.1 hx).1; simpa using this
  have hxf : x = f i := by simp [hi] at hx; exact hx.symm
  subst hxf
  rcases hr with e | ⟨b, off,rfl, hb, hc⟩
  · omega
  · have h0 := hc i hi 0 (by omega)
    have h1 := hc i hi 1 (by omega)
    have h2 := hc i hi 2 (by omega)
    rw [hf i hi] at h0 h1 h2
    exact ⟨b, off, cap,by simp,by simpa using h0,by simpa [Nat.add_assoc] using h1,by simpa [Nat.add_assoc] using h2⟩
theorem open_graph {r : Reach} {b0 : Nat} {v : Value} {d : DataW H} {p : List MemPlace} (hv : Value.okWide Tryz.prog w r b0 55 v) (h : DataW.Trod enc Tryz.prog w base spare held 55 v d p) :
    ∃ (n : Int) (es : List E3) (a : Option Addr) (cap : Nat), v = .agg #[.int .i64 n,.slice a es.length cap] ∧ EIn w (.slice a es.length cap) es := by
  simp only [Value.okWide, Tryz.underlying55] at hv
  obtain ⟨cs,rfl, hsz, _⟩ := hv
  obtain ⟨l⟩ := cs
  obtain ⟨fuel, hf⟩ := h
  have hf' : DataW.trod enc Tryz.prog w base spare held fuel 55 l = some (d, p) := by simpa [Value.cells] using hf
  obtain ⟨y0, y1, m, _, hl, h0, h1⟩ := trod_struct2 Tryz.underlying55 hf'
  have hc : Tryz.prog.cellsOf 55 = 2 := by kernel_rfl
  have hc1 : Tryz.prog.cellsOf 3 = 1 := by kernel_rfl
  have hc2 : Tryz.prog.cellsOf 53 = 1 := by kernel_rfl
  rw [hc] at hl
  match l, hl with
  | [c0, c1], _ =>
    simp only [hc1, hc2, List.drop_zero, List.take_succ_cons, List.take_zero, List.drop_succ_cons] at h0 h1
    obtain ⟨x0, e0, _, _⟩ := Go.DataW.trod_int Tryz.underlying3 h0
    obtain ⟨a, len, cap, C,rfl, _, _, hE, hr⟩ := open_rows (k := 3) EdgeCells Tryz.underlying53 (by kernel_rfl) (by decide) (fun n cs y h => edge_cells h) h1
    simp only [List.cons.injEq, and_true] at e0
    subst e0
    obtain ⟨es,rfl, he⟩ := edges_in (cap := cap) hE hr
    exact ⟨x0, es, a, cap,rfl, he⟩
end
end Go.Proofs.YtkdbjelhkfdfjaaGreatDoor


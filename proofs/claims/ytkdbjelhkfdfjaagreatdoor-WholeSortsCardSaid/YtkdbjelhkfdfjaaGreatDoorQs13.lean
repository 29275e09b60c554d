/-
  Contracts that the law rests on. Conditions: none.
-/
import Derived.Test.YtkdbjelhkfdfjaaGreatDoorQs11
import Derived.Test.YtkdbjelhkfdfjaaGreatDoorQs12
set_option linter.unusedVariables false
set_option maxRecDepth 100000
set_option maxHeartbeats 16000000
namespace Go.Proofs.YtkdbjelhkfdfjaaGreatDoor
open Go.RowKit
section
variable (w : World) (pn pc : Nat) (Fc : List Nat) (cap hs : Nat) (E : Ent) (p d : Nat) (ao : Option Addr) (ca mb n : Nat)
def DownDone (v : Nat → Nat) (e : Ending) (w' : World) : Prop :=
  ∃ v' : Nat → Nat, e = .returned (.tuple #[]) ∧ RowFull w' p d ao ca mb n v' ∧ OrdAt w' pn pc Fc cap hs E ∧ Inj v' n ∧ Same v v' n ∧ Keeps (rfp p mb ao ++ Fc) w w' ∧ Heap' d (ahead E) v' n
theorem row_down (v : Nat → Nat) (i : Nat) (o : Option Int) (hr : RowHole w p d ao ca mb n v i o) (ho : OrdAt w pn pc Fc cap hs E) (hv : Inj v n) (hE : ∀ j, j < n → (E (v j)).isSome) (hi : i < n) (hn : n ≤ 65536) (hd1 : 2 ≤ d) (hd2 : d ≤ 16)
    (hdn : HeapDown d (ahead E) v n i) (hap : ∀ b ∈ rfp p mb ao, b ∉ pn :: Fc) :
    Calls Tryz.prog 325 #[.pointer (some ⟨p,0,none⟩), .iface 148 (.pointer (some ⟨pn,0,none⟩)), .int .i64 i, .int .i64 (v i : Nat)] w (DownDone w pn pc Fc cap hs E p d ao ca mb n v) := by
  have hbc := ho.ce.ok.bc
  have hx : ∀ v' : Nat → Nat, Same v v' n → ∀ j, j < n → v' j < cap := fun v' s j hj => by
    obtain ⟨k, hk, e⟩ := (s (v' j)).1 ⟨j, hj,rfl⟩
    rw [← e]; exact ho.ce.ok.lt _ (hE k hk)
  have hEs : ∀ v' : Nat → Nat, Same v v' n → ∀ j, j < n → (E (v' j)).isSome := fun v' s j hj => by
    obtain ⟨k, hk, e⟩ := (s (v' j)).1 ⟨j, hj,rfl⟩
    rw [← e]; exact hE k hk
  obtain ⟨x, hvx⟩ : ∃ x, v i = x := ⟨_,rfl⟩
  rw [hvx]
  have HX := Lib.hid hx
  have HES := Lib.hid hEs
  have HAP := Lib.hid hap
  have HVX := Lib.hid hvx
  have HDN := Lib.hid hdn
  clear hx hEs hvx hdn
  go_enter Tryz.func325, Tryz.ntmps325
  go_wp2_with fail
  go_loopg [2] (n - i) (fun m s wr => ∃ (i' : Nat) (v' : Nat → Nat), m + i' = n ∧ s = .int .i64 i' ∧ i' < n ∧ v' i' = x ∧ RowHole wr p d ao ca mb n v' i' o ∧ OrdAt wr pn pc Fc cap hs E ∧ Inj v' n ∧ Same v v' n ∧ Keeps (rfp p mb ao ++ Fc) w wr ∧ HeapDown d (ahead E) v' n i')
  case atStart => exact ⟨i, v,by omega,rfl, hi, HVX.out, hr, ho, hv, Same.refl _ _, Keeps.refl _ _, HDN.out⟩
  case round =>
    clear hr ho hv hi hE
    obtain ⟨i', v', hk,rfl, hi', hvx', hr, ho, hv, hsame, kp, hdn⟩ := hrel
    have HK := Lib.hid hk
    have HDN2 := Lib.hid hdn
    clear hk hdn
    have hxc := HX.out v' hsame
    have hEv := HES.out v' hsame
    have hord : Ord (ahead E) v' n := ordOf hv hEv
    have hxle : v' i' ≤ 65536 := by have := hxc i' hi'; omega
    by_cases hno : n ≤ d * i' + 1
    · have hfst := fun ov => row_first_no wr p d ao ca mb n v' i' o hr hi' hn hd1 hd2 hno ov
      have hcl := fun u (hu : RowHole u p d ao ca mb n v' i' o) => rh_close hu hv hi' hn hxle
      rw [hvx'] at hcl
      go_upto_region 1 with (go_at_call 333; refine (hfst _).mono ?_; rintro e w' ⟨rfl,rfl⟩)
      go_quiet (fail)
      go_wp2_with (go_at_call 332; refine (hcl _ (by exact hr.keep (S := []) ⟨rfl,rfl,rfl, Nat.le_refl _,fun _ _ _ => rfl⟩ (by simp))).mono ?_; rintro e w1 ⟨rfl, hf1, hk1⟩)
      refine bodyPost_ret (results_none rfl _ _ _) rfl ?_
      have kp2 : Keeps (rfp p mb ao ++ Fc) w w1 := kp.trans hk1.ofDrewN (fun b hb => .inl (by simp [hb]))
      have ho2 : OrdAt w1 pn pc Fc cap hs E := ho.keep hk1.ofDrewN (fun b hb e => HAP.out b e hb)
      refine ⟨v',rfl, hf1, ho2, hv, hsame, kp2, HDN2.out.stop fun j h1 h2 h3 => ?_⟩
      have := (par_range hd1 h1).1 h3
      omega
    · have hfst := row_first_yes wr pn pc Fc cap hs E p d ao ca mb n v' i' o hr ho hv hEv hi' hn hd1 hd2 (by omega) hap
      go_upto_region 1 with (go_at_call 333; refine hfst.mono ?_; rintro e w1 ⟨q,rfl, hqn, hq0, hpq, hbest, ho1, k1⟩)
      have hr1 := hr.keep k1 (fun b hb e => HAP.out b hb (by simp [e]))
      have hqlt : i' < q := by rw [← hpq]; exact par_lt hd1 hq0
      have HBEST := Lib.hid hbest
      have HPQ := Lib.hid hpq
      clear hbest hfst hpq
      have kp1 : Keeps (rfp p mb ao ++ Fc) w w1 := kp.trans k1 (fun b hb => .inl (by simp [hb]))
      clear hr ho kp k1
      obtain ⟨g, hao, hgm, c1, c2⟩ := hr1.at (q := q) hqn (by omega)
      subst hao
      have hgn : g ∉ pn :: Fc := HAP.out g hgm
      have hpn : p ∉ pn :: Fc := HAP.out p (by simp [rfp])
      have hpl : p < w1.heap.size := hr1.lt p (by simp [rfp])
      have hgl : g < w1.heap.size := hr1.lt g hgm
      have hal := fun u (hu : CellsAt u Fc pc cap hs E) => cells_ahead u Fc pc cap hs E hu (v' q) x (hEv q hqn) (by rw [← hvx']; exact hEv i' hi')
      have hS : ∀ u, Keeps Fc w1 u → u.cell? ⟨p,1,none⟩ = some (.slice (some ⟨g,0,none⟩) n ca) ∧ u.cell? ⟨g,q,none⟩ = some (.int .i64 (v' q : Nat)) ∧ u.cell? ⟨pn,0,none⟩ = some (.pointer (some ⟨pc,0,none⟩)) := fun u k =>
        ⟨(World.cell?_of_block (a := ⟨p,1,none⟩) (k.block p hpl (fun e => hpn (by simp [e])))).trans c1, (World.cell?_of_block (a := ⟨g,q,none⟩) (k.block g hgl (fun e => hgn (by simp [e])))).trans c2,
          (World.cell?_of_block (a := ⟨pn,0,none⟩) (k.block pn ho1.lt ho1.nf)).trans ho1.c0⟩
      have kdr : Keeps Fc w1 w1.drew := ⟨rfl,rfl,rfl, Nat.le_refl _,fun _ _ _ => rfl⟩
      have hqn3 : (q : Int) < (n : Int) := by omega
      have hna := fun (u : World) => nil_ahead 587 ⟨pn,0,none⟩ u
      have hme := fun (u : World) (hu : u.cell? ⟨pn,0,none⟩ = some (.pointer (some ⟨pc,0,none⟩))) => dary_ahead 587 pn pc u hu
      cases hb : ahead E (v' q) x with
      | false =>
        rw [hb] at hal
        go_region_held3 (fun u => u.cell? ⟨p,1,none⟩ = some (.slice (some ⟨g,0,none⟩) n ca) ∧ u.cell? ⟨g,q,none⟩ = some (.int .i64 (v' q : Nat)) ∧ u.cell? ⟨pn,0,none⟩ = some (.pointer (some ⟨pc,0,none⟩)))
          (first | exact hS _ kdr | exact hS _ (kdr.trans (by assumption) (fun _ h => .inl h)))
          (first
            | (go_at_call 339; refine (hal _ (by exact ho1.ce.drew)).mono ?_; rintro e w2 ⟨rfl, hc2, hk2⟩))
        all_goals
          have k2 : Keeps Fc w1 w2 := hk2.ofDrew
          have ho2 := ho1.cells hc2 k2
          have hr2 := hr1.keep k2 (fun b hb e => HAP.out b hb (by simp [e]))
          have hcl := rh_close hr2 hv hi' hn hxle
          rw [hvx'] at hcl
          go_wp2_with (go_at_call 332; refine hcl.mono ?_; rintro e w3 ⟨rfl, hf3, hk3⟩)
          refine bodyPost_ret (results_none rfl _ _ _) rfl ?_
          have kp2 : Keeps (rfp p mb (some ⟨g,0,none⟩) ++ Fc) w w3 := (kp1.trans k2 (fun b hb => .inl (by simp [hb]))).trans hk3 (fun b hb => .inl (by simp [hb]))
          refine ⟨v',rfl, hf3, ho2.keep hk3 (fun b hb e => HAP.out b e hb), hv, hsame, kp2, HDN2.out.stop fun j h1 h2 h3 => ?_⟩
          have hiq : ahead E (v' i') (v' q) = true := by
            rcases hord.tot i' q hi' hqn (by omega) with h | h
            · exact h
            · rw [hvx', hb] at h; cases h
          by_cases hjq : j = q
          · rw [hjq]; exact hiq
          · exact ahead_tr hiq (HBEST.out j h1 h2 h3 hjq)
      | true =>
        rw [hb] at hal
        go_region_held3 (fun u => u.cell? ⟨p,1,none⟩ = some (.slice (some ⟨g,0,none⟩) n ca) ∧ u.cell? ⟨g,q,none⟩ = some (.int .i64 (v' q : Nat)) ∧ u.cell? ⟨pn,0,none⟩ = some (.pointer (some ⟨pc,0,none⟩)))
          (first | exact hS _ kdr | exact hS _ (kdr.trans (by assumption) (fun _ h => .inl h)))
          (first
            | (go_at_call 339; refine (hal _ (by exact ho1.ce.drew)).mono ?_; rintro e w2 ⟨rfl, hc2, hk2⟩))
        all_goals
          have k2 : Keeps Fc w1 w2 := hk2.ofDrew
          have ho2 := ho1.cells hc2 k2
          have hr2 := hr1.keep k2 (fun b hb e => HAP.out b hb (by simp [e]))
          have hmv := rh_move hr2 hv hi' hqn (by omega) hn (by have := hxc q hqn; omega)
          obtain ⟨d1, d2, d3⟩ := hS w2 k2
          have hst2 := HDN2.out.step hd1 hord hq0 hqn HPQ.out HBEST.out (by rw [hvx']; exact hb)
          have HST2 := Lib.hid hst2
          clear hal hS c1 c2 hk2 hc2 hst2 hb
          go_wp2_with (go_at_call 332; refine hmv.mono ?_; rintro e w3 ⟨rfl, hf3, hk3⟩)
          have kp2 : Keeps (rfp p mb (some ⟨g,0,none⟩) ++ Fc) w w3 := (kp1.trans k2 (fun b hb => .inl (by simp [hb]))).trans hk3 (fun b hb => .inl (by simp [hb]))
          go_roundg (n - q)
          case measure => have := HK.out; omega
          case rel => exact ⟨q, sw v' i' q,by omega,rfl, hqn,by rw [sw_right]; exact hvx', hf3, ho2.keep hk3 (fun b hb e => HAP.out b e hb), hv.sw hi' hqn, hsame.trans (Same.sw hi' hqn), kp2, HST2.out⟩
end
theorem RowRaw.like {w w' : World} {p d cap mb c : Nat} {ao : Option Addr} {Lm : List Nat} {f : Int → Option Int} (h : RowRaw w p d ao cap mb Lm c f) (e : w'.heap = w.heap) : RowRaw w' p d ao cap mb Lm c f :=
  ⟨by rw [e]; exact h.blk, by
    refine ⟨h.row.1,?_⟩
    rw [e]; exact h.row.2, h.map.blk (by rw [e]), h.ne, h.na⟩
theorem RowRaw.pop {w : World} {p d cap mb c m : Nat} {ao : Option Addr} {Lm : List Nat} {f : Int → Option Int} (h : RowRaw w p d ao cap mb Lm c f) (hl : Lm.length = m + 1) :
    RowRaw (w.setCell ⟨p,1,none⟩ (.slice ao m cap)) p d ao cap mb (Lm.take m) c f := by
  have hk : Keeps [p] w (w.setCell ⟨p,1,none⟩ (.slice ao m cap)) := (Keeps.refl _ _).setCell (.inl (by simp)) _
  have hlt : (Lm.take m).length = m := by simp; omega
  refine ⟨?_,?_, h.map.keep hk (by simpa using h.ne.symm), h.ne, h.na⟩
  · rw [hlt, blk_setCell _ h.blk]; simp
  · have hr := ir_keep h.row hk (fun x hx => by simpa using (h.na x hx).1)
    rcases hr.2 with ⟨h0, h1⟩ | ⟨g', cap', cur, hv, hb, hh, r1, r2, r3, r4⟩
    · omega
    · cases hv
      refine ⟨by simp [Rg.nCells], .inr ⟨g', cap, cur,by rw [hlt], hb, hh,by omega, r2, r3,?_⟩⟩
      rw [Nat.mul_one] at r4 ⊢
      have e : cur.toList.take (Lm.take m).length = (cur.toList.take Lm.length).take m := by rw [List.take_take, hlt, Nat.min_eq_left (by omega)]
      rw [e, r4]; simp [Rg.nCells, List.map_take]
theorem RowRaw.push {w w4 : World} {p d cap mb c g' cap' x : Nat} {ao : Option Addr} {Lm : List Nat} {f : Int → Option Int} (h : RowRaw w p d ao cap mb Lm c f)
    (hr : w4.ownsRow 0 3 1 (.slice (some ⟨g',0,none⟩) (Lm.length + 1) cap') (Lm.length + 1) (Rg.nCells Lm ++ [.int .i64 (x : Int)]))
    (hk : Keeps (Value.slice ao Lm.length cap).ownBlock.toList w w4) (hf : (Value.slice ao Lm.length cap).ownBlock = some g' ∨ w.heap.size ≤ g') :
    RowRaw (w4.setCell ⟨p,1,none⟩ (.slice (some ⟨g',0,none⟩) (Lm.length + 1) cap')) p d (some ⟨g',0,none⟩) cap' mb (Lm ++ [x]) c f ∧
      Keeps (rfp p mb ao) w (w4.setCell ⟨p,1,none⟩ (.slice (some ⟨g',0,none⟩) (Lm.length + 1) cap')) ∧ (∀ b ∈ rfp p mb (some ⟨g',0,none⟩), b ∈ rfp p mb ao ∨ w.heap.size ≤ b) := by
  have hown : ∀ b ∈ (Value.slice ao Lm.length cap).ownBlock.toList, ∃ x, ao = some x ∧ x.block = b := by
    intro b hb
    cases ao with
    | none => simp [Value.ownBlock] at hb
    | some a =>
      obtain ⟨b', o', i'⟩ := a
      refine ⟨_,rfl,?_⟩
      simp [Value.ownBlock] at hb
      exact hb.symm
  have hpl := h.lt p (by simp [rfp])
  have hml := h.lt mb (by simp [rfp])
  have hp4 : p ∉ (Value.slice ao Lm.length cap).ownBlock.toList := fun e => by obtain ⟨x, e1, e2⟩ := hown p e; exact (h.na x e1).1 e2
  have hm4 : mb ∉ (Value.slice ao Lm.length cap).ownBlock.toList := fun e => by obtain ⟨x, e1, e2⟩ := hown mb e; exact (h.na x e1).2 e2
  have hgp : g' ≠ p ∧ g' ≠ mb := by
    rcases hf with e | e
    · obtain ⟨x, e1, e2⟩ := hown g' (by simp [e])
      rw [← e2]; exact h.na x e1
    · omega
  have k2 : Keeps [p] w4 (w4.setCell ⟨p,1,none⟩ (.slice (some ⟨g',0,none⟩) (Lm.length + 1) cap')) := (Keeps.refl _ _).setCell (.inl (by simp)) _
  refine ⟨⟨?_,?_, (h.map.keep hk hm4).keep k2 (by simpa using h.ne.symm), h.ne,fun x e => by cases e; exact hgp⟩,?_,?_⟩
  · rw [blk_setCell _ (hk.blk h.blk hp4)]; simp
  · have := Rg.IR.pushed (B := 0) (L := Lm) (x := x) hr (Nat.zero_le _)
    have h2 := ir_keep this k2 (fun x e => by cases e; simpa using hgp.1)
    simpa using h2
  · refine (hk.mono (T := rfp p mb ao) fun b hb => .inl ?_).trans k2 (by simp [rfp])
    obtain ⟨x, e1, e2⟩ := hown b hb
    simp [rfp, e1, e2]
  · intro b hb
    simp only [rfp, Option.toList_some, List.map_cons, List.map_nil, List.mem_cons, List.not_mem_nil, or_false] at hb
    rcases hb with rfl | rfl | rfl
    · exact .inl (by simp [rfp])
    · exact .inl (by simp [rfp])
    · rcases hf with e | e
      · obtain ⟨x, e1, e2⟩ := hown b (by simp [e])
        exact .inl (by simp [rfp, e1, e2])
      · exact .inr e
section
variable (w : World) (pn pc : Nat) (Fc : List Nat) (cap hs : Nat) (E : Ent) (p d : Nat) (ao : Option Addr) (ca mb n : Nat)
def AddDone (v : Nat → Nat) (x : Nat) (e : Ending) (w' : World) : Prop :=
  ∃ (ao' : Option Addr) (ca' : Nat) (v' : Nat → Nat), e = .returned (.bool true) ∧ RowFull w' p d ao' ca' mb (n + 1) v' ∧ OrdAt w' pn pc Fc cap hs E ∧ Inj v' (n + 1) ∧ (∀ z, (∃ j, j < n + 1 ∧ v' j = z) ↔ z = x ∨ ∃ j, j < n ∧ v j = z) ∧ Heap' d (ahead E) v' (n + 1) ∧
    Keeps (rfp p mb ao ++ Fc) w w' ∧ (∀ b ∈ rfp p mb ao', b ∈ rfp p mb ao ∨ w.heap.size ≤ b)
theorem row_add (v : Nat → Nat) (x : Nat) (hr : RowFull w p d ao ca mb n v) (ho : OrdAt w pn pc Fc cap hs E) (hv : Inj v n) (hE : ∀ j, j < n → (E (v j)).isSome) (hEx : (E x).isSome) (hx : ∀ j, j < n → v j ≠ x) (hn : n + 1 ≤ 65536) (hd1 : 2 ≤ d) (hd2 : d ≤ 16)
    (hh : Heap' d (ahead E) v n) (hap : ∀ b ∈ rfp p mb ao, b ∉ pn :: Fc) :
    Calls Tryz.prog 317 #[.pointer (some ⟨p,0,none⟩), .iface 148 (.pointer (some ⟨pn,0,none⟩)), .int .i64 x] w (AddDone w pn pc Fc cap hs E p d ao mb n v x) := by
  have hbc := ho.ce.ok.bc
  have hxc := ho.ce.ok.lt x hEx
  obtain ⟨Lm, r, hl, hlv⟩ := hr
  have hlt := r.lt
  have c1 := r.c1
  have c2 := r.c2
  have hrow : w.ownsRow 0 3 1 (.slice ao n ca) n (Rg.nCells Lm) := by
    have := r.row
    unfold Rg.IR at this
    rwa [hl] at this
  have f1 : w.frozen? ⟨p,1,none⟩ = false := frozen_of_blk r.blk
  have HM := Lib.hid r.map
  have HNO := Lib.hid (posF_no hx)
  obtain ⟨ha1, ha2⟩ := hole_add hv hx
  have hmid : ∀ (w4 : World) (g' cap' : Nat), w4.ownsRow 0 3 1 (.slice (some ⟨g',0,none⟩) (n + 1) cap') (n + 1) (Rg.nCells Lm ++ [.int .i64 (x : Int)]) → Keeps (Value.slice ao n ca).ownBlock.toList w w4 → ((Value.slice ao n ca).ownBlock = some g' ∨ w.heap.size ≤ g') →
      w4.frozen? ⟨p,1,none⟩ = false ∧ (∃ u, w4.cell? ⟨p,1,none⟩ = some u) ∧ RowHole (w4.setCell ⟨p,1,none⟩ (.slice (some ⟨g',0,none⟩) (n + 1) cap')) p d (some ⟨g',0,none⟩) cap' mb (n + 1) (fun k => if k = n then x else v k) n none ∧
      OrdAt (w4.setCell ⟨p,1,none⟩ (.slice (some ⟨g',0,none⟩) (n + 1) cap')) pn pc Fc cap hs E ∧ Keeps (rfp p mb ao) w (w4.setCell ⟨p,1,none⟩ (.slice (some ⟨g',0,none⟩) (n + 1) cap')) ∧ (∀ b ∈ rfp p mb (some ⟨g',0,none⟩), b ∈ rfp p mb ao ∨ w.heap.size ≤ b) := by
    intro w4 g' cap' h1 h2 h3
    obtain ⟨q1, q2, q3⟩ := RowRaw.push (g' := g') (cap' := cap') (x := x) (w4 := w4) r (by rw [hl]; exact h1) (by rw [hl]; exact h2) (by rw [hl]; exact h3)
    rw [hl] at q1 q2
    have hp4 : p ∉ (Value.slice ao n ca).ownBlock.toList := by
      intro e
      cases ao with
      | none => simp [Value.ownBlock] at e
      | some a =>
        obtain ⟨b', o', i'⟩ := a
        have := (r.na _ rfl).1
        simp [Value.ownBlock] at e
        exact this e.symm
    have b4 := h2.blk r.blk hp4
    refine ⟨frozen_of_blk b4, ⟨_,by rw [cell_of_blk b4]; rfl⟩, ⟨Lm ++ [x], n,?_,by simp [hl],?_,by simp⟩, ho.keep q2 (fun b hb e => hap b e hb), q2, q3⟩
    · rw [← ha1]; exact q1
    · intro j hj hjn
      have hjl : j < n := by omega
      simp only [if_neg hjn]
      rw [← hlv j hjl]
      simp [Rg.fn, List.getD, List.getElem?_append_left (show j < Lm.length by omega)]
  have hE' : ∀ j, j < n + 1 → (E ((fun k => if k = n then x else v k) j)).isSome := by
    intro j hj
    by_cases e : j = n
    · simp only [if_pos e]; exact hEx
    · simp only [if_neg e]; exact hE j (by omega)
  have hat := hh.at_end hd1 x
  have hap2 : ∀ g', (∀ b ∈ rfp p mb (some ⟨g',0,none⟩), b ∈ rfp p mb ao ∨ w.heap.size ≤ b) → ∀ b ∈ rfp p mb (some ⟨g',0,none⟩), b ∉ pn :: Fc := by
    intro g' h b hb
    rcases h b hb with c | c
    · exact hap b c
    · intro e
      simp only [List.mem_cons] at e
      rcases e with rfl | e
      · have := ho.lt; omega
      · have := ho.ce.lt b e; omega
  have HMID := Lib.hid hmid
  have HAT := Lib.hid hat
  have HE' := Lib.hid hE'
  have HAP2 := Lib.hid hap2
  have HL := Lib.hid hl
  have HLT := Lib.hid hlt
  rw [hl] at c1
  clear hmid hat hE' hap2 r hlv hl hlt hx hh hv hE hap ha1 ho
  go_enter Tryz.func317, Tryz.ntmps317
  go_upto_region 4 with (first
    | (at_lookup; refine wpList_imap_look_ok rfl _ _ rfl mapTy mb _ _ rfl HM.out (x : Int) rfl (WalkArith.wf_i64 (by omega)) ?_; rw [HNO.out]))
  go_upto_region 5 with (first
    | (at_builtin; refine wpList_push _ 3 (.int .i64 (x : Int)) (0,0) rfl (.tmp 23) (.tmp 25) 28 rfl (.int .i64 0) 8 Tryz.underlying28 Rg.Tryz.infoInt rfl rfl _ n (Rg.nCells Lm) (by simp [Act.eval]) hrow (by simp [Act.eval]) (by unfold maxLen; omega) (by omega) ?_; intro g' cap' w4 hr4 hk4 hf4; obtain ⟨f4, ⟨u4, c4⟩, hh4, ho4, kp4, fp4⟩ := HMID.out w4 g' cap' hr4 hk4 hf4; clear hr4 hk4 hf4))
  generalize w4.setCell ⟨p,1,none⟩ (.slice (some ⟨g',0,none⟩) (n + 1) cap') = w5 at *
  have d1 := hh4.c1
  have hup := row_up w5 pn pc Fc cap hs E p d (some ⟨g',0,none⟩) cap' mb (n + 1) _ n none hh4 ho4 ha2 HE'.out (by omega) (by omega) hd1 hd2 HAT.out (HAP2.out g' fp4)
  simp only [if_true] at hup
  clear c4 f4 c1 c2 f1
  go_wp2_with (go_at_call 324; refine hup.mono ?_; rintro e w6 ⟨i', v',rfl, hi', hf6, ho6, hv6, hs6, hk6, hres⟩)
  go_ret
  have hd6 : Ord (ahead E) v' (n + 1) := ordOf hv6 (fun j hj => by obtain ⟨k, hk, e⟩ := (hs6 (v' j)).1 ⟨j, hj,rfl⟩; rw [← e]; exact HE'.out k hk)
  refine ⟨some ⟨g',0,none⟩, cap', v',rfl, hf6, ho6, hv6,?_,?_,?_, fp4⟩
  · intro z
    rw [hs6 z]
    constructor
    · rintro ⟨j, hj, e⟩
      simp only at e
      by_cases c : j = n
      · rw [if_pos c] at e; exact .inl e.symm
      · rw [if_neg c] at e; exact .inr ⟨j,by omega, e⟩
    · rintro (rfl | ⟨j, hj, e⟩)
      · exact ⟨n,by omega,by simp⟩
      · exact ⟨j,by omega,by simp only [if_neg (show j ≠ n by omega)]; exact e⟩
  · rcases hres with ⟨rfl,rfl, hst⟩ | ⟨_, hh⟩
    · refine (HAT.out.down hd1 hd6 (by omega) ?_).last hd1 (by omega)
      simpa using hst
    · exact hh
  · refine kp4.mono (fun b hb => .inl (by simp [hb])) |>.trans hk6 (fun b hb => ?_)
    simp only [List.mem_append] at hb ⊢
    rcases hb with hb | hb
    · rcases fp4 b hb with c | c
      · exact .inl (.inl c)
      · exact .inr c
    · exact .inl (.inr hb)
end
section
variable (w : World) (pn pc : Nat) (Fc : List Nat) (cap hs : Nat) (E : Ent) (p d : Nat) (ao : Option Addr) (ca mb n : Nat)
def RemDone (v : Nat → Nat) (x : Nat) (e : Ending) (w' : World) : Prop :=
  ∃ v' : Nat → Nat, e = .returned (.bool true) ∧ RowFull w' p d ao ca mb n v' ∧ OrdAt w' pn pc Fc cap hs E ∧ Inj v' n ∧ (∀ z, (∃ j, j < n ∧ v' j = z) ↔ z ≠ x ∧ ∃ j, j < n + 1 ∧ v j = z) ∧ Heap' d (ahead E) v' n ∧ Keeps (rfp p mb ao ++ Fc) w w'
theorem row_remove (v : Nat → Nat) (i : Nat) (hr : RowFull w p d ao ca mb (n + 1) v) (ho : OrdAt w pn pc Fc cap hs E) (hv : Inj v (n + 1)) (hE : ∀ j, j < n + 1 → (E (v j)).isSome) (hi : i < n + 1) (hn : n + 1 ≤ 65536) (hd1 : 2 ≤ d) (hd2 : d ≤ 16)
    (hh : Heap' d (ahead E) v (n + 1)) (hap : ∀ b ∈ rfp p mb ao, b ∉ pn :: Fc) :
    Calls Tryz.prog 311 #[.pointer (some ⟨p,0,none⟩), .iface 148 (.pointer (some ⟨pn,0,none⟩)), .int .i64 (v i : Nat)] w (RemDone w pn pc Fc cap hs E p d ao ca mb n v (v i)) := by
  have hbc := ho.ce.ok.bc
  have hxc := ho.ce.ok.lt (v i) (hE i hi)
  have hyc := ho.ce.ok.lt (v n) (hE n (by omega))
  obtain ⟨Lm, r, hl, hlv⟩ := hr
  have c1 := r.c1
  have c2 := r.c2
  rw [hl] at c1
  obtain ⟨g, hao, n1, n2, hgl, d1, _⟩ := r.at (i := n) (by omega)
  rw [hlv n (by omega)] at d1
  subst hao
  have f1 : w.frozen? ⟨p,1,none⟩ = false := frozen_of_blk r.blk
  have hpos := posF_at hv hi
  have hcap := row_cap r.row
  rw [hl] at hcap
  have hpl := r.lt p (by simp [rfp])
  have hml := r.lt mb (by simp [rfp])
  have hpm := r.ne
  have hpop := r.pop hl
  have hk1 : Keeps [p] w (w.setCell ⟨p,1,none⟩ (.slice (some ⟨g,0,none⟩) n ca)) := (Keeps.refl _ _).setCell (.inl (by simp)) _
  have hmid : ∀ W5 W6 : World, W5.heap = (w.setCell ⟨p,1,none⟩ (.slice (some ⟨g,0,none⟩) n ca)).heap → W5.os = w.os → W5.tape = w.tape → W5.output = w.output → W5.grownBy W6 (some mb) →
      IMap Tryz.prog 3 W6 mb n (fun z => if z = (v i : Int) then none else posF v (n + 1) z) →
      Keeps (rfp p mb (some ⟨g,0,none⟩)) w W6 ∧ RowRaw W6 p d (some ⟨g,0,none⟩) ca mb (Lm.take n) n (fun z => if z = (v i : Int) then none else posF v (n + 1) z) := by
    intro W5 W6 e1 e2 e3 e4 hg hm
    have k5 : Keeps [p] w W5 := ⟨by rw [e2],by rw [e3],by rw [e4],by rw [e1]; exact hk1.size,fun k a b => by rw [e1]; exact hk1.block k a b⟩
    have k6 : Keeps [mb] W5 W6 := (Keeps.refl _ _).grown hg (by simp)
    have r5 := hpop.like e1
    refine ⟨(k5.mono (T := rfp p mb (some ⟨g,0,none⟩)) (by simp [rfp])).trans k6 (by simp [rfp]), ⟨k6.blk r5.blk (by simpa using hpm), ir_keep r5.row k6 (fun x e => by cases e; simpa using n2), hm, hpm, r5.na⟩⟩
  have hmap5 : ∀ W5 : World, W5.heap = (w.setCell ⟨p,1,none⟩ (.slice (some ⟨g,0,none⟩) n ca)).heap → IMap Tryz.prog 3 W5 mb (n + 1) (posF v (n + 1)) ∧ W5.cell? ⟨p,2,none⟩ = some (.map (some mb)) := fun W5 e =>
    ⟨(hpop.like e).map, (hpop.like e).c2⟩
  have HM := Lib.hid r.map
  have HPOS := Lib.hid hpos
  have HMID := Lib.hid hmid
  have HMAP5 := Lib.hid hmap5
  have HLV := Lib.hid hlv
  have HL := Lib.hid hl
  have HO := Lib.hid ho
  have HAP := Lib.hid hap
  have HH := Lib.hid hh
  have HE := Lib.hid hE
  have HV := Lib.hid hv
  clear hmid hmap5 r hlv hl hpop hk1 hpos ho hap hh hE hv
  have hn3 : (n : Int) < ((n + 1 : Nat) : Int) := by omega
  go_enter Tryz.func311, Tryz.ntmps311
  go_upto_region 4 with (first
    | (at_lookup; refine wpList_imap_look_ok rfl _ _ rfl mapTy mb _ _ rfl HM.out ((v i : Nat) : Int) rfl (WalkArith.wf_i64 (by omega)) ?_; rw [HPOS.out]))
  go_quiet (fail)
  go_wp2_with fail
  go_region
  obtain ⟨W5, hW5⟩ : ∃ W5, W5 = (w.drewN (nq + 1)).setCell ⟨p,1,none⟩ (.slice (some ⟨g,0,none⟩) n ca) := ⟨_,rfl⟩
  obtain ⟨m5, e5⟩ := HMAP5.out W5 (by rw [hW5]; rfl)
  have hmid5 := fun W6 => HMID.out W5 W6 (by rw [hW5]; rfl) (by rw [hW5]; rfl) (by rw [hW5]; rfl) (by rw [hW5]; rfl)
  rw [← hW5]
  have HM5 := Lib.hid m5
  have HMID5 := Lib.hid hmid5
  clear hW5 HMAP5 HMID m5 hmid5 HM c1 c2 d1 f1
  go_upto_region 7 with (first
    | (at_delete; go_loud (refine wpList_imap_del rfl _ _ rfl mapTy mb _ _ rfl HM5.out ((v i : Nat) : Int) rfl (WalkArith.wf_i64 (by omega)) ?_; intro W6 hm6 hg6; have HM6 := Lib.hid hm6; have HG6 := Lib.hid hg6; clear hm6 hg6)))
  have hm6 := HM6.out
  rw [HPOS.out] at hm6
  simp only [Option.isSome_some, if_true, Nat.add_sub_cancel] at hm6
  obtain ⟨k6, r6⟩ := HMID5.out W6 HG6.out hm6
  have hl6 : (Lm.take n).length = n := by have := HL.out; simp; omega
  have hlv6 : ∀ j, j < n → Rg.fn (Lm.take n) j = v j := fun j hj => by
    rw [← HLV.out j (by omega)]
    simp [Rg.fn, List.getD, hj]
  have ho6 := HO.out.keep k6 (fun b hb e => HAP.out b e hb)
  clear HM6 HG6 HMID5 hm6 HM5
  by_cases hin : i = n
  · subst hin
    have R6 := Lib.hid r6
    have HLV6 := Lib.hid hlv6
    have HL6 := Lib.hid hl6
    clear r6 hlv6 hl6
    go_wp2_with fail
    go_ret
    have r7 := R6.out
    rw [hole_last HV.out] at r7
    refine ⟨v,rfl, ⟨_, r7, HL6.out, HLV6.out⟩, ho6,fun a b ha hb e => HV.out a b (by omega) (by omega) e,?_,fun j h0 hj => HH.out j h0 (by omega), k6.mono (fun b hb => .inl (by simp [hb]))⟩
    intro z
    constructor
    · rintro ⟨j, hj,rfl⟩
      exact ⟨fun e => by have := HV.out j i (by omega) (by omega) e; omega, j,by omega,rfl⟩
    · rintro ⟨hz, j, hj,rfl⟩
      refine ⟨j,?_,rfl⟩
      rcases Nat.lt_or_ge j i with c | c
      · exact c
      · obtain rfl : j = i := by omega
        exact absurd rfl hz
  · have hin2 : i < n := by omega
    have hvn : v n ≠ v i := fun e => hin (HV.out n i (by omega) (by omega) e).symm
    have hvb : (((v n : Nat) : Int) == ((v i : Nat) : Int)) = false := by rw [beq_eq_false_iff_ne]; omega
    obtain ⟨t1, t2⟩ := hole_take HV.out hin2
    rw [t1] at r6
    have hE2 : ∀ j, j < n → (E ((fun k => if k = i then v n else v k) j)).isSome := by
      intro j hj
      by_cases e : j = i
      · simp only [if_pos e]; exact HE.out n (by omega)
      · simp only [if_neg e]; exact HE.out j (by omega)
    have hord : Ord (ahead E) v (n + 1) := ordOf HV.out HE.out
    have hat := HH.out.refill hd1 hord hin2
    have hh6 : RowHole W6 p d (some ⟨g,0,none⟩) ca mb n (fun k => if k = i then v n else v k) i (some (n : Int)) := ⟨_, n, r6, hl6,fun j hj hji => by rw [hlv6 j hj]; simp only [if_neg hji],by simp⟩
    have hup := row_up W6 pn pc Fc cap hs E p d (some ⟨g,0,none⟩) ca mb n _ i _ hh6 ho6 t2 hE2 hin2 (by omega) hd1 hd2 hat HAP.out
    simp only [if_true] at hup
    have hord2 : Ord (ahead E) (fun k => if k = i then v n else v k) n := ordOf t2 hE2
    have hset : ∀ z, (∃ j, j < n ∧ (fun k => if k = i then v n else v k) j = z) ↔ z ≠ v i ∧ ∃ j, j < n + 1 ∧ v j = z := by
      intro z
      constructor
      · rintro ⟨j, hj, e⟩
        simp only at e
        by_cases c : j = i
        · rw [if_pos c] at e; subst e; exact ⟨hvn, n,by omega,rfl⟩
        · rw [if_neg c] at e; subst e; exact ⟨fun e => c (HV.out j i (by omega) (by omega) e), j,by omega,rfl⟩
      · rintro ⟨hz, j, hj,rfl⟩
        rcases Nat.lt_or_ge j n with c | c
        · exact ⟨j, c,by simp only [if_neg (show j ≠ i from fun e => hz (by rw [e]))]⟩
        · obtain rfl : j = n := by omega
          exact ⟨i, hin2,by simp⟩
    have T2 := Lib.hid t2
    have HE2 := Lib.hid hE2
    have HATT := Lib.hid hat
    have HORD2 := Lib.hid hord2
    have HSET := Lib.hid hset
    clear t1 t2 r6 hl6 hlv6 hE2 hord hat hh6 hord2 hset hvn hin
    go_upto_region 9 with fail
    go_upto_if 61 with (go_at_call 324; refine hup.mono ?_; rintro e w7 ⟨i', v',rfl, hi', hf7, ho7, hv7, hs7, hk7, hres⟩)
    rcases hres with ⟨rfl,rfl, hst⟩ | ⟨hne, hh7⟩
    · have hdn := HATT.out.down hd1 HORD2.out hin2 (by simpa using hst)
      have hdown := row_down w7 pn pc Fc cap hs E p d (some ⟨g,0,none⟩) ca mb n _ i' _ (hf7.hole T2.out hin2) ho7 T2.out HE2.out hin2 (by omega) hd1 hd2 hdn HAP.out
      simp only [if_true] at hdown
      clear hst hdn hf7
      go_wp2_with (go_at_call 325; refine hdown.mono ?_; rintro e w8 ⟨v'',rfl, hf8, ho8, hv8, hs8, hk8, hh8⟩)
      go_ret
      exact ⟨v'',rfl, hf8, ho8, hv8,fun z => (hs8 z).trans (HSET.out z), hh8, ((k6.mono (T := rfp p mb (some ⟨g,0,none⟩) ++ Fc) (fun b hb => .inl (by simp [hb]))).trans hk7 (fun b hb => .inl hb)).trans hk8 (fun b hb => .inl hb)⟩
    · have hneb : ((i' : Int) == (i : Int)) = false := by rw [beq_eq_false_iff_ne]; omega
      clear hup
      go_wp2_with fail
      go_ret
      exact ⟨v',rfl, hf7, ho7, hv7,fun z => (hs7 z).trans (HSET.out z), hh7, (k6.mono (T := rfp p mb (some ⟨g,0,none⟩) ++ Fc) (fun b hb => .inl (by simp [hb]))).trans hk7 (fun b hb => .inl hb)⟩
end
structure RowR where
  p : Nat
  mb : Nat
  ao : Option Addr
  ca : Nat
  n : Nat
  v : Nat → Nat
def RowR.fp (r : RowR) : List Nat := rfp r.p r.mb r.ao
def nestF (p g : Nat) (Fc : List Nat) (hs : Nat) (foot : Nat → List Nat) : List Nat := p :: g :: (Fc ++ (List.range hs).flatMap fun i => foot (i + 1))
theorem nestF_mem {p g : Nat} {Fc : List Nat} {hs : Nat} {foot : Nat → List Nat} {b : Nat} : b ∈ nestF p g Fc hs foot ↔ b = p ∨ b = g ∨ b ∈ Fc ∨ ∃ i, 1 ≤ i ∧ i ≤ hs ∧ b ∈ foot i := by
  simp only [nestF, List.mem_cons, List.mem_append, List.mem_flatMap, List.mem_range]
  constructor
  · rintro (c | c | c | ⟨i, hi, c⟩)
    · exact .inl c
    · exact .inr (.inl c)
    · exact .inr (.inr (.inl c))
    · exact .inr (.inr (.inr ⟨i + 1,by omega,by omega, c⟩))
  · rintro (c | c | c | ⟨i, h1, h2, c⟩)
    · exact .inl c
    · exact .inr (.inl c)
    · exact .inr (.inr (.inl c))
    · exact .inr (.inr (.inr ⟨i - 1,by omega,by rw [show i - 1 + 1 = i by omega]; exact c⟩))
def rowsV (r : Nat → Nat) (n : Nat) : List Value := (List.range n).map fun i => if i = 0 then .pointer none else .pointer (some ⟨r i,0,none⟩)
theorem rowsV_at (r : Nat → Nat) (n i : Nat) (h0 : 1 ≤ i) (h1 : i < n) : (rowsV r n)[i]? = some (.pointer (some ⟨r i,0,none⟩)) := by
  simp [rowsV, h1, show i ≠ 0 by omega]
theorem rowsV_snoc (r : Nat → Nat) (n : Nat) (h0 : 1 ≤ n) : rowsV r (n + 1) = rowsV r n ++ [.pointer (some ⟨r n,0,none⟩)] := by
  simp [rowsV, List.range_succ, show n ≠ 0 by omega]
theorem rowsV_congr {r r' : Nat → Nat} {n : Nat} (h : ∀ i, 1 ≤ i → i < n → r' i = r i) : rowsV r' n = rowsV r n := by
  apply List.ext_getElem (by simp [rowsV])
  intro i h1 h2
  simp only [rowsV, List.length_map, List.length_range] at h1
  simp only [rowsV, List.getElem_map, List.getElem_range]
  by_cases c : i = 0
  · simp [c]
  · simp only [if_neg c]; rw [h i (by omega) h1]
structure RowOk (E : Ent) (d g : Nat) (r : RowR) : Prop where
  inj : Inj r.v r.n
  mem : ∀ x, isIn E g x ↔ ∃ j, j < r.n ∧ r.v j = x
  heap : Heap' d (ahead E) r.v r.n
structure DaryP (w : World) (p pc gr rc d : Nat) (Fc : List Nat) (cap hs : Nat) (E : Ent) (R : Nat → RowR) : Prop where
  blk : w.heap[p]? = some (.cells #[.pointer (some ⟨pc,0,none⟩), .int .i64 (d : Int), .slice (some ⟨gr,0,none⟩) (hs + 1) rc] 208 (0,0))
  ce : CellsAt w Fc pc cap hs E
  rows : w.ownsRow 0 203 1 (.slice (some ⟨gr,0,none⟩) (hs + 1) rc) (hs + 1) (rowsV (fun i => (R i).p) (hs + 1))
  ne : p ≠ gr ∧ p ∉ Fc ∧ gr ∉ Fc
  own : ∀ g, 1 ≤ g → g ≤ hs → ∀ b ∈ (R g).fp, b ≠ p ∧ b ≠ gr ∧ b ∉ Fc
  dis : ∀ g g', 1 ≤ g → g ≤ hs → 1 ≤ g' → g' ≤ hs → g ≠ g' → ∀ b ∈ (R g).fp, b ∉ (R g').fp
  mem : ∀ g, 1 ≤ g → g ≤ hs → RowFull w (R g).p d (R g).ao (R g).ca (R g).mb (R g).n (R g).v
  ok : ∀ g, 1 ≤ g → g ≤ hs → RowOk E d g (R g)
  d1 : 2 ≤ d
  d2 : d ≤ 16
def DaryAt (w : World) (F : List Nat) (p cap hs : Nat) (E : Ent) : Prop :=
  ∃ (pc gr rc d : Nat) (Fc : List Nat) (R : Nat → RowR), F = nestF p gr Fc hs (fun g => (R g).fp) ∧ DaryP w p pc gr rc d Fc cap hs E R
section
variable {w w' : World} {p pc gr rc d cap hs : Nat} {F Fc S : List Nat} {E E' : Ent} {R : Nat → RowR}
theorem DaryP.lt (h : DaryP w p pc gr rc d Fc cap hs E R) : ∀ b ∈ nestF p gr Fc hs (fun g => (R g).fp), b < w.heap.size := by
  intro b hb
  rcases nestF_mem.1 hb with rfl | rfl | c | ⟨i, h1, h2, c⟩
  · exact lt_of_block h.blk
  · exact row_lt h.rows
  · exact h.ce.lt b c
  · exact (h.mem i h1 h2).lt b c
theorem DaryP.keep (h : DaryP w p pc gr rc d Fc cap hs E R) (k : Keeps S w w') (hS : ∀ b ∈ nestF p gr Fc hs (fun g => (R g).fp), b ∉ S) : DaryP w' p pc gr rc d Fc cap hs E R :=
  ⟨k.blk h.blk (hS p (nestF_mem.2 (.inl rfl))), h.ce.keep k (fun b hb => hS b (nestF_mem.2 (.inr (.inr (.inl hb))))), k.row h.rows (hS gr (nestF_mem.2 (.inr (.inl rfl)))), h.ne, h.own, h.dis,
    fun g h1 h2 => (h.mem g h1 h2).keep k (fun b hb => hS b (nestF_mem.2 (.inr (.inr (.inr ⟨g, h1, h2, hb⟩))))), h.ok, h.d1, h.d2⟩
theorem DaryAt.lt (h : DaryAt w F p cap hs E) : ∀ b ∈ F, b < w.heap.size := by obtain ⟨pc, gr, rc, d, Fc, R,rfl, h⟩ := h; exact h.lt
theorem DaryAt.mem (h : DaryAt w F p cap hs E) : p ∈ F := by obtain ⟨pc, gr, rc, d, Fc, R,rfl, h⟩ := h; exact nestF_mem.2 (.inl rfl)
theorem DaryAt.keep (h : DaryAt w F p cap hs E) (k : Keeps S w w') (hS : ∀ b ∈ F, b ∉ S) : DaryAt w' F p cap hs E := by
  obtain ⟨pc, gr, rc, d, Fc, R,rfl, h⟩ := h
  exact ⟨pc, gr, rc, d, Fc, R,rfl, h.keep k hS⟩
theorem DaryAt.ok (h : DaryAt w F p cap hs E) : EntOk E cap hs := by obtain ⟨pc, gr, rc, d, Fc, R,rfl, h⟩ := h; exact h.ce.ok
theorem DaryP.c0 (h : DaryP w p pc gr rc d Fc cap hs E R) : w.cell? ⟨p,0,none⟩ = some (.pointer (some ⟨pc,0,none⟩)) := by rw [cell_of_blk h.blk]; rfl
theorem DaryP.c2 (h : DaryP w p pc gr rc d Fc cap hs E R) : w.cell? ⟨p,2,none⟩ = some (.slice (some ⟨gr,0,none⟩) (hs + 1) rc) := by rw [cell_of_blk h.blk]; rfl
theorem DaryP.row (h : DaryP w p pc gr rc d Fc cap hs E R) {g : Nat} (h1 : 1 ≤ g) (h2 : g ≤ hs) : w.cell? ⟨gr,g,none⟩ = some (.pointer (some ⟨(R g).p,0,none⟩)) := by
  rw [h.rows.cellAt g (by omega)]
  exact rowsV_at _ _ _ h1 (by omega)
theorem DaryP.ord (h : DaryP w p pc gr rc d Fc cap hs E R) : OrdAt w p pc Fc cap hs E := ⟨h.c0, lt_of_block h.blk, h.ne.2.1, h.ce⟩
theorem DaryP.apart (h : DaryP w p pc gr rc d Fc cap hs E R) {g : Nat} (h1 : 1 ≤ g) (h2 : g ≤ hs) : ∀ b ∈ rfp (R g).p (R g).mb (R g).ao, b ∉ p :: Fc := fun b hb e => by
  obtain ⟨a1, a2, a3⟩ := h.own g h1 h2 b hb
  simp only [List.mem_cons] at e
  rcases e with e | e
  · exact a1 e
  · exact a3 e
theorem DaryP.isSome (h : DaryP w p pc gr rc d Fc cap hs E R) {g : Nat} (h1 : 1 ≤ g) (h2 : g ≤ hs) : ∀ j, j < (R g).n → (E ((R g).v j)).isSome := fun j hj => (((h.ok g h1 h2).mem _).2 ⟨j, hj,rfl⟩).some
theorem DaryP.change (h : DaryP w p pc gr rc d Fc cap hs E R) {g : Nat} (h1 : 1 ≤ g) (h2 : g ≤ hs) {r : RowR} (k : Keeps ((R g).fp ++ Fc) w w') (hp : r.p = (R g).p) (hf : ∀ b ∈ r.fp, b ∈ (R g).fp ∨ w.heap.size ≤ b)
    (hc : CellsAt w' Fc pc cap hs E') (hr : RowFull w' r.p d r.ao r.ca r.mb r.n r.v) (ho : RowOk E' d g r) (hoth : ∀ g', 1 ≤ g' → g' ≤ hs → g' ≠ g → RowOk E' d g' (R g')) :
    DaryP w' p pc gr rc d Fc cap hs E' (upd R g r) ∧ Moved (nestF p gr Fc hs (fun g => (R g).fp)) w (nestF p gr Fc hs (fun g' => (upd R g r g').fp)) w' := by
  have hlt := h.lt
  have hnot : ∀ b, b ∉ (R g).fp → b ∉ Fc → b ∉ (R g).fp ++ Fc := fun b a c e => by rcases List.mem_append.1 e with e | e; exact a e; exact c e
  have hpg : p ∉ (R g).fp := fun e => (h.own g h1 h2 p e).1 rfl
  have hgg : gr ∉ (R g).fp := fun e => (h.own g h1 h2 gr e).2.1 rfl
  have hD : DaryP w' p pc gr rc d Fc cap hs E' (upd R g r) := by
    refine ⟨k.blk h.blk (hnot p hpg h.ne.2.1), hc,?_, h.ne,?_,?_,?_,?_, h.d1, h.d2⟩
    · have := k.row h.rows (hnot gr hgg h.ne.2.2)
      rw [rowsV_congr (r := fun i => (R i).p) (r' := fun i => (upd R g r i).p)]
      · exact this
      · intro i a b
        by_cases c : i = g
        · subst c; simp only [upd_same]; exact hp
        · simp only [upd_other R r c]
    · intro g' a b x hx
      by_cases c : g' = g
      · subst c
        rw [upd_same] at hx
        rcases hf x hx with e | e
        · exact h.own g' a b x e
        · have l1 := hlt p (nestF_mem.2 (.inl rfl))
          have l2 := hlt gr (nestF_mem.2 (.inr (.inl rfl)))
          exact ⟨by omega,by omega,fun e2 => by have := h.ce.lt x e2; omega⟩
      · rw [upd_other R r c] at hx; exact h.own g' a b x hx
    · intro g1 g2 a1 a2 b1 b2 hne x hx hx2
      by_cases c1 : g1 = g
      · subst c1
        rw [upd_same] at hx
        rw [upd_other R r (fun e => hne e.symm)] at hx2
        rcases hf x hx with e | e
        · exact h.dis g1 g2 a1 a2 b1 b2 hne x e hx2
        · have := hlt x (nestF_mem.2 (.inr (.inr (.inr ⟨g2, b1, b2, hx2⟩)))); omega
      · rw [upd_other R r c1] at hx
        by_cases c2 : g2 = g
        · subst c2
          rw [upd_same] at hx2
          rcases hf x hx2 with e | e
          · exact h.dis g1 g2 a1 a2 b1 b2 hne x hx e
          · have := hlt x (nestF_mem.2 (.inr (.inr (.inr ⟨g1, a1, a2, hx⟩)))); omega
        · rw [upd_other R r c2] at hx2
          exact h.dis g1 g2 a1 a2 b1 b2 hne x hx hx2
    · intro g' a b
      by_cases c : g' = g
      · subst c; rw [upd_same]; exact hr
      · rw [upd_other R r c]
        exact (h.mem g' a b).keep k fun x hx => hnot x (fun e => h.dis g' g a b h1 h2 c x hx e) (fun e => (h.own g' a b x hx).2.2 e)
    · intro g' a b
      by_cases c : g' = g
      · subst c; rw [upd_same]; exact ho
      · rw [upd_other R r c]; exact hoth g' a b c
  refine ⟨hD, k.mono (fun b hb => .inl (nestF_mem.2 ?_)),fun b hb => ?_, hD.lt⟩
  · rcases List.mem_append.1 hb with e | e
    · exact .inr (.inr (.inr ⟨g, h1, h2, e⟩))
    · exact .inr (.inr (.inl e))
  · rcases nestF_mem.1 hb with e | e | e | ⟨g', a1, a2, e⟩
    · exact .inl (nestF_mem.2 (.inl e))
    · exact .inl (nestF_mem.2 (.inr (.inl e)))
    · exact .inl (nestF_mem.2 (.inr (.inr (.inl e))))
    · by_cases c : g' = g
      · subst c
        rw [upd_same] at e
        rcases hf b e with f | f
        · exact .inl (nestF_mem.2 (.inr (.inr (.inr ⟨g', a1, a2, f⟩))))
        · exact .inr f
      · rw [upd_other R r c] at e
        exact .inl (nestF_mem.2 (.inr (.inr (.inr ⟨g', a1, a2, e⟩))))
end
theorem isIn_put {E : Ent} {x y g h : Nat} {k : Int × Nat} : isIn (put E x (some (h, k))) g y ↔ (y = x ∧ g = h) ∨ (y ≠ x ∧ isIn E g y) := by
  by_cases c : y = x
  · subst c
    simp only [isIn, put_same, Option.some.injEq, Prod.mk.injEq]
    constructor
    · rintro ⟨k', e, _⟩; exact .inl ⟨trivial, e.symm⟩
    · rintro (⟨_, e⟩ | ⟨e, _⟩)
      · exact ⟨k, e.symm,rfl⟩
      · exact absurd rfl e
  · rw [isIn_put_other c]
    constructor
    · intro h; exact .inr ⟨c, h⟩
    · rintro (⟨e, _⟩ | ⟨_, h⟩)
      · exact absurd e c
      · exact h
theorem isIn_drop {E : Ent} {x y g : Nat} : isIn (put E x none) g y ↔ y ≠ x ∧ isIn E g y := by
  by_cases c : y = x
  · subst c
    simp [isIn, put_same]
  · rw [isIn_put_other c]; simp [c]
theorem RowOk.other {E : Ent} {d g x : Nat} {r : RowR} {o : Option (Nat × Int × Nat)} (h : RowOk E d g r) (hd : 2 ≤ d) (hx : ∀ j, j < r.n → r.v j ≠ x) (hm : ∀ y, isIn (put E x o) g y ↔ isIn E g y) : RowOk (put E x o) d g r :=
  ⟨h.inj,fun y => (hm y).trans (h.mem y), h.heap.cong hd (fun _ _ => rfl) fun i j hi hj => ahead_put_other (hx i hi) (hx j hj)⟩
section
variable (w : World) (F : List Nat) (p cap hs : Nat) (E : Ent)
theorem dary_min_yes (c : DaryAt w F p cap hs E) (h : Nat) (h1 : 1 ≤ h) (h2 : h ≤ hs) (hi : ∃ y, isIn E h y) :
    Calls Tryz.prog 307 #[.pointer (some ⟨p,0,none⟩), .int .i64 h] w fun e w' => (∃ x : Nat, e = .returned (.tuple #[.int .i64 x, .bool true]) ∧ least E h x) ∧ w = w' := by
  obtain ⟨pc, gr, rc, d, Fc, R,rfl, m⟩ := c
  have hhas := cells_has w Fc pc cap hs E m.ce h
  rw [decide_eq_true (by omega)] at hhas
  have c0 := m.c0
  have c2 := m.c2
  have c3 := m.row h1 h2
  have hok := m.ok h h1 h2
  obtain ⟨Lm, r, hl, hlv⟩ := m.mem h h1 h2
  have hn : 0 < (R h).n := by
    obtain ⟨y, hy⟩ := hi
    obtain ⟨j, hj, _⟩ := (hok.mem y).1 hy
    omega
  have hat := rw_at w _ _ _ _ _ Lm _ _ r (by omega)
  rw [hlv 0 hn] at hat
  have hord : Ord (ahead E) (R h).v (R h).n := ordOf hok.inj (m.isSome h1 h2)
  have hl := hok.heap.least m.d1 hord hn hok.mem
  have HL := Lib.hid hl
  have hhs3 : (h : Int) < ((hs + 1 : Nat) : Int) := by omega
  clear hl hok r hlv hn hord m hi
  go_enter Tryz.func307, Tryz.ntmps307
  go_wp2_with (first
    | (go_at_call 301; refine hhas.mono ?_; rintro e w' ⟨rfl,rfl⟩)
    | (go_at_call 322; refine hat.mono ?_; rintro e w' ⟨rfl,rfl⟩))
  go_ret2
  exact ⟨⟨_,rfl, HL.out⟩,rfl⟩
theorem dary_min_no (c : DaryAt w F p cap hs E) (h : Nat) (h1 : 1 ≤ h) (h2 : h ≤ hs) (hi : ∀ y, ¬ isIn E h y) :
    Calls Tryz.prog 307 #[.pointer (some ⟨p,0,none⟩), .int .i64 h] w fun e w' => e = .returned (.tuple #[.int .i64 0, .bool false]) ∧ w = w' := by
  obtain ⟨pc, gr, rc, d, Fc, R,rfl, m⟩ := c
  have hhas := cells_has w Fc pc cap hs E m.ce h
  rw [decide_eq_true (by omega)] at hhas
  have c0 := m.c0
  have c2 := m.c2
  have c3 := m.row h1 h2
  have hok := m.ok h h1 h2
  obtain ⟨Lm, r, hl, hlv⟩ := m.mem h h1 h2
  have hn : (R h).n = 0 := by
    rcases Nat.eq_zero_or_pos (R h).n with e | e
    · exact e
    · exact absurd ((hok.mem _).2 ⟨0, e,rfl⟩) (hi _)
  have hat := rw_at_no w _ _ _ _ _ Lm _ _ r (by omega)
  have hhs3 : (h : Int) < ((hs + 1 : Nat) : Int) := by omega
  clear hl hok r hlv hn m hi
  go_enter Tryz.func307, Tryz.ntmps307
  go_wp2_with (first
    | (go_at_call 301; refine hhas.mono ?_; rintro e w' ⟨rfl,rfl⟩)
    | (go_at_call 322; refine hat.mono ?_; rintro e w' ⟨rfl,rfl⟩))
  go_ret2
  exact ⟨rfl,rfl⟩
def DaryIn (w : World) (F : List Nat) (p cap hs : Nat) (E' : Ent) (e : Ending) (w' : World) : Prop := e = .returned (.bool true) ∧ ∃ F', DaryAt w' F' p cap hs E' ∧ Moved F w F' w'
theorem dary_insert (c : DaryAt w F p cap hs E) (h x q : Nat) (k : Int) (h1 : 1 ≤ h) (h2 : h ≤ hs) (hx : x < cap) (he : E x = none) (hk : (Lit.int .i64 k).wf = true) (hq : (Lit.int .u64 (q : Int)).wf = true) :
    Calls Tryz.prog 303 #[.pointer (some ⟨p,0,none⟩), .int .i64 h, .int .i64 x, .agg #[.int .i64 k, .int .u64 (q : Int)]] w (DaryIn w F p cap hs (put E x (some (h, k, q)))) := by
  have hlt := c.lt
  obtain ⟨pc, gr, rc, d, Fc, R,rfl, m⟩ := c
  have hbc := m.ce.ok.bc
  have hb0 : Below w.heap.size w (w.alloc (.cells #[.int .i64 k, .int .u64 (q : Int)] 104)) := (Below.refl _ w).alloc (Nat.le_refl _) _
  have e0 : (w.alloc (.cells #[.int .i64 k, .int .u64 (q : Int)] 104)).cell? ⟨w.heap.size,0,none⟩ = some (.int .i64 k) := by rw [cell_of_blk (blk_alloc_new _)]; rfl
  have e1 : (w.alloc (.cells #[.int .i64 k, .int .u64 (q : Int)] 104)).cell? ⟨w.heap.size,1,none⟩ = some (.int .u64 (q : Int)) := by rw [cell_of_blk (blk_alloc_new _)]; rfl
  have m0 := m.keep (S := []) (Below.keeps hb0 (Nat.le_refl _) []) (by simp)
  have hw0 : w.heap.size < (w.alloc (.cells #[.int .i64 k, .int .u64 (q : Int)] 104)).heap.size := by simp
  have hkw : Keeps [] w (w.alloc (.cells #[.int .i64 k, .int .u64 (q : Int)] 104)) := Below.keeps hb0 (Nat.le_refl _) []
  have hhs3 : (h : Int) < ((hs + 1 : Nat) : Int) := by omega
  have hhs4 : (h : Int) < (hs : Int) + 1 := by omega
  have hmv := Moved.below hlt hb0
  have hnx : ∀ j, j < (R h).n → (R h).v j ≠ x := fun j hj e => by have := m.isSome h1 h2 j hj; rw [e, he] at this; cases this
  clear m
  go_enter Tryz.func303, Tryz.ntmps303
  go_upto_region 1 with fail
  generalize hW0 : w.alloc (.cells #[.int .i64 k, .int .u64 (q : Int)] 104) = w0 at *
  clear hW0
  have d0 := m0.c0
  have d2 := m0.c2
  have d3 := m0.row h1 h2
  have hS : ∀ u, Keeps ((R h).fp ++ Fc) w0 u → u.cell? ⟨p,0,none⟩ = some (.pointer (some ⟨pc,0,none⟩)) ∧ u.cell? ⟨p,2,none⟩ = some (.slice (some ⟨gr,0,none⟩) (hs + 1) rc) ∧ u.cell? ⟨gr,h,none⟩ = some (.pointer (some ⟨(R h).p,0,none⟩)) ∧ u.cell? ⟨w.heap.size,0,none⟩ = some (.int .i64 k) ∧ u.cell? ⟨w.heap.size,1,none⟩ = some (.int .u64 (q : Int)) := fun u kk =>
    have hp : p ∉ (R h).fp ++ Fc := fun e => by rcases List.mem_append.1 e with e | e; exact (m0.own h h1 h2 p e).1 rfl; exact m0.ne.2.1 e
    have hg : gr ∉ (R h).fp ++ Fc := fun e => by rcases List.mem_append.1 e with e | e; exact (m0.own h h1 h2 gr e).2.1 rfl; exact m0.ne.2.2 e
    have hz : w.heap.size ∉ (R h).fp ++ Fc := fun e => Nat.lt_irrefl _ (hlt _ (nestF_mem.2 (by rcases List.mem_append.1 e with e | e; exact .inr (.inr (.inr ⟨h, h1, h2, e⟩)); exact .inr (.inr (.inl e)))))
    ⟨(World.cell?_of_block (a := ⟨p,0,none⟩) (kk.block p (lt_of_block m0.blk) hp)).trans d0, (World.cell?_of_block (a := ⟨p,2,none⟩) (kk.block p (lt_of_block m0.blk) hp)).trans d2, (World.cell?_of_block (a := ⟨gr,h,none⟩) (kk.block gr (row_lt m0.rows) hg)).trans d3,
      (World.cell?_of_block (a := ⟨_,0,none⟩) (kk.block _ hw0 hz)).trans e0, (World.cell?_of_block (a := ⟨_,1,none⟩) (kk.block _ hw0 hz)).trans e1⟩
  have kdr : Keeps ((R h).fp ++ Fc) w0 w0.drew := ⟨rfl,rfl,rfl, Nat.le_refl _,fun _ _ _ => rfl⟩
  have hput := fun u (hu : CellsAt u Fc pc cap hs E) => cells_put u Fc pc cap hs E hu h x q k h1 h2 hx he hk hq
  have hE2 : ∀ j, j < (R h).n → (put E x (some (h, k, q)) ((R h).v j)).isSome := fun j hj => by rw [put_other E x _ (hnx j hj)]; exact m0.isSome h1 h2 j hj
  have hrok := m0.ok h h1 h2
  have hheap : Heap' d (ahead (put E x (some (h, k, q)))) (R h).v (R h).n := hrok.heap.cong m0.d1 (fun _ _ => rfl) fun i j hi hj => ahead_put_other (hnx i hi) (hnx j hj)
  have hnle : (R h).n + 1 ≤ 65536 := by
    have : (R h).n + 1 ≤ cap := by
      have h5 := nodup_len (n := cap) (l := x :: (List.range (R h).n).map (R h).v) (by
        rw [List.nodup_cons]
        refine ⟨fun e => ?_,?_⟩
        · obtain ⟨j, hj, e⟩ := List.mem_map.1 e
          exact hnx j (List.mem_range.1 hj) e
        · exact List.pairwise_map.2 (List.Pairwise.imp_of_mem (fun {a b} ha hb hne e => hne (hrok.inj a b (List.mem_range.1 ha) (List.mem_range.1 hb) e)) List.nodup_range)) (by
        intro y hy
        simp only [List.mem_cons, List.mem_map, List.mem_range] at hy
        rcases hy with rfl | ⟨j, hj,rfl⟩
        · exact hx
        · exact m0.ce.ok.lt _ (m0.isSome h1 h2 j hj))
      simpa using h5
    omega
  have hadd := fun u (ho : OrdAt u p pc Fc cap hs (put E x (some (h, k, q)))) (hr : RowFull u (R h).p d (R h).ao (R h).ca (R h).mb (R h).n (R h).v) =>
    row_add u p pc Fc cap hs _ (R h).p d (R h).ao (R h).ca (R h).mb (R h).n (R h).v x hr ho hrok.inj hE2 (by rw [put_same]; rfl) hnx hnle m0.d1 m0.d2 hheap (m0.apart h1 h2)
  have HADD := Lib.hid hadd
  have HPUT := Lib.hid hput
  have HX := Lib.hid hnx
  have HE := Lib.hid he
  clear hadd hput hE2 hheap hrok hnx hlt he
  go_region_held3 (fun u => u.cell? ⟨p,0,none⟩ = some (.pointer (some ⟨pc,0,none⟩)) ∧ u.cell? ⟨p,2,none⟩ = some (.slice (some ⟨gr,0,none⟩) (hs + 1) rc) ∧ u.cell? ⟨gr,h,none⟩ = some (.pointer (some ⟨(R h).p,0,none⟩)) ∧ u.cell? ⟨w.heap.size,0,none⟩ = some (.int .i64 k) ∧ u.cell? ⟨w.heap.size,1,none⟩ = some (.int .u64 (q : Int)))
    (first | exact hS _ kdr | exact q1 | exact q2)
    (first
      | (go_at_call 316; refine (HPUT.out _ (by exact m0.ce.drew)).mono ?_; rintro e w1 ⟨rfl, hc1, hk1⟩; have k1 : Keeps Fc w0 w1 := hk1.ofDrew; have q1 := hS w1 (k1.mono fun b hb => .inl (by simp [hb])))
      | (go_at_call 317; refine (HADD.out _ ⟨q1.1, Nat.lt_of_lt_of_le (lt_of_block m0.blk) k1.size, m0.ne.2.1, hc1⟩ ((m0.mem h h1 h2).keep k1 (fun b hb e => (m0.own h h1 h2 b hb).2.2 e))).mono ?_; rintro e w2 ⟨ao', ca', v',rfl, hf2, ho2, hv2, hm2, hh2, k2, fp2⟩; have q2 := hS w2 ((k1.mono fun b hb => .inl (by simp [hb])).trans k2 fun b hb => .inl (by simpa [RowR.fp] using hb))))
  all_goals
    have kw : Keeps ((R h).fp ++ Fc) w0 w2 := (k1.mono (T := (R h).fp ++ Fc) fun b hb => .inl (by simp [hb])).trans k2 fun b hb => .inl (by simpa [RowR.fp] using hb)
    have hrok := m0.ok h h1 h2
    have hch := m0.change h1 h2 (E' := put E x (some (h, k, q))) (r := { p := (R h).p, mb := (R h).mb, ao := ao', ca := ca', n := (R h).n + 1, v := v' }) kw rfl
      (fun b hb => by rcases fp2 b hb with c | c; exact .inl c; exact .inr (Nat.le_trans k1.size c)) ho2.ce hf2
      ⟨hv2,fun z => by
        show _ ↔ ∃ j, j < (R h).n + 1 ∧ v' j = z
        rw [hm2 z, isIn_put, ← hrok.mem z]
        constructor
        · rintro (⟨c, _⟩ | ⟨_, c⟩)
          · exact .inl c
          · exact .inr c
        · rintro (c | c)
          · exact .inl ⟨c,rfl⟩
          · refine .inr ⟨?_, c⟩
            obtain ⟨j, hj, e⟩ := (hrok.mem z).1 c
            rw [← e]; exact HX.out j hj, hh2⟩
      (fun g' a b c => (m0.ok g' a b).other m0.d1 (fun j hj e => by have := m0.isSome a b j hj; rw [e, HE.out] at this; cases this) fun y => by
        rw [isIn_put]
        constructor
        · rintro (⟨_, e⟩ | ⟨_, e⟩)
          · exact absurd e c
          · exact e
        · intro e
          refine .inr ⟨?_, e⟩
          rintro rfl
          have := e.some
          rw [HE.out] at this; cases this)
    have HCH := Lib.hid hch
    clear hch hS q1 q2 kdr
    go_wp2_with fail
    go_ret
    exact ⟨rfl, _, ⟨pc, gr, rc, d, Fc, _,rfl, HCH.out.1⟩, hmv.trans HCH.out.2⟩
end
section
variable (w : World) (F : List Nat) (p cap hs : Nat) (E : Ent)
theorem dary_delete (c : DaryAt w F p cap hs E) (h x : Nat) (hx : isIn E h x) :
    Calls Tryz.prog 298 #[.pointer (some ⟨p,0,none⟩), .int .i64 x] w (DaryIn w F p cap hs (put E x none)) := by
  have hlt := c.lt
  obtain ⟨pc, gr, rc, d, Fc, R,rfl, m⟩ := c
  have hbc := m.ce.ok.bc
  obtain ⟨h1, h2⟩ : 1 ≤ h ∧ h ≤ hs := by obtain ⟨k, e⟩ := hx; exact m.ce.ok.heap x h k e
  have hrok := m.ok h h1 h2
  obtain ⟨i, hi, hvi⟩ := (hrok.mem x).1 hx
  obtain ⟨n, hn⟩ : ∃ n, (R h).n = n + 1 := ⟨(R h).n - 1,by omega⟩
  have hfull := m.mem h h1 h2
  have hinj := hrok.inj
  have hheap := hrok.heap
  have hsome := m.isSome h1 h2
  rw [hn] at hfull hinj hheap hsome hi
  have hnle : n + 1 ≤ 65536 := by
    have h5 := nodup_len (n := cap) (l := (List.range (n + 1)).map (R h).v)
      (List.pairwise_map.2 (List.Pairwise.imp_of_mem (fun {a b} ha hb hne e => hne (hinj a b (List.mem_range.1 ha) (List.mem_range.1 hb) e)) List.nodup_range)) (by
        intro y hy
        obtain ⟨j, hj,rfl⟩ := List.mem_map.1 hy
        exact m.ce.ok.lt _ (hsome j (List.mem_range.1 hj)))
    simp at h5
    omega
  have hhome := cells_home w Fc pc cap hs E m.ce x h hx
  have hdr : ∀ a, DaryP (w.drewN a) p pc gr rc d Fc cap hs E R := fun a => m.keep (S := []) ⟨rfl,rfl,rfl, Nat.le_refl _,fun _ _ _ => rfl⟩ (by simp)
  have hrem := fun a => row_remove (w.drewN a) p pc Fc cap hs E (R h).p d (R h).ao (R h).ca (R h).mb n (R h).v i (hfull.keep (S := []) ⟨rfl,rfl,rfl, Nat.le_refl _,fun _ _ _ => rfl⟩ (by simp)) (hdr a).ord hinj hsome hi hnle m.d1 m.d2 hheap (m.apart h1 h2)
  rw [hvi] at hrem
  have hdrop := fun u (hu : CellsAt u Fc pc cap hs E) => cells_drop u Fc pc cap hs E hu x h hx
  have d0 := m.c0
  have d2 := m.c2
  have d3 := m.row h1 h2
  have hS : ∀ u, Keeps ((R h).fp ++ Fc) w u → u.cell? ⟨p,0,none⟩ = some (.pointer (some ⟨pc,0,none⟩)) := fun u kk =>
    have hp : p ∉ (R h).fp ++ Fc := fun e => by rcases List.mem_append.1 e with e | e; exact (m.own h h1 h2 p e).1 rfl; exact m.ne.2.1 e
    (World.cell?_of_block (a := ⟨p,0,none⟩) (kk.block p (lt_of_block m.blk) hp)).trans d0
  have hfin : ∀ (w2 w3 : World) (v' : Nat → Nat), RowFull w2 (R h).p d (R h).ao (R h).ca (R h).mb n v' → OrdAt w2 p pc Fc cap hs E → Inj v' n → (∀ z, (∃ j, j < n ∧ v' j = z) ↔ z ≠ x ∧ ∃ j, j < n + 1 ∧ (R h).v j = z) → Heap' d (ahead E) v' n → Keeps (rfp (R h).p (R h).mb (R h).ao ++ Fc) w w2 →
      CellsAt w3 Fc pc cap hs (put E x none) → Keeps Fc w2 w3 → DaryIn w (nestF p gr Fc hs fun g => (R g).fp) p cap hs (put E x none) (.returned (.bool true)) w3 := by
    intro w2 w3 v' hf2 ho2 hv2 hm2 hh2 k2 hc3 k3
    have hne : ∀ j, j < n → v' j ≠ x := fun j hj => ((hm2 (v' j)).1 ⟨j, hj,rfl⟩).1
    have hch := m.change h1 h2 (w' := w3) (E' := put E x none) (r := { p := (R h).p, mb := (R h).mb, ao := (R h).ao, ca := (R h).ca, n := n, v := v' }) (k2.trans k3 fun b hb => .inl (by simp [hb])) rfl
      (fun b hb => .inl hb) hc3 (hf2.keep k3 fun b hb e => (m.own h h1 h2 b hb).2.2 e)
      ⟨hv2,fun z => by
        show _ ↔ ∃ j, j < n ∧ v' j = z
        rw [hm2 z, isIn_drop, hrok.mem z, hn], hh2.cong m.d1 (fun _ _ => rfl) fun i j hi hj => ahead_put_other (hne i hi) (hne j hj)⟩
      (fun g' a b c => (m.ok g' a b).other m.d1 (fun j hj e => c (isIn_one (((m.ok g' a b).mem x).2 ⟨j, hj, e⟩) hx)) fun y => by
        rw [isIn_drop]
        constructor
        · exact fun e => e.2
        · intro e
          refine ⟨?_, e⟩
          rintro rfl
          exact c (isIn_one e hx))
    exact ⟨rfl, _, ⟨pc, gr, rc, d, Fc, _,rfl, hch.1⟩, hch.2⟩
  have hhs3 : (h : Int) < ((hs + 1 : Nat) : Int) := by omega
  have hhs4 : (h : Int) < (hs : Int) + 1 := by omega
  have HF := Lib.hid hfin
  have HR := Lib.hid hrem
  have HD := Lib.hid hdrop
  have HS := Lib.hid hS
  clear hfin hrem hdrop hS m hrok hvi hfull hinj hheap hsome hdr hlt hx hn
  go_enter Tryz.func298, Tryz.ntmps298
  go_wp2_with (first
    | (go_at_call 302; refine hhome.mono ?_; rintro e w' ⟨rfl, n1,rfl⟩)
    | (go_at_call 311; refine (HR.out n1).mono ?_; rintro e w2 ⟨v',rfl, hf2, ho2, hv2, hm2, hh2, k2⟩; have e0 := HS.out w2 k2.ofDrewN)
    | (go_at_call 312; refine (HD.out _ ho2.ce).mono ?_; rintro e w3 ⟨rfl, hc3, k3⟩))
  go_ret
  exact HF.out w2 w3 v' hf2 ho2 hv2 hm2 hh2 k2.ofDrewN hc3 k3
def DaryExt (w : World) (F : List Nat) (p cap hs : Nat) (E : Ent) (h : Nat) (e : Ending) (w' : World) : Prop :=
  ∃ x : Nat, e = .returned (.tuple #[.int .i64 x, .bool true]) ∧ least E h x ∧ ∃ F', DaryAt w' F' p cap hs (put E x none) ∧ Moved F w F' w'
theorem dary_extract (c : DaryAt w F p cap hs E) (h : Nat) (h1 : 1 ≤ h) (h2 : h ≤ hs) (hi : ∃ y, isIn E h y) :
    Calls Tryz.prog 300 #[.pointer (some ⟨p,0,none⟩), .int .i64 h] w (DaryExt w F p cap hs E h) := by
  have hm := dary_min_yes w F p cap hs E c h h1 h2 hi
  have hd := fun x (hl : least E h x) => dary_delete w F p cap hs E c h x hl.1
  clear c hi
  go_enter Tryz.func300, Tryz.ntmps300
  go_wp2_with (first
    | (go_at_call 307; refine hm.mono ?_; rintro e w1 ⟨⟨x,rfl, hl⟩,rfl⟩)
    | (go_at_call 298; refine (hd _ hl).mono ?_; rintro e w2 ⟨rfl, F', c2, k2⟩))
  go_ret2
  exact ⟨x,rfl, hl, F', c2, k2⟩
end
def RowNew (w : World) (d : Nat) (e : Ending) (w' : World) : Prop :=
  ∃ p mb, e = .returned (.tuple #[.pointer (some ⟨p,0,none⟩), .int .i64 0]) ∧ (∀ v, RowFull w' p d none 0 mb 0 v) ∧ Keeps [] w w' ∧ w.heap.size ≤ p ∧ w.heap.size ≤ mb
theorem row_new (w : World) (d : Nat) (h1 : 2 ≤ d) (h2 : d ≤ 16) : Calls Tryz.prog 88 #[.int .i64 d] w (RowNew w d) := by
  have hmm := @run_makeMap Tryz.prog
  go_enter Tryz.func88, Tryz.ntmps88
  go_wp2_with (go_at_call 118; refine (fine_yes _ d h1 h2).mono ?_; rintro e w' ⟨rfl,rfl⟩)
  go_ret2
  refine ⟨w.heap.size + 1, w.heap.size,rfl,fun v => ⟨[], ⟨?_, Rg.IR.nil _ _,?_,by omega,by simp⟩,rfl,by simp⟩, ((Keeps.refl _ _).alloc _).alloc _,by omega,by omega⟩
  · have := blk_alloc_new (w := w.alloc (.map #[] 0)) (.cells #[.int .i64 (d : Int), .slice none 0 0, .map (some w.heap.size)] 260 (0,0))
    simpa using this
  · have : posF v 0 = fun _ => none := by funext z; unfold posF; split <;> simp
    rw [this]
    exact (IMap.made Tryz.prog 3 w).keep ((Keeps.refl [] _).alloc _) (by simp)
theorem Tryz.infoRowP : (Tryz.prog.info? 203).map (fun i => (i.zero, i.size, i.bytes)) = some (some (.pointer none), 1,8) := by kernel_rfl
section
variable (w : World) (F : List Nat) (p cap hs : Nat) (E : Ent)
def DaryMade (w : World) (F : List Nat) (p cap hs : Nat) (E : Ent) (e : Ending) (w' : World) : Prop := ∃ F', e = .returned (.int .i64 ((hs + 1 : Nat) : Int)) ∧ DaryAt w' F' p cap (hs + 1) E ∧ Moved F w F' w'
theorem dary_make (c : DaryAt w F p cap hs E) (hh : hs < 65536) : Calls Tryz.prog 305 #[.pointer (some ⟨p,0,none⟩)] w (DaryMade w F p cap hs E) := by
  have hlt := c.lt
  obtain ⟨pc, gr, rc, d, Fc, R,rfl, m⟩ := c
  have hmk := cells_make w Fc pc cap hs E m.ce hh
  have d0 := m.c0
  have d1 : w.cell? ⟨p,1,none⟩ = some (.int .i64 (d : Int)) := by rw [cell_of_blk m.blk]; rfl
  have hno : ∀ x, ¬ isIn E (hs + 1) x := fun x ⟨k, e⟩ => by have := (m.ce.ok.heap x _ k e).2; omega
  obtain ⟨n1, n2, n3⟩ := m.ne
  have hpl := lt_of_block m.blk
  have hgl := row_lt m.rows
  have hfin : ∀ (w1 w2 w4 : World) (Fc' : List Nat) (pr mb g' cap' : Nat), CellsAt w1 Fc' pc cap (hs + 1) E → Moved Fc w Fc' w1 → (∀ v, RowFull w2 pr d none 0 mb 0 v) → Keeps [] w1 w2 → w1.heap.size ≤ pr → w1.heap.size ≤ mb →
      w4.ownsRow 0 203 1 (.slice (some ⟨g',0,none⟩) (hs + 1 + 1) cap') (hs + 1 + 1) (rowsV (fun i => (R i).p) (hs + 1) ++ [.pointer (some ⟨pr,0,none⟩)]) → Keeps [gr] w2 w4 → (g' = gr ∨ w2.heap.size ≤ g') →
      w4.frozen? ⟨p,2,none⟩ = false ∧ w4.cell? ⟨p,2,none⟩ = some (.slice (some ⟨gr,0,none⟩) (hs + 1) rc) ∧ DaryMade w (nestF p gr Fc hs fun g => (R g).fp) p cap hs E (.returned (.int .i64 ((hs + 1 : Nat) : Int))) (w4.setCell ⟨p,2,none⟩ (.slice (some ⟨g',0,none⟩) (hs + 1 + 1) cap')) := by
    intro w1 w2 w4 Fc' pr mb g' cap' hc1 hm1 hf2 k2 hpr hmb hr4 k4 hg4
    have s1 := hm1.keeps.size
    have s2 := k2.size
    have s4 := k4.size
    have hcl := hc1.lt
    have hf0 := (hf2 (fun _ => 0)).lt
    have hprl := hf0 pr (by simp [rfp])
    have hmbl := hf0 mb (by simp [rfp])
    have hnew : ∀ b, b ∉ Fc → b < w.heap.size → b ∉ Fc' := fun b a c e => by
      rcases hm1.from' b e with f | f
      · exact a f
      · omega
    have k12 : Keeps Fc w w2 := hm1.keeps.trans k2 (by simp)
    have b2 := k12.blk m.blk n2
    have b4 := k4.blk b2 (by simpa using n1)
    have hgp : g' ≠ p := by rcases hg4 with e | e; rw [e]; exact fun e => n1 e.symm; omega
    have k5 : Keeps [p] w4 (w4.setCell ⟨p,2,none⟩ (.slice (some ⟨g',0,none⟩) (hs + 1 + 1) cap')) := (Keeps.refl _ _).setCell (.inl (by simp)) _
    have kall : Keeps ([p, gr] ++ Fc) w (w4.setCell ⟨p,2,none⟩ (.slice (some ⟨g',0,none⟩) (hs + 1 + 1) cap')) := ((k12.mono (T := [p, gr] ++ Fc) fun b hb => .inl (by simp [hb])).trans k4 fun b hb => .inl (by simp at hb; simp [hb])).trans k5 fun b hb => .inl (by simp at hb; simp [hb])
    have kold : Keeps [p, gr] w2 (w4.setCell ⟨p,2,none⟩ (.slice (some ⟨g',0,none⟩) (hs + 1 + 1) cap')) := (k4.mono (T := [p, gr]) (by simp)).trans k5 (by simp)
    have hD : DaryP (w4.setCell ⟨p,2,none⟩ (.slice (some ⟨g',0,none⟩) (hs + 1 + 1) cap')) p pc g' cap' d Fc' cap (hs + 1) E (upd R (hs + 1) ⟨pr, mb, none, 0,0,fun _ => 0⟩) := by
      have hgF : g' ∉ Fc' := by rcases hg4 with e | e; rw [e]; exact hnew gr n3 hgl; exact fun f => by have := hcl _ f; omega
      refine ⟨?_, (hc1.keep k2 (by simp)).keep kold ?_,?_, ⟨fun e => hgp e.symm, hnew p n2 hpl, hgF⟩,?_,?_,?_,?_, m.d1, m.d2⟩
      · rw [blk_setCell _ b4]; simp
      · intro b hb e
        simp only [List.mem_cons, List.not_mem_nil, or_false] at e
        rcases e with rfl | rfl
        · exact hnew b n2 hpl hb
        · exact hnew b n3 hgl hb
      · have := k5.row hr4 (by simpa using hgp)
        rw [rowsV_snoc _ _ (by omega), rowsV_congr (r := fun i => (R i).p) (r' := fun i => (upd R (hs + 1) ⟨pr, mb, none, 0,0,fun _ => 0⟩ i).p)]
        · simp only [upd_same]; exact this
        · intro i a b
          simp only [upd_other R _ (show i ≠ hs + 1 by omega)]
      · intro g a b x hx
        by_cases c : g = hs + 1
        · subst c
          rw [upd_same] at hx
          simp only [RowR.fp, rfp, Option.toList_none, List.map_nil, List.mem_cons, List.not_mem_nil, or_false] at hx
          have : x ∉ Fc' := fun e => by have := hcl _ e; rcases hx with rfl | rfl <;> omega
          refine ⟨by rcases hx with rfl | rfl <;> omega,?_, this⟩
          rcases hg4 with e | e
          · rw [e]; rcases hx with rfl | rfl <;> omega
          · rcases hx with rfl | rfl <;> omega
        · rw [upd_other R _ c] at hx
          obtain ⟨q1, q2, q3⟩ := m.own g a (by omega) x hx
          have hxl := hlt x (nestF_mem.2 (.inr (.inr (.inr ⟨g, a,by omega, hx⟩))))
          refine ⟨q1,?_, hnew x q3 hxl⟩
          rcases hg4 with e | e
          · rw [e]; exact q2
          · omega
      · intro g1 g2 a1 a2 b1 b2 hne x hx hx2
        by_cases c1 : g1 = hs + 1
        · subst c1
          rw [upd_same] at hx
          rw [upd_other R _ (fun e => hne e.symm)] at hx2
          have hxl := hlt x (nestF_mem.2 (.inr (.inr (.inr ⟨g2, b1,by omega, hx2⟩))))
          simp only [RowR.fp, rfp, Option.toList_none, List.map_nil, List.mem_cons, List.not_mem_nil, or_false] at hx
          rcases hx with rfl | rfl <;> omega
        · rw [upd_other R _ c1] at hx
          have hxl := hlt x (nestF_mem.2 (.inr (.inr (.inr ⟨g1, a1,by omega, hx⟩))))
          by_cases c2 : g2 = hs + 1
          · subst c2
            rw [upd_same] at hx2
            simp only [RowR.fp, rfp, Option.toList_none, List.map_nil, List.mem_cons, List.not_mem_nil, or_false] at hx2
            rcases hx2 with rfl | rfl <;> omega
          · rw [upd_other R _ c2] at hx2
            exact m.dis g1 g2 a1 (by omega) b1 (by omega) hne x hx hx2
      · intro g a b
        by_cases c : g = hs + 1
        · subst c
          rw [upd_same]
          exact (hf2 _).keep kold fun x hx e => by
            simp only [rfp, Option.toList_none, List.map_nil, List.mem_cons, List.not_mem_nil, or_false] at hx e
            rcases hx with rfl | rfl <;> omega
        · rw [upd_other R _ c]
          refine (m.mem g a (by omega)).keep kall fun x hx e => ?_
          obtain ⟨q1, q2, q3⟩ := m.own g a (by omega) x hx
          simp only [List.mem_append, List.mem_cons, List.not_mem_nil, or_false] at e
          rcases e with (e | e) | e
          · exact q1 e
          · exact q2 e
          · exact q3 e
      · intro g a b
        by_cases c : g = hs + 1
        · subst c
          rw [upd_same]
          exact ⟨fun i j hi => by simp at hi,fun x => ⟨fun e => absurd e (hno x),fun ⟨j, hj, _⟩ => by simp at hj⟩,fun j _ hj => by simp at hj⟩
        · rw [upd_other R _ c]; exact m.ok g a (by omega)
    refine ⟨frozen_of_blk b4,by rw [cell_of_blk b4]; rfl, _,rfl, ⟨pc, g', cap', d, Fc', _,rfl, hD⟩, kall.mono fun b hb => .inl (nestF_mem.2 ?_),fun b hb => ?_, hD.lt⟩
    · simp only [List.mem_append, List.mem_cons, List.not_mem_nil, or_false] at hb
      rcases hb with (e | e) | e
      · exact .inl e
      · exact .inr (.inl e)
      · exact .inr (.inr (.inl e))
    · rcases nestF_mem.1 hb with e | e | e | ⟨i, a1, a2, e⟩
      · exact .inl (nestF_mem.2 (.inl e))
      · rcases hg4 with f | f
        · exact .inl (nestF_mem.2 (.inr (.inl (e.trans f))))
        · exact .inr (by omega)
      · rcases hm1.from' b e with f | f
        · exact .inl (nestF_mem.2 (.inr (.inr (.inl f))))
        · exact .inr f
      · by_cases c : i = hs + 1
        · subst c
          rw [upd_same] at e
          simp only [RowR.fp, rfp, Option.toList_none, List.map_nil, List.mem_cons, List.not_mem_nil, or_false] at e
          exact .inr (by rcases e with rfl | rfl <;> omega)
        · rw [upd_other R _ c] at e
          exact .inl (nestF_mem.2 (.inr (.inr (.inr ⟨i, a1,by omega, e⟩))))
  have hstep : ∀ (w1 w2 : World) (Fc' : List Nat), Moved Fc w Fc' w1 → Keeps [] w1 w2 → w1.cell? ⟨p,1,none⟩ = some (.int .i64 (d : Int)) ∧ w2.cell? ⟨p,2,none⟩ = some (.slice (some ⟨gr,0,none⟩) (hs + 1) rc) ∧ w2.ownsRow 0 203 1 (.slice (some ⟨gr,0,none⟩) (hs + 1) rc) (hs + 1) (rowsV (fun i => (R i).p) (hs + 1)) := fun w1 w2 Fc' h1 h2 =>
    ⟨(World.cell?_of_block (a := ⟨p,1,none⟩) (h1.keeps.block p hpl n2)).trans d1,by rw [cell_of_blk ((h1.keeps.trans h2 (by simp)).blk m.blk n2)]; rfl, (h1.keeps.trans h2 (by simp)).row m.rows n3⟩
  have hnew := fun u => row_new u d m.d1 m.d2
  have hh3 : (0 : Int) < ((hs + 1 : Nat) : Int) := by omega
  have HF := Lib.hid hfin
  have HS := Lib.hid hstep
  clear hfin hstep m hlt d1 hno
  go_enter Tryz.func305, Tryz.ntmps305
  go_upto_region 3 with (go_at_call 318; refine hmk.mono ?_; rintro e w1 ⟨Fc',rfl, hc1, hm1⟩)
  have q1 := (HS.out w1 w1 Fc' hm1 (Keeps.refl _ _)).1
  go_upto_region 4 with (go_at_call 88; refine (hnew w1).mono ?_; rintro e w2 ⟨pr, mb,rfl, hf2, k2, hpr, hmb⟩)
  obtain ⟨_, q2, q3⟩ := HS.out w1 w2 Fc' hm1 k2
  clear q1
  go_wp2_with (first
    | (at_builtin; refine wpList_push _ 203 (.pointer (some ⟨pr,0,none⟩)) (0,0) rfl (.tmp 25) (.tmp 27) 206 rfl (.pointer none) 8 Tryz.underlying206 Tryz.infoRowP rfl rfl _ (hs + 1) (rowsV (fun i => (R i).p) (hs + 1)) (by simp [Act.eval]) q3 (by simp [Act.eval]) (by unfold maxLen; omega) (by omega) ?_; intro g' cap' w4 hr4 hk4 hf4; obtain ⟨f5, c5, hD5⟩ := HF.out w1 w2 w4 Fc' pr mb g' cap' hc1 hm1 hf2 k2 hpr hmb hr4 (by simpa [Value.ownBlock] using hk4) (by simpa [Value.ownBlock, eq_comm] using hf4); clear hr4 hk4 hf4))
  go_ret
  exact hD5
def DaryNew (w : World) (n : Nat) (e : Ending) (w' : World) : Prop :=
  ∃ (F : List Nat) (p : Nat), e = .returned (.tuple #[.pointer (some ⟨p,0,none⟩), .int .i64 0]) ∧ DaryAt w' F p n 0 (fun _ => none) ∧ Keeps [] w w' ∧ ∀ b ∈ F, w.heap.size ≤ b
theorem dary_new (w : World) (n d : Nat) (hn : n ≤ 65536) (h1 : 2 ≤ d) (h2 : d ≤ 16) : Calls Tryz.prog 57 #[.int .i64 n, .int .i64 d] w (DaryNew w n) := by
  have hs := fun u => row_new u d h1 h2
  go_enter Tryz.func57, Tryz.ntmps57
  go_wp2_with (first
    | (go_at_call 87; refine (cells_new w n hn).mono ?_; rintro e w1 ⟨Fc, pc,rfl, hc1, hk1, hF1⟩)
    | (go_at_call 88; refine (hs w1).mono ?_; rintro e w2 ⟨pr, mb,rfl, hf2, hk2, hp2, hm2⟩))
  go_ret2
  have hl1 := hc1.lt
  have k1 := hk1.size
  have k2 := hk2.size
  have hk3 : ∀ o o', Keeps [] w2 ((w2.alloc o).alloc o') := fun o o' => ((Keeps.refl _ _).alloc _).alloc _
  have hsz : ∀ o o' : Obj, ((w2.alloc o).alloc o').heap.size = w2.heap.size + 2 := fun o o' => by simp
  refine ⟨nestF (w2.heap.size + 1) w2.heap.size Fc 0 (fun _ => []), w2.heap.size + 1,rfl, ⟨pc, w2.heap.size, 1, d, Fc,fun _ => ⟨0,0, none, 0,0,fun _ => 0⟩,by simp [nestF], ⟨?_, (hc1.keep hk2 (by simp)).keep (hk3 _ _) (by simp),?_,?_,fun g a b => by omega,fun g g' a b => by omega,fun g a b => by omega,fun g a b => by omega, h1, h2⟩⟩, (hk1.trans hk2 (by simp)).trans (hk3 _ _) (by simp),?_⟩
  · have := blk_alloc_new (w := w2.alloc (.cells #[.pointer none] 203 (0,0))) (.cells #[.pointer (some ⟨pc,0,none⟩), .int .i64 (d : Int), .slice (some ⟨w2.heap.size,0,none⟩) 1 1] 208 (0,0))
    simpa using this
  · refine ⟨by simp [rowsV], .inr ⟨w2.heap.size, 1, #[.pointer none],rfl, Nat.zero_le _,?_,by simp,by decide,by simp,by simp [rowsV]⟩⟩
    rw [blk_alloc_old _ (by simp), blk_alloc_new]
  · exact ⟨by omega,fun e => by have := hl1 _ e; omega,fun e => by have := hl1 _ e; omega⟩
  · intro b hb
    rcases nestF_mem.1 hb with rfl | rfl | e | ⟨i, a, b, _⟩
    · omega
    · omega
    · exact hF1 b e
    · omega
end
structure TwigR where
  ao : Option Addr
  ca : Nat
  kids : List Nat
def twigV (T : Nat → TwigR) (U : Nat → Option Nat) (x : Nat) : List Value := [.slice (T x).ao (T x).kids.length (T x).ca, .int .i64 (oZ (U x))]
structure ForestAt (w : World) (p g n : Nat) (T : Nat → TwigR) (U : Nat → Option Nat) : Prop where
  blk : w.heap[p]? = some (.cells #[.slice (some ⟨g,0,none⟩) n n] 263 (0,0))
  arr : Arr w 265 2 n g (twigV T U)
  rows : ∀ x, x < n → Rg.IR 0 w (.slice (T x).ao (T x).kids.length (T x).ca) (T x).kids
  ne : p ≠ g
  own : ∀ x, x < n → ∀ a, (T x).ao = some a → a.block ≠ p ∧ a.block ≠ g
  dis : ∀ x y, x < n → y < n → x ≠ y → ∀ a b, (T x).ao = some a → (T y).ao = some b → a.block ≠ b.block
  cap : n ≤ 65536
  num : ∀ x, x < n → (T x).kids.length ≤ 65536 ∧ (∀ y ∈ (T x).kids, y < n) ∧ (∀ y, U x = some y → y < n)
def treeF (p g n : Nat) (T : Nat → TwigR) : List Nat := p :: g :: (List.range n).flatMap fun x => (T x).ao.toList.map (·.block)
theorem treeF_mem {p g n b : Nat} {T : Nat → TwigR} : b ∈ treeF p g n T ↔ b = p ∨ b = g ∨ ∃ x, x < n ∧ ∃ a, (T x).ao = some a ∧ a.block = b := by
  simp only [treeF, List.mem_cons, List.mem_flatMap, List.mem_range, List.mem_map, Option.mem_toList]
section
variable {w w' : World} {p g n x : Nat} {T : Nat → TwigR} {U : Nat → Option Nat} {S : List Nat}
theorem ForestAt.lt (h : ForestAt w p g n T U) : ∀ b ∈ treeF p g n T, b < w.heap.size := by
  intro b hb
  rcases treeF_mem.1 hb with rfl | rfl | ⟨x, hx, a, e,rfl⟩
  · exact lt_of_block h.blk
  · exact h.arr.lt
  · rcases (h.rows x hx).2 with ⟨h0, _⟩ | ⟨g', cap', cur, e', hb, hg, r⟩
    · simp only [Value.slice.injEq] at h0
      rw [h0.1] at e; cases e
    · simp only [Value.slice.injEq] at e'
      rw [e'.1] at e; cases e
      exact lt_of_block hg
theorem ForestAt.keep (h : ForestAt w p g n T U) (k : Keeps S w w') (hS : ∀ b ∈ treeF p g n T, b ∉ S) : ForestAt w' p g n T U :=
  ⟨k.blk h.blk (hS p (treeF_mem.2 (.inl rfl))), h.arr.keep k (hS g (treeF_mem.2 (.inr (.inl rfl)))),fun x hx => ir_keep (h.rows x hx) k (fun a e => hS _ (treeF_mem.2 (.inr (.inr ⟨x, hx, a, e,rfl⟩)))), h.ne, h.own, h.dis, h.cap, h.num⟩
theorem ForestAt.like (h : ForestAt w p g n T U) (e : w'.heap = w.heap) : ForestAt w' p g n T U :=
  ⟨by rw [e]; exact h.blk, ⟨by
    refine ⟨h.arr.row.1,?_⟩
    rw [e]; exact h.arr.row.2, h.arr.size⟩,fun x hx => by
    refine ⟨(h.rows x hx).1,?_⟩
    rw [e]; exact (h.rows x hx).2, h.ne, h.own, h.dis, h.cap, h.num⟩
theorem ForestAt.c0 (h : ForestAt w p g n T U) : w.cell? ⟨p,0,none⟩ = some (.slice (some ⟨g,0,none⟩) n n) := by rw [cell_of_blk h.blk]; rfl
theorem ForestAt.k0 (h : ForestAt w p g n T U) (hx : x < n) : w.cell? ⟨g, x * 2, none⟩ = some (.slice (T x).ao (T x).kids.length (T x).ca) := h.arr.cell (j := 0) hx (by decide)
theorem ForestAt.k1 (h : ForestAt w p g n T U) (hx : x < n) : w.cell? ⟨g, x * 2 + 1, none⟩ = some (.int .i64 (oZ (U x))) := h.arr.cell (j := 1) hx (by decide)
end
section
variable (w : World) (p g n : Nat) (T : Nat → TwigR) (U : Nat → Option Nat)
theorem fo_has (h : ForestAt w p g n T U) (x : Nat) (hx : x < n) : Calls Tryz.prog 361 #[.pointer (some ⟨p,0,none⟩), .int .i64 x] w fun e w' => e = .returned (.bool true) ∧ w = w' := by
  have c0 := h.c0
  have b1 : (x : Int) < (n : Int) := by omega
  have b2 : (0 : Int) ≤ (x : Int) := by omega
  clear h
  go_enter Tryz.func361, Tryz.ntmps361
  go_wp2
  go_ret
  exact ⟨rfl,rfl⟩
theorem fo_root (h : ForestAt w p g n T U) (x : Nat) (hx : x < n) : Calls Tryz.prog 363 #[.pointer (some ⟨p,0,none⟩), .int .i64 x] w fun e w' => e = .returned (.bool (U x).isNone) ∧ w = w' := by
  have c0 := h.c0
  have c1 := h.k1 hx
  have hh := fo_has w p g n T U h x hx
  have b1 : (x : Int) < (n : Int) := by omega
  clear h
  cases hu : U x with
  | none =>
    rw [hu] at c1
    simp only [oZ_none] at c1
    clear hu
    go_enter Tryz.func363, Tryz.ntmps363
    go_wp2_with (go_at_call 361; refine hh.mono ?_; rintro e w' ⟨rfl,rfl⟩)
    go_ret
    exact ⟨rfl,rfl⟩
  | some y =>
    rw [hu] at c1
    simp only [oZ_some] at c1
    have b2 : ((y : Int) == -1) = false := by rw [beq_eq_false_iff_ne]; omega
    clear hu
    go_enter Tryz.func363, Tryz.ntmps363
    go_wp2_with (go_at_call 361; refine hh.mono ?_; rintro e w' ⟨rfl,rfl⟩)
    go_ret
    exact ⟨rfl,rfl⟩
theorem fo_degree (h : ForestAt w p g n T U) (x : Nat) (hx : x < n) : Calls Tryz.prog 367 #[.pointer (some ⟨p,0,none⟩), .int .i64 x] w fun e w' => e = .returned (.int .i64 (T x).kids.length) ∧ w = w' := by
  have c0 := h.c0
  have c1 := h.k0 hx
  have hh := fo_has w p g n T U h x hx
  have b1 : (x : Int) < (n : Int) := by omega
  clear h
  go_enter Tryz.func367, Tryz.ntmps367
  go_wp2_with (go_at_call 361; refine hh.mono ?_; rintro e w' ⟨rfl,rfl⟩)
  go_ret
  exact ⟨rfl,rfl⟩
end
section
variable {P : Program}
theorem step_push2 {ops : Array Oper} {o : Oper} {a : Act} {K : Act → World → Prop} {Q : Exit → Act → World → Prop} {E : Prop} (hgd : o.guard = none) (s x : Operand) (t e : TypeId)
    (ho : o.op = .call { callee := .builtin .append, args := #[s, x], argTypes := #[t, t] })
    (z : Value) (ht : P.underlying t = some (.slice e)) (hi : (P.info? e).map (fun i => (i.zero, i.size, i.bytes)) = some (some z, 1,8)) (hzs : z.cells.size = 1)
    (w W : World) (y : Value) (hy : y.oneCell' = true) (c : Nat × Nat) (hW : W.heap = (w.alloc (.cells #[y] e c)).heap) (hW1 : W.os = w.os) (hW2 : W.tape = w.tape) (hW3 : W.output = w.output)
    (v : Value) (n : Nat) (xs : List Value) (hs : a.eval s = v) (hown : w.ownsRow 0 e 1 v n xs) (hx : a.eval x = .slice (some ⟨w.heap.size,0,none⟩) 1 1)
    (h63 : n + 1 ≤ maxLen) (hbytes : (n + 1) * 8 ≤ 140737488355328)
    (h : ∀ g' cap' w', w'.ownsRow 0 e 1 (.slice (some ⟨g',0,none⟩) (n + 1) cap') (n + 1) (xs ++ [y]) → Keeps v.ownBlock.toList w w' → (v.ownBlock = some g' ∨ w.heap.size ≤ g') → K (a.put o.dst (.slice (some ⟨g',0,none⟩) (n + 1) cap')) w') :
    if Region.wanted o (yielded ops a.tmps) = true then Oper.wp P o a W K Q else E := by
  obtain ⟨i, hi, hz, hsize, hby⟩ := info_parts hi
  have hw : Region.wanted o (yielded ops a.tmps) = true := by simp [Region.wanted, hgd]
  rw [if_pos hw]
  have hownW : W.ownsRow 0 e 1 v n xs := by
    have := hown.alloc (.cells #[y] e c)
    refine ⟨this.1,?_⟩
    rw [hW]; exact this.2
  have hcell : ∀ j u, ([y] : List Value)[j]? = some u → W.cell? ((⟨w.heap.size,0,none⟩ : Addr).add j) = some u := by
    intro j u hj
    match j, hj with
    | 0, hj =>
      simp at hj; subst hj
      have : W.heap[w.heap.size]? = some (.cells #[y] e c) := by rw [hW]; exact blk_alloc_new _
      show W.cell? ⟨w.heap.size,0,none⟩ = _
      rw [cell_of_blk this]; rfl
  obtain ⟨v', w', hr, h2, h3, _, h5⟩ := run_append_own_at (P := P) W 0 t o.type e i z 1 8 ht hi hz hsize hby hzs (by decide) v n xs hownW ⟨w.heap.size,0,none⟩ 1 1 [y] rfl hcell (by intro u hu; simp at hu; subst hu; exact hy) h63 hbytes (Nat.zero_le _)
  have k1 : Keeps [] w W := by
    have k : Keeps [] w (w.alloc (.cells #[y] e c)) := (Keeps.refl _ _).alloc _
    exact ⟨hW1.trans k.os, hW2.trans k.tape, hW3.trans k.output,by rw [hW]; exact k.size,by rw [hW]; exact k.block⟩
  have k2 : Keeps v.ownBlock.toList W w' := (Keeps.refl _ _).grown h3 (fun k e => .inl (by simp [e]))
  have hz' : w.heap.size ≤ W.heap.size := k1.size
  obtain ⟨g', cap',rfl, hg⟩ : ∃ g' cap', v' = .slice (some ⟨g',0,none⟩) (n + 1) cap' ∧ (v.ownBlock = some g' ∨ w.heap.size ≤ g') := by
    rcases h2.2 with ⟨_, h0⟩ | ⟨g', cap', cur, e1, _⟩
    · omega
    · refine ⟨g', cap', e1,?_⟩
      rw [e1] at h5
      rcases h5 with q | q
      · exact .inl q.symm
      · simp [Value.ownBlock] at q; exact .inr (by omega)
  have hfin := h g' cap' w' h2 ((k1.mono (T := v.ownBlock.toList) (by simp)).trans k2 fun _ hb => .inl hb) hg
  unfold Oper.wp execOp
  simp only [ho, resolve, invoke, builtin, Sem.run_bind, Sem.run_pure, Result.andThen_ok, List.map_toArray, List.map_cons, List.map_nil, hs, hx, hr]
  exact hfin
end
section
variable {w w5 : World} {p g n x a b g' cap' : Nat} {T : Nat → TwigR} {U : Nat → Option Nat} {o : Option Nat}
theorem twigV_up : upd (twigV T U) x ((twigV T U x).set 1 (.int .i64 (oZ o))) = twigV T (upd U x o) := by
  funext j
  by_cases e : j = x
  · subst e; rw [upd_same]; simp [twigV, upd_same]
  · rw [upd_other _ _ e]; simp only [twigV, upd_other U _ e]
theorem twigV_kids {t : TwigR} : upd (twigV T U) x ((twigV T U x).set 0 (.slice t.ao t.kids.length t.ca)) = twigV (upd T x t) U := by
  funext j
  by_cases e : j = x
  · subst e; rw [upd_same]; simp [twigV, upd_same]
  · rw [upd_other _ _ e]; simp only [twigV, upd_other T _ e]
theorem ForestAt.setUp (h : ForestAt w p g n T U) (hx : x < n) (ho : ∀ y, o = some y → y < n) :
    ForestAt (w.setCell ⟨g, x * 2 + 1, none⟩ (.int .i64 (oZ o))) p g n T (upd U x o) := by
  have k : Keeps [g] w (w.setCell ⟨g, x * 2 + 1, none⟩ (.int .i64 (oZ o))) := (Keeps.refl _ _).setCell (.inl (by simp)) _
  refine ⟨k.blk h.blk (by simpa using h.ne),?_,fun y hy => ir_keep (h.rows y hy) k (fun q e => by simpa using (h.own y hy q e).2), h.ne, h.own, h.dis, h.cap,fun y hy => ⟨(h.num y hy).1, (h.num y hy).2.1,fun z e => ?_⟩⟩
  · have := h.arr.set hx (j := 1) (by decide) (.int .i64 (oZ o))
    rwa [twigV_up] at this
  · by_cases c : y = x
    · subst c; rw [upd_same] at e; exact ho z e
    · rw [upd_other _ _ c] at e; exact (h.num y hy).2.2 z e
theorem ForestAt.setKids (h : ForestAt w p g n T U) (ha : a < n) {t : TwigR} (k : Keeps ((T a).ao.toList.map (·.block)) w w5) (hr : Rg.IR 0 w5 (.slice t.ao t.kids.length t.ca) t.kids)
    (hf : ∀ q, t.ao = some q → (∃ q', (T a).ao = some q' ∧ q'.block = q.block) ∨ w.heap.size ≤ q.block) (hl : t.kids.length ≤ 65536) (hm : ∀ y ∈ t.kids, y < n) :
    ForestAt (w5.setCell ⟨g, a * 2, none⟩ (.slice t.ao t.kids.length t.ca)) p g n (upd T a t) U ∧ Moved (treeF p g n T) w (treeF p g n (upd T a t)) (w5.setCell ⟨g, a * 2, none⟩ (.slice t.ao t.kids.length t.ca)) := by
  have hlt := h.lt
  have hno : ∀ y, (y = p ∨ y = g) → y ∉ (T a).ao.toList.map (·.block) := by
    intro y hy e
    simp only [List.mem_map, Option.mem_toList] at e
    obtain ⟨q, e1, e2⟩ := e
    obtain ⟨q1, q2⟩ := h.own a ha q e1
    rcases hy with rfl | rfl
    · exact q1 e2
    · exact q2 e2
  have hpl := hlt p (treeF_mem.2 (.inl rfl))
  have hgl := hlt g (treeF_mem.2 (.inr (.inl rfl)))
  have k5 : Keeps [g] w5 (w5.setCell ⟨g, a * 2, none⟩ (.slice t.ao t.kids.length t.ca)) := (Keeps.refl _ _).setCell (.inl (by simp)) _
  have hnew : ∀ q, t.ao = some q → q.block ≠ p ∧ q.block ≠ g := by
    intro q e
    rcases hf q e with ⟨q', e1, e2⟩ | e1
    · rw [← e2]; exact h.own a ha q' e1
    · exact ⟨by omega,by omega⟩
  have hdis : ∀ y, y < n → y ≠ a → ∀ q r, t.ao = some q → (T y).ao = some r → q.block ≠ r.block := by
    intro y hy hne q r e1 e2 e3
    rcases hf q e1 with ⟨q', f1, f2⟩ | f1
    · exact h.dis a y ha hy (fun e => hne e.symm) q' r f1 e2 (f2.trans e3)
    · have := hlt r.block (treeF_mem.2 (.inr (.inr ⟨y, hy, r, e2,rfl⟩))); omega
  have hF : ForestAt (w5.setCell ⟨g, a * 2, none⟩ (.slice t.ao t.kids.length t.ca)) p g n (upd T a t) U := by
    refine ⟨k5.blk (k.blk h.blk (hno p (.inl rfl))) (by simpa using h.ne),?_,fun y hy => ?_, h.ne,fun y hy q e => ?_,fun y z hy hz hne q r e1 e2 => ?_, h.cap,fun y hy => ?_⟩
    · have := (h.arr.keep k (hno g (.inr rfl))).set ha (j := 0) (by decide) (.slice t.ao t.kids.length t.ca)
      rwa [twigV_kids] at this
    · by_cases c : y = a
      · subst c; rw [upd_same]; exact ir_keep hr k5 (fun q e => by simpa using (hnew q e).2)
      · rw [upd_other _ _ c]
        refine ir_keep (ir_keep (h.rows y hy) k (fun q e f => ?_)) k5 (fun q e => by simpa using (h.own y hy q e).2)
        simp only [List.mem_map, Option.mem_toList] at f
        obtain ⟨r, f1, f2⟩ := f
        exact h.dis a y ha hy (fun e => c e.symm) r q f1 e f2
    · by_cases c : y = a
      · subst c; rw [upd_same] at e; exact hnew q e
      · rw [upd_other _ _ c] at e; exact h.own y hy q e
    · by_cases c : y = a
      · subst c
        rw [upd_same] at e1
        rw [upd_other _ _ (fun e => hne e.symm)] at e2
        exact hdis z hz (fun e => hne e.symm) q r e1 e2
      · rw [upd_other _ _ c] at e1
        by_cases d : z = a
        · subst d
          rw [upd_same] at e2
          exact fun e => hdis y hy c r q e2 e1 e.symm
        · rw [upd_other _ _ d] at e2
          exact h.dis y z hy hz hne q r e1 e2
    · by_cases c : y = a
      · subst c; rw [upd_same]; exact ⟨hl, hm, (h.num y hy).2.2⟩
      · rw [upd_other _ _ c]; exact h.num y hy
  refine ⟨hF, (k.mono (T := treeF p g n T) fun b hb => .inl (treeF_mem.2 ?_)).trans k5 (fun b hb => .inl (treeF_mem.2 (.inr (.inl (by simpa using hb))))),fun b hb => ?_, hF.lt⟩
  · simp only [List.mem_map, Option.mem_toList] at hb
    obtain ⟨q, e1, e2⟩ := hb
    exact .inr (.inr ⟨a, ha, q, e1, e2⟩)
  · rcases treeF_mem.1 hb with e | e | ⟨y, hy, q, e,rfl⟩
    · exact .inl (treeF_mem.2 (.inl e))
    · exact .inl (treeF_mem.2 (.inr (.inl e)))
    · by_cases c : y = a
      · subst c
        rw [upd_same] at e
        rcases hf q e with ⟨q', e1, e2⟩ | e1
        · exact .inl (treeF_mem.2 (.inr (.inr ⟨y, hy, q', e1, e2⟩)))
        · exact .inr e1
      · rw [upd_other _ _ c] at e
        exact .inl (treeF_mem.2 (.inr (.inr ⟨y, hy, q, e,rfl⟩)))
end
end Go.Proofs.YtkdbjelhkfdfjaaGreatDoor


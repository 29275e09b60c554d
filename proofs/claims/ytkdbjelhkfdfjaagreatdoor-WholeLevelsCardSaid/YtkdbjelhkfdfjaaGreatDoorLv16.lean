/-
  Contracts that the law rests on. Conditions: none.
-/
import Derived.Test.YtkdbjelhkfdfjaaGreatDoorLv15
set_option linter.unusedVariables false
set_option maxRecDepth 100000
set_option maxHeartbeats 32000000
namespace Go.Proofs.YtkdbjelhkfdfjaaGreatDoor
open Go.RowKit
theorem dary_ahead (fuel p pc : Nat) (w : World) (hc : w.cell? ⟨p,0,none⟩ = some (.pointer (some ⟨pc,0,none⟩))) :
    (method (fuel + 1) 148 (.pointer (some ⟨p,0,none⟩)) "Ahead").run Tryz.prog w = .ok (339,.pointer (some ⟨pc,0,none⟩)) w :=
  run_method_embedded w fuel 148 208 258 200 "Ahead" p _ _ (by kernel_rfl) (by kernel_rfl) Tryz.underlying200 (by kernel_rfl) hc
theorem nil_ahead (fuel : Nat) (a : Addr) (w : World) : (nilAhead (fuel + 1) 148 (.pointer (some a)) "Ahead").run Tryz.prog w = .ok (some false) w := by kernel_rfl
section
variable (w : World) (pn pc : Nat) (Fc : List Nat) (cap hs : Nat) (E : Ent) (p d : Nat) (ao : Option Addr) (ca mb n : Nat)
def UpDone (v : Nat -> Nat) (i : Nat) (e : Ending) (w' : World) : Prop :=
  ∃ (i' : Nat) (v' : Nat -> Nat), e = .returned (.int .i64 i') ∧ i' < n ∧ RowFull w' p d ao ca mb n v' ∧ OrdAt w' pn pc Fc cap hs E ∧ Inj v' n ∧ Same v v' n ∧ Keeps (rfp p mb ao ++ Fc) w w' ∧
    ((i' = i ∧ v' = v ∧ (i = 0 ∨ ahead E (v i) (v (par d i)) = false)) ∨ (i' ≠ i ∧ Heap' d (ahead E) v' n))
theorem row_up (v : Nat -> Nat) (i : Nat) (o : Option Int) (hr : RowHole w p d ao ca mb n v i o) (ho : OrdAt w pn pc Fc cap hs E) (hv : Inj v n) (hE : ∀ j, j < n -> (E (v j)).isSome) (hi : i < n) (hn : n <= 65536) (hd1 : 2 <= d) (hd2 : d <= 16)
    (hat : HeapAt d (ahead E) v n i) (hap : ∀ b ∈ rfp p mb ao, b ∉ pn :: Fc) :
    Calls Tryz.prog 324 #[.pointer (some ⟨p,0,none⟩),.iface 148 (.pointer (some ⟨pn,0,none⟩)),.int .i64 i,.int .i64 (v i : Nat)] w (UpDone w pn pc Fc cap hs E p d ao ca mb n v i) := by
  have hbc := ho.ce.ok.bc
  have hx : ∀ v' : Nat -> Nat, Same v v' n -> ∀ j, j < n -> v' j < cap := fun v' s j hj => by
    obtain ⟨k, hk, e⟩ := (s (v' j)).1 ⟨j, hj,rfl⟩
    rw [<- e]; exact ho.ce.ok.lt _ (hE k hk)
  have hEs : ∀ v' : Nat -> Nat, Same v v' n -> ∀ j, j < n -> (E (v' j)).isSome := fun v' s j hj => by
    obtain ⟨k, hk, e⟩ := (s (v' j)).1 ⟨j, hj,rfl⟩
    rw [<- e]; exact hE k hk
  obtain ⟨x, hvx⟩ : ∃ x, v i = x := ⟨_,rfl⟩
  rw [hvx]
  have HX := Lib.hid hx
  have HES := Lib.hid hEs
  have HAP := Lib.hid hap
  have HVX := Lib.hid hvx
  clear hx hEs hvx
  go_enter Tryz.func324, Tryz.ntmps324
  go_wp2_with fail
  go_loopg [2] (i + 1) (fun k s wr => ∃ (i' : Nat) (v' : Nat -> Nat), k = i' + 1 ∧ s = .int .i64 i' ∧ i' < n ∧ v' i' = x ∧ RowHole wr p d ao ca mb n v' i' o ∧ OrdAt wr pn pc Fc cap hs E ∧ Inj v' n ∧ Same v v' n ∧ Keeps (rfp p mb ao ++ Fc) w wr ∧
    ((i' = i ∧ v' = v ∧ HeapAt d (ahead E) v n i) ∨ (i' < i ∧ HeapUp d (ahead E) v' n i')))
  case atStart => exact ⟨i, v,rfl,rfl, hi, HVX.out, hr, ho, hv, Same.refl _ _, Keeps.refl _ _,.inl ⟨rfl,rfl, hat⟩⟩
  case round =>
    clear hr ho hv hat hi hE
    obtain ⟨i', v', hk,rfl, hi', hvx', hr, ho, hv, hsame, kp, hst⟩ := hrel
    have HK := Lib.hid hk
    clear hk
    have hD := hr.c0
    have hxc := HX.out v' hsame
    have hEv := HES.out v' hsame
    have hord : Ord (ahead E) v' n := ordOf hv hEv
    have hxle : v' i' <= 65536 := by have := hxc i' hi'; omega
    by_cases h0 : i' = 0
    · subst h0
      have hcl := fun u (hu : RowHole u p d ao ca mb n v' 0 o) => rh_close hu hv hi' hn hxle
      rw [hvx'] at hcl
      go_upto_region 2 with (go_at_call 331; refine (parent_no _ d hd1 hd2).mono ?_; rintro e w' ⟨rfl,rfl⟩)
      go_quiet (fail)
      go_wp2_with (go_at_call 332; refine (hcl _ (by exact hr.keep (S := []) ⟨rfl,rfl,rfl, Nat.le_refl _,fun _ _ _ => rfl⟩ (by simp))).mono ?_; rintro e w1 ⟨rfl, hf1, hk1⟩)
      go_ret
      have kp2 : Keeps (rfp p mb ao ++ Fc) w w1 := kp.trans hk1.ofDrewN (fun b hb => .inl (by simp [hb]))
      have ho2 : OrdAt w1 pn pc Fc cap hs E := ho.keep hk1.ofDrewN (fun b hb e => HAP.out b e hb)
      refine ⟨0, v',rfl, hi', hf1, ho2, hv, hsame, kp2,?_⟩
      rcases hst with ⟨rfl,rfl, _⟩ | ⟨hlt, hup⟩
      · exact .inl ⟨rfl,rfl,.inl rfl⟩
      · exact .inr ⟨by omega, hup.stop hd1 hord (.inl rfl)⟩
    · obtain ⟨q, hq⟩ : ∃ q, par d i' = q := ⟨_,rfl⟩
      have hqlt : q < i' := by rw [<- hq]; exact par_lt hd1 (by omega)
      have hpar := parent_yes wr d i' hd1 hd2 (by omega) (by omega)
      rw [hq] at hpar
      obtain ⟨g, hao, hgm, c1, c2⟩ := hr.at (q := q) (by omega) (by omega)
      subst hao
      have hgn : g ∉ pn :: Fc := HAP.out g hgm
      have hpn : p ∉ pn :: Fc := HAP.out p (by simp [rfp])
      have hpl : p < wr.heap.size := hr.lt p (by simp [rfp])
      have hgl : g < wr.heap.size := hr.lt g hgm
      have hal := fun u (hu : CellsAt u Fc pc cap hs E) => cells_ahead u Fc pc cap hs E hu x (v' q) (by rw [<- hvx']; exact hEv i' hi') (hEv q (by omega))
      have hS : ∀ u, Keeps Fc wr u -> u.cell? ⟨p,1,none⟩ = some (.slice (some ⟨g,0,none⟩) n ca) ∧ u.cell? ⟨g,q,none⟩ = some (.int .i64 (v' q : Nat)) ∧ u.cell? ⟨pn,0,none⟩ = some (.pointer (some ⟨pc,0,none⟩)) := fun u k =>
        ⟨(World.cell?_of_block (a := ⟨p,1,none⟩) (k.block p hpl (fun e => hpn (by simp [e])))).trans c1,(World.cell?_of_block (a := ⟨g,q,none⟩) (k.block g hgl (fun e => hgn (by simp [e])))).trans c2,
          (World.cell?_of_block (a := ⟨pn,0,none⟩) (k.block pn ho.lt ho.nf)).trans ho.c0⟩
      have kdr : Keeps Fc wr wr.drew := ⟨rfl,rfl,rfl, Nat.le_refl _,fun _ _ _ => rfl⟩
      have hqn3 : (q : Int) < (n : Int) := by omega
      have hna := fun (u : World) => nil_ahead 587 ⟨pn,0,none⟩ u
      have hme := fun (u : World) (hu : u.cell? ⟨pn,0,none⟩ = some (.pointer (some ⟨pc,0,none⟩))) => dary_ahead 587 pn pc u hu
      cases hb : ahead E x (v' q) with
      | false =>
        rw [hb] at hal
        go_upto_region 2 with (go_at_call 331; refine hpar.mono ?_; rintro e w' ⟨rfl,rfl⟩)
        go_region_held3 (fun u => u.cell? ⟨p,1,none⟩ = some (.slice (some ⟨g,0,none⟩) n ca) ∧ u.cell? ⟨g,q,none⟩ = some (.int .i64 (v' q : Nat)) ∧ u.cell? ⟨pn,0,none⟩ = some (.pointer (some ⟨pc,0,none⟩)))
          (first | exact hS _ kdr | exact hS _ (kdr.trans (by assumption) (fun _ h => .inl h)))
          (first
            | (go_at_call 339; refine (hal _ (by exact ho.ce.drew)).mono ?_; rintro e w1 ⟨rfl, hc1, hk1⟩))
        all_goals
          have k1 : Keeps Fc wr w1 := hk1.ofDrew
          have ho1 := ho.cells hc1 k1
          have hr1 := hr.keep k1 (fun b hb e => HAP.out b hb (by simp [e]))
          have hcl := rh_close hr1 hv hi' hn hxle
          rw [hvx'] at hcl
          go_wp2_with (go_at_call 332; refine hcl.mono ?_; rintro e w2 ⟨rfl, hf2, hk2⟩)
          go_ret
          have kp2 : Keeps (rfp p mb (some ⟨g,0,none⟩) ++ Fc) w w2 := (kp.trans k1 (fun b hb => .inl (by simp [hb]))).trans hk2 (fun b hb => .inl (by simp [hb]))
          refine ⟨i', v',rfl, hi', hf2, ho1.keep hk2 (fun b hb e => HAP.out b e hb), hv, hsame, kp2,?_⟩
          rcases hst with ⟨rfl,rfl, _⟩ | ⟨hlt, hup⟩
          · exact .inl ⟨rfl,rfl,.inr (by rw [hvx', hq]; exact hb)⟩
          · exact .inr ⟨by omega, hup.stop hd1 hord (.inr (by rw [hvx', hq]; exact hb))⟩
      | true =>
        rw [hb] at hal
        go_upto_region 2 with (go_at_call 331; refine hpar.mono ?_; rintro e w' ⟨rfl,rfl⟩)
        go_region_held3 (fun u => u.cell? ⟨p,1,none⟩ = some (.slice (some ⟨g,0,none⟩) n ca) ∧ u.cell? ⟨g,q,none⟩ = some (.int .i64 (v' q : Nat)) ∧ u.cell? ⟨pn,0,none⟩ = some (.pointer (some ⟨pc,0,none⟩)))
          (first | exact hS _ kdr | exact hS _ (kdr.trans (by assumption) (fun _ h => .inl h)))
          (first
            | (go_at_call 339; refine (hal _ (by exact ho.ce.drew)).mono ?_; rintro e w1 ⟨rfl, hc1, hk1⟩))
        all_goals
          have k1 : Keeps Fc wr w1 := hk1.ofDrew
          have ho1 := ho.cells hc1 k1
          have hr1 := hr.keep k1 (fun b hb e => HAP.out b hb (by simp [e]))
          have hmv := rh_move hr1 hv hi' (q := q) (by omega) (by omega) hn (by have := hxc q (by omega); omega)
          obtain ⟨d1, d2, d3⟩ := hS w1 k1
          have hup : HeapUp d (ahead E) v' n i' := by
            rcases hst with ⟨rfl,rfl, hat⟩ | ⟨hlt, hup⟩
            · exact hat.up hd1 hord hi' (by omega) (by rw [hvx', hq]; exact hb)
            · exact hup
          have hst2 := hup.step hd1 hord (by omega) hi' (by rw [hvx', hq]; exact hb)
          rw [hq] at hst2
          have hile : i' <= i := by rcases hst with ⟨rfl, _⟩ | ⟨hlt, _⟩ <;> omega
          clear hal hS c1 c2 hk1 hc1 hst hup
          have HB := Lib.hid hb
          clear hb
          go_wp2_with (go_at_call 332; refine hmv.mono ?_; rintro e w2 ⟨rfl, hf2, hk2⟩)
          have kp2 : Keeps (rfp p mb (some ⟨g,0,none⟩) ++ Fc) w w2 := (kp.trans k1 (fun b hb => .inl (by simp [hb]))).trans hk2 (fun b hb => .inl (by simp [hb]))
          go_roundg (q + 1)
          case measure => have := HK.out; omega
          case rel => exact ⟨q, sw v' i' q,rfl,rfl,by omega,by rw [sw_right]; exact hvx', hf2, ho1.keep hk2 (fun b hb e => HAP.out b e hb), hv.sw hi' (by omega), hsame.trans (Same.sw hi' (by omega)), kp2,.inr ⟨by omega, hst2⟩⟩
end
end Go.Proofs.YtkdbjelhkfdfjaaGreatDoor


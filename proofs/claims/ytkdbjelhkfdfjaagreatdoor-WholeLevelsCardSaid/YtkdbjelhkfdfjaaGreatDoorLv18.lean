/-
  Contracts that the law rests on. Conditions: none.
-/
import Derived.Test.YtkdbjelhkfdfjaaGreatDoorLv17
set_option linter.unusedVariables false
set_option maxRecDepth 100000
set_option maxHeartbeats 32000000
namespace Go.Proofs.YtkdbjelhkfdfjaaGreatDoor
open Go.RowKit
section
variable (w : World) (pn pc : Nat) (Fc : List Nat) (cap hs : Nat) (E : Ent) (p d : Nat) (ao : Option Addr) (ca mb n : Nat)
def DownDone (v : Nat -> Nat) (e : Ending) (w' : World) : Prop :=
  ∃ v' : Nat -> Nat, e = .returned (.tuple #[]) ∧ RowFull w' p d ao ca mb n v' ∧ OrdAt w' pn pc Fc cap hs E ∧ Inj v' n ∧ Same v v' n ∧ Keeps (rfp p mb ao ++ Fc) w w' ∧ Heap' d (ahead E) v' n
theorem row_down (v : Nat -> Nat) (i : Nat) (o : Option Int) (hr : RowHole w p d ao ca mb n v i o) (ho : OrdAt w pn pc Fc cap hs E) (hv : Inj v n) (hE : ∀ j, j < n -> (E (v j)).isSome) (hi : i < n) (hn : n <= 65536) (hd1 : 2 <= d) (hd2 : d <= 16)
    (hdn : HeapDown d (ahead E) v n i) (hap : ∀ b ∈ rfp p mb ao, b ∉ pn :: Fc) :
    Calls Tryz.prog 325 #[.pointer (some ⟨p,0,none⟩),.iface 148 (.pointer (some ⟨pn,0,none⟩)),.int .i64 i,.int .i64 (v i : Nat)] w (DownDone w pn pc Fc cap hs E p d ao ca mb n v) := by
  have hbc := ho.ce.ok.bc
  have hx : ∀ v' : Nat -> Nat, Same v v' n -> ∀ j, j < n -> v' j < cap := fun v' s j hj => by
    obtain ⟨k, hk, e⟩ := (s (v' j)).1 ⟨j, hj,rfl⟩
    rw [<- e]; exact ho.ce.ok.lt _ (hE k hk)
  have hEs : ∀ v' : Nat -> Nat, Same v v' n -> ∀ j, j < n -> (E (v' j)).isSome := fun v' s j hj => by
    obtain ⟨k, hk, e⟩ := (s (v' j)).1 ⟨j, hj,rfl⟩
    rw [<- e]; exact hE k hk
  obtain ⟨x, hvx⟩ : ∃ x, v i = x := ⟨_,rfl⟩
  rw [hvx]
  have HX := Lib.hid hx
  have HES := Lib.hid hEs
  have HAP := Lib.hid hap
  have HVX := Lib.hid hvx
  have HDN := Lib.hid hdn
  clear hx hEs hvx hdn
  go_enter Tryz.func325, Tryz.ntmps325
  go_wp2_with fail
  go_loopg [2] (n - i) (fun m s wr => ∃ (i' : Nat) (v' : Nat -> Nat), m + i' = n ∧ s = .int .i64 i' ∧ i' < n ∧ v' i' = x ∧ RowHole wr p d ao ca mb n v' i' o ∧ OrdAt wr pn pc Fc cap hs E ∧ Inj v' n ∧ Same v v' n ∧ Keeps (rfp p mb ao ++ Fc) w wr ∧ HeapDown d (ahead E) v' n i')
  case atStart => exact ⟨i, v,by omega,rfl, hi, HVX.out, hr, ho, hv, Same.refl _ _, Keeps.refl _ _, HDN.out⟩
  case round =>
    clear hr ho hv hi hE
    obtain ⟨i', v', hk,rfl, hi', hvx', hr, ho, hv, hsame, kp, hdn⟩ := hrel
    have HK := Lib.hid hk
    have HDN2 := Lib.hid hdn
    clear hk hdn
    have hxc := HX.out v' hsame
    have hEv := HES.out v' hsame
    have hord : Ord (ahead E) v' n := ordOf hv hEv
    have hxle : v' i' <= 65536 := by have := hxc i' hi'; omega
    by_cases hno : n <= d * i' + 1
    · have hfst := fun ov => row_first_no wr p d ao ca mb n v' i' o hr hi' hn hd1 hd2 hno ov
      have hcl := fun u (hu : RowHole u p d ao ca mb n v' i' o) => rh_close hu hv hi' hn hxle
      rw [hvx'] at hcl
      go_upto_region 1 with (go_at_call 333; refine (hfst _).mono ?_; rintro e w' ⟨rfl,rfl⟩)
      go_quiet (fail)
      go_wp2_with (go_at_call 332; refine (hcl _ (by exact hr.keep (S := []) ⟨rfl,rfl,rfl, Nat.le_refl _,fun _ _ _ => rfl⟩ (by simp))).mono ?_; rintro e w1 ⟨rfl, hf1, hk1⟩)
      refine bodyPost_ret (results_none rfl _ _ _) rfl ?_
      have kp2 : Keeps (rfp p mb ao ++ Fc) w w1 := kp.trans hk1.ofDrewN (fun b hb => .inl (by simp [hb]))
      have ho2 : OrdAt w1 pn pc Fc cap hs E := ho.keep hk1.ofDrewN (fun b hb e => HAP.out b e hb)
      refine ⟨v',rfl, hf1, ho2, hv, hsame, kp2, HDN2.out.stop fun j h1 h2 h3 => ?_⟩
      have := (par_range hd1 h1).1 h3
      omega
    · have hfst := row_first_yes wr pn pc Fc cap hs E p d ao ca mb n v' i' o hr ho hv hEv hi' hn hd1 hd2 (by omega) hap
      go_upto_region 1 with (go_at_call 333; refine hfst.mono ?_; rintro e w1 ⟨q,rfl, hqn, hq0, hpq, hbest, ho1, k1⟩)
      have hr1 := hr.keep k1 (fun b hb e => HAP.out b hb (by simp [e]))
      have hqlt : i' < q := by rw [<- hpq]; exact par_lt hd1 hq0
      have HBEST := Lib.hid hbest
      have HPQ := Lib.hid hpq
      clear hbest hfst hpq
      have kp1 : Keeps (rfp p mb ao ++ Fc) w w1 := kp.trans k1 (fun b hb => .inl (by simp [hb]))
      clear hr ho kp k1
      obtain ⟨g, hao, hgm, c1, c2⟩ := hr1.at (q := q) hqn (by omega)
      subst hao
      have hgn : g ∉ pn :: Fc := HAP.out g hgm
      have hpn : p ∉ pn :: Fc := HAP.out p (by simp [rfp])
      have hpl : p < w1.heap.size := hr1.lt p (by simp [rfp])
      have hgl : g < w1.heap.size := hr1.lt g hgm
      have hal := fun u (hu : CellsAt u Fc pc cap hs E) => cells_ahead u Fc pc cap hs E hu (v' q) x (hEv q hqn) (by rw [<- hvx']; exact hEv i' hi')
      have hS : ∀ u, Keeps Fc w1 u -> u.cell? ⟨p,1,none⟩ = some (.slice (some ⟨g,0,none⟩) n ca) ∧ u.cell? ⟨g,q,none⟩ = some (.int .i64 (v' q : Nat)) ∧ u.cell? ⟨pn,0,none⟩ = some (.pointer (some ⟨pc,0,none⟩)) := fun u k =>
        ⟨(World.cell?_of_block (a := ⟨p,1,none⟩) (k.block p hpl (fun e => hpn (by simp [e])))).trans c1,(World.cell?_of_block (a := ⟨g,q,none⟩) (k.block g hgl (fun e => hgn (by simp [e])))).trans c2,
          (World.cell?_of_block (a := ⟨pn,0,none⟩) (k.block pn ho1.lt ho1.nf)).trans ho1.c0⟩
      have kdr : Keeps Fc w1 w1.drew := ⟨rfl,rfl,rfl, Nat.le_refl _,fun _ _ _ => rfl⟩
      have hqn3 : (q : Int) < (n : Int) := by omega
      have hna := fun (u : World) => nil_ahead 587 ⟨pn,0,none⟩ u
      have hme := fun (u : World) (hu : u.cell? ⟨pn,0,none⟩ = some (.pointer (some ⟨pc,0,none⟩))) => dary_ahead 587 pn pc u hu
      cases hb : ahead E (v' q) x with
      | false =>
        rw [hb] at hal
        go_region_held3 (fun u => u.cell? ⟨p,1,none⟩ = some (.slice (some ⟨g,0,none⟩) n ca) ∧ u.cell? ⟨g,q,none⟩ = some (.int .i64 (v' q : Nat)) ∧ u.cell? ⟨pn,0,none⟩ = some (.pointer (some ⟨pc,0,none⟩)))
          (first | exact hS _ kdr | exact hS _ (kdr.trans (by assumption) (fun _ h => .inl h)))
          (first
            | (go_at_call 339; refine (hal _ (by exact ho1.ce.drew)).mono ?_; rintro e w2 ⟨rfl, hc2, hk2⟩))
        all_goals
          have k2 : Keeps Fc w1 w2 := hk2.ofDrew
          have ho2 := ho1.cells hc2 k2
          have hr2 := hr1.keep k2 (fun b hb e => HAP.out b hb (by simp [e]))
          have hcl := rh_close hr2 hv hi' hn hxle
          rw [hvx'] at hcl
          go_wp2_with (go_at_call 332; refine hcl.mono ?_; rintro e w3 ⟨rfl, hf3, hk3⟩)
          refine bodyPost_ret (results_none rfl _ _ _) rfl ?_
          have kp2 : Keeps (rfp p mb (some ⟨g,0,none⟩) ++ Fc) w w3 := (kp1.trans k2 (fun b hb => .inl (by simp [hb]))).trans hk3 (fun b hb => .inl (by simp [hb]))
          refine ⟨v',rfl, hf3, ho2.keep hk3 (fun b hb e => HAP.out b e hb), hv, hsame, kp2, HDN2.out.stop fun j h1 h2 h3 => ?_⟩
          have hiq : ahead E (v' i') (v' q) = true := by
            rcases hord.tot i' q hi' hqn (by omega) with h | h
            · exact h
            · rw [hvx', hb] at h; cases h
          by_cases hjq : j = q
          · rw [hjq]; exact hiq
          · exact ahead_tr hiq (HBEST.out j h1 h2 h3 hjq)
      | true =>
        rw [hb] at hal
        go_region_held3 (fun u => u.cell? ⟨p,1,none⟩ = some (.slice (some ⟨g,0,none⟩) n ca) ∧ u.cell? ⟨g,q,none⟩ = some (.int .i64 (v' q : Nat)) ∧ u.cell? ⟨pn,0,none⟩ = some (.pointer (some ⟨pc,0,none⟩)))
          (first | exact hS _ kdr | exact hS _ (kdr.trans (by assumption) (fun _ h => .inl h)))
          (first
            | (go_at_call 339; refine (hal _ (by exact ho1.ce.drew)).mono ?_; rintro e w2 ⟨rfl, hc2, hk2⟩))
        all_goals
          have k2 : Keeps Fc w1 w2 := hk2.ofDrew
          have ho2 := ho1.cells hc2 k2
          have hr2 := hr1.keep k2 (fun b hb e => HAP.out b hb (by simp [e]))
          have hmv := rh_move hr2 hv hi' hqn (by omega) hn (by have := hxc q hqn; omega)
          obtain ⟨d1, d2, d3⟩ := hS w2 k2
          have hst2 := HDN2.out.step hd1 hord hq0 hqn HPQ.out HBEST.out (by rw [hvx']; exact hb)
          have HST2 := Lib.hid hst2
          clear hal hS c1 c2 hk2 hc2 hst2 hb
          go_wp2_with (go_at_call 332; refine hmv.mono ?_; rintro e w3 ⟨rfl, hf3, hk3⟩)
          have kp2 : Keeps (rfp p mb (some ⟨g,0,none⟩) ++ Fc) w w3 := (kp1.trans k2 (fun b hb => .inl (by simp [hb]))).trans hk3 (fun b hb => .inl (by simp [hb]))
          go_roundg (n - q)
          case measure => have := HK.out; omega
          case rel => exact ⟨q, sw v' i' q,by omega,rfl, hqn,by rw [sw_right]; exact hvx', hf3, ho2.keep hk3 (fun b hb e => HAP.out b e hb), hv.sw hi' hqn, hsame.trans (Same.sw hi' hqn), kp2, HST2.out⟩
end
end Go.Proofs.YtkdbjelhkfdfjaaGreatDoor


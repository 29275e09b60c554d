/-
  Contracts that the law rests on. Conditions: none.
-/
import Derived.Test.YtkdbjelhkfdfjaaGreatDoorLv18
import Derived.Test.YtkdbjelhkfdfjaaGreatDoorLv23
import Derived.Test.YtkdbjelhkfdfjaaGreatDoorLv27
set_option linter.unusedVariables false
set_option maxRecDepth 100000
set_option maxHeartbeats 32000000
namespace Go.Proofs.YtkdbjelhkfdfjaaGreatDoor
open Go.RowKit
section
variable (w : World) (pn pc : Nat) (Fc : List Nat) (cap hs : Nat) (E : Ent) (p d : Nat) (ao : Option Addr) (ca mb n : Nat)
def RemDone (v : Nat -> Nat) (x : Nat) (e : Ending) (w' : World) : Prop :=
  ∃ v' : Nat -> Nat, e = .returned (.bool true) ∧ RowFull w' p d ao ca mb n v' ∧ OrdAt w' pn pc Fc cap hs E ∧ Inj v' n ∧ (∀ z,(∃ j, j < n ∧ v' j = z) ↔ z ≠ x ∧ ∃ j, j < n + 1 ∧ v j = z) ∧ Heap' d (ahead E) v' n ∧ Keeps (rfp p mb ao ++ Fc) w w'
theorem row_remove (v : Nat -> Nat) (i : Nat) (hr : RowFull w p d ao ca mb (n + 1) v) (ho : OrdAt w pn pc Fc cap hs E) (hv : Inj v (n + 1)) (hE : ∀ j, j < n + 1 -> (E (v j)).isSome) (hi : i < n + 1) (hn : n + 1 <= 65536) (hd1 : 2 <= d) (hd2 : d <= 16)
    (hh : Heap' d (ahead E) v (n + 1)) (hap : ∀ b ∈ rfp p mb ao, b ∉ pn :: Fc) :
    Calls Tryz.prog 311 #[.pointer (some ⟨p,0,none⟩),.iface 148 (.pointer (some ⟨pn,0,none⟩)),.int .i64 (v i : Nat)] w (RemDone w pn pc Fc cap hs E p d ao ca mb n v (v i)) := by
  have hbc := ho.ce.ok.bc
  have hxc := ho.ce.ok.lt (v i) (hE i hi)
  have hyc := ho.ce.ok.lt (v n) (hE n (by omega))
  obtain ⟨Lm, r, hl, hlv⟩ := hr
  have c1 := r.c1
  have c2 := r.c2
  rw [hl] at c1
  obtain ⟨g, hao, n1, n2, hgl, d1, _⟩ := r.at (i := n) (by omega)
  rw [hlv n (by omega)] at d1
  subst hao
  have f1 : w.frozen? ⟨p,1,none⟩ = false := frozen_of_blk r.blk
  have hpos := posF_at hv hi
  have hcap := row_cap r.row
  rw [hl] at hcap
  have hpl := r.lt p (by simp [rfp])
  have hml := r.lt mb (by simp [rfp])
  have hpm := r.ne
  have hpop := r.pop hl
  have hk1 : Keeps [p] w (w.setCell ⟨p,1,none⟩ (.slice (some ⟨g,0,none⟩) n ca)) := (Keeps.refl _ _).setCell (.inl (by simp)) _
  have hmid : ∀ W5 W6 : World, W5.heap = (w.setCell ⟨p,1,none⟩ (.slice (some ⟨g,0,none⟩) n ca)).heap -> W5.os = w.os -> W5.tape = w.tape -> W5.output = w.output -> W5.grownBy W6 (some mb) ->
      IMap Tryz.prog 3 W6 mb n (fun z => if z = (v i : Int) then none else posF v (n + 1) z) ->
      Keeps (rfp p mb (some ⟨g,0,none⟩)) w W6 ∧ RowRaw W6 p d (some ⟨g,0,none⟩) ca mb (Lm.take n) n (fun z => if z = (v i : Int) then none else posF v (n + 1) z) := by
    intro W5 W6 e1 e2 e3 e4 hg hm
    have k5 : Keeps [p] w W5 := ⟨by rw [e2],by rw [e3],by rw [e4],by rw [e1]; exact hk1.size,fun k a b => by rw [e1]; exact hk1.block k a b⟩
    have k6 : Keeps [mb] W5 W6 := (Keeps.refl _ _).grown hg (by simp)
    have r5 := hpop.like e1
    refine ⟨(k5.mono (T := rfp p mb (some ⟨g,0,none⟩)) (by simp [rfp])).trans k6 (by simp [rfp]),⟨k6.blk r5.blk (by simpa using hpm), ir_keep r5.row k6 (fun x e => by cases e; simpa using n2), hm, hpm, r5.na⟩⟩
  have hmap5 : ∀ W5 : World, W5.heap = (w.setCell ⟨p,1,none⟩ (.slice (some ⟨g,0,none⟩) n ca)).heap -> IMap Tryz.prog 3 W5 mb (n + 1) (posF v (n + 1)) ∧ W5.cell? ⟨p,2,none⟩ = some (.map (some mb)) := fun W5 e =>
    ⟨(hpop.like e).map,(hpop.like e).c2⟩
  have HM := Lib.hid r.map
  have HPOS := Lib.hid hpos
  have HMID := Lib.hid hmid
  have HMAP5 := Lib.hid hmap5
  have HLV := Lib.hid hlv
  have HL := Lib.hid hl
  have HO := Lib.hid ho
  have HAP := Lib.hid hap
  have HH := Lib.hid hh
  have HE := Lib.hid hE
  have HV := Lib.hid hv
  clear hmid hmap5 r hlv hl hpop hk1 hpos ho hap hh hE hv
  have hn3 : (n : Int) < ((n + 1 : Nat) : Int) := by omega
  go_enter Tryz.func311, Tryz.ntmps311
  go_upto_region 4 with (first
    | (at_lookup; refine wpList_imap_look_ok rfl _ _ rfl mapTy mb _ _ rfl HM.out ((v i : Nat) : Int) rfl (WalkArith.wf_i64 (by omega)) ?_; rw [HPOS.out]))
  go_quiet (fail)
  go_wp2_with fail
  go_region
  obtain ⟨W5, hW5⟩ : ∃ W5, W5 = (w.drewN (nq + 1)).setCell ⟨p,1,none⟩ (.slice (some ⟨g,0,none⟩) n ca) := ⟨_,rfl⟩
  obtain ⟨m5, e5⟩ := HMAP5.out W5 (by rw [hW5]; rfl)
  have hmid5 := fun W6 => HMID.out W5 W6 (by rw [hW5]; rfl) (by rw [hW5]; rfl) (by rw [hW5]; rfl) (by rw [hW5]; rfl)
  rw [<- hW5]
  have HM5 := Lib.hid m5
  have HMID5 := Lib.hid hmid5
  clear hW5 HMAP5 HMID m5 hmid5 HM c1 c2 d1 f1
  go_upto_region 7 with (first
    | (at_delete; go_loud (refine wpList_imap_del rfl _ _ rfl mapTy mb _ _ rfl HM5.out ((v i : Nat) : Int) rfl (WalkArith.wf_i64 (by omega)) ?_; intro W6 hm6 hg6; have HM6 := Lib.hid hm6; have HG6 := Lib.hid hg6; clear hm6 hg6)))
  have hm6 := HM6.out
  rw [HPOS.out] at hm6
  simp only [Option.isSome_some, if_true, Nat.add_sub_cancel] at hm6
  obtain ⟨k6, r6⟩ := HMID5.out W6 HG6.out hm6
  have hl6 : (Lm.take n).length = n := by have := HL.out; simp; omega
  have hlv6 : ∀ j, j < n -> Rg.fn (Lm.take n) j = v j := fun j hj => by
    rw [<- HLV.out j (by omega)]
    simp [Rg.fn, List.getD, hj]
  have ho6 := HO.out.keep k6 (fun b hb e => HAP.out b e hb)
  clear HM6 HG6 HMID5 hm6 HM5
  by_cases hin : i = n
  · subst hin
    have R6 := Lib.hid r6
    have HLV6 := Lib.hid hlv6
    have HL6 := Lib.hid hl6
    clear r6 hlv6 hl6
    go_wp2_with fail
    go_ret
    have r7 := R6.out
    rw [hole_last HV.out] at r7
    refine ⟨v,rfl,⟨_, r7, HL6.out, HLV6.out⟩, ho6,fun a b ha hb e => HV.out a b (by omega) (by omega) e,?_,fun j h0 hj => HH.out j h0 (by omega), k6.mono (fun b hb => .inl (by simp [hb]))⟩
    intro z
    constructor
    · rintro ⟨j, hj,rfl⟩
      exact ⟨fun e => by have := HV.out j i (by omega) (by omega) e; omega, j,by omega,rfl⟩
    · rintro ⟨hz, j, hj,rfl⟩
      refine ⟨j,?_,rfl⟩
      rcases Nat.lt_or_ge j i with c | c
      · exact c
      · obtain rfl : j = i := by omega
        exact absurd rfl hz
  · have hin2 : i < n := by omega
    have hvn : v n ≠ v i := fun e => hin (HV.out n i (by omega) (by omega) e).symm
    have hvb : (((v n : Nat) : Int) == ((v i : Nat) : Int)) = false := by rw [beq_eq_false_iff_ne]; omega
    obtain ⟨t1, t2⟩ := hole_take HV.out hin2
    rw [t1] at r6
    have hE2 : ∀ j, j < n -> (E ((fun k => if k = i then v n else v k) j)).isSome := by
      intro j hj
      by_cases e : j = i
      · simp only [if_pos e]; exact HE.out n (by omega)
      · simp only [if_neg e]; exact HE.out j (by omega)
    have hord : Ord (ahead E) v (n + 1) := ordOf HV.out HE.out
    have hat := HH.out.refill hd1 hord hin2
    have hh6 : RowHole W6 p d (some ⟨g,0,none⟩) ca mb n (fun k => if k = i then v n else v k) i (some (n : Int)) := ⟨_, n, r6, hl6,fun j hj hji => by rw [hlv6 j hj]; simp only [if_neg hji],by simp⟩
    have hup := row_up W6 pn pc Fc cap hs E p d (some ⟨g,0,none⟩) ca mb n _ i _ hh6 ho6 t2 hE2 hin2 (by omega) hd1 hd2 hat HAP.out
    simp only [if_true] at hup
    have hord2 : Ord (ahead E) (fun k => if k = i then v n else v k) n := ordOf t2 hE2
    have hset : ∀ z,(∃ j, j < n ∧ (fun k => if k = i then v n else v k) j = z) ↔ z ≠ v i ∧ ∃ j, j < n + 1 ∧ v j = z := by
      intro z
      constructor
      · rintro ⟨j, hj, e⟩
        simp only at e
        by_cases c : j = i
        · rw [if_pos c] at e; subst e; exact ⟨hvn, n,by omega,rfl⟩
        · rw [if_neg c] at e; subst e; exact ⟨fun e => c (HV.out j i (by omega) (by omega) e), j,by omega,rfl⟩
      · rintro ⟨hz, j, hj,rfl⟩
        rcases Nat.lt_or_ge j n with c | c
        · exact ⟨j, c,by simp only [if_neg (show j ≠ i from fun e => hz (by rw [e]))]⟩
        · obtain rfl : j = n := by omega
          exact ⟨i, hin2,by simp⟩
    have T2 := Lib.hid t2
    have HE2 := Lib.hid hE2
    have HATT := Lib.hid hat
    have HORD2 := Lib.hid hord2
    have HSET := Lib.hid hset
    clear t1 t2 r6 hl6 hlv6 hE2 hord hat hh6 hord2 hset hvn hin
    go_upto_region 9 with fail
    go_upto_if 61 with (go_at_call 324; refine hup.mono ?_; rintro e w7 ⟨i', v',rfl, hi', hf7, ho7, hv7, hs7, hk7, hres⟩)
    rcases hres with ⟨rfl,rfl, hst⟩ | ⟨hne, hh7⟩
    · have hdn := HATT.out.down hd1 HORD2.out hin2 (by simpa using hst)
      have hdown := row_down w7 pn pc Fc cap hs E p d (some ⟨g,0,none⟩) ca mb n _ i' _ (hf7.hole T2.out hin2) ho7 T2.out HE2.out hin2 (by omega) hd1 hd2 hdn HAP.out
      simp only [if_true] at hdown
      clear hst hdn hf7
      go_wp2_with (go_at_call 325; refine hdown.mono ?_; rintro e w8 ⟨v'',rfl, hf8, ho8, hv8, hs8, hk8, hh8⟩)
      go_ret
      exact ⟨v'',rfl, hf8, ho8, hv8,fun z => (hs8 z).trans (HSET.out z), hh8,((k6.mono (T := rfp p mb (some ⟨g,0,none⟩) ++ Fc) (fun b hb => .inl (by simp [hb]))).trans hk7 (fun b hb => .inl hb)).trans hk8 (fun b hb => .inl hb)⟩
    · have hneb : ((i' : Int) == (i : Int)) = false := by rw [beq_eq_false_iff_ne]; omega
      clear hup
      go_wp2_with fail
      go_ret
      exact ⟨v',rfl, hf7, ho7, hv7,fun z => (hs7 z).trans (HSET.out z), hh7,(k6.mono (T := rfp p mb (some ⟨g,0,none⟩) ++ Fc) (fun b hb => .inl (by simp [hb]))).trans hk7 (fun b hb => .inl hb)⟩
end
def SkewAt (w : World) (F : List Nat) (p cap hs : Nat) (E : Ent) : Prop :=
  ∃ (pc pt gt mb : Nat) (Fc : List Nat) (L R U top : Nat -> Option Nat), F = p :: pt :: gt :: mb :: Fc ∧ SkewMid w p pc pt gt mb Fc cap hs E L R U ∧ IMap Tryz.prog 3 w mb (topN top hs) (topF top) ∧ Tops E L R U top
section
variable {w w' : World} {F S : List Nat} {p cap hs : Nat} {E : Ent}
theorem SkewAt.lt (h : SkewAt w F p cap hs E) : ∀ b ∈ F, b < w.heap.size := by
  obtain ⟨pc, pt, gt, mb, Fc, L, R, U, top,rfl, m, im, t⟩ := h
  obtain ⟨l1, l2, l3, l4⟩ := m.lt
  intro b hb
  simp only [List.mem_cons] at hb
  rcases hb with rfl | rfl | rfl | rfl | hb
  · exact l1
  · exact l2
  · exact l3
  · exact im.lt
  · exact l4 b hb
theorem SkewAt.mem (h : SkewAt w F p cap hs E) : p ∈ F := by
  obtain ⟨pc, pt, gt, mb, Fc, L, R, U, top,rfl, m, im, t⟩ := h
  simp
theorem SkewAt.keep (h : SkewAt w F p cap hs E) (k : Keeps S w w') (hS : ∀ b ∈ F, b ∉ S) : SkewAt w' F p cap hs E := by
  obtain ⟨pc, pt, gt, mb, Fc, L, R, U, top,rfl, m, im, t⟩ := h
  exact ⟨pc, pt, gt, mb, Fc, L, R, U, top,rfl, m.keep k (fun b hb => hS b (by simp only [List.mem_cons] at hb ⊢; rcases hb with c | c | c | c <;> simp [c])), im.keep k (hS mb (by simp)), t⟩
theorem SkewAt.ok (h : SkewAt w F p cap hs E) : EntOk E cap hs := by
  obtain ⟨pc, pt, gt, mb, Fc, L, R, U, top,rfl, m, im, t⟩ := h
  exact m.ce.ok
end
section
variable (w : World) (p pc pt gt mb : Nat) (Fc : List Nat) (cap hs : Nat) (E : Ent) (L R U top : Nat -> Option Nat)
theorem skew_first (m : SkewMid w p pc pt gt mb Fc cap hs E L R U) (im : IMap Tryz.prog 3 w mb (topN top hs) (topF top)) (h : Nat) (hh : h <= 65536) :
    Calls Tryz.prog 431 #[.pointer (some ⟨p,0,none⟩),.int .i64 h] w fun e w' => e = .returned (.int .i64 (oZ (top h))) ∧ w = w' := by
  have c2 := m.c2
  have HM := Lib.hid im
  clear m im
  cases e : top h with
  | none =>
    have HT := Lib.hid (show topF top (h : Int) = none by rw [topF_at, e]; rfl)
    clear e
    go_enter Tryz.func431, Tryz.ntmps431
    go_wp2_with (at_lookup; refine wpList_imap_look_ok rfl _ _ rfl mapTy mb _ _ rfl HM.out (h : Int) rfl (WalkArith.wf_i64 (by omega)) ?_; rw [HT.out])
    go_ret
    exact ⟨rfl,rfl⟩
  | some x =>
    have HT := Lib.hid (show topF top (h : Int) = some (x : Int) by rw [topF_at, e]; rfl)
    clear e
    go_enter Tryz.func431, Tryz.ntmps431
    go_wp2_with (at_lookup; refine wpList_imap_look_ok rfl _ _ rfl mapTy mb _ _ rfl HM.out (h : Int) rfl (WalkArith.wf_i64 (by omega)) ?_; rw [HT.out])
    go_ret
    exact ⟨rfl,rfl⟩
def Crowned (h : Nat) (o : Option Nat) (e : Ending) (w' : World) : Prop := e = .returned (.tuple #[]) ∧ IMap Tryz.prog 3 w' mb (topN (upd top h o) hs) (topF (upd top h o)) ∧ Keeps [mb] w w'
theorem skew_crown (m : SkewMid w p pc pt gt mb Fc cap hs E L R U) (im : IMap Tryz.prog 3 w mb (topN top hs) (topF top)) (h : Nat) (h2 : h <= hs) (o : Option Nat) (ho : ∀ x, o = some x -> x < cap) :
    Calls Tryz.prog 429 #[.pointer (some ⟨p,0,none⟩),.int .i64 h,.int .i64 (oZ o)] w (Crowned w mb hs top h o) := by
  have c2 := m.c2
  have hok := m.ce.ok
  have hbh := hok.bh
  have hbc := hok.bc
  have HM := Lib.hid im
  have HC : topN top hs < maxLen := by have := topN_le top hs; unfold maxLen; omega
  have HC2 := Lib.hid HC
  clear m im hok HC
  cases o with
  | none =>
    simp only [oZ_none]
    go_enter Tryz.func429, Tryz.ntmps429
    go_wp2_with (at_delete; go_loud (refine wpList_imap_del rfl _ _ rfl mapTy mb _ _ rfl HM.out (h : Int) rfl (WalkArith.wf_i64 (by omega)) ?_; intro w5 hm5 hg5; have HM5 := Lib.hid hm5; have HG5 := Lib.hid hg5; clear hm5 hg5))
    go_end0
    exact ⟨rfl,by rw [topN_del top hs h h2, topF_del]; exact HM5.out,(Keeps.refl _ _).grown HG5.out (by simp)⟩
  | some x =>
    simp only [oZ_some]
    have hx := ho x rfl
    have hxn : ((x : Int) == -1) = false := by rw [beq_eq_false_iff_ne]; omega
    clear ho
    go_enter Tryz.func429, Tryz.ntmps429
    go_wp2_with (at_mapUpdate; refine wpList_imap_put rfl _ _ _ rfl mapTy mb _ _ rfl HM.out HC2.out (h : Int) (x : Int) rfl rfl (WalkArith.wf_i64 (by omega)) (WalkArith.wf_i64 (by omega)) ?_; intro w5 hm5 hg5; have HM5 := Lib.hid hm5; have HG5 := Lib.hid hg5; clear hm5 hg5)
    go_end0
    exact ⟨rfl,by rw [topN_put top hs h x h2, topF_put]; exact HM5.out,(Keeps.refl _ _).grown HG5.out (by simp)⟩
end
section
variable (w : World) (F : List Nat) (p cap hs : Nat) (E : Ent)
theorem skew_min_yes (c : SkewAt w F p cap hs E) (h : Nat) (hh : h <= 65536) (hi : ∃ y, isIn E h y) :
    Calls Tryz.prog 428 #[.pointer (some ⟨p,0,none⟩),.int .i64 h] w fun e w' => (∃ x : Nat, e = .returned (.tuple #[.int .i64 x,.bool true]) ∧ least E h x) ∧ w = w' := by
  obtain ⟨pc, pt, gt, mb, Fc, L, R, U, top,rfl, m, im, t⟩ := c
  have hf := skew_first w p pc pt gt mb Fc cap hs E L R U top m im h hh
  have hn := fun y (hy : (E y).isSome) => m.ce.ok.lt y hy
  cases e : top h with
  | none =>
    obtain ⟨y, hy⟩ := hi
    exact absurd hy (t.none_of hn e y)
  | some x =>
    have hl := t.first hn e
    rw [e] at hf
    simp only [oZ_some] at hf
    have hxn : ((x : Int) == -1) = false := by rw [beq_eq_false_iff_ne]; omega
    have HL := Lib.hid hl
    clear hl e t m im hn hi
    go_enter Tryz.func428, Tryz.ntmps428
    go_wp2_with (go_at_call 431; refine hf.mono ?_; rintro e w' ⟨rfl,rfl⟩)
    go_ret2
    exact ⟨⟨x,rfl, HL.out⟩,rfl⟩
theorem skew_min_no (c : SkewAt w F p cap hs E) (h : Nat) (hh : h <= 65536) (hi : ∀ y, ¬ isIn E h y) :
    Calls Tryz.prog 428 #[.pointer (some ⟨p,0,none⟩),.int .i64 h] w fun e w' => e = .returned (.tuple #[.int .i64 0,.bool false]) ∧ w = w' := by
  obtain ⟨pc, pt, gt, mb, Fc, L, R, U, top,rfl, m, im, t⟩ := c
  have hf := skew_first w p pc pt gt mb Fc cap hs E L R U top m im h hh
  cases e : top h with
  | some x => exact absurd (t.mine h x e) (hi x)
  | none =>
    rw [e] at hf
    simp only [oZ_none] at hf
    clear e t m im hi
    go_enter Tryz.func428, Tryz.ntmps428
    go_wp2_with (go_at_call 431; refine hf.mono ?_; rintro e w' ⟨rfl,rfl⟩)
    go_ret2
    exact ⟨rfl,rfl⟩
def SkewIn (w : World) (F : List Nat) (p cap hs : Nat) (E' : Ent) (e : Ending) (w' : World) : Prop := e = .returned (.bool true) ∧ SkewAt w' F p cap hs E' ∧ Keeps F w w'
theorem skew_insert (c : SkewAt w F p cap hs E) (h x q : Nat) (k : Int) (h1 : 1 <= h) (h2 : h <= hs) (hx : x < cap) (he : E x = none) (hk : (Lit.int .i64 k).wf = true) (hq : (Lit.int .u64 (q : Int)).wf = true) :
    Calls Tryz.prog 426 #[.pointer (some ⟨p,0,none⟩),.int .i64 h,.int .i64 x,.agg #[.int .i64 k,.int .u64 (q : Int)]] w (SkewIn w F p cap hs (put E x (some (h, k, q)))) := by
  obtain ⟨pc, pt, gt, mb, Fc, L, R, U, top,rfl, m, im, t⟩ := c
  obtain ⟨l1, l2, l3, l4⟩ := m.lt
  have hbh := m.ce.ok.bh
  have hne := m.ne
  have hb0 : Below w.heap.size w (w.alloc (.cells #[.int .i64 k,.int .u64 (q : Int)] 104)) := (Below.refl _ w).alloc (Nat.le_refl _) _
  have e0 : (w.alloc (.cells #[.int .i64 k,.int .u64 (q : Int)] 104)).cell? ⟨w.heap.size,0,none⟩ = some (.int .i64 k) := by rw [cell_of_blk (blk_alloc_new _)]; rfl
  have e1 : (w.alloc (.cells #[.int .i64 k,.int .u64 (q : Int)] 104)).cell? ⟨w.heap.size,1,none⟩ = some (.int .u64 (q : Int)) := by rw [cell_of_blk (blk_alloc_new _)]; rfl
  have m0 := m.below hb0
  have im0 : IMap Tryz.prog 3 (w.alloc (.cells #[.int .i64 k,.int .u64 (q : Int)] 104)) mb (topN top hs) (topF top) := im.keep (Below.keeps hb0 (Nat.le_refl _) []) (by simp)
  have hz := t.insert he (k, q) (h := h)
  have HZ := Lib.hid hz
  have HT := Lib.hid t
  have HE := Lib.hid he
  have HN := Lib.hid hne
  have HI := Lib.hid im
  clear hz t m im he hne
  go_enter Tryz.func426, Tryz.ntmps426
  go_upto_region 1 with fail
  have hw0 : w.heap.size < (w.alloc (.cells #[.int .i64 k,.int .u64 (q : Int)] 104)).heap.size := by simp
  generalize w.alloc (.cells #[.int .i64 k,.int .u64 (q : Int)] 104) = w0 at *
  have d0 := m0.c0
  have hS : ∀ u, Keeps Fc w0 u -> u.cell? ⟨p,0,none⟩ = some (.pointer (some ⟨pc,0,none⟩)) ∧ u.cell? ⟨w.heap.size,0,none⟩ = some (.int .i64 k) ∧ u.cell? ⟨w.heap.size,1,none⟩ = some (.int .u64 (q : Int)) := fun u kk =>
    have hz : w.heap.size ∉ Fc := fun e => Nat.lt_irrefl _ (l4 _ e)
    ⟨(World.cell?_of_block (a := ⟨p,0,none⟩) (kk.block p m0.lt.1 HN.out.1.2.2.2)).trans d0,(World.cell?_of_block (a := ⟨_,0,none⟩) (kk.block _ hw0 hz)).trans e0,(World.cell?_of_block (a := ⟨_,1,none⟩) (kk.block _ hw0 hz)).trans e1⟩
  have hput := fun u (hu : CellsAt u Fc pc cap hs E) => cells_put u Fc pc cap hs E hu h x q k h1 h2 hx HE.out hk hq
  go_region_held3 (fun w' => w'.cell? ⟨p,0,none⟩ = some (.pointer (some ⟨pc,0,none⟩)) ∧ w'.cell? ⟨w.heap.size,0,none⟩ = some (.int .i64 k) ∧ w'.cell? ⟨w.heap.size,1,none⟩ = some (.int .u64 (q : Int))) (first | exact ⟨d0, e0, e1⟩ | exact q1)
    (first
      | (go_at_call 316; refine (hput _ (m0.drewN 1).ce).mono ?_; rintro e w1 ⟨rfl, hc1, hk1⟩; have q1 := hS w1 hk1.ofDrew))
  all_goals
    obtain ⟨⟨a1, a2, a3, a4⟩,⟨b1, b2, b3⟩,⟨c1, c2⟩, cd⟩ := HN.out
    have k1 : Keeps Fc w0 w1 := hk1.ofDrew
    have m1 := m0.cells hc1 k1
    have im1 := im0.keep k1 cd
    have hf := skew_first w1 p pc pt gt mb Fc cap hs _ L R U top m1 im1 h (by omega)
    have hmg := skew_merge w1 p pc pt gt mb Fc cap hs _ L R U _ L R h (top h) (some x) m1 HZ.out
    rw [oZ_some] at hmg
    have kw : Keeps (gt :: Fc) w w1 := (Below.keeps hb0 (Nat.le_refl _) _).trans k1 (fun b hb => .inl (by simp [hb]))
    have d1 := m1.c0
    clear d0 e0 e1 m0 im0 hput hk1 hc1 k1 hS q1
    go_upto_region 3 with fail
    go_wp2_with (first
      | (go_at_call 431; refine hf.mono ?_; rintro e w' ⟨rfl,rfl⟩)
      | (go_at_call 430; refine hmg.mono ?_; rintro e w2 ⟨C, L', R', U',rfl, m2, z2, k2⟩; have im2 := im1.keep k2 (by simp; exact ⟨fun e => c1 e.symm, cd⟩); have hcr := skew_crown w2 p pc pt gt mb Fc cap hs _ L' R' U' top m2 im2 h h2 C (fun y e => m2.ce.ok.lt y (z2.na y e).2.2.some))
      | (go_at_call 429; refine hcr.mono ?_; rintro e w3 ⟨rfl, im3, k3⟩))
    go_ret
    have ht : Tops (put E x (some (h, k, q))) L' R' U' (upd top h C) := Tops.merged z2 (fun y => Iff.rfl) (fun g t' hg e => by
      have h1 := HT.out.mine g t' e
      have hne : t' ≠ x := by rintro rfl; have := h1.some; rw [HE.out] at this; cases this
      exact (isIn_put_other hne).2 h1)
    exact ⟨rfl,⟨pc, pt, gt, mb, Fc, L', R', U', upd top h C,rfl, m2.keep k3 (by simp; exact ⟨a3, b2, c1,fun b hb e => cd (e ▸ hb)⟩), im3, ht⟩,(kw.mono (fun b hb => .inl (by simp only [List.mem_cons] at hb ⊢; rcases hb with c | c <;> simp [c]))).trans ((k2.mono (T := p :: pt :: gt :: mb :: Fc) (fun b hb => .inl (by simp only [List.mem_cons] at hb ⊢; rcases hb with c | c <;> simp [c]))).trans k3 (by simp)) (fun b hb => .inl hb)⟩
end
section
variable (w : World) (p pc pr gn gp gt gT cT : Nat) (Fc : List Nat) (cap hs : Nat) (E : Ent) (wl : List (List Nat)) (U kid : Nat -> Option Nat) (deg : Nat -> Nat) (mk : Nat -> Bool) (top : Nat -> Option Nat)
def UnderDone (c d : Nat) (w' : World) : Prop :=
  ∃ (wl' : List (List Nat)) (mk' : Nat -> Bool), FibQ w' p pc pr gn gp gt gT cT Fc cap hs E wl' (upd U d (some c)) (upd kid c (some d)) (upd deg c (deg c + 1)) mk' top ∧
    (∀ u v, u < cap -> (Rl wl' u v ↔ Rl wl u v ∨ ((U u = some c ∨ u = d) ∧ (U v = some c ∨ v = d)))) ∧ Keeps (p :: pr :: gn :: gp :: gt :: gT :: Fc) w w'
theorem fib_under (q : FibQ w p pc pr gn gp gt gT cT Fc cap hs E wl U kid deg mk top) (h c d : Nat) (m : FibM E cap (Rl wl) U kid deg top h (fun _ => False)) (hc : rootOf E U h c) (hd : rootOf E U h d) (hne : c ≠ d) :
    Calls Tryz.prog 398 #[.pointer (some ⟨p,0,none⟩),.int .i64 d,.int .i64 c] w fun e w' => e = .returned (.tuple #[]) ∧ UnderDone w p pc pr gn gp gt gT cT Fc cap hs E wl U kid deg top c d w' := by
  have hcc := hc.lt m
  have hdc := hd.lt m
  have hdl := m.degLe c
  have hcp := q.cp
  have c1 := q.c1
  have c2 := q.c2
  have d1 := q.k1 hcc
  have hc3 : (c : Int) < (cap : Int) := by omega
  have hd3 : (d : Int) < (cap : Int) := by omega
  have hfin : ∀ w1 wl', FibQ w1 p pc pr gn gp gt gT cT Fc cap hs E wl' U kid deg mk top -> Keeps (p :: pr :: gn :: gp :: gt :: gT :: Fc) w w1 -> (∀ u v, u < cap -> (Rl wl' u v ↔ Rl wl u v ∨ ((U u = some c ∨ u = d) ∧ (U v = some c ∨ v = d)))) ->
      w1.frozen? ⟨gt, c * 4 + 1, none⟩ = false ∧ (w1.setCell ⟨gt, c * 4 + 1, none⟩ (.int .i64 (d : Int))).cell? ⟨gt, c * 4 + 2, none⟩ = some (.int .i64 (deg c : Nat)) ∧ w1.frozen? ⟨gt, c * 4 + 2, none⟩ = false ∧
        (∃ v,((w1.setCell ⟨gt, c * 4 + 1, none⟩ (.int .i64 (d : Int))).setCell ⟨gt, c * 4 + 2, none⟩ (.int .i64 ((deg c : Int) + 1))).cell? ⟨gt, d * 4, none⟩ = some v) ∧ w1.frozen? ⟨gt, d * 4, none⟩ = false ∧
        (∃ v,(((w1.setCell ⟨gt, c * 4 + 1, none⟩ (.int .i64 (d : Int))).setCell ⟨gt, c * 4 + 2, none⟩ (.int .i64 ((deg c : Int) + 1))).setCell ⟨gt, d * 4, none⟩ (.int .i64 (c : Int))).cell? ⟨gt, d * 4 + 3, none⟩ = some v) ∧ w1.frozen? ⟨gt, d * 4 + 3, none⟩ = false ∧
        Hid (UnderDone w p pc pr gn gp gt gT cT Fc cap hs E wl U kid deg top c d ((((w1.setCell ⟨gt, c * 4 + 1, none⟩ (.int .i64 (d : Int))).setCell ⟨gt, c * 4 + 2, none⟩ (.int .i64 ((deg c : Int) + 1))).setCell ⟨gt, d * 4, none⟩ (.int .i64 (c : Int))).setCell ⟨gt, d * 4 + 3, none⟩ (.bool false))) := by
    intro w1 wl' q1 k1 hR
    have q2 := q1.setPlace hcc (j := 1) (by decide) _ (place_kid c (some d))
    have q3 := q2.setPlace hcc (j := 2) (by decide) _ (place_deg c (deg c + 1))
    have q4 := q3.setPlace hdc (j := 0) (by decide) _ (place_up d (some c))
    have q5 := q4.setPlace hdc (j := 3) (by decide) _ (place_mark d false)
    refine ⟨q1.ar.frozen _, q2.k2 hcc, q1.ar.frozen _,⟨_, q3.k0 hdc⟩, q1.ar.frozen _,⟨_, q4.k3 hdc⟩, q1.ar.frozen _, wl', _, q5, hR,?_⟩
    exact (((k1.setCell (.inl (by simp)) _).setCell (.inl (by simp)) _).setCell (.inl (by simp)) _).setCell (.inl (by simp)) _
  cases ek : kid c with
  | none =>
    rw [ek] at d1
    simp only [oZ_none] at d1
    have hR : ∀ u v, u < cap -> (Rl wl u v ↔ Rl wl u v ∨ ((U u = some c ∨ u = d) ∧ (U v = some c ∨ v = d))) := fun u v hu => by
      have hno : ∀ z, U z ≠ some c := fun z e => by have := m.kidN c z e; rw [ek] at this; cases this
      constructor
      · exact fun a => .inl a
      · rintro (a | ⟨a | a, b | b⟩)
        · exact a
        · exact absurd a (hno u)
        · exact absurd a (hno u)
        · exact absurd b (hno v)
        · rw [a, b]; exact (m.rel d d hdc).2 (.inl rfl)
    have hall : ∀ n,(w.drewN n).cell? ⟨gt, c * 4 + 1, none⟩ = some (.int .i64 (-1)) ∧ (w.drewN n).frozen? ⟨gt, c * 4 + 1, none⟩ = false ∧ ((w.drewN n).setCell ⟨gt, c * 4 + 1, none⟩ (.int .i64 (d : Int))).cell? ⟨gt, c * 4 + 2, none⟩ = some (.int .i64 (deg c : Nat)) ∧ (w.drewN n).frozen? ⟨gt, c * 4 + 2, none⟩ = false ∧
        (∃ v,(((w.drewN n).setCell ⟨gt, c * 4 + 1, none⟩ (.int .i64 (d : Int))).setCell ⟨gt, c * 4 + 2, none⟩ (.int .i64 ((deg c : Int) + 1))).cell? ⟨gt, d * 4, none⟩ = some v) ∧ (w.drewN n).frozen? ⟨gt, d * 4, none⟩ = false ∧
        (∃ v,((((w.drewN n).setCell ⟨gt, c * 4 + 1, none⟩ (.int .i64 (d : Int))).setCell ⟨gt, c * 4 + 2, none⟩ (.int .i64 ((deg c : Int) + 1))).setCell ⟨gt, d * 4, none⟩ (.int .i64 (c : Int))).cell? ⟨gt, d * 4 + 3, none⟩ = some v) ∧ (w.drewN n).frozen? ⟨gt, d * 4 + 3, none⟩ = false ∧
        Hid (UnderDone w p pc pr gn gp gt gT cT Fc cap hs E wl U kid deg top c d (((((w.drewN n).setCell ⟨gt, c * 4 + 1, none⟩ (.int .i64 (d : Int))).setCell ⟨gt, c * 4 + 2, none⟩ (.int .i64 ((deg c : Int) + 1))).setCell ⟨gt, d * 4, none⟩ (.int .i64 (c : Int))).setCell ⟨gt, d * 4 + 3, none⟩ (.bool false))) := fun n => by
      have kd : Keeps [] w (w.drewN n) := (Keeps.refl _ _).drewN n
      obtain ⟨z1, z2, z3, z4, z5, z6, z7, z8⟩ := hfin (w.drewN n) wl (q.same kd) (kd.mono (by simp)) hR
      have := (q.same kd).k1 hcc
      rw [ek] at this
      exact ⟨this, z1, z2, z3, z4, z5, z6, z7, z8⟩
    have HA := Lib.hid hall
    clear hall hfin hR q m hc hd ek d1 c1
    generalize hdd : deg c = dc at *
    clear hdd
    go_enter Tryz.func398, Tryz.ntmps398
    go_wp2_with fail
    go_quiet (fail)
    obtain ⟨z0, z1, z2, z3,⟨v4, z4⟩, z5,⟨v6, z6⟩, z7, z8⟩ := HA.out nq
    generalize w.drewN nq = w0 at *
    clear HA c2
    go_wp2_with fail
    go_end0
    exact ⟨rfl, z8.out⟩
  | some k =>
    rw [ek] at d1
    simp only [oZ_some] at d1
    have hkc := m.kidLt (m.kidS c k ek)
    have hk1 : ((k : Int) != -1) = true := by rw [bne_iff_ne]; omega
    have hno : ¬ Rl wl k d := fun a => by
      have := (m.ringKid ek hkc d).1 a
      rw [hd.2] at this; cases this
    obtain ⟨N, P, hr⟩ := q.rg.rings
    have hR : ∀ u v, u < cap -> (Rl (Rg.spliceZ wl k d).1 u v ↔ Rl wl u v ∨ ((U u = some c ∨ u = d) ∧ (U v = some c ∨ v = d))) := fun u v hu => by
      rw [rl_splice hr hkc hdc hno hu, m.ringKid ek hkc, m.ringKid ek hkc, m.ringLoose hd (fun a => a), m.ringLoose hd (fun a => a), eq_comm (a := d) (b := u), eq_comm (a := d) (b := v)]
    have hall : ∀ n,(w.drewN n).cell? ⟨p,1,none⟩ = some (.pointer (some ⟨pr,0,none⟩)) ∧ (w.drewN n).cell? ⟨gt, c * 4 + 1, none⟩ = some (.int .i64 (k : Int)) ∧
        Hid (Calls Tryz.prog 396 #[.pointer (some ⟨pr,0,none⟩),.int .i64 k,.int .i64 d] (w.drewN n).drew fun e w1 => e = .returned (.bool true) ∧ (∃ v, w1.cell? ⟨gt, c * 4 + 1, none⟩ = some v) ∧ w1.frozen? ⟨gt, c * 4 + 1, none⟩ = false ∧ (w1.setCell ⟨gt, c * 4 + 1, none⟩ (.int .i64 (d : Int))).cell? ⟨gt, c * 4 + 2, none⟩ = some (.int .i64 (deg c : Nat)) ∧ w1.frozen? ⟨gt, c * 4 + 2, none⟩ = false ∧
        (∃ v,((w1.setCell ⟨gt, c * 4 + 1, none⟩ (.int .i64 (d : Int))).setCell ⟨gt, c * 4 + 2, none⟩ (.int .i64 ((deg c : Int) + 1))).cell? ⟨gt, d * 4, none⟩ = some v) ∧ w1.frozen? ⟨gt, d * 4, none⟩ = false ∧
        (∃ v,(((w1.setCell ⟨gt, c * 4 + 1, none⟩ (.int .i64 (d : Int))).setCell ⟨gt, c * 4 + 2, none⟩ (.int .i64 ((deg c : Int) + 1))).setCell ⟨gt, d * 4, none⟩ (.int .i64 (c : Int))).cell? ⟨gt, d * 4 + 3, none⟩ = some v) ∧ w1.frozen? ⟨gt, d * 4 + 3, none⟩ = false ∧
        Hid (UnderDone w p pc pr gn gp gt gT cT Fc cap hs E wl U kid deg top c d ((((w1.setCell ⟨gt, c * 4 + 1, none⟩ (.int .i64 (d : Int))).setCell ⟨gt, c * 4 + 2, none⟩ (.int .i64 ((deg c : Int) + 1))).setCell ⟨gt, d * 4, none⟩ (.int .i64 (c : Int))).setCell ⟨gt, d * 4 + 3, none⟩ (.bool false)))) := fun n => by
      have kd : Keeps [] w (w.drewN n) := (Keeps.refl _ _).drewN n
      have kd2 : Keeps [] w (w.drewN n).drew := kd.drew
      have q1 := q.same kd
      have q2 := q.same kd2
      have := q1.k1 hcc
      rw [ek] at this
      refine ⟨q1.c1, this,(rg_splice q2.rg q.cp hkc hdc).mono ?_⟩
      rintro e w1 ⟨rfl, hr1, k1⟩
      have q3 := q2.ring hr1 k1
      obtain ⟨z1, z2, z3, z4, z5, z6, z7, z8⟩ := hfin w1 _ q3 ((kd2.mono (T := p :: pr :: gn :: gp :: gt :: gT :: Fc) (by simp)).trans k1 (fun b hb => .inl (by simp only [List.mem_cons, List.not_mem_nil, or_false] at hb ⊢; rcases hb with c | c <;> simp [c]))) hR
      exact ⟨rfl,⟨_, q3.k1 hcc⟩, z1, z2, z3, z4, z5, z6, z7, z8⟩
    have HA := Lib.hid hall
    clear hall hfin hR q m hc hd ek hr hno c1
    generalize hdd : deg c = dc at *
    clear hdd
    go_enter Tryz.func398, Tryz.ntmps398
    go_wp2_with fail
    go_quiet (fail)
    obtain ⟨y0, y1, y2⟩ := HA.out nq
    generalize w.drewN nq = w0 at *
    clear HA c2 d1
    go_upto_region 2 with fail
    go_region_law (first
      | (go_simp; go_at_call 396; refine y2.out.mono ?_; rintro e w1 ⟨rfl,⟨v1, z0⟩, z1, z2, z3,⟨v4, z4⟩, z5,⟨v6, z6⟩, z7, z8⟩))
    all_goals
      clear y0 y1 y2
      go_wp2_with fail
      go_end0
      exact ⟨rfl, z8.out⟩
end
end Go.Proofs.YtkdbjelhkfdfjaaGreatDoor


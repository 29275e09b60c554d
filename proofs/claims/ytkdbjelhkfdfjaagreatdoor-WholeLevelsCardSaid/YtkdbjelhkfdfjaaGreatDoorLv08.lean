/-
  Contracts that the law rests on. Conditions: none.
-/
import Derived.Test.YtkdbjelhkfdfjaaGreatDoorLv05
import Derived.Test.YtkdbjelhkfdfjaaGreatDoorLv07
import Derived.Lib.AppendStr
import Derived.Lib.Builder
import Derived.Lib.UnsafeStr
set_option linter.unusedVariables false
set_option maxRecDepth 100000
set_option maxHeartbeats 32000000
namespace Go.Proofs.YtkdbjelhkfdfjaaGreatDoor
open Go.RowKit
section
variable (w : World) (F : List Nat) (p cap hs : Nat) (E : Ent)
theorem CellsAt.at {w : World} {F : List Nat} {p cap hs : Nat} {E : Ent} (hc : CellsAt w F p cap hs E) {x h q : Nat} {k : Int} (e : E x = some (h, k, q)) :
    ∃ gs, gs ∈ F ∧ w.cell? ⟨p,1,none⟩ = some (.slice (some ⟨gs,0,none⟩) cap cap) ∧ w.cell? ⟨gs, x * 3, none⟩ = some (.int .i64 (h : Int)) ∧ w.cell? ⟨gs, x * 3 + 1, none⟩ = some (.int .i64 k) ∧ w.cell? ⟨gs, x * 3 + 2, none⟩ = some (.int .u64 (q : Int)) := by
  obtain ⟨steps, gs, pn, gn, cn, mb,rfl, hnd, hok, hs0, hs1, hb, ha, hn, hm⟩ := hc
  have hx := hok.lt x (by rw [e]; rfl)
  have d0 := ha.cell hx (j := 0) (by omega)
  have d1 := ha.cell hx (j := 1) (by omega)
  have d2 := ha.cell hx (j := 2) (by omega)
  rw [cellV_at e] at d0 d1 d2
  refine ⟨gs,by simp,by rw [cell_of_blk hb]; rfl,by simpa using d0,by simpa using d1,by simpa using d2⟩
theorem ahead_entries {E : Ent} {a b g h q r : Nat} {k l : Int} (ea : E a = some (g, k, q)) (eb : E b = some (h, l, r)) :
    ahead E a b = (decide (cmpE k q l r < 0) || (decide (cmpE k q l r = 0) && decide (a < b))) := by
  rw [Bool.eq_iff_iff, ahead_iff]
  simp only [Bool.or_eq_true, Bool.and_eq_true, decide_eq_true_eq, cmpE_lt, cmpE_zero]
  constructor
  · rintro ⟨g', k', h', l', e1, e2, c⟩
    rw [ea] at e1; rw [eb] at e2
    cases e1; cases e2
    simp only at c
    omega
  · intro c
    exact ⟨_, _, _, _, ea, eb,by simp only; omega⟩
theorem cells_in_yes (hc : CellsAt w F p cap hs E) (x : Nat) (he : (E x).isSome) :
    Calls Tryz.prog 313 #[.pointer (some ⟨p,0,none⟩),.int .i64 x] w fun e w' => e = .returned (.bool true) ∧ w = w' := by
  have := cells_in w F p cap hs E hc x (hc.ok.lt x he)
  rwa [he] at this
theorem cells_in_no (hc : CellsAt w F p cap hs E) (x : Nat) (hx : x < cap) (he : E x = none) :
    Calls Tryz.prog 313 #[.pointer (some ⟨p,0,none⟩),.int .i64 x] w fun e w' => e = .returned (.bool false) ∧ w = w' := by
  have := cells_in w F p cap hs E hc x hx
  rwa [he] at this
def TwoAt (w : World) (p gs cap a b : Nat) (k l : Int) (q r : Nat) : Prop :=
  w.cell? ⟨p,1,none⟩ = some (.slice (some ⟨gs,0,none⟩) cap cap) ∧ w.cell? ⟨gs, a * 3 + 1, none⟩ = some (.int .i64 k) ∧ w.cell? ⟨gs, a * 3 + 2, none⟩ = some (.int .u64 (q : Int)) ∧ w.cell? ⟨gs, b * 3 + 1, none⟩ = some (.int .i64 l) ∧ w.cell? ⟨gs, b * 3 + 2, none⟩ = some (.int .u64 (r : Int))
theorem TwoAt.next {w w' : World} {p gs cap a b : Nat} {k l : Int} {q r : Nat} (h : TwoAt w p gs cap a b k l q r) (hp : p < w.heap.size) (hg : gs < w.heap.size) (n : Below w.heap.size w w') : TwoAt w' p gs cap a b k l q r :=
  ⟨(n.cell (p := ⟨_,_,none⟩) hp).trans h.1,(n.cell (p := ⟨_,_,none⟩) hg).trans h.2.1,(n.cell (p := ⟨_,_,none⟩) hg).trans h.2.2.1,(n.cell (p := ⟨_,_,none⟩) hg).trans h.2.2.2.1,(n.cell (p := ⟨_,_,none⟩) hg).trans h.2.2.2.2⟩
theorem CellsAt.two {w : World} {F : List Nat} {p cap hs : Nat} {E : Ent} (hc : CellsAt w F p cap hs E) {a b g h q r : Nat} {k l : Int} (ea : E a = some (g, k, q)) (eb : E b = some (h, l, r)) :
    ∃ gs, gs < w.heap.size ∧ p < w.heap.size ∧ TwoAt w p gs cap a b k l q r := by
  have hlt := hc.lt
  obtain ⟨steps, gs, pn, gn, cn, mb,rfl, hnd, hok, hs0, hs1, hblk, harr, hn, hm⟩ := hc
  have hax := hok.lt a (by rw [ea]; rfl)
  have hbx := hok.lt b (by rw [eb]; rfl)
  have d1 := harr.cell hax (j := 1) (by omega)
  have d2 := harr.cell hax (j := 2) (by omega)
  have d3 := harr.cell hbx (j := 1) (by omega)
  have d4 := harr.cell hbx (j := 2) (by omega)
  rw [cellV_at ea] at d1 d2
  rw [cellV_at eb] at d3 d4
  exact ⟨gs, hlt gs (by simp), hlt p (by simp),by rw [cell_of_blk hblk]; rfl,by simpa using d1,by simpa using d2,by simpa using d3,by simpa using d4⟩
theorem cells_ahead (hc : CellsAt w F p cap hs E) (a b : Nat) (ha : (E a).isSome) (hb : (E b).isSome) :
    Calls Tryz.prog 339 #[.pointer (some ⟨p,0,none⟩),.int .i64 a,.int .i64 b] w fun e w' => e = .returned (.bool (ahead E a b)) ∧ CellsAt w' F p cap hs E ∧ Keeps F w w' := by
  obtain ⟨⟨g, k, q⟩, ea⟩ := Option.isSome_iff_exists.1 ha
  obtain ⟨⟨h, l, r⟩, eb⟩ := Option.isSome_iff_exists.1 hb
  have hax := hc.ok.lt a ha
  have hbx := hc.ok.lt b hb
  have hae := ahead_entries ea eb
  obtain ⟨steps, gs, pn, gn, cn, mb,rfl, hnd, hok, hs0, hs1, hblk, harr, hn, hm⟩ := id hc
  have c1 := count_calls w p [_, _, _] _ steps hblk hs0 hs1
  have hpost : ∀ s', 0 <= s' -> s' <= 4611686018427387904 -> CellsAt (w.setCell ⟨p,0,none⟩ (.int .i64 s')) [p, gs, pn, gn, mb] p cap hs E ∧ Keeps [p, gs, pn, gn, mb] w (w.setCell ⟨p,0,none⟩ (.int .i64 s')) := by
    intro s' h0 h1
    have hk : Keeps [p] w (w.setCell ⟨p,0,none⟩ (.int .i64 s')) := (Keeps.refl _ _).setCell (.inl (by simp)) _
    have hnd0 := hnd
    simp only [List.nodup_cons, List.mem_cons, List.not_mem_nil, or_false, not_or, List.nodup_nil, and_true, not_false_eq_true] at hnd0
    obtain ⟨⟨n1, n2, n3, n4⟩, _⟩ := hnd0
    refine ⟨⟨s', gs, pn, gn, cn, mb,rfl, hnd, hok, h0, h1, blk_setCell _ hblk, harr.keep hk (by simp; exact fun e => n1 e.symm), hn.keep hk (by simp; exact fun e => n2 e.symm) (by simp; exact fun e => n3 e.symm), hm.keep hk (by simp; exact fun e => n4 e.symm)⟩, hk.mono (by simp)⟩
  go_enter Tryz.func339, Tryz.ntmps339
  have HA := Lib.hid hae
  have HI := Lib.hid (And.intro ha hb)
  have HE := Lib.hid (And.intro ea eb)
  have HP := Lib.hid hpost
  clear ha hb ea eb hblk harr hn hm hnd hok hae hpost hs0 hs1
  go_wp2_with (first
    | (go_at_call 313; refine (cells_in_yes _ _ p cap hs E hc _ (by first | exact HI.out.1 | exact HI.out.2)).mono ?_; rintro e w' ⟨rfl,rfl⟩)
    | (go_at_call 347; refine c1.mono ?_; rintro e w' ⟨rfl, s', h0, h1,rfl⟩)
    )
  obtain ⟨hc1, hk1⟩ := HP.out s' h0 h1
  generalize w.setCell ⟨p,0,none⟩ (.int .i64 s') = w1 at *
  obtain ⟨gs, hg, hp, ht⟩ := hc1.two HE.out.1 HE.out.2
  have hax3 : (a : Int) < (cap : Int) := by omega
  have hbx3 : (b : Int) < (cap : Int) := by omega
  have hlt := hc1.lt
  clear HP HE HI c1 hc
  go_region_held3 (fun w' => w'.cell? ⟨p,1,none⟩ = some (.slice (some ⟨gs,0,none⟩) cap cap) ∧ w'.cell? ⟨gs, a * 3 + 1, none⟩ = some (.int .i64 k) ∧ w'.cell? ⟨gs, a * 3 + 2, none⟩ = some (.int .u64 (q : Int)) ∧ w'.cell? ⟨gs, b * 3 + 1, none⟩ = some (.int .i64 l) ∧ w'.cell? ⟨gs, b * 3 + 2, none⟩ = some (.int .u64 (r : Int)))
    (first | exact ht | exact TwoAt.next (w := w1.drew) ht hp hg (by assumption))
    (first
      | (go_at_call 330; refine (compare_calls _ _ _ _ _).mono ?_; rintro e w' ⟨rfl, hb⟩))
  all_goals
    have hc2 := (CellsAt.below (w := w1.drew) (hc1.keep ⟨rfl,rfl,rfl, Nat.le_refl _,fun _ _ _ => rfl⟩ (S := []) (by simp)) hb)
    have hk2 : Keeps _ w w' := hk1.drew.trans (T := []) (Below.keeps hb (Nat.le_refl _) []) (by simp)
    clear hc1 hk1 hb ht hlt hax3 hbx3
    generalize cmpE k q l r = c at *
    rcases Int.lt_trichotomy c 0 with c0 | c0 | c0
    · have hb0 : decide (c < 0) = true := by simpa using c0
      rw [hb0] at HA
      have HA2 := HA.out
      rw [Bool.true_or] at HA2
      have HX := Lib.hid HA2
      clear HA HA2
      go_wp2_with fail
      go_ret
      exact ⟨by rw [HX.out]; rfl, hc2, hk2⟩
    · subst c0
      by_cases hab : a < b
      · have HA2 := HA.out
        have hab3 : (a : Int) < (b : Int) := by omega
        have HX := Lib.hid (show ahead E a b = true by rw [HA2]; simp [hab])
        clear HA HA2 hab
        go_wp2_with fail
        go_ret
        exact ⟨by rw [HX.out]; rfl, hc2, hk2⟩
      · have HA2 := HA.out
        have hab3 : ¬ (a : Int) < (b : Int) := by omega
        have HX := Lib.hid (show ahead E a b = false by rw [HA2]; simp; omega)
        clear HA HA2 hab
        go_wp2_with fail
        go_ret
        exact ⟨by rw [HX.out]; rfl, hc2, hk2⟩
    · have hb0 : ¬ c < 0 := by omega
      have hb1 : (c == 0) = false := by rw [beq_eq_false_iff_ne]; omega
      have HA2 := HA.out
      have HX := Lib.hid (show ahead E a b = false by rw [HA2]; simp; omega)
      clear HA HA2 c0
      go_wp2_with fail
      go_ret
      exact ⟨by rw [HX.out]; rfl, hc2, hk2⟩
end
section
variable (w : World) (F : List Nat) (p cap hs : Nat) (E : Ent)
theorem CellsAt.drew {w : World} {F : List Nat} {p cap hs : Nat} {E : Ent} (hc : CellsAt w F p cap hs E) : CellsAt w.drew F p cap hs E := hc.keep ⟨rfl,rfl,rfl, Nat.le_refl _,fun _ _ _ => rfl⟩ (S := []) (by simp)
theorem cells_entry (hc : CellsAt w F p cap hs E) (x h q : Nat) (k : Int) (e : E x = some (h, k, q)) :
    Calls Tryz.prog 299 #[.pointer (some ⟨p,0,none⟩),.int .i64 x] w fun e w' => e = .returned (.tuple #[.agg #[.int .i64 k,.int .u64 (q : Int)],.bool true]) ∧ Below w.heap.size w w' := by
  obtain ⟨gs, hgs, c1, d0, d1, d2⟩ := hc.at e
  have hx := hc.ok.lt x (by rw [e]; rfl)
  have hlt := hc.lt gs hgs
  have hpl := hc.lt p hc.mem
  have he : (E x).isSome := by rw [e]; rfl
  have HI := Lib.hid he
  have hc1 := hc.below ((Below.refl _ w).alloc (Nat.le_refl _) (.cells #[.int .i64 0,.int .u64 0] 104))
  have hx3 : (x : Int) < (cap : Int) := by omega
  clear he e
  go_enter Tryz.func299, Tryz.ntmps299
  go_wp2_with (go_at_call 313; refine (cells_in_yes _ _ p cap hs E hc1 _ HI.out).mono ?_; rintro e w' ⟨rfl,rfl⟩)
  refine bodyPost_ret (v := .tuple #[.agg #[.int .i64 k,.int .u64 (q : Int)],.bool true]) (by simp [results, Tryz.results299, go_sem]) rfl ⟨rfl,(Below.refl _ w).alloc (Nat.le_refl _) _⟩
theorem root_self {w : World} {p g cap i : Nat} {L : List Int} {most cnt : Int} (h : Nm.NamesAt w p g cap L most cnt) (h1 : 0 < i) (h2 : i < L.length) (h3 : L.getD i 0 = i) :
    Calls Tryz.prog 315 #[.pointer (some ⟨p,0,none⟩),.int .i64 i] w fun e w' => e = .returned (.tuple #[.int .i64 i,.bool true]) ∧ w = w' := by
  have c0 : w.cell? ⟨p,0,none⟩ = some (.slice (some ⟨g,0,none⟩) L.length cap) := by rw [cell_of_blk h.blk]; rfl
  have c1 := h.cell i h2
  rw [h3] at c1
  clear h3
  go_enter Tryz.func315, Tryz.ntmps315
  go_wp2_with (go_at_call 327; refine (Nm.made_yes _ _ _ _ _ _ _ _ h (by omega) (by omega)).mono ?_; rintro e w' ⟨rfl,rfl⟩)
  go_loop [1] (fun s => s = .int .i64 i) (fun s => 0)
  case atStart => rfl
  case round =>
    subst hrel
    go_wp2
    go_ret2
    exact ⟨rfl,rfl⟩
theorem cells_home (hc : CellsAt w F p cap hs E) (x h : Nat) (hi : isIn E h x) :
    Calls Tryz.prog 302 #[.pointer (some ⟨p,0,none⟩),.int .i64 x] w fun e w' => e = .returned (.tuple #[.int .i64 h,.bool true]) ∧ ∃ n, w' = w.drewN n := by
  obtain ⟨⟨k, q⟩, e⟩ := hi
  obtain ⟨gs, hgs, c1, d0, d1, d2⟩ := hc.at e
  have he : (E x).isSome := by rw [e]; rfl
  have hx := hc.ok.lt x he
  have hh := hc.ok.heap x h _ e
  have HI := Lib.hid he
  have hx3 : (x : Int) < (cap : Int) := by omega
  have c2 : ∃ pn gn cn, w.cell? ⟨p,2,none⟩ = some (.pointer (some ⟨pn,0,none⟩)) ∧ Nm.NamesAt w pn gn cn (idL hs) 65536 hs := by
    obtain ⟨steps, gs, pn, gn, cn, mb,rfl, hnd, hok, hs0, hs1, hb, ha, hn, hm⟩ := hc
    exact ⟨pn, gn, cn,by rw [cell_of_blk hb]; rfl, hn⟩
  obtain ⟨pn, gn, cn, c2, hn⟩ := c2
  have hl := idL_len hs
  clear he e
  go_enter Tryz.func302, Tryz.ntmps302
  go_wp2_with (go_at_call 313; refine (cells_in_yes _ _ p cap hs E hc _ HI.out).mono ?_; rintro e w' ⟨rfl,rfl⟩)
  go_quiet ((go_at_call 315; refine Calls.quiet_of_same ((root_self (i := h) (hn.drewN _) (by omega) (by omega) (idL_at hs hh.2)).mono fun _ _ hh => ⟨hh.1, hh.2.symm⟩)))
  go_wp2
  go_ret2
  exact ⟨rfl, _,rfl⟩
theorem cells_put (hc : CellsAt w F p cap hs E) (h x q : Nat) (k : Int) (h1 : 1 <= h) (h2 : h <= hs) (hx : x < cap) (he : E x = none) (hk : (Lit.int .i64 k).wf = true) (hq : (Lit.int .u64 (q : Int)).wf = true) :
    Calls Tryz.prog 316 #[.pointer (some ⟨p,0,none⟩),.int .i64 h,.int .i64 x,.agg #[.int .i64 k,.int .u64 (q : Int)]] w fun e w' => e = .returned (.bool true) ∧ CellsAt w' F p cap hs (put E x (some (h, k, q))) ∧ Keeps F w w' := by
  have hc1 := hc.below ((Below.refl _ w).alloc (Nat.le_refl _) (.cells #[.int .i64 k,.int .u64 (q : Int)] 104))
  have hhas := cells_has _ F p cap hs E hc1 h
  rw [decide_eq_true (by omega)] at hhas
  have hthere := cells_there _ F p cap hs E hc1 x hx
  have hin := cells_in_no _ F p cap hs E hc1 x hx he
  have hlt := hc.lt
  obtain ⟨steps, gs, pn, gn, cn, mb,rfl, hnd, hok, hs0, hs1, hb, ha, hn, hm⟩ := id hc
  have c1 : w.cell? ⟨p,1,none⟩ = some (.slice (some ⟨gs,0,none⟩) cap cap) := by rw [cell_of_blk hb]; rfl
  have c3 : w.cell? ⟨p,3,none⟩ = some (.map (some mb)) := by rw [cell_of_blk hb]; rfl
  have f0 := ha.frozen (x * 3)
  have f1 := ha.frozen (x * 3 + 1)
  have f2 := ha.frozen (x * 3 + 2)
  have d0 := ha.cell hx (j := 0) (by omega)
  have d1 := ha.cell hx (j := 1) (by omega)
  have d2 := ha.cell hx (j := 2) (by omega)
  rw [cellV_none he] at d0 d1 d2
  simp only [List.getElem?_cons_zero, List.getElem?_cons_succ, Nat.add_zero] at d0 d1 d2
  have hx3 : (x : Int) < (cap : Int) := by omega
  have hpl := hlt p (by simp)
  have hgl := hlt gs (by simp)
  have hml := hlt mb (by simp)
  have hh6 : h <= 65536 := Nat.le_trans h2 hok.bh
  have hcount : count E cap h <= 65536 := Nat.le_trans (count_le E cap h) hok.bc
  have hfull : full E cap hs < maxLen := by have := full_le E cap hs; have := hok.bh; unfold maxLen; omega
  have hv := manyF_getD E cap h
  have hK3 : ∀ W3, W3 = ((((w.setCell ⟨gs, x * 3, none⟩ (.int .i64 (h : Int))).setCell ⟨gs, x * 3 + 1, none⟩ (.int .i64 k)).setCell ⟨gs, x * 3 + 2, none⟩ (.int .u64 (q : Int))).alloc (.cells #[.int .i64 k,.int .u64 (q : Int)] 104)).drew ->
      W3.cell? ⟨p,3,none⟩ = some (.map (some mb)) ∧ IMap Tryz.prog 3 W3 mb (full E cap hs) (manyF E cap) ∧ Arr W3 448 3 cap gs (cellV (put E x (some (h, k, q)))) ∧ Keeps [gs] w W3 := by
    rintro W3 rfl
    have hk3 : Keeps [gs] w ((((w.setCell ⟨gs, x * 3, none⟩ (.int .i64 (h : Int))).setCell ⟨gs, x * 3 + 1, none⟩ (.int .i64 k)).setCell ⟨gs, x * 3 + 2, none⟩ (.int .u64 (q : Int))).alloc (.cells #[.int .i64 k,.int .u64 (q : Int)] 104)).drew :=
      (((((Keeps.refl _ _).setCell (.inl (by simp)) _).setCell (.inl (by simp)) _).setCell (.inl (by simp)) _).alloc _).drew
    have hnd0 := hnd
    simp only [List.nodup_cons, List.mem_cons, List.not_mem_nil, or_false, not_or, List.nodup_nil, and_true, not_false_eq_true] at hnd0
    obtain ⟨⟨n1, n2, n3, n4⟩,⟨n5, n6, n7⟩, _⟩ := hnd0
    refine ⟨?_, hm.keep hk3 (by simpa using fun e => n7 e.symm),?_, hk3⟩
    · rw [cell_of_blk (hk3.blk hb (by simpa using n1))]; rfl
    · have h3 := (ha.set3 hx (.int .i64 (h : Int)) (.int .i64 k) (.int .u64 (q : Int))).alloc (.cells #[.int .i64 k,.int .u64 (q : Int)] 104)
      rw [<- cellV_put] at h3
      exact h3.keep ⟨rfl,rfl,rfl, Nat.le_refl _,fun _ _ _ => rfl⟩ (S := []) (by simp)
  have hpost : ∀ W3 w', W3.cell? ⟨p,3,none⟩ = some (.map (some mb)) -> Arr W3 448 3 cap gs (cellV (put E x (some (h, k, q)))) -> Keeps [gs] w W3 ->
      IMap Tryz.prog 3 w' mb (if (manyF E cap (h : Int)).isSome then full E cap hs else full E cap hs + 1) (fun z => if z = (h : Int) then some ((count E cap h : Int) + 1) else manyF E cap z) -> W3.grownBy w' (some mb) ->
      CellsAt w' [p, gs, pn, gn, mb] p cap hs (put E x (some (h, k, q))) ∧ Keeps [p, gs, pn, gn, mb] w w' := by
    intro W3 w' c3' ha3 hk3 hm3 hg3
    have hnd0 := hnd
    simp only [List.nodup_cons, List.mem_cons, List.not_mem_nil, or_false, not_or, List.nodup_nil, and_true, not_false_eq_true] at hnd0
    obtain ⟨⟨n1, n2, n3, n4⟩,⟨n5, n6, n7⟩,⟨n8, n9⟩, n10⟩ := hnd0
    have hkm : Keeps [mb] W3 w' := (Keeps.refl _ _).grown hg3 (by simp)
    have hk4 : Keeps [gs, mb] w w' := (hk3.mono (T := [gs, mb]) (by simp)).trans hkm (by simp)
    rw [<- manyF_put hx he (k := (k, q)), <- full_put hx he h2 (k := (k, q))] at hm3
    exact ⟨⟨steps, gs, pn, gn, cn, mb,rfl, hnd, hok.put hx h1 h2 hk hq, hs0, hs1, hk4.blk hb (by simp; exact ⟨n1, n4⟩), ha3.keep hkm (by simpa using n7), hn.keep hk4 (by simp; exact ⟨fun e => n5 e.symm, n9⟩) (by simp; exact ⟨fun e => n6 e.symm, n10⟩), hm3⟩, hk4.mono (by simp)⟩
  generalize hN : count E cap h = N at *
  go_enter Tryz.func316, Tryz.ntmps316
  have HK3 := Lib.hid hK3
  have HPOST := Lib.hid hpost
  have HFULL := Lib.hid hfull
  clear hb ha hn hm hnd hok hs0 hs1 hc1 hlt he hK3 hpost hfull hN
  go_wp2_with (first
    | (go_at_call 301; refine hhas.mono ?_; rintro e w' ⟨rfl,rfl⟩)
    | (go_at_call 326; refine hthere.mono ?_; rintro e w' ⟨rfl,rfl⟩)
    | (go_at_call 313; refine hin.mono ?_; rintro e w' ⟨rfl,rfl⟩))
  go_region
  generalize hW3 : ((((w.setCell ⟨gs, x * 3, none⟩ (.int .i64 (h : Int))).setCell ⟨gs, x * 3 + 1, none⟩ (.int .i64 k)).setCell ⟨gs, x * 3 + 2, none⟩ (.int .u64 (q : Int))).alloc (.cells #[.int .i64 k,.int .u64 (q : Int)] 104)).drew = W3
  obtain ⟨e3, hm3, ha3, hk3⟩ := HK3.out W3 hW3.symm
  have HM3 := Lib.hid hm3
  clear hW3 HK3 c1 c3 f0 f1 f2 d0 d1 d2 hm3
  go_wp2_with (first
    | (at_lookup; refine wpList_imap_look rfl _ _ rfl mapTy mb _ _ rfl HM3.out (h : Int) rfl (WalkArith.wf_i64 (by omega)) ?_)
    | (at_mapUpdate; refine wpList_imap_put rfl _ _ _ rfl mapTy mb _ _ rfl HM3.out HFULL.out (h : Int) ((N : Int) + 1) rfl rfl (WalkArith.wf_i64 (by omega)) (WalkArith.wf_i64 (by omega)) ?_; intro w4 hm4 hg4))
  go_ret
  obtain ⟨r1, r2⟩ := HPOST.out W3 w4 e3 ha3 hk3 hm4 hg4
  exact ⟨rfl, r1, r2⟩
theorem cells_drop (hc : CellsAt w F p cap hs E) (x h : Nat) (hi : isIn E h x) :
    Calls Tryz.prog 312 #[.pointer (some ⟨p,0,none⟩),.int .i64 x] w fun e w' => e = .returned (.bool true) ∧ CellsAt w' F p cap hs (put E x none) ∧ Keeps F w w' := by
  have hhome := cells_home w F p cap hs E hc x h hi
  have hlt := hc.lt
  obtain ⟨⟨k, q⟩, he⟩ := id hi
  obtain ⟨steps, gs, pn, gn, cn, mb,rfl, hnd, hok, hs0, hs1, hb, ha, hn, hm⟩ := id hc
  have hx := hok.lt x (by rw [he]; rfl)
  obtain ⟨h1, h2⟩ := hok.heap x h _ he
  have c1 : w.cell? ⟨p,1,none⟩ = some (.slice (some ⟨gs,0,none⟩) cap cap) := by rw [cell_of_blk hb]; rfl
  have f0 := ha.frozen (x * 3)
  have f1 := ha.frozen (x * 3 + 1)
  have f2 := ha.frozen (x * 3 + 2)
  have d0 := ha.cell hx (j := 0) (by omega)
  have d1 := ha.cell hx (j := 1) (by omega)
  have d2 := ha.cell hx (j := 2) (by omega)
  rw [cellV_at he] at d0 d1 d2
  simp only [List.getElem?_cons_zero, List.getElem?_cons_succ, Nat.add_zero] at d0 d1 d2
  have hx3 : (x : Int) < (cap : Int) := by omega
  have hpl := hlt p (by simp)
  have hgl := hlt gs (by simp)
  have hml := hlt mb (by simp)
  have hh6 : h <= 65536 := Nat.le_trans h2 hok.bh
  have hcount : count E cap h <= 65536 := Nat.le_trans (count_le E cap h) hok.bc
  have hfull : full E cap hs < maxLen := by have := full_le E cap hs; have := hok.bh; unfold maxLen; omega
  have hv := manyF_getD E cap h
  have hpos := count_pos hx he
  have hsome : (manyF E cap (h : Int)).isSome = true := by rw [manyF_some]; simpa using hpos
  have hK3 : ∀ W3 X, X = ((w.setCell ⟨gs, x * 3, none⟩ (.int .i64 0)).setCell ⟨gs, x * 3 + 1, none⟩ (.int .i64 0)).setCell ⟨gs, x * 3 + 2, none⟩ (.int .u64 0) -> W3.heap = X.heap -> W3.os = X.os -> W3.tape = X.tape -> W3.output = X.output ->
      W3.cell? ⟨p,3,none⟩ = some (.map (some mb)) ∧ IMap Tryz.prog 3 W3 mb (full E cap hs) (manyF E cap) ∧ Arr W3 448 3 cap gs (cellV (put E x none)) ∧ Keeps [gs] w W3 := by
    rintro W3 X hX e1 e2 e3 e4
    have hk0 : Keeps [gs] w X := by
      rw [hX]
      exact (((Keeps.refl _ _).setCell (.inl (by simp)) _).setCell (.inl (by simp)) _).setCell (.inl (by simp)) _
    have hk1 : Keeps [] X W3 := ⟨e2, e3, e4,by rw [e1]; exact Nat.le_refl _,fun b _ _ => by rw [e1]⟩
    have hk3 : Keeps [gs] w W3 := hk0.trans hk1 (by simp)
    have hnd0 := hnd
    simp only [List.nodup_cons, List.mem_cons, List.not_mem_nil, or_false, not_or, List.nodup_nil, and_true, not_false_eq_true] at hnd0
    obtain ⟨⟨n1, n2, n3, n4⟩,⟨n5, n6, n7⟩, _⟩ := hnd0
    refine ⟨?_, hm.keep hk3 (by simpa using fun e => n7 e.symm),?_, hk3⟩
    · rw [cell_of_blk (hk3.blk hb (by simpa using n1))]; rfl
    · have h3 := ha.set3 hx (.int .i64 0) (.int .i64 0) (.int .u64 0)
      rw [<- cellV_drop, <- hX] at h3
      exact h3.keep hk1 (by simp)
  have hpost : ∀ W3 w', Arr W3 448 3 cap gs (cellV (put E x none)) -> Keeps [gs] w W3 ->
      IMap Tryz.prog 3 w' mb (full (put E x none) cap hs) (manyF (put E x none) cap) -> Keeps [mb] W3 w' ->
      CellsAt w' [p, gs, pn, gn, mb] p cap hs (put E x none) ∧ Keeps [p, gs, pn, gn, mb] w w' := by
    intro W3 w' ha3 hk3 hm3 hkm
    have hnd0 := hnd
    simp only [List.nodup_cons, List.mem_cons, List.not_mem_nil, or_false, not_or, List.nodup_nil, and_true, not_false_eq_true] at hnd0
    obtain ⟨⟨n1, n2, n3, n4⟩,⟨n5, n6, n7⟩,⟨n8, n9⟩, n10⟩ := hnd0
    have hk4 : Keeps [gs, mb] w w' := (hk3.mono (T := [gs, mb]) (by simp)).trans hkm (by simp)
    exact ⟨⟨steps, gs, pn, gn, cn, mb,rfl, hnd, hok.drop, hs0, hs1, hk4.blk hb (by simp; exact ⟨n1, n4⟩), ha3.keep hkm (by simpa using n7), hn.keep hk4 (by simp; exact ⟨fun e => n5 e.symm, n9⟩) (by simp; exact ⟨fun e => n6 e.symm, n10⟩), hm3⟩, hk4.mono (by simp)⟩
  have n1 : ¬ p = gs := by
    have hnd0 := hnd
    simp only [List.nodup_cons, List.mem_cons, List.not_mem_nil, or_false, not_or, List.nodup_nil, and_true, not_false_eq_true] at hnd0
    exact hnd0.1.1
  have c3 : w.cell? ⟨p,3,none⟩ = some (.map (some mb)) := by rw [cell_of_blk hb]; rfl
  have hc3 : ∀ W3 w' : World, W3.grownBy w' (some mb) -> W3.cell? ⟨p,3,none⟩ = some (.map (some mb)) -> p < W3.heap.size -> w'.cell? ⟨p,3,none⟩ = some (.map (some mb)) := by
    intro W3 w' hg hc hp
    have hnd0 := hnd
    simp only [List.nodup_cons, List.mem_cons, List.not_mem_nil, or_false, not_or, List.nodup_nil, and_true, not_false_eq_true] at hnd0
    obtain ⟨⟨n1, n2, n3, n4⟩, _⟩ := hnd0
    have hkm : Keeps [mb] W3 w' := (Keeps.refl _ _).grown hg (by simp)
    exact (World.cell?_of_block (a := ⟨p,3,none⟩) (hkm.block p hp (by simpa using n4))).trans hc
  have hend : ∀ W3 w4 w5 : World, Arr W3 448 3 cap gs (cellV (put E x none)) -> Keeps [gs] w W3 -> count E cap h = 1 -> W3.grownBy w4 (some mb) -> w4.grownBy w5 (some mb) ->
      IMap Tryz.prog 3 w5 mb (if ((fun z : Int => if z = (h : Int) then some ((count E cap h : Int) - 1) else manyF E cap z) (h : Int)).isSome then (if (manyF E cap (h : Int)).isSome then full E cap hs else full E cap hs + 1) - 1 else (if (manyF E cap (h : Int)).isSome then full E cap hs else full E cap hs + 1)) (fun z => if z = (h : Int) then none else (if z = (h : Int) then some ((count E cap h : Int) - 1) else manyF E cap z)) ->
      CellsAt w5 [p, gs, pn, gn, mb] p cap hs (put E x none) ∧ Keeps [p, gs, pn, gn, mb] w w5 := by
    intro W3 w4 w5 ha3 hk3 hone hg4 hg5 hm5
    have k4 : Keeps [mb] W3 w4 := (Keeps.refl _ _).grown hg4 (by simp)
    have k5 : Keeps [mb] w4 w5 := (Keeps.refl _ _).grown hg5 (by simp)
    simp only [if_true, hsome, Option.isSome_some] at hm5
    rw [<- full_drop_last hx he h2 hone, <- manyF_drop_last hx he hone] at hm5
    exact hpost W3 w5 ha3 hk3 hm5 (k4.trans k5 (by simp))
  have hend2 : ∀ W3 w4 : World, Arr W3 448 3 cap gs (cellV (put E x none)) -> Keeps [gs] w W3 -> 1 < count E cap h -> W3.grownBy w4 (some mb) ->
      IMap Tryz.prog 3 w4 mb (if (manyF E cap (h : Int)).isSome then full E cap hs else full E cap hs + 1) (fun z => if z = (h : Int) then some ((count E cap h : Int) - 1) else manyF E cap z) ->
      CellsAt w4 [p, gs, pn, gn, mb] p cap hs (put E x none) ∧ Keeps [p, gs, pn, gn, mb] w w4 := by
    intro W3 w4 ha3 hk3 hmore hg4 hm4
    have k4 : Keeps [mb] W3 w4 := (Keeps.refl _ _).grown hg4 (by simp)
    rw [if_pos hsome, <- full_drop_more hx he hmore (hs := hs), <- manyF_drop_more hx he hmore] at hm4
    exact hpost W3 w4 ha3 hk3 hm4 k4
  go_enter Tryz.func312, Tryz.ntmps312
  generalize hN : count E cap h = N at hend hend2 hv hcount hpos
  have HK3 := Lib.hid hK3
  have HEND := Lib.hid hend
  have HEND2 := Lib.hid hend2
  have HFULL := Lib.hid hfull
  have HC3 := Lib.hid hc3
  have HS := Lib.hid hsome
  have HV := Lib.hid hv
  have HM5 : (if (manyF E cap (h : Int)).isSome then full E cap hs else full E cap hs + 1) < maxLen := by rw [if_pos hsome]; exact hfull
  have HM6 := Lib.hid HM5
  clear hb ha hn hm hnd hok hs0 hs1 hlt he hK3 hpost hend hend2 hfull hc3 hsome hN hv HM5
  go_upto_region 5 with (first
    | (go_at_call 302; refine hhome.mono ?_; rintro e w' ⟨rfl, n,rfl⟩))
  obtain ⟨c4, hm3, ha3, hk3⟩ := HK3.out ((((w.drewN n).setCell ⟨gs, x * 3, none⟩ (.int .i64 0)).setCell ⟨gs, x * 3 + 1, none⟩ (.int .i64 0)).setCell ⟨gs, x * 3 + 2, none⟩ (.int .u64 0)) _ rfl rfl rfl rfl rfl
  generalize (((w.drewN n).setCell ⟨gs, x * 3, none⟩ (.int .i64 0)).setCell ⟨gs, x * 3 + 1, none⟩ (.int .i64 0)).setCell ⟨gs, x * 3 + 2, none⟩ (.int .u64 0) = W3 at *
  have hp3 : p < W3.heap.size := Nat.lt_of_lt_of_le hpl hk3.size
  have HM3 := Lib.hid hm3
  clear HK3 c1 c3 f0 f1 f2 d0 d1 d2 hm3 n1
  go_upto_region 6 with (first
    | (at_lookup; refine wpList_imap_look rfl _ _ rfl mapTy mb _ _ rfl HM3.out (h : Int) rfl (WalkArith.wf_i64 (by omega)) ?_; rw [HV.out])
    | (at_mapUpdate; refine wpList_imap_put rfl _ _ _ rfl mapTy mb _ _ rfl HM3.out HFULL.out (h : Int) ((N : Int) - 1) rfl rfl (WalkArith.wf_i64 (by omega)) (WalkArith.wf_i64 (by omega)) ?_; intro w4 hm4 hg4))
  have e4 := HC3.out _ _ hg4 c4 hp3
  have HM4 := Lib.hid hm4
  have HG4 := Lib.hid hg4
  clear hm4 hg4 c4 hp3
  by_cases hone : N = 1
  · subst hone
    go_upto_region 7 with (first
      | (at_lookup; refine wpList_imap_look rfl _ _ rfl mapTy mb _ _ rfl HM4.out (h : Int) rfl (WalkArith.wf_i64 (by omega)) ?_))
    go_wp2_with (first
      | (at_delete; go_loud (refine wpList_imap_del rfl _ _ rfl mapTy mb _ _ rfl HM4.out (h : Int) rfl (WalkArith.wf_i64 (by omega)) ?_; intro w5 hm5 hg5; have HM5 := Lib.hid hm5; have HG5 := Lib.hid hg5; clear hm5 hg5)))
    go_ret
    exact ⟨rfl, HEND.out W3 w4 w5 ha3 hk3 (by simp) HG4.out HG5.out HM5.out⟩
  · have hne : ((N : Int) - 1 == 0) = false := by rw [beq_eq_false_iff_ne]; omega
    have hmore : 1 < N := by omega
    clear hone
    go_wp2_with (first
      | (at_lookup; refine wpList_imap_look rfl _ _ rfl mapTy mb _ _ rfl HM4.out (h : Int) rfl (WalkArith.wf_i64 (by omega)) ?_))
    go_ret
    exact ⟨rfl, HEND2.out W3 w4 ha3 hk3 hmore HG4.out HM4.out⟩
end
theorem Tryz.infoBldP : (Tryz.prog.info? 122).map (·.size) = some 2 := by kernel_rfl
theorem Tryz.infoU8 : (Tryz.prog.info? 5).map (fun i => (i.zero, i.size, i.bytes)) = some (some (.int .u8 0), 1,1) := by kernel_rfl
theorem Tryz.cellsU8 : Tryz.prog.cellsOf 5 = 1 := by kernel_rfl
def BldAt (w : World) (p : Nat) (t : List UInt8) (v : Value) : Prop :=
  ∃ a, w.heap[p]? = some (.cells #[a, v] 122 (0,0)) ∧ (a = .pointer none ∨ a = .pointer (some ⟨p,0,none⟩)) ∧ w.ownsRow 0 5 1 v t.length (Lib.byteCells t) ∧ v.ownBlock ≠ some p
section
variable {w w' : World} {p : Nat} {t : List UInt8} {v : Value} {S : List Nat}
theorem BldAt.keep (h : BldAt w p t v) (k : Keeps S w w') (hp : p ∉ S) (hv : ∀ b, v.ownBlock = some b -> b ∉ S) : BldAt w' p t v := by
  obtain ⟨a, h1, h2, h3, h4⟩ := h
  refine ⟨a, k.blk h1 hp, h2,⟨h3.1,?_⟩, h4⟩
  rcases h3.2 with c | ⟨g, cap, cur, e, hb, hg, r⟩
  · exact .inl c
  · exact .inr ⟨g, cap, cur, e, hb, k.blk hg (hv g (by rw [e]; rfl)), r⟩
theorem BldAt.new (w : World) : BldAt (w.alloc (.cells #[.pointer none,.slice none 0 0] 122 (0,0))) w.heap.size [] (.slice none 0 0) :=
  ⟨_, blk_alloc_new _,.inl rfl,⟨rfl,.inl ⟨rfl,rfl⟩⟩,by simp [Value.ownBlock]⟩
theorem BldAt.rowBlk (h : BldAt w p t v) {b : Nat} (e : v.ownBlock = some b) : ∃ cur, w.heap[b]? = some (.cells cur 5 (0,0)) := by
  obtain ⟨a, h1, h2, h3, h4⟩ := h
  rcases h3.2 with ⟨c, _⟩ | ⟨g, cap, cur, e', hb, hg, r⟩
  · rw [c] at e; cases e
  · rw [e'] at e; cases e; exact ⟨cur, hg⟩
theorem BldAt.lt (h : BldAt w p t v) : p < w.heap.size := by obtain ⟨a, h1, _⟩ := h; exact lt_of_block h1
end
section
variable (w : World) (p : Nat) (t : List UInt8) (v : Value)
theorem bld_check (h : BldAt w p t v) : Calls Tryz.prog 77 #[.pointer (some ⟨p,0,none⟩)] w fun e w' => e = .returned (.tuple #[]) ∧ BldAt w' p t v ∧ Keeps [p] w w' ∧ w'.heap[p]? = some (.cells #[.pointer (some ⟨p,0,none⟩), v] 122 (0,0)) := by
  obtain ⟨j, hj, hjs⟩ := Option.map_eq_some_iff.1 Tryz.infoBldP
  obtain ⟨a, h1, h2, h3, h4⟩ := h
  have c0 : w.cell? ⟨p,0,none⟩ = some a := by rw [cell_of_blk h1]; rfl
  have f0 : w.frozen? ⟨p,0,none⟩ = false := frozen_of_blk h1
  rcases h2 with rfl | rfl
  · have hsh : w.shape? p = some (122,2) := by simp [World.shape?, h1]
    have q1 := Lib.run_to_unsafe (P := Tryz.prog) w ⟨p,0,none⟩ Tryz.underlying119 Tryz.underlying244 hj (by rw [hjs]; decide) hsh (show 0 < 2 by decide)
    have q2 : (callFunc 98 #[.pointer (some ⟨p,0,none⟩)]).run Tryz.prog w = .ok (.value (.pointer (some ⟨p,0,none⟩))) w := by kernel_rfl
    have q3 := Lib.run_from_unsafe (P := Tryz.prog) w ⟨p,0,none⟩ Tryz.underlying244 Tryz.underlying119 hj hsh (by kernel_rfl)
    have hb : (w.setCell ⟨p,0,none⟩ (.pointer (some ⟨p,0,none⟩))).heap[p]? = some (.cells #[.pointer (some ⟨p,0,none⟩), v] 122 (0,0)) := (blk_setCell (i := 0) _ h1).trans rfl
    have kk : Keeps [p] w (w.setCell ⟨p,0,none⟩ (.pointer (some ⟨p,0,none⟩))) := (Keeps.refl _ _).setCell (p := ⟨p,0,none⟩) (.inl (by simp)) _
    have HF : Hid (BldAt (w.setCell ⟨p,0,none⟩ (.pointer (some ⟨p,0,none⟩))) p t v ∧ Keeps [p] w (w.setCell ⟨p,0,none⟩ (.pointer (some ⟨p,0,none⟩))) ∧ (w.setCell ⟨p,0,none⟩ (.pointer (some ⟨p,0,none⟩))).heap[p]? = some (.cells #[.pointer (some ⟨p,0,none⟩), v] 122 (0,0))) := by
      refine Lib.hid ⟨⟨_, hb,.inr rfl,⟨h3.1,?_⟩, h4⟩, kk, hb⟩
      rcases h3.2 with c | ⟨g, cap, cur, e, hb', hg, r⟩
      · exact .inl c
      · exact .inr ⟨g, cap, cur, e, hb', kk.blk hg (by simp; intro c; exact h4 (by rw [e, <- c]; rfl)), r⟩
    clear hb kk h1 h3 h4
    go_enter Tryz.func77, Tryz.ntmps77
    go_wp2_with fail
    go_end0
    exact ⟨rfl, HF.out⟩
  · have q1 := Lib.run_neq_ptr_same (P := Tryz.prog) w ⟨p,0,none⟩ Tryz.underlying119 hj
    have HF := Lib.hid (show BldAt w p t v ∧ Keeps [p] w w ∧ w.heap[p]? = some (.cells #[.pointer (some ⟨p,0,none⟩), v] 122 (0,0)) from ⟨⟨_, h1,.inr rfl, h3, h4⟩, Keeps.refl _ _, h1⟩)
    clear h1 h3 h4
    go_enter Tryz.func77, Tryz.ntmps77
    go_wp2_with fail
    go_end0
    exact ⟨rfl, HF.out⟩
def Wrote (B : Nat) (s : List UInt8) (e : Ending) (w' : World) : Prop :=
  ∃ v', e = .returned (.tuple #[.int .i64 (s.length : Int),.nilIface]) ∧ BldAt w' p (t ++ s) v' ∧ Keeps (p :: v.ownBlock.toList) w w' ∧ ∀ b, v'.ownBlock = some b -> B <= b
theorem brow_up {w : World} {e size n B : Nat} {v : Value} {xs : List Value} (h : w.ownsRow 0 e size v n xs) (hB : ∀ b, v.ownBlock = some b -> B <= b) : w.ownsRow B e size v n xs := by
  refine ⟨h.1,?_⟩
  rcases h.2 with c | ⟨g, cap, cur, e', hb, r⟩
  · exact .inl c
  · exact .inr ⟨g, cap, cur, e', hB g (by rw [e']; rfl), r⟩
theorem brow_down {w : World} {e size n B : Nat} {v : Value} {xs : List Value} (h : w.ownsRow B e size v n xs) : w.ownsRow 0 e size v n xs := by
  refine ⟨h.1,?_⟩
  rcases h.2 with c | ⟨g, cap, cur, e', hb, r⟩
  · exact .inl c
  · exact .inr ⟨g, cap, cur, e', Nat.zero_le _, r⟩
theorem brow_base {w : World} {e size n B : Nat} {v : Value} {xs : List Value} (h : w.ownsRow B e size v n xs) : ∀ b, v.ownBlock = some b -> B <= b := by
  intro b hb
  rcases h.2 with ⟨c, _⟩ | ⟨g, cap, cur, e', hg, r⟩
  · rw [c] at hb; cases hb
  · rw [e'] at hb; cases hb; exact hg
theorem bld_write (h : BldAt w p t v) (s : ByteArray) (hl : t.length + s.size <= 65536000) (B : Nat) (hB : B <= w.heap.size) (hvB : ∀ b, v.ownBlock = some b -> B <= b) : Calls Tryz.prog 45 #[.pointer (some ⟨p,0,none⟩),.string s] w (Wrote w p t v B s.data.toList) := by
  have hc := bld_check w p t v h
  obtain ⟨i0, hi, hzz⟩ := Option.map_eq_some_iff.1 Tryz.infoU8
  simp only [Prod.mk.injEq] at hzz
  obtain ⟨hz0, hz1, hz2⟩ := hzz
  have hlt := h.lt
  have hfin : ∀ w1, BldAt w1 p t v -> Keeps [p] w w1 -> w1.heap[p]? = some (.cells #[.pointer (some ⟨p,0,none⟩), v] 122 (0,0)) -> w1.cell? ⟨p,1,none⟩ = some v ∧ w1.ownsRow B 5 1 v t.length (Lib.byteCells t) ∧ B <= w1.heap.size ∧
      Hid (∀ v' w2, w2.ownsRow B 5 1 v' (t.length + s.size) (Lib.byteCells t ++ Lib.strCells s) -> w1.grownBy w2 v.ownBlock -> (∃ ao n cap, v' = .slice ao n cap) ∧ w2.frozen? ⟨p,1,none⟩ = false ∧ w2.cell? ⟨p,1,none⟩ = some v ∧ Hid (Wrote w p t v B s.data.toList (.returned (.tuple #[.int .i64 (s.size : Int),.nilIface])) (w2.setCell ⟨p,1,none⟩ v'))) := by
    intro w1 hb k1 hbk
    obtain ⟨a, h1, h2, h3, h4⟩ := hb
    refine ⟨by rw [cell_of_blk hbk]; rfl, brow_up h3 hvB, Nat.le_trans hB k1.size,fun v' w2 hoB hg => ?_⟩
    have ho := brow_down hoB
    have k2 : Keeps v.ownBlock.toList w1 w2 := (Keeps.refl _ _).grown hg (fun b e => .inl (by rw [e]; simp))
    have hp : p ∉ v.ownBlock.toList := by
      intro c
      cases e : v.ownBlock with
      | none => rw [e] at c; simp at c
      | some b => rw [e] at c; simp at c; exact h4 (by rw [e, c])
    have hb2 := k2.blk hbk hp
    have hb3 : (w2.setCell ⟨p,1,none⟩ v').heap[p]? = some (.cells #[.pointer (some ⟨p,0,none⟩), v'] 122 (0,0)) := (blk_setCell (i := 1) _ hb2).trans rfl
    have hlen : (t ++ s.data.toList).length = t.length + s.size := by rw [List.length_append]; rfl
    have hne : v'.ownBlock ≠ some p := by
      intro e
      rcases ho.2 with ⟨c, _⟩ | ⟨g, cap, cur, e', hb, hg', r⟩
      · rw [c] at e; cases e
      · rw [e'] at e; cases e
        rw [hb2] at hg'
        injection hg' with hg'; injection hg' with _ ht; cases ht
    refine ⟨?_, frozen_of_blk hb2,by rw [cell_of_blk hb2]; rfl, v',rfl,⟨_, hb3,.inr rfl,?_, hne⟩,?_, brow_base hoB⟩
    · rcases ho.2 with ⟨c, _⟩ | ⟨g, cap, cur, e', _⟩
      · exact ⟨_, _, _, c⟩
      · exact ⟨_, _, _, e'⟩
    · rw [hlen, Lib.byteCells_append, <- Lib.strCells_eq]
      refine ⟨ho.1,?_⟩
      rcases ho.2 with c | ⟨g, cap, cur, e', hb, hg', r⟩
      · exact .inl c
      · refine .inr ⟨g, cap, cur, e', hb,?_, r⟩
        rw [blk_setCell_ne]
        · exact hg'
        · intro c
          exact hne (by rw [e']; show some g = some p; rw [c])
    · exact ((k1.mono (T := p :: v.ownBlock.toList) (fun x hx => .inl (by simp at hx; simp [hx]))).trans k2 (fun x hx => .inl (by simp [hx]))).setCell (p := ⟨p,1,none⟩) (.inl (by simp)) _
  have HF := Lib.hid hfin
  clear hfin h
  have hsl : (s.size : Int) = (s.data.toList.length : Int) := rfl
  have HSL := Lib.hid hsl
  clear hsl
  go_enter Tryz.func45, Tryz.ntmps45
  go_wp2_with (first
    | (go_at_call 77; refine hc.mono ?_; rintro e w1 ⟨rfl, z1, z2, z3⟩; obtain ⟨c1, c2, cB, c3⟩ := HF.out w1 z1 z2 z3; clear z1 z2 z3)
    | (at_builtin; refine Lib.wpList_append_own_string _ rfl _ _ 120 9 rfl B 5 i0 Tryz.underlying120 Tryz.underlying9 hi hz0 hz1 hz2 v t.length (Lib.byteCells t) rfl c2 s rfl ?_ ?_ ?_ ?_; (unfold maxLen; omega); omega; exact cB; intro v' w2 ho hg _; obtain ⟨⟨ao, n, cap,rfl⟩, f1, c4, c5⟩ := c3.out v' w2 ho hg; clear ho hg))
  go_ret2
  exact c5.out
theorem keeps_freeze {S : List Nat} {w w' : World} (h : Keeps S w w') {a : Addr} (ha : a.block ∈ S ∨ w.heap.size <= a.block) (n : Nat) : Keeps S w (w'.freeze a n) := by
  by_cases hn : n = 0
  · have : w'.freeze a n = w' := by simp [World.freeze, hn]
    rw [this]; exact h
  · refine h.trans (T := [a.block]) ⟨?_,?_,?_,?_,fun k hk hs => ?_⟩ (fun x hx => by simp at hx; subst hx; exact ha)
    · simp [World.freeze, hn]
    · simp [World.freeze, hn]
    · simp [World.freeze, hn]
    · simp [World.freeze, hn]
    · simp at hs
      simp [World.freeze, hn, Array.getElem?_modify, Ne.symm hs]
theorem bld_string (h : BldAt w p t v) (h0 : t ≠ []) (hl : t.length <= 65536000) : Calls Tryz.prog 48 #[.pointer (some ⟨p,0,none⟩)] w fun e w' => e = .returned (.string ⟨t.toArray⟩) ∧ Keeps v.ownBlock.toList w w' := by
  obtain ⟨a, h1, h2, h3, h4⟩ := h
  have hl0 : t.length ≠ 0 := by simpa using h0
  obtain ⟨g, cap, cur,rfl, hbg, hg, hnc, hcm, hcs, htake⟩ : ∃ g cap cur, v = .slice (some ⟨g,0,none⟩) t.length cap ∧ 0 <= g ∧ w.heap[g]? = some (.cells cur 5 (0,0)) ∧ t.length <= cap ∧ cap <= maxLen ∧ cur.size = cap * 1 ∧ cur.toList.take (t.length * 1) = Lib.byteCells t := by
    rcases h3.2 with ⟨_, hz⟩ | ⟨g, cap, cur, hv, r⟩
    · exact absurd hz hl0
    · exact ⟨g, cap, cur, hv, r⟩
  have c1 : w.drew.cell? ⟨p,1,none⟩ = some (.slice (some ⟨g,0,none⟩) t.length cap) := by
    have : w.drew.heap[p]? = some (.cells #[a,.slice (some ⟨g,0,none⟩) t.length cap] 122 (0,0)) := h1
    rw [cell_of_blk this]; rfl
  have hSD : (Builtin.unsafeSliceData_ #[120] 192 #[.slice (some ⟨g,0,none⟩) t.length cap]).run Tryz.prog w.drew = .ok (.pointer (some ⟨g,0,none⟩)) w.drew :=
    Lib.run_unsafeSliceData_row _ _ _ _ _ _ (by omega)
  have hUS : (Builtin.unsafeString_ #[192,3] 9 #[.pointer (some ⟨g,0,none⟩),.int .i64 t.length]).run Tryz.prog w.drew = .ok (.string ⟨t.toArray⟩) (w.drew.freeze ⟨g,0,none⟩ t.length) := by
    refine Lib.run_unsafeString_row w.drew 192 3 9 5 Tryz.underlying192 Tryz.cellsU8 g cur.size (by have hg' : w.drew.heap[g]? = some (.cells cur 5 (0,0)) := hg; simp [World.shape?, hg']) t h0 (by omega) (by unfold maxLen at hcm; omega) ?_
    intro j x hx
    exact h3.cells (g := g) rfl j (.int .u8 x.toNat) (by simp [Lib.byteCells, hx])
  have HF : Hid (Keeps [g] w (w.drew.freeze ⟨g,0,none⟩ t.length)) := Lib.hid (keeps_freeze (Keeps.refl _ _).drew (.inl (by simp)) _)
  clear h1 h2 h3 h4 hg hcs htake hcm hnc
  go_enter Tryz.func48, Tryz.ntmps48
  go_wp2_with fail
  go_region
  all_goals
    go_wp2_with fail
    go_ret
    exact ⟨rfl, HF.out⟩
end
end Go.Proofs.YtkdbjelhkfdfjaaGreatDoor


/-
  Contracts that the law rests on. Conditions: none.
-/
import Derived.Test.YtkdbjelhkfdfjaaGreatDoorQs18
import Derived.Test.YtkdbjelhkfdfjaaGreatDoorQt02
import Derived.Test.YtkdbjelhkfdfjaaGreatDoorQt03
set_option linter.unusedVariables false
set_option maxRecDepth 100000
set_option maxHeartbeats 16000000
namespace Go.Proofs.YtkdbjelhkfdfjaaGreatDoor
open Go.RowKit
section
variable {w : World} {p pc pr gn gp gt gT cT : Nat} {Fc : List Nat} {cap hs h x : Nat} {E : Ent} {wl : List (List Nat)} {U kid : Nat -> Option Nat} {deg : Nat -> Nat} {mk : Nat -> Bool} {top : Nat -> Option Nat} {D : Nat -> Prop}
theorem FibQ.ringOf (q : FibQ w p pc pr gn gp gt gT cT Fc cap hs E wl U kid deg mk top) (hx : x < cap) : ∃ r, Rg.allZ wl x = x :: r ∧ (x :: r).Nodup ∧ (∀ y ∈ x :: r, y < cap) ∧ (x :: r).length <= 65536 := by
  obtain ⟨N, P, hr⟩ := q.rg.rings
  obtain ⟨lx, rx, hlx, hxl, hax, hpx, hndx, hmx, hbx⟩ := hr.home hx
  have hb : ∀ y ∈ x :: rx, y < cap := fun y hy => by
    rcases List.mem_cons.1 hy with rfl | hy
    · exact hx
    · exact hbx y hy
  exact ⟨rx, hax, hndx, hb, Nat.le_trans (nodup_len hndx hb) q.cp⟩
end
section
variable (w : World) (F : List Nat) (p cap hs : Nat) (E : Ent)
def FibExt (h : Nat) (e : Ending) (w' : World) : Prop :=
  ∃ x : Nat, e = .returned (.tuple #[.int .i64 x,.bool true]) ∧ least E h x ∧ FibAt w' F p cap hs (put E x none) ∧ Keeps F w w'
theorem fib_extract (c : FibAt w F p cap hs E) (h : Nat) (h1 : 1 <= h) (h2 : h <= hs) (hi : ∃ y, isIn E h y) :
    Calls Tryz.prog 383 #[.pointer (some ⟨p,0,none⟩),.int .i64 h] w (FibExt w F p cap hs E h) := by
  have hmin := fib_min_yes w F p cap hs E c h h1 h2 hi
  obtain ⟨pc, pr, gn, gp, gt, gT, cT, Fc, wl, U, kid, deg, mk, top,rfl, q, o⟩ := c
  have hbh := q.ce.ok.bh
  obtain ⟨x, htop⟩ : ∃ x, top h = some x := by
    cases e : top h with
    | none => obtain ⟨y, hy⟩ := hi; exact absurd hy (FibM.none_of o e y)
    | some x => exact ⟨x,rfl⟩
  have hlx : least E h x := FibM.first o htop
  have m := FibM.any o h
  have hraise := fib_raise w p pc pr gn gp gt gT cT Fc cap hs E wl U kid deg mk top q h x m htop
  have hxc : x < cap := q.ce.ok.lt x hlx.1.some
  have hF := q.lt
  have hcp := q.cp
  have HX := Lib.hid hlx
  have HT := Lib.hid htop
  have HFF := Lib.hid hF
  clear q o m hi hlx htop hF
  go_enter Tryz.func383, Tryz.ntmps383
  go_upto_region 5 with (first
    | (go_at_call 387; refine hmin.mono ?_; rintro e w' ⟨⟨x',rfl, hl'⟩,rfl⟩; have hxx := hl'.one HX.out; subst hxx; clear hl')
    | (go_at_call 389; refine hraise.mono ?_; rintro e w1 ⟨rfl, wl1, U1, kid1, deg1, mk1, q1, m1, hk1, k1⟩))
  clear hmin hraise
  obtain ⟨r, hax, hnd, hbr, hrl⟩ := q1.ringOf hxc
  have hall := rg_all q1.rg hcp hxc
  rw [hax] at hall
  have hmem : ∀ z, z ∈ x' :: r ↔ rootOf E U1 h z := fun z => by
    rw [<- hax]
    have := m1.ringTop HT.out z
    simp only [and_true] at this
    exact this
  have c1 := q1.c1
  have Q1 := Lib.hid q1
  have M1 := Lib.hid m1
  have K1 := Lib.hid k1
  have HM := Lib.hid hmem
  have HB := Lib.hid hbr
  have HND := Lib.hid hnd
  have HK1 := Lib.hid hk1
  have HAX := Lib.hid hax
  have hsz := k1.size
  clear q1 m1 k1 hmem hbr hnd hax hk1
  simp only [List.length_cons] at hrl
  have hge : (1 : Int) <= (r.length : Int) + 1 := by omega
  go_cut [8] (fun v wx => ∃ (ao : Option Addr) (ca : Nat), v = .slice ao r.length ca ∧ Win w.heap.size wx v r ∧ FibQ wx p pc pr gn gp gt gT cT Fc cap hs E wl1 U1 kid1 deg1 mk1 top ∧ Keeps (p :: pr :: gn :: gp :: gt :: gT :: Fc) w wx)
  case first =>
    go_wp2_with (go_at_call 391; (refine hall.mono ?_; rintro e w2 ⟨v,rfl, hir, hb2⟩; obtain ⟨ao, ca,rfl⟩ := hir.form; obtain ⟨g,rfl, hg1, hg2, _⟩ := hir.at 0 (Nat.succ_pos _); have IR := Lib.hid hir; have B2 := Lib.hid hb2; clear hir hb2; simp only [List.length_cons]))
    all_goals
      go_meet
      case rel =>
        have hw := Win.of (IR.out.lo hsz)
        simp only [List.length_cons] at hw
        have k2 := Below.keeps B2.out (Nat.le_refl _) []
        refine ⟨_, _,rfl,?_, Q1.out.same k2, K1.out.trans k2 (by simp)⟩
        first
          | exact win_tail2 _ hw
          | exact win_tail1 (by assumption) _ hw
  case rest =>
    clear hall c1
    obtain ⟨ao, ca,rfl, hw, q, kp⟩ := hcut
    have hall := rg_all q.rg hcp hxc
    rw [HAX.out] at hall
    have c1 := q.c1
    have HW := Lib.hid hw
    have Q := Lib.hid q
    have KP := Lib.hid kp
    have hszc := kp.size
    clear hw q kp
    go_upto_block 0 with (go_at_call 391; (refine hall.mono ?_; rintro e w2 ⟨v,rfl, hir, hb2⟩; obtain ⟨bo, cb,rfl⟩ := hir.form; have IR := Lib.hid hir; have B2 := Lib.hid hb2; clear hir hb2; simp only [List.length_cons]))
    go_cut [38] (fun _ wx => ∃ wl2, FibQ wx p pc pr gn gp gt gT cT Fc cap hs E wl2 U1 kid1 deg1 mk1 top ∧ Parted cap (Rl wl1) (Rl wl2) (x' :: r) ∧ Win w.heap.size wx (.slice ao r.length ca) r ∧ Keeps (p :: pr :: gn :: gp :: gt :: gT :: Fc) w wx)
    case first =>
      go_wp2_with fail
      go_loopg [38] (r.length + 2) (fun n s wr => ∃ (i : Nat) (wlj : List (List Nat)), n + i = r.length + 2 ∧ i <= r.length + 1 ∧ s = .int .i64 i ∧ FibQ wr p pc pr gn gp gt gT cT Fc cap hs E wlj U1 kid1 deg1 mk1 top ∧ Parted cap (Rl wl1) (Rl wlj) ((x' :: r).take i) ∧
        Rg.IR wc.heap.size wr (.slice bo (r.length + 1) cb) (x' :: r) ∧ Win w.heap.size wr (.slice ao r.length ca) r ∧ Keeps (p :: pr :: gn :: gp :: gt :: gT :: Fc) w wr)
      case atStart =>
        have k2 := Below.keeps B2.out (Nat.le_refl _) []
        exact ⟨0, wl1,by omega,by omega,rfl, Q.out.same k2, Parted.nil _ _, IR.out, HW.out.keep' k2 (by simp), KP.out.trans k2 (by simp)⟩
      case round =>
        clear hall c1 IR B2
        obtain ⟨i, wlj, hk, hin,rfl, q, hpt, hir, hw, kp⟩ := hrel
        have HK := Lib.hid hk
        clear hk
        by_cases hi : i < r.length + 1
        · obtain ⟨y, hy⟩ : ∃ y,(x' :: r)[i]? = some y := ⟨_, List.getElem?_eq_getElem (by simpa using hi)⟩
          have hyc := HB.out y (List.mem_of_getElem? hy)
          obtain ⟨gg, e, _, hgw, d0⟩ := hir.at i (by simpa using hi)
          subst e
          have hyf : Rg.fn (x' :: r) i = y := by simp [Rg.fn, List.getD, hy]
          rw [hyf] at d0
          have c1 := q.c1
          have hpart := rg_part q.rg hcp hyc
          have hi3 : (i : Int) < ((r.length + 1 : Nat) : Int) := by omega
          have hi4 : (i : Int) < (r.length : Int) + 1 := by omega
          have hfin : ∀ w3, RgAt w3 pr gn gp cap (Rg.partZ wlj y).1 -> Keeps [gn, gp] wr w3 -> FibQ w3 p pc pr gn gp gt gT cT Fc cap hs E (Rg.partZ wlj y).1 U1 kid1 deg1 mk1 top ∧ Parted cap (Rl wl1) (Rl (Rg.partZ wlj y).1) ((x' :: r).take (i + 1)) ∧
              Rg.IR wc.heap.size w3 (.slice (some ⟨gg,0,none⟩) (r.length + 1) cb) (x' :: r) ∧ Win w.heap.size w3 (.slice ao r.length ca) r ∧ Keeps (p :: pr :: gn :: gp :: gt :: gT :: Fc) w w3 := fun w3 hr3 k3 => by
            have hgn := HFF.out gn (by simp)
            have hgp := HFF.out gp (by simp)
            have ht1 : (x' :: r).take (i + 1) = (x' :: r).take i ++ [y] := by rw [List.take_add_one, hy]; rfl
            obtain ⟨N, P, hr⟩ := q.rg.rings
            refine ⟨q.ring hr3 k3,?_, ir_keep' hir k3 (fun b eb => ?_), hw.keep' k3 (fun b eb => ?_), kp.trans k3 (fun b hb => .inl (by simp only [List.mem_cons, List.not_mem_nil, or_false] at hb ⊢; rcases hb with c | c <;> simp [c]))⟩
            · rw [ht1]
              exact hpt.more fun a b ha => rl_part hr hyc ha
            · have := (hir.own b eb).1
              simp only [List.mem_cons, List.not_mem_nil, or_false]
              omega
            · have := (hw.block b eb).1
              simp only [List.mem_cons, List.not_mem_nil, or_false]
              omega
          have HF := Lib.hid hfin
          clear hfin q hpt hir hw kp hyf hy
          go_wp2_with (go_at_call 390; refine hpart.mono ?_; rintro e w3 ⟨rfl, hr3, k3⟩; have H3 := Lib.hid (HF.out w3 hr3 k3); clear hr3 k3)
          go_roundg (gk - 1)
          case measure => have := HK.out; omega
          case rel =>
            obtain ⟨a1, a2, a3, a4, a5⟩ := H3.out
            exact ⟨i + 1, _,by have := HK.out; omega,by omega,by go_num, a1, a2, a3, a4, a5⟩
        · obtain rfl : i = r.length + 1 := by omega
          have ht : (x' :: r).take (r.length + 1) = x' :: r := by simp
          rw [ht] at hpt
          have Q2 := Lib.hid q
          have P2 := Lib.hid hpt
          have W2 := Lib.hid hw
          have K2 := Lib.hid kp
          clear q hpt hw kp hir ht
          go_wp2_with fail
          go_meet
          case rel => exact ⟨wlj, Q2.out, P2.out, W2.out, K2.out⟩
    case rest =>
      clear hall c1 HW Q KP
      obtain ⟨wl2, q, hpt, hw, kp⟩ := hcut
      clear B2 IR
      have c3 := q.c3
      have f0 := q.tr.frozen h
      have hh3 : (h : Int) < ((hs + 1 : Nat) : Int) := by omega
      have hh4 : (h : Int) < (hs : Int) + 1 := by omega
      have d0 := q.tr.at (i := h) (by omega)
      obtain ⟨w4, hw4⟩ : ∃ w4, w4 = wc.setCell ⟨gT,h,none⟩ (.int .i64 (-1)) := ⟨_,rfl⟩
      have k4 : Keeps [gT] wc w4 := by rw [hw4]; exact (Keeps.refl _ _).setCell (.inl (by simp)) _
      have q4 : FibQ w4 p pc pr gn gp gt gT cT Fc cap hs E wl2 U1 kid1 deg1 mk1 (upd top h none) := by rw [hw4]; exact q.setTop h1 h2 none
      have hgT := HFF.out gT (by simp)
      have hw2 : Win w.heap.size w4 (.slice ao r.length ca) r := hw.keep' k4 (fun b eb => by have := (hw.block b eb).1; simp only [List.mem_singleton]; omega)
      have kp4 : Keeps (p :: pr :: gn :: gp :: gt :: gT :: Fc) w w4 := kp.trans k4 (fun b hb => .inl (by simp only [List.mem_singleton] at hb; simp [hb]))
      have mp := M1.out.parted HM.out hpt
      have hty := Tidy.start mp HM.out HND.out HK1.out
      have hw0 : Win 0 w4 (.slice ao r.length ca) r := by
        rcases hw2 with e | ⟨g, off, cap', cur, e, _, rest⟩
        · exact .inl e
        · exact .inr ⟨g, off, cap', cur, e, Nat.zero_le _, rest⟩
      have htd := fib_tidy w4 p pc pr gn gp gt gT cT Fc cap hs E wl2 U1 kid1 deg1 mk1 (upd top h none) q4 h x' r ao ca hw0 (fun b eb f => by
        have h5 := (hw2.block b eb).1
        have h6 := HFF.out b f
        omega) hty (by omega)
      have KP4 := Lib.hid kp4
      have hsz4 := kp4.size
      clear q hw kp q4 k4 hw2 hw0 kp4 mp hty hpt
      go_upto_region 12 with fail
      rw [<- hw4]
      clear hw4 c3 f0 d0
      go_wp2_with (go_at_call 392; (refine htd.mono ?_; rintro e w5 ⟨v,rfl, wl5, U5, kid5, deg5, mk5, tab, q5, t5, ta5, hl5, k5⟩; obtain ⟨ta, tca,rfl⟩ := ta5.form; have B5 := Lib.hid t5.back; have Q5 := Lib.hid q5; have TA5 := Lib.hid ta5; have K5 := Lib.hid k5; clear q5 t5 ta5 k5))
      go_loopg [59] (tab.length + 1) (fun n s wr => ∃ (i : Nat) (wl6 : List (List Nat)) (top6 : Nat -> Option Nat), n + i = tab.length + 1 ∧ i <= tab.length ∧ s = .int .i64 i ∧ FibQ wr p pc pr gn gp gt gT cT Fc cap hs E wl6 U5 kid5 deg5 mk5 top6 ∧ Back E cap (Rl wl6) U5 kid5 deg5 top6 h x' tab i ∧
        TabAt w4.heap.size wr (.slice ta tab.length tca) tab ∧ Keeps (p :: pr :: gn :: gp :: gt :: gT :: Fc) w wr)
      case atStart => exact ⟨0, wl5, _,by omega,by omega,rfl, Q5.out, B5.out, TA5.out, KP4.out.trans K5.out (fun b hb => .inl hb)⟩
      case round =>
        clear Q5 B5 TA5 K5 htd
        obtain ⟨i, wl6, top6, hk, hin,rfl, q, b, ta6, kp⟩ := hrel
        have HK := Lib.hid hk
        clear hk
        by_cases hi : i < tab.length
        · obtain ⟨o, ho⟩ : ∃ o, tab[i]? = some o := ⟨_, List.getElem?_eq_getElem hi⟩
          obtain ⟨g6, c6, e6, hg6, d6, _⟩ := ta6.at ho
          cases e6
          have hi3 : (i : Int) < (tab.length : Int) := by omega
          cases o with
          | none =>
            simp only [oZ_none] at d6
            have bs := b.skip ho
            have B6 := Lib.hid bs
            have Q6 := Lib.hid q
            have T6 := Lib.hid ta6
            have K6 := Lib.hid kp
            clear bs b q ta6 kp ho
            go_wp2_with fail
            go_roundg (gk - 1)
            case measure => have := HK.out; omega
            case rel => exact ⟨i + 1, wl6, top6,by have := HK.out; omega,by omega,by go_num, Q6.out, B6.out, T6.out, K6.out⟩
          | some y =>
            simp only [oZ_some] at d6
            have hy1 : ((y : Int) != -1) = true := by rw [bne_iff_ne]; omega
            obtain ⟨l1, l2⟩ := b.loose ho
            have hroot := fib_root wr p pc pr gn gp gt gT cT Fc cap hs E wl6 U5 kid5 deg5 mk5 top6 q h y _ h1 h2 b.m l1 l2
            have hfin : ∀ w7, RootDone wr p pc pr gn gp gt gT cT Fc cap hs E U5 kid5 deg5 mk5 h y (fun z => ∃ d, d < i ∧ tab[d]? = some (some z)) w7 -> ∃ (wl7 : List (List Nat)) (top7 : Nat -> Option Nat), FibQ w7 p pc pr gn gp gt gT cT Fc cap hs E wl7 U5 kid5 deg5 mk5 top7 ∧ Back E cap (Rl wl7) U5 kid5 deg5 top7 h x' tab (i + 1) ∧
                TabAt w4.heap.size w7 (.slice (some ⟨g6,0,none⟩) tab.length tca) tab ∧ Keeps (p :: pr :: gn :: gp :: gt :: gT :: Fc) w w7 := by
              rintro w7 ⟨wl7, top7, q7, m7, k7⟩
              refine ⟨wl7, top7, q7, b.more ho m7, ta6.keep k7 (fun b' eb f => ?_), kp.trans k7 (fun b' hb => .inl hb)⟩
              have h5 := (ta6.own b' eb).1
              have h6 := HFF.out b' f
              omega
            have HF := Lib.hid hfin
            clear hfin b q ta6 kp ho l1 l2
            go_wp2_with (go_at_call 393; (refine hroot.mono ?_; rintro e w7 ⟨rfl, hd7⟩; have H7 := Lib.hid (HF.out w7 hd7); clear hd7))
            go_roundg (gk - 1)
            case measure => have := HK.out; omega
            case rel =>
              obtain ⟨wl7, top7, a1, a2, a3, a4⟩ := H7.out
              exact ⟨i + 1, wl7, top7,by have := HK.out; omega,by omega,by go_num, a1, a2, a3, a4⟩
        · obtain rfl : i = tab.length := by omega
          have hdrop := cells_drop wr Fc pc cap hs E q.ce x' h HX.out.1
          have c0 := q.c0
          have hfin : ∀ w8, CellsAt w8 Fc pc cap hs (put E x' none) -> Keeps Fc wr w8 -> FibExt w (p :: pr :: gn :: gp :: gt :: gT :: Fc) p cap hs E h (.returned (.tuple #[.int .i64 x',.bool true])) w8 := fun w8 hc8 k8 =>
            ⟨x',rfl, HX.out,⟨pc, pr, gn, gp, gt, gT, cT, Fc, wl6, U5, kid5, deg5, mk5, top6,rfl, q.cells hc8 k8, b.drop⟩, kp.trans k8 (fun b' hb => .inl (by simp [hb]))⟩
          have HF := Lib.hid hfin
          clear hfin q b ta6 kp
          go_wp2_with (go_at_call 312; (refine hdrop.mono ?_; rintro e w8 ⟨rfl, hc8, k8⟩; have H8 := Lib.hid (HF.out w8 hc8 k8); clear hc8 k8))
          go_ret2
          exact H8.out
end
section
variable (w : World) (F : List Nat) (p cap hs : Nat) (E : Ent)
def FibMade (e : Ending) (w' : World) : Prop := ∃ F', e = .returned (.int .i64 ((hs + 1 : Nat) : Int)) ∧ FibAt w' F' p cap (hs + 1) E ∧ Moved F w F' w'
theorem fib_make (c : FibAt w F p cap hs E) (hh : hs < 65536) : Calls Tryz.prog 385 #[.pointer (some ⟨p,0,none⟩)] w (FibMade w F p cap hs E) := by
  obtain ⟨pc, pr, gn, gp, gt, gT, cT, Fc, wl, U, kid, deg, mk, top,rfl, q, o⟩ := c
  have hlt := q.lt
  have hmk := cells_make w Fc pc cap hs E q.ce hh
  have d0 := q.c0
  obtain ⟨⟨a1, a2, a3, a4, a5, a6⟩,⟨b1, b2, b3, b4, b5⟩,⟨c1, c2, c3, c4⟩,⟨e1, e2, e3⟩,⟨f1, f2⟩, g1⟩ := q.apart
  have ht : top (hs + 1) = none := by
    cases e : top (hs + 1) with
    | none => rfl
    | some x =>
      obtain ⟨k, hk⟩ := (o.topS _ _ e).1.1
      have := q.ce.ok.heap x _ _ hk
      omega
  have lall : p < w.heap.size ∧ pr < w.heap.size ∧ gn < w.heap.size ∧ gp < w.heap.size ∧ gt < w.heap.size ∧ gT < w.heap.size := ⟨hlt _ (by simp), hlt _ (by simp), hlt _ (by simp), hlt _ (by simp), hlt _ (by simp), hlt _ (by simp)⟩
  obtain ⟨l1, l2, l3, l4, l5, l6⟩ := lall
  have hfin : ∀ (w1 w4 : World) (Fc' : List Nat) (g' c' : Nat), CellsAt w1 Fc' pc cap (hs + 1) E -> Moved Fc w Fc' w1 -> w4.ownsRow 0 3 1 (.slice (some ⟨g',0,none⟩) (hs + 1 + 1) c') (hs + 1 + 1) (topsV top (hs + 1) ++ [.int .i64 (-1)]) -> Keeps [gT] w1 w4 -> (g' = gT ∨ w1.heap.size <= g') ->
      w4.frozen? ⟨p,3,none⟩ = false ∧ w4.cell? ⟨p,3,none⟩ = some (.slice (some ⟨gT,0,none⟩) (hs + 1) cT) ∧ FibMade w (p :: pr :: gn :: gp :: gt :: gT :: Fc) p cap hs E (.returned (.int .i64 ((hs + 1 : Nat) : Int))) (w4.setCell ⟨p,3,none⟩ (.slice (some ⟨g',0,none⟩) (hs + 1 + 1) c')) := by
    intro w1 w4 Fc' g' c' hc1 hm1 hr4 k4 hg4
    have s1 := hm1.keeps.size
    have s4 := k4.size
    have hcl := hc1.lt
    have hnew : ∀ b, b ∉ Fc -> b < w.heap.size -> b ∉ Fc' := fun b a c e => by
      rcases hm1.from' b e with f | f
      · exact a f
      · omega
    have blk4 := k4.blk (hm1.keeps.blk q.blk a6) (by simpa using a5)
    have hgF : g' ∉ Fc' := by rcases hg4 with e | e; rw [e]; exact hnew gT g1 l6; exact fun f => by have := hcl _ f; omega
    have hgs : g' ≠ p ∧ g' ≠ pr ∧ g' ≠ gn ∧ g' ≠ gp ∧ g' ≠ gt := by
      rcases hg4 with e | e
      · rw [e]; exact ⟨a5.symm, b4.symm, c3.symm, e2.symm, f1.symm⟩
      · refine ⟨?_,?_,?_,?_,?_⟩ <;> omega
    have k5 : Keeps [p] w4 (w4.setCell ⟨p,3,none⟩ (.slice (some ⟨g',0,none⟩) (hs + 1 + 1) c')) := (Keeps.refl _ _).setCell (.inl (by simp)) _
    have k15 : Keeps [p, gT] w1 (w4.setCell ⟨p,3,none⟩ (.slice (some ⟨g',0,none⟩) (hs + 1 + 1) c')) := (k4.mono (T := [p, gT]) (by simp)).trans k5 (by simp)
    have kall : Keeps (p :: gT :: Fc) w (w4.setCell ⟨p,3,none⟩ (.slice (some ⟨g',0,none⟩) (hs + 1 + 1) c')) := (hm1.keeps.mono (T := p :: gT :: Fc) fun b hb => .inl (by simp [hb])).trans k15 fun b hb => .inl (by simp at hb; rcases hb with c | c <;> simp [c])
    have tr5 : TopRow (w4.setCell ⟨p,3,none⟩ (.slice (some ⟨g',0,none⟩) (hs + 1 + 1) c')) g' (hs + 1 + 1) c' top := (q.tr.more ht (by omega) hr4).keep k5 (by simpa using hgs.1)
    have q5 : FibQ (w4.setCell ⟨p,3,none⟩ (.slice (some ⟨g',0,none⟩) (hs + 1 + 1) c')) p pc pr gn gp gt g' c' Fc' cap (hs + 1) E wl U kid deg mk top := by
      refine ⟨?_,?_, hc1.keep k15 ?_, q.rg.keep kall ?_ ?_ ?_, q.ar.keep kall ?_, tr5, q.cp⟩
      · simp only [List.nodup_cons, List.mem_cons, not_or]
        exact ⟨⟨a1, a2, a3, a4,fun e => hgs.1 e.symm, hnew p a6 l1⟩,⟨b1, b2, b3,fun e => hgs.2.1 e.symm, hnew pr b5 l2⟩,⟨c1, c2,fun e => hgs.2.2.1 e.symm, hnew gn c4 l3⟩,⟨e1,fun e => hgs.2.2.2.1 e.symm, hnew gp e3 l4⟩,⟨fun e => hgs.2.2.2.2 e.symm, hnew gt f2 l5⟩, hgF, hc1.nodup⟩
      · rw [blk_setCell _ blk4]; simp
      · intro b hb e
        simp only [List.mem_cons, List.not_mem_nil, or_false] at e
        rcases e with rfl | rfl
        · exact hnew b a6 l1 hb
        · exact hnew b g1 l6 hb
      · simp only [List.mem_cons, not_or]; exact ⟨a1.symm, b4, b5⟩
      · simp only [List.mem_cons, not_or]; exact ⟨a2.symm, c3, c4⟩
      · simp only [List.mem_cons, not_or]; exact ⟨a3.symm, e2, e3⟩
      · simp only [List.mem_cons, not_or]; exact ⟨a4.symm, f1, f2⟩
    refine ⟨frozen_of_blk blk4,by rw [cell_of_blk blk4]; rfl, _,rfl,⟨pc, pr, gn, gp, gt, g', c', Fc', wl, U, kid, deg, mk, top,rfl, q5, o⟩, kall.mono ?_,?_, q5.lt⟩
    · intro b hb
      simp only [List.mem_cons] at hb ⊢
      rcases hb with c | c | c <;> simp [c]
    · intro b hb
      simp only [List.mem_cons] at hb ⊢
      rcases hb with rfl | rfl | rfl | rfl | rfl | rfl | hb
      · simp
      · simp
      · simp
      · simp
      · simp
      · rcases hg4 with e | e
        · simp [e]
        · exact .inr (by omega)
      · rcases hm1.from' b hb with c | c
        · simp [c]
        · exact .inr c
  have hstep : ∀ (w1 : World) (Fc' : List Nat), Moved Fc w Fc' w1 -> w1.cell? ⟨p,3,none⟩ = some (.slice (some ⟨gT,0,none⟩) (hs + 1) cT) ∧ w1.ownsRow 0 3 1 (.slice (some ⟨gT,0,none⟩) (hs + 1) cT) (hs + 1) (topsV top (hs + 1)) := fun w1 Fc' h1 =>
    ⟨by rw [cell_of_blk (h1.keeps.blk q.blk a6)]; rfl, h1.keeps.row q.tr.row g1⟩
  have hh3 : (0 : Int) < ((hs + 1 : Nat) : Int) := by omega
  have HF := Lib.hid hfin
  have HS := Lib.hid hstep
  clear hfin hstep q o hlt ht
  go_enter Tryz.func385, Tryz.ntmps385
  go_upto_region 3 with (go_at_call 318; refine hmk.mono ?_; rintro e w1 ⟨Fc',rfl, hc1, hm1⟩)
  obtain ⟨q1, q2⟩ := HS.out w1 Fc' hm1
  go_wp2_with (first
    | (at_builtin; refine wpList_push _ 3 (.int .i64 (-1)) (0,0) rfl (.tmp 15) (.tmp 16) 28 rfl (.int .i64 0) 8 Tryz.underlying28 Rg.Tryz.infoInt rfl rfl _ (hs + 1) (topsV top (hs + 1)) (by simp [Act.eval]) q2 (by simp [Act.eval]) (by unfold maxLen; omega) (by omega) ?_; intro g' cap' w4 hr4 hk4 hf4; obtain ⟨f5, c5, hD5⟩ := HF.out w1 w4 Fc' g' cap' hc1 hm1 hr4 (by simpa [Value.ownBlock] using hk4) (by simpa [Value.ownBlock, eq_comm] using hf4); clear hr4 hk4 hf4))
  go_ret
  exact hD5
end
theorem Tryz.infoPlace : (Tryz.prog.info? 226).map (fun i => (i.zero, i.size, i.bytes)) = some (some (.agg #[.int .i64 0,.int .i64 0,.int .i64 0,.bool false]), 4,32) := by kernel_rfl
def laidP (i j : Nat) : List Value := if j < i then [.int .i64 (-1),.int .i64 (-1),.int .i64 0,.bool false] else [.int .i64 0,.int .i64 0,.int .i64 0,.bool false]
def FibNew (w : World) (n : Nat) (e : Ending) (w' : World) : Prop :=
  ∃ (F : List Nat) (p : Nat), e = .returned (.tuple #[.pointer (some ⟨p,0,none⟩),.int .i64 0]) ∧ FibAt w' F p n 0 (fun _ => none) ∧ Keeps [] w w' ∧ ∀ b ∈ F, w.heap.size <= b
theorem laidP_upd (i : Nat) : upd (laidP i) i [.int .i64 (-1),.int .i64 (-1),.int .i64 0,.bool false] = laidP (i + 1) := by
  funext j
  by_cases e : j = i
  · subst e; rw [upd_same]; simp [laidP]
  · rw [upd_other _ _ e]
    unfold laidP
    by_cases c : j < i
    · rw [if_pos c, if_pos (by omega)]
    · rw [if_neg c, if_neg (by omega)]
theorem Arr.set4 {w : World} {T n g i : Nat} {F : Nat -> List Value} (h : Arr w T 4 n g F) (hi : i < n) (a b c d : Value) :
    Arr ((((w.setCell ⟨g, i * 4, none⟩ a).setCell ⟨g, i * 4 + 1, none⟩ b).setCell ⟨g, i * 4 + 2, none⟩ c).setCell ⟨g, i * 4 + 3, none⟩ d) T 4 n g (upd F i [a, b, c, d]) := by
  have h1 := (((h.set hi (j := 0) (by omega) a).set hi (j := 1) (by omega) b).set hi (j := 2) (by omega) c).set hi (j := 3) (by omega) d
  refine h1.congr fun k _ => ?_
  by_cases e : k = i
  · subst e
    simp only [upd_same]
    have hl := h.size k hi
    match hF : F k, hl with
    | [x, y, z, t], _ => rfl
  · simp only [upd_other _ _ e]
theorem fib_new (w : World) (n : Nat) (hn : n <= 65536) : Calls Tryz.prog 64 #[.int .i64 n] w (FibNew w n) := by
  obtain ⟨i0, hi, hz0, hz1, hzb⟩ := info_parts Tryz.infoPlace
  go_enter Tryz.func64, Tryz.ntmps64
  go_upto_region 6 with (first
    | (go_at_call 87; refine (cells_new w n hn).mono ?_; rintro e w1 ⟨Fc, pc,rfl, hc1, hk1, hF1⟩)
    | (go_at_call 90; refine (Rg.new_yes w1 n hn).mono ?_; rintro e w2 ⟨pr, gn, gp,rfl, hr2, hb2, hp2, hn2, hg2⟩)
    | (at_make; refine wpList_make_full _ rfl _ _ 222 rfl 0 226 i0 (.agg #[.int .i64 0,.int .i64 0,.int .i64 0,.bool false]) 4 Tryz.underlying222 hi hz0 hz1 .i64 .i64 n n n rfl rfl rfl rfl (by rw [hzb]; omega) (by unfold maxLen; omega) (Nat.zero_le _) ?_; intro w3 hr3 hg3))
  have hk2 : Keeps [] w1 w2 := Below.keeps hb2 (Nat.le_refl _) []
  have hk3 : Keeps [] w2 w3 := (Keeps.refl _ _).grown hg3 (fun k h => by cases h)
  have hg1 : w2.heap.size < w3.heap.size := row_lt hr3
  have ha : Arr w3 226 4 n w2.heap.size (laidP 0) := (Arr.made rfl (by decide) hr3).congr (fun i _ => by simp [laidP]; rfl)
  have hl1 := hc1.lt
  have s1 := hk1.size
  have s2 := hk2.size
  obtain ⟨lr1, lr2, lr3⟩ := hr2.lt
  obtain ⟨w5, hw5⟩ : ∃ w5, w5 = (w3.alloc (.cells #[.int .i64 (-1)] 3)).alloc (.cells #[.pointer (some ⟨pc,0,none⟩),.pointer (some ⟨pr,0,none⟩),.slice (some ⟨w2.heap.size,0,none⟩) n n,.slice (some ⟨w3.heap.size,0,none⟩) 1 1] 224) := ⟨_,rfl⟩
  have hb5 : w5.heap[w3.heap.size + 1]? = some (.cells #[.pointer (some ⟨pc,0,none⟩),.pointer (some ⟨pr,0,none⟩),.slice (some ⟨w2.heap.size,0,none⟩) n n,.slice (some ⟨w3.heap.size,0,none⟩) 1 1] 224 (0,0)) := by
    rw [hw5]
    have := blk_alloc_new (w := w3.alloc (.cells #[.int .i64 (-1)] 3 (0,0))) (.cells #[.pointer (some ⟨pc,0,none⟩),.pointer (some ⟨pr,0,none⟩),.slice (some ⟨w2.heap.size,0,none⟩) n n,.slice (some ⟨w3.heap.size,0,none⟩) 1 1] 224 (0,0))
    simpa using this
  have ht5 : w5.heap[w3.heap.size]? = some (.cells #[.int .i64 (-1)] 3 (0,0)) := by
    rw [hw5, blk_alloc_old _ (by simp), blk_alloc_new]
  have hk5 : Keeps [] w3 w5 := by rw [hw5]; exact ((Keeps.refl _ _).alloc _).alloc _
  have ha5 := ha.keep hk5 (by simp)
  have hk35 : Keeps [] w2 w5 := hk3.trans hk5 (by simp)
  have hc5 := (hc1.keep hk2 (by simp)).keep hk35 (by simp)
  have hr5 := hr2.keep hk35 (by simp) (by simp) (by simp)
  have hkw : Keeps [] w w5 := (hk1.trans hk2 (by simp)).trans hk35 (by simp)
  rw [<- hw5]
  obtain ⟨gt, hgd⟩ : ∃ g, w2.heap.size = g := ⟨_,rfl⟩
  obtain ⟨gT, hTd⟩ : ∃ g, w3.heap.size = g := ⟨_,rfl⟩
  have hF2 : ∀ b ∈ Fc, b < w1.heap.size := hl1
  rw [hgd, hTd] at hb5
  rw [hTd] at ht5
  rw [hgd] at ha5 lr1 lr2 lr3
  rw [hgd, hTd]
  have hgg : gt < gT := by omega
  have hgw : w.heap.size <= gt := by omega
  have hg1t : w1.heap.size <= gt := by omega
  have hfin : ∀ wr, Arr wr 226 4 n gt (laidP n) -> Keeps [gt] w5 wr -> FibNew w n (.returned (.tuple #[.pointer (some ⟨gT + 1,0,none⟩),.int .i64 0])) wr := by
    intro wr ha kp
    have hb := kp.blk hb5 (by simp; omega)
    have ht := kp.blk ht5 (by simp; omega)
    have hc6 := hc5.keep kp (fun b hb => by have := hF2 b hb; simp; omega)
    have hr6 := hr5.keep kp (by simp; omega) (by simp; omega) (by simp; omega)
    obtain ⟨n1, n2, n3⟩ := hr5.ne
    refine ⟨_, gT + 1,rfl,⟨pc, pr, gn, gp, gt, gT, 1, Fc, _,fun _ => none,fun _ => none,fun _ => 0,fun _ => false,fun _ => none,rfl,⟨?_, hb, hc6,⟨_, _, hr6, Rg.Rings.new n⟩, ha.congr (fun j hj => by simp [laidP, placeV, oZ, hj]),⟨?_,rfl⟩, hn⟩, FibO.init n _ (fun x y hx => rl_new hx)⟩, hkw.trans kp (by simp; omega),?_⟩
    · simp only [List.nodup_cons, List.mem_cons, not_or]
      exact ⟨⟨by omega,by omega,by omega,by omega,by omega,fun e => by have := hF2 _ e; omega⟩,⟨fun e => n1 e.symm,fun e => n2 e.symm,by omega,by omega,fun e => by have := hF2 _ e; omega⟩,⟨n3,by omega,by omega,fun e => by have := hF2 _ e; omega⟩,⟨by omega,by omega,fun e => by have := hF2 _ e; omega⟩,⟨by omega,fun e => by have := hF2 _ e; omega⟩,fun e => by have := hF2 _ e; omega, hc6.nodup⟩
    · exact ⟨by simp [topsV],.inr ⟨gT, 1, #[.int .i64 (-1)],rfl, Nat.zero_le _, ht,by simp,by decide,by simp,by simp [topsV, oZ]⟩⟩
    · intro b hb
      simp only [List.mem_cons] at hb
      rcases hb with rfl | rfl | rfl | rfl | rfl | rfl | hb
      · omega
      · omega
      · omega
      · omega
      · omega
      · omega
      · exact hF1 b hb
  have HF := Lib.hid hfin
  have e1 : w5.cell? ⟨gT + 1,2,none⟩ = some (.slice (some ⟨gt,0,none⟩) n n) := by rw [cell_of_blk hb5]; rfl
  clear hfin hr3 hg3 ha hk2 hk3 hk5 hc1 hk1 hg1 hw5 hgd hTd hr2 hb2 hk35 hc5 hr5 hkw hl1 s1 s2 lr1 lr2 lr3 hp2 hn2 hg2 hF2 hF1 ht5
  go_wp2_with fail
  go_loopg [34] (n + 1) (fun m s wr => ∃ i : Nat, m + i = n + 1 ∧ i <= n ∧ s = .int .i64 i ∧ Arr wr 226 4 n gt (laidP i) ∧ Keeps [gt] w5 wr)
  case atStart => exact ⟨0,by omega,by omega,rfl, ha5, Keeps.refl _ _⟩
  case round =>
    clear ha5 e1
    obtain ⟨i, hk, hin,rfl, ha, kp⟩ := hrel
    have HK := Lib.hid hk
    clear hk
    by_cases hlt : i < n
    · have hlt3 : (i : Int) < (n : Int) := by omega
      have hstep : ∀ w6, Keeps [] wr w6 -> w6.cell? ⟨gT + 1,2,none⟩ = some (.slice (some ⟨gt,0,none⟩) n n) ∧ (∃ v0 v1 v2 v3, w6.cell? ⟨gt, i * 4, none⟩ = some v0 ∧ w6.cell? ⟨gt, i * 4 + 1, none⟩ = some v1 ∧ w6.cell? ⟨gt, i * 4 + 2, none⟩ = some v2 ∧ w6.cell? ⟨gt, i * 4 + 3, none⟩ = some v3) ∧
          (w6.frozen? ⟨gt, i * 4, none⟩ = false ∧ w6.frozen? ⟨gt, i * 4 + 1, none⟩ = false ∧ w6.frozen? ⟨gt, i * 4 + 2, none⟩ = false ∧ w6.frozen? ⟨gt, i * 4 + 3, none⟩ = false) ∧
          Hid (Arr ((((w6.setCell ⟨gt, i * 4, none⟩ (.int .i64 (-1))).setCell ⟨gt, i * 4 + 1, none⟩ (.int .i64 (-1))).setCell ⟨gt, i * 4 + 2, none⟩ (.int .i64 0)).setCell ⟨gt, i * 4 + 3, none⟩ (.bool false)) 226 4 n gt (laidP (i + 1)) ∧
            Keeps [gt] w5 ((((w6.setCell ⟨gt, i * 4, none⟩ (.int .i64 (-1))).setCell ⟨gt, i * 4 + 1, none⟩ (.int .i64 (-1))).setCell ⟨gt, i * 4 + 2, none⟩ (.int .i64 0)).setCell ⟨gt, i * 4 + 3, none⟩ (.bool false))) := fun w6 k6 => by
        have ha6 := ha.keep k6 (by simp)
        have kp6 := kp.trans k6 (by simp)
        have hb := kp6.blk hb5 (by simp; omega)
        have hat : ∀ j, j < 4 -> ∃ v, w6.cell? ⟨gt, i * 4 + j, none⟩ = some v := fun j hj => by
          rw [ha6.cell hlt hj]
          have := ha6.size i hlt
          exact ⟨_, List.getElem?_eq_getElem (by omega)⟩
        obtain ⟨v0, h0⟩ := hat 0 (by decide)
        obtain ⟨v1, h1⟩ := hat 1 (by decide)
        obtain ⟨v2, h2⟩ := hat 2 (by decide)
        obtain ⟨v3, h3⟩ := hat 3 (by decide)
        have h4 := ha6.set4 hlt (.int .i64 (-1)) (.int .i64 (-1)) (.int .i64 0) (.bool false)
        rw [laidP_upd] at h4
        exact ⟨by rw [cell_of_blk hb]; rfl,⟨v0, v1, v2, v3, h0, h1, h2, h3⟩,⟨ha6.frozen _, ha6.frozen _, ha6.frozen _, ha6.frozen _⟩, h4,(((kp6.setCell (.inl (by simp)) _).setCell (.inl (by simp)) _).setCell (.inl (by simp)) _).setCell (.inl (by simp)) _⟩
      obtain ⟨z0, _, _, _⟩ := hstep wr (Keeps.refl _ _)
      have hfr := fresh_calls wr.drew
      have HS := Lib.hid hstep
      clear hstep ha kp
      go_upto_region 9 with fail
      go_region_law (first
        | (go_simp; go_at_call 91; refine hfr.mono ?_; rintro e w6 ⟨rfl, k6⟩; obtain ⟨y0,⟨v0, v1, v2, v3, y1, y2, y3, y4⟩,⟨g0, g1, g2, g3⟩, y5⟩ := HS.out w6 (Keeps.trans (a := wr) (b := wr.drew) ⟨rfl,rfl,rfl, Nat.le_refl _,fun _ _ _ => rfl⟩ k6 (by simp)); clear k6))
      all_goals
        clear z0 y0 y1 y2 y3 y4 g0 g1 g2 g3 hfr HS
        go_wp2_with fail
        go_roundg (gk - 1)
        case measure => have := HK.out; omega
        case rel => exact ⟨i + 1,by have := HK.out; omega,by omega,by go_num, y5.out.1, y5.out.2⟩
    · obtain rfl : i = n := by omega
      have HA := Lib.hid ha
      have HP := Lib.hid kp
      clear ha kp
      go_wp2_with fail
      go_ret2
      exact HF.out _ HA.out HP.out
end Go.Proofs.YtkdbjelhkfdfjaaGreatDoor


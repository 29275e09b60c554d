/-
  Contracts that the law rests on. Conditions: none.
-/
import Derived.Test.YtkdbjelhkfdfjaaGreatDoorLv24
import Derived.Test.YtkdbjelhkfdfjaaGreatDoorLv29
set_option linter.unusedVariables false
set_option maxRecDepth 100000
set_option maxHeartbeats 32000000
namespace Go.Proofs.YtkdbjelhkfdfjaaGreatDoor
open Go.RowKit
def halfU (U : Nat -> Option Nat) (a b : Option Nat) (i j : Bool) : Nat -> Option Nat := fun y => if (i = true ∧ a = some y) ∨ (j = true ∧ b = some y) then none else U y
theorem halfU_none (U : Nat -> Option Nat) (a b : Option Nat) : halfU U a b false false = U := by funext y; simp [halfU]
theorem halfU_left (U : Nat -> Option Nat) (a b : Option Nat) (j : Bool) : offU (halfU U a b false j) a = halfU U a b true j := by
  funext y
  cases a with
  | none => simp [offU, halfU]
  | some z =>
    by_cases c : y = z
    · subst c; simp [offU, upd_same, halfU]
    · simp [offU, upd_other _ _ c, halfU, show z ≠ y from fun e => c e.symm]
theorem halfU_right (U : Nat -> Option Nat) (a b : Option Nat) (i : Bool) : offU (halfU U a b i false) b = halfU U a b i true := by
  funext y
  cases b with
  | none => simp [offU, halfU]
  | some z =>
    by_cases c : y = z
    · subst c; simp [offU, upd_same, halfU]
    · simp [offU, upd_other _ _ c, halfU, show z ≠ y from fun e => c e.symm]
theorem halfU_all (U : Nat -> Option Nat) (a b : Option Nat) : halfU U a b true true = offU (offU U a) b := by
  rw [<- halfU_right, <- halfU_left, halfU_none]
section
variable (w : World) (p pc pt gt mb : Nat) (Fc : List Nat) (cap hs : Nat) (E : Ent) (L R U : Nat -> Option Nat) (x : Nat)
def HalfCut (i j : Bool) (w' : World) : Prop :=
  SkewMid w' p pc pt gt mb Fc cap hs E (if i then upd L x none else L) (if j then upd R x none else R) (halfU U (L x) (R x) i j) ∧ Keeps (gt :: Fc) w w'
variable {w p pc pt gt mb Fc cap hs E L R U x} {w1 : World} {i j : Bool}
theorem HalfCut.c1 (h : HalfCut w p pc pt gt mb Fc cap hs E L R U x i j w1) : w1.cell? ⟨p,1,none⟩ = some (.pointer (some ⟨pt,0,none⟩)) := SkewMid.c1 h.1
theorem HalfCut.drewN (h : HalfCut w p pc pt gt mb Fc cap hs E L R U x i j w1) (n : Nat) : HalfCut w p pc pt gt mb Fc cap hs E L R U x i j (w1.drewN n) := ⟨SkewMid.drewN h.1 n, h.2.drewN n⟩
theorem HalfCut.keeps (h : HalfCut w p pc pt gt mb Fc cap hs E L R U x i j w1) : Keeps (gt :: Fc) w w1 := h.2
theorem hc_left (h : HalfCut w p pc pt gt mb Fc cap hs E L R U x false j w1) (hx : x < cap) :
    Calls Tryz.prog 411 #[.pointer (some ⟨pt,0,none⟩),.int .i64 x] w1 fun e w' => e = .returned (.tuple #[.int .i64 (((L x).getD 0 : Nat) : Int),.bool (L x).isSome]) ∧ HalfCut w p pc pt gt mb Fc cap hs E L R U x false j w' :=
  (sp_Left w1 pt gt cap _ _ _ h.1.sp x hx).mono fun e w' ⟨h1, m, h2⟩ => ⟨h1,by rw [h2]; exact h.drewN m⟩
theorem hc_right (h : HalfCut w p pc pt gt mb Fc cap hs E L R U x i false w1) (hx : x < cap) :
    Calls Tryz.prog 412 #[.pointer (some ⟨pt,0,none⟩),.int .i64 x] w1 fun e w' => e = .returned (.tuple #[.int .i64 (((R x).getD 0 : Nat) : Int),.bool (R x).isSome]) ∧ HalfCut w p pc pt gt mb Fc cap hs E L R U x i false w' :=
  (sp_Right w1 pt gt cap _ _ _ h.1.sp x hx).mono fun e w' ⟨h1, m, h2⟩ => ⟨h1,by rw [h2]; exact h.drewN m⟩
theorem hc_looseL (h : HalfCut w p pc pt gt mb Fc cap hs E L R U x false j w1) {T : Nat -> Prop} (hb : Bin E L R U T) :
    Calls Tryz.prog 432 #[.pointer (some ⟨p,0,none⟩),.int .i64 (((L x).getD 0 : Nat) : Int),.bool (L x).isSome] w1 fun e w' => e = .returned (.int .i64 (oZ (L x))) ∧ HalfCut w p pc pt gt mb Fc cap hs E L R U x true j w' := by
  have hl := loose_L w1 p pc pt gt mb Fc cap hs E _ _ _ h.1 x (by
    intro z e
    simp only [Bool.false_eq_true, if_false] at e
    have h1 := hb.left x z e
    have h2 := hb.lr x z e
    refine ⟨?_,?_⟩
    · unfold halfU
      rw [if_neg (by rintro (⟨c, _⟩ | ⟨_, c⟩); cases c; exact h2 c)]
      exact h1.1
    · cases j with
      | true => simp [upd_same]
      | false => simpa using h2)
  simp only [Bool.false_eq_true, if_false] at hl
  refine hl.mono fun e w' ⟨h1, h2⟩ => ⟨h1,?_, h.2.trans h2.2 (by simp)⟩
  rw [halfU_left] at h2
  exact SkewMid.spine h.1 h2
theorem hc_looseR (h : HalfCut w p pc pt gt mb Fc cap hs E L R U x i false w1) {T : Nat -> Prop} (hb : Bin E L R U T) :
    Calls Tryz.prog 432 #[.pointer (some ⟨p,0,none⟩),.int .i64 (((R x).getD 0 : Nat) : Int),.bool (R x).isSome] w1 fun e w' => e = .returned (.int .i64 (oZ (R x))) ∧ HalfCut w p pc pt gt mb Fc cap hs E L R U x i true w' := by
  have hl := loose_R w1 p pc pt gt mb Fc cap hs E _ _ _ h.1 x (by
    intro z e
    simp only [Bool.false_eq_true, if_false] at e
    have h1 := hb.right x z e
    have h2 := fun c => hb.lr x z c e
    unfold halfU
    rw [if_neg (by rintro (⟨_, c⟩ | ⟨c, _⟩); exact h2 c; cases c)]
    exact h1.1)
  simp only [Bool.false_eq_true, if_false] at hl
  refine hl.mono fun e w' ⟨h1, h2⟩ => ⟨h1,?_, h.2.trans h2.2 (by simp)⟩
  rw [halfU_right] at h2
  exact SkewMid.spine h.1 h2
theorem HalfCut.full (h : HalfCut w p pc pt gt mb Fc cap hs E L R U x true true w1) : SkewMid w1 p pc pt gt mb Fc cap hs E (upd L x none) (upd R x none) (offU (offU U (L x)) (R x)) := by
  have := h.1
  rw [halfU_all] at this
  simpa using this
end
section
variable (w : World) (F : List Nat) (p cap hs : Nat) (E : Ent)
def SkewOut (w : World) (F : List Nat) (p cap hs : Nat) (E' : Ent) (e : Ending) (w' : World) : Prop := e = .returned (.bool true) ∧ SkewAt w' F p cap hs E' ∧ Keeps F w w'
def SkewRest (w : World) (p pc pt gt mb : Nat) (Fc : List Nat) (cap hs : Nat) (E : Ent) (top Lc Rc : Nat -> Option Nat) (h : Nat) (s : Value) (w' : World) : Prop :=
  ∃ (C : Option Nat) (L' R' U' : Nat -> Option Nat), s = .int .i64 (oZ C) ∧ SkewMid w' p pc pt gt mb Fc cap hs E L' R' U' ∧ Zip E L' R' U' (fun y => ∃ g, top g = some y) Lc Rc h [] C none ∧ Keeps (gt :: Fc) w w'
theorem skew_delete (c : SkewAt w F p cap hs E) (h x : Nat) (hl : least E h x) :
    Calls Tryz.prog 424 #[.pointer (some ⟨p,0,none⟩),.int .i64 x] w (SkewOut w F p cap hs (put E x none)) := by
  obtain ⟨pc, pt, gt, mb, Fc, L, R, U, top,rfl, m, im, t⟩ := c
  have hn := fun y (hy : (E y).isSome) => m.ce.ok.lt y hy
  have hx := hn x hl.1.some
  have htop : top h = some x := by
    cases e : top h with
    | none => exact absurd hl.1 (t.none_of hn e x)
    | some y => rw [(t.first hn e).one hl]
  have hh := m.ce.ok.heap x h
  have hhome := cells_home w Fc pc cap hs E m.ce x h hl.1
  have hcut := t.cut htop
  have hstart : ∀ n, HalfCut w p pc pt gt mb Fc cap hs E L R U x false false (w.drewN n) := fun n => ⟨by rw [halfU_none]; simpa using m.drewN n,(Keeps.refl _ _).drewN n⟩
  have d0 := m.c0
  have d1 := m.c1
  have hne := m.ne
  obtain ⟨hk0, hk1⟩ := hl.1
  have hhs := (m.ce.ok.heap x h _ hk1).2
  have hout : ∀ (w3 w4 w5 : World) (C : Option Nat) (L' R' U' : Nat -> Option Nat), SkewMid w3 p pc pt gt mb Fc cap hs E L' R' U' -> Zip E L' R' U' (fun y => ∃ g, top g = some y) (upd L x none) (upd R x none) h [] C none -> Keeps (gt :: Fc) w w3 ->
      IMap Tryz.prog 3 w4 mb (topN (upd top h C) hs) (topF (upd top h C)) -> Keeps [mb] w3 w4 -> CellsAt w5 Fc pc cap hs (put E x none) -> Keeps Fc w4 w5 -> SkewOut w (p :: pt :: gt :: mb :: Fc) p cap hs (put E x none) (.returned (.bool true)) w5 := by
    intro w3 w4 w5 C L' R' U' m3 z3 k3 im4 k4 c5 k5
    obtain ⟨⟨a1, a2, a3, a4⟩,⟨b1, b2, b3⟩,⟨c1, c2⟩, cd⟩ := hne
    have m4 := m3.keep k4 (by simp; exact ⟨a3, b2, c1,fun b hb e => cd (e ▸ hb)⟩)
    refine ⟨rfl,⟨pc, pt, gt, mb, Fc, L', R', U', upd top h C,rfl, m4.cells c5 k5, im4.keep k5 cd, Tops.dropped z3 htop t.mine (upd_same _ _ _) (upd_same _ _ _)⟩,?_⟩
    exact ((k3.mono (T := p :: pt :: gt :: mb :: Fc) (fun b hb => .inl (by simp only [List.mem_cons] at hb ⊢; rcases hb with c | c <;> simp [c]))).trans k4 (by simp)).trans k5 (fun b hb => .inl (by simp [hb]))
  have hC : ∀ (w3 : World) (C : Option Nat) (L' R' U' : Nat -> Option Nat), SkewMid w3 p pc pt gt mb Fc cap hs E L' R' U' -> Zip E L' R' U' (fun y => ∃ g, top g = some y) (upd L x none) (upd R x none) h [] C none -> Keeps (gt :: Fc) w w3 ->
      U' x = none ∧ (∀ y, C = some y -> y < cap) ∧ IMap Tryz.prog 3 w3 mb (topN top hs) (topF top) := fun w3 C L' R' U' m3 z3 k3 =>
    ⟨(z3.bin.top x (.inl ⟨h, htop⟩)).2,fun y e => m3.ce.ok.lt y (z3.na y e).2.2.some, im.keep k3 (by simp; exact ⟨fun e => hne.2.2.1.1 e.symm, hne.2.2.2⟩)⟩
  have hdrop := fun u (hu : CellsAt u Fc pc cap hs E) => cells_drop u Fc pc cap hs E hu x h hl.1
  have HN := Lib.hid hne
  have HB := Lib.hid t.bin
  have HCUT := Lib.hid hcut
  have HOUT := Lib.hid hout
  have HC := Lib.hid hC
  have HSTART := Lib.hid hstart
  have HDROP := Lib.hid hdrop
  clear hcut hout hC hstart t im m hne htop hn hh hk1 hdrop
  go_enter Tryz.func424, Tryz.ntmps424
  go_upto_region 4 with (go_at_call 302; refine hhome.mono ?_; rintro e w1 ⟨rfl, n1,rfl⟩)
  go_cut [7] (fun s wc => SkewRest w p pc pt gt mb Fc cap hs E top (upd L x none) (upd R x none) h s wc)
  case first =>
    have q0 := HSTART.out (n1 + 1)
    go_region_held3 (fun u => u.cell? ⟨p,1,none⟩ = some (.pointer (some ⟨pt,0,none⟩))) (first | exact HalfCut.c1 (by assumption) | exact SkewMid.c1 (by assumption))
      (first
        | (go_at_call 411; (with_reducible refine (hc_left (by assumption) hx).mono ?_); rintro e w2 ⟨rfl, q⟩)
        | (go_at_call 412; (with_reducible refine (hc_right (by assumption) hx).mono ?_); rintro e w2 ⟨rfl, q⟩)
        | (go_at_call 432; (with_reducible refine (hc_looseL (by assumption) HB.out).mono ?_); rintro e w2 ⟨rfl, q⟩)
        | (go_at_call 432; (with_reducible refine (hc_looseR (by assumption) HB.out).mono ?_); rintro e w2 ⟨rfl, q⟩)
        | (go_at_call 430; (with_reducible refine (skew_merge _ p pc pt gt mb Fc cap hs E _ _ _ _ _ _ h _ _ (HalfCut.full (by assumption)) HCUT.out).mono ?_); rintro e w2 ⟨C, L', R', U',rfl, m2, z2, k2⟩))
    all_goals
      go_wp2_with fail
      go_meet
      case rel => exact ⟨C, L', R', U',rfl, m2, z2,(HalfCut.keeps (by assumption)).trans k2 (fun b hb => .inl hb)⟩
  case rest =>
    obtain ⟨C, L', R', U',rfl, m3, z3, k3⟩ := hcut
    obtain ⟨hu, hCb, im3⟩ := HC.out wc C L' R' U' m3 z3 k3
    have hup := sp_Up wc pt gt cap L' R' U' m3.sp x hx
    rw [hu] at hup
    simp only [Option.getD_none, Option.isSome_none] at hup
    have hcr := skew_crown wc p pc pt gt mb Fc cap hs E L' R' U' top m3 im3 h hhs C hCb
    have e1 := m3.c1
    have e0 := m3.c0
    have M3 := Lib.hid m3
    have Z3 := Lib.hid z3
    clear hu hCb im3 z3 d0 d1
    go_wp2_with (first
      | (go_at_call 413; refine hup.mono ?_; rintro e w' ⟨rfl,rfl⟩)
      | (go_at_call 429; refine hcr.mono ?_; rintro e w4 ⟨rfl, im4, k4⟩; have c4 := M3.out.ce.keep k4 (fun b hb e => HN.out.2.2.2 (by simp at e; exact e ▸ hb)); have e4 := (World.cell?_of_block (a := ⟨p,0,none⟩) (k4.block p M3.out.lt.1 (by simpa using HN.out.1.2.2.1))).trans e0)
      | (go_at_call 312; refine (HDROP.out _ c4).mono ?_; rintro e w5 ⟨rfl, c5, k5⟩))
    go_ret
    exact HOUT.out wc w4 w5 C L' R' U' M3.out Z3.out k3 im4 k4 c5 k5
def SkewExt (w : World) (F : List Nat) (p cap hs : Nat) (E : Ent) (h : Nat) (e : Ending) (w' : World) : Prop :=
  ∃ x : Nat, e = .returned (.tuple #[.int .i64 x,.bool true]) ∧ least E h x ∧ SkewAt w' F p cap hs (put E x none) ∧ Keeps F w w'
theorem skew_extract (c : SkewAt w F p cap hs E) (h : Nat) (hh : h <= 65536) (hi : ∃ y, isIn E h y) :
    Calls Tryz.prog 425 #[.pointer (some ⟨p,0,none⟩),.int .i64 h] w (SkewExt w F p cap hs E h) := by
  have hm := skew_min_yes w F p cap hs E c h hh hi
  have hd := fun x hl => skew_delete w F p cap hs E c h x hl
  clear c hi
  go_enter Tryz.func425, Tryz.ntmps425
  go_wp2_with (first
    | (go_at_call 428; refine hm.mono ?_; rintro e w1 ⟨⟨x,rfl, hl⟩,rfl⟩)
    | (go_at_call 424; refine (hd _ hl).mono ?_; rintro e w2 ⟨rfl, c2, k2⟩))
  go_ret2
  exact ⟨x,rfl, hl, c2, k2⟩
end
theorem Tryz.infoLinks : (Tryz.prog.info? 273).map (fun i => (i.zero, i.size, i.bytes)) = some (some (.agg #[.int .i64 0,.int .i64 0,.int .i64 0]), 3,24) := by kernel_rfl
def laidL (i j : Nat) : List Value := if j < i then [.int .i64 (-1),.int .i64 (-1),.int .i64 (-1)] else [.int .i64 0,.int .i64 0,.int .i64 0]
theorem laidL_upd (i : Nat) : upd (laidL i) i [.int .i64 (-1),.int .i64 (-1),.int .i64 (-1)] = laidL (i + 1) := by
  funext j
  by_cases e : j = i
  · subst e; rw [upd_same]; simp [laidL]
  · rw [upd_other _ _ e]
    unfold laidL
    by_cases c : j < i
    · rw [if_pos c, if_pos (by omega)]
    · rw [if_neg c, if_neg (by omega)]
def SpineNew (w : World) (n : Nat) (e : Ending) (w' : World) : Prop :=
  ∃ p g, e = .returned (.tuple #[.pointer (some ⟨p,0,none⟩),.int .i64 0]) ∧ SpineAt w' p g n (fun _ => none) (fun _ => none) (fun _ => none) ∧ Keeps [] w w' ∧ w.heap.size <= p ∧ w.heap.size <= g
theorem sp_new (w : World) (n : Nat) (hn : n <= 65536) : Calls Tryz.prog 92 #[.int .i64 n] w (SpineNew w n) := by
  have b1 : decide ((n : Int) < 0) = false := by rw [decide_eq_false_iff_not]; omega
  have b2 : decide (65536 < (n : Int)) = false := by rw [decide_eq_false_iff_not]; omega
  obtain ⟨i0, hi, hz0, hz1, hzb⟩ := info_parts Tryz.infoLinks
  go_enter Tryz.func92, Tryz.ntmps92
  go_upto_region 4 with (at_make; refine wpList_make_full _ rfl _ _ 268 rfl 0 273 i0 (.agg #[.int .i64 0,.int .i64 0,.int .i64 0]) 3 Tryz.underlying268 hi hz0 hz1 .i64 .i64 n n n rfl rfl rfl rfl (by rw [hzb]; omega) (by unfold maxLen; omega) (Nat.zero_le _) ?_; intro w2 hr2 hg2)
  have hk2 : Keeps [] w w2 := (Keeps.refl _ _).grown hg2 (fun k h => by cases h)
  have hg1 : w.heap.size < w2.heap.size := row_lt hr2
  have ha : Arr w2 273 3 n w.heap.size (laidL 0) := (Arr.made rfl (by decide) hr2).congr (fun i _ => by simp [laidL]; rfl)
  have hblk : (w2.alloc (.cells #[.slice (some ⟨w.heap.size,0,none⟩) n n] 270 (0,0))).heap[w2.heap.size]? = some (.cells #[.slice (some ⟨w.heap.size,0,none⟩) n n] 270 (0,0)) := blk_alloc_new _
  have hk3 : Keeps [] w (w2.alloc (.cells #[.slice (some ⟨w.heap.size,0,none⟩) n n] 270 (0,0))) := hk2.alloc _
  have ha3 := ha.alloc (.cells #[.slice (some ⟨w.heap.size,0,none⟩) n n] 270 (0,0))
  have hp := hk2.size
  obtain ⟨g, hgd⟩ : ∃ g, w.heap.size = g := ⟨_,rfl⟩
  obtain ⟨p, hpd⟩ : ∃ p, w2.heap.size = p := ⟨_,rfl⟩
  rw [hgd, hpd] at hblk
  rw [hgd] at ha3 hk3
  rw [hgd, hpd]
  generalize w2.alloc (.cells #[.slice (some ⟨g,0,none⟩) n n] 270 (0,0)) = w3 at *
  have e0 : w3.cell? ⟨p,0,none⟩ = some (.slice (some ⟨g,0,none⟩) n n) := by rw [cell_of_blk hblk]; rfl
  have hgp : g < p := by omega
  have hgB : w.heap.size <= g := by omega
  have hpB : w.heap.size <= p := by omega
  clear ha hr2 hg2 hk2 hgd hpd hg1 hp
  go_wp2_with fail
  go_loopg [21] (n + 1) (fun m s wr => ∃ i : Nat, m + i = n + 1 ∧ i <= n ∧ s = .int .i64 i ∧ Arr wr 273 3 n g (laidL i) ∧ wr.heap[p]? = some (.cells #[.slice (some ⟨g,0,none⟩) n n] 270 (0,0)) ∧ Keeps [] w wr)
  case atStart => exact ⟨0,by omega,by omega,rfl, ha3, hblk, hk3⟩
  case round =>
    clear ha3 hblk hk3 e0
    obtain ⟨i, hk, hin,rfl, ha, hb, kp⟩ := hrel
    have HK := Lib.hid hk
    clear hk
    have e0 : wr.cell? ⟨p,0,none⟩ = some (.slice (some ⟨g,0,none⟩) n n) := by rw [cell_of_blk hb]; rfl
    by_cases hlt : i < n
    · have hlt3 : (i : Int) < (n : Int) := by omega
      have f0 := ha.frozen (i * 3)
      have f1 := ha.frozen (i * 3 + 1)
      have f2 := ha.frozen (i * 3 + 2)
      have d0 := ha.cell hlt (j := 0) (by omega)
      have d1 := ha.cell hlt (j := 1) (by omega)
      have d2 := ha.cell hlt (j := 2) (by omega)
      simp only [laidL, Nat.lt_irrefl, if_false, List.getElem?_cons_zero, List.getElem?_cons_succ, Nat.add_zero] at d0 d1 d2
      have h3 := ha.set3 hlt (.int .i64 (-1)) (.int .i64 (-1)) (.int .i64 (-1))
      rw [laidL_upd] at h3
      have k3 : Keeps [] w (((wr.setCell ⟨g, i * 3, none⟩ (.int .i64 (-1))).setCell ⟨g, i * 3 + 1, none⟩ (.int .i64 (-1))).setCell ⟨g, i * 3 + 2, none⟩ (.int .i64 (-1))) := ((kp.setCell (.inr hgB) _).setCell (.inr hgB) _).setCell (.inr hgB) _
      have hb3 : (((wr.setCell ⟨g, i * 3, none⟩ (.int .i64 (-1))).setCell ⟨g, i * 3 + 1, none⟩ (.int .i64 (-1))).setCell ⟨g, i * 3 + 2, none⟩ (.int .i64 (-1))).heap[p]? = some (.cells #[.slice (some ⟨g,0,none⟩) n n] 270 (0,0)) := by
        rw [blk_setCell_ne _ (by simp; omega), blk_setCell_ne _ (by simp; omega), blk_setCell_ne _ (by simp; omega)]; exact hb
      clear ha hb kp
      go_wp2_with fail
      go_roundg (gk - 1)
      case measure => have := HK.out; omega
      case rel => exact ⟨i + 1,by have := HK.out; omega,by omega,by go_num, h3, hb3, k3⟩
    · obtain rfl : i = n := by omega
      go_wp2_with fail
      go_ret2
      refine ⟨p, g,rfl,⟨hb, ha.congr (fun j hj => by simp [laidL, linkV, oZ, hj]),by omega, hn,by simp⟩, kp, hpB, hgB⟩
section
variable (w : World) (F : List Nat) (p cap hs : Nat) (E : Ent)
def SkewNew (w : World) (n : Nat) (e : Ending) (w' : World) : Prop :=
  ∃ (F : List Nat) (p : Nat), e = .returned (.tuple #[.pointer (some ⟨p,0,none⟩),.int .i64 0]) ∧ SkewAt w' F p n 0 (fun _ => none) ∧ Keeps [] w w' ∧ ∀ b ∈ F, w.heap.size <= b
theorem skew_new (w : World) (n : Nat) (hn : n <= 65536) : Calls Tryz.prog 68 #[.int .i64 n] w (SkewNew w n) := by
  have hmm := @run_makeMap Tryz.prog
  have hs := fun u => sp_new u n hn
  go_enter Tryz.func68, Tryz.ntmps68
  go_wp2_with (first
    | (go_at_call 87; refine (cells_new w n hn).mono ?_; rintro e w1 ⟨Fc, pc,rfl, hc1, hk1, hF1⟩)
    | (go_at_call 92; refine (hs w1).mono ?_; rintro e w2 ⟨pt, gt,rfl, hs2, hk2, hp2, hg2⟩))
  go_ret2
  have hl1 := hc1.lt
  have hl2 := hs2.lt
  have hk3 : ∀ o, Keeps [] w2 ((w2.alloc (.map #[] 0)).alloc o) := fun o => ((Keeps.refl _ _).alloc _).alloc _
  have k1 := hk1.size
  have k2 := hk2.size
  refine ⟨(w2.heap.size + 1) :: pt :: gt :: w2.heap.size :: Fc, w2.heap.size + 1,rfl,⟨pc, pt, gt, w2.heap.size, Fc,fun _ => none,fun _ => none,fun _ => none,fun _ => none,rfl,⟨?_,?_,(hc1.keep hk2 (by simp)).keep (hk3 _) (by simp), hs2.keep (hk3 _) (by simp) (by simp)⟩,?_, Tops.init⟩,(hk1.trans hk2 (by simp)).trans (hk3 _) (by simp),?_⟩
  · have hne := hs2.ne
    have h4 : ∀ b ∈ Fc, b < w1.heap.size := hl1
    have h5 := hc1.nodup
    simp only [List.nodup_cons, List.mem_cons, not_or]
    exact ⟨⟨by omega,by omega,by omega,fun e => by have := h4 _ e; omega⟩,⟨fun e => hne e.symm,by omega,fun e => by have := h4 _ e; omega⟩,⟨by omega,fun e => by have := h4 _ e; omega⟩,fun e => by have := h4 _ e; omega, h5⟩
  · have := blk_alloc_new (w := w2.alloc (.map #[] 0)) (.cells #[.pointer (some ⟨pc,0,none⟩),.pointer (some ⟨pt,0,none⟩),.map (some w2.heap.size)] 235 (0,0))
    simpa using this
  · rw [topN_none, topF_none]
    exact (IMap.made Tryz.prog 3 w2).keep ((Keeps.refl [] _).alloc _) (by simp)
  · intro b hb
    simp only [List.mem_cons] at hb
    rcases hb with rfl | rfl | rfl | rfl | hb
    · omega
    · omega
    · omega
    · omega
    · exact hF1 b hb
theorem skew_make (c : SkewAt w F p cap hs E) (hh : hs < 65536) : ∃ pc, w.cell? ⟨p,0,none⟩ = some (.pointer (some ⟨pc,0,none⟩)) ∧
    Calls Tryz.prog 318 #[.pointer (some ⟨pc,0,none⟩)] w fun e w' => ∃ F', e = .returned (.int .i64 ((hs + 1 : Nat) : Int)) ∧ SkewAt w' F' p cap (hs + 1) E ∧ Moved F w F' w' := by
  obtain ⟨pc, pt, gt, mb, Fc, L, R, U, top,rfl, m, im, t⟩ := c
  refine ⟨pc, m.c0,(cells_make w Fc pc cap hs E m.ce hh).mono ?_⟩
  rintro e w' ⟨Fc',rfl, hc, hm⟩
  obtain ⟨⟨a1, a2, a3, a4⟩,⟨b1, b2, b3⟩,⟨c1, c2⟩, cd⟩ := m.ne
  obtain ⟨l1, l2, l3, l4⟩ := m.lt
  have l5 := im.lt
  have hnew : ∀ b, b ∉ Fc -> b < w.heap.size -> b ∉ Fc' := fun b h1 h2 e => by
    rcases hm.from' b e with c | c
    · exact h1 c
    · omega
  have ht : top (hs + 1) = none := by
    cases e : top (hs + 1) with
    | none => rfl
    | some x =>
      obtain ⟨k, hk⟩ := t.mine _ _ e
      have := m.ce.ok.heap x _ _ hk
      omega
  refine ⟨p :: pt :: gt :: mb :: Fc',rfl,⟨pc, pt, gt, mb, Fc', L, R, U, top,rfl,⟨?_, hm.keeps.blk m.blk a4, hc, m.sp.keep hm.keeps b3 c2⟩,?_, t⟩,?_⟩
  · simp only [List.nodup_cons, List.mem_cons, not_or]
    exact ⟨⟨a1, a2, a3, hnew p a4 l1⟩,⟨b1, b2, hnew pt b3 l2⟩,⟨c1, hnew gt c2 l3⟩, hnew mb cd l5, hc.nodup⟩
  · rw [topN_wide top hs ht]
    exact im.keep hm.keeps cd
  · exact hm.part' (G := [p, pt, gt, mb]) (by
      intro b hb
      simp only [List.mem_cons, List.not_mem_nil, or_false] at hb
      rcases hb with rfl | rfl | rfl | rfl <;> assumption)
end
theorem Tryz.infoInts : (Tryz.prog.info? 28).map (fun i => (i.zero, i.size, i.bytes)) = some (some (.slice none 0 0), 1,24) := by kernel_rfl
section
variable (w : World) (F : List Nat) (p cap hs : Nat) (E : Ent)
def BinMade (e : Ending) (w' : World) : Prop := ∃ F', e = .returned (.int .i64 ((hs + 1 : Nat) : Int)) ∧ BinAt w' F' p cap (hs + 1) E ∧ Moved F w F' w'
theorem bin_make (c : BinAt w F p cap hs E) (hh : hs < 65536) : Calls Tryz.prog 344 #[.pointer (some ⟨p,0,none⟩)] w (BinMade w F p cap hs E) := by
  obtain ⟨pc, pf, gf, gr, rc, Fc, T, U, R,rfl, m, o⟩ := c
  have hlt := m.lt
  have hmk := cells_make w Fc pc cap hs E m.ce hh
  have d0 := m.c0
  obtain ⟨n1, n2, n3, n4, n5, n6⟩ := m.ne
  have lp := hlt p (binF_mem.2 (.inl rfl))
  have lg := hlt gr (binF_mem.2 (.inr (.inl rfl)))
  have hnil : (R (hs + 1)).l = [] := by
    cases e : (R (hs + 1)).l with
    | nil => rfl
    | cons x t =>
      obtain ⟨kk, hk⟩ := ((o.mem (hs + 1) x).1 (by simp [e])).1
      have := m.ce.ok.heap x _ _ hk
      omega
  have hrl : (fun g => (upd R (hs + 1) BRow.nil g).l) = fun g => (R g).l := by
    funext g
    by_cases c : g = hs + 1
    · subst c; rw [upd_same, hnil]; rfl
    · rw [upd_other _ _ c]
  have hbr : bRows R (hs + 1) ++ [BRow.nil.v] = bRows (upd R (hs + 1) BRow.nil) (hs + 1 + 1) := by
    rw [bRows_snoc (upd R (hs + 1) BRow.nil) (hs + 1), upd_same]
    congr 1
    unfold bRows
    refine List.map_congr_left fun i hi => ?_
    rw [List.mem_range] at hi
    rw [upd_other _ _ (by omega)]
  have hown : ∀ g x,(upd R (hs + 1) BRow.nil g).v.ownBlock = some x -> g <= hs + 1 -> g <= hs ∧ (R g).v.ownBlock = some x := fun g x e hg => by
    by_cases c : g = hs + 1
    · subst c; rw [upd_same] at e; cases e
    · rw [upd_other _ _ c] at e; exact ⟨by omega, e⟩
  have hfin : ∀ (w1 w4 : World) (Fc' : List Nat) (g' c' : Nat), CellsAt w1 Fc' pc cap (hs + 1) E -> Moved Fc w Fc' w1 -> w4.ownsRow 0 28 1 (.slice (some ⟨g',0,none⟩) (hs + 1 + 1) c') (hs + 1 + 1) (bRows R (hs + 1) ++ [BRow.nil.v]) -> Keeps [gr] w1 w4 -> (g' = gr ∨ w1.heap.size <= g') ->
      w4.frozen? ⟨p,2,none⟩ = false ∧ w4.cell? ⟨p,2,none⟩ = some (.slice (some ⟨gr,0,none⟩) (hs + 1) rc) ∧ BinMade w (binF p gr Fc (treeF pf gf cap T) hs R) p cap hs E (.returned (.int .i64 ((hs + 1 : Nat) : Int))) (w4.setCell ⟨p,2,none⟩ (.slice (some ⟨g',0,none⟩) (hs + 1 + 1) c')) := by
    intro w1 w4 Fc' g' c' hc1 hm1 hr4 k4 hg4
    have s1 := hm1.keeps.size
    have s4 := k4.size
    have hcl := hc1.lt
    have hnew : ∀ b, b ∉ Fc -> b < w.heap.size -> b ∉ Fc' := fun b a c e => by
      rcases hm1.from' b e with f | f
      · exact a f
      · omega
    have b4 := k4.blk (hm1.keeps.blk m.blk n2) (by simpa using n1)
    have k5 : Keeps [p] w4 (w4.setCell ⟨p,2,none⟩ (.slice (some ⟨g',0,none⟩) (hs + 1 + 1) c')) := (Keeps.refl _ _).setCell (.inl (by simp)) _
    have k15 : Keeps [p, gr] w1 (w4.setCell ⟨p,2,none⟩ (.slice (some ⟨g',0,none⟩) (hs + 1 + 1) c')) := (k4.mono (T := [p, gr]) (by simp)).trans k5 (by simp)
    have kall : Keeps (p :: gr :: Fc) w (w4.setCell ⟨p,2,none⟩ (.slice (some ⟨g',0,none⟩) (hs + 1 + 1) c')) := (hm1.keeps.mono (T := p :: gr :: Fc) fun b hb => .inl (by simp [hb])).trans k15 fun b hb => .inl (by simp at hb; rcases hb with c | c <;> simp [c])
    have hg' : ∀ b, b < w.heap.size -> b ≠ gr -> b ≠ g' := fun b h1 h2 => by rcases hg4 with e | e <;> omega
    have hgF : g' ∉ Fc' := by
      rcases hg4 with e | e
      · rw [e]; exact hnew gr n3 lg
      · exact fun f => by have := hcl _ f; omega
    have hgT : g' ∉ treeF pf gf cap T := by
      rcases hg4 with e | e
      · rw [e]; exact n5
      · intro f; have := m.fo.lt _ f; omega
    have hQ : BinQ (w4.setCell ⟨p,2,none⟩ (.slice (some ⟨g',0,none⟩) (hs + 1 + 1) c')) p pc pf gf g' c' Fc' cap (hs + 1) E T U (upd R (hs + 1) BRow.nil) := by
      refine ⟨?_, hc1.keep k15 ?_, m.fo.keep kall ?_,?_,fun g hg => ?_,⟨hg' p lp n1, hnew p n2 lp, hgF, n4, hgT,fun b hb => ?_⟩,fun g x hg e => ?_,fun g g2 x h1 h2 hne e1 e2 => ?_⟩
      · rw [blk_setCell _ b4]; simp
      · intro b hb e
        simp only [List.mem_cons, List.not_mem_nil, or_false] at e
        rcases e with rfl | rfl
        · exact hnew b n2 lp hb
        · exact hnew b n3 lg hb
      · intro b hb e
        simp only [List.mem_cons] at e
        rcases e with rfl | rfl | e
        · exact n4 hb
        · exact n5 hb
        · exact n6 b e hb
      · rw [<- hbr]; exact k5.row hr4 (by simpa using fun e : g' = p => hg' p lp n1 e.symm)
      · by_cases c : g = hs + 1
        · subst c; rw [upd_same]; exact Rg.IR.nil _ _
        · rw [upd_other _ _ c]
          refine ir_keep' (m.mem g (by omega)) kall (fun b e f => ?_)
          obtain ⟨a1, a2, a3, a4⟩ := m.own g b (by omega) e
          simp only [List.mem_cons] at f
          rcases f with f | f | f
          · exact a1 f
          · exact a2 f
          · exact a3 f
      · rcases hm1.from' b hb with c | c
        · exact n6 b c
        · intro f; have := m.fo.lt b f; omega
      · obtain ⟨h1, h2⟩ := hown g x e hg
        obtain ⟨a1, a2, a3, a4⟩ := m.own g x h1 h2
        have lx := hlt x (binF_mem.2 (.inr (.inr (.inr (.inr ⟨g, h1, h2⟩)))))
        exact ⟨a1, hg' x lx a2, hnew x a3 lx, a4⟩
      · obtain ⟨h3, h4⟩ := hown g x e1 h1
        obtain ⟨h5, h6⟩ := hown g2 x e2 h2
        exact m.dis g g2 x h3 h5 hne h4 h6
    refine ⟨frozen_of_blk b4,by rw [cell_of_blk b4]; rfl, _,rfl,⟨pc, pf, gf, g', c', Fc', T, U, _,rfl, hQ,by rw [hrl]; exact o⟩, kall.mono ?_,?_, hQ.lt⟩
    · intro b hb
      simp only [List.mem_cons] at hb
      rcases hb with c | c | c
      · exact .inl (binF_mem.2 (.inl c))
      · exact .inl (binF_mem.2 (.inr (.inl c)))
      · exact .inl (binF_mem.2 (.inr (.inr (.inl c))))
    · intro b hb
      rcases binF_mem.1 hb with c | c | c | c | ⟨g, hg, c⟩
      · exact .inl (binF_mem.2 (.inl c))
      · rcases hg4 with e | e
        · exact .inl (binF_mem.2 (.inr (.inl (c.trans e))))
        · exact .inr (by omega)
      · rcases hm1.from' b c with d | d
        · exact .inl (binF_mem.2 (.inr (.inr (.inl d))))
        · exact .inr d
      · exact .inl (binF_mem.2 (.inr (.inr (.inr (.inl c)))))
      · obtain ⟨h3, h4⟩ := hown g b c hg
        exact .inl (binF_mem.2 (.inr (.inr (.inr (.inr ⟨g, h3, h4⟩)))))
  have hstep : ∀ (w1 : World) (Fc' : List Nat), Moved Fc w Fc' w1 -> w1.cell? ⟨p,2,none⟩ = some (.slice (some ⟨gr,0,none⟩) (hs + 1) rc) ∧ w1.ownsRow 0 28 1 (.slice (some ⟨gr,0,none⟩) (hs + 1) rc) (hs + 1) (bRows R (hs + 1)) := fun w1 Fc' h1 =>
    ⟨by rw [cell_of_blk (h1.keeps.blk m.blk n2)]; rfl, h1.keeps.row m.rows n3⟩
  have hh3 : (0 : Int) < ((hs + 1 : Nat) : Int) := by omega
  have HF := Lib.hid hfin
  have HS := Lib.hid hstep
  clear hfin hstep m o hlt hnil hrl hbr hown n1 n2 n3 n4 n5 n6 lp lg
  go_enter Tryz.func344, Tryz.ntmps344
  go_upto_region 3 with (go_at_call 318; refine hmk.mono ?_; rintro e w1 ⟨Fc',rfl, hc1, hm1⟩)
  obtain ⟨q1, q2⟩ := HS.out w1 Fc' hm1
  go_wp2_with (first
    | (at_builtin; refine wpList_push _ 28 (.slice none 0 0) (0,0) rfl (.tmp 15) (.tmp 16) 110 rfl (.slice none 0 0) 24 Tryz.underlying110 Tryz.infoInts rfl rfl _ (hs + 1) (bRows R (hs + 1)) (by simp [Act.eval]) q2 (by simp [Act.eval]) (by unfold maxLen; omega) (by omega) ?_; intro g' cap' w4 hr4 hk4 hf4; obtain ⟨f5, c5, hD5⟩ := HF.out w1 w4 Fc' g' cap' hc1 hm1 hr4 (by simpa [Value.ownBlock] using hk4) (by simpa [Value.ownBlock, eq_comm] using hf4); clear hr4 hk4 hf4))
  go_ret
  exact hD5
def BinNew (w : World) (n : Nat) (e : Ending) (w' : World) : Prop :=
  ∃ (F : List Nat) (p : Nat), e = .returned (.tuple #[.pointer (some ⟨p,0,none⟩),.int .i64 0]) ∧ BinAt w' F p n 0 (fun _ => none) ∧ Keeps [] w w' ∧ ∀ b ∈ F, w.heap.size <= b
theorem bin_new (w : World) (n : Nat) (hn : n <= 65536) : Calls Tryz.prog 60 #[.int .i64 n] w (BinNew w n) := by
  have hs := fun u => fo_new u n hn
  have hfin : ∀ (w1 w2 : World) (Fc : List Nat) (pc pf gf : Nat), CellsAt w1 Fc pc n 0 (fun _ => none) -> Keeps [] w w1 -> (∀ b ∈ Fc, w.heap.size <= b) -> ForestAt w2 pf gf n (fun _ => ⟨none, 0, []⟩) (fun _ => none) -> Keeps [] w1 w2 -> w1.heap.size <= pf -> w1.heap.size <= gf ->
      BinNew w n (.returned (.tuple #[.pointer (some ⟨w2.heap.size + 1,0,none⟩),.int .i64 0])) ((w2.alloc (.cells #[.slice none 0 0] 28 (0,0))).alloc (.cells #[.pointer (some ⟨pc,0,none⟩),.pointer (some ⟨pf,0,none⟩),.slice (some ⟨w2.heap.size,0,none⟩) 1 1] 213 (0,0))) := by
    intro w1 w2 Fc pc pf gf hc1 hk1 hF1 hf2 hk2 hp2 hg2
    have hl1 := hc1.lt
    have hl2 := hf2.lt
    have k1 := hk1.size
    have k2 := hk2.size
    have kA : Keeps [] w2 (w2.alloc (.cells #[.slice none 0 0] 28 (0,0))) := (Keeps.refl _ _).alloc _
    have kB : Keeps [] (w2.alloc (.cells #[.slice none 0 0] 28 (0,0))) ((w2.alloc (.cells #[.slice none 0 0] 28 (0,0))).alloc (.cells #[.pointer (some ⟨pc,0,none⟩),.pointer (some ⟨pf,0,none⟩),.slice (some ⟨w2.heap.size,0,none⟩) 1 1] 213 (0,0))) := (Keeps.refl _ _).alloc _
    have kk := kA.trans kB (by simp)
    have hb0 : (w2.alloc (.cells #[.slice none 0 0] 28 (0,0))).heap[w2.heap.size]? = some (.cells #[.slice none 0 0] 28 (0,0)) := blk_alloc_new _
    have hb1 := kB.blk hb0 (by simp)
    have htl : ∀ b ∈ treeF pf gf n (fun _ => (⟨none, 0, []⟩ : TwigR)), b = pf ∨ b = gf := fun b hb => by
      rcases treeF_mem.1 hb with c | c | ⟨z, hz, q, e, _⟩
      · exact .inl c
      · exact .inr c
      · cases e
    have lpf : pf < w2.heap.size := hl2 pf (treeF_mem.2 (.inl rfl))
    have lgf : gf < w2.heap.size := hl2 gf (treeF_mem.2 (.inr (.inl rfl)))
    have hQ : BinQ ((w2.alloc (.cells #[.slice none 0 0] 28 (0,0))).alloc (.cells #[.pointer (some ⟨pc,0,none⟩),.pointer (some ⟨pf,0,none⟩),.slice (some ⟨w2.heap.size,0,none⟩) 1 1] 213 (0,0))) (w2.heap.size + 1) pc pf gf w2.heap.size 1 Fc n 0 (fun _ => none) (fun _ => ⟨none, 0, []⟩) (fun _ => none) (fun _ => BRow.nil) := by
      refine ⟨?_,(hc1.keep hk2 (by simp)).keep kk (by simp), hf2.keep kk (by simp),?_,fun g hg => Rg.IR.nil _ _,⟨by omega,fun e => by have := hl1 _ e; omega,fun e => by have := hl1 _ e; omega,fun e => by rcases htl _ e with c | c <;> omega,fun e => by rcases htl _ e with c | c <;> omega,fun b hb e => by have := hl1 b hb; rcases htl _ e with c | c <;> omega⟩,fun g x hg e => (by cases e),fun g g' x h1 h2 hne e1 e2 => (by cases e1)⟩
      · have := blk_alloc_new (w := w2.alloc (.cells #[.slice none 0 0] 28 (0,0))) (.cells #[.pointer (some ⟨pc,0,none⟩),.pointer (some ⟨pf,0,none⟩),.slice (some ⟨w2.heap.size,0,none⟩) 1 1] 213 (0,0))
        simpa using this
      · exact ⟨by simp [bRows],.inr ⟨w2.heap.size, 1, #[.slice none 0 0],rfl, Nat.zero_le _, hb1,by simp,by decide,by simp,by simp [bRows, BRow.nil, BRow.v]⟩⟩
    refine ⟨_, _,rfl,⟨pc, pf, gf, w2.heap.size, 1, Fc, _, _, _,rfl, hQ, BinO.init⟩,(hk1.trans hk2 (by simp)).trans kk (by simp),fun b hb => ?_⟩
    rcases binF_mem.1 hb with c | c | c | c | ⟨g, hg, c⟩
    · omega
    · omega
    · exact hF1 b c
    · rcases htl b c with d | d <;> omega
    · cases c
  have HF := Lib.hid hfin
  clear hfin
  go_enter Tryz.func60, Tryz.ntmps60
  go_wp2_with (first
    | (go_at_call 87; refine (cells_new w n hn).mono ?_; rintro e w1 ⟨Fc, pc,rfl, hc1, hk1, hF1⟩)
    | (go_at_call 89; refine (hs w1).mono ?_; rintro e w2 ⟨pf, gf,rfl, hf2, hk2, hp2, hg2⟩))
  go_ret2
  exact HF.out _ _ _ _ _ _ hc1 hk1 hF1 hf2 hk2 hp2 hg2
end
section
variable (w : World) (F : List Nat) (p cap hs : Nat) (E : Ent)
theorem left_delete (c : LeftAt w F p cap hs E) (h x : Nat) (hl : least E h x) :
    Calls Tryz.prog 401 #[.pointer (some ⟨p,0,none⟩),.int .i64 x] w (LeftSt w F p cap hs (put E x none)) := by
  obtain ⟨pc, pt, gt, gr, gT, cT, Fc, L, R, U, top,rfl, m, tr, ng, t⟩ := c
  have hn := fun y (hy : (E y).isSome) => m.ce.ok.lt y hy
  have hx := hn x hl.1.some
  have htop : top h = some x := by
    cases e : top h with
    | none => exact absurd hl.1 (t.none_of hn e x)
    | some y => rw [(t.first hn e).one hl]
  have hhome := cells_home w Fc pc cap hs E m.ce x h hl.1
  have hcut := t.cut htop
  obtain ⟨hk0, hk1⟩ := hl.1
  obtain ⟨h1, h2⟩ := m.ce.ok.heap x h _ hk1
  have hne := m.ne
  have hlt3 := m.lt
  have hdrop := fun u (hu : CellsAt u Fc pc cap hs E) => cells_drop u Fc pc cap hs E hu x h hl.1
  have hbL := fun z (e : L x = some z) => And.intro (t.bin.left x z e).1 (t.bin.lr x z e)
  have hbR := fun z (e : R x = some z) => (by rw [offU_other (fun c => t.bin.lr x z c e)]; exact (t.bin.right x z e).1 : offU U (L x) z = some x)
  have hgn := ng
  simp only [List.mem_cons, not_or] at hgn
  obtain ⟨g1, g2, g3, g4, g5⟩ := hgn
  have hfin : ∀ (w3 w5 : World) (C : Option Nat) (L' R' U' : Nat -> Option Nat), LeftMid w3 p pc pt gt gr (.slice (some ⟨gT,0,none⟩) (hs + 1) cT) Fc cap hs E L' R' U' -> Zip E L' R' U' (fun y => ∃ g, top g = some y) (upd L x none) (upd R x none) h [] C none -> Keeps (gt :: gr :: Fc) w w3 ->
      CellsAt w5 Fc pc cap hs (put E x none) -> Keeps Fc (w3.setCell ⟨gT,h,none⟩ (.int .i64 (oZ C))) w5 -> LeftSt w (p :: pt :: gt :: gr :: gT :: Fc) p cap hs (put E x none) (.returned (.bool true)) w5 := by
    intro w3 w5 C L' R' U' m3 z3 k3 c5 k5
    have tr3 := tr.keep k3 (by simp; exact ⟨g3, g4, g5⟩)
    have k4 : Keeps [gT] w3 (w3.setCell ⟨gT,h,none⟩ (.int .i64 (oZ C))) := (Keeps.refl _ _).setCell (.inl (by simp)) _
    have m4 := m3.keep k4 (fun b hb e => by
      simp only [List.mem_cons, List.not_mem_nil, or_false] at e
      subst e
      exact ng hb)
    refine ⟨rfl,⟨pc, pt, gt, gr, gT, cT, Fc, L', R', U', upd top h C,rfl, m4.cells c5 k5,(tr3.set (by omega) (by omega) C).keep k5 g5, ng, Tops.dropped z3 htop t.mine (upd_same _ _ _) (upd_same _ _ _)⟩,?_⟩
    exact ((k3.mono (T := p :: pt :: gt :: gr :: gT :: Fc) (fun b hb => .inl (by simp only [List.mem_cons] at hb ⊢; rcases hb with c | c | c <;> simp [c]))).trans k4 (by simp)).trans k5 (fun b hb => .inl (by simp [hb]))
  have hmid : ∀ (w3 : World) (C : Option Nat) (L' R' U' : Nat -> Option Nat), LeftMid w3 p pc pt gt gr (.slice (some ⟨gT,0,none⟩) (hs + 1) cT) Fc cap hs E L' R' U' -> Zip E L' R' U' (fun y => ∃ g, top g = some y) (upd L x none) (upd R x none) h [] C none -> Keeps (gt :: gr :: Fc) w w3 ->
      U' x = none ∧ w3.cell? ⟨p,1,none⟩ = some (.pointer (some ⟨pt,0,none⟩)) ∧ w3.cell? ⟨p,3,none⟩ = some (.slice (some ⟨gT,0,none⟩) (hs + 1) cT) ∧ w3.cell? ⟨gT,h,none⟩ = some (.int .i64 (oZ (top h))) ∧ w3.frozen? ⟨gT,h,none⟩ = false ∧
      (w3.setCell ⟨gT,h,none⟩ (.int .i64 (oZ C))).cell? ⟨p,0,none⟩ = some (.pointer (some ⟨pc,0,none⟩)) ∧ CellsAt (w3.setCell ⟨gT,h,none⟩ (.int .i64 (oZ C))) Fc pc cap hs E := fun w3 C L' R' U' m3 z3 k3 =>
    have tr3 := tr.keep k3 (by simp; exact ⟨g3, g4, g5⟩)
    have k4 : Keeps [gT] w3 (w3.setCell ⟨gT,h,none⟩ (.int .i64 (oZ C))) := (Keeps.refl _ _).setCell (.inl (by simp)) _
    have m4 := m3.keep k4 (fun b hb e => by
      simp only [List.mem_cons, List.not_mem_nil, or_false] at e
      subst e
      exact ng hb)
    ⟨(z3.bin.top x (.inl ⟨h, htop⟩)).2, m3.c1, m3.c3, tr3.at (by omega), tr3.frozen _, m4.c0, m4.ce⟩
  have d0 := m.c0
  have d1 := m.c1
  have hhs3 : (h : Int) < ((hs + 1 : Nat) : Int) := by omega
  have hhs4 : (h : Int) < (hs : Int) + 1 := by omega
  have HCUT := Lib.hid hcut
  have HF := Lib.hid hfin
  have HMID := Lib.hid hmid
  have HDROP := Lib.hid hdrop
  have HBL := Lib.hid hbL
  have HBR := Lib.hid hbR
  clear hfin hmid hcut hdrop hbL hbR t tr ng htop hn hk1
  go_enter Tryz.func401, Tryz.ntmps401
  go_upto_region 4 with (go_at_call 302; refine hhome.mono ?_; rintro e w1 ⟨rfl, n1,rfl⟩)
  have m0 := m.drewN n1
  have k0 : Keeps [] w (w.drewN n1) := (Keeps.refl [] w).drewN _
  generalize hw0 : w.drewN n1 = w0 at *
  clear hw0
  have e1 := m0.c1
  go_quiet ((first
    | (go_at_call 411; exact Calls.quiet_of (sp_Left _ pt gt cap L R U (by exact m0.sp.like rfl) x hx))
    | (go_at_call 412; exact Calls.quiet_of (sp_Right _ pt gt cap L R U (by exact m0.sp.like rfl) x hx))
    | (go_at_call 410; exact Calls.quiet_of_same (kid_calls _ (L x)))
    | (go_at_call 410; exact Calls.quiet_of_same (kid_calls _ (R x)))))
  have m1 := m0.drewN nq
  have k1 : Keeps [] w (w0.drewN nq) := k0.drewN _
  clear m0 k0 e1 m
  generalize w0.drewN nq = w1 at *
  have e1 := m1.c1
  have hcl := cut_left w1 p pc pt gt gr _ Fc cap hs E L R U m1 x HBL.out
  go_upto_region 6 with (go_at_call 407; refine hcl.mono ?_; rintro e w2 ⟨⟨v2,rfl⟩, s2⟩)
  have m2 := m1.spine s2
  have k2 : Keeps (gt :: gr :: Fc) w w2 := (k1.mono (T := gt :: gr :: Fc) (by simp)).trans s2.2 (by simp)
  have hcr := cut_right w2 p pc pt gt gr _ Fc cap hs E (upd L x none) R (offU U (L x)) m2 x HBR.out
  clear hcl e1 m1 s2
  have e1 := m2.c1
  go_upto_region 7 with (go_at_call 407; refine hcr.mono ?_; rintro e w3 ⟨⟨v3,rfl⟩, s3⟩)
  have m3 := m2.spine s3
  have k3 : Keeps (gt :: gr :: Fc) w w3 := k2.trans s3.2 (by simp)
  clear hcr e1 m2 s3 k2
  have e1 := m3.c1
  have hmg := left_merge w3 p pc pt gt gr _ Fc cap hs E _ _ _ _ _ _ h (L x) (R x) m3 HCUT.out
  go_upto_region 8 with (go_at_call 409; refine hmg.mono ?_; rintro e w4 ⟨C, L', R', U',rfl, m4, z4, k4⟩)
  have k5 := k3.trans k4 (fun b hb => .inl hb)
  obtain ⟨hu, f1, f3, f4, f5, f6, f7⟩ := HMID.out w4 C L' R' U' m4 z4 k5
  have hup := sp_Up w4 pt gt cap L' R' U' m4.sp x hx
  rw [hu] at hup
  simp only [Option.getD_none, Option.isSome_none] at hup
  have M4 := Lib.hid m4
  have Z4 := Lib.hid z4
  clear m4 z4 hmg e1 m3 hu d0 d1
  go_wp2_with (first
    | (go_at_call 413; refine hup.mono ?_; rintro e w' ⟨rfl,rfl⟩)
    | (go_at_call 312; refine (HDROP.out _ f7).mono ?_; rintro e w5 ⟨rfl, c5, k6⟩))
  go_ret
  exact HF.out w4 w5 C L' R' U' M4.out Z4.out k5 c5 k6
def LeftExt (w : World) (F : List Nat) (p cap hs : Nat) (E : Ent) (h : Nat) (e : Ending) (w' : World) : Prop :=
  ∃ x : Nat, e = .returned (.tuple #[.int .i64 x,.bool true]) ∧ least E h x ∧ LeftAt w' F p cap hs (put E x none) ∧ Keeps F w w'
theorem left_extract (c : LeftAt w F p cap hs E) (h : Nat) (h1 : 1 <= h) (h2 : h <= hs) (hi : ∃ y, isIn E h y) :
    Calls Tryz.prog 402 #[.pointer (some ⟨p,0,none⟩),.int .i64 h] w (LeftExt w F p cap hs E h) := by
  have hm := left_min_yes w F p cap hs E c h h1 h2 hi
  have hd := fun x hl => left_delete w F p cap hs E c h x hl
  clear c hi
  go_enter Tryz.func402, Tryz.ntmps402
  go_wp2_with (first
    | (go_at_call 406; refine hm.mono ?_; rintro e w1 ⟨⟨x,rfl, hl⟩,rfl⟩)
    | (go_at_call 401; refine (hd _ hl).mono ?_; rintro e w2 ⟨rfl, c2, k2⟩))
  go_ret2
  exact ⟨x,rfl, hl, c2, k2⟩
end
theorem TopRow.more {w1 w4 : World} {g n c g' c' : Nat} {top : Nat -> Option Nat} (h : TopRow w1 g n c top) (hn : top n = none) (h0 : 0 < n)
    (hr : w4.ownsRow 0 3 1 (.slice (some ⟨g',0,none⟩) (n + 1) c') (n + 1) (topsV top n ++ [.int .i64 (-1)])) : TopRow w4 g' (n + 1) c' top :=
  ⟨by rw [topsV_snoc top n hn]; exact hr, h.zero⟩
section
variable (w : World) (F : List Nat) (p cap hs : Nat) (E : Ent)
def LeftMade (w : World) (F : List Nat) (p cap hs : Nat) (E : Ent) (e : Ending) (w' : World) : Prop := ∃ F', e = .returned (.int .i64 ((hs + 1 : Nat) : Int)) ∧ LeftAt w' F' p cap (hs + 1) E ∧ Moved F w F' w'
theorem left_make (c : LeftAt w F p cap hs E) (hh : hs < 65536) : Calls Tryz.prog 404 #[.pointer (some ⟨p,0,none⟩)] w (LeftMade w F p cap hs E) := by
  have hlt := c.lt
  obtain ⟨pc, pt, gt, gr, gT, cT, Fc, L, R, U, top,rfl, m, tr, ng, t⟩ := c
  have hmk := cells_make w Fc pc cap hs E m.ce hh
  have d0 := m.c0
  obtain ⟨⟨a1, a2, a3, a4⟩,⟨b1, b2, b3⟩,⟨c1, c2⟩, cd⟩ := m.ne
  obtain ⟨l1, l2, l3, l5, l4⟩ := m.lt
  have l6 := tr.lt
  have hgn := ng
  simp only [List.mem_cons, not_or] at hgn
  obtain ⟨g1, g2, g3, g4, g5⟩ := hgn
  have ht : top (hs + 1) = none := by
    cases e : top (hs + 1) with
    | none => rfl
    | some x =>
      obtain ⟨k, hk⟩ := t.mine _ _ e
      have := m.ce.ok.heap x _ _ hk
      omega
  have hfin : ∀ (w1 w4 : World) (Fc' : List Nat) (g' c' : Nat), CellsAt w1 Fc' pc cap (hs + 1) E -> Moved Fc w Fc' w1 -> w4.ownsRow 0 3 1 (.slice (some ⟨g',0,none⟩) (hs + 1 + 1) c') (hs + 1 + 1) (topsV top (hs + 1) ++ [.int .i64 (-1)]) -> Keeps [gT] w1 w4 -> (g' = gT ∨ w1.heap.size <= g') ->
      w4.frozen? ⟨p,3,none⟩ = false ∧ w4.cell? ⟨p,3,none⟩ = some (.slice (some ⟨gT,0,none⟩) (hs + 1) cT) ∧ LeftMade w (p :: pt :: gt :: gr :: gT :: Fc) p cap hs E (.returned (.int .i64 ((hs + 1 : Nat) : Int))) (w4.setCell ⟨p,3,none⟩ (.slice (some ⟨g',0,none⟩) (hs + 1 + 1) c')) := by
    intro w1 w4 Fc' g' c' hc1 hm1 hr4 k4 hg4
    have s1 := hm1.keeps.size
    have s4 := k4.size
    have hcl := hc1.lt
    have hnew : ∀ b, b ∉ Fc -> b < w.heap.size -> b ∉ Fc' := fun b a c e => by
      rcases hm1.from' b e with f | f
      · exact a f
      · omega
    have b4 := k4.blk (hm1.keeps.blk m.blk a4) (by simpa using fun e => g1 e.symm)
    have hgF : g' ∉ Fc' := by rcases hg4 with e | e; rw [e]; exact hnew gT g5 l6; exact fun f => by have := hcl _ f; omega
    have hgs : g' ≠ p ∧ g' ≠ pt ∧ g' ≠ gt ∧ g' ≠ gr := by rcases hg4 with e | e; rw [e]; exact ⟨g1, g2, g3, g4⟩; refine ⟨?_,?_,?_,?_⟩ <;> omega
    have k5 : Keeps [p] w4 (w4.setCell ⟨p,3,none⟩ (.slice (some ⟨g',0,none⟩) (hs + 1 + 1) c')) := (Keeps.refl _ _).setCell (.inl (by simp)) _
    have k15 : Keeps [p, gT] w1 (w4.setCell ⟨p,3,none⟩ (.slice (some ⟨g',0,none⟩) (hs + 1 + 1) c')) := (k4.mono (T := [p, gT]) (by simp)).trans k5 (by simp)
    have kall : Keeps (p :: gT :: Fc) w (w4.setCell ⟨p,3,none⟩ (.slice (some ⟨g',0,none⟩) (hs + 1 + 1) c')) := (hm1.keeps.mono (T := p :: gT :: Fc) fun b hb => .inl (by simp [hb])).trans k15 fun b hb => .inl (by simp at hb; rcases hb with c | c <;> simp [c])
    have m5 : LeftMid (w4.setCell ⟨p,3,none⟩ (.slice (some ⟨g',0,none⟩) (hs + 1 + 1) c')) p pc pt gt gr (.slice (some ⟨g',0,none⟩) (hs + 1 + 1) c') Fc' cap (hs + 1) E L R U := by
      refine ⟨?_,?_, hc1.keep k15 ?_, m.sp.keep kall ?_ ?_, m.rkeep kall ?_⟩
      · simp only [List.nodup_cons, List.mem_cons, not_or]
        exact ⟨⟨a1, a2, a3, hnew p a4 l1⟩,⟨b1, b2, hnew pt b3 l2⟩,⟨c1, hnew gt c2 l3⟩, hnew gr cd l5, hc1.nodup⟩
      · rw [blk_setCell _ b4]; simp
      · intro b hb e
        simp only [List.mem_cons, List.not_mem_nil, or_false] at e
        rcases e with rfl | rfl
        · exact hnew b a4 l1 hb
        · exact hnew b g5 l6 hb
      · simp only [List.mem_cons, not_or]; exact ⟨fun e => a1 e.symm,fun e => g2 e.symm, b3⟩
      · simp only [List.mem_cons, not_or]; exact ⟨fun e => a2 e.symm,fun e => g3 e.symm, c2⟩
      · simp only [List.mem_cons, not_or]; exact ⟨fun e => a3 e.symm,fun e => g4 e.symm, cd⟩
    have tr5 : TopRow (w4.setCell ⟨p,3,none⟩ (.slice (some ⟨g',0,none⟩) (hs + 1 + 1) c')) g' (hs + 1 + 1) c' top := (tr.more ht (by omega) hr4).keep k5 (by simpa using hgs.1)
    refine ⟨frozen_of_blk b4,by rw [cell_of_blk b4]; rfl, p :: pt :: gt :: gr :: g' :: Fc',rfl,⟨pc, pt, gt, gr, g', c', Fc', L, R, U, top,rfl, m5, tr5,?_, t⟩, kall.mono ?_,?_,?_⟩
    · simp only [List.mem_cons, not_or]; exact ⟨hgs.1, hgs.2.1, hgs.2.2.1, hgs.2.2.2, hgF⟩
    · intro b hb
      simp only [List.mem_cons] at hb ⊢
      rcases hb with c | c | c <;> simp [c]
    · intro b hb
      simp only [List.mem_cons] at hb ⊢
      rcases hb with rfl | rfl | rfl | rfl | rfl | hb
      · simp
      · simp
      · simp
      · simp
      · rcases hg4 with e | e
        · simp [e]
        · exact .inr (by omega)
      · rcases hm1.from' b hb with c | c
        · simp [c]
        · exact .inr c
    · intro b hb
      obtain ⟨q1, q2, q3, q5, q4⟩ := m5.lt
      simp only [List.mem_cons] at hb
      rcases hb with rfl | rfl | rfl | rfl | rfl | hb
      · exact q1
      · exact q2
      · exact q3
      · exact q5
      · exact tr5.lt
      · exact q4 b hb
  have hstep : ∀ (w1 : World) (Fc' : List Nat), Moved Fc w Fc' w1 -> w1.cell? ⟨p,3,none⟩ = some (.slice (some ⟨gT,0,none⟩) (hs + 1) cT) ∧ w1.ownsRow 0 3 1 (.slice (some ⟨gT,0,none⟩) (hs + 1) cT) (hs + 1) (topsV top (hs + 1)) := fun w1 Fc' h1 =>
    ⟨by rw [cell_of_blk (h1.keeps.blk m.blk a4)]; rfl, h1.keeps.row tr.row g5⟩
  have hh3 : (0 : Int) < ((hs + 1 : Nat) : Int) := by omega
  have HF := Lib.hid hfin
  have HS := Lib.hid hstep
  clear hfin hstep m tr t hlt ht
  go_enter Tryz.func404, Tryz.ntmps404
  go_upto_region 3 with (go_at_call 318; refine hmk.mono ?_; rintro e w1 ⟨Fc',rfl, hc1, hm1⟩)
  obtain ⟨q1, q2⟩ := HS.out w1 Fc' hm1
  go_wp2_with (first
    | (at_builtin; refine wpList_push _ 3 (.int .i64 (-1)) (0,0) rfl (.tmp 15) (.tmp 16) 28 rfl (.int .i64 0) 8 Tryz.underlying28 Rg.Tryz.infoInt rfl rfl _ (hs + 1) (topsV top (hs + 1)) (by simp [Act.eval]) q2 (by simp [Act.eval]) (by unfold maxLen; omega) (by omega) ?_; intro g' cap' w4 hr4 hk4 hf4; obtain ⟨f5, c5, hD5⟩ := HF.out w1 w4 Fc' g' cap' hc1 hm1 hr4 (by simpa [Value.ownBlock] using hk4) (by simpa [Value.ownBlock, eq_comm] using hf4); clear hr4 hk4 hf4))
  go_ret
  exact hD5
def LeftNew (w : World) (n : Nat) (e : Ending) (w' : World) : Prop :=
  ∃ (F : List Nat) (p : Nat), e = .returned (.tuple #[.pointer (some ⟨p,0,none⟩),.int .i64 0]) ∧ LeftAt w' F p n 0 (fun _ => none) ∧ Keeps [] w w' ∧ ∀ b ∈ F, w.heap.size <= b
theorem left_new (w : World) (n : Nat) (hn : n <= 65536) : Calls Tryz.prog 66 #[.int .i64 n] w (LeftNew w n) := by
  have hs := fun u => sp_new u n hn
  obtain ⟨i0, hi, hz0, hz1, hzb⟩ := info_parts Rg.Tryz.infoInt
  go_enter Tryz.func66, Tryz.ntmps66
  go_wp2_with (first
    | (go_at_call 87; refine (cells_new w n hn).mono ?_; rintro e w1 ⟨Fc, pc,rfl, hc1, hk1, hF1⟩)
    | (go_at_call 92; refine (hs w1).mono ?_; rintro e w2 ⟨pt, gt,rfl, hs2, hk2, hp2, hg2⟩)
    | (at_make; refine wpList_make_full _ rfl _ _ 28 rfl 0 3 i0 (.int .i64 0) 1 Tryz.underlying28 hi hz0 hz1 .i64 .i64 n n n rfl rfl rfl rfl (by rw [hzb]; omega) (by unfold maxLen; omega) (Nat.zero_le _) ?_; intro w3 hr3 hg3))
  go_ret2
  have hl1 := hc1.lt
  have hl2 := hs2.lt
  have hne2 := hs2.ne
  have k1 := hk1.size
  have k2 := hk2.size
  have hk3 : Keeps [] w2 w3 := (Keeps.refl _ _).grown hg3 (fun k h => by cases h)
  have k3 := hk3.size
  have hr0 := row_lt hr3
  have ha : Arr w3 3 1 n w2.heap.size (numV fun _ => 0) := Arr.made rfl (by decide) hr3
  obtain ⟨w5, hw5⟩ : ∃ w5, w5 = (w3.alloc (.cells #[.int .i64 (-1)] 3)).alloc (.cells #[.pointer (some ⟨pc,0,none⟩),.pointer (some ⟨pt,0,none⟩),.slice (some ⟨w2.heap.size,0,none⟩) n n,.slice (some ⟨w3.heap.size,0,none⟩) 1 1] 232) := ⟨_,rfl⟩
  rw [<- hw5]
  have hk5 : Keeps [] w3 w5 := by rw [hw5]; exact ((Keeps.refl _ _).alloc _).alloc _
  have hk25 : Keeps [] w2 w5 := hk3.trans hk5 (by simp)
  have hz5 : w5.heap.size = w3.heap.size + 2 := by rw [hw5]; simp
  have hb5 : w5.heap[w3.heap.size + 1]? = some (.cells #[.pointer (some ⟨pc,0,none⟩),.pointer (some ⟨pt,0,none⟩),.slice (some ⟨w2.heap.size,0,none⟩) n n,.slice (some ⟨w3.heap.size,0,none⟩) 1 1] 232 (0,0)) := by
    rw [hw5]
    have := blk_alloc_new (w := w3.alloc (.cells #[.int .i64 (-1)] 3 (0,0))) (.cells #[.pointer (some ⟨pc,0,none⟩),.pointer (some ⟨pt,0,none⟩),.slice (some ⟨w2.heap.size,0,none⟩) n n,.slice (some ⟨w3.heap.size,0,none⟩) 1 1] 232 (0,0))
    simpa using this
  have ht5 : w5.heap[w3.heap.size]? = some (.cells #[.int .i64 (-1)] 3 (0,0)) := by
    rw [hw5, blk_alloc_old _ (by simp), blk_alloc_new]
  have hF2 : ∀ b ∈ Fc, b < w2.heap.size := fun b hb => by have := hl1 b hb; omega
  refine ⟨(w3.heap.size + 1) :: pt :: gt :: w2.heap.size :: w3.heap.size :: Fc, w3.heap.size + 1,rfl,⟨pc, pt, gt, w2.heap.size, w3.heap.size, 1, Fc,fun _ => none,fun _ => none,fun _ => none,fun _ => none,rfl,⟨?_, hb5,(hc1.keep hk2 (by simp)).keep hk25 (by simp), hs2.keep hk25 (by simp) (by simp), _, ha.keep hk5 (by simp)⟩,⟨?_,rfl⟩,?_, Tops.init⟩,(hk1.trans hk2 (by simp)).trans hk25 (by simp),?_⟩
  · simp only [List.nodup_cons, List.mem_cons, not_or]
    exact ⟨⟨by omega,by omega,by omega,fun e => by have := hF2 _ e; omega⟩,⟨fun e => hne2 e.symm,by omega,fun e => by have := hl1 _ e; omega⟩,⟨by omega,fun e => by have := hl1 _ e; omega⟩,fun e => by have := hF2 _ e; omega, hc1.nodup⟩
  · exact ⟨by simp [topsV],.inr ⟨w3.heap.size, 1, #[.int .i64 (-1)],rfl, Nat.zero_le _, ht5,by simp,by decide,by simp,by simp [topsV, oZ]⟩⟩
  · simp only [List.mem_cons, not_or]
    exact ⟨by omega,by omega,by omega,by omega,fun e => by have := hF2 _ e; omega⟩
  · intro b hb
    simp only [List.mem_cons] at hb
    rcases hb with rfl | rfl | rfl | rfl | rfl | hb
    · omega
    · omega
    · omega
    · omega
    · omega
    · exact hF1 b hb
end
theorem fresh_calls (w : World) : Calls Tryz.prog 91 #[] w fun e w' => e = .returned (.agg #[.int .i64 (-1),.int .i64 (-1),.int .i64 0,.bool false]) ∧ Keeps [] w w' := by
  go_enter Tryz.func91, Tryz.ntmps91
  go_wp2_with fail
  exact bodyPost_ret (results_cell_row rfl _ _ w.heap.size 226 #[.int .i64 (-1),.int .i64 (-1),.int .i64 0,.bool false] (0,0) _ (by simp) (blk_alloc_new _) Tryz.underlying226 rfl (by kernel_rfl)) rfl ⟨rfl,(Keeps.refl _ _).alloc _⟩
section
variable (w : World) (p pc pr gn gp gt gT cT : Nat) (Fc : List Nat) (cap hs : Nat) (E : Ent) (wl : List (List Nat)) (U kid : Nat -> Option Nat) (deg : Nat -> Nat) (mk : Nat -> Bool) (top : Nat -> Option Nat)
def RaiseDone (h x : Nat) (w' : World) : Prop :=
  ∃ (wl' : List (List Nat)) (U' kid' : Nat -> Option Nat) (deg' : Nat -> Nat) (mk' : Nat -> Bool), FibQ w' p pc pr gn gp gt gT cT Fc cap hs E wl' U' kid' deg' mk' top ∧ FibM E cap (Rl wl') U' kid' deg' top h (fun _ => True) ∧ kid' x = none ∧ Keeps (p :: pr :: gn :: gp :: gt :: gT :: Fc) w w'
theorem fib_raise (q : FibQ w p pc pr gn gp gt gT cT Fc cap hs E wl U kid deg mk top) (h x : Nat) (m : FibM E cap (Rl wl) U kid deg top h (fun _ => True)) (e : top h = some x) :
    Calls Tryz.prog 389 #[.pointer (some ⟨p,0,none⟩),.int .i64 x] w fun e w' => e = .returned (.tuple #[]) ∧ RaiseDone w p pc pr gn gp gt gT cT Fc cap hs E top h x w' := by
  obtain ⟨hx, _, hxa⟩ := m.topS h x e
  have hxc := hx.lt m
  have c2 := q.c2
  have d1 := q.k1 hxc
  have hx3 : (x : Int) < (cap : Int) := by omega
  cases ek : kid x with
  | none =>
    rw [ek] at d1
    simp only [oZ_none] at d1
    have hfin : RaiseDone w p pc pr gn gp gt gT cT Fc cap hs E top h x w := ⟨wl, U, kid, deg, mk, q, m, ek, Keeps.refl _ _⟩
    have HF := Lib.hid hfin
    clear hfin q m e hx hxa ek
    go_enter Tryz.func389, Tryz.ntmps389
    go_wp2_with fail
    refine bodyPost_ret (results_none rfl _ _ _) rfl ?_
    exact ⟨rfl, HF.out⟩
  | some k =>
    rw [ek] at d1
    simp only [oZ_some] at d1
    have hkc := m.kidLt (m.kidS x k ek)
    have hk1 : ((k : Int) == -1) = false := by rw [beq_eq_false_iff_ne]; omega
    have hall := rg_all q.rg q.cp hkc
    obtain ⟨N, P, hr⟩ := q.rg.rings
    obtain ⟨lx, rx, hlx, hxl, hax, hpx, hndx, hmx, hbx⟩ := hr.home hkc
    obtain ⟨l, hle⟩ : ∃ l, l = Rg.allZ wl k := ⟨_,rfl⟩
    have hlz : ∀ z, z ∈ l ↔ U z = some x := fun z => by rw [hle]; exact m.ringKid ek hkc z
    have hlc : ∀ z ∈ l, z < cap := fun z hz => m.kidLt ((hlz z).1 hz)
    have hln : l.Nodup := by rw [hle, hax]; exact hndx
    have hll : l.length <= 65536 := Nat.le_trans (nodup_len hln hlc) q.cp
    rw [<- hle] at hall
    have hne : ¬ Rl wl x k := fun c => by
      have := ((m.ringTop e k).1 c).1.2
      rw [m.kidS x k ek] at this; cases this
    have hR : ∀ u v, u < cap -> (Rl (Rg.spliceZ wl x k).1 u v ↔ Rl wl u v ∨ ((Rl wl x u ∨ Rl wl k u) ∧ (Rl wl x v ∨ Rl wl k v))) := fun u v hu => rl_splice hr hxc hkc hne hu
    have hm2 := m.raise e ek hlz hR
    have c1 := q.c1
    have hlt := q.lt
    have hq0 : ∀ w1, Below w.heap.size w w1 -> FibQ w1 p pc pr gn gp gt gT cT Fc cap hs E wl (updM U (l.take 0) none) kid deg (updM mk (l.take 0) false) top ∧ Keeps (p :: pr :: gn :: gp :: gt :: gT :: Fc) w w1 := fun w1 b1 => by
      rw [List.take_zero, updM_nil, updM_nil]
      exact ⟨q.same (Below.keeps b1 (Nat.le_refl _) []), Below.keeps b1 (Nat.le_refl _) _⟩
    have hfin : ∀ w2 w3, FibQ w2 p pc pr gn gp gt gT cT Fc cap hs E (Rg.spliceZ wl x k).1 (updM U l none) kid deg (updM mk l false) top -> Keeps (p :: pr :: gn :: gp :: gt :: gT :: Fc) w w2 -> Keeps [] w2 w3 ->
        w3.cell? ⟨p,2,none⟩ = some (.slice (some ⟨gt,0,none⟩) cap cap) ∧ Hid (RaiseDone w p pc pr gn gp gt gT cT Fc cap hs E top h x ((((w3.setCell ⟨gt, x * 4, none⟩ (.int .i64 (-1))).setCell ⟨gt, x * 4 + 1, none⟩ (.int .i64 (-1))).setCell ⟨gt, x * 4 + 2, none⟩ (.int .i64 0)).setCell ⟨gt, x * 4 + 3, none⟩ (.bool false))) := by
      intro w2 w3 q2 k2 k3
      have q3 := q2.same k3
      have q4 := q3.setPlace hxc (j := 0) (by decide) _ (place_up x none)
      have q5 := q4.setPlace hxc (j := 1) (by decide) _ (place_kid x none)
      have q6 := q5.setPlace hxc (j := 2) (by decide) _ (place_deg x 0)
      have q7 := q6.setPlace hxc (j := 3) (by decide) _ (place_mark x false)
      have hu : upd (updM U l none) x none = updM U l none := by
        have : updM U l none x = none := by
          by_cases c : x ∈ l
          · exact updM_in _ _ c
          · rw [updM_out _ _ c]; exact hx.2
        have h5 := upd_self (updM U l none) x
        rw [this] at h5; exact h5
      rw [hu] at q7
      refine ⟨q3.c2, _, _, _, _, _, q7, hm2, upd_same _ _ _,?_⟩
      exact ((((k2.trans k3 (by simp)).setCell (.inl (by simp)) _).setCell (.inl (by simp)) _).setCell (.inl (by simp)) _).setCell (.inl (by simp)) _
    have HF := Lib.hid hfin
    have HQ := Lib.hid hq0
    have HC := Lib.hid hlc
    have HT := Lib.hid hlt
    have hcp := q.cp
    clear hfin hq0 hm2 hR hne hlz hle hln hlc hr hlx hxl hax hpx hndx hmx hbx hlt q m e hx hxa ek
    go_enter Tryz.func389, Tryz.ntmps389
    go_wp2_with (first
      | (go_at_call 391; refine hall.mono ?_; rintro e w1 ⟨v,rfl, hir, hb1⟩; obtain ⟨q1, k1⟩ := HQ.out w1 hb1; obtain ⟨ao, ca,rfl⟩ := hir.form; have Q1 := Lib.hid q1; have K1 := Lib.hid k1; have IR := Lib.hid hir; clear q1 k1 hir hb1))
    go_loopg [24] (l.length + 1) (fun n s wr => ∃ i : Nat, n + i = l.length + 1 ∧ i <= l.length ∧ s = .int .i64 i ∧ FibQ wr p pc pr gn gp gt gT cT Fc cap hs E wl (updM U (l.take i) none) kid deg (updM mk (l.take i) false) top ∧ Rg.IR w.heap.size wr (.slice ao l.length ca) l ∧ Keeps (p :: pr :: gn :: gp :: gt :: gT :: Fc) w wr)
    case atStart => exact ⟨0,by omega,by omega,rfl, Q1.out, IR.out, K1.out⟩
    case round =>
      clear hall c2 d1 c1 Q1 K1 IR HQ
      obtain ⟨i, hk, hin,rfl, q, hir, kp⟩ := hrel
      have HK := Lib.hid hk
      clear hk
      by_cases hi : i < l.length
      · obtain ⟨y, hy⟩ : ∃ y, l[i]? = some y := ⟨_, List.getElem?_eq_getElem hi⟩
        have hyc := HC.out y (List.mem_of_getElem? hy)
        obtain ⟨gg, e, _, hgw, d0⟩ := hir.at i hi
        subst e
        have hyf : Rg.fn l i = y := by simp [Rg.fn, List.getD, hy]
        rw [hyf] at d0
        have c2 := q.c2
        have f0 := q.ar.frozen (y * 4)
        have f3 := q.ar.frozen (y * 4 + 3)
        have e0 := q.k0 hyc
        have e3 := q.k3 hyc
        have hp := HT.out gt (by simp)
        have hgp : p ≠ gt := q.apart.1.2.2.2.1
        have hi3 : (i : Int) < (l.length : Int) := by omega
        have hy3 : (y : Int) < (cap : Int) := by omega
        have q1 := q.setPlace hyc (j := 0) (by decide) _ (place_up y none)
        have q2 := q1.setPlace hyc (j := 3) (by decide) _ (place_mark y false)
        have ht1 : l.take (i + 1) = l.take i ++ [y] := by rw [List.take_add_one, hy]; rfl
        rw [<- updM_snoc, <- updM_snoc, <- ht1] at q2
        have k2 : Keeps (p :: pr :: gn :: gp :: gt :: gT :: Fc) w ((wr.setCell ⟨gt, y * 4 + 0, none⟩ (.int .i64 (oZ none))).setCell ⟨gt, y * 4 + 3, none⟩ (.bool false)) := (kp.setCell (.inl (by simp)) _).setCell (.inl (by simp)) _
        have hir2 : Rg.IR w.heap.size ((wr.setCell ⟨gt, y * 4 + 0, none⟩ (.int .i64 (oZ none))).setCell ⟨gt, y * 4 + 3, none⟩ (.bool false)) (.slice (some ⟨gg,0,none⟩) l.length ca) l :=
          ir_keep' hir (S := [gt]) (((Keeps.refl _ _).setCell (.inl (by simp)) _).setCell (.inl (by simp)) _) (fun b eb => by
            rw [ownBlock_some] at eb; cases eb
            simp only [List.mem_singleton]; omega)
        have Q2 := Lib.hid q2
        have K2 := Lib.hid k2
        have I2 := Lib.hid hir2
        clear q q1 q2 k2 kp hir hir2 ht1 hy hyf
        go_upto_region 5 with fail
        go_region_held3 (fun u => u.cell? ⟨p,2,none⟩ = some (.slice (some ⟨gt,0,none⟩) cap cap)) (first | exact c2 | exact cell_set_ne hgp c2 | exact cell_set_ne hgp (cell_set_ne hgp c2)) (fail)
        all_goals
          clear c2 d0 f0 f3 e0 e3
          go_wp2_with fail
          go_roundg (gk - 1)
          case measure => have := HK.out; omega
          case rel => exact ⟨i + 1,by have := HK.out; omega,by omega,by go_num, Q2.out.same ⟨rfl,rfl,rfl, Nat.le_refl _,fun _ _ _ => rfl⟩, ir_keep' I2.out (S := []) ⟨rfl,rfl,rfl, Nat.le_refl _,fun _ _ _ => rfl⟩ (by simp), K2.out.trans (T := []) ⟨rfl,rfl,rfl, Nat.le_refl _,fun _ _ _ => rfl⟩ (by simp)⟩
      · obtain rfl : i = l.length := by omega
        rw [List.take_length] at q
        have hsp := rg_splice q.rg hcp hxc hkc
        have c1 := q.c1
        have hstep : ∀ w2, RgAt w2 pr gn gp cap (Rg.spliceZ wl x k).1 -> Keeps [gn, gp] wr w2 -> Hid (∀ w3, Keeps [] w2 w3 -> w3.cell? ⟨p,2,none⟩ = some (.slice (some ⟨gt,0,none⟩) cap cap) ∧ (∃ v0 v1 v2 v3, w3.cell? ⟨gt, x * 4, none⟩ = some v0 ∧ w3.cell? ⟨gt, x * 4 + 1, none⟩ = some v1 ∧ w3.cell? ⟨gt, x * 4 + 2, none⟩ = some v2 ∧ w3.cell? ⟨gt, x * 4 + 3, none⟩ = some v3) ∧ (w3.frozen? ⟨gt, x * 4, none⟩ = false ∧ w3.frozen? ⟨gt, x * 4 + 1, none⟩ = false ∧ w3.frozen? ⟨gt, x * 4 + 2, none⟩ = false ∧ w3.frozen? ⟨gt, x * 4 + 3, none⟩ = false) ∧ Hid (RaiseDone w p pc pr gn gp gt gT cT Fc cap hs E top h x ((((w3.setCell ⟨gt, x * 4, none⟩ (.int .i64 (-1))).setCell ⟨gt, x * 4 + 1, none⟩ (.int .i64 (-1))).setCell ⟨gt, x * 4 + 2, none⟩ (.int .i64 0)).setCell ⟨gt, x * 4 + 3, none⟩ (.bool false)))) := fun w2 hr2 k2 => by
          intro w3 k3
          have q2 := q.ring hr2 k2
          obtain ⟨a1, a2⟩ := HF.out w2 w3 q2 (kp.trans k2 (fun b hb => .inl (by simp only [List.mem_cons, List.not_mem_nil, or_false] at hb ⊢; rcases hb with c | c <;> simp [c]))) k3
          have q3 := q2.same k3
          exact ⟨a1,⟨_, _, _, _, q3.k0 hxc, q3.k1 hxc, q3.k2 hxc, q3.k3 hxc⟩,⟨q3.ar.frozen _, q3.ar.frozen _, q3.ar.frozen _, q3.ar.frozen _⟩, a2⟩
        have HS := Lib.hid hstep
        clear hstep q hir kp HF
        go_upto_region 8 with (first
          | (go_at_call 396; refine hsp.mono ?_; rintro e w2 ⟨rfl, hr2, k2⟩; have hs2 := HS.out w2 hr2 k2; clear hr2 k2 HS))
        clear hsp c1
        obtain ⟨z0, _, _, _⟩ := hs2.out w2 (Keeps.refl _ _)
        have hfr := fresh_calls w2.drew
        go_region_law (first
          | (go_simp; go_at_call 91; refine hfr.mono ?_; rintro e w3 ⟨rfl, k3⟩; obtain ⟨y0,⟨v0, v1, v2, v3, y1, y2, y3, y4⟩,⟨g0, g1, g2, g3⟩, y5⟩ := hs2.out w3 (Keeps.trans (a := w2) (b := w2.drew) ⟨rfl,rfl,rfl, Nat.le_refl _,fun _ _ _ => rfl⟩ k3 (by simp)); clear k3))
        all_goals
          clear z0 y0 y1 y2 y3 y4 g0 g1 g2 g3
          go_wp2_with fail
          go_end0
          exact ⟨rfl, y5.out⟩
end
section
variable (w : World) (F : List Nat) (p cap hs : Nat) (E : Ent)
def FibMade (e : Ending) (w' : World) : Prop := ∃ F', e = .returned (.int .i64 ((hs + 1 : Nat) : Int)) ∧ FibAt w' F' p cap (hs + 1) E ∧ Moved F w F' w'
theorem fib_make (c : FibAt w F p cap hs E) (hh : hs < 65536) : Calls Tryz.prog 385 #[.pointer (some ⟨p,0,none⟩)] w (FibMade w F p cap hs E) := by
  obtain ⟨pc, pr, gn, gp, gt, gT, cT, Fc, wl, U, kid, deg, mk, top,rfl, q, o⟩ := c
  have hlt := q.lt
  have hmk := cells_make w Fc pc cap hs E q.ce hh
  have d0 := q.c0
  obtain ⟨⟨a1, a2, a3, a4, a5, a6⟩,⟨b1, b2, b3, b4, b5⟩,⟨c1, c2, c3, c4⟩,⟨e1, e2, e3⟩,⟨f1, f2⟩, g1⟩ := q.apart
  have ht : top (hs + 1) = none := by
    cases e : top (hs + 1) with
    | none => rfl
    | some x =>
      obtain ⟨k, hk⟩ := (o.topS _ _ e).1.1
      have := q.ce.ok.heap x _ _ hk
      omega
  have lall : p < w.heap.size ∧ pr < w.heap.size ∧ gn < w.heap.size ∧ gp < w.heap.size ∧ gt < w.heap.size ∧ gT < w.heap.size := ⟨hlt _ (by simp), hlt _ (by simp), hlt _ (by simp), hlt _ (by simp), hlt _ (by simp), hlt _ (by simp)⟩
  obtain ⟨l1, l2, l3, l4, l5, l6⟩ := lall
  have hfin : ∀ (w1 w4 : World) (Fc' : List Nat) (g' c' : Nat), CellsAt w1 Fc' pc cap (hs + 1) E -> Moved Fc w Fc' w1 -> w4.ownsRow 0 3 1 (.slice (some ⟨g',0,none⟩) (hs + 1 + 1) c') (hs + 1 + 1) (topsV top (hs + 1) ++ [.int .i64 (-1)]) -> Keeps [gT] w1 w4 -> (g' = gT ∨ w1.heap.size <= g') ->
      w4.frozen? ⟨p,3,none⟩ = false ∧ w4.cell? ⟨p,3,none⟩ = some (.slice (some ⟨gT,0,none⟩) (hs + 1) cT) ∧ FibMade w (p :: pr :: gn :: gp :: gt :: gT :: Fc) p cap hs E (.returned (.int .i64 ((hs + 1 : Nat) : Int))) (w4.setCell ⟨p,3,none⟩ (.slice (some ⟨g',0,none⟩) (hs + 1 + 1) c')) := by
    intro w1 w4 Fc' g' c' hc1 hm1 hr4 k4 hg4
    have s1 := hm1.keeps.size
    have s4 := k4.size
    have hcl := hc1.lt
    have hnew : ∀ b, b ∉ Fc -> b < w.heap.size -> b ∉ Fc' := fun b a c e => by
      rcases hm1.from' b e with f | f
      · exact a f
      · omega
    have blk4 := k4.blk (hm1.keeps.blk q.blk a6) (by simpa using a5)
    have hgF : g' ∉ Fc' := by rcases hg4 with e | e; rw [e]; exact hnew gT g1 l6; exact fun f => by have := hcl _ f; omega
    have hgs : g' ≠ p ∧ g' ≠ pr ∧ g' ≠ gn ∧ g' ≠ gp ∧ g' ≠ gt := by
      rcases hg4 with e | e
      · rw [e]; exact ⟨a5.symm, b4.symm, c3.symm, e2.symm, f1.symm⟩
      · refine ⟨?_,?_,?_,?_,?_⟩ <;> omega
    have k5 : Keeps [p] w4 (w4.setCell ⟨p,3,none⟩ (.slice (some ⟨g',0,none⟩) (hs + 1 + 1) c')) := (Keeps.refl _ _).setCell (.inl (by simp)) _
    have k15 : Keeps [p, gT] w1 (w4.setCell ⟨p,3,none⟩ (.slice (some ⟨g',0,none⟩) (hs + 1 + 1) c')) := (k4.mono (T := [p, gT]) (by simp)).trans k5 (by simp)
    have kall : Keeps (p :: gT :: Fc) w (w4.setCell ⟨p,3,none⟩ (.slice (some ⟨g',0,none⟩) (hs + 1 + 1) c')) := (hm1.keeps.mono (T := p :: gT :: Fc) fun b hb => .inl (by simp [hb])).trans k15 fun b hb => .inl (by simp at hb; rcases hb with c | c <;> simp [c])
    have tr5 : TopRow (w4.setCell ⟨p,3,none⟩ (.slice (some ⟨g',0,none⟩) (hs + 1 + 1) c')) g' (hs + 1 + 1) c' top := (q.tr.more ht (by omega) hr4).keep k5 (by simpa using hgs.1)
    have q5 : FibQ (w4.setCell ⟨p,3,none⟩ (.slice (some ⟨g',0,none⟩) (hs + 1 + 1) c')) p pc pr gn gp gt g' c' Fc' cap (hs + 1) E wl U kid deg mk top := by
      refine ⟨?_,?_, hc1.keep k15 ?_, q.rg.keep kall ?_ ?_ ?_, q.ar.keep kall ?_, tr5, q.cp⟩
      · simp only [List.nodup_cons, List.mem_cons, not_or]
        exact ⟨⟨a1, a2, a3, a4,fun e => hgs.1 e.symm, hnew p a6 l1⟩,⟨b1, b2, b3,fun e => hgs.2.1 e.symm, hnew pr b5 l2⟩,⟨c1, c2,fun e => hgs.2.2.1 e.symm, hnew gn c4 l3⟩,⟨e1,fun e => hgs.2.2.2.1 e.symm, hnew gp e3 l4⟩,⟨fun e => hgs.2.2.2.2 e.symm, hnew gt f2 l5⟩, hgF, hc1.nodup⟩
      · rw [blk_setCell _ blk4]; simp
      · intro b hb e
        simp only [List.mem_cons, List.not_mem_nil, or_false] at e
        rcases e with rfl | rfl
        · exact hnew b a6 l1 hb
        · exact hnew b g1 l6 hb
      · simp only [List.mem_cons, not_or]; exact ⟨a1.symm, b4, b5⟩
      · simp only [List.mem_cons, not_or]; exact ⟨a2.symm, c3, c4⟩
      · simp only [List.mem_cons, not_or]; exact ⟨a3.symm, e2, e3⟩
      · simp only [List.mem_cons, not_or]; exact ⟨a4.symm, f1, f2⟩
    refine ⟨frozen_of_blk blk4,by rw [cell_of_blk blk4]; rfl, _,rfl,⟨pc, pr, gn, gp, gt, g', c', Fc', wl, U, kid, deg, mk, top,rfl, q5, o⟩, kall.mono ?_,?_, q5.lt⟩
    · intro b hb
      simp only [List.mem_cons] at hb ⊢
      rcases hb with c | c | c <;> simp [c]
    · intro b hb
      simp only [List.mem_cons] at hb ⊢
      rcases hb with rfl | rfl | rfl | rfl | rfl | rfl | hb
      · simp
      · simp
      · simp
      · simp
      · simp
      · rcases hg4 with e | e
        · simp [e]
        · exact .inr (by omega)
      · rcases hm1.from' b hb with c | c
        · simp [c]
        · exact .inr c
  have hstep : ∀ (w1 : World) (Fc' : List Nat), Moved Fc w Fc' w1 -> w1.cell? ⟨p,3,none⟩ = some (.slice (some ⟨gT,0,none⟩) (hs + 1) cT) ∧ w1.ownsRow 0 3 1 (.slice (some ⟨gT,0,none⟩) (hs + 1) cT) (hs + 1) (topsV top (hs + 1)) := fun w1 Fc' h1 =>
    ⟨by rw [cell_of_blk (h1.keeps.blk q.blk a6)]; rfl, h1.keeps.row q.tr.row g1⟩
  have hh3 : (0 : Int) < ((hs + 1 : Nat) : Int) := by omega
  have HF := Lib.hid hfin
  have HS := Lib.hid hstep
  clear hfin hstep q o hlt ht
  go_enter Tryz.func385, Tryz.ntmps385
  go_upto_region 3 with (go_at_call 318; refine hmk.mono ?_; rintro e w1 ⟨Fc',rfl, hc1, hm1⟩)
  obtain ⟨q1, q2⟩ := HS.out w1 Fc' hm1
  go_wp2_with (first
    | (at_builtin; refine wpList_push _ 3 (.int .i64 (-1)) (0,0) rfl (.tmp 15) (.tmp 16) 28 rfl (.int .i64 0) 8 Tryz.underlying28 Rg.Tryz.infoInt rfl rfl _ (hs + 1) (topsV top (hs + 1)) (by simp [Act.eval]) q2 (by simp [Act.eval]) (by unfold maxLen; omega) (by omega) ?_; intro g' cap' w4 hr4 hk4 hf4; obtain ⟨f5, c5, hD5⟩ := HF.out w1 w4 Fc' g' cap' hc1 hm1 hr4 (by simpa [Value.ownBlock] using hk4) (by simpa [Value.ownBlock, eq_comm] using hf4); clear hr4 hk4 hf4))
  go_ret
  exact hD5
end
theorem Tryz.infoPlace : (Tryz.prog.info? 226).map (fun i => (i.zero, i.size, i.bytes)) = some (some (.agg #[.int .i64 0,.int .i64 0,.int .i64 0,.bool false]), 4,32) := by kernel_rfl
def laidP (i j : Nat) : List Value := if j < i then [.int .i64 (-1),.int .i64 (-1),.int .i64 0,.bool false] else [.int .i64 0,.int .i64 0,.int .i64 0,.bool false]
def FibNew (w : World) (n : Nat) (e : Ending) (w' : World) : Prop :=
  ∃ (F : List Nat) (p : Nat), e = .returned (.tuple #[.pointer (some ⟨p,0,none⟩),.int .i64 0]) ∧ FibAt w' F p n 0 (fun _ => none) ∧ Keeps [] w w' ∧ ∀ b ∈ F, w.heap.size <= b
theorem laidP_upd (i : Nat) : upd (laidP i) i [.int .i64 (-1),.int .i64 (-1),.int .i64 0,.bool false] = laidP (i + 1) := by
  funext j
  by_cases e : j = i
  · subst e; rw [upd_same]; simp [laidP]
  · rw [upd_other _ _ e]
    unfold laidP
    by_cases c : j < i
    · rw [if_pos c, if_pos (by omega)]
    · rw [if_neg c, if_neg (by omega)]
theorem Arr.set4 {w : World} {T n g i : Nat} {F : Nat -> List Value} (h : Arr w T 4 n g F) (hi : i < n) (a b c d : Value) :
    Arr ((((w.setCell ⟨g, i * 4, none⟩ a).setCell ⟨g, i * 4 + 1, none⟩ b).setCell ⟨g, i * 4 + 2, none⟩ c).setCell ⟨g, i * 4 + 3, none⟩ d) T 4 n g (upd F i [a, b, c, d]) := by
  have h1 := (((h.set hi (j := 0) (by omega) a).set hi (j := 1) (by omega) b).set hi (j := 2) (by omega) c).set hi (j := 3) (by omega) d
  refine h1.congr fun k _ => ?_
  by_cases e : k = i
  · subst e
    simp only [upd_same]
    have hl := h.size k hi
    match hF : F k, hl with
    | [x, y, z, t], _ => rfl
  · simp only [upd_other _ _ e]
theorem fib_new (w : World) (n : Nat) (hn : n <= 65536) : Calls Tryz.prog 64 #[.int .i64 n] w (FibNew w n) := by
  obtain ⟨i0, hi, hz0, hz1, hzb⟩ := info_parts Tryz.infoPlace
  go_enter Tryz.func64, Tryz.ntmps64
  go_upto_region 6 with (first
    | (go_at_call 87; refine (cells_new w n hn).mono ?_; rintro e w1 ⟨Fc, pc,rfl, hc1, hk1, hF1⟩)
    | (go_at_call 90; refine (Rg.new_yes w1 n hn).mono ?_; rintro e w2 ⟨pr, gn, gp,rfl, hr2, hb2, hp2, hn2, hg2⟩)
    | (at_make; refine wpList_make_full _ rfl _ _ 222 rfl 0 226 i0 (.agg #[.int .i64 0,.int .i64 0,.int .i64 0,.bool false]) 4 Tryz.underlying222 hi hz0 hz1 .i64 .i64 n n n rfl rfl rfl rfl (by rw [hzb]; omega) (by unfold maxLen; omega) (Nat.zero_le _) ?_; intro w3 hr3 hg3))
  have hk2 : Keeps [] w1 w2 := Below.keeps hb2 (Nat.le_refl _) []
  have hk3 : Keeps [] w2 w3 := (Keeps.refl _ _).grown hg3 (fun k h => by cases h)
  have hg1 : w2.heap.size < w3.heap.size := row_lt hr3
  have ha : Arr w3 226 4 n w2.heap.size (laidP 0) := (Arr.made rfl (by decide) hr3).congr (fun i _ => by simp [laidP]; rfl)
  have hl1 := hc1.lt
  have s1 := hk1.size
  have s2 := hk2.size
  obtain ⟨lr1, lr2, lr3⟩ := hr2.lt
  obtain ⟨w5, hw5⟩ : ∃ w5, w5 = (w3.alloc (.cells #[.int .i64 (-1)] 3)).alloc (.cells #[.pointer (some ⟨pc,0,none⟩),.pointer (some ⟨pr,0,none⟩),.slice (some ⟨w2.heap.size,0,none⟩) n n,.slice (some ⟨w3.heap.size,0,none⟩) 1 1] 224) := ⟨_,rfl⟩
  have hb5 : w5.heap[w3.heap.size + 1]? = some (.cells #[.pointer (some ⟨pc,0,none⟩),.pointer (some ⟨pr,0,none⟩),.slice (some ⟨w2.heap.size,0,none⟩) n n,.slice (some ⟨w3.heap.size,0,none⟩) 1 1] 224 (0,0)) := by
    rw [hw5]
    have := blk_alloc_new (w := w3.alloc (.cells #[.int .i64 (-1)] 3 (0,0))) (.cells #[.pointer (some ⟨pc,0,none⟩),.pointer (some ⟨pr,0,none⟩),.slice (some ⟨w2.heap.size,0,none⟩) n n,.slice (some ⟨w3.heap.size,0,none⟩) 1 1] 224 (0,0))
    simpa using this
  have ht5 : w5.heap[w3.heap.size]? = some (.cells #[.int .i64 (-1)] 3 (0,0)) := by
    rw [hw5, blk_alloc_old _ (by simp), blk_alloc_new]
  have hk5 : Keeps [] w3 w5 := by rw [hw5]; exact ((Keeps.refl _ _).alloc _).alloc _
  have ha5 := ha.keep hk5 (by simp)
  have hk35 : Keeps [] w2 w5 := hk3.trans hk5 (by simp)
  have hc5 := (hc1.keep hk2 (by simp)).keep hk35 (by simp)
  have hr5 := hr2.keep hk35 (by simp) (by simp) (by simp)
  have hkw : Keeps [] w w5 := (hk1.trans hk2 (by simp)).trans hk35 (by simp)
  rw [<- hw5]
  obtain ⟨gt, hgd⟩ : ∃ g, w2.heap.size = g := ⟨_,rfl⟩
  obtain ⟨gT, hTd⟩ : ∃ g, w3.heap.size = g := ⟨_,rfl⟩
  have hF2 : ∀ b ∈ Fc, b < w1.heap.size := hl1
  rw [hgd, hTd] at hb5
  rw [hTd] at ht5
  rw [hgd] at ha5 lr1 lr2 lr3
  rw [hgd, hTd]
  have hgg : gt < gT := by omega
  have hgw : w.heap.size <= gt := by omega
  have hg1t : w1.heap.size <= gt := by omega
  have hfin : ∀ wr, Arr wr 226 4 n gt (laidP n) -> Keeps [gt] w5 wr -> FibNew w n (.returned (.tuple #[.pointer (some ⟨gT + 1,0,none⟩),.int .i64 0])) wr := by
    intro wr ha kp
    have hb := kp.blk hb5 (by simp; omega)
    have ht := kp.blk ht5 (by simp; omega)
    have hc6 := hc5.keep kp (fun b hb => by have := hF2 b hb; simp; omega)
    have hr6 := hr5.keep kp (by simp; omega) (by simp; omega) (by simp; omega)
    obtain ⟨n1, n2, n3⟩ := hr5.ne
    refine ⟨_, gT + 1,rfl,⟨pc, pr, gn, gp, gt, gT, 1, Fc, _,fun _ => none,fun _ => none,fun _ => 0,fun _ => false,fun _ => none,rfl,⟨?_, hb, hc6,⟨_, _, hr6, Rg.Rings.new n⟩, ha.congr (fun j hj => by simp [laidP, placeV, oZ, hj]),⟨?_,rfl⟩, hn⟩, FibO.init n _ (fun x y hx => rl_new hx)⟩, hkw.trans kp (by simp; omega),?_⟩
    · simp only [List.nodup_cons, List.mem_cons, not_or]
      exact ⟨⟨by omega,by omega,by omega,by omega,by omega,fun e => by have := hF2 _ e; omega⟩,⟨fun e => n1 e.symm,fun e => n2 e.symm,by omega,by omega,fun e => by have := hF2 _ e; omega⟩,⟨n3,by omega,by omega,fun e => by have := hF2 _ e; omega⟩,⟨by omega,by omega,fun e => by have := hF2 _ e; omega⟩,⟨by omega,fun e => by have := hF2 _ e; omega⟩,fun e => by have := hF2 _ e; omega, hc6.nodup⟩
    · exact ⟨by simp [topsV],.inr ⟨gT, 1, #[.int .i64 (-1)],rfl, Nat.zero_le _, ht,by simp,by decide,by simp,by simp [topsV, oZ]⟩⟩
    · intro b hb
      simp only [List.mem_cons] at hb
      rcases hb with rfl | rfl | rfl | rfl | rfl | rfl | hb
      · omega
      · omega
      · omega
      · omega
      · omega
      · omega
      · exact hF1 b hb
  have HF := Lib.hid hfin
  have e1 : w5.cell? ⟨gT + 1,2,none⟩ = some (.slice (some ⟨gt,0,none⟩) n n) := by rw [cell_of_blk hb5]; rfl
  clear hfin hr3 hg3 ha hk2 hk3 hk5 hc1 hk1 hg1 hw5 hgd hTd hr2 hb2 hk35 hc5 hr5 hkw hl1 s1 s2 lr1 lr2 lr3 hp2 hn2 hg2 hF2 hF1 ht5
  go_wp2_with fail
  go_loopg [34] (n + 1) (fun m s wr => ∃ i : Nat, m + i = n + 1 ∧ i <= n ∧ s = .int .i64 i ∧ Arr wr 226 4 n gt (laidP i) ∧ Keeps [gt] w5 wr)
  case atStart => exact ⟨0,by omega,by omega,rfl, ha5, Keeps.refl _ _⟩
  case round =>
    clear ha5 e1
    obtain ⟨i, hk, hin,rfl, ha, kp⟩ := hrel
    have HK := Lib.hid hk
    clear hk
    by_cases hlt : i < n
    · have hlt3 : (i : Int) < (n : Int) := by omega
      have hstep : ∀ w6, Keeps [] wr w6 -> w6.cell? ⟨gT + 1,2,none⟩ = some (.slice (some ⟨gt,0,none⟩) n n) ∧ (∃ v0 v1 v2 v3, w6.cell? ⟨gt, i * 4, none⟩ = some v0 ∧ w6.cell? ⟨gt, i * 4 + 1, none⟩ = some v1 ∧ w6.cell? ⟨gt, i * 4 + 2, none⟩ = some v2 ∧ w6.cell? ⟨gt, i * 4 + 3, none⟩ = some v3) ∧
          (w6.frozen? ⟨gt, i * 4, none⟩ = false ∧ w6.frozen? ⟨gt, i * 4 + 1, none⟩ = false ∧ w6.frozen? ⟨gt, i * 4 + 2, none⟩ = false ∧ w6.frozen? ⟨gt, i * 4 + 3, none⟩ = false) ∧
          Hid (Arr ((((w6.setCell ⟨gt, i * 4, none⟩ (.int .i64 (-1))).setCell ⟨gt, i * 4 + 1, none⟩ (.int .i64 (-1))).setCell ⟨gt, i * 4 + 2, none⟩ (.int .i64 0)).setCell ⟨gt, i * 4 + 3, none⟩ (.bool false)) 226 4 n gt (laidP (i + 1)) ∧
            Keeps [gt] w5 ((((w6.setCell ⟨gt, i * 4, none⟩ (.int .i64 (-1))).setCell ⟨gt, i * 4 + 1, none⟩ (.int .i64 (-1))).setCell ⟨gt, i * 4 + 2, none⟩ (.int .i64 0)).setCell ⟨gt, i * 4 + 3, none⟩ (.bool false))) := fun w6 k6 => by
        have ha6 := ha.keep k6 (by simp)
        have kp6 := kp.trans k6 (by simp)
        have hb := kp6.blk hb5 (by simp; omega)
        have hat : ∀ j, j < 4 -> ∃ v, w6.cell? ⟨gt, i * 4 + j, none⟩ = some v := fun j hj => by
          rw [ha6.cell hlt hj]
          have := ha6.size i hlt
          exact ⟨_, List.getElem?_eq_getElem (by omega)⟩
        obtain ⟨v0, h0⟩ := hat 0 (by decide)
        obtain ⟨v1, h1⟩ := hat 1 (by decide)
        obtain ⟨v2, h2⟩ := hat 2 (by decide)
        obtain ⟨v3, h3⟩ := hat 3 (by decide)
        have h4 := ha6.set4 hlt (.int .i64 (-1)) (.int .i64 (-1)) (.int .i64 0) (.bool false)
        rw [laidP_upd] at h4
        exact ⟨by rw [cell_of_blk hb]; rfl,⟨v0, v1, v2, v3, h0, h1, h2, h3⟩,⟨ha6.frozen _, ha6.frozen _, ha6.frozen _, ha6.frozen _⟩, h4,(((kp6.setCell (.inl (by simp)) _).setCell (.inl (by simp)) _).setCell (.inl (by simp)) _).setCell (.inl (by simp)) _⟩
      obtain ⟨z0, _, _, _⟩ := hstep wr (Keeps.refl _ _)
      have hfr := fresh_calls wr.drew
      have HS := Lib.hid hstep
      clear hstep ha kp
      go_upto_region 9 with fail
      go_region_law (first
        | (go_simp; go_at_call 91; refine hfr.mono ?_; rintro e w6 ⟨rfl, k6⟩; obtain ⟨y0,⟨v0, v1, v2, v3, y1, y2, y3, y4⟩,⟨g0, g1, g2, g3⟩, y5⟩ := HS.out w6 (Keeps.trans (a := wr) (b := wr.drew) ⟨rfl,rfl,rfl, Nat.le_refl _,fun _ _ _ => rfl⟩ k6 (by simp)); clear k6))
      all_goals
        clear z0 y0 y1 y2 y3 y4 g0 g1 g2 g3 hfr HS
        go_wp2_with fail
        go_roundg (gk - 1)
        case measure => have := HK.out; omega
        case rel => exact ⟨i + 1,by have := HK.out; omega,by omega,by go_num, y5.out.1, y5.out.2⟩
    · obtain rfl : i = n := by omega
      have HA := Lib.hid ha
      have HP := Lib.hid kp
      clear ha kp
      go_wp2_with fail
      go_ret2
      exact HF.out _ HA.out HP.out
end Go.Proofs.YtkdbjelhkfdfjaaGreatDoor


/-
  Contracts that the law rests on. Conditions: none.
-/
import Derived.Test.YtkdbjelhkfdfjaaGreatDoorLv21
import Derived.Test.YtkdbjelhkfdfjaaGreatDoorLv23
set_option linter.unusedVariables false
set_option maxRecDepth 100000
set_option maxHeartbeats 32000000
namespace Go.Proofs.YtkdbjelhkfdfjaaGreatDoor
open Go.RowKit
theorem made_fCells (zs : Array Value) (s n : Nat) (hs : zs.size = s) (h0 : 0 < s) : (madeCells zs (n * s)).toList = fCells (fun _ => zs.toList) n := by
  induction n with
  | zero => simp [madeCells, fCells]
  | succ n ih =>
    rw [fCells_succ, <- ih]
    simp only [madeCells, Array.toList_map, Array.toList_range]
    rw [show (n + 1) * s = n * s + s by rw [Nat.succ_mul], List.range_add, List.map_append]
    congr 1
    apply List.ext_getElem (by simp [hs])
    intro j h1 h2
    simp at h1
    have hm : (n * s + j) % s = j := by rw [Nat.mul_comm, Nat.mul_add_mod]; exact Nat.mod_eq_of_lt h1
    simp [hs, hm, h1]
theorem Arr.made {w : World} {T s n g : Nat} {zs : Array Value} (hs : zs.size = s) (h0 : 0 < s) (h : w.ownsRow 0 T s (.slice (some ⟨g,0,none⟩) n n) n (madeCells zs (n * s)).toList) : Arr w T s n g (fun _ => zs.toList) :=
  ⟨by rw [<- made_fCells zs s n hs h0]; exact h,fun _ _ => by simpa using hs⟩
theorem Tryz.infoCell : (Tryz.prog.info? 448).map (fun i => (i.zero, i.size, i.bytes)) = some (some (.agg #[.int .i64 0,.int .i64 0,.int .u64 0]), 3,24) := by kernel_rfl
def NewCells (w : World) (n : Nat) (e : Ending) (w' : World) : Prop :=
  ∃ (F : List Nat) (p : Nat), e = .returned (.tuple #[.pointer (some ⟨p,0,none⟩),.int .i64 0]) ∧ CellsAt w' F p n 0 (fun _ => none) ∧ Keeps [] w w' ∧ ∀ b ∈ F, w.heap.size <= b
theorem cells_new (w : World) (n : Nat) (hn : n <= 65536) : Calls Tryz.prog 87 #[.int .i64 n] w (NewCells w n) := by
  have b1 : decide ((n : Int) < 0) = false := by rw [decide_eq_false_iff_not]; omega
  have b2 : decide (65536 < (n : Int)) = false := by rw [decide_eq_false_iff_not]; omega
  have hmm := @run_makeMap Tryz.prog
  obtain ⟨i0, hi, hz0, hz1, hzb⟩ := info_parts Tryz.infoCell
  go_enter Tryz.func87, Tryz.ntmps87
  go_upto_region 4 with (go_at_call 117; refine (Nm.new_yes _ 65536 (by omega) (by omega)).mono ?_; rintro e w1 ⟨rfl, hn1, hk1, hs1⟩)
  go_wp2_with (at_make; refine wpList_make_full _ rfl _ _ 254 rfl 0 448 i0 (.agg #[.int .i64 0,.int .i64 0,.int .u64 0]) 3 Tryz.underlying254 hi hz0 hz1 .i64 .i64 n n n rfl rfl rfl rfl (by rw [hzb]; omega) (by unfold maxLen; omega) (Nat.zero_le _) ?_; intro w2 hr2 hg2)
  have hk2 : Keeps [] w1 w2 := (Keeps.refl _ _).grown hg2 (fun k h => by cases h)
  have hs2 := hk2.size
  have hg1 : w1.heap.size < w2.heap.size := row_lt hr2
  have ha : Arr w2 448 3 n w1.heap.size (cellV fun _ => none) := Arr.made rfl (by decide) hr2
  have hm : IMap Tryz.prog 3 (w2.alloc (.map #[] 0)) w2.heap.size (full (fun _ => none) n 0) (manyF (fun _ => none) n) := by
    rw [full_none, manyF_none]; exact IMap.made _ _ _
  have hk3 : Keeps [] w2 (w2.alloc (.map #[] 0)) := (Keeps.refl _ _).alloc _
  have hk4 : ∀ o, Keeps [] w2 ((w2.alloc (.map #[] 0)).alloc o) := fun o => hk3.alloc _
  refine bodyPost_ret (results_tmp2 rfl _ _ _) rfl ⟨[w2.heap.size + 1, w1.heap.size, w.heap.size + 1, w.heap.size, w2.heap.size], w2.heap.size + 1,rfl,⟨0, w1.heap.size, w.heap.size + 1, w.heap.size, 1, w2.heap.size,rfl,?_,⟨by omega,by omega,by simp,by simp,by simp⟩,by omega,by omega,?_, ha.keep (hk4 _) (by simp),(hn1.keep hk2 (by simp) (by simp)).keep (hk4 _) (by simp) (by simp), hm.keep ((Keeps.refl [] _).alloc _) (by simp)⟩,?_,?_⟩
  · simp; omega
  · have := blk_alloc_new (w := w2.alloc (.map #[] 0)) (.cells #[.int .i64 0,.slice (some ⟨w.heap.size + 2,0,none⟩) n n,.pointer (some ⟨w.heap.size + 1,0,none⟩),.map (some w2.heap.size)] 258 (0,0))
    rw [hs1]
    simpa using this
  · exact (hk1.trans hk2 (by simp)).trans (hk4 _) (by simp)
  · intro b hb
    simp only [List.mem_cons, List.not_mem_nil, or_false] at hb
    omega
section
variable (w : World) (F : List Nat) (p cap hs : Nat) (E : Ent)
theorem idL_snoc (hs : Nat) : idL (hs + 1) = idL hs ++ [((idL hs).length : Int)] := by
  rw [idL_len]
  unfold idL
  rw [List.range_succ (n := hs + 1), List.map_append]
  simp
def MadeCells (e : Ending) (w' : World) : Prop := ∃ F', e = .returned (.int .i64 ((hs + 1 : Nat) : Int)) ∧ CellsAt w' F' p cap (hs + 1) E ∧ Moved F w F' w'
theorem cells_make (hc : CellsAt w F p cap hs E) (hh : hs < 65536) : Calls Tryz.prog 318 #[.pointer (some ⟨p,0,none⟩)] w (MadeCells w F p cap hs E) := by
  have hlt := hc.lt
  obtain ⟨steps, gs, pn, gn, cn, mb,rfl, hnd, hok, hs0, hs1, hb, ha, hn, hm⟩ := hc
  have c2 : w.cell? ⟨p,2,none⟩ = some (.pointer (some ⟨pn,0,none⟩)) := by rw [cell_of_blk hb]; rfl
  have hl := idL_len hs
  have hmk := Nm.make_yes w pn gn cn (idL hs) 65536 hs hn (by omega) (by omega) (by omega) (by omega) (by omega)
  unfold Nm.MadeOne at hmk
  rw [<- idL_snoc, hl] at hmk
  have hc0 : count E cap (hs + 1) = 0 := count_zero.2 fun x _ ⟨k, e⟩ => by have := hok.heap x _ k e; omega
  have hfin : ∀ w',(∃ g' cap', Nm.NamesAt w' pn g' cap' (idL (hs + 1)) 65536 ((hs : Int) + 1) ∧ Keeps [pn, gn] w w' ∧ (g' = gn ∨ w.heap.size <= g')) -> MadeCells w [p, gs, pn, gn, mb] p cap hs E (.returned (.int .i64 ((hs + 1 : Nat) : Int))) w' := by
    rintro w' ⟨g', cap', n', k', f'⟩
    have hnd0 := hnd
    simp only [List.nodup_cons, List.mem_cons, List.not_mem_nil, or_false, not_or, List.nodup_nil, and_true, not_false_eq_true] at hnd0
    obtain ⟨⟨n1, n2, n3, n4⟩,⟨n5, n6, n7⟩,⟨n8, n9⟩, n10⟩ := hnd0
    have l1 := hlt p (by simp)
    have l2 := hlt gs (by simp)
    have l3 := hlt pn (by simp)
    have l4 := hlt mb (by simp)
    have hg1 : p ≠ g' ∧ gs ≠ g' ∧ g' ≠ mb := by rcases f' with rfl | f' <;> refine ⟨?_,?_,?_⟩ <;> first | assumption | omega
    have hg2 : pn ≠ g' := by rcases f' with rfl | f'; exact n8; omega
    refine ⟨[p, gs, pn, g', mb],rfl,⟨steps, gs, pn, g', cap', mb,rfl,?_,⟨hok.bc,by omega, hok.lt,fun x h k e => by have := hok.heap x h k e; omega, hok.wf⟩, hs0, hs1, k'.blk hb (by simp; exact ⟨n2, n3⟩), ha.keep k' (by simp; exact ⟨n5, n6⟩), n',?_⟩, k'.mono (by simp),?_,?_⟩
    · simp; exact ⟨⟨n1, n2, hg1.1, n4⟩,⟨n5, hg1.2.1, n7⟩,⟨hg2, n9⟩, hg1.2.2⟩
    · have hfu : full E cap (hs + 1) = full E cap hs := by rw [manyF_make, hc0]; simp
      rw [hfu]
      exact hm.keep k' (by simp; exact ⟨fun e => n9 e.symm,fun e => n10 e.symm⟩)
    · intro b hb
      simp only [List.mem_cons, List.not_mem_nil, or_false] at hb ⊢
      rcases hb with rfl | rfl | rfl | rfl | rfl
      · simp
      · simp
      · simp
      · rcases f' with rfl | f'
        · simp
        · exact .inr f'
      · simp
    · intro b hb
      have := k'.size
      simp only [List.mem_cons, List.not_mem_nil, or_false] at hb
      rcases hb with rfl | rfl | rfl | rfl | rfl
      · omega
      · omega
      · omega
      · exact row_lt n'.row
      · omega
  have HF := Lib.hid hfin
  clear hfin hb ha hn hm hok hnd hc0 hl hlt hs0 hs1
  go_enter Tryz.func318, Tryz.ntmps318
  go_wp2_with (go_at_call 328; refine hmk.mono ?_; rintro e w1 ⟨rfl, hm1⟩)
  go_ret
  exact HF.out _ hm1
end
section
variable (w : World) (p g n : Nat) (T : Nat -> TwigR) (U : Nat -> Option Nat)
theorem fo_row (h : ForestAt w p g n T U) (ao : Option Addr) (ca : Nat) (l : List Nat) (hr : Rg.IR 0 w (.slice ao l.length ca) l) (hm : ∀ x ∈ l, x < n) (hc : CRow (fun x => (T x).kids) U l) (hl : l.length <= 65536) :
    Calls Tryz.prog 364 #[.pointer (some ⟨p,0,none⟩),.slice ao l.length ca] w fun e w' => e = .returned (.bool true) ∧ w = w' := by
  have hrt : ∀ x, x < n -> U x = none -> Calls Tryz.prog 363 #[.pointer (some ⟨p,0,none⟩),.int .i64 x] w fun e w' => e = .returned (.bool true) ∧ w = w' := fun x hx hu => by
    have := fo_root w p g n T U h x hx
    rw [hu] at this; exact this
  have hdg : ∀ x m, x < n -> (T x).kids.length = m -> Calls Tryz.prog 367 #[.pointer (some ⟨p,0,none⟩),.int .i64 x] w fun e w' => e = .returned (.int .i64 m) ∧ w = w' := fun x m hx hu => by
    have := fo_degree w p g n T U h x hx
    rw [hu] at this; exact this
  have hat : ∀ i, i < l.length -> ∃ gg x, ao = some ⟨gg,0,none⟩ ∧ w.cell? ⟨gg,i,none⟩ = some (.int .i64 (x : Nat)) ∧ l[i]? = some x := fun i hi => by
    obtain ⟨gg, e, _, _, c⟩ := hr.at i hi
    exact ⟨gg, _, e, c,by simp [Rg.fn, List.getD, hi]⟩
  have hx : ∀ i x, l[i]? = some x -> x < n ∧ U x = none := fun i x e => ⟨hm x (List.mem_of_getElem? e), hc.1 x (List.mem_of_getElem? e)⟩
  have hlt : ∀ i x y, l[i]? = some x -> l[i + 1]? = some y -> (T x).kids.length < (T y).kids.length := fun i x y e1 e2 => by
    obtain ⟨h1, e1⟩ := List.getElem?_eq_some_iff.1 e1
    obtain ⟨h2, e2⟩ := List.getElem?_eq_some_iff.1 e2
    have := List.pairwise_iff_getElem.1 hc.2 i (i + 1) h1 h2 (by omega)
    rw [e1, e2] at this; exact this
  have HAT := Lib.hid hat
  have HX := Lib.hid hx
  have HLT := Lib.hid hlt
  clear hat hx hlt h hr hm hc
  go_enter Tryz.func364, Tryz.ntmps364
  go_wp2_with fail
  go_loopg [9] (l.length + 1) (fun m s wr => ∃ i : Nat, m + i = l.length + 1 ∧ i <= l.length ∧ s = .int .i64 i ∧ wr = w)
  case atStart => exact ⟨0,by omega,by omega,rfl,rfl⟩
  case round =>
    obtain ⟨i, hk, hin,rfl,rfl⟩ := hrel
    have HK := Lib.hid hk
    clear hk
    by_cases hi : i < l.length
    · obtain ⟨gg, x, hao, d1, hxl⟩ := HAT.out i hi
      subst hao
      obtain ⟨hxn, hxu⟩ := HX.out i x hxl
      have hi3 : (i : Int) < (l.length : Int) := by omega
      by_cases h0 : i = 0
      · subst h0
        have HXL := Lib.hid hxl
        clear hxl
        go_wp2_with (go_at_call 363; refine (hrt _ (by assumption) (by assumption)).mono ?_; rintro e w' ⟨rfl,rfl⟩)
        go_roundg (gk - 1)
        case measure => have := HK.out; omega
        case rel => exact ⟨1,by have := HK.out; omega,by omega,by go_num,rfl⟩
      · obtain ⟨j,rfl⟩ : ∃ j, i = j + 1 := ⟨i - 1,by omega⟩
        obtain ⟨gg', y, e, d2, hyl⟩ := HAT.out j (by omega)
        cases e
        obtain ⟨hyn, hyu⟩ := HX.out j y hyl
        have hd := HLT.out j y x hyl hxl
        obtain ⟨dx, hdx⟩ : ∃ d,(T x).kids.length = d := ⟨_,rfl⟩
        obtain ⟨dy, hdy⟩ : ∃ d,(T y).kids.length = d := ⟨_,rfl⟩
        rw [hdx, hdy] at hd
        have hd3 : ¬ (dx : Int) <= (dy : Int) := by omega
        have hd4 : decide (dx <= dy) = false := by rw [decide_eq_false_iff_not]; omega
        have h03 : (0 : Int) < ((j + 1 : Nat) : Int) := by omega
        have hj3 : ((j + 1 : Nat) : Int) - 1 = (j : Int) := by omega
        have hj4 : (j : Int) < (l.length : Int) := by omega
        have hdgx := hdg x dx hxn hdx
        have hdgy := hdg y dy hyn hdy
        have hrtx := hrt x hxn hxu
        have HXL := Lib.hid hxl
        have HYL := Lib.hid hyl
        clear hxl hyl hdg hrt hdx hdy hxu hyu
        have hne : x ≠ y := by rintro rfl; have := HLT.out j x x HYL.out HXL.out; omega
        go_wp2_with (first
          | (go_at_call 363; refine hrtx.mono ?_; rintro e w' ⟨rfl,rfl⟩)
          | (go_at_call 367; with_reducible refine Calls.mono hdgy ?_; rintro e w' ⟨rfl,rfl⟩)
          | (go_at_call 367; with_reducible refine Calls.mono hdgx ?_; rintro e w' ⟨rfl,rfl⟩))
        go_roundg (gk - 1)
        case measure => have := HK.out; omega
        case rel => exact ⟨j + 2,by have := HK.out; omega,by omega,by go_num,rfl⟩
    · obtain rfl : i = l.length := by omega
      go_wp2_with fail
      go_ret
      exact ⟨rfl,rfl⟩
end
theorem Tryz.infoNode : (Tryz.prog.info? 265).map (fun i => (i.zero, i.size, i.bytes)) = some (some (.agg #[.slice none 0 0,.int .i64 0]), 2,32) := by kernel_rfl
def laidN (i j : Nat) : List Value := if j < i then [.slice none 0 0,.int .i64 (-1)] else [.slice none 0 0,.int .i64 0]
theorem laidN_upd (i : Nat) : upd (laidN i) i ((laidN i i).set 1 (.int .i64 (-1))) = laidN (i + 1) := by
  funext j
  by_cases e : j = i
  · subst e; rw [upd_same]; simp [laidN]
  · rw [upd_other _ _ e]
    unfold laidN
    by_cases c : j < i
    · rw [if_pos c, if_pos (by omega)]
    · rw [if_neg c, if_neg (by omega)]
def ForestNew (w : World) (n : Nat) (e : Ending) (w' : World) : Prop :=
  ∃ p g, e = .returned (.tuple #[.pointer (some ⟨p,0,none⟩),.int .i64 0]) ∧ ForestAt w' p g n (fun _ => ⟨none, 0, []⟩) (fun _ => none) ∧ Keeps [] w w' ∧ w.heap.size <= p ∧ w.heap.size <= g
theorem fo_new (w : World) (n : Nat) (hn : n <= 65536) : Calls Tryz.prog 89 #[.int .i64 n] w (ForestNew w n) := by
  have b1 : decide ((n : Int) < 0) = false := by rw [decide_eq_false_iff_not]; omega
  have b2 : decide (65536 < (n : Int)) = false := by rw [decide_eq_false_iff_not]; omega
  obtain ⟨i0, hi, hz0, hz1, hzb⟩ := info_parts Tryz.infoNode
  go_enter Tryz.func89, Tryz.ntmps89
  go_upto_region 4 with (at_make; refine wpList_make_full _ rfl _ _ 261 rfl 0 265 i0 (.agg #[.slice none 0 0,.int .i64 0]) 2 Tryz.underlying261 hi hz0 hz1 .i64 .i64 n n n rfl rfl rfl rfl (by rw [hzb]; omega) (by unfold maxLen; omega) (Nat.zero_le _) ?_; intro w2 hr2 hg2)
  have hk2 : Keeps [] w w2 := (Keeps.refl _ _).grown hg2 (fun k h => by cases h)
  have hg1 : w.heap.size < w2.heap.size := row_lt hr2
  have ha : Arr w2 265 2 n w.heap.size (laidN 0) := (Arr.made rfl (by decide) hr2).congr (fun i _ => by simp [laidN]; rfl)
  have hblk : (w2.alloc (.cells #[.slice (some ⟨w.heap.size,0,none⟩) n n] 263 (0,0))).heap[w2.heap.size]? = some (.cells #[.slice (some ⟨w.heap.size,0,none⟩) n n] 263 (0,0)) := blk_alloc_new _
  have hk3 : Keeps [] w (w2.alloc (.cells #[.slice (some ⟨w.heap.size,0,none⟩) n n] 263 (0,0))) := hk2.alloc _
  have ha3 := ha.alloc (.cells #[.slice (some ⟨w.heap.size,0,none⟩) n n] 263 (0,0))
  have hp := hk2.size
  obtain ⟨g, hgd⟩ : ∃ g, w.heap.size = g := ⟨_,rfl⟩
  obtain ⟨p, hpd⟩ : ∃ p, w2.heap.size = p := ⟨_,rfl⟩
  rw [hgd, hpd] at hblk
  rw [hgd] at ha3 hk3
  rw [hgd, hpd]
  generalize w2.alloc (.cells #[.slice (some ⟨g,0,none⟩) n n] 263 (0,0)) = w3 at *
  have e0 : w3.cell? ⟨p,0,none⟩ = some (.slice (some ⟨g,0,none⟩) n n) := by rw [cell_of_blk hblk]; rfl
  have hgp : g < p := by omega
  have hgB : w.heap.size <= g := by omega
  have hpB : w.heap.size <= p := by omega
  clear ha hr2 hg2 hk2 hgd hpd hg1 hp
  go_wp2_with fail
  go_loopg [21] (n + 1) (fun m s wr => ∃ i : Nat, m + i = n + 1 ∧ i <= n ∧ s = .int .i64 i ∧ Arr wr 265 2 n g (laidN i) ∧ wr.heap[p]? = some (.cells #[.slice (some ⟨g,0,none⟩) n n] 263 (0,0)) ∧ Keeps [] w wr)
  case atStart => exact ⟨0,by omega,by omega,rfl, ha3, hblk, hk3⟩
  case round =>
    clear ha3 hblk hk3 e0
    obtain ⟨i, hk, hin,rfl, ha, hb, kp⟩ := hrel
    have HK := Lib.hid hk
    clear hk
    have e0 : wr.cell? ⟨p,0,none⟩ = some (.slice (some ⟨g,0,none⟩) n n) := by rw [cell_of_blk hb]; rfl
    by_cases hlt : i < n
    · have hlt3 : (i : Int) < (n : Int) := by omega
      have f1 := ha.frozen (i * 2 + 1)
      have d1 := ha.cell hlt (j := 1) (by omega)
      simp only [laidN, Nat.lt_irrefl, if_false, List.getElem?_cons_zero, List.getElem?_cons_succ] at d1
      have h3 := ha.set hlt (j := 1) (by decide) (.int .i64 (-1))
      rw [laidN_upd] at h3
      have k3 : Keeps [] w (wr.setCell ⟨g, i * 2 + 1, none⟩ (.int .i64 (-1))) := kp.setCell (.inr hgB) _
      have hb3 : (wr.setCell ⟨g, i * 2 + 1, none⟩ (.int .i64 (-1))).heap[p]? = some (.cells #[.slice (some ⟨g,0,none⟩) n n] 263 (0,0)) := by
        rw [blk_setCell_ne _ (by simp; omega)]; exact hb
      clear ha hb kp
      go_wp2_with fail
      go_roundg (gk - 1)
      case measure => have := HK.out; omega
      case rel => exact ⟨i + 1,by have := HK.out; omega,by omega,by go_num, h3, hb3, k3⟩
    · obtain rfl : i = n := by omega
      go_wp2_with fail
      go_ret2
      refine ⟨p, g,rfl,⟨hb, ha.congr (fun j hj => by simp [laidN, twigV, oZ, hj]),fun x hx => Rg.IR.nil _ _,by omega,fun x hx a e => (by cases e),fun x y _ _ _ a b e => (by cases e), hn,fun x hx => ⟨by simp,by simp,by simp⟩⟩, kp, hpB, hgB⟩
def pf (r : RowR) : List Nat := pfp r.p r.ao
structure ShedP (w : World) (p pc gr rc ga : Nat) (Fc : List Nat) (cap hs : Nat) (E : Ent) (R : Nat -> RowR) (f : Nat -> Int) : Prop where
  blk : w.heap[p]? = some (.cells #[.pointer (some ⟨pc,0,none⟩),.slice (some ⟨gr,0,none⟩) (hs + 1) rc,.slice (some ⟨ga,0,none⟩) cap cap] 238 (0,0))
  ce : CellsAt w Fc pc cap hs E
  rows : w.ownsRow 0 478 1 (.slice (some ⟨gr,0,none⟩) (hs + 1) rc) (hs + 1) (rowsV (fun i => (R i).p) (hs + 1))
  ar : Arr w 3 1 cap ga (numV f)
  ne : p ≠ gr ∧ p ≠ ga ∧ gr ≠ ga ∧ p ∉ Fc ∧ gr ∉ Fc ∧ ga ∉ Fc
  own : ∀ g, 1 <= g -> g <= hs -> ∀ b ∈ pf (R g), b ≠ p ∧ b ≠ gr ∧ b ≠ ga ∧ b ∉ Fc
  dis : ∀ g g', 1 <= g -> g <= hs -> 1 <= g' -> g' <= hs -> g ≠ g' -> ∀ b ∈ pf (R g), b ∉ pf (R g')
  mem : ∀ g, 1 <= g -> g <= hs -> PileOk w p pc ga (R g).p (R g).ao (R g).ca (.slice (some ⟨gr,0,none⟩) (hs + 1) rc) Fc cap hs E (R g).n (R g).v f
  ok : ∀ g, 1 <= g -> g <= hs -> RowOk E 2 g (R g)
def ShedAt (w : World) (F : List Nat) (p cap hs : Nat) (E : Ent) : Prop :=
  ∃ (pc gr rc ga : Nat) (Fc : List Nat) (R : Nat -> RowR) (f : Nat -> Int), F = nestF p gr (ga :: Fc) hs (fun g => pf (R g)) ∧ ShedP w p pc gr rc ga Fc cap hs E R f
section
variable {w w' : World} {p pc gr rc ga cap hs : Nat} {F Fc S : List Nat} {E E' : Ent} {R : Nat -> RowR} {f f' : Nat -> Int}
theorem ShedP.lt (h : ShedP w p pc gr rc ga Fc cap hs E R f) : ∀ b ∈ nestF p gr (ga :: Fc) hs (fun g => pf (R g)), b < w.heap.size := by
  intro b hb
  rcases nestF_mem.1 hb with rfl | rfl | c | ⟨i, h1, h2, c⟩
  · exact lt_of_block h.blk
  · exact row_lt h.rows
  · rcases List.mem_cons.1 c with rfl | c
    · exact h.ar.lt
    · exact h.ce.lt b c
  · exact (h.mem i h1 h2).below b (by simp only [List.mem_cons, List.mem_append]; exact .inr (.inr (.inl c)))
theorem ShedP.keep (h : ShedP w p pc gr rc ga Fc cap hs E R f) (k : Keeps S w w') (hS : ∀ b ∈ nestF p gr (ga :: Fc) hs (fun g => pf (R g)), b ∉ S) : ShedP w' p pc gr rc ga Fc cap hs E R f :=
  ⟨k.blk h.blk (hS p (nestF_mem.2 (.inl rfl))), h.ce.keep k (fun b hb => hS b (nestF_mem.2 (.inr (.inr (.inl (by simp [hb])))))), k.row h.rows (hS gr (nestF_mem.2 (.inr (.inl rfl)))), h.ar.keep k (hS ga (nestF_mem.2 (.inr (.inr (.inl (by simp)))))), h.ne, h.own, h.dis,
    fun g h1 h2 => (h.mem g h1 h2).keep k (fun b hb => hS b (nestF_mem.2 (by
      simp only [List.mem_cons, List.mem_append] at hb ⊢
      rcases hb with e | e | e | e
      · exact .inl e
      · exact .inr (.inr (.inl (.inl e)))
      · exact .inr (.inr (.inr ⟨g, h1, h2, e⟩))
      · exact .inr (.inr (.inl (.inr e)))))), h.ok⟩
theorem ShedAt.lt (h : ShedAt w F p cap hs E) : ∀ b ∈ F, b < w.heap.size := by obtain ⟨pc, gr, rc, ga, Fc, R, f,rfl, h⟩ := h; exact h.lt
theorem ShedAt.mem (h : ShedAt w F p cap hs E) : p ∈ F := by obtain ⟨pc, gr, rc, ga, Fc, R, f,rfl, h⟩ := h; exact nestF_mem.2 (.inl rfl)
theorem ShedAt.keep (h : ShedAt w F p cap hs E) (k : Keeps S w w') (hS : ∀ b ∈ F, b ∉ S) : ShedAt w' F p cap hs E := by
  obtain ⟨pc, gr, rc, ga, Fc, R, f,rfl, h⟩ := h
  exact ⟨pc, gr, rc, ga, Fc, R, f,rfl, h.keep k hS⟩
theorem ShedAt.ok (h : ShedAt w F p cap hs E) : EntOk E cap hs := by obtain ⟨pc, gr, rc, ga, Fc, R, f,rfl, h⟩ := h; exact h.ce.ok
theorem ShedP.c0 (h : ShedP w p pc gr rc ga Fc cap hs E R f) : w.cell? ⟨p,0,none⟩ = some (.pointer (some ⟨pc,0,none⟩)) := by rw [cell_of_blk h.blk]; rfl
theorem ShedP.c1 (h : ShedP w p pc gr rc ga Fc cap hs E R f) : w.cell? ⟨p,1,none⟩ = some (.slice (some ⟨gr,0,none⟩) (hs + 1) rc) := by rw [cell_of_blk h.blk]; rfl
theorem ShedP.c2 (h : ShedP w p pc gr rc ga Fc cap hs E R f) : w.cell? ⟨p,2,none⟩ = some (.slice (some ⟨ga,0,none⟩) cap cap) := by rw [cell_of_blk h.blk]; rfl
theorem ShedP.row (h : ShedP w p pc gr rc ga Fc cap hs E R f) {g : Nat} (h1 : 1 <= g) (h2 : g <= hs) : w.cell? ⟨gr,g,none⟩ = some (.pointer (some ⟨(R g).p,0,none⟩)) := by
  rw [h.rows.cellAt g (by omega)]
  exact rowsV_at _ _ _ h1 (by omega)
theorem ShedP.isSome (h : ShedP w p pc gr rc ga Fc cap hs E R f) {g : Nat} (h1 : 1 <= g) (h2 : g <= hs) : ∀ j, j < (R g).n -> (E ((R g).v j)).isSome := fun j hj => (((h.ok g h1 h2).mem _).2 ⟨j, hj,rfl⟩).some
theorem ShedP.change (h : ShedP w p pc gr rc ga Fc cap hs E R f) {g : Nat} (h1 : 1 <= g) (h2 : g <= hs) {r : RowR} (k : Keeps (ga :: (pf (R g) ++ Fc)) w w') (hp : r.p = (R g).p) (hf : ∀ b ∈ pf r, b ∈ pf (R g) ∨ w.heap.size <= b)
    (hr : PileOk w' p pc ga r.p r.ao r.ca (.slice (some ⟨gr,0,none⟩) (hs + 1) rc) Fc cap hs E' r.n r.v f') (ho : RowOk E' 2 g r) (hoth : ∀ g', 1 <= g' -> g' <= hs -> g' ≠ g -> RowOk E' 2 g' (R g'))
    (hff : ∀ g', 1 <= g' -> g' <= hs -> g' ≠ g -> ∀ j, j < (R g').n -> f' ((R g').v j) = f ((R g').v j)) :
    ShedP w' p pc gr rc ga Fc cap hs E' (upd R g r) f' ∧ Moved (nestF p gr (ga :: Fc) hs (fun g => pf (R g))) w (nestF p gr (ga :: Fc) hs (fun g' => pf (upd R g r g'))) w' := by
  have hlt := h.lt
  obtain ⟨n1, n2, n3, n4, n5, n6⟩ := h.ne
  have hnot : ∀ b, b ≠ ga -> b ∉ pf (R g) -> b ∉ Fc -> b ∉ ga :: (pf (R g) ++ Fc) := fun b z a c e => by
    simp only [List.mem_cons, List.mem_append] at e
    rcases e with e | e | e
    · exact z e
    · exact a e
    · exact c e
  have hpg : p ∉ pf (R g) := fun e => (h.own g h1 h2 p e).1 rfl
  have hgg : gr ∉ pf (R g) := fun e => (h.own g h1 h2 gr e).2.1 rfl
  have hD : ShedP w' p pc gr rc ga Fc cap hs E' (upd R g r) f' := by
    refine ⟨k.blk h.blk (hnot p n2 hpg n4), hr.ce,?_, hr.ar, h.ne,?_,?_,?_,?_⟩
    · have := k.row h.rows (hnot gr n3 hgg n5)
      rw [rowsV_congr (r := fun i => (R i).p) (r' := fun i => (upd R g r i).p)]
      · exact this
      · intro i a b
        by_cases c : i = g
        · subst c; simp only [upd_same]; exact hp
        · simp only [upd_other R r c]
    · intro g' a b x hx
      by_cases c : g' = g
      · subst c
        rw [upd_same] at hx
        rcases hf x hx with e | e
        · exact h.own g' a b x e
        · have l1 := hlt p (nestF_mem.2 (.inl rfl))
          have l2 := hlt gr (nestF_mem.2 (.inr (.inl rfl)))
          have l3 := h.ar.lt
          exact ⟨by omega,by omega,by omega,fun e2 => by have := h.ce.lt x e2; omega⟩
      · rw [upd_other R r c] at hx; exact h.own g' a b x hx
    · intro g1 g2 a1 a2 b1 b2 hne x hx hx2
      by_cases c1 : g1 = g
      · subst c1
        rw [upd_same] at hx
        rw [upd_other R r (fun e => hne e.symm)] at hx2
        rcases hf x hx with e | e
        · exact h.dis g1 g2 a1 a2 b1 b2 hne x e hx2
        · have := hlt x (nestF_mem.2 (.inr (.inr (.inr ⟨g2, b1, b2, hx2⟩)))); omega
      · rw [upd_other R r c1] at hx
        by_cases c2 : g2 = g
        · subst c2
          rw [upd_same] at hx2
          rcases hf x hx2 with e | e
          · exact h.dis g1 g2 a1 a2 b1 b2 hne x hx e
          · have := hlt x (nestF_mem.2 (.inr (.inr (.inr ⟨g1, a1, a2, hx⟩)))); omega
        · rw [upd_other R r c2] at hx2
          exact h.dis g1 g2 a1 a2 b1 b2 hne x hx hx2
    · intro g' a b
      by_cases c : g' = g
      · subst c; rw [upd_same]; exact hr
      · rw [upd_other R r c]
        have hm := h.mem g' a b
        obtain ⟨Lm, l1, l2, l3⟩ := hm.row
        have hno : ∀ x ∈ pf (R g'), x ∉ ga :: (pf (R g) ++ Fc) := fun x hx => by
          obtain ⟨q1, q2, q3, q4⟩ := h.own g' a b x hx
          exact hnot x q3 (fun e => h.dis g' g a b h1 h2 c x hx e) q4
        exact ⟨hr.bp, k.blk hm.bq (hno _ (by simp [pf, pfp])), hr.ce, hr.ar,⟨Lm, l1, ir_keep l2 k (fun x e => hno _ (by simp [pf, pfp, e])), l3⟩, hm.ne, hm.na,fun j hj => (hff g' a b c j hj).trans (hm.pos j hj), hm.lt, hm.inj⟩
    · intro g' a b
      by_cases c : g' = g
      · subst c; rw [upd_same]; exact ho
      · rw [upd_other R r c]; exact hoth g' a b c
  refine ⟨hD, k.mono (fun b hb => .inl (nestF_mem.2 ?_)),fun b hb => ?_, hD.lt⟩
  · simp only [List.mem_cons, List.mem_append] at hb ⊢
    rcases hb with e | e | e
    · exact .inr (.inr (.inl (.inl e)))
    · exact .inr (.inr (.inr ⟨g, h1, h2, e⟩))
    · exact .inr (.inr (.inl (.inr e)))
  · rcases nestF_mem.1 hb with e | e | e | ⟨g', a1, a2, e⟩
    · exact .inl (nestF_mem.2 (.inl e))
    · exact .inl (nestF_mem.2 (.inr (.inl e)))
    · exact .inl (nestF_mem.2 (.inr (.inr (.inl e))))
    · by_cases c : g' = g
      · subst c
        rw [upd_same] at e
        rcases hf b e with q | q
        · exact .inl (nestF_mem.2 (.inr (.inr (.inr ⟨g', a1, a2, q⟩))))
        · exact .inr q
      · rw [upd_other R r c] at e
        exact .inl (nestF_mem.2 (.inr (.inr (.inr ⟨g', a1, a2, e⟩))))
end
section
variable (w : World) (F : List Nat) (p cap hs : Nat) (E : Ent)
theorem shed_min_yes (c : ShedAt w F p cap hs E) (h : Nat) (h1 : 1 <= h) (h2 : h <= hs) (hi : ∃ y, isIn E h y) :
    Calls Tryz.prog 439 #[.pointer (some ⟨p,0,none⟩),.int .i64 h] w fun e w' => (∃ x : Nat, e = .returned (.tuple #[.int .i64 x,.bool true]) ∧ least E h x) ∧ w = w' := by
  obtain ⟨pc, gr, rc, ga, Fc, R, f,rfl, m⟩ := c
  have hlen := cells_len w Fc pc cap hs E m.ce h (by have := m.ce.ok.bh; omega)
  obtain ⟨cn, hcn⟩ : ∃ cn, count E cap h = cn + 1 := by
    have := count_some (h := h) m.ce.ok hi
    exact ⟨count E cap h - 1,by omega⟩
  rw [hcn] at hlen
  have c0 := m.c0
  have c1 := m.c1
  have c3 := m.row h1 h2
  have hok := m.ok h h1 h2
  have hm := m.mem h h1 h2
  have hn : 0 < (R h).n := by
    obtain ⟨y, hy⟩ := hi
    obtain ⟨j, hj, _⟩ := (hok.mem y).1 hy
    omega
  obtain ⟨g, hao, _, _, _, _, _, d1, _⟩ := hm.at hn
  have d0 := hm.q1
  rw [hao] at d0
  have hord : Ord (ahead E) (R h).v (R h).n := ordOf hok.inj (m.isSome h1 h2)
  have hl := hok.heap.least (by decide) hord hn hok.mem
  have HL := Lib.hid hl
  have hhs3 : (h : Int) < ((hs + 1 : Nat) : Int) := by omega
  have hhs4 : (h : Int) < (hs : Int) + 1 := by omega
  have b0 : (((cn + 1 : Nat) : Int) == 0) = false := by rw [beq_eq_false_iff_ne]; omega
  have hn3 : (0 : Int) < ((R h).n : Int) := by omega
  clear hl hok hm hord m hi hao hcn
  go_enter Tryz.func439, Tryz.ntmps439
  go_wp2_with (go_at_call 304; refine hlen.mono ?_; rintro e w' ⟨rfl,rfl⟩)
  go_ret2
  exact ⟨⟨_,rfl, HL.out⟩,rfl⟩
theorem shed_min_no (c : ShedAt w F p cap hs E) (h : Nat) (h1 : 1 <= h) (h2 : h <= hs) (hi : ∀ y, ¬ isIn E h y) :
    Calls Tryz.prog 439 #[.pointer (some ⟨p,0,none⟩),.int .i64 h] w fun e w' => e = .returned (.tuple #[.int .i64 0,.bool false]) ∧ w = w' := by
  obtain ⟨pc, gr, rc, ga, Fc, R, f,rfl, m⟩ := c
  have hlen := cells_len w Fc pc cap hs E m.ce h (by have := m.ce.ok.bh; omega)
  rw [count_no hi] at hlen
  have c0 := m.c0
  clear m hi
  go_enter Tryz.func439, Tryz.ntmps439
  go_wp2_with (go_at_call 304; refine hlen.mono ?_; rintro e w' ⟨rfl,rfl⟩)
  go_ret2
  exact ⟨rfl,rfl⟩
end
end Go.Proofs.YtkdbjelhkfdfjaaGreatDoor


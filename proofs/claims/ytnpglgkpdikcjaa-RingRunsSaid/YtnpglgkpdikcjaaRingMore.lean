/-
  The contracts of package ring, the rest: Part, New, Same; and all of them once more, with the rings that there are.
-/
import Derived.Test.YtnpglgkpdikcjaaRing
namespace Go.Proofs.Ytnpglgkpdikcjaa
open Go.RowKit
set_option linter.unusedVariables false

theorem splice_no (w : World) (p gn gp : Nat) (N P : List Nat) (h : RingAt w p gn gp N P) (x y : Int) (hx : (x < 0 ∨ (N.length : Int) ≤ x) ∨ (y < 0 ∨ (N.length : Int) ≤ y)) :
    Calls Try.prog 10 #[.pointer (some ⟨p, 0, none⟩), .int .i64 x, .int .i64 y] w fun e w' => e = .returned (.bool false) ∧ w = w' := by
  by_cases h1 : x < 0 ∨ (N.length : Int) ≤ x
  · go_enter Try.func10, Try.ntmps10
    go_wp2_with (go_at_call 18; refine (has_no w p gn gp N P h x h1).mono ?_; rintro e w' ⟨rfl, rfl⟩)
    go_ret
    exact ⟨rfl, rfl⟩
  · have h2 : y < 0 ∨ (N.length : Int) ≤ y := by omega
    obtain ⟨i, rfl⟩ := Int.eq_ofNat_of_zero_le (show 0 ≤ x by omega)
    have h3 : i < N.length := by omega
    clear hx h1
    go_enter Try.func10, Try.ntmps10
    go_wp2_with fail
    refine (has_yes w p gn gp N P h i h3).mono ?_
    rintro e w' ⟨rfl, rfl⟩
    go_wp2_with fail
    refine (has_no w p gn gp N P h y h2).mono ?_
    rintro e w' ⟨rfl, rfl⟩
    go_wp2
    go_ret
    exact ⟨rfl, rfl⟩

theorem part_no (w : World) (p gn gp : Nat) (N P : List Nat) (h : RingAt w p gn gp N P) (x : Int) (hx : x < 0 ∨ (N.length : Int) ≤ x) :
    Calls Try.prog 9 #[.pointer (some ⟨p, 0, none⟩), .int .i64 x] w fun e w' => e = .returned (.bool false) ∧ w = w' := by
  go_enter Try.func9, Try.ntmps9
  go_wp2_with (go_at_call 18; refine (has_no w p gn gp N P h x hx).mono ?_; rintro e w' ⟨rfl, rfl⟩)
  go_ret
  exact ⟨rfl, rfl⟩

theorem part_yes (w : World) (p gn gp : Nat) (N P : List Nat) (h : RingAt w p gn gp N P) (hN : N.length < 70000) (x : Nat) (hx : x < N.length) (hy : fn P x < N.length) (ha : fn N x < N.length) (hb : fn N (fn P x) < N.length) (hne : x ≠ fn P x → fn N x ≠ fn N (fn P x)) :
    Calls Try.prog 9 #[.pointer (some ⟨p, 0, none⟩), .int .i64 x] w fun e w' => e = .returned (.bool true) ∧ Left w p gn gp (nextS N x (fn P x)) (prevS N P x (fn P x)) w' := by
  obtain ⟨_, c1⟩ := h.head
  obtain ⟨d0, _⟩ := h.q x hx
  go_enter Try.func9, Try.ntmps9
  go_wp2_with fail
  refine (has_yes w p gn gp N P h x hx).mono ?_
  rintro e w' ⟨rfl, rfl⟩
  go_wp2_with fail
  refine (splice_yes w p gn gp N P h hN x (fn P x) hx hy ha hb hne).mono ?_
  rintro e w' ⟨rfl, hl⟩
  go_wp2
  go_ret
  exact ⟨rfl, hl⟩

/-- The first i are laid. -/
def laid (n i : Nat) : List Nat := (List.range n).map fun j => if j < i then j else 0

theorem laid_len (n i : Nat) : (laid n i).length = n := by simp [laid]
theorem laid_at (n i j : Nat) (hj : j < n) : fn (laid n i) j = if j < i then j else 0 := by simp [laid, fn, List.getD, hj]
theorem laid_zero (n : Nat) : laid n 0 = List.replicate n 0 := by
  apply List.ext_getElem (by simp [laid])
  intro j h1 h2
  simp [laid]
theorem laid_all (n : Nat) : laid n n = List.range n := by
  apply List.ext_getElem (by simp [laid])
  intro j h1 h2
  simp at h2
  simp [laid, h2]
theorem laid_set (n i : Nat) : (laid n i).set i i = laid n (i + 1) := by
  apply List.ext_getElem (by simp [laid])
  intro j h1 h2
  rw [List.getElem_set]
  simp only [laid, List.getElem_map, List.getElem_range]
  by_cases e : i = j
  · subst e; simp
  · have : (j < i + 1) = (j < i) := by rw [eq_iff_iff]; omega
    simp only [if_neg e, this]

theorem made_row (w : World) (n : Nat) (hn : n ≤ 65536) : (w.alloc (.cells (madeCells #[.int .i64 0] n) 3)).ownsRow 0 3 1 (.slice (some ⟨w.heap.size, 0, none⟩) n n) n (nCells (List.replicate n 0)) := by
  refine ⟨by simp [nCells], .inr ⟨w.heap.size, n, madeCells #[.int .i64 0] n, rfl, Nat.zero_le _, blk_alloc_new _, Nat.le_refl _, by unfold maxLen; omega, by simp [size_madeCells], ?_⟩⟩
  apply List.ext_getElem (by simp [nCells, size_madeCells])
  intro j h1 h2
  simp [madeCells, nCells, Nat.mod_one]

theorem init_at (w : World) (n : Nat) (hn : n ≤ 65536) (a b : Nat) (hab : a = w.heap.size ∧ b = w.heap.size + 1 ∨ a = w.heap.size + 1 ∧ b = w.heap.size) :
    RingAt (((w.alloc (.cells (madeCells #[.int .i64 0] n) 3)).alloc (.cells (madeCells #[.int .i64 0] n) 3)).alloc (.cells #[.slice (some ⟨a, 0, none⟩) n n, .slice (some ⟨b, 0, none⟩) n n] 46)).drew (w.heap.size + 1 + 1) a b (laid n 0) (laid n 0) := by
  have r1 := made_row w n hn
  have r2 := made_row (w.alloc (.cells (madeCells #[.int .i64 0] n) 3)) n hn
  have s1 := (r1.alloc (.cells (madeCells #[.int .i64 0] n) 3)).alloc (.cells #[.slice (some ⟨a, 0, none⟩) n n, .slice (some ⟨b, 0, none⟩) n n] 46)
  have s2 := r2.alloc (.cells #[.slice (some ⟨a, 0, none⟩) n n, .slice (some ⟨b, 0, none⟩) n n] 46)
  have s2 : (((w.alloc (.cells (madeCells #[.int .i64 0] n) 3)).alloc (.cells (madeCells #[.int .i64 0] n) 3)).alloc (.cells #[.slice (some ⟨a, 0, none⟩) n n, .slice (some ⟨b, 0, none⟩) n n] 46)).ownsRow 0 3 1 (.slice (some ⟨w.heap.size + 1, 0, none⟩) n n) n (nCells (List.replicate n 0)) := by simpa using s2
  rw [← laid_zero] at s1 s2
  have hl := laid_len n 0
  have hb := blk_alloc_new (w := ((w.alloc (.cells (madeCells #[.int .i64 0] n) 3)).alloc (.cells (madeCells #[.int .i64 0] n) 3))) (.cells #[.slice (some ⟨a, 0, none⟩) n n, .slice (some ⟨b, 0, none⟩) n n] 46)
  have h0 : RingAt (((w.alloc (.cells (madeCells #[.int .i64 0] n) 3)).alloc (.cells (madeCells #[.int .i64 0] n) 3)).alloc (.cells #[.slice (some ⟨a, 0, none⟩) n n, .slice (some ⟨b, 0, none⟩) n n] 46)) (w.heap.size + 1 + 1) a b (laid n 0) (laid n 0) := by
    rcases hab with ⟨rfl, rfl⟩ | ⟨rfl, rfl⟩
    · exact ⟨by rw [hl]; simpa using hb, by rw [hl]; exact s1, by rw [hl]; exact s2, by omega, rfl⟩
    · exact ⟨by rw [hl]; simpa using hb, by rw [hl]; exact s2, by rw [hl]; exact s1, by omega, rfl⟩
  exact h0.like rfl

theorem init_below (w : World) (o1 o2 o3 : Obj) : Below w.heap.size w (((w.alloc o1).alloc o2).alloc o3).drew :=
  ((((Below.refl _ w).alloc (Nat.le_refl _) _).alloc (by simp) _).alloc (by simp; omega) _).drew

def NewDone (w : World) (n : Nat) (e : Ending) (w' : World) : Prop :=
  ∃ p gn gp, e = .returned (.tuple #[.pointer (some ⟨p, 0, none⟩), .int .i64 0]) ∧ RingAt w' p gn gp (List.range n) (List.range n) ∧ Below w.heap.size w w' ∧ w.heap.size ≤ p ∧ w.heap.size ≤ gn ∧ w.heap.size ≤ gp

set_option maxHeartbeats 2000000 in
theorem new_yes (w : World) (n : Nat) (hn : n ≤ 65536) :
    Calls Try.prog 8 #[.int .i64 n] w (NewDone w n) := by
  have hm := fun (u : World) => run_make_row' (P := Try.prog) 33 3 (.int .i64 0) 8 Try.underlying33 Try.infoInt rfl .i64 .i64 n (by omega) (by omega) u
  have b1 : decide ((n : Int) < 0) = false := by rw [decide_eq_false_iff_not]; omega
  have b2 : decide (65536 < (n : Int)) = false := by rw [decide_eq_false_iff_not]; omega
  go_enter Try.func8, Try.ntmps8
  go_wp2_with fail
  go_region
  all_goals
    go_wp2_with fail
    go_loopg [19] (n + 1) (fun m s wr => ∃ i gn gp : Nat, i ≤ n ∧ m + i = n + 1 ∧ s = .int .i64 i ∧ RingAt wr (w.heap.size + 1 + 1) gn gp (laid n i) (laid n i) ∧ Below w.heap.size w wr ∧ w.heap.size ≤ gn ∧ w.heap.size ≤ gp)
    case atStart => first
      | exact ⟨0, _, _, by omega, by omega, rfl, init_at w n hn w.heap.size (w.heap.size + 1) (.inl ⟨rfl, rfl⟩), init_below _ _ _ _, by omega, by omega⟩
      | exact ⟨0, _, _, by omega, by omega, rfl, init_at w n hn (w.heap.size + 1) w.heap.size (.inr ⟨rfl, rfl⟩), init_below _ _ _ _, by omega, by omega⟩
    case round =>
      clear hm
      obtain ⟨i, gn, gp, hi, hgk, rfl, hr, hbel, b3, b4⟩ := hrel
      have HG := Lib.hid hgk
      clear hgk
      have hl := laid_len n i
      by_cases hlt : i < n
      · obtain ⟨c0, c1⟩ := hr.head
        obtain ⟨d0, f0⟩ := hr.n i (by omega)
        obtain ⟨d1, f1⟩ := hr.q i (by omega)
        obtain ⟨n1, n2, n3⟩ := hr.ne
        rw [hl] at c0 c1
        have r1 := row_set hr.rn i (by omega) (.int .i64 (i : Int))
        have r2 := row_set hr.rp i (by omega) (.int .i64 (i : Int))
        rw [← nCells_set, laid_set] at r1 r2
        have hfin : RingAt ((wr.setCell ⟨gn, i, none⟩ (.int .i64 (i : Int))).setCell ⟨gp, i, none⟩ (.int .i64 (i : Int))) (w.heap.size + 1 + 1) gn gp (laid n (i + 1)) (laid n (i + 1)) := by
          have k1 : Keeps [gn] wr (wr.setCell ⟨gn, i, none⟩ (.int .i64 (i : Int))) := (Keeps.refl _ _).setCell (.inl (by simp)) _
          have k2 : Keeps [gp] (wr.setCell ⟨gn, i, none⟩ (.int .i64 (i : Int))) ((wr.setCell ⟨gn, i, none⟩ (.int .i64 (i : Int))).setCell ⟨gp, i, none⟩ (.int .i64 (i : Int))) := (Keeps.refl _ _).setCell (.inl (by simp)) _
          have l2 := laid_len n (i + 1)
          refine ⟨?_, ?_, ?_, hr.ne, rfl⟩
          · rw [l2]
            have := hr.blk
            rw [hl] at this
            exact k2.blk (k1.blk this (by simpa using Ne.symm n1)) (by simpa using Ne.symm n2)
          · rw [l2]
            rw [hl] at r1
            exact k2.row r1 (by simpa using n3)
          · rw [l2]
            have := row_set (k1.row hr.rp (by simpa using Ne.symm n3)) i (by omega) (.int .i64 (i : Int))
            rw [← nCells_set, laid_set, hl] at this
            exact this
        have hb9 : Below w.heap.size w ((wr.setCell ⟨gn, i, none⟩ (.int .i64 (i : Int))).setCell ⟨gp, i, none⟩ (.int .i64 (i : Int))) := (hbel.setCell b3 _).setCell b4 _
        clear r1 r2 hr hbel
        go_wp2_with fail
        go_region
        go_wp2_with fail
        go_roundg (gk - 1)
        case measure => have := HG.out; omega
        case rel => exact ⟨i + 1, gn, gp, by omega, by have := HG.out; omega, by go_num, hfin.like rfl, hb9.trans ⟨rfl, rfl, rfl, Nat.le_refl _, fun _ _ => rfl⟩, b3, b4⟩
      · obtain rfl : i = n := by omega
        rw [laid_all] at hr
        go_wp2
        go_ret2
        exact ⟨_, gn, gp, rfl, hr, hbel, by omega, b3, b4⟩

theorem new_no (w : World) (n : Int) (h : n < 0 ∨ 65536 < n) :
    Calls Try.prog 8 #[.int .i64 n] w fun e w' => e = .returned (.tuple #[.pointer none, .int .i64 31]) ∧ w = w' := by
  by_cases h1 : n < 0
  · clear h
    go_enter Try.func8, Try.ntmps8
    go_wp2
    go_ret2
    exact ⟨rfl, rfl⟩
  · have h2 : 65536 < n := by omega
    clear h
    go_enter Try.func8, Try.ntmps8
    go_wp2
    go_ret2
    exact ⟨rfl, rfl⟩

end Go.Proofs.Ytnpglgkpdikcjaa

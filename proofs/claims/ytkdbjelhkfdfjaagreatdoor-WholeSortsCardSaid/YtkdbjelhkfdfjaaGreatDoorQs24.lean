/-
  Contracts that the law rests on. Conditions: none.
-/
import Derived.Test.YtkdbjelhkfdfjaaGreatDoorQs16
import Derived.Lib.SliceRun
set_option linter.unusedVariables false
set_option maxRecDepth 100000
set_option maxHeartbeats 16000000
namespace Go.Proofs.YtkdbjelhkfdfjaaGreatDoor
open Go.RowKit
section
variable (w : World) (Bx x : Nat)
theorem take_is (hB : w.cell? ⟨Bx,0,none⟩ = some (.int .i64 (x : Nat))) (y : Nat) :
    Calls Tryz.prog 358 #[.int .i64 y, .pointer (some ⟨Bx,0,none⟩)] w fun e w' => e = .returned (.bool (decide (x = y))) ∧ w = w' := by
  by_cases c : x = y
  · have c3 : ((x : Int) == (y : Int)) = true := by rw [beq_iff_eq]; omega
    have C := Lib.hid c
    clear c
    go_enter Tryz.func358, Tryz.ntmps358
    go_wp2_with fail
    go_ret
    exact ⟨by simp [C.out],rfl⟩
  · have c3 : ((x : Int) == (y : Int)) = false := by rw [beq_eq_false_iff_ne]; omega
    have C := Lib.hid c
    clear c
    go_enter Tryz.func358, Tryz.ntmps358
    go_wp2_with fail
    go_ret
    exact ⟨by simp [C.out],rfl⟩
theorem take_index (hB : w.cell? ⟨Bx,0,none⟩ = some (.int .i64 (x : Nat))) (ao : Option Addr) (ca n : Nat) (a b : List Nat) (hn : n = (a ++ x :: b).length) (hl : Rg.IR 0 w (.slice ao n ca) (a ++ x :: b)) (hll : n ≤ 65536) (hx : x ∉ a) :
    Calls Tryz.prog 251 #[.slice ao n ca, .func (.func 358) #[] #[.pointer (some ⟨Bx,0,none⟩)]] w fun e w' => e = .returned (.int .i64 a.length) ∧ w = w' := by
  have hno := take_is w Bx x hB
  have hat : ∀ i, i < n → ∃ gg y, ao = some ⟨gg,0,none⟩ ∧ w.cell? ⟨gg,i,none⟩ = some (.int .i64 (y : Nat)) ∧ (a ++ x :: b)[i]? = some y := fun i hi => by
    obtain ⟨gg, e, _, _, c⟩ := hl.at i (by omega)
    exact ⟨gg, _, e, c,by rw [Rg.fn, List.getD, List.getElem?_eq_getElem (by omega)]; rfl⟩
  have HAT := Lib.hid hat
  have HX := Lib.hid hx
  have hna : a.length < n := by rw [hn]; simp
  have HA := Lib.hid hna
  clear hat hl hB hn hx hna
  go_enter Tryz.func251, Tryz.ntmps251
  go_wp2_with fail
  go_loopg [8] (a.length + 1) (fun k s wr => ∃ i : Nat, k + i = a.length + 1 ∧ i ≤ a.length ∧ s = .int .i64 i ∧ wr = w)
  case atStart => exact ⟨0,by omega,by omega,rfl,rfl⟩
  case round =>
    obtain ⟨i, hk, hin,rfl,rfl⟩ := hrel
    have HK := Lib.hid hk
    clear hk
    have hi : i < n := by have := HA.out; omega
    obtain ⟨gg, y, hao, d1, hy⟩ := HAT.out i hi
    subst hao
    have hc := hno y
    have hi3 : (i : Int) < (n : Int) := by omega
    by_cases h : i < a.length
    · rw [List.getElem?_append_left h] at hy
      have hxy : decide (x = y) = false := by
        rw [decide_eq_false_iff_not]; rintro rfl
        exact HX.out (List.mem_of_getElem? hy)
      rw [hxy] at hc
      clear hno hxy hy
      go_wp2_with (go_at_call 358; refine hc.mono ?_; rintro e w' ⟨rfl,rfl⟩)
      go_roundg (gk - 1)
      case measure => have := HK.out; omega
      case rel => exact ⟨i + 1,by have := HK.out; omega,by omega,by go_num,rfl⟩
    · obtain rfl : i = a.length := by omega
      rw [List.getElem?_append_right (Nat.le_refl _), Nat.sub_self] at hy
      have hxy : decide (x = y) = true := by simpa using hy
      rw [hxy] at hc
      clear hno hxy hy
      go_wp2_with (go_at_call 358; refine hc.mono ?_; rintro e w' ⟨rfl,rfl⟩)
      go_ret
      exact ⟨rfl,rfl⟩
end
theorem ir_short {B n m ca : Nat} {w : World} {ao : Option Addr} {L M : List Nat} (h : Rg.IR B w (.slice ao n ca) (L ++ M)) (hm : m = L.length) (h0 : 0 < n) (hn : n = (L ++ M).length) : Rg.IR B w (.slice ao m ca) L := by
  subst hm
  refine ⟨by simp [Rg.nCells], .inr ?_⟩
  rcases h.2 with ⟨e, _⟩ | ⟨g, cap, cur, e, hb, hg, h1, h2, h3, h4⟩
  · cases e; omega
  · cases e
    refine ⟨g, ca, cur,rfl, hb, hg,by simp only [List.length_append] at h1; omega, h2, h3,?_⟩
    have := congrArg (List.take (L.length * 1)) h4
    rw [List.take_take] at this
    rw [show min (L.length * 1) ((L ++ M).length * 1) = L.length * 1 by simp] at this
    rw [this, Rg.nCells_append, List.take_append_of_le_length (by simp [Rg.nCells]), List.take_of_length_le (by simp [Rg.nCells])]
theorem ir_frozen {B n ca g : Nat} {w : World} {L : List Nat} (h : Rg.IR B w (.slice (some ⟨g,0,none⟩) n ca) L) (i : Nat) : w.frozen? ⟨g,i,none⟩ = false := by
  rcases h.2 with ⟨e, _⟩ | ⟨g', cap, cur, e, hb, hg, _⟩
  · cases e
  · cases e; exact frozen_of_blk hg
def delL (a b : List Nat) (x k : Nat) : List Nat := a ++ b.take k ++ (x :: b).drop k
theorem delL_len (a b : List Nat) (x k : Nat) (hk : k ≤ b.length) : (delL a b x k).length = a.length + b.length + 1 := by simp [delL]; omega
theorem delL_zero (a b : List Nat) (x : Nat) : delL a b x 0 = a ++ x :: b := by simp [delL]
theorem delL_at (a b : List Nat) (x k y : Nat) (h : b[k]? = some y) : (delL a b x k)[a.length + k + 1]? = some y := by
  have hk := (List.getElem?_eq_some_iff.1 h).1
  unfold delL
  rw [List.getElem?_append_right (by simp; omega)]
  simp only [List.length_append, List.length_take]
  rw [show a.length + k + 1 - (a.length + min k b.length) = 1 by omega, List.getElem?_drop]
  simpa using h
theorem delL_set (a b : List Nat) (x k y : Nat) (h : b[k]? = some y) : (delL a b x k).set (a.length + k) y = delL a b x (k + 1) := by
  have hk := (List.getElem?_eq_some_iff.1 h).1
  obtain ⟨c, hc⟩ : ∃ c, (x :: b).drop k = c :: b.drop k := by
    rw [List.drop_eq_getElem_cons (by simp; omega)]; exact ⟨_,by rw [List.drop_succ_cons]⟩
  unfold delL
  rw [hc, List.set_append_right _ _ (by simp; omega)]
  have e : a.length + k - (a ++ b.take k).length = 0 := by simp; omega
  rw [e, List.set_cons_zero, List.take_add_one, h]
  simp
theorem delL_last (a b : List Nat) (x : Nat) : ∃ c, delL a b x b.length = a ++ b ++ [c] := by
  obtain ⟨c, hc⟩ : ∃ c, (x :: b).drop b.length = [c] := by
    rw [List.drop_eq_getElem_cons (by simp)]; exact ⟨_,by rw [List.drop_succ_cons, List.drop_length]⟩
  exact ⟨c,by simp [delL, hc]⟩
section
variable (w : World) (Bx x : Nat)
theorem delete_one (hB : w.heap[Bx]? = some (.cells #[.int .i64 (x : Nat)] 3 (0,0))) (g ca n : Nat) (a b : List Nat) (hn : n = (a ++ x :: b).length) (hl : Rg.IR 0 w (.slice (some ⟨g,0,none⟩) n ca) (a ++ x :: b)) (hll : n ≤ 65536) (hx : x ∉ a) (hxb : x ∉ b) (hg : g ≠ Bx) :
    Calls Tryz.prog 357 #[.slice (some ⟨g,0,none⟩) n ca, .func (.func 358) #[] #[.pointer (some ⟨Bx,0,none⟩)]] w fun e w' => e = .returned (.slice (some ⟨g,0,none⟩) (n - 1) ca) ∧ Rg.IR 0 w' (.slice (some ⟨g,0,none⟩) (n - 1) ca) (a ++ b) ∧ Keeps [g] w w' := by
  have hc0 : w.cell? ⟨Bx,0,none⟩ = some (.int .i64 (x : Nat)) := by rw [cell_of_blk hB]; rfl
  have hix := take_index w Bx x hc0 (some ⟨g,0,none⟩) ca n a b hn hl hll hx
  have hna : n = a.length + b.length + 1 := by rw [hn]; simp; omega
  have hca : n ≤ ca := by
    rcases hl.2 with ⟨e, _⟩ | ⟨g', cap, cur, e, _, _, h1, _⟩
    · cases e
    · cases e; omega
  have hab : a.length ≤ 65535 := by omega
  have hi1 : ((a.length : Int) == -1) = false := by rw [beq_eq_false_iff_ne]; omega
  have HB := Lib.hid hB
  have HL : Hid (Rg.IR 0 w (.slice (some ⟨g,0,none⟩) n ca) (delL a b x 0)) := Lib.hid (by rw [delL_zero]; exact hl)
  have HN := Lib.hid hna
  have HXB := Lib.hid hxb
  clear hB hn hl hx hna hxb hc0
  go_enter Tryz.func357, Tryz.ntmps357
  go_wp2_with (go_at_call 251; refine hix.mono ?_; rintro e w' ⟨rfl,rfl⟩)
  go_loopg [5,6] (b.length + 1) (fun m s t wr => ∃ k : Nat, m + k = b.length + 1 ∧ k ≤ b.length ∧ s = .int .i64 ((a.length + k : Nat) : Int) ∧ t = .int .i64 ((a.length + k + 1 : Nat) : Int) ∧ Rg.IR 0 wr (.slice (some ⟨g,0,none⟩) n ca) (delL a b x k) ∧ Keeps [g] w wr)
  case atStart => exact ⟨0,by omega,by omega,by go_num,by have := HN.out; go_num, HL.out, Keeps.refl _ _⟩
  case round =>
    clear hix HL hi1
    obtain ⟨k, hk, hkb,rfl,rfl, hir, kp⟩ := hrel
    have HK := Lib.hid hk
    clear hk
    have hnl := HN.out
    have hlen := delL_len a b x k hkb
    by_cases h : k < b.length
    · obtain ⟨y, hy⟩ : ∃ y, b[k]? = some y := ⟨_, List.getElem?_eq_getElem h⟩
      have hat := delL_at a b x k y hy
      obtain ⟨gg, e, _, _, d1⟩ := hir.at (a.length + k + 1) (by omega)
      cases e
      have d2 : wr.cell? ⟨g, a.length + k + 1, none⟩ = some (.int .i64 (y : Nat)) := by
        rw [d1, Rg.fn, List.getD, hat]; rfl
      have hxy : decide (x = y) = false := by
        rw [decide_eq_false_iff_not]; rintro rfl
        exact HXB.out (List.mem_of_getElem? hy)
      have hc := take_is wr Bx x (by rw [cell_of_blk (kp.blk HB.out (by simpa using hg.symm))]; rfl) y
      rw [hxy] at hc
      have hir' : Rg.IR 0 (wr.setCell ⟨g, a.length + k, none⟩ (.int .i64 (y : Int))) (.slice (some ⟨g,0,none⟩) n ca) (delL a b x (k + 1)) := by
        have h1 := Rg.row_set (w := wr) (n := n) (xs := Rg.nCells (delL a b x k)) (by have := hir; unfold Rg.IR at this; rwa [hlen, ← hnl] at this) (a.length + k) (by omega) (.int .i64 (y : Int))
        unfold Rg.IR
        rw [delL_len a b x (k + 1) (by omega), ← hnl, ← delL_set a b x k y hy, Rg.nCells_set]
        exact h1
      have f0 : wr.frozen? ⟨g, a.length + k, none⟩ = false := ir_frozen hir _
      obtain ⟨gg, e, _, _, d0⟩ := hir.at (a.length + k) (by omega)
      cases e
      have kp' : Keeps [g] w (wr.setCell ⟨g, a.length + k, none⟩ (.int .i64 (y : Int))) := kp.setCell (.inl (by simp)) _
      have b1 : ((a.length + k + 1 : Nat) : Int) < (n : Int) := by omega
      have b2 : ((a.length + k : Nat) : Int) < (n : Int) := by omega
      have HI := Lib.hid hir'
      have HP := Lib.hid kp'
      clear hir hir' kp' kp hxy hat hy d1 hlen hnl
      go_wp2_with (go_at_call 358; refine hc.mono ?_; rintro e w' ⟨rfl,rfl⟩)
      go_roundg (gk - 1)
      case measure => have := HK.out; omega
      case rel => exact ⟨k + 1,by have := HK.out; omega,by omega,by go_num,by go_num, HI.out, HP.out⟩
    · obtain rfl : k = b.length := by omega
      obtain ⟨c, hcl⟩ := delL_last a b x
      rw [hcl] at hir
      clear hlen hcl
      subst hnl
      have f0 : wr.frozen? ⟨g, a.length + b.length, none⟩ = false := ir_frozen hir _
      obtain ⟨gg, e, _, _, d0⟩ := hir.at (a.length + b.length) (by simp)
      cases e
      have hsc : ∀ ty, (Builtin.clear_ #[28] ty #[.slice (some ⟨g, a.length + b.length, none⟩) 1 (ca - (a.length + b.length))]).run Tryz.prog wr = .ok (.tuple #[]) (wr.setCell ⟨g, a.length + b.length, none⟩ (.int .i64 0)) := fun ty =>
        Lib.run_clear_slice wr 28 3 ty (.int .i64 0) Tryz.underlying28 (by intro w; kernel_rfl) rfl rfl g (a.length + b.length) 1 _ (by omega) (fun j hj => by
          obtain rfl : j = 0 := by omega
          rw [Nat.add_zero, d0]; rfl) (fun j hj => by
          obtain rfl : j = 0 := by omega
          exact f0)
      have hir' : Rg.IR 0 (wr.setCell ⟨g, a.length + b.length, none⟩ (.int .i64 0)) (.slice (some ⟨g,0,none⟩) (a.length + b.length) ca) (a ++ b) := by
        have h1 := Rg.row_set (w := wr) (n := a.length + b.length + 1) (xs := Rg.nCells (a ++ b ++ [c])) (by have := hir; unfold Rg.IR at this; rwa [show (a ++ b ++ [c]).length = a.length + b.length + 1 by simp; omega] at this) (a.length + b.length) (by omega) (.int .i64 0)
        have h2 : Rg.IR 0 (wr.setCell ⟨g, a.length + b.length, none⟩ (.int .i64 0)) (.slice (some ⟨g,0,none⟩) (a.length + b.length + 1) ca) (a ++ b ++ [0]) := by
          unfold Rg.IR
          have e1 : (Rg.nCells (a ++ b ++ [c])).set (a.length + b.length) (.int .i64 0) = Rg.nCells (a ++ b ++ [0]) := by
            have := Rg.nCells_set (a ++ b ++ [c]) (a.length + b.length) 0
            rw [show (a ++ b ++ [c]).set (a.length + b.length) 0 = a ++ b ++ [0] by
              rw [List.set_append_right _ _ (by simp)]; simp] at this
            exact this.symm
          rw [e1] at h1
          have e2 : (a ++ b ++ [0]).length = a.length + b.length + 1 := by simp; omega
          rw [e2]
          exact h1
        exact ir_short h2 (by simp) (by omega) (by simp; omega)
      have kp' : Keeps [g] w (wr.setCell ⟨g, a.length + b.length, none⟩ (.int .i64 0)) := kp.setCell (.inl (by simp)) _
      have hcne : ¬ ca = a.length + b.length := by omega
      have HI := Lib.hid hir'
      have HP := Lib.hid kp'
      clear hir hir' kp' kp HK HN
      go_wp2_with fail
      go_ret
      exact ⟨rfl, HI.out, HP.out⟩
end
end Go.Proofs.YtkdbjelhkfdfjaaGreatDoor


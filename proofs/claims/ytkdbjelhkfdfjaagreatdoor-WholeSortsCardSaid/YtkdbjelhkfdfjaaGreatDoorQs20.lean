/-
  Contracts that the law rests on. Conditions: none.
-/
import Derived.Test.YtkdbjelhkfdfjaaGreatDoorQs19
set_option linter.unusedVariables false
set_option maxRecDepth 100000
set_option maxHeartbeats 16000000
namespace Go.Proofs.YtkdbjelhkfdfjaaGreatDoor
open Go.RowKit
structure PMoved (n m : Nat) (v : Nat → Nat) (f : Nat → Int) (v' : Nat → Nat) (f' : Nat → Int) : Prop where
  same : Same v v' m
  rest : ∀ j, m ≤ j → v' j = v j
  off : ∀ x, (∀ k, k < n → v k ≠ x) → f' x = f x
theorem PMoved.refl (n m : Nat) (v : Nat → Nat) (f : Nat → Int) : PMoved n m v f v f := ⟨Same.refl _ _,fun _ _ => rfl,fun _ _ => rfl⟩
theorem PMoved.range {n m : Nat} {v v' : Nat → Nat} {f f' : Nat → Int} (h : PMoved n m v f v' f') (hm : m ≤ n) {k : Nat} (hk : k < n) : ∃ j, j < n ∧ v' k = v j := by
  by_cases e : k < m
  · obtain ⟨j, a, b⟩ := (h.same (v' k)).1 ⟨k, e,rfl⟩
    exact ⟨j,by omega, b.symm⟩
  · exact ⟨k, hk, h.rest k (by omega)⟩
theorem PMoved.trans {n m : Nat} {v v' v2 : Nat → Nat} {f f' f2 : Nat → Int} (h : PMoved n m v f v' f') (k : PMoved n m v' f' v2 f2) (hm : m ≤ n) : PMoved n m v f v2 f2 :=
  ⟨h.same.trans k.same,fun j hj => (k.rest j hj).trans (h.rest j hj),fun x hx => (k.off x (fun i hi e => by
    obtain ⟨j, a, b⟩ := h.range hm hi
    exact hx j a (b.symm.trans e))).trans (h.off x hx)⟩
theorem PMoved.sw {n m : Nat} {v : Nat → Nat} {f f' : Nat → Int} {i j : Nat} (hi : i < m) (hj : j < m) (ho : ∀ x, (∀ k, k < n → v k ≠ x) → f' x = f x) : PMoved n m v f (sw v i j) f' :=
  ⟨Same.sw hi hj,fun k hk => sw_other _ _ _ _ (by omega) (by omega), ho⟩
theorem sw_comm (v : Nat → Nat) (i j : Nat) : sw v i j = sw v j i := by
  funext k
  simp only [sw]
  by_cases a : k = i
  · subst a
    by_cases b : k = j
    · subst b; rfl
    · rw [if_pos rfl, if_neg b, if_pos rfl]
  · rw [if_neg a]
    by_cases b : k = j
    · rw [if_pos b, if_pos b]
    · rw [if_neg b, if_neg b, if_neg a]
section
variable (w : World) (p pc ga q : Nat) (ao : Option Addr) (ca : Nat) (vP : Value) (Fc : List Nat) (cap hs : Nat) (E : Ent) (n m : Nat) (v : Nat → Nat) (f : Nat → Int)
theorem pile_m1 (fuel : Nat) (a : Addr) (w : World) : (method (fuel + 1) 478 (.pointer (some a)) "Less").run Tryz.prog w = .ok (452, .pointer (some a)) w := by kernel_rfl
theorem pile_m2 (fuel : Nat) (a : Addr) (w : World) : (method (fuel + 1) 478 (.pointer (some a)) "Swap").run Tryz.prog w = .ok (455, .pointer (some a)) w := by kernel_rfl
def PUp (j : Nat) (e : Ending) (w' : World) : Prop :=
  ∃ v' f', e = .returned (.tuple #[]) ∧ PileOk w' p pc ga q ao ca vP Fc cap hs E n v' f' ∧ PMoved n m v f v' f' ∧ Keeps (ga :: (pfp q ao ++ Fc)) w w' ∧ ((v' = v ∧ (j = 0 ∨ ahead E (v j) (v (par 2 j)) = false)) ∨ Heap' 2 (ahead E) v' m)
theorem pile_up (h : PileOk w p pc ga q ao ca vP Fc cap hs E n v f) (j : Nat) (hj : j < m) (hm : m ≤ n) (hE : ∀ j, j < n → (E (v j)).isSome) (hn : n ≤ 65536) (hat : HeapAt 2 (ahead E) v m j) :
    Calls Tryz.prog 445 #[.iface 478 (.pointer (some ⟨q,0,none⟩)), .int .i64 j] w (PUp w p pc ga q ao ca vP Fc cap hs E n m v f j) := by
  have hEs : ∀ v' f', PMoved n m v f v' f' → ∀ j, j < n → (E (v' j)).isSome := fun v' f' s j hj => by
    obtain ⟨k, hk, e⟩ := s.range hm hj
    rw [e]; exact hE k hk
  have HES := Lib.hid hEs
  clear hEs
  go_enter Tryz.func445, Tryz.ntmps445
  go_wp2_with fail
  go_loopg [1] (j + 1) (fun k s wr => ∃ (i' : Nat) (v' : Nat → Nat) (f' : Nat → Int), k = i' + 1 ∧ s = .int .i64 i' ∧ i' < m ∧ PileOk wr p pc ga q ao ca vP Fc cap hs E n v' f' ∧ PMoved n m v f v' f' ∧ Keeps (ga :: (pfp q ao ++ Fc)) w wr ∧
    ((i' = j ∧ v' = v ∧ HeapAt 2 (ahead E) v m j) ∨ (i' < j ∧ HeapUp 2 (ahead E) v' m i')))
  case atStart => exact ⟨j, v, f,rfl,rfl, hj, h, PMoved.refl _ _ _ _, Keeps.refl _ _, .inl ⟨rfl,rfl, hat⟩⟩
  case round =>
    clear h hat hE
    obtain ⟨i', v', f', hk,rfl, hi', hp, hmv, kp, hst⟩ := hrel
    have HK := Lib.hid hk
    clear hk
    have hEv := HES.out v' f' hmv
    have hord : Ord (ahead E) v' m := ordOf (fun a b ha hb => hp.inj a b (by omega) (by omega)) (fun k hk => hEv k (by omega))
    have hme := fun (u : World) => pile_m1 587 ⟨q,0,none⟩ u
    have hms := fun (u : World) => pile_m2 587 ⟨q,0,none⟩ u
    by_cases h0 : i' = 0
    · subst h0
      go_wp2_with fail
      go_end0
      refine ⟨v', f',rfl, hp, hmv, kp,?_⟩
      rcases hst with ⟨rfl,rfl, _⟩ | ⟨hlt, hup⟩
      · exact .inl ⟨rfl, .inl rfl⟩
      · exact .inr (hup.stop (by decide) hord (.inl rfl))
    · obtain ⟨r, hr⟩ : ∃ r, par 2 i' = r := ⟨_,rfl⟩
      have hrlt : r < i' := by rw [← hr]; exact par_lt (by decide) (by omega)
      have hpi := par_int 2 i' (by omega)
      have hpi2 : ((i' : Int) - 1) / 2 = (r : Int) := by rw [hr] at hpi; exact hpi.symm
      have HR := Lib.hid hr
      have HI := Lib.hid hpi
      clear hpi hr
      have b1 : decide ((r : Int) = (i' : Int)) = false := by rw [decide_eq_false_iff_not]; omega
      have b2 : decide (r = i') = false := by rw [decide_eq_false_iff_not]; omega
      have b4 : (0 : Int) ≤ (i' : Int) - 1 := by omega
      have hls := fun u (hu : PileOk u p pc ga q ao ca vP Fc cap hs E n v' f') => pile_less u p pc ga q ao ca vP Fc cap hs E n v' f' hu i' r (by omega) (by omega) hEv
      have hsw := fun u (hu : PileOk u p pc ga q ao ca vP Fc cap hs E n v' f') => pile_swap u p pc ga q ao ca vP Fc cap hs E n v' f' hu r i' (by omega) (by omega) (by omega)
      cases hb : ahead E (v' i') (v' r) with
      | false =>
        rw [hb] at hls
        go_wp2_with (go_at_call 452; refine (hls _ hp).mono ?_; rintro e w1 ⟨rfl, hp1, hk1⟩)
        go_end0
        refine ⟨v', f',rfl, hp1, hmv, kp.trans hk1 (fun b hb => .inl (by simp [hb])),?_⟩
        rcases hst with ⟨rfl,rfl, _⟩ | ⟨hlt, hup⟩
        · exact .inl ⟨rfl, .inr (by rw [HR.out]; exact hb)⟩
        · exact .inr (hup.stop (by decide) hord (.inr (by rw [HR.out]; exact hb)))
      | true =>
        rw [hb] at hls
        have hup : HeapUp 2 (ahead E) v' m i' := by
          rcases hst with ⟨rfl,rfl, hat⟩ | ⟨hlt, hup⟩
          · exact hat.up (by decide) hord hi' (by omega) (by rw [HR.out]; exact hb)
          · exact hup
        have hst2 := hup.step (by decide) hord (by omega) hi' (by rw [HR.out]; exact hb)
        rw [HR.out] at hst2
        have hile : i' ≤ j := by rcases hst with ⟨rfl, _⟩ | ⟨hlt, _⟩ <;> omega
        clear hst hup
        have HB := Lib.hid hb
        clear hb
        go_wp2_with (first
          | (go_at_call 452; refine (hls _ hp).mono ?_; rintro e w1 ⟨rfl, hp1, hk1⟩)
          | (go_at_call 455; refine (hsw _ hp1).mono ?_; rintro e w2 ⟨f2,rfl, hp2, hk2, ho2⟩))
        have hsy : sw v' r i' = sw v' i' r := sw_comm _ _ _
        rw [hsy] at hp2
        have kp2 : Keeps (ga :: (pfp q ao ++ Fc)) w w2 := (kp.trans hk1 (fun b hb => .inl (by simp [hb]))).trans hk2 (fun b hb => .inl (by simp at hb ⊢; rcases hb with rfl | hb; exact .inl rfl; exact .inr (.inl hb)))
        go_roundg (r + 1)
        case measure => have := HK.out; omega
        case rel => exact ⟨r, sw v' i' r, f2,rfl,rfl,by omega, hp2, hmv.trans (PMoved.sw hi' (by omega) ho2) hm, kp2, .inr ⟨by omega, hst2⟩⟩
end
end Go.Proofs.YtkdbjelhkfdfjaaGreatDoor


/-
  The walk of the law NamesChains: a chain of joins, up or down.
-/
import Derived.Test.YtohngmegombfgaaAlive
import Derived.Test.YtohngmegombfgaaOpen
import Derived.Deep.LoopGhost
namespace Go.Proofs.Ytohngmegombfgaa
open Go.RowKit
set_option linter.unusedVariables false

/-- Behind joins upwards: all below c count as c. -/
def upR (c : Nat) : Nat → Nat := fun x => if 1 ≤ x ∧ x < c then c else x
/-- Behind joins downwards: all above c, up to k, count as c. -/
def downR (k c : Nat) : Nat → Nat := fun x => if c < x ∧ x ≤ k then c else x

theorem upR_one : upR 1 = fun i => i := by
  funext x; simp only [upR]; rw [if_neg (by omega)]
theorem downR_top (k : Nat) : downR k k = fun i => i := by
  funext x; simp only [downR]; rw [if_neg (by omega)]

theorem upR_in {c x : Nat} (h : 1 ≤ x ∧ x < c) : upR c x = c := if_pos h
theorem upR_out {c x : Nat} (h : ¬ (1 ≤ x ∧ x < c)) : upR c x = x := if_neg h
theorem downR_in {k c x : Nat} (h : c < x ∧ x ≤ k) : downR k c x = c := if_pos h
theorem downR_out {k c x : Nat} (h : ¬ (c < x ∧ x ≤ k)) : downR k c x = x := if_neg h

theorem upR_step (c : Nat) (hc : 1 ≤ c) : joinR (upR c) (c + 1) c = upR (c + 1) := by
  funext x
  show (if upR c x = c then c + 1 else upR c x) = _
  by_cases h1 : 1 ≤ x ∧ x < c
  · have h2 : 1 ≤ x ∧ x < c + 1 := by omega
    rw [upR_in h1, upR_in h2, if_pos rfl]
  · rw [upR_out h1]
    by_cases h2 : x = c
    · have h3 : 1 ≤ x ∧ x < c + 1 := by omega
      rw [if_pos h2, upR_in h3]
    · have h3 : ¬ (1 ≤ x ∧ x < c + 1) := by omega
      rw [if_neg h2, upR_out h3]

theorem downR_step (k c : Nat) (hc : c + 1 ≤ k) : joinR (downR k (c + 1)) c (c + 1) = downR k c := by
  funext x
  show (if downR k (c + 1) x = c + 1 then c else downR k (c + 1) x) = _
  by_cases h1 : c + 1 < x ∧ x ≤ k
  · have h2 : c < x ∧ x ≤ k := by omega
    rw [downR_in h1, downR_in h2, if_pos rfl]
  · rw [downR_out h1]
    by_cases h2 : x = c + 1
    · have h3 : c < x ∧ x ≤ k := by omega
      rw [if_pos h2, downR_in h3]
    · have h3 : ¬ (c < x ∧ x ≤ k) := by omega
      rw [if_neg h2, downR_out h3]

theorem up_can (k c : Nat) (hc : 1 ≤ c) (hk : c < k) : canJoin (k + 1) (upR c) ((c : Int) + 1) (c : Int) = true := by
  have e : ((c : Int) + 1).toNat = c + 1 := by omega
  have n1 : ¬ (1 ≤ c + 1 ∧ c + 1 < c) := by omega
  have n2 : ¬ (1 ≤ c ∧ c < c) := by omega
  simp only [canJoin, isRoot, e, Int.toNat_natCast, upR_out n1, upR_out n2]
  simp; omega

theorem down_can (k c : Nat) (hc : 1 ≤ c) (hk : c + 1 ≤ k) : canJoin (k + 1) (downR k (c + 1)) (c : Int) ((c : Int) + 1) = true := by
  have e : ((c : Int) + 1).toNat = c + 1 := by omega
  have n1 : ¬ (c + 1 < c ∧ c ≤ k) := by omega
  have n2 : ¬ (c + 1 < c + 1 ∧ c + 1 ≤ k) := by omega
  simp only [canJoin, isRoot, e, Int.toNat_natCast, downR_out n1, downR_out n2]
  simp; omega

/-- What holds at a loop's head. -/
def Chain (w : World) (p n : Nat) (R : Nat → Nat) (most cnt : Int) (wr : World) : Prop :=
  ∃ g, w.heap.size ≤ g ∧ w.heap.size ≤ p ∧ St wr p g n R most cnt ∧ Below w.heap.size w wr

theorem Chain.aft {w : World} {p n n' : Nat} {R R' : Nat → Nat} {most cnt cnt' : Int} {wr w1 : World} (g : Nat) (hg : w.heap.size ≤ g) (hp : w.heap.size ≤ p) (hb : Below w.heap.size w wr)
    (ha : Aft wr p g n' R' most cnt' w1) : Chain w p n' R' most cnt' w1 := by
  obtain ⟨g', h1, h2, h3⟩ := ha
  have := hb.size
  exact ⟨g', by omega, hp, h1, hb.trans (h2.below hb.size (by simp; omega))⟩

set_option maxHeartbeats 4000000 in
set_option maxRecDepth 100000 in
theorem chains_up (w : World) (m : Nat) (hm : m ≤ 255) :
    Calls Try.prog 6 #[.int .u8 m, .bool true] w fun e w' => e = .returned (.bool true) ∧ Below w.heap.size w w' := by
  go_enter Try.func6, Try.ntmps6
  go_wp2_with fail
  refine (alive_calls w).mono ?_
  rintro e w1 ⟨rfl, h1⟩
  go_wp2_with fail
  refine (st_new_yes w1 _ (by omega) (by omega)).mono ?_
  rintro e w2 ⟨rfl, h2, h3, h4⟩
  have h1s := h1.size
  have hinit : Chain w (w1.heap.size + 1) 1 (fun i => i) (1 + (m : Int)) 0 w2 :=
    ⟨w1.heap.size, by omega, by omega, h2, (h1.below (Nat.le_refl _) (by simp)).trans (h3.below (by omega) (by simp))⟩
  clear h1 h2 h3 h4
  go_wp2_with fail
  generalize w1.heap.size + 1 = p at *
  go_loopg [8] (m + 1) (fun q s wr => ∃ i : Nat, i ≤ m + 1 ∧ q + i = m + 1 ∧ s = .int .i64 i ∧ Chain w p (i + 1) (fun i => i) (1 + (m : Int)) i wr)
  case atStart => exact ⟨0, by omega, by omega, rfl, hinit⟩
  case round =>
    obtain ⟨i, hi, hq, rfl, g, hg, hp, hst, hbel⟩ := hrel
    by_cases hlt : i < m + 1
    · go_wp2_with fail
      refine (st_make_yes _ _ _ _ _ _ _ hst (by omega) (by omega) (by omega) (by omega)).mono ?_
      rintro e w3 ⟨rfl, ha⟩
      have hfin : Chain w p (i + 1 + 1) (fun i => i) (1 + (m : Int)) (i + 1) w3 := Chain.aft (R := fun i => i) (n := 0) (cnt := 0) g hg hp hbel ha
      clear ha hst hbel
      go_wp2_with fail
      go_roundg (gk - 1)
      case measure => omega
      case rel => exact ⟨i + 1, by omega, by omega, by go_num, by simpa using hfin⟩
    · have hieq : i = m + 1 := by omega
      have HI := Lib.hid hieq
      have hinit2 : Chain w p (m + 1 + 1) (upR 1) (1 + (m : Int)) (m + 1) wr := by
        rw [upR_one]
        exact ⟨g, hg, hp, by rw [HI.out] at hst; simpa using hst, hbel⟩
      clear hinit hst hbel hieq hq
      obtain ⟨wo, rfl⟩ : ∃ wo : World, wo = wr := ⟨_, rfl⟩
      go_wp2_with fail
      go_loopg [9] m (fun q s wr => ∃ i : Nat, 1 ≤ i ∧ i ≤ m + 1 ∧ q + i = m + 1 ∧ s = .int .i64 i ∧ Chain w p (m + 1 + 1) (upR i) (1 + (m : Int)) (m + 2 - i) wr)
      case atStart => exact ⟨1, by omega, by omega, by omega, rfl, by simpa [show (m : Int) + 2 - 1 = m + 1 by omega] using hinit2⟩
      case round =>
        clear hinit2
        clear hi HI
        obtain ⟨i, hi1, hi, hq, rfl, g, hg, hp, hst, hbel⟩ := hrel
        by_cases hlt : i < m + 1
        · go_wp2_with fail
          refine (st_join_yes _ _ _ _ _ _ _ _ _ hst (up_can (m + 1) i (by omega) (by omega)) (by omega) (by omega)).mono ?_
          rintro e w3 ⟨rfl, ha⟩
          have ha2 : Aft wr p g (m + 1 + 1) (upR (i + 1)) (1 + (m : Int)) (m + 2 - i - 1) w3 := by
            rw [show ((i : Int) + 1).toNat = i + 1 by omega, Int.toNat_natCast, upR_step i (by omega)] at ha; exact ha
          have hfin := Chain.aft (R := fun i => i) (n := 0) (cnt := 0) g hg hp hbel ha2
          clear ha ha2 hst hbel
          go_wp2_with fail
          go_roundg (gk - 1)
          case measure => omega
          case rel => exact ⟨i + 1, by omega, by omega, by omega, by go_num, by simpa [show (m : Int) + 2 - ((i : Int) + 1) = (m : Int) + 2 - i - 1 by omega] using hfin⟩
        · have hieq : i = m + 1 := by omega
          have HI := Lib.hid hieq
          have hinit3 : Chain w p (m + 1 + 1) (upR (m + 1)) (1 + (m : Int)) 1 wr := by
            refine ⟨g, hg, hp, ?_, hbel⟩
            rw [HI.out] at hst
            simpa [show (m : Int) + 2 - (m + 1) = 1 by omega] using hst
          clear hst hbel hieq hq
          obtain ⟨wo2, rfl⟩ : ∃ wo : World, wo = wr := ⟨_, rfl⟩
          go_wp2_with fail
          go_loopg [11] (m + 1) (fun q s wr => ∃ i : Nat, 1 ≤ i ∧ i ≤ m + 2 ∧ q + i = m + 2 ∧ s = .int .i64 i ∧ Chain w p (m + 1 + 1) (upR (m + 1)) (1 + (m : Int)) 1 wr)
          case atStart => exact ⟨1, by omega, by omega, by omega, rfl, hinit3⟩
          case round =>
            clear hinit3
            clear hi1 hi HI
            obtain ⟨i, hi1, hi, hq, rfl, g, hg, hp, hst, hbel⟩ := hrel
            by_cases hlt : i < m + 2
            · have hroot : rootOf (m + 1 + 1) (upR (m + 1)) (i : Int) = ((1 + (m : Int)), true) := by
                rw [rootOf, if_pos (by omega), Int.toNat_natCast]
                simp only [upR]; by_cases e : 1 ≤ i ∧ i < m + 1
                · rw [if_pos e]; simp; try omega
                · rw [if_neg e]; simp; omega
              have hne : (((1 + (m : Int)) : Int) != (1 + (m : Int))) = false := by simp
              go_wp2_with fail
              refine (st_root _ _ _ _ _ _ _ i hst).mono ?_
              rintro e w3 ⟨rfl, ha⟩
              rw [hroot]
              have hfin := Chain.aft (R := fun i => i) (n := 0) (cnt := 0) g hg hp hbel ha
              clear ha hst hbel hroot
              go_wp2_with fail
              go_roundg (gk - 1)
              case measure => omega
              case rel => exact ⟨i + 1, by omega, by omega, by omega, by go_num, hfin⟩
            · go_wp2_with fail
              refine (st_make_no _ _ _ _ _ _ _ hst (by omega) (by omega)).mono ?_
              rintro e w3 ⟨rfl, ha⟩
              obtain ⟨g2, hg2, _, hst2, hbel2⟩ := Chain.aft (R := fun i => i) (n := 0) (cnt := 0) g hg hp hbel ha
              clear ha hst hbel
              go_wp2_with fail
              refine (st_count _ _ _ _ _ _ _ hst2).mono ?_
              rintro e w4 ⟨rfl, rfl⟩
              go_wp2_with fail
              refine (st_last _ _ _ _ _ _ _ hst2 (by omega)).mono ?_
              rintro e w4 ⟨rfl, rfl⟩
              rw [show (((m + 1 + 1 : Nat) : Int) - 1) = 1 + (m : Int) by omega]
              have hk : ((1 + (m : Int)) == (1 + (m : Int))) = true := by simp
              go_wp2
              go_ret
              exact ⟨rfl, hbel2⟩

set_option maxHeartbeats 4000000 in
set_option maxRecDepth 100000 in
theorem chains_down (w : World) (m : Nat) (hm : m ≤ 255) :
    Calls Try.prog 6 #[.int .u8 m, .bool false] w fun e w' => e = .returned (.bool true) ∧ Below w.heap.size w w' := by
  go_enter Try.func6, Try.ntmps6
  go_wp2_with fail
  refine (alive_calls w).mono ?_
  rintro e w1 ⟨rfl, h1⟩
  go_wp2_with fail
  refine (st_new_yes w1 _ (by omega) (by omega)).mono ?_
  rintro e w2 ⟨rfl, h2, h3, h4⟩
  have h1s := h1.size
  have hinit : Chain w (w1.heap.size + 1) 1 (fun i => i) (1 + (m : Int)) 0 w2 :=
    ⟨w1.heap.size, by omega, by omega, h2, (h1.below (Nat.le_refl _) (by simp)).trans (h3.below (by omega) (by simp))⟩
  clear h1 h2 h3 h4
  go_wp2_with fail
  generalize w1.heap.size + 1 = p at *
  go_loopg [8] (m + 1) (fun q s wr => ∃ i : Nat, i ≤ m + 1 ∧ q + i = m + 1 ∧ s = .int .i64 i ∧ Chain w p (i + 1) (fun i => i) (1 + (m : Int)) i wr)
  case atStart => exact ⟨0, by omega, by omega, rfl, hinit⟩
  case round =>
    obtain ⟨i, hi, hq, rfl, g, hg, hp, hst, hbel⟩ := hrel
    by_cases hlt : i < m + 1
    · go_wp2_with fail
      refine (st_make_yes _ _ _ _ _ _ _ hst (by omega) (by omega) (by omega) (by omega)).mono ?_
      rintro e w3 ⟨rfl, ha⟩
      have hfin : Chain w p (i + 1 + 1) (fun i => i) (1 + (m : Int)) (i + 1) w3 := Chain.aft (R := fun i => i) (n := 0) (cnt := 0) g hg hp hbel ha
      clear ha hst hbel
      go_wp2_with fail
      go_roundg (gk - 1)
      case measure => omega
      case rel => exact ⟨i + 1, by omega, by omega, by go_num, by simpa using hfin⟩
    · have hieq : i = m + 1 := by omega
      have HI := Lib.hid hieq
      have hinit2 : Chain w p (m + 1 + 1) (downR (m + 1) (m + 2 - 1)) (1 + (m : Int)) (m + 1) wr := by
        rw [show m + 2 - 1 = m + 1 from rfl, downR_top]
        exact ⟨g, hg, hp, by rw [HI.out] at hst; simpa using hst, hbel⟩
      clear hinit hst hbel hieq hq
      obtain ⟨wo, rfl⟩ : ∃ wo : World, wo = wr := ⟨_, rfl⟩
      go_wp2_with fail
      go_loopg [9] m (fun q s wr => ∃ i : Nat, 1 ≤ i ∧ i ≤ m + 1 ∧ q + i = m + 1 ∧ s = .int .i64 i ∧ Chain w p (m + 1 + 1) (downR (m + 1) (m + 2 - i)) (1 + (m : Int)) (m + 2 - i) wr)
      case atStart => exact ⟨1, by omega, by omega, by omega, rfl, by simpa [show (m : Int) + 2 - 1 = m + 1 by omega] using hinit2⟩
      case round =>
        clear hinit2
        clear hi HI
        obtain ⟨i, hi1, hi, hq, rfl, g, hg, hp, hst, hbel⟩ := hrel
        by_cases hlt : i < m + 1
        · go_wp2_with fail
          refine (st_join_yes _ _ _ _ _ _ _ _ _ hst (by have := down_can (m + 1) (m + 1 - i) (by omega) (by omega); rw [show m + 1 - i + 1 = m + 2 - i by omega, show ((m + 1 - i : Nat) : Int) = 1 + (m : Int) - (i : Int) by omega] at this; exact this) (by omega) (by omega)).mono ?_
          rintro e w3 ⟨rfl, ha⟩
          have ha2 : Aft wr p g (m + 1 + 1) (downR (m + 1) (m + 2 - (i + 1))) (1 + (m : Int)) (m + 2 - i - 1) w3 := by
            rw [show (1 + (m : Int) - (i : Int)).toNat = m + 1 - i by omega, show (1 + (m : Int) - (i : Int) + 1).toNat = m + 1 - i + 1 by omega, show m + 2 - i = m + 1 - i + 1 by omega, downR_step (m + 1) (m + 1 - i) (by omega)] at ha; rw [show m + 2 - (i + 1) = m + 1 - i by omega]; exact ha
          have hfin := Chain.aft (R := fun i => i) (n := 0) (cnt := 0) g hg hp hbel ha2
          clear ha ha2 hst hbel
          go_wp2_with fail
          go_roundg (gk - 1)
          case measure => omega
          case rel => exact ⟨i + 1, by omega, by omega, by omega, by go_num, by simpa [show (m : Int) + 2 - ((i : Int) + 1) = (m : Int) + 2 - i - 1 by omega] using hfin⟩
        · have hieq : i = m + 1 := by omega
          have HI := Lib.hid hieq
          have hinit3 : Chain w p (m + 1 + 1) (downR (m + 1) 1) (1 + (m : Int)) 1 wr := by
            refine ⟨g, hg, hp, ?_, hbel⟩
            rw [HI.out] at hst
            simpa [show (m : Int) + 2 - (m + 1) = 1 by omega, show m + 2 - (m + 1) = 1 by omega] using hst
          clear hst hbel hieq hq
          obtain ⟨wo2, rfl⟩ : ∃ wo : World, wo = wr := ⟨_, rfl⟩
          go_wp2_with fail
          go_loopg [11] (m + 1) (fun q s wr => ∃ i : Nat, 1 ≤ i ∧ i ≤ m + 2 ∧ q + i = m + 2 ∧ s = .int .i64 i ∧ Chain w p (m + 1 + 1) (downR (m + 1) 1) (1 + (m : Int)) 1 wr)
          case atStart => exact ⟨1, by omega, by omega, by omega, rfl, hinit3⟩
          case round =>
            clear hinit3
            clear hi1 hi HI
            obtain ⟨i, hi1, hi, hq, rfl, g, hg, hp, hst, hbel⟩ := hrel
            by_cases hlt : i < m + 2
            · have hroot : rootOf (m + 1 + 1) (downR (m + 1) 1) (i : Int) = (1, true) := by
                rw [rootOf, if_pos (by omega), Int.toNat_natCast]
                simp only [downR]; by_cases e : 1 < i ∧ i ≤ m + 1
                · rw [if_pos e]; simp; try omega
                · rw [if_neg e]; simp; omega
              have hne : ((1 : Int) != 1) = false := by simp
              go_wp2_with fail
              refine (st_root _ _ _ _ _ _ _ i hst).mono ?_
              rintro e w3 ⟨rfl, ha⟩
              rw [hroot]
              have hfin := Chain.aft (R := fun i => i) (n := 0) (cnt := 0) g hg hp hbel ha
              clear ha hst hbel hroot
              go_wp2_with fail
              go_roundg (gk - 1)
              case measure => omega
              case rel => exact ⟨i + 1, by omega, by omega, by omega, by go_num, hfin⟩
            · go_wp2_with fail
              refine (st_make_no _ _ _ _ _ _ _ hst (by omega) (by omega)).mono ?_
              rintro e w3 ⟨rfl, ha⟩
              obtain ⟨g2, hg2, _, hst2, hbel2⟩ := Chain.aft (R := fun i => i) (n := 0) (cnt := 0) g hg hp hbel ha
              clear ha hst hbel
              go_wp2_with fail
              refine (st_count _ _ _ _ _ _ _ hst2).mono ?_
              rintro e w4 ⟨rfl, rfl⟩
              go_wp2_with fail
              refine (st_last _ _ _ _ _ _ _ hst2 (by omega)).mono ?_
              rintro e w4 ⟨rfl, rfl⟩
              rw [show (((m + 1 + 1 : Nat) : Int) - 1) = 1 + (m : Int) by omega]
              have hk : ((1 + (m : Int)) == (1 + (m : Int))) = true := by simp
              go_wp2
              go_ret
              exact ⟨rfl, hbel2⟩

theorem namesChains_calls (w : World) (many : Int) (hw : (Lit.int .u8 many).wf = true) (up : Bool) :
    Calls Try.prog 6 #[.int .u8 many, .bool up] w fun e w' => e = .returned (.bool true) ∧ Below w.heap.size w w' := by
  have hb : 0 ≤ many ∧ many ≤ 255 := by
    simp [Lit.wf, IntKind.min, IntKind.max, IntKind.signed, IntKind.bits] at hw; omega
  obtain ⟨m, rfl⟩ := Int.eq_ofNat_of_zero_le hb.1
  cases up
  · exact chains_down w m (by omega)
  · exact chains_up w m (by omega)

end Go.Proofs.Ytohngmegombfgaa

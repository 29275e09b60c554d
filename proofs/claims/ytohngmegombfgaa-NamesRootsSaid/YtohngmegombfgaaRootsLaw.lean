/-
  The walk of the law NamesRoots: two rows of names, side by side; of one of them it is asked in between.
-/
import Derived.Test.YtohngmegombfgaaAlive
import Derived.Test.YtohngmegombfgaaElems
import Derived.Deep.LoopGhost
import Derived.Deep.DeepCutAuto
import Derived.Deep.CutBlock
import Derived.Deep.RegionHeld3
namespace Go.Proofs.Ytohngmegombfgaa
open Go.RowKit
set_option linter.unusedVariables false

/-- How many count as themselves. -/
def rootCount (n : Nat) (R : Nat → Nat) : Nat := (List.range n).countP fun i => R (i + 1) == i + 1

theorem rootCount_succ (n : Nat) (R : Nat → Nat) (h : R (n + 1) = n + 1) : rootCount (n + 1) R = rootCount n R + 1 := by
  simp [rootCount, List.range_succ, h]

theorem rootCount_join (n : Nat) (R : Nat → Nat) (a b : Nat) (hRa : R a = a) (hRb : R b = b) (hb0 : 0 < b) (hb : b < n + 1) (hab : a ≠ b) : rootCount n R = rootCount n (joinR R a b) + 1 := by
  have key : ∀ m, rootCount m R = rootCount m (joinR R a b) + if b - 1 < m then 1 else 0 := by
    intro m
    induction m with
    | zero => simp [rootCount]
    | succ m ih =>
      simp only [rootCount, List.range_succ, List.countP_append, List.countP_cons, List.countP_nil] at ih ⊢
      rw [ih]
      by_cases e : m + 1 = b
      · have h1 : (R (m + 1) == m + 1) = true := by rw [e, hRb]; simp
        have h2 : (joinR R a b (m + 1) == m + 1) = false := by rw [beq_eq_false_iff_ne, joinR, e, if_pos hRb]; omega
        have h7 : ¬ b - 1 < m := by omega
        have h8 : b - 1 < m + 1 := by omega
        rw [h1, h2, if_neg h7, if_pos h8]
        simp
      · have h3 : (joinR R a b (m + 1) == m + 1) = (R (m + 1) == m + 1) := by
          simp only [joinR]
          by_cases hr : R (m + 1) = b
          · rw [if_pos hr, hr]
            have h4 : ¬ a = m + 1 := by intro h4; rw [← h4, hRa] at hr; exact hab hr
            have h5 : ¬ b = m + 1 := by omega
            rw [beq_eq_false_iff_ne.2 h4, beq_eq_false_iff_ne.2 h5]
          · rw [if_neg hr]
        rw [h3]
        by_cases h6 : b - 1 < m
        · have h8 : b - 1 < m + 1 := by omega
          rw [if_pos h6, if_pos h8]; omega
        · have h8 : ¬ b - 1 < m + 1 := by omega
          rw [if_neg h6, if_neg h8]; omega
  have h9 : b - 1 < n := by omega
  have := key n
  rw [if_pos h9] at this
  exact this

theorem rootCount_pos {n : Nat} {R : Nat → Nat} {i : Nat} (h0 : 0 < i) (hi : i < n + 1) (hR : R i = i) : 0 < rootCount n R := by
  rw [rootCount, List.countP_pos_iff]
  exact ⟨i - 1, by simp; omega, by simp [show i - 1 + 1 = i by omega, hR]⟩

theorem canJoin_nat {n : Nat} {R : Nat → Nat} {a b : Int} (hc : canJoin (n + 1) R a b = true) :
    ∃ x y : Nat, a = x ∧ b = y ∧ 0 < x ∧ x < n + 1 ∧ R x = x ∧ 0 < y ∧ y < n + 1 ∧ R y = y ∧ x ≠ y := by
  simp only [canJoin, isRoot, Bool.and_eq_true, decide_eq_true_eq, beq_iff_eq, Bool.not_eq_true', beq_eq_false_iff_ne] at hc
  obtain ⟨⟨⟨⟨a0, a1⟩, a2⟩, ⟨b0, b1⟩, b2⟩, hab⟩ := hc
  obtain ⟨x, rfl⟩ := Int.eq_ofNat_of_zero_le (show 0 ≤ a by omega)
  obtain ⟨y, rfl⟩ := Int.eq_ofNat_of_zero_le (show 0 ≤ b by omega)
  rw [Int.toNat_natCast] at a2 b2
  exact ⟨x, y, rfl, rfl, by omega, by omega, a2, by omega, by omega, b2, by omega⟩

/-- Two rows of names, at the blocks p and q; another block xb is as it was. -/
structure RR (B p q xb : Nat) (xo : Option (Array Value × TypeId)) (g : Nat) (n : Nat) (R : Nat → Nat) (c : Int) (g' : Nat) (n' : Nat) (R' : Nat → Nat) (c' : Int) (wr : World) : Prop where
  s1 : St wr p g (n + 1) R 60 c
  s2 : St wr q g' (n' + 1) R' 60 c'
  b : B ≤ p ∧ B ≤ g ∧ B ≤ q ∧ B ≤ g'
  d : p ≠ q ∧ p ≠ g' ∧ g ≠ q ∧ g ≠ g'
  oth : ∀ o, xo = some o → wr.heap[xb]? = some (.cells o.1 o.2 (0, 0)) ∧ xb ≠ p ∧ xb ≠ q ∧ xb ≠ g ∧ xb ≠ g'

section
variable {B p q xb g g' n n' : Nat} {xo : Option (Array Value × TypeId)} {R R' : Nat → Nat} {c c' : Int} {wr w1 : World}

theorem RR.swap (h : RR B p q xb xo g n R c g' n' R' c' wr) : RR B q p xb xo g' n' R' c' g n R c wr := by
  have := h.b
  have := h.d
  exact ⟨h.s2, h.s1, by omega, by omega, fun o ho => by have := h.oth o ho; exact ⟨this.1, this.2.2.1, this.2.1, this.2.2.2.2, this.2.2.2.1⟩⟩

theorem RR.one {m : Nat} {Q : Nat → Nat} {k : Int} (h : RR B p q xb xo g n R c g' n' R' c' wr) (ha : Aft wr p g (m + 1) Q 60 k w1) (hB : B ≤ wr.heap.size) :
    ∃ g1, RR B p q xb xo g1 m Q k g' n' R' c' w1 ∧ Below B wr w1 := by
  obtain ⟨g1, h1, h2, h3⟩ := ha
  have hb := h.b
  have hd := h.d
  have l2 := h.s2.lt
  refine ⟨g1, ⟨h1, h.s2.keep h2 (by simp; omega) (by simp; omega), by omega, by omega, fun o ho => ?_⟩, h2.below hB ?_⟩
  · obtain ⟨e, e1, e2, e3, e4⟩ := h.oth o ho
    have := lt_of_block e
    exact ⟨h2.blk e (by simp; omega), e1, e2, by omega, e4⟩
  · intro k hk; simp at hk; omega

theorem RR.two {m : Nat} {Q : Nat → Nat} {k : Int} (h : RR B p q xb xo g n R c g' n' R' c' wr) (ha : Aft wr q g' (m + 1) Q 60 k w1) (hB : B ≤ wr.heap.size) :
    ∃ g1, RR B p q xb xo g n R c g1 m Q k w1 ∧ Below B wr w1 := by
  obtain ⟨g1, h1, h2⟩ := h.swap.one ha hB
  exact ⟨g1, h1.swap, h2⟩

theorem RR.drew (h : RR B p q xb xo g n R c g' n' R' c' wr) : RR B p q xb xo g n R c g' n' R' c' wr.drew :=
  ⟨h.s1.drewN 1, h.s2.drewN 1, h.b, h.d, h.oth⟩

theorem RR.new (h : RR B p q xb xo g n R c g' n' R' c' wr) (cs : Array Value) (t : TypeId) : RR B p q wr.heap.size (some (cs, t)) g n R c g' n' R' c' (wr.alloc (.cells cs t)) := by
  have l1 := h.s1.lt
  have l2 := h.s2.lt
  have hk : Keeps [] wr (wr.alloc (.cells cs t)) := (Keeps.refl _ _).alloc _
  refine ⟨h.s1.keep hk (by simp) (by simp), h.s2.keep hk (by simp) (by simp), h.b, h.d, fun o ho => ?_⟩
  simp only [Option.some.injEq] at ho
  subst ho
  exact ⟨blk_alloc_new _, by omega, by omega, by omega, by omega⟩

theorem RR.xcell {o : Array Value × TypeId} (h : RR B p q xb (some o) g n R c g' n' R' c' wr) (i : Nat) : wr.cell? ⟨xb, i, none⟩ = o.1[i]? := cell_of_blk (h.oth o rfl).1

theorem RR.forget (h : RR B p q xb xo g n R c g' n' R' c' wr) : RR B p q 0 none g n R c g' n' R' c' wr := ⟨h.s1, h.s2, h.b, h.d, fun o ho => by cases ho⟩

theorem RR.read {x y z : Int} {t : TypeId} (h : RR B p q xb (some (#[.int .i64 x, .int .i64 y, .int .i64 z], t)) g n R c g' n' R' c' wr) :
    wr.cell? ⟨xb, 1, none⟩ = some (.int .i64 y) ∧ wr.cell? ⟨xb, 2, none⟩ = some (.int .i64 z) := ⟨h.xcell 1, h.xcell 2⟩
end

/-- What holds at the head of a round. -/
def Pairs2 (w : World) (p q xb : Nat) (xo : Option (Array Value × TypeId)) (k : Nat) (wr : World) : Prop :=
  ∃ (g g' n : Nat) (R : Nat → Nat), RR w.heap.size p q xb xo g n R (rootCount n R) g' n R (rootCount n R) wr ∧ n ≤ 60 ∧ rootCount n R ≤ n ∧ Below w.heap.size w wr

set_option maxHeartbeats 4000000 in
set_option maxRecDepth 100000 in
theorem namesRoots_calls (w : World) (ad : Option Addr) (len cap : Nat) (C : Nat → List Value) (hl : len ≤ cap) (hm : cap ≤ maxLen) (hE : ∀ i, i < len → ActCells (C i)) (hr : IsRows w 3 ad len C)
    (ad1 : Option Addr) (len1 cap1 : Nat) (C1 : Nat → List Value) (hl1 : len1 ≤ cap1) (hm1 : cap1 ≤ maxLen) (hE1 : ∀ i, i < len1 → IntCells (C1 i)) (hr1 : IsRows w 1 ad1 len1 C1) :
    Calls Try.prog 5 #[.slice ad len cap, .slice ad1 len1 cap1] w fun e w' => e = .returned (.bool true) ∧ Below w.heap.size w w' := by
  by_cases h80 : 80 < len ∨ 80 < len1
  · have hb : decide ((80 : Int) < (len : Int)) = true ∨ (decide ((80 : Int) < (len : Int)) = false ∧ decide ((80 : Int) < (len1 : Int)) = true) := by simp; omega
    clear h80
    rcases hb with hb | ⟨hb, hb'⟩
    all_goals
      go_enter Try.func5, Try.ntmps5
      go_wp2_with fail
      refine (alive_calls w).mono ?_
      rintro e w1 ⟨rfl, h1⟩
      go_wp2
      go_ret
      exact ⟨rfl, h1.below (Nat.le_refl _) (by simp)⟩
  · have hb80 : decide ((80 : Int) < (len : Int)) = false := by rw [decide_eq_false_iff_not]; omega
    have hb81 : decide ((80 : Int) < (len1 : Int)) = false := by rw [decide_eq_false_iff_not]; omega
    have hl80 : len ≤ 80 := by omega
    have hl81 : len1 ≤ 80 := by omega
    clear h80
    go_enter Try.func5, Try.ntmps5
    go_wp2_with fail
    refine (alive_calls w).mono ?_
    rintro e w1 ⟨rfl, h1⟩
    go_wp2_with fail
    refine (st_new_yes w1 60 (by omega) (by omega)).mono ?_
    rintro e w2 ⟨rfl, h2, h3, h4⟩
    go_wp2_with fail
    refine (st_new_yes w2 60 (by omega) (by omega)).mono ?_
    rintro e w3 ⟨rfl, h5, h6, h7⟩
    have h1s := h1.size
    have hinit : Pairs2 w (w1.heap.size + 1) (w2.heap.size + 1) 0 none 0 w3 := by
      refine ⟨w1.heap.size, w2.heap.size, 0, fun i => i, ⟨h2.keep h6 (by simp) (by simp), h5, by omega, by omega, fun o ho => by cases ho⟩, by omega, by simp [rootCount], ?_⟩
      exact ((h1.below (Nat.le_refl _) (by simp)).trans (h3.below (by omega) (by simp))).trans (h6.below (by omega) (by simp))
    clear h1 h2 h3 h5 h6
    rw [h4] at hinit h7 
    go_wp2_with fail
    generalize w1.heap.size + 2 + 1 = q0 at *
    generalize w1.heap.size + 1 = p0 at *
    go_loopg [50] 81 (fun m s wr => ∃ k, k ≤ len ∧ m + k = 81 ∧ s = .int .i64 k ∧ Pairs2 w p0 q0 0 none k wr)
    case atStart => exact ⟨0, by omega, rfl, rfl, hinit⟩
    case round =>
      obtain ⟨k, hk, hgk, rfl, g, g', n, R, hrr, hn, hc, hbel⟩ := hrel
      by_cases hlt : k < len
      · obtain ⟨x, y, z, hC, _, _, _⟩ := hE k hlt
        obtain ⟨b, off, rfl, hbw, hcells⟩ : ∃ b off, ad = some ⟨b, off, none⟩ ∧ b < w.heap.size ∧ ∀ j, j < 3 → w.cell? ⟨b, off + (k * 3 + j), none⟩ = (C k)[j]? := by
          rcases hr with h0 | ⟨b, off, e, hb, hcs⟩
          · omega
          · exact ⟨b, off, e, hb, fun j hj => hcs k hlt j hj⟩
        have c0 := hcells 0 (by omega)
        have c1 := hcells 1 (by omega)
        have c2 := hcells 2 (by omega)
        rw [hC] at c0 c1 c2
        have e0 : wr.cell? ⟨b, off + k * 3, none⟩ = some (.int .i64 x) := (hbel.cell (p := ⟨b, off + k * 3, none⟩) hbw).trans c0
        have e1 : wr.cell? ⟨b, off + k * 3 + 1, none⟩ = some (.int .i64 y) := (hbel.cell (p := ⟨b, off + k * 3 + 1, none⟩) hbw).trans c1
        have e2 : wr.cell? ⟨b, off + k * 3 + 2, none⟩ = some (.int .i64 z) := (hbel.cell (p := ⟨b, off + k * 3 + 2, none⟩) hbw).trans c2
        clear c0 c1 c2 hcells hC hE hr
        have hsz := hbel.size
        go_upto_if 57 with fail
        go_cut [4] (fun _ wc => Pairs2 w p0 q0 0 none (k + 1) wc)
        case first =>
          have hrr1 := hrr.new #[.int .i64 x, .int .i64 y, .int .i64 z] 34
          have hbel1 : Below w.heap.size w (wr.alloc (.cells #[.int .i64 x, .int .i64 y, .int .i64 z] 34)) := hbel.alloc hsz _
          generalize (wr.alloc (.cells #[.int .i64 x, .int .i64 y, .int .i64 z] 34)) = wa at *
          clear e0 e1 e2 hrr hbel
          by_cases hx1 : x = 1
          · have hxb : (x == 1) = true := by simpa using hx1
            have hrr2 := hrr1.drew
            have hbel2 : Below w.heap.size w wa.drew := hbel1.drew
            clear hx1 hrr1 hbel1
            cases hcan : canJoin (n + 1) R y z with
            | true =>
              have HC := Lib.hid hcan
              clear hcan
              go_wp2_with fail
              go_region_held3 (fun w' => w'.cell? ⟨wr.heap.size, 1, none⟩ = some (.int .i64 y) ∧ w'.cell? ⟨wr.heap.size, 2, none⟩ = some (.int .i64 z))
                (exact RR.read (by assumption))
                (first
                  | (go_at_call_of 16 p0; refine (st_join_yes _ _ _ _ _ _ _ y z (RR.s1 (by assumption)) HC.out (by omega) (by omega)).mono ?_; rintro e w' ⟨rfl, ha⟩; obtain ⟨gx, q, qb1⟩ := RR.one (by assumption) ha (Below.size (w := w) (B := w.heap.size) (by assumption)); have qb := ((fun h => Below.trans h qb1) : Below w.heap.size w _ → Below w.heap.size w _) (by assumption); clear ha qb1)
                  | (go_at_call_of 16 q0; refine (st_join_yes _ _ _ _ _ _ _ y z (RR.s2 (by assumption)) HC.out (by omega) (by omega)).mono ?_; rintro e w' ⟨rfl, ha⟩; obtain ⟨gy, q2, qb1⟩ := RR.two (by assumption) ha (Below.size (w := w) (B := w.heap.size) (by assumption)); have qb2 := ((fun h => Below.trans h qb1) : Below w.heap.size w _ → Below w.heap.size w _) (by assumption); clear ha qb1))
              go_wp2_with fail
              go_meet
              obtain ⟨i, j, rfl, rfl, i0, i1, i2, j0, j1, j2, hij⟩ := canJoin_nat HC.out
              have hcnt := rootCount_join n R i j i2 j2 j0 j1 hij
              simp only [Int.toNat_natCast] at q2
              have e : (rootCount n R : Int) - 1 = (rootCount n (joinR R i j) : Int) := by omega
              rw [e] at q2
              exact ⟨_, _, n, joinR R i j, q2.forget, hn, by omega, qb2⟩
            | false =>
              have HC := Lib.hid hcan
              clear hcan
              go_wp2_with fail
              go_region_held3 (fun w' => w'.cell? ⟨wr.heap.size, 1, none⟩ = some (.int .i64 y) ∧ w'.cell? ⟨wr.heap.size, 2, none⟩ = some (.int .i64 z))
                (exact RR.read (by assumption))
                (first
                  | (go_at_call_of 16 p0; refine (st_join_no _ _ _ _ _ _ _ y z (RR.s1 (by assumption)) HC.out).mono ?_; rintro e w' ⟨rfl, ha⟩; obtain ⟨gx, q, qb1⟩ := RR.one (by assumption) ha (Below.size (w := w) (B := w.heap.size) (by assumption)); have qb := ((fun h => Below.trans h qb1) : Below w.heap.size w _ → Below w.heap.size w _) (by assumption); clear ha qb1)
                  | (go_at_call_of 16 q0; refine (st_join_no _ _ _ _ _ _ _ y z (RR.s2 (by assumption)) HC.out).mono ?_; rintro e w' ⟨rfl, ha⟩; obtain ⟨gy, q2, qb1⟩ := RR.two (by assumption) ha (Below.size (w := w) (B := w.heap.size) (by assumption)); have qb2 := ((fun h => Below.trans h qb1) : Below w.heap.size w _ → Below w.heap.size w _) (by assumption); clear ha qb1))
              go_wp2_with fail
              go_meet
              exact ⟨_, _, n, R, q2.forget, hn, hc, qb2⟩
          · have hxb : (x == 1) = false := by simpa using hx1
            clear hx1
            by_cases hmk : n < 60
            · go_wp2_with fail
              refine (st_make_yes _ _ _ _ _ _ _ hrr1.s1 (by omega) (by omega) (by omega) (by omega)).mono ?_
              rintro e wb ⟨rfl, ha⟩
              obtain ⟨g1, hrr2, hb2⟩ := hrr1.one ha hbel1.size
              go_wp2_with fail
              refine (st_make_yes _ _ _ _ _ _ _ hrr2.s2 (by omega) (by omega) (by omega) (by omega)).mono ?_
              rintro e wc ⟨rfl, ha2⟩
              obtain ⟨g2, hrr3, hb3⟩ := hrr2.two ha2 (hbel1.trans hb2).size
              have hcnt := rootCount_succ n R (hrr1.s1.out (Nat.le_refl _))
              have e : (rootCount n R : Int) + 1 = (rootCount (n + 1) R : Int) := by omega
              rw [e] at hrr3
              have hfin : Pairs2 w p0 q0 0 none (k + 1) wc := ⟨_, _, n + 1, R, hrr3.forget, by omega, by omega, (hbel1.trans hb2).trans hb3⟩
              clear hrr1 hrr2 hrr3 hbel1 hb2 hb3 ha ha2
              go_wp2_with fail
              go_meet
              exact hfin
            · go_wp2_with fail
              refine (st_make_no _ _ _ _ _ _ _ hrr1.s1 (by omega) (by omega)).mono ?_
              rintro e wb ⟨rfl, ha⟩
              obtain ⟨g1, hrr2, hb2⟩ := hrr1.one ha hbel1.size
              go_wp2_with fail
              refine (st_make_no _ _ _ _ _ _ _ hrr2.s2 (by omega) (by omega)).mono ?_
              rintro e wc ⟨rfl, ha2⟩
              obtain ⟨g2, hrr3, hb3⟩ := hrr2.two ha2 (hbel1.trans hb2).size
              have hfin : Pairs2 w p0 q0 0 none (k + 1) wc := ⟨_, _, n, R, hrr3.forget, by omega, by omega, (hbel1.trans hb2).trans hb3⟩
              clear hrr1 hrr2 hrr3 hbel1 hb2 hb3 ha ha2
              go_wp2_with fail
              go_meet
              exact hfin
        case rest =>
          clear hrr hbel e0 e1 e2
          obtain ⟨g1, g2, n1, R1, hrr, hn1, hc1, hbel⟩ := hcut
          by_cases hk1 : k < len1
          · obtain ⟨u, hC, _⟩ := hE1 k hk1
            obtain ⟨b1, off1, rfl, hbw1, hcells⟩ : ∃ b off, ad1 = some ⟨b, off, none⟩ ∧ b < w.heap.size ∧ ∀ j, j < 1 → w.cell? ⟨b, off + (k * 1 + j), none⟩ = (C1 k)[j]? := by
              rcases hr1 with h0 | ⟨b, off, e, hb, hcs⟩
              · omega
              · exact ⟨b, off, e, hb, fun j hj => hcs k hk1 j hj⟩
            have c0 := hcells 0 (by omega)
            rw [hC] at c0
            have e0 : wc.cell? ⟨b1, off1 + k, none⟩ = some (.int .i64 u) := (hbel.cell (p := ⟨b1, off1 + k, none⟩) hbw1).trans (by simpa using c0)
            clear c0 hcells hC
            go_wp2_with fail
            refine (st_root _ _ _ _ _ _ _ u hrr.s1).mono ?_
            rintro e wd ⟨rfl, ha⟩
            obtain ⟨g3, hrr2, hb2⟩ := hrr.one ha hbel.size
            clear hrr e0
            go_wp2_with fail
            go_roundg (gk - 1)
            case measure => omega
            case rel => exact ⟨k + 1, by omega, by omega, by go_num, _, _, n1, R1, hrr2, hn1, hc1, hbel.trans hb2⟩
          · go_wp2_with fail
            go_roundg (gk - 1)
            case measure => omega
            case rel => exact ⟨k + 1, by omega, by omega, by go_num, _, _, n1, R1, hrr, hn1, hc1, hbel⟩
      · obtain rfl : k = len := by omega
        clear hE hr hlt hE1 hr1
        obtain ⟨wo, rfl⟩ : ∃ wo : World, wo = wr := ⟨_, rfl⟩
        go_wp2_with fail
        go_loopg [11] (n + 1) (fun m s wr => ∃ (i g g' : Nat), 1 ≤ i ∧ i ≤ n + 1 ∧ m + i = n + 2 ∧ s = .int .i64 i ∧ RR w.heap.size p0 q0 0 none g n R (rootCount n R) g' n R (rootCount n R) wr ∧ Below w.heap.size w wr)
        case atStart => exact ⟨1, g, g', by omega, by omega, by omega, rfl, hrr, hbel⟩
        case round =>
          clear hrr hbel
          obtain ⟨i, g2, g3, hi1, hi2, hmi, rfl, hrr, hbel⟩ := hrel
          go_wp2_with fail
          refine (st_last _ _ _ _ _ _ _ hrr.s1 (by omega)).mono ?_
          rintro e w' ⟨rfl, rfl⟩
          by_cases hlt : i ≤ n
          · go_wp2_with fail
            refine (st_root _ _ _ _ _ _ _ i hrr.s1).mono ?_
            rintro e wd ⟨rfl, ha⟩
            obtain ⟨g4, hrr2, hb2⟩ := hrr.one ha hbel.size
            have hroot : rootOf (n + 1) R i = (((R i : Nat) : Int), true) := by rw [rootOf, if_pos (by omega), Int.toNat_natCast]
            rw [hroot]
            go_wp2_with fail
            refine (st_root _ _ _ _ _ _ _ i hrr2.s2).mono ?_
            rintro e we ⟨rfl, ha2⟩
            obtain ⟨g5, hrr3, hb3⟩ := hrr2.two ha2 (hbel.trans hb2).size
            rw [hroot]
            have hR := hrr.s1.root (i := i) (by omega) (by omega)
            obtain ⟨r, hr⟩ : ∃ r, r = R i := ⟨_, rfl⟩
            rw [← hr] at hR
            rw [← hr]
            have HRI := Lib.hid hr
            obtain ⟨hr1, hr2, hr3⟩ := hR
            have HR1 := Lib.hid hr1
            have hrn : ((r : Int) != (r : Int)) = false := by simp
            clear hrr hrr2 ha ha2 hroot hr hr1
            go_wp2_with fail
            refine (st_has _ _ _ _ _ _ _ _ hrr3.s1).mono ?_
            rintro e w' ⟨rfl, rfl⟩
            rw [show isRoot (n + 1) R (r : Int) = true by simp [isRoot, HR1.out]; omega]
            go_wp2_with fail
            refine (st_has _ _ _ _ _ _ _ _ hrr3.s1).mono ?_
            rintro e w' ⟨rfl, rfl⟩
            rw [show isRoot (n + 1) R (i : Int) = ((r : Int) == (i : Int)) by
              rw [HRI.out]
              by_cases e : R i = i
              · simp [isRoot, e]; omega
              · have e2 : ((R i : Int) == (i : Int)) = false := by rw [beq_eq_false_iff_ne]; omega
                simp [isRoot, e, e2]]
            have hrn2 : (((r : Int) == (i : Int)) != ((r : Int) == (i : Int))) = false := by simp
            go_wp2_with fail
            go_roundg (gk - 1)
            case measure => omega
            case rel => exact ⟨i + 1, g4, g5, by omega, by omega, by omega, by go_num, hrr3, (hbel.trans hb2).trans hb3⟩
          · go_wp2_with fail
            refine (st_last _ _ _ _ _ _ _ hrr.s1 (by omega)).mono ?_
            rintro e w' ⟨rfl, rfl⟩
            by_cases hn0 : n = 0
            · have e0 : ((n : Int) == 0) = true := by rw [beq_iff_eq]; omega
              clear hn0
              go_wp2
              go_ret
              exact ⟨rfl, hbel⟩
            · have e0 : ((n : Int) == 0) = false := by rw [beq_eq_false_iff_ne]; omega
              have hR := hrr.s1.root (i := 1) (by omega) (by omega)
              have hpos := rootCount_pos hR.2.1 hR.2.2 hR.1
              clear hR hn0
              go_wp2_with fail
              refine (st_count _ _ _ _ _ _ _ hrr.s1).mono ?_
              rintro e w' ⟨rfl, rfl⟩
              have hp1 : (1 : Int) ≤ (rootCount n R : Int) := by omega
              go_wp2
              go_ret
              exact ⟨rfl, hbel⟩

end Go.Proofs.Ytohngmegombfgaa

/-
  The walk of the law NamesRuns: the names and the document's, side by side.
-/
import Derived.Test.YtohngmegombfgaaRef
import Derived.Test.YtohngmegombfgaaAlive
import Derived.Test.YtohngmegombfgaaElems
import Derived.Deep.LoopGhost
import Derived.Deep.DeepCutAuto
import Derived.Deep.CutBlock
import Derived.Deep.RegionHeld3
namespace Go.Proofs.Ytohngmegombfgaa
open Go.RowKit

/-- The numbers and the document's joins tell the same. -/
structure Sim (n : Nat) (R : Nat → Nat) (J : List (Int × Int)) : Prop where
  fold : ∀ i : Nat, refFold J i = (R i : Int)
  gone : ∀ p ∈ J, ∃ c : Nat, p.2 = (c : Int) ∧ R c ≠ c

theorem Sim.has {n : Nat} {R : Nat → Nat} {J : List (Int × Int)} (h : Sim n R J) (id : Int) : refHas n J id = isRoot (n + 1) R id := by
  by_cases hr : 0 < id ∧ id < n + 1
  · obtain ⟨i, rfl⟩ := Int.eq_ofNat_of_zero_le (show 0 ≤ id by omega)
    have e : (J.any fun p => p.2 == (i : Int)) = !(R i == i) := by
      cases hj : (J.any fun p => p.2 == (i : Int)) with
      | true =>
        obtain ⟨p, hp, hpi⟩ := List.any_eq_true.1 hj
        obtain ⟨c, hc, hR⟩ := h.gone p hp
        have : c = i := by simp [hc] at hpi; omega
        subst this
        simp [hR]
      | false =>
        have hf : ∀ K : List (Int × Int), (K.any fun p => p.2 == (i : Int)) = false → refFold K i = (i : Int) := by
          intro K
          induction K with
          | nil => intro _; rfl
          | cons q K ih =>
            intro hK
            simp only [List.any_cons, Bool.or_eq_false_iff, beq_eq_false_iff_ne] at hK
            rw [refFold, List.foldl_cons, if_neg hK.1]
            exact ih hK.2
        have := hf J hj
        rw [h.fold i] at this
        have : R i = i := by omega
        simp [this]
    have a1 : (1 : Int) ≤ (i : Int) := by omega
    have a2 : (i : Int) ≤ (n : Int) := by omega
    have a3 : (i : Int) < ((n + 1 : Nat) : Int) := by omega
    have a4 : (0 : Int) < (i : Int) := by omega
    simp only [refHas, isRoot, e, Bool.not_not, Int.toNat_natCast, a1, a2, a3, a4, decide_true, Bool.and_true, Bool.true_and]
  · have e1 : (decide (1 ≤ id) && decide (id ≤ n)) = false := by
      rw [Bool.and_eq_false_iff, decide_eq_false_iff_not, decide_eq_false_iff_not]; omega
    have e2 : (decide (0 < id) && decide (id < ((n + 1 : Nat) : Int))) = false := by
      rw [Bool.and_eq_false_iff, decide_eq_false_iff_not, decide_eq_false_iff_not]; omega
    simp only [refHas, isRoot, e1, e2, Bool.and_false, Bool.false_and]

theorem Sim.root {n : Nat} {R : Nat → Nat} {J : List (Int × Int)} (h : Sim n R J) (id : Int) : refRoot n J id = rootOf (n + 1) R id := by
  by_cases hr : 0 < id ∧ id < n + 1
  · obtain ⟨i, rfl⟩ := Int.eq_ofNat_of_zero_le (show 0 ≤ id by omega)
    rw [refRoot, rootOf, if_pos (by omega), if_pos (by omega), h.fold, Int.toNat_natCast]
  · rw [refRoot, rootOf, if_neg (by omega), if_neg (by omega)]

theorem Sim.can {n : Nat} {R : Nat → Nat} {J : List (Int × Int)} (h : Sim n R J) (a b : Int) : refCan n J a b = canJoin (n + 1) R a b := by
  rw [refCan, canJoin, h.has, h.has]

theorem Sim.make {n : Nat} {R : Nat → Nat} {J : List (Int × Int)} (h : Sim n R J) : Sim (n + 1) R J := ⟨h.fold, h.gone⟩

theorem Sim.join {n : Nat} {R : Nat → Nat} {J : List (Int × Int)} (h : Sim n R J) {a b : Int} (hc : canJoin (n + 1) R a b = true) : Sim n (joinR R a.toNat b.toNat) (J ++ [(a, b)]) := by
  simp only [canJoin, isRoot, Bool.and_eq_true, decide_eq_true_eq, beq_iff_eq, Bool.not_eq_true', beq_eq_false_iff_ne] at hc
  obtain ⟨⟨⟨⟨a0, a1⟩, a2⟩, ⟨b0, b1⟩, b2⟩, hab⟩ := hc
  obtain ⟨x, rfl⟩ := Int.eq_ofNat_of_zero_le (show 0 ≤ a by omega)
  obtain ⟨y, rfl⟩ := Int.eq_ofNat_of_zero_le (show 0 ≤ b by omega)
  rw [Int.toNat_natCast] at a2 b2
  rw [Int.toNat_natCast, Int.toNat_natCast]
  refine ⟨fun i => ?_, fun p hp => ?_⟩
  · rw [refFold_snoc, h.fold i]
    simp only [joinR]
    by_cases e : R i = y
    · rw [if_pos e, if_pos (by omega)]
    · rw [if_neg e, if_neg (by omega)]
  · rw [List.mem_append, List.mem_singleton] at hp
    rcases hp with hp | rfl
    · obtain ⟨c, hc, hR⟩ := h.gone p hp
      refine ⟨c, hc, ?_⟩
      simp only [joinR]
      split
      · intro e; rw [← e] at hR; exact hR a2
      · exact hR
    · refine ⟨y, rfl, ?_⟩
      simp only [joinR, b2, if_true]
      omega

/-- The document's names lie in the variable at block bw; the names at block p; another block xb is as it was. -/
structure RS (B : Nat) (p bw xb : Nat) (xo : Array Value × TypeId) (most : Int) (g : Nat) (ao : Option Addr) (cap n : Nat) (R : Nat → Nat) (J : List (Int × Int)) (cnt : Int) (cw : Array Value) (wr : World) : Prop where
  st : St wr p g (n + 1) R most cnt
  prs : IsPairs wr (.slice ao J.length cap) J
  nil : J = [] → ao = none ∧ cap = 0
  blk : wr.heap[bw]? = some (.cells cw 32 (0, 0))
  oth : xb ≠ bw → wr.heap[xb]? = some (.cells xo.1 xo.2 (0, 0))
  hp : B ≤ p
  hg : B ≤ g
  hbw : B ≤ bw
  d1 : bw ≠ p
  d2 : bw ≠ g
  d3 : ∀ x, ao = some x → x.block ≠ p ∧ x.block ≠ g ∧ x.block ≠ bw ∧ x.block < wr.heap.size
  d4 : xb ≠ p ∧ xb ≠ g ∧ xb < wr.heap.size

/-- What the variable holds. -/
def refCells (most : Int) (n : Nat) (ao : Option Addr) (len cap : Nat) : Array Value := #[.int .i64 most, .int .i64 n, .slice ao len cap]

theorem IsPairs.keep {w w' : World} {S : List Nat} {ao : Option Addr} {cap : Nat} {J : List (Int × Int)} (h : IsPairs w (.slice ao J.length cap) J) (k : Keeps S w w') (hs : ∀ x, ao = some x → x.block ∉ S) : IsPairs w' (.slice ao J.length cap) J := by
  refine ⟨h.1, ?_⟩
  rcases h.2 with h0 | ⟨g, cap', cur, hv, hb, hg, r⟩
  · exact .inl h0
  · cases hv
    exact .inr ⟨g, cap, cur, rfl, hb, k.blk hg (hs ⟨g, 0, none⟩ rfl), r⟩

section
variable {B p bw xb g cap n : Nat} {xo : Array Value × TypeId} {most cnt : Int} {ao : Option Addr} {R : Nat → Nat} {J : List (Int × Int)} {cw : Array Value} {wr w1 : World}

/-- A call on the names. -/
theorem RS.names {n' : Nat} {cnt' : Int} {R' : Nat → Nat} (h : RS B p bw xb xo most g ao cap n R J cnt cw wr) (ha : Aft wr p g (n' + 1) R' most cnt' w1) (hB : B ≤ wr.heap.size) :
    ∃ g', RS B p bw xb xo most g' ao cap n' R' J cnt' cw w1 ∧ Below B wr w1 := by
  obtain ⟨g', h1, h2, h3⟩ := ha
  have hbw := lt_of_block h.blk
  have d1 := h.d1
  have d2 := h.d2
  have d4 := h.d4
  refine ⟨g', ⟨h1, h.prs.keep h2 ?_, h.nil, h2.blk h.blk ?_, fun hx => h2.blk (h.oth hx) ?_, h.hp, ?_, h.hbw, d1, ?_, ?_, ?_⟩, h2.below hB ?_⟩
  · intro x hx; have := h.d3 x hx; simp; omega
  · simp; omega
  · simp; omega
  · have := h.hg; omega
  · omega
  · intro x hx; have := h.d3 x hx; have := h2.size; omega
  · have := h2.size; omega
  · intro k hk; have := h.hp; have := h.hg; simp at hk; omega

/-- A call that makes new memory alone. -/
theorem RS.ref (h : RS B p bw xb xo most g ao cap n R J cnt cw wr) (hb : Below wr.heap.size wr w1) : RS B p bw xb xo most g ao cap n R J cnt cw w1 := by
  have hk := Below.keeps hb (Nat.le_refl _) []
  refine ⟨h.st.keep hk (by simp) (by simp), h.prs.keep hk (by simp), h.nil, hk.blk h.blk (by simp), fun hx => hk.blk (h.oth hx) (by simp), h.hp, h.hg, h.hbw, h.d1, h.d2, fun x hx => ?_, ?_⟩
  · have := h.d3 x hx; have := hb.size; omega
  · have := h.d4; have := hb.size; omega

theorem RS.alloc (h : RS B p bw xb xo most g ao cap n R J cnt cw wr) (o : Obj) : RS B p bw xb xo most g ao cap n R J cnt cw (wr.alloc o) :=
  h.ref ((Below.refl _ _).alloc (Nat.le_refl _) _)

theorem RS.drewN (h : RS B p bw xb xo most g ao cap n R J cnt cw wr) (k : Nat) : RS B p bw xb xo most g ao cap n R J cnt cw (wr.drewN k) :=
  h.ref ⟨rfl, rfl, rfl, Nat.le_refl _, fun _ _ => rfl⟩

/-- Other joins lie elsewhere. -/
theorem RS.pairs {ao' : Option Addr} {cap' : Nat} {J' : List (Int × Int)} (h : RS B p bw xb xo most g ao cap n R J cnt cw wr) (hp : IsPairs wr (.slice ao' J'.length cap') J') (hn : J' = [] → ao' = none ∧ cap' = 0)
    (hd : ∀ x, ao' = some x → x.block ≠ p ∧ x.block ≠ g ∧ x.block ≠ bw ∧ x.block < wr.heap.size) : RS B p bw xb xo most g ao' cap' n R J' cnt cw wr :=
  ⟨h.st, hp, hn, h.blk, h.oth, h.hp, h.hg, h.hbw, h.d1, h.d2, hd, h.d4⟩

/-- A store into the variable. -/
theorem RS.store (h : RS B p bw xb xo most g ao cap n R J cnt cw wr) (i : Nat) (v : Value) : RS B p bw xb xo most g ao cap n R J cnt (cw.setIfInBounds i v) (wr.setCell ⟨bw, i, none⟩ v) := by
  have hk : Keeps [bw] wr (wr.setCell ⟨bw, i, none⟩ v) := (Keeps.refl _ _).setCell (.inl (by simp)) _
  have d1 := h.d1
  have d2 := h.d2
  have d4 := h.d4
  refine ⟨h.st.keep hk (by simp; omega) (by simp; omega), h.prs.keep hk (fun x hx => by have := h.d3 x hx; simp; omega), h.nil, blk_setCell _ h.blk, fun hx => hk.blk (h.oth hx) (by simpa using hx), h.hp, h.hg, h.hbw, d1, d2, fun x hx => ?_, ?_⟩
  · have := h.d3 x hx
    simpa using this
  · simpa using d4

theorem RS.cast {cnt' : Int} {cw' : Array Value} (h : RS B p bw xb xo most g ao cap n R J cnt cw wr) (e1 : cnt = cnt') (e2 : cw = cw') : RS B p bw xb xo most g ao cap n R J cnt' cw' wr := by
  subst e1; subst e2; exact h

/-- Another block is looked at. -/
theorem RS.other (h : RS B p bw xb xo most g ao cap n R J cnt cw wr) {yb : Nat} {yo : Array Value × TypeId} (ho : wr.heap[yb]? = some (.cells yo.1 yo.2 (0, 0))) (hy : yb ≠ p ∧ yb ≠ g ∧ yb ≠ bw) : RS B p bw yb yo most g ao cap n R J cnt cw wr :=
  ⟨h.st, h.prs, h.nil, h.blk, fun _ => ho, h.hp, h.hg, h.hbw, h.d1, h.d2, h.d3, hy.1, hy.2.1, lt_of_block ho⟩

theorem RS.cell (h : RS B p bw xb xo most g ao cap n R J cnt cw wr) (i : Nat) : wr.cell? ⟨bw, i, none⟩ = cw[i]? := cell_of_blk h.blk
theorem RS.frozen (h : RS B p bw xb xo most g ao cap n R J cnt cw wr) (i : Nat) : wr.frozen? ⟨bw, i, none⟩ = false := frozen_of_blk h.blk
theorem RS.xcell (h : RS B p bw xb xo most g ao cap n R J cnt cw wr) (hx : xb ≠ bw) (i : Nat) : wr.cell? ⟨xb, i, none⟩ = xo.1[i]? := cell_of_blk (h.oth hx)
end

theorem RS.read {B p bw xb g cap n : Nat} {x y z : Int} {t : TypeId} {most cnt : Int} {ao : Option Addr} {R : Nat → Nat} {J : List (Int × Int)} {wr : World}
    (h : RS B p bw xb (#[.int .i64 x, .int .i64 y, .int .i64 z], t) most g ao cap n R J cnt (refCells most n ao J.length cap) wr) (hx : xb ≠ bw) :
    wr.cell? ⟨xb, 2, none⟩ = some (.int .i64 z) ∧ wr.cell? ⟨bw, 0, none⟩ = some (.int .i64 most) ∧ wr.cell? ⟨bw, 1, none⟩ = some (.int .i64 n) ∧ wr.cell? ⟨bw, 2, none⟩ = some (.slice ao J.length cap) :=
  ⟨h.xcell hx 2, h.cell 0, h.cell 1, h.cell 2⟩

/-- What holds at the head of a round: 'xb' is a block that is there anyway. -/
def Runs (w : World) (p bw xb : Nat) (xo : Array Value × TypeId) (most : Int) (k : Nat) (wr : World) : Prop :=
  ∃ (g : Nat) (ao : Option Addr) (cap n : Nat) (R : Nat → Nat) (J : List (Int × Int)), RS w.heap.size p bw xb xo most g ao cap n R J (n - J.length) (refCells most n ao J.length cap) wr ∧ Sim n R J ∧ n ≤ most ∧ J.length ≤ k ∧ Below w.heap.size w wr

set_option maxHeartbeats 4000000 in
set_option maxRecDepth 100000 in
theorem namesRuns_calls (w : World) (most : Int) (hw : (Lit.int .u8 most).wf = true) (ad : Option Addr) (len cap : Nat) (C : Nat → List Value) (_hl : len ≤ cap) (_hm : cap ≤ maxLen)
    (hE : ∀ i, i < len → ActCells (C i)) (hr : IsRows w 3 ad len C) :
    Calls Try.prog 4 #[.int .u8 most, .slice ad len cap] w fun e w' => e = .returned (.bool true) ∧ Below w.heap.size w w' := by
  have hmost : 0 ≤ most ∧ most ≤ 255 := by
    simp [Lit.wf, IntKind.min, IntKind.max, IntKind.signed, IntKind.bits] at hw; omega
  obtain ⟨hm0, hm1⟩ := hmost
  by_cases h80 : 80 < len
  · go_enter Try.func4, Try.ntmps4
    go_wp2_with fail
    refine (alive_calls w).mono ?_
    rintro e w1 ⟨rfl, h1⟩
    go_wp2
    go_ret
    exact ⟨rfl, h1.below (Nat.le_refl _) (by simp)⟩
  · have hb80 : decide ((80 : Int) < (len : Int)) = false := by rw [decide_eq_false_iff_not]; omega
    have hl80 : len ≤ 80 := by omega
    clear h80
    go_enter Try.func4, Try.ntmps4
    go_wp2_with fail
    refine (alive_calls w).mono ?_
    rintro e w1 ⟨rfl, h1⟩
    go_wp2_with fail
    refine (st_new_yes w1 most (by omega) (by omega)).mono ?_
    rintro e w2 ⟨rfl, h2, h3, h4⟩
    have h1s := h1.size
    have hinit : Runs w (w1.heap.size + 1) (w1.heap.size + 2) (w1.heap.size + 2) (refCells most 0 none 0 0, 32) most 0 (w2.alloc (.cells #[.int .i64 most, .int .i64 0, .slice none 0 0] 32)) := by
      have hn := blk_alloc_new (w := w2) (.cells #[.int .i64 most, .int .i64 0, .slice none 0 0] 32)
      rw [h4] at hn
      have hb2 : Below w.heap.size w w2 := (h1.below (Nat.le_refl _) (by simp)).trans (h3.below (by omega) (by simp))
      refine ⟨w1.heap.size, none, 0, 0, fun i => i, [], ⟨h2.keep ((Keeps.refl [] _).alloc _) (by simp) (by simp), World.ownsRow_nil _ _ _ _, fun _ => ⟨rfl, rfl⟩, hn, fun _ => hn, by omega, by omega, by omega, by omega, by omega, by simp, by omega, by omega, by simp; omega⟩, ⟨fun i => rfl, by simp⟩, by omega, by simp, hb2.alloc (by have := hb2.size; omega) _⟩
    have hb2 : Below w.heap.size w w2 := (h1.below (Nat.le_refl _) (by simp)).trans (h3.below (by omega) (by simp))
    clear h1 h3
    go_wp2_with fail
    go_loopg [48] 81 (fun m s wr => ∃ k xb xo, k ≤ len ∧ m + k = 81 ∧ s = .int .i64 k ∧ Runs w (w1.heap.size + 1) (w1.heap.size + 2) xb xo most k wr)
    case atStart => exact ⟨0, _, _, by omega, rfl, rfl, hinit⟩
    case round =>
      obtain ⟨k, xb0, xo0, hk, hgk, rfl, hruns⟩ := hrel
      by_cases hlt : k < len
      · obtain ⟨x, y, z, hC, _, _, _⟩ := hE k hlt
        obtain ⟨b, off, rfl, hbw, hcells⟩ : ∃ b off, ad = some ⟨b, off, none⟩ ∧ b < w.heap.size ∧ ∀ j, j < 3 → w.cell? ⟨b, off + (k * 3 + j), none⟩ = (C k)[j]? := by
          rcases hr with h0 | ⟨b, off, e, hb, hcs⟩
          · omega
          · exact ⟨b, off, e, hb, fun j hj => hcs k hlt j hj⟩
        have c0 := hcells 0 (by omega)
        have c1 := hcells 1 (by omega)
        have c2 := hcells 2 (by omega)
        rw [hC] at c0 c1 c2
        obtain ⟨g, ao, cp, n, R, J, hrs, hsim, hnm, hJ, hbel⟩ := hruns
        have e0 : wr.cell? ⟨b, off + k * 3, none⟩ = some (.int .i64 x) := (hbel.cell (p := ⟨b, off + k * 3, none⟩) hbw).trans c0
        have e1 : wr.cell? ⟨b, off + k * 3 + 1, none⟩ = some (.int .i64 y) := (hbel.cell (p := ⟨b, off + k * 3 + 1, none⟩) hbw).trans c1
        have e2 : wr.cell? ⟨b, off + k * 3 + 2, none⟩ = some (.int .i64 z) := (hbel.cell (p := ⟨b, off + k * 3 + 2, none⟩) hbw).trans c2
        clear c0 c1 c2 hcells hC hE hr
        have hsz := hbel.size
        have hrs1 : RS w.heap.size (w1.heap.size + 1) (w1.heap.size + 2) wr.heap.size (#[.int .i64 x, .int .i64 y, .int .i64 z], 34) most g ao cp n R J (n - J.length) (refCells most n ao J.length cp) (wr.alloc (.cells #[.int .i64 x, .int .i64 y, .int .i64 z] 34)) := by
          refine (hrs.alloc _).other (blk_alloc_new _) ?_
          have := hrs.st.lt
          have := lt_of_block hrs.blk
          omega
        have hbel1 : Below w.heap.size w (wr.alloc (.cells #[.int .i64 x, .int .i64 y, .int .i64 z] 34)) := hbel.alloc hsz _
        have hbw1 : w1.heap.size + 2 < wr.heap.size := lt_of_block hrs.blk
        go_upto_block 2 with fail
        go_cut [10] (fun _ wc => Runs w (w1.heap.size + 1) (w1.heap.size + 2) wr.heap.size (#[.int .i64 x, .int .i64 y, .int .i64 z], 34) most (k + 1) wc)
        case first =>
          generalize (wr.alloc (.cells #[.int .i64 x, .int .i64 y, .int .i64 z] 34)) = wa at *
          clear e0 e1 e2 hrs hbel
          by_cases hx0 : x = 0
          · have hxb : (x == 0) = true := by simpa using hx0
            clear hx0
            by_cases hmk : (n : Int) < most
            · go_wp2_with fail
              refine (st_make_yes _ _ _ _ _ _ _ hrs1.st (by omega) (by omega) (by omega) (by omega)).mono ?_
              rintro e wb ⟨rfl, haft⟩
              obtain ⟨g2, hrs2, hbel2⟩ := hrs1.names haft (by have := hbel1.size; omega)
              have z0 : wb.cell? ⟨w1.heap.size + 2, 0, none⟩ = some (.int .i64 most) := hrs2.cell 0
              have z1 : wb.cell? ⟨w1.heap.size + 2, 1, none⟩ = some (.int .i64 n) := hrs2.cell 1
              have z2 : wb.cell? ⟨w1.heap.size + 2, 2, none⟩ = some (.slice ao J.length cp) := hrs2.cell 2
              go_wp2_with fail
              refine (ref_make _ most n ao J.length cp (by omega) (by omega) hmk).mono ?_
              rintro e wc ⟨rfl, h14⟩
              have hrs3 := hrs2.ref h14
              have hbel3 : Below w.heap.size w wc := (hbel1.trans hbel2).trans (h14.mono (by have := (hbel1.trans hbel2).size; omega))
              clear z0 z1 z2
              have z0 : wc.cell? ⟨w1.heap.size + 2, 0, none⟩ = some (.int .i64 most) := hrs3.cell 0
              have z1 : wc.cell? ⟨w1.heap.size + 2, 1, none⟩ = some (.int .i64 n) := hrs3.cell 1
              have z2 : wc.cell? ⟨w1.heap.size + 2, 2, none⟩ = some (.slice ao J.length cp) := hrs3.cell 2
              have f0 : wc.frozen? ⟨w1.heap.size + 2, 0, none⟩ = false := hrs3.frozen 0
              have f1 : wc.frozen? ⟨w1.heap.size + 2, 1, none⟩ = false := hrs3.frozen 1
              have f2 : wc.frozen? ⟨w1.heap.size + 2, 2, none⟩ = false := hrs3.frozen 2
              have hs3 := hbel3.size
              have hb3 : w1.heap.size + 2 < wc.heap.size := lt_of_block hrs3.blk
              have hfin : Runs w (w1.heap.size + 1) (w1.heap.size + 2) wr.heap.size (#[.int .i64 x, .int .i64 y, .int .i64 z], 34) most (k + 1) ((((wc.setCell ⟨w1.heap.size + 2, 0, none⟩ (.int .i64 most)).setCell ⟨w1.heap.size + 2, 1, none⟩ (.int .i64 ((n : Int) + 1))).setCell ⟨w1.heap.size + 2, 2, none⟩ (.slice ao J.length cp)).alloc (.cells #[.int .i64 most, .int .i64 ((n : Int) + 1), .slice ao J.length cp] 32)) :=
                ⟨g2, ao, cp, n + 1, R, J, ((((hrs3.store 0 _).store 1 _).store 2 _).alloc _).cast (by omega) (by simp [refCells]), hsim.make, by omega, by omega, ((((hbel3.setCell (by simp; omega) _).setCell (by simp; omega) _).setCell (by simp; omega) _).alloc (by simp; omega) _)⟩
              clear hrs2 hrs3 hrs1 hbel2 hbel3 h14 haft
              go_wp2_with fail
              go_meet
              exact hfin
            · have hnm' : most = n := by omega
              clear hmk
              go_wp2_with fail
              refine (st_make_no _ _ _ _ _ _ _ hrs1.st (by omega) (by omega)).mono ?_
              rintro e wb ⟨rfl, haft⟩
              obtain ⟨g2, hrs2, hbel2⟩ := hrs1.names haft (by have := hbel1.size; omega)
              have HM := Lib.hid hnm'
              clear hnm'
              have z0 : wb.cell? ⟨w1.heap.size + 2, 0, none⟩ = some (.int .i64 most) := hrs2.cell 0
              have z1 : wb.cell? ⟨w1.heap.size + 2, 1, none⟩ = some (.int .i64 n) := hrs2.cell 1
              have z2 : wb.cell? ⟨w1.heap.size + 2, 2, none⟩ = some (.slice ao J.length cp) := hrs2.cell 2
              go_wp2_with fail
              refine (ref_make_no _ most n ao J.length cp (by rw [HM.out]; exact Int.le_refl _)).mono ?_
              rintro e wc ⟨rfl, h14⟩
              have hrs3 := hrs2.ref h14
              have hbel3 : Below w.heap.size w wc := (hbel1.trans hbel2).trans (h14.mono (by have := (hbel1.trans hbel2).size; omega))
              clear z0 z1 z2
              have z0 : wc.cell? ⟨w1.heap.size + 2, 0, none⟩ = some (.int .i64 most) := hrs3.cell 0
              have z1 : wc.cell? ⟨w1.heap.size + 2, 1, none⟩ = some (.int .i64 n) := hrs3.cell 1
              have z2 : wc.cell? ⟨w1.heap.size + 2, 2, none⟩ = some (.slice ao J.length cp) := hrs3.cell 2
              have f0 : wc.frozen? ⟨w1.heap.size + 2, 0, none⟩ = false := hrs3.frozen 0
              have f1 : wc.frozen? ⟨w1.heap.size + 2, 1, none⟩ = false := hrs3.frozen 1
              have f2 : wc.frozen? ⟨w1.heap.size + 2, 2, none⟩ = false := hrs3.frozen 2
              have hs3 := hbel3.size
              have hb3 : w1.heap.size + 2 < wc.heap.size := lt_of_block hrs3.blk
              have hfin : Runs w (w1.heap.size + 1) (w1.heap.size + 2) wr.heap.size (#[.int .i64 x, .int .i64 y, .int .i64 z], 34) most (k + 1) ((((wc.setCell ⟨w1.heap.size + 2, 0, none⟩ (.int .i64 most)).setCell ⟨w1.heap.size + 2, 1, none⟩ (.int .i64 n)).setCell ⟨w1.heap.size + 2, 2, none⟩ (.slice ao J.length cp)).alloc (.cells #[.int .i64 most, .int .i64 n, .slice ao J.length cp] 32)) :=
                ⟨g2, ao, cp, n, R, J, ((((hrs3.store 0 _).store 1 _).store 2 _).alloc _).cast rfl (by simp [refCells]), hsim, by omega, by omega, ((((hbel3.setCell (by simp; omega) _).setCell (by simp; omega) _).setCell (by simp; omega) _).alloc (by simp; omega) _)⟩
              clear hrs2 hrs3 hrs1 hbel2 hbel3 h14 haft
              go_wp2_with fail
              go_meet
              exact hfin
          · have hxb : (x == 0) = false := by simpa using hx0
            clear hx0
            by_cases hx1 : x = 1
            · have hxb1 : (x == 1) = true := by simpa using hx1
              clear hx1
              have z0 : wa.cell? ⟨w1.heap.size + 2, 0, none⟩ = some (.int .i64 most) := hrs1.cell 0
              have z1 : wa.cell? ⟨w1.heap.size + 2, 1, none⟩ = some (.int .i64 n) := hrs1.cell 1
              have z2 : wa.cell? ⟨w1.heap.size + 2, 2, none⟩ = some (.slice ao J.length cp) := hrs1.cell 2
              have y1 : wa.cell? ⟨wr.heap.size, 1, none⟩ = some (.int .i64 y) := hrs1.xcell (by omega) 1
              have y2 : wa.cell? ⟨wr.heap.size, 2, none⟩ = some (.int .i64 z) := hrs1.xcell (by omega) 2
              cases hcan : canJoin (n + 1) R y z with
              | true =>
                have HC := Lib.hid hcan
                clear hcan
                go_wp2_with fail
                refine (ref_join_yes _ most n ao cp J y z hrs1.prs hrs1.nil (by omega) (by rw [hsim.can]; exact HC.out)).mono ?_
                rintro e wb ⟨gj, cj, rfl, hpj, hbj, hgj⟩
                have hrs2 := (hrs1.ref hbj).pairs hpj (by simp) (by
                  intro q hq
                  simp only [Option.some.injEq] at hq
                  subst hq
                  have h1 := hrs1.st.lt
                  have h2 := lt_of_block hrs1.blk
                  have h3 := row_lt hpj
                  simp only
                  omega)
                have hbel2 : Below w.heap.size w wb := hbel1.trans (hbj.mono (by have := hbel1.size; omega))
                clear z0 z1 z2 y1 y2
                have z0 : wb.cell? ⟨w1.heap.size + 2, 0, none⟩ = some (.int .i64 most) := hrs2.cell 0
                have z1 : wb.cell? ⟨w1.heap.size + 2, 1, none⟩ = some (.int .i64 n) := hrs2.cell 1
                have z2 : wb.cell? ⟨w1.heap.size + 2, 2, none⟩ = some (.slice ao J.length cp) := hrs2.cell 2
                have f0 : wb.frozen? ⟨w1.heap.size + 2, 0, none⟩ = false := hrs2.frozen 0
                have f1 : wb.frozen? ⟨w1.heap.size + 2, 1, none⟩ = false := hrs2.frozen 1
                have f2 : wb.frozen? ⟨w1.heap.size + 2, 2, none⟩ = false := hrs2.frozen 2
                have y1 : wb.cell? ⟨wr.heap.size, 1, none⟩ = some (.int .i64 y) := hrs2.xcell (by omega) 1
                have y2 : wb.cell? ⟨wr.heap.size, 2, none⟩ = some (.int .i64 z) := hrs2.xcell (by omega) 2
                have hs3 := hbel2.size
                have hb3 : w1.heap.size + 2 < wb.heap.size := lt_of_block hrs2.blk
                have hd4 := hrs2.d4
                have hb4 : wr.heap.size < wb.heap.size := hrs2.d4.2.2
                have hrs3 := (((((hrs2.store 0 (.int .i64 most)).store 1 (.int .i64 n)).store 2 (.slice (some ⟨gj, 0, none⟩) (J.length + 1) cj)).alloc (.cells #[.int .i64 most, .int .i64 n, .slice (some ⟨gj, 0, none⟩) (J.length + 1) cj] 32))).cast (cw' := refCells most n (some ⟨gj, 0, none⟩) (J.length + 1) cj) rfl (by simp [refCells])
                have hbel3 : Below w.heap.size w ((((wb.setCell ⟨w1.heap.size + 2, 0, none⟩ (.int .i64 most)).setCell ⟨w1.heap.size + 2, 1, none⟩ (.int .i64 n)).setCell ⟨w1.heap.size + 2, 2, none⟩ (.slice (some ⟨gj, 0, none⟩) (J.length + 1) cj)).alloc (.cells #[.int .i64 most, .int .i64 n, .slice (some ⟨gj, 0, none⟩) (J.length + 1) cj] 32)) := ((((hbel2.setCell (by simp; omega) _).setCell (by simp; omega) _).setCell (by simp; omega) _).alloc (by simp; omega) _)
                go_wp2_with fail
                refine (st_join_yes _ _ _ _ _ _ _ _ _ hrs3.st HC.out (by omega) (by omega)).mono ?_
                rintro e wc ⟨rfl, haft⟩
                obtain ⟨g2, hrs4, hbel4⟩ := hrs3.names haft (by have := hbel3.size; omega)
                have hfin : Runs w (w1.heap.size + 1) (w1.heap.size + 2) wr.heap.size (#[.int .i64 x, .int .i64 y, .int .i64 z], 34) most (k + 1)  wc :=
                  ⟨g2, _, cj, n, _, _, hrs4.cast (by simp; omega) (by simp), hsim.join HC.out, by omega, by simp; omega, hbel3.trans hbel4⟩
                clear hrs2 hrs3 hrs1 hrs4 hbel2 hbel3 hbel4 haft
                go_wp2_with fail
                go_meet
                exact hfin
              | false =>
                have HC := Lib.hid hcan
                clear hcan
                go_wp2_with fail
                refine (ref_join_no _ most n ao cp J y z hrs1.prs (by omega) (by rw [hsim.can]; exact HC.out)).mono ?_
                rintro e wb ⟨rfl, hbj⟩
                have hrs2 := hrs1.ref hbj
                have hbel2 : Below w.heap.size w wb := hbel1.trans (hbj.mono (by have := hbel1.size; omega))
                clear z0 z1 z2 y1 y2
                have z0 : wb.cell? ⟨w1.heap.size + 2, 0, none⟩ = some (.int .i64 most) := hrs2.cell 0
                have z1 : wb.cell? ⟨w1.heap.size + 2, 1, none⟩ = some (.int .i64 n) := hrs2.cell 1
                have z2 : wb.cell? ⟨w1.heap.size + 2, 2, none⟩ = some (.slice ao J.length cp) := hrs2.cell 2
                have f0 : wb.frozen? ⟨w1.heap.size + 2, 0, none⟩ = false := hrs2.frozen 0
                have f1 : wb.frozen? ⟨w1.heap.size + 2, 1, none⟩ = false := hrs2.frozen 1
                have f2 : wb.frozen? ⟨w1.heap.size + 2, 2, none⟩ = false := hrs2.frozen 2
                have y1 : wb.cell? ⟨wr.heap.size, 1, none⟩ = some (.int .i64 y) := hrs2.xcell (by omega) 1
                have y2 : wb.cell? ⟨wr.heap.size, 2, none⟩ = some (.int .i64 z) := hrs2.xcell (by omega) 2
                have hs3 := hbel2.size
                have hb3 : w1.heap.size + 2 < wb.heap.size := lt_of_block hrs2.blk
                have hd4 := hrs2.d4
                have hb4 : wr.heap.size < wb.heap.size := hrs2.d4.2.2
                have hrs3 := (((((hrs2.store 0 (.int .i64 most)).store 1 (.int .i64 n)).store 2 (.slice ao J.length cp)).alloc (.cells #[.int .i64 most, .int .i64 n, .slice ao J.length cp] 32))).cast (cw' := refCells most n ao J.length cp) rfl (by simp [refCells])
                have hbel3 : Below w.heap.size w ((((wb.setCell ⟨w1.heap.size + 2, 0, none⟩ (.int .i64 most)).setCell ⟨w1.heap.size + 2, 1, none⟩ (.int .i64 n)).setCell ⟨w1.heap.size + 2, 2, none⟩ (.slice ao J.length cp)).alloc (.cells #[.int .i64 most, .int .i64 n, .slice ao J.length cp] 32)) := ((((hbel2.setCell (by simp; omega) _).setCell (by simp; omega) _).setCell (by simp; omega) _).alloc (by simp; omega) _)
                go_wp2_with fail
                refine (st_join_no _ _ _ _ _ _ _ _ _ hrs3.st HC.out).mono ?_
                rintro e wc ⟨rfl, haft⟩
                obtain ⟨g2, hrs4, hbel4⟩ := hrs3.names haft (by have := hbel3.size; omega)
                have hfin : Runs w (w1.heap.size + 1) (w1.heap.size + 2) wr.heap.size (#[.int .i64 x, .int .i64 y, .int .i64 z], 34) most (k + 1)  wc :=
                  ⟨g2, _, cp, n, _, _, hrs4, hsim, by omega, by omega, hbel3.trans hbel4⟩
                clear hrs2 hrs3 hrs1 hrs4 hbel2 hbel3 hbel4 haft
                go_wp2_with fail
                go_meet
                exact hfin
            · have hxb1 : (x == 1) = false := by simpa using hx1
              clear hx1
              have hfin : Runs w (w1.heap.size + 1) (w1.heap.size + 2) wr.heap.size (#[.int .i64 x, .int .i64 y, .int .i64 z], 34) most (k + 1)  wa := ⟨g, ao, cp, n, R, J, hrs1, hsim, hnm, by omega, hbel1⟩
              clear hrs1 hbel1
              go_wp2_with fail
              go_meet
              exact hfin
        case rest =>
          clear hrs hrs1 hbel hbel1 e0 e1 e2 hinit hb2 h2 hsim hnm hJ
          obtain ⟨g2, ao2, cp2, n2, R2, J2, hrs, hsim, hnm, hJ, hbel⟩ := hcut
          have y1 : wc.cell? ⟨wr.heap.size, 1, none⟩ = some (.int .i64 y) := hrs.xcell (by omega) 1
          go_wp2_with fail
          refine (st_root _ _ _ _ _ _ _ y hrs.st).mono ?_
          rintro e wd ⟨rfl, haft⟩
          obtain ⟨g3, hrs3, hbel3⟩ := hrs.names haft hbel.size
          have z0 : wd.cell? ⟨w1.heap.size + 2, 0, none⟩ = some (.int .i64 most) := hrs3.cell 0
          have z1 : wd.cell? ⟨w1.heap.size + 2, 1, none⟩ = some (.int .i64 n2) := hrs3.cell 1
          have z2 : wd.cell? ⟨w1.heap.size + 2, 2, none⟩ = some (.slice ao2 J2.length cp2) := hrs3.cell 2
          have y1' : wd.cell? ⟨wr.heap.size, 1, none⟩ = some (.int .i64 y) := hrs3.xcell (by omega) 1
          obtain ⟨⟨r1, r2⟩, hroot⟩ : ∃ r, r = rootOf (n2 + 1) R2 y := ⟨_, rfl⟩
          rw [← hroot]
          have HR := Lib.hid hroot
          clear hroot
          go_wp2_with fail
          refine (ref_root _ _ _ _ _ y hrs3.prs (by omega)).mono ?_
          rintro e we ⟨rfl, hbe⟩
          rw [hsim.root, ← HR.out]
          have hrs4 := hrs3.ref hbe
          have hbel4 := (hbel.trans hbel3).trans (hbe.mono ((hbel.trans hbel3).size))
          clear z0 z1 z2 y1 y1'
          go_wp2_with fail
          have hrs5 : RS w.heap.size (w1.heap.size + 1) (w1.heap.size + 2) wr.heap.size (#[.int .i64 x, .int .i64 y, .int .i64 z], 34) most g3 ao2 cp2 n2 R2 J2 (n2 - J2.length) (refCells most n2 ao2 J2.length cp2) we.drew := hrs4.drewN 1
          have hbel5 : Below w.heap.size w we.drew := hbel4.drew
          have hr1 : (r1 != r1) = false := by simp
          have hr2 : (r2 != r2) = false := by simp
          clear hrs hrs3 hrs4 hbel hbel3 hbel4 haft hbe HR
          go_upto_region 26 with fail
          go_cut [142] (fun s wf => s = .bool false ∧ Runs w (w1.heap.size + 1) (w1.heap.size + 2) wr.heap.size (#[.int .i64 x, .int .i64 y, .int .i64 z], 34) most (k + 1) wf)
          case first =>
            go_region_held3 (fun w' => w'.cell? ⟨wr.heap.size, 2, none⟩ = some (.int .i64 z) ∧ w'.cell? ⟨w1.heap.size + 2, 0, none⟩ = some (.int .i64 most) ∧ w'.cell? ⟨w1.heap.size + 2, 1, none⟩ = some (.int .i64 n2) ∧ w'.cell? ⟨w1.heap.size + 2, 2, none⟩ = some (.slice ao2 J2.length cp2))
              (exact RS.read (by assumption) (by omega))
              (first
                | (go_at_call 12; refine (st_has _ _ _ _ _ _ _ z (RS.st (by assumption))).mono ?_; rintro e w' ⟨rfl, rfl⟩)
                | (go_at_call 19; refine (ref_has _ _ _ _ _ z (RS.prs (by assumption)) (by omega)).mono ?_; rintro e w' ⟨rfl, hf⟩; rw [hsim.has]; have q := (fun h => RS.ref h hf) (by assumption); have qb := ((fun h => Below.trans h (hf.mono h.size)) : Below w.heap.size w _ → Below w.heap.size w _) (by assumption); clear hf)
                | (go_at_call 11; refine (st_count _ _ _ _ _ _ _ (RS.st (by assumption))).mono ?_; rintro e w' ⟨rfl, rfl⟩)
                | (go_at_call 20; refine (ref_count _ _ _ _ _ _ (by omega) (by omega) (by omega)).mono ?_; rintro e w' ⟨rfl, hf⟩; have q := (fun h => RS.ref h hf) (by assumption); have qb := ((fun h => Below.trans h (hf.mono h.size)) : Below w.heap.size w _ → Below w.heap.size w _) (by assumption); clear hf)
                | (go_at_call 10; refine (st_last _ _ _ _ _ _ _ (RS.st (by assumption)) (by omega)).mono ?_; rintro e w' ⟨rfl, rfl⟩))
            go_wp2_with fail
            go_meet
            exact ⟨by simp, g3, ao2, cp2, n2, R2, J2, by assumption, hsim, hnm, hJ, by assumption⟩
          case rest =>
            clear hrs5 hbel5 hsim hnm hJ
            obtain ⟨rfl, hruns⟩ := hcut
            go_wp2_with fail
            go_roundg (gk - 1)
            case measure => omega
            case rel => exact ⟨k + 1, _, _, by omega, by omega, by go_num, hruns⟩
      · obtain rfl : k = len := by omega
        clear hE hr hlt
        obtain ⟨g, ao, cp, n, R, J, hrs, hsim, hnm, hJ, hbel⟩ := hruns
        go_wp2_with fail
        obtain ⟨wo, rfl⟩ : ∃ wo : World, wo = wr := ⟨_, rfl⟩
        go_loopg [21] (n + 3) (fun m s wr => ∃ (i g : Nat), i ≤ n + 2 ∧ m + i = n + 3 ∧ s = .int .i64 i ∧ RS w.heap.size (w1.heap.size + 1) (w1.heap.size + 2) xb0 xo0 most g ao cp n R J (n - J.length) (refCells most n ao J.length cp) wr ∧ Below w.heap.size w wr)
        case atStart => exact ⟨0, g, by omega, by omega, rfl, hrs, hbel⟩
        case round =>
          clear hrs hbel
          obtain ⟨i, g2, hi, hmi, rfl, hrs, hbel⟩ := hrel
          have z1 : wr.cell? ⟨w1.heap.size + 2, 1, none⟩ = some (.int .i64 n) := hrs.cell 1
          by_cases hlt : i ≤ n + 1
          · go_wp2_with fail
            refine (st_root _ _ _ _ _ _ _ i hrs.st).mono ?_
            rintro e wd ⟨rfl, haft⟩
            obtain ⟨g3, hrs3, hbel3⟩ := hrs.names haft hbel.size
            obtain ⟨⟨r1, r2⟩, hroot⟩ : ∃ r, r = rootOf (n + 1) R i := ⟨_, rfl⟩
            rw [← hroot]
            have HR := Lib.hid hroot
            have y0 : wd.cell? ⟨w1.heap.size + 2, 0, none⟩ = some (.int .i64 most) := hrs3.cell 0
            have y1 : wd.cell? ⟨w1.heap.size + 2, 1, none⟩ = some (.int .i64 n) := hrs3.cell 1
            have y2 : wd.cell? ⟨w1.heap.size + 2, 2, none⟩ = some (.slice ao J.length cp) := hrs3.cell 2
            clear hroot z1
            go_wp2_with fail
            refine (ref_root _ _ _ _ _ i hrs3.prs (by omega)).mono ?_
            rintro e we ⟨rfl, hbe⟩
            rw [hsim.root, ← HR.out]
            have hrs4 := hrs3.ref hbe
            have hbel4 := (hbel.trans hbel3).trans (hbe.mono ((hbel.trans hbel3).size))
            have hr1 : (r1 != r1) = false := by simp
            have hr2 : (r2 != r2) = false := by simp
            clear hrs hrs3 hbel hbel3 haft hbe y0 y1 y2
            go_wp2_with fail
            go_roundg (gk - 1)
            case measure => omega
            case rel => exact ⟨i + 1, g3, by omega, by omega, by go_num, hrs4, hbel4⟩
          · clear hrs
            go_wp2
            go_ret
            exact ⟨rfl, hbel⟩

end Go.Proofs.Ytohngmegombfgaa

/-
  The walk of the law ArenaRuns.
-/
import Derived.Test.YtoifnljlnpkodaaAlive
import Derived.Test.YtoifnljlnpkodaaRunsSt
import Derived.Test.YtoifnljlnpkodaaElems
namespace Go.Proofs.Ytoifnljlnpkodaa
open Go.RowKit
set_option linter.unusedVariables false

/-- What holds at a loop's head. -/
def Runs (w : World) (p zb k : Nat) (cap : Nat) (most : Int) (wr : World) : Prop :=
  ∃ O S W next cnt T G vT vG, RI w.heap.size p zb cap most O S W next cnt T G vT vG wr ∧ Sim most S W next cnt T G ∧ S.length = cap ∧ T.length ≤ k ∧ G.length ≤ k ∧ Below w.heap.size w wr

/-- What holds in the midst of a round. -/
def Mid (w : World) (p zb xb k : Nat) (cap : Nat) (most a : Int) (wr : World) : Prop :=
  ∃ s g O S W next cnt T G vT vG, RX w.heap.size p zb xb #[.int .i64 a, .int .i64 s, .int .u32 g] cap most O S W next cnt T G vT vG wr ∧ Sim most S W next cnt T G ∧ S.length = cap ∧ T.length ≤ k ∧ G.length ≤ k ∧ Below w.heap.size w wr

set_option maxRecDepth 100000 in
theorem arenaRuns_no (w : World) (cap : Int) (most : Int) (ad : Option Addr) (len acap : Nat) (h60 : len ≤ 60) (h : cap < 0 ∨ 65536 < cap ∨ cap ≤ 40 ∧ most = 0) :
    Calls Try.prog 7 #[.int .i64 cap, .int .u32 most, .slice ad len acap] w fun e w' => e = .returned (.bool true) ∧ Below w.heap.size w w' := by
  have hb60 : decide ((60 : Int) < (len : Int)) = false := by rw [decide_eq_false_iff_not]; omega
  have hn : cap < 0 ∨ 65536 < cap ∨ most = 0 := by omega
  by_cases h1 : 65536 < cap
  · have hb1 : decide ((40 : Int) < cap) = true := by rw [decide_eq_true_iff]; omega
    have hb2 : decide (cap ≤ 65536) = false := by rw [decide_eq_false_iff_not]; omega
    go_enter Try.func7, Try.ntmps7
    go_wp2_with fail
    refine (alive_calls _).mono ?_
    rintro e w1 ⟨rfl, b1⟩
    go_wp2_with fail
    refine (new_no w1 _ _ hn).mono ?_
    rintro e w2 ⟨rfl, rfl⟩
    go_wp2_with fail
    refine (r3_new_no w1 _ _ hn).mono ?_
    rintro e w3 ⟨rfl, b2⟩
    unfold refV
    go_wp2
    go_ret
    exact ⟨rfl, (b1.trans (b2.mono b1.size)).alloc (by have := b1.size; have := b2.size; omega) _⟩
  · have hb1 : decide ((40 : Int) < cap) = false := by rw [decide_eq_false_iff_not]; omega
    go_enter Try.func7, Try.ntmps7
    go_wp2_with fail
    refine (alive_calls _).mono ?_
    rintro e w1 ⟨rfl, b1⟩
    go_wp2_with fail
    refine (new_no w1 _ _ hn).mono ?_
    rintro e w2 ⟨rfl, rfl⟩
    go_wp2_with fail
    refine (r3_new_no w1 _ _ hn).mono ?_
    rintro e w3 ⟨rfl, b2⟩
    unfold refV
    go_wp2
    go_ret
    exact ⟨rfl, (b1.trans (b2.mono b1.size)).alloc (by have := b1.size; have := b2.size; omega) _⟩

set_option maxRecDepth 100000 in
theorem arenaRuns_long (w : World) (cap : Int) (most : Int) (ad : Option Addr) (len acap : Nat) (h60 : 60 < len) :
    Calls Try.prog 7 #[.int .i64 cap, .int .u32 most, .slice ad len acap] w fun e w' => e = .returned (.bool true) ∧ Below w.heap.size w w' := by
  have hb60 : decide ((60 : Int) < (len : Int)) = true := by rw [decide_eq_true_iff]; omega
  go_enter Try.func7, Try.ntmps7
  go_wp2_with fail
  refine (alive_calls _).mono ?_
  rintro e w1 ⟨rfl, b1⟩
  go_wp2
  go_ret
  exact ⟨rfl, b1⟩

set_option maxRecDepth 100000 in
theorem arenaRuns_mid (w : World) (cap : Int) (most : Int) (ad : Option Addr) (len acap : Nat) (h60 : len ≤ 60) (h : 40 < cap ∧ cap ≤ 65536) :
    Calls Try.prog 7 #[.int .i64 cap, .int .u32 most, .slice ad len acap] w fun e w' => e = .returned (.bool true) ∧ Below w.heap.size w w' := by
  obtain ⟨h1, h2⟩ := h
  have hb60 : decide ((60 : Int) < (len : Int)) = false := by rw [decide_eq_false_iff_not]; omega
  have hb1 : decide ((40 : Int) < cap) = true := by rw [decide_eq_true_iff]; omega
  have hb2 : decide (cap ≤ 65536) = true := by rw [decide_eq_true_iff]; omega
  go_enter Try.func7, Try.ntmps7
  go_wp2_with fail
  refine (alive_calls _).mono ?_
  rintro e w1 ⟨rfl, b1⟩
  go_wp2
  go_ret
  exact ⟨rfl, b1⟩

set_option maxHeartbeats 4000000 in
set_option maxRecDepth 100000 in
theorem arenaRuns_yes (w : World) (cap : Nat) (most : Int) (ad : Option Addr) (len acap : Nat) (C : Nat → List Value) (h60 : len ≤ 60) (hcap : cap ≤ 40) (hm1 : 1 ≤ most) (hm2 : most ≤ 4294967295)
    (hE : ∀ i, i < len → HandleCells (C i)) (hr : IsRows w 3 ad len C) :
    Calls Try.prog 7 #[.int .i64 cap, .int .u32 most, .slice ad len acap] w fun e w' => e = .returned (.bool true) ∧ Below w.heap.size w w' := by
  have es := eqHandle
  have eg := guardHandle
  have hb60 : decide ((60 : Int) < (len : Int)) = false := by rw [decide_eq_false_iff_not]; omega
  have hb1 : decide ((40 : Int) < (cap : Int)) = false := by rw [decide_eq_false_iff_not]; omega
  go_enter Try.func7, Try.ntmps7
  go_wp2_with fail
  refine (alive_calls _).mono ?_
  rintro e w1 ⟨rfl, b1⟩
  go_wp2_with fail
  refine (ar_new w.heap.size [] most w1 cap (by omega) hm1 hm2 b1.size (by simp)).mono ?_
  rintro e w2 ⟨p, rfl, h2, k2, _, _⟩
  have b2 := b1.trans k2.1
  go_wp2_with fail
  refine (r3_new w2 cap most ⟨by omega, by omega, by omega⟩).mono ?_
  rintro e w3 ⟨rfl, hb3⟩
  have b3 := b2.trans (hb3.mono b2.size)
  have hinit : Runs w p w3.heap.size 0 cap most (w3.alloc (.cells #[.int .i64 cap, .int .u32 most, .slice none 0 0, .slice none 0 0] 42)) := by
    have h3 := (h2.below hb3 b2.size).1.push (.cells #[.int .i64 cap, .int .u32 most, .slice none 0 0, .slice none 0 0] 42)
    refine ⟨[w3.heap.size], _, _, _, _, [], [], _, _, ⟨h3, ?_, ?_, by simp, blk_alloc_new _, HRow.nil _ _, HRow.nil _ _, fun b hb => (by cases hb), fun b hb => (by cases hb)⟩, Sim.new cap most, by simp, by simp, by simp, b3.alloc b3.size _⟩
    · intro b hb; simp at hb; subst hb; exact b3.size
    · have := b3.size; simp; omega
  have hz : w3.heap.size < (w3.alloc (.cells #[.int .i64 cap, .int .u32 most, .slice none 0 0, .slice none 0 0] 42)).heap.size := by simp
  clear b1 h2 k2 b2 hb3 b3
  unfold refV
  go_wp2_with fail
  generalize w3.alloc (.cells #[.int .i64 cap, .int .u32 most, .slice none 0 0, .slice none 0 0] 42) = w4 at *
  generalize w3.heap.size = zb at *
  go_loopg [66] 61 (fun m s wr => ∃ k, k ≤ len ∧ m + k = 61 ∧ s = .int .i64 k ∧ Runs w p zb k cap most wr)
  case atStart => exact ⟨0, by omega, rfl, rfl, hinit⟩
  case round =>
    clear hinit hz
    obtain ⟨k, hk, hgk, rfl, hruns⟩ := hrel
    by_cases hlt : k < len
    · obtain ⟨x, s, g, hC, _, _, _⟩ := hE k hlt
      obtain ⟨b, off, rfl, hbw, hcells⟩ : ∃ b off, ad = some ⟨b, off, none⟩ ∧ b < w.heap.size ∧ ∀ j, j < 3 → w.cell? ⟨b, off + (k * 3 + j), none⟩ = (C k)[j]? := by
        rcases hr with h0 | ⟨b, off, e, hb, hcs⟩
        · omega
        · exact ⟨b, off, e, hb, fun j hj => hcs k hlt j hj⟩
      have c0 := hcells 0 (by omega)
      have c1 := hcells 1 (by omega)
      have c2 := hcells 2 (by omega)
      rw [hC] at c0 c1 c2
      obtain ⟨O, S, W, next, cnt, T, G, vT, vG, hri, hsim, hS, hTl, hGl, hbel⟩ := hruns
      have e0 : wr.cell? ⟨b, off + k * 3, none⟩ = some (.int .i64 x) := (hbel.cell (p := ⟨b, off + k * 3, none⟩) hbw).trans c0
      have e1 : wr.cell? ⟨b, off + k * 3 + 1, none⟩ = some (.int .i64 s) := (hbel.cell (p := ⟨b, off + k * 3 + 1, none⟩) hbw).trans c1
      have e2 : wr.cell? ⟨b, off + k * 3 + 2, none⟩ = some (.int .u32 g) := (hbel.cell (p := ⟨b, off + k * 3 + 2, none⟩) hbw).trans c2
      have HG := Lib.hid hgk
      clear c0 c1 c2 hcells hC hE hr hgk
      have hrx := hri.act #[.int .i64 x, .int .i64 s, .int .u32 g]
      have hbel1 : Below w.heap.size w (wr.alloc (.cells #[.int .i64 x, .int .i64 s, .int .u32 g] 46)) := hbel.alloc hbel.size _
      clear hri hbel
      go_upto_block 2 with fail
      go_cut [72] (fun _ wc => Mid w p zb wr.heap.size (k + 1) cap most x wc)
      case first =>
        generalize (wr.alloc (.cells #[.int .i64 x, .int .i64 s, .int .u32 g] 46)) = wa at *
        generalize wr.heap.size = xb at *
        generalize xb :: O = O1 at *
        clear e0 e1 e2
        have hinv := hrx.i.ar.inv
        obtain ⟨zlt, xlt, zB, xB, xz⟩ := hrx.lt
        obtain ⟨⟨z0, z1, z2, z3⟩, ⟨x0, x1, x2⟩, _, _⟩ := hrx.read
        by_cases hx0 : x = 0
        · have hxb : (x == 0) = true := by simpa using hx0
          clear hx0
          rcases hp : pickS S.length W next with _ | ⟨i, W', next'⟩
          · obtain ⟨hw0, hf0⟩ := hsim.no hp
            have HW := Lib.hid hw0
            rw [hS] at hf0
            clear hw0 z0 z1 z2 z3
            go_wp2_with fail
            refine (ar_full _ _ _ _ _ _ _ _ _ hrx.i.ar hrx.i.hb hp).mono ?_
            rintro e wb ⟨rfl, ha, ka⟩
            have hrx2 := hrx.stays ha ka
            have hbel2 := hbel1.trans ka.1
            obtain ⟨zlt2, xlt2, _, _, _⟩ := hrx2.lt
            obtain ⟨⟨z0, z1, z2, z3⟩, _, _, _⟩ := hrx2.read
            have hrx3 := hrx2.alloc (.cells #[.int .i64 0, .int .u32 0] 30)
            have hbel3 := hbel2.alloc hbel2.size (.cells #[.int .i64 0, .int .u32 0] 30)
            clear x0 x1 x2 hrx ha ka hbel1 hrx2 hbel2
            go_wp2_with fail
            refine (r3_take_no _ cap most _ _ T G hrx3.i.t.row hrx3.i.g.row (by omega) (by omega) HW.out (by omega)).mono ?_
            rintro e wc ⟨rfl, hb4⟩
            unfold refV
            have hrx4 := hrx3.below hb4
            have hbel4 := hbel3.trans (hb4.mono hbel3.size)
            obtain ⟨zlt4, xlt4, _, _, _⟩ := hrx4.lt
            have hlt4 : wb.heap.size < wc.heap.size := by have := hb4.size; simp only [World.size_alloc] at this; omega
            have hne4 : wb.heap.size ≠ zb := by omega
            have q0 : wc.cell? ⟨wb.heap.size, 0, none⟩ = some (.int .i64 0) := by rw [hb4.cell (by simp)]; simp [go_sem]
            have q1 : wc.cell? ⟨wb.heap.size, 1, none⟩ = some (.int .u32 0) := by rw [hb4.cell (by simp)]; simp [go_sem]
            clear z0 z1 z2 z3 hrx3 hb4 hbel3
            obtain ⟨⟨z0, z1, z2, z3⟩, _, fz, _⟩ := hrx4.read
            have f0 := fz 0
            have f1 := fz 1
            have f2 := fz 2
            have f3 := fz 3
            clear fz
            obtain ⟨aT, cT, rfl⟩ := hrx4.i.t.form
            obtain ⟨aG, cG, rfl⟩ := hrx4.i.g.form
            go_wp2_with fail
            go_meet
            refine ⟨s, g, O1, S, W, next, cnt, T, G, _, _, ((hrx4.put hrx4.i.t hrx4.i.g hrx4.nt2.1 hrx4.nt2.2).alloc _).alloc _, hsim, hS, by omega, by omega, ?_⟩
            have := hbel4.size
            repeat (first | with_reducible exact hbel4 | with_reducible refine Below.setCell ?_ (by simp <;> omega) _ | with_reducible refine Below.alloc ?_ (by simp <;> omega) _)
          · obtain ⟨g0, hg0⟩ : ∃ g0, (S.getD i (0, false)).1 = g0 := ⟨_, rfl⟩
            have hcan : CanTake T G cap most i g0 := by rw [← hS]; exact hsim.can hinv hp g0 hg0
            have hsim2 := hsim.take hinv hp g0 hg0
            have HG0 := Lib.hid hg0
            clear hg0 z0 z1 z2 z3 hsim
            go_wp2_with fail
            refine (ar_take _ _ _ _ _ _ _ _ _ hrx.i.ar hrx.i.hb i W' next' hp).mono ?_
            rintro e wb ⟨rfl, ha, ka⟩
            rw [HG0.out] at ha ⊢
            have hrx2 := hrx.stays ha ka
            have hbel2 := hbel1.trans ka.1
            obtain ⟨zlt2, xlt2, _, _, _⟩ := hrx2.lt
            obtain ⟨⟨z0, z1, z2, z3⟩, _, _, _⟩ := hrx2.read
            have hrx3 := hrx2.alloc (.cells #[.int .i64 i, .int .u32 (g0 + 1)] 30)
            have hbel3 := hbel2.alloc hbel2.size (.cells #[.int .i64 i, .int .u32 (g0 + 1)] 30)
            clear x0 x1 x2 hrx ha ka hbel1 hrx2 hbel2
            go_wp2_with fail
            refine (r3_take _ cap most _ _ T G hrx3.i.t.row hrx3.i.g.row (by omega) (by omega) i g0 hcan).mono ?_
            rintro e wc ⟨v, rfl, hv, hgg, hb4, hvb⟩
            obtain ⟨aT, cT, rfl⟩ := hv.form
            unfold refV
            obtain ⟨O2, hrx4, hrv, hne⟩ := hrx3.grow hb4 hv hvb
            have hbel4 := hbel3.trans (hb4.mono hbel3.size)
            obtain ⟨zlt4, xlt4, _, _, _⟩ := hrx4.lt
            have hlt4 : wb.heap.size < wc.heap.size := by have := hb4.size; simp only [World.size_alloc] at this; omega
            have hne4 : wb.heap.size ≠ zb := by omega
            have q0 : wc.cell? ⟨wb.heap.size, 0, none⟩ = some (.int .i64 i) := by rw [hb4.cell (by simp)]; simp [go_sem]
            have q1 : wc.cell? ⟨wb.heap.size, 1, none⟩ = some (.int .u32 (g0 + 1)) := by rw [hb4.cell (by simp)]; simp [go_sem]
            clear z0 z1 z2 z3 hrx3 hb4 hbel3 hv hgg hvb
            obtain ⟨⟨z0, z1, z2, z3⟩, _, fz, _⟩ := hrx4.read
            have f0 := fz 0
            have f1 := fz 1
            have f2 := fz 2
            have f3 := fz 3
            clear fz
            obtain ⟨aT0, cT0, rfl⟩ := hrx4.i.t.form
            obtain ⟨aG, cG, rfl⟩ := hrx4.i.g.form
            go_wp2_with fail
            go_meet
            have hlen : (T ++ [(i, g0 + 1)]).length = T.length + 1 := by simp
            have hS2 : (S.set i (g0 + 1, true)).length = cap := by rw [List.length_set]; exact hS
            rw [hlen] at hrv hne
            refine ⟨s, g, O2, _, W', next', cnt + 1, _, G, _, _, ((hrx4.put hrv hrx4.i.g hne hrx4.nt2.2).alloc _).alloc _, hsim2, hS2, by omega, by omega, ?_⟩
            have := hbel4.size
            repeat (first | with_reducible exact hbel4 | with_reducible refine Below.setCell ?_ (by simp <;> omega) _ | with_reducible refine Below.alloc ?_ (by simp <;> omega) _)
        · have hxb : (x == 0) = false := by simpa using hx0
          clear hx0
          by_cases hx12 : x = 1 ∨ x = 2
          · obtain ⟨j1, j2, ok, hat, hok⟩ := atV_parts ((atS S s).map fun g => (s.toNat, g))
            have HAT := Lib.hid hat
            clear hat hok
            have h3 : ((x == 1) = true ∧ (x == 2) = false ∧ ok = true) ∨ ((x == 1) = true ∧ (x == 2) = false ∧ ok = false) ∨ ((x == 1) = false ∧ (x == 2) = true ∧ ok = true) ∨ ((x == 1) = false ∧ (x == 2) = true ∧ ok = false) := by
              rcases hx12 with rfl | rfl
              · cases ok
                · exact .inr (.inl ⟨rfl, rfl, rfl⟩)
                · exact .inl ⟨rfl, rfl, rfl⟩
              · cases ok
                · exact .inr (.inr (.inr ⟨rfl, rfl, rfl⟩))
                · exact .inr (.inr (.inl ⟨rfl, rfl, rfl⟩))
            clear hx12
            have xf := hrx.read.2.2.2
            have xf1 := xf 1
            have xf2 := xf 2
            clear xf
            rcases h3 with ⟨hb1, hb2, rfl⟩ | ⟨hb1, hb2, rfl⟩ | ⟨hb1, hb2, rfl⟩ | ⟨hb1, hb2, rfl⟩
            case' inl =>
              go_wp2_with fail
              refine (r3_at _ cap most _ _ T G s hrx.i.t.row hrx.i.g.row (by omega) (by omega)).mono ?_
              rintro e wb ⟨rfl, hb4⟩
              rw [hsim.at hinv, HAT.out]
              have hrx2 := hrx.below hb4
              have hbel2 := hbel1.trans (hb4.mono hbel1.size)
              clear z0 z1 z2 z3 x0 x1 x2 xf1 xf2 hrx hb4 hbel1
              obtain ⟨zlt2, xlt2, _, _, _⟩ := hrx2.lt
              obtain ⟨_, ⟨x0, x1, x2⟩, _, xf⟩ := hrx2.read
              have xf1 := xf 1
              have xf2 := xf 2
              clear xf
              have hq := hrx2.alloc (.cells #[.int .i64 j1, .int .u32 j2] 30)
              have hqb := hbel2.alloc hbel2.size (.cells #[.int .i64 j1, .int .u32 j2] 30)
              go_upto_region 26 with fail
              generalize (wb.alloc (.cells #[.int .i64 j1, .int .u32 j2] 30)) = wq at *
              clear x0 x1 x2 xf1 xf2 hrx2 hbel2 zlt2 xlt2 zlt xlt HAT
              generalize s = s9 at *
              generalize g = g9 at *
            case' inr.inl =>
              go_wp2_with fail
              refine (r3_at _ cap most _ _ T G s hrx.i.t.row hrx.i.g.row (by omega) (by omega)).mono ?_
              rintro e wb ⟨rfl, hb4⟩
              rw [hsim.at hinv, HAT.out]
              have hrx2 := hrx.below hb4
              have hbel2 := hbel1.trans (hb4.mono hbel1.size)
              clear z0 z1 z2 z3 x0 x1 x2 xf1 xf2 hrx hb4 hbel1
              obtain ⟨zlt2, xlt2, _, _, _⟩ := hrx2.lt
              obtain ⟨_, ⟨x0, x1, x2⟩, _, xf⟩ := hrx2.read
              have xf1 := xf 1
              have xf2 := xf 2
              clear xf
              have hq := hrx2.alloc (.cells #[.int .i64 j1, .int .u32 j2] 30)
              have hqb := hbel2.alloc hbel2.size (.cells #[.int .i64 j1, .int .u32 j2] 30)
              go_upto_region 26 with fail
              generalize (wb.alloc (.cells #[.int .i64 j1, .int .u32 j2] 30)) = wq at *
              clear x0 x1 x2 xf1 xf2 hrx2 hbel2 zlt2 xlt2 zlt xlt HAT
              generalize s = s9 at *
              generalize g = g9 at *
            case' inr.inr.inl =>
              go_wp2_with fail
              refine (r3_at _ cap most _ _ T G s hrx.i.t.row hrx.i.g.row (by omega) (by omega)).mono ?_
              rintro e wb ⟨rfl, hb4⟩
              rw [hsim.at hinv, HAT.out]
              have hrx2 := hrx.below hb4
              have hbel2 := hbel1.trans (hb4.mono hbel1.size)
              clear z0 z1 z2 z3 x0 x1 x2 xf1 xf2 hrx hb4 hbel1
              obtain ⟨zlt2, xlt2, _, _, _⟩ := hrx2.lt
              obtain ⟨_, ⟨x0, x1, x2⟩, _, xf⟩ := hrx2.read
              have xf1 := xf 1
              have xf2 := xf 2
              clear xf
              have hq := (hrx2.turn (s' := j1) (g' := j2)).alloc (.cells #[.int .i64 j1, .int .u32 j2] 30)
              have hs2 := hbel2.size
              have hqb : Below w.heap.size w (((wb.setCell ⟨xb, 1, none⟩ (.int .i64 j1)).setCell ⟨xb, 2, none⟩ (.int .u32 j2)).alloc (.cells #[.int .i64 j1, .int .u32 j2] 30)) := ((hbel2.setCell (by simp; omega) _).setCell (by simp; omega) _).alloc (by simp; omega) _
              go_upto_region 26 with fail
              generalize (((wb.setCell ⟨xb, 1, none⟩ (.int .i64 j1)).setCell ⟨xb, 2, none⟩ (.int .u32 j2)).alloc (.cells #[.int .i64 j1, .int .u32 j2] 30)) = wq at *
              clear x0 x1 x2 xf1 xf2 hrx2 hbel2 hs2 zlt2 xlt2 zlt xlt HAT
              generalize j1 = s9 at *
              generalize j2 = g9 at *
            case' inr.inr.inr =>
              go_wp2_with fail
              refine (r3_at _ cap most _ _ T G s hrx.i.t.row hrx.i.g.row (by omega) (by omega)).mono ?_
              rintro e wb ⟨rfl, hb4⟩
              rw [hsim.at hinv, HAT.out]
              have hrx2 := hrx.below hb4
              have hbel2 := hbel1.trans (hb4.mono hbel1.size)
              clear z0 z1 z2 z3 x0 x1 x2 xf1 xf2 hrx hb4 hbel1
              obtain ⟨zlt2, xlt2, _, _, _⟩ := hrx2.lt
              obtain ⟨_, ⟨x0, x1, x2⟩, _, xf⟩ := hrx2.read
              have xf1 := xf 1
              have xf2 := xf 2
              clear xf
              have hq := hrx2.alloc (.cells #[.int .i64 j1, .int .u32 j2] 30)
              have hqb := hbel2.alloc hbel2.size (.cells #[.int .i64 j1, .int .u32 j2] 30)
              go_upto_region 26 with fail
              generalize (wb.alloc (.cells #[.int .i64 j1, .int .u32 j2] 30)) = wq at *
              clear x0 x1 x2 xf1 xf2 hrx2 hbel2 zlt2 xlt2 zlt xlt HAT
              generalize s = s9 at *
              generalize g = g9 at *
            all_goals
              obtain ⟨zlt5, xlt5, _, _, _⟩ := hq.lt
              obtain ⟨⟨z0, z1, z2, z3⟩, ⟨x0, x1, x2⟩, _, _⟩ := hq.read
              cases hlv : liveB S s9 g9 with
              | true =>
                obtain ⟨i, rfl⟩ : ∃ i : Nat, s9 = i := by
                  have : 0 ≤ s9 := by
                    simp only [liveB, Bool.and_eq_true, decide_eq_true_eq] at hlv
                    exact hlv.1
                  exact Int.eq_ofNat_of_zero_le this
                have hlp := hsim.live hinv i g9
                rw [hlv] at hlp
                have hgi : i < S.length ∧ S.getD i (0, false) = (g9, true) := by
                  simp only [liveB, Bool.and_eq_true, decide_eq_true_eq, beq_iff_eq, Int.toNat_natCast] at hlv
                  obtain ⟨_, h2, h3, h4⟩ := hlv
                  exact ⟨by omega, Prod.ext h3 h4⟩
                have hpos : 1 ≤ g9 := by
                  have := (hinv.used i (hinv.give hgi.1 hgi.2).2).1
                  rw [hgi.2] at this
                  exact this
                have hsim2 := hsim.give hgi.1 hgi.2 hpos
                have HLP := Lib.hid hlp
                clear hlp hgi hsim
                go_wp2_with fail
                refine (ar_give _ _ _ _ _ _ _ _ _ hq.i.ar hq.i.hb i g9 hlv).mono ?_
                rintro e wb ⟨rfl, ha, ka⟩
                have hrx2 := hq.stays ha ka
                have hbel2 := hqb.trans ka.1
                clear z0 z1 z2 z3 x0 x1 x2 hq ha ka hqb hlv
                obtain ⟨zlt2, xlt2, _, _, _⟩ := hrx2.lt
                obtain ⟨⟨z0, z1, z2, z3⟩, ⟨x0, x1, x2⟩, _, _⟩ := hrx2.read
                go_wp2_with fail
                refine (r3_give _ cap most _ _ T G i g9 hrx2.i.t.row hrx2.i.g.row (by omega) (by omega) HLP.out).mono ?_
                rintro e wc ⟨v, rfl, hv, hgg, hb4, hvb⟩
                obtain ⟨aG, cG, rfl⟩ := hv.form
                unfold refV
                obtain ⟨O2, hrx4, hrv, hne⟩ := hrx2.grow hb4 hv hvb
                have hbel4 := hbel2.trans (hb4.mono hbel2.size)
                obtain ⟨zlt4, xlt4, _, _, _⟩ := hrx4.lt
                clear z0 z1 z2 z3 x0 x1 x2 hb4 hbel2 hv hgg hvb hrx2
                obtain ⟨⟨z0, z1, z2, z3⟩, _, fz, _⟩ := hrx4.read
                have f0 := fz 0
                have f1 := fz 1
                have f2 := fz 2
                have f3 := fz 3
                clear fz
                obtain ⟨aT, cT, rfl⟩ := hrx4.i.t.form
                obtain ⟨aG0, cG0, rfl⟩ := hrx4.i.g.form
                go_wp2_with fail
                go_meet
                have hlen : (G ++ [(i, g9)]).length = G.length + 1 := by simp
                have hS2 : (S.set i (g9, false)).length = cap := by rw [List.length_set]; exact hS
                rw [hlen] at hrv hne
                refine ⟨(i : Int), g9, O2, _, _, next, cnt - 1, T, _, _, _, (hrx4.put hrx4.i.t hrv hrx4.nt2.1 hne).alloc _, hsim2, hS2, by omega, by omega, ?_⟩
                have := hbel4.size
                repeat (first | with_reducible exact hbel4 | with_reducible refine Below.setCell ?_ (by simp <;> omega) _ | with_reducible refine Below.alloc ?_ (by simp <;> omega) _)
              | false =>
                have hlp := hsim.live hinv s9 g9
                rw [hlv] at hlp
                have HLP := Lib.hid hlp
                clear hlp
                go_wp2_with fail
                refine (ar_stale _ _ _ _ _ _ _ _ _ hq.i.ar hq.i.hb s9 g9 hlv).mono ?_
                rintro e wb ⟨rfl, ha, ka⟩
                have hrx2 := hq.stays ha ka
                have hbel2 := hqb.trans ka.1
                clear z0 z1 z2 z3 x0 x1 x2 hq ha ka hqb hlv
                obtain ⟨zlt2, xlt2, _, _, _⟩ := hrx2.lt
                obtain ⟨⟨z0, z1, z2, z3⟩, ⟨x0, x1, x2⟩, _, _⟩ := hrx2.read
                go_wp2_with fail
                refine (r3_give_no _ cap most _ _ T G s9 g9 hrx2.i.t.row hrx2.i.g.row (by omega) (by omega) HLP.out).mono ?_
                rintro e wc ⟨rfl, hb4⟩
                unfold refV
                have hrx4 := hrx2.below hb4
                have hbel4 := hbel2.trans (hb4.mono hbel2.size)
                obtain ⟨zlt4, xlt4, _, _, _⟩ := hrx4.lt
                clear z0 z1 z2 z3 x0 x1 x2 hb4 hbel2 hrx2
                obtain ⟨⟨z0, z1, z2, z3⟩, _, fz, _⟩ := hrx4.read
                have f0 := fz 0
                have f1 := fz 1
                have f2 := fz 2
                have f3 := fz 3
                clear fz
                obtain ⟨aT, cT, rfl⟩ := hrx4.i.t.form
                obtain ⟨aG, cG, rfl⟩ := hrx4.i.g.form
                go_wp2_with fail
                go_meet
                refine ⟨s9, g9, O1, S, W, next, cnt, T, G, _, _, (hrx4.put hrx4.i.t hrx4.i.g hrx4.nt2.1 hrx4.nt2.2).alloc _, hsim, hS, by omega, by omega, ?_⟩
                have := hbel4.size
                repeat (first | with_reducible exact hbel4 | with_reducible refine Below.setCell ?_ (by simp <;> omega) _ | with_reducible refine Below.alloc ?_ (by simp <;> omega) _)
          · have hb1 : (x == 1) = false := by rw [beq_eq_false_iff_ne]; exact fun e => hx12 (.inl e)
            have hb2 : (x == 2) = false := by rw [beq_eq_false_iff_ne]; exact fun e => hx12 (.inr e)
            have hfin : Mid w p zb xb (k + 1) cap most x wa := ⟨s, g, O1, S, W, next, cnt, T, G, vT, vG, hrx, hsim, hS, by omega, by omega, hbel1⟩
            clear hx12 hrx hsim hbel1
            go_wp2_with fail
            go_meet
            exact hfin
      case rest =>
        clear hrx hsim hbel1 e0 e1 e2 hS hTl hGl
        generalize wr.heap.size = xb at *
        obtain ⟨s9, g9, O9, S9, W9, next9, cnt9, T9, G9, vT9, vG9, hrx, hsim, hS, hTl, hGl, hbel⟩ := hcut
        have hinv := hrx.i.ar.inv
        have hS40 : S9.length ≤ 40 := by omega
        obtain ⟨zlt, xlt, zB, xB, xz⟩ := hrx.lt
        obtain ⟨_, ⟨x0, x1, x2⟩, _, _⟩ := hrx.read
        obtain ⟨j1, j2, ok, hat, hok⟩ := atV_parts ((atS S9 s9).map fun g => (s9.toNat, g))
        have HAT := Lib.hid hat
        clear hat hok
        have hus := hsim.usable
        rw [hS] at hus
        have HUS := Lib.hid hus
        have hlv := hsim.live hinv s9 g9
        have HLV := Lib.hid hlv
        have hct := hsim.cnt
        have HCT := Lib.hid hct
        have HSL := Lib.hid hS
        clear hus hlv hct hS
        go_wp2_with fail
        refine (ar_at _ _ _ _ _ _ _ _ _ hrx.i.ar s9).mono ?_
        rintro e wb ⟨rfl, hb4⟩
        rw [HAT.out]
        have hrx2 := hrx.below hb4
        have hbel2 := hbel.trans (hb4.mono hbel.size)
        clear x0 x1 x2 hb4 hbel hrx zlt xlt
        have hrx3 := hrx2.alloc (.cells #[.int .i64 j1, .int .u32 j2] 30)
        have hbel3 := hbel2.alloc hbel2.size (.cells #[.int .i64 j1, .int .u32 j2] 30)
        obtain ⟨zlt2, xlt2, _, _, _⟩ := hrx2.lt
        obtain ⟨⟨z0, z1, z2, z3⟩, ⟨x0, x1, x2⟩, _, _⟩ := hrx2.read
        have hnb := blk_alloc_new (w := wb) (.cells #[.int .i64 j1, .int .u32 j2] 30)
        clear hrx2 hbel2
        go_wp2_with fail
        refine (r3_at _ cap most _ _ T9 G9 s9 hrx3.i.t.row hrx3.i.g.row (by omega) (by omega)).mono ?_
        rintro e wc ⟨rfl, hb4⟩
        rw [hsim.at hinv, HAT.out]
        have hrx4 := hrx3.below hb4
        have hbel4 := hbel3.trans (hb4.mono hbel3.size)
        have hnc := (hb4.block _ (lt_of_block hnb)).trans hnb
        have hncl := lt_of_block hnc
        have hrx5 := hrx4.alloc (.cells #[.int .i64 j1, .int .u32 j2] 30)
        have hbel5 := hbel4.alloc hbel4.size (.cells #[.int .i64 j1, .int .u32 j2] 30)
        have hnd := blk_alloc_new (w := wc) (.cells #[.int .i64 j1, .int .u32 j2] 30)
        have hne := (blk_alloc_old (w := wc) (.cells #[.int .i64 j1, .int .u32 j2] 30) hncl).trans hnc
        clear z0 z1 z2 z3 x0 x1 x2 hrx3 hbel3 hb4 hnb hrx4 hbel4 hnc zlt2 xlt2
        have hrf : RF w p zb xb wb.heap.size wc.heap.size x s9 g9 j1 j2 cap most O9 S9 W9 next9 cnt9 T9 G9 vT9 vG9 (wc.alloc (.cells #[.int .i64 j1, .int .u32 j2] 30)).drew :=
          RF.below ⟨hrx5, hne, hnd, hbel5⟩ (below_drew _)
        have d1 : (ok != ok) = false := by simp
        have d2 : (liveB S9 s9 g9 != liveB S9 s9 g9) = false := by simp
        have d3 : (cnt9 != cnt9) = false := by simp
        have d4 : ((W9.length : Int) + (cap : Int) - (next9 : Int) != (W9.length : Int) + (cap : Int) - (next9 : Int)) = false := by simp
        have d5 : ((cap : Int) != (cap : Int)) = false := by simp
        clear hrx5 hbel5 hnd hne hncl
        go_upto_region 33 with fail
        generalize wb.heap.size = bh at *
        generalize wc.heap.size = ch at *
        go_cut [182] (fun s wf => s = .bool false ∧ Runs w p zb (k + 1) cap most wf)
        case first =>
          go_region_held3 (fun w' => w'.cell? ⟨bh, 0, none⟩ = some (.int .i64 j1) ∧ w'.cell? ⟨bh, 1, none⟩ = some (.int .u32 j2) ∧ w'.cell? ⟨ch, 0, none⟩ = some (.int .i64 j1) ∧ w'.cell? ⟨ch, 1, none⟩ = some (.int .u32 j2) ∧ w'.cell? ⟨xb, 1, none⟩ = some (.int .i64 s9) ∧ w'.cell? ⟨xb, 2, none⟩ = some (.int .u32 g9) ∧
              w'.cell? ⟨zb, 0, none⟩ = some (.int .i64 cap) ∧ w'.cell? ⟨zb, 1, none⟩ = some (.int .u32 most) ∧ w'.cell? ⟨zb, 2, none⟩ = some vT9 ∧ w'.cell? ⟨zb, 3, none⟩ = some vG9)
            (exact RF.read (by assumption))
            (first
              | (go_at_call 12; refine (ar_live2 _ _ _ _ _ _ _ _ _ (RI.ar (RX.i (RF.x (by assumption)))) s9 g9).mono ?_; rintro e w' ⟨rfl, hf⟩; have q := (fun h => RF.below h hf) (by assumption); clear hf)
              | (go_at_call 20; refine (r3_live _ cap most _ _ T9 G9 s9 g9 (HRow.row (RI.t (RX.i (RF.x (by assumption))))) (HRow.row (RI.g (RX.i (RF.x (by assumption))))) (by omega) (by omega)).mono ?_; rintro e w' ⟨rfl, hf⟩; rw [HLV.out]; have q := (fun h => RF.below h hf) (by assumption); clear hf)
              | (go_at_call 13; refine (ar_count _ _ _ _ _ _ _ _ _ (RI.ar (RX.i (RF.x (by assumption))))).mono ?_; rintro e w' ⟨rfl, rfl⟩)
              | (go_at_call 21; refine (r3_count _ cap most _ _ T9 G9 (HRow.row (RI.t (RX.i (RF.x (by assumption))))) (HRow.row (RI.g (RX.i (RF.x (by assumption))))) (by omega) (by omega)).mono ?_; rintro e w' ⟨rfl, hf⟩; rw [← HCT.out]; have q := (fun h => RF.below h hf) (by assumption); clear hf)
              | (go_at_call 14; refine (ar_usable _ _ _ _ _ _ _ _ _ (RI.ar (RX.i (RF.x (by assumption))))).mono ?_; rintro e w' ⟨rfl, nn, hn⟩; subst hn; rw [HSL.out]; have q := (fun h => RF.below h (below_drewN _ nn)) (by assumption))
              | (go_at_call 22; refine (r3_usable _ cap most _ _ T9 G9 (HRow.row (RI.t (RX.i (RF.x (by assumption))))) (HRow.row (RI.g (RX.i (RF.x (by assumption))))) (by omega) (by omega) ⟨by omega, by omega⟩).mono ?_; rintro e w' ⟨rfl, hf⟩; rw [HUS.out]; have q := (fun h => RF.below h hf) (by assumption); clear hf)
              | (go_at_call 23; refine (ar_capacity _ _ _ _ _ _ _ _ _ (RI.ar (RX.i (RF.x (by assumption))))).mono ?_; rintro e w' ⟨rfl, rfl⟩; rw [HSL.out]))
          go_wp2_with fail
          go_meet
          have hq := (by assumption : RF w p zb xb bh ch x s9 g9 j1 j2 cap most O9 S9 W9 next9 cnt9 T9 G9 vT9 vG9 _)
          exact ⟨by simp, O9, S9, W9, next9, cnt9, T9, G9, vT9, vG9, hq.x.i, hsim, HSL.out, hTl, hGl, hq.bel⟩
        case rest =>
          clear hrf hsim d1 d2 d3 d4 d5 HAT HUS HLV HCT HSL
          obtain ⟨rfl, hruns⟩ := hcut
          go_wp2_with fail
          go_roundg (gk - 1)
          case measure => have := HG.out; omega
          case rel => exact ⟨k + 1, by omega, by have := HG.out; omega, by go_num, hruns⟩
    · obtain rfl : k = len := by omega
      clear hE hr hlt
      obtain ⟨O, S, W, next, cnt, T, G, vT, vG, hri, hsim, hS, hTl, hGl, hbel⟩ := hruns
      go_wp2
      go_ret
      exact ⟨rfl, hbel⟩

end Go.Proofs.Ytoifnljlnpkodaa

/-
  The walk of the law ArenaOnce.
-/
import Derived.Test.YtoifnljlnpkodaaAlive
import Derived.Test.YtoifnljlnpkodaaOncePlain
import Derived.Test.YtoifnljlnpkodaaRem
import Derived.Test.YtoifnljlnpkodaaElems
import Derived.Deep.LoopGhost
import Derived.Deep.RegionLaw
import Derived.Deep.DeepCutAuto
import Derived.Deep.CutBlock
namespace Go.Proofs.Ytoifnljlnpkodaa
open Go.RowKit
set_option linter.unusedVariables false

/-- What holds at the head of a round, and ahead of its last look. -/
def Once (w : World) (p n k : Nat) (most : Int) (vL vE : Value) (wr : World) : Prop :=
  ∃ O S W next L E, (∀ b ∈ O, w.heap.size ≤ b) ∧ AR w.heap.size p O S W next L.length most wr ∧ HRow wr O vL L ∧ HRow wr O vE E ∧ (∀ b, vL.ownBlock = some b → vE.ownBlock ≠ some b) ∧ OnceInv n S L E ∧ E.length ≤ k ∧ Below w.heap.size w wr

set_option maxHeartbeats 4000000 in
set_option maxRecDepth 100000 in
theorem arenaOnce_calls (w : World) (cap : Int) (hcap : (Lit.int .u8 cap).wf = true) (most : Int) (hmost : (Lit.int .u32 most).wf = true) (ad : Option Addr) (len acap : Nat) (C : Nat → List Value) (_hl : len ≤ acap) (_hm : acap ≤ maxLen)
    (hE : ∀ i, i < len → BoolCells (C i)) (hr : IsRows w 1 ad len C) :
    Calls Try.prog 4 #[.int .u8 cap, .int .u32 most, .slice ad len acap] w fun e w' => e = .returned (.bool true) ∧ Below w.heap.size w w' := by
  have hm : 0 ≤ most ∧ most ≤ 4294967295 := by simp [Lit.wf, IntKind.min, IntKind.max, IntKind.signed, IntKind.bits] at hmost; omega
  have es := eqHandle
  have eg := guardHandle
  obtain ⟨n, hn, hn20⟩ := rem_u8 hcap 20 (by omega)
  clear hcap hmost
  have HN := Lib.hid hn
  clear hn
  obtain ⟨hm0, hm1⟩ := hm
  by_cases h0 : most = 0
  · subst h0
    by_cases h80 : 80 < len
    · go_enter Try.func4, Try.ntmps4
      go_wp2_with fail
      refine (alive_calls _).mono ?_
      rintro e w1 ⟨rfl, h1⟩
      go_wp2_with fail
      refine (new_no w1 _ 0 (by omega)).mono ?_
      rintro e w2 ⟨rfl, rfl⟩
      go_wp2
      go_ret
      exact ⟨rfl, h1⟩
    · go_enter Try.func4, Try.ntmps4
      go_wp2_with fail
      refine (alive_calls _).mono ?_
      rintro e w1 ⟨rfl, h1⟩
      go_wp2_with fail
      refine (new_no w1 _ 0 (by omega)).mono ?_
      rintro e w2 ⟨rfl, rfl⟩
      go_wp2
      go_ret
      exact ⟨rfl, h1⟩
  by_cases h80 : 80 < len
  · have hb80 : decide ((80 : Int) < (len : Int)) = true := by rw [decide_eq_true_iff]; omega
    go_enter Try.func4, Try.ntmps4
    go_wp2_with fail
    refine (alive_calls _).mono ?_
    rintro e w1 ⟨rfl, h1⟩
    go_wp2_with fail
    rw [HN.out]
    refine (ar_new w.heap.size [] most w1 n (by omega) (by omega) (by omega) h1.size (by simp)).mono ?_
    rintro e w2 ⟨p, rfl, h2, k2, _, _⟩
    go_wp2
    go_ret
    exact ⟨rfl, h1.trans k2.1⟩
  · have hb80 : decide ((80 : Int) < (len : Int)) = false := by rw [decide_eq_false_iff_not]; omega
    have hl80 : len ≤ 80 := by omega
    clear h80
    go_enter Try.func4, Try.ntmps4
    go_wp2_with fail
    refine (alive_calls _).mono ?_
    rintro e w1 ⟨rfl, h1⟩
    go_wp2_with fail
    rw [HN.out]
    refine (ar_new w.heap.size [] most w1 n (by omega) (by omega) (by omega) h1.size (by simp)).mono ?_
    rintro e w2 ⟨p, rfl, h2, k2, _, _⟩
    have hb2 := h1.trans k2.1
    have hinit : Once w p n 0 most (.slice (some ⟨w2.heap.size, 0, none⟩) 0 0) (.slice (some ⟨w2.heap.size + 1, 0, none⟩) 0 0) ((w2.alloc (.cells #[] 30)).alloc (.cells #[] 30)) := by
      have hp3 := (h2.push (.cells #[] 30)).push (.cells #[] 30)
      have hs := hb2.size
      refine ⟨_, _, _, _, [], [], ?_, hp3.cnt rfl, ⟨(owns_empty w2 _ 2 _ rfl).alloc _, ?_⟩, ⟨?_, ?_⟩, ?_, ⟨by simp, by simp, by simp, by simp⟩, by simp, (hb2.alloc hs _).alloc (by simp; omega) _⟩
      · intro b hb; simp at hb; omega
      · intro b hb; simp [Value.ownBlock] at hb; simp [hb]
      · have := owns_empty (w2.alloc (.cells #[] 30)) 30 2 _ rfl
        simpa [hCells] using this
      · intro b hb; simp [Value.ownBlock] at hb; simp [hb]
      · intro b hb; simp [Value.ownBlock] at hb ⊢; omega
    clear h2 k2 h1 hb2
    go_wp2_with fail
    generalize ((w2.alloc (.cells #[] 30)).alloc (.cells #[] 30)) = w3 at *
    go_loopg [9, 10, 53] (len + 1) (fun m s t u wr => ∃ k : Nat, k ≤ len ∧ m + k = len + 1 ∧ u = .int .i64 k ∧ Once w p n k most s t wr)
    case atStart => exact ⟨0, by omega, rfl, rfl, hinit⟩
    case round =>
      clear hinit
      obtain ⟨k, hk, hgk, rfl, O, S, W, next, L, E, hO, h2, hL, hEv, hd, hinv, hEk, hbel⟩ := hrel
      obtain ⟨aL, cL, rfl⟩ := hL.form
      obtain ⟨aE, cE, rfl⟩ := hEv.form
      have HG := Lib.hid hgk
      clear hgk
      by_cases hlt : k < len
      · obtain ⟨tk, hC⟩ := hE k hlt
        obtain ⟨b, off, rfl, hbw, hcells⟩ : ∃ b off, ad = some ⟨b, off, none⟩ ∧ b < w.heap.size ∧ ∀ j, j < 1 → w.cell? ⟨b, off + (k * 1 + j), none⟩ = (C k)[j]? := by
          rcases hr with h0 | ⟨b, off, e, hb, hcs⟩
          · omega
          · exact ⟨b, off, e, hb, fun j hj => hcs k hlt j hj⟩
        have c0 := hcells 0 (by omega)
        rw [hC] at c0
        have e0 : wr.cell? ⟨b, off + k, none⟩ = some (.bool tk) := (hbel.cell (p := ⟨b, off + k, none⟩) hbw).trans (by simpa using c0)
        clear c0 hcells hC hE hr
        go_upto_if 58 with fail
        go_cut [9, 10] (fun s t wc => Once w p n (k + 1) most s t wc)
        case first =>
          cases tk with
          | true =>
            rcases hp : pickS S.length W next with _ | ⟨j, W', next'⟩
            · go_wp2_with fail
              refine (ar_full _ _ _ _ _ _ _ _ _ h2 hbel.size hp).mono ?_
              rintro e wa ⟨rfl, ha, ka⟩
              have hfin : Once w p n (k + 1) most (.slice aL L.length cL) (.slice aE E.length cE) (wa.alloc (.cells #[.int .i64 0, .int .u32 0] 30)) :=
                ⟨_, S, W, next, L, E, fun b hb => by simp only [List.mem_cons] at hb; rcases hb with rfl | hb; exact (hbel.trans ka.1).size; exact hO b hb, ha.push _, (hL.stays ka).kept (fun b hb => blk_alloc_old _ (ha.lt b hb)) (fun b hb => List.mem_cons_of_mem _ hb), (hEv.stays ka).kept (fun b hb => blk_alloc_old _ (ha.lt b hb)) (fun b hb => List.mem_cons_of_mem _ hb), hd, hinv, by omega, (hbel.trans ka.1).alloc (hbel.trans ka.1).size _⟩
              clear h2 ha ka hL hEv hd hinv hbel hO e0
              have hgk := HG.out
              go_wp2_with fail
              go_roundg (gk - 1)
              case measure => omega
              case rel => exact ⟨k + 1, by omega, by omega, by go_num, hfin⟩
            · have hpk := h2.inv.pick hp
              obtain ⟨p1, p2, p3, p4, _⟩ := hpk
              have hlen := hinv.len
              obtain ⟨g, hg⟩ : ∃ g, (S.getD j (0, false)).1 = g := ⟨_, rfl⟩
              have hinv' := hinv.take (by omega) p2 g hg
              have hnew := hinv.new (by omega) g hg
              have hsm := hinv.small
              go_wp2_with fail
              refine (ar_take _ _ _ _ _ _ _ _ _ h2 hbel.size j W' next' hp).mono ?_
              rintro e wa ⟨rfl, ha, ka⟩
              rw [hg] at ha ⊢
              have hL1 := hL.stays ka
              have hE1 := hEv.stays ka
              have hbel1 := hbel.trans ka.1
              have ha2 := ha.push (.cells #[.int .i64 j, .int .u32 (g + 1)] 30)
              have hL2 : HRow (wa.alloc (.cells #[.int .i64 j, .int .u32 (g + 1)] 30)) (wa.heap.size :: O) (.slice aL L.length cL) L := hL1.kept (fun b hb => blk_alloc_old _ (ha.lt b hb)) (fun b hb => List.mem_cons_of_mem _ hb)
              have hE2 : HRow (wa.alloc (.cells #[.int .i64 j, .int .u32 (g + 1)] 30)) (wa.heap.size :: O) (.slice aE E.length cE) E := hE1.kept (fun b hb => blk_alloc_old _ (ha.lt b hb)) (fun b hb => List.mem_cons_of_mem _ hb)
              have hO2 : ∀ b ∈ wa.heap.size :: O, w.heap.size ≤ b := fun b hb => by simp only [List.mem_cons] at hb; rcases hb with rfl | hb; exact hbel1.size; exact hO b hb
              have hbel2 := hbel1.alloc hbel1.size (.cells #[.int .i64 j, .int .u32 (g + 1)] 30)
              have hn0 := blk_alloc_new (w := wa) (.cells #[.int .i64 j, .int .u32 (g + 1)] 30)
              have hz : ∀ b ∈ O, b ≠ wa.heap.size := fun b hb e => by have := ha.lt b hb; omega
              have hzL := fun b hb => hz b (hL.mem b hb)
              have hzE := fun b hb => hz b (hEv.mem b hb)
              clear h2 hL hEv hbel hinv hp p1 p2 p3 p4 ha ka hL1 hE1 hbel1 e0
              go_wp2_with fail
              generalize hwb : wa.alloc (.cells #[.int .i64 j, .int .u32 (g + 1)] 30) = wb at *
              generalize hza : wa.heap.size = za at *
              clear hwb hza hbw
              go_loopg [68] (E.length + 1) (fun m s wr => ∃ x : Nat, x ≤ E.length ∧ m + x = E.length + 1 ∧ s = .int .i64 x ∧ Below wb.heap.size wb wr)
              case atStart => exact ⟨0, by omega, by omega, rfl, Below.refl _ _⟩
              case round =>
                obtain ⟨x, hx, hgx, rfl, hbx⟩ := hrel
                have HGX := Lib.hid hgx
                clear hgx
                have hza := lt_of_block hn0
                have q0 : wr.cell? ⟨za, 0, none⟩ = some (.int .i64 j) := by rw [hbx.cell (p := ⟨za, 0, none⟩) hza, cell_of_blk hn0]; rfl
                have q1 : wr.cell? ⟨za, 1, none⟩ = some (.int .u32 (g + 1)) := by rw [hbx.cell (p := ⟨za, 1, none⟩) hza, cell_of_blk hn0]; rfl
                have hzr : za < wr.heap.size := Nat.lt_of_lt_of_le hza hbx.size
                by_cases hxE : x < E.length
                · obtain ⟨gb, rfl, glt, gO, c0, c1⟩ := hE2.at x hxE
                  have hne := hnew (E.getD x (0, 0)) (by simp [List.getD, hxE])
                  generalize E.getD x (0, 0) = hh at *
                  obtain ⟨j2, g2⟩ := hh
                  simp only at c0 c1 hne
                  have d0 := (hbx.cell (p := ⟨gb, x * 2, none⟩) glt).trans c0
                  have d1 := (hbx.cell (p := ⟨gb, x * 2 + 1, none⟩) glt).trans c1
                  have hbx2 : Below wb.heap.size wb (wr.alloc (.cells #[.int .i64 j2, .int .u32 g2] 30)) := hbx.alloc hbx.size _
                  clear c0 c1 hbx ha2 hL2 hE2 hinv' hnew hO2 hd hz hn0
                  go_wp2_with fail
                  go_roundg (gk - 1)
                  case measure => have := HGX.out; omega
                  case rel => exact ⟨x + 1, by omega, by have := HGX.out; omega, by go_num, hbx2⟩
                · obtain rfl : x = E.length := by omega
                  obtain ⟨h3, k3⟩ := ha2.below hbx hbel2.size
                  have hL3 := hL2.below ha2 hbx
                  have hE3 := hE2.below ha2 hbx
                  have hbel3 := hbel2.trans k3.1
                  have hn3 := (hbx.block za hza).trans hn0
                  clear ha2 hL2 hE2 hbel2 hn0 hbx k3
                  go_upto_region 20 with (at_builtin; refine wpList_push_agg _ 30 #[.int .i64 j, .int .u32 (g + 1)] (0, 0) rfl (.tmp 76) (.tmp 78) 32 rfl (.agg #[.int .i64 0, .int .u32 0]) 2 16 Try.underlying32 Try.infoHandle rfl (by decide) rfl (by simp [Value.oneCell']) _ L.length (hCells L) (by simp [Act.eval]) hL3.row (by simp [Act.eval]) (by unfold maxLen; omega) (by omega) ?_)
                  intro g' cap' w4 hr4 hk4 hf4
                  obtain ⟨z1, z2, z3, z4⟩ := pushed_all h3 hL3 hO2 hbel3 hbel3.size hr4 hk4 hf4
                  have hE4 : HRow w4 (g' :: za :: O) (.slice aE E.length cE) E := (hE3.keep hk4 (fun b hb e => hd b (by simpa using e) hb)).kept (fun b hb => rfl) (fun b hb => List.mem_cons_of_mem _ hb)
                  have hn4 := hk4.blk hn3 (fun e => hzL za (by simpa using e) rfl)
                  have r0 : w4.cell? ⟨za, 0, none⟩ = some (.int .i64 j) := by rw [cell_of_blk hn4]; rfl
                  have r1 : w4.cell? ⟨za, 1, none⟩ = some (.int .u32 (g + 1)) := by rw [cell_of_blk hn4]; rfl
                  have hd4 : ∀ b, (Value.slice aE E.length cE).ownBlock = some b → b ≠ g' := by
                    intro b hb e
                    subst e
                    rcases hf4 with h | h
                    · exact hd _ h hb
                    · have := hE3.lt _ hb; omega
                  have hg4 := row_lt hr4
                  have hzr4 := lt_of_block hn4
                  clear h3 hL3 hE3 hr4 hk4 hf4 hO2 hbel3 hn3 hn4 q0 q1 hd hzL hzE hz hza hzr
                  go_wp2_with (at_builtin; refine wpList_push_agg _ 30 #[.int .i64 j, .int .u32 (g + 1)] (0, 0) rfl (.tmp 80) (.tmp 82) 32 rfl (.agg #[.int .i64 0, .int .u32 0]) 2 16 Try.underlying32 Try.infoHandle rfl (by decide) rfl (by simp [Value.oneCell']) _ E.length (hCells E) (by simp [Act.eval]) hE4.row (by simp [Act.eval]) (by unfold maxLen; omega) (by omega) ?_)
                  intro g2 cap2 w5 hr5 hk5 hf5
                  obtain ⟨y1, y2, y3, y4⟩ := pushed_all z1 hE4 z3 z4 z4.size hr5 hk5 hf5
                  have hL5 : HRow w5 (g2 :: g' :: za :: O) _ _ := (z2.keep hk5 (fun b hb e => hd4 b (by simpa using e) (by simpa [Value.ownBlock] using hb.symm))).kept (fun b hb => rfl) (fun b hb => List.mem_cons_of_mem _ hb)
                  have hfin : Once w p n (k + 1) most (.slice (some ⟨g', 0, none⟩) (L.length + 1) cap') (.slice (some ⟨g2, 0, none⟩) (E.length + 1) cap2) w5 := by
                    refine ⟨_, _, _, _, _, _, y3, y1.cnt (by simp), by simpa using hL5, by simpa using y2, ?_, hinv', by simp; omega, y4⟩
                    intro b hb e
                    simp only [Value.ownBlock, Option.some.injEq] at hb e
                    subst hb
                    subst e
                    rcases hf5 with h | h
                    · exact hd4 _ h rfl
                    · omega
                  clear y1 y2 y3 y4 z1 z2 z3 z4 hE4 hr5 hk5 hf5 hL5 r0 r1 hd4 hg4 hzr4 hinv' hnew
                  go_wp2_with fail
                  go_meet
                  exact hfin
          | false =>
            by_cases hL0 : L.length = 0
            · have hb0 : ¬ 0 < L.length := by omega
              have hfin : Once w p n (k + 1) most (.slice aL L.length cL) (.slice aE E.length cE) wr := ⟨O, S, W, next, L, E, hO, h2, hL, hEv, hd, hinv, by omega, hbel⟩
              clear hL0 h2 hL hEv hd hinv hbel hO
              go_wp2_with fail
              go_meet
              exact hfin
            · have hb0 : 0 < L.length := by omega
              have hb1 : ((L.length : Int) == 0) = false := by rw [beq_eq_false_iff_ne]; omega
              obtain ⟨x, hx, hxL⟩ : ∃ x : Nat, (k : Int) % (L.length : Int) = (x : Int) ∧ x < L.length := by
                have h1 := Int.emod_nonneg (k : Int) (b := (L.length : Int)) (by omega)
                have h2 := Int.emod_lt_of_pos (k : Int) (b := (L.length : Int)) (by omega)
                exact ⟨((k : Int) % (L.length : Int)).toNat, by omega, by omega⟩
              obtain ⟨gb, rfl, glt, gO, c0, c1⟩ := hL.at x hxL
              have hlive := hinv.live hxL
              obtain ⟨hinv', hdead⟩ := hinv.give hxL
              have hLx : L.getD x (0, 0) = ((L.getD x (0, 0)).1, (L.getD x (0, 0)).2) := rfl
              generalize L.getD x (0, 0) = hh at *
              obtain ⟨j, gen⟩ := hh
              simp only at c0 c1 hlive hdead hinv'
              have hh2 := h2.push (.cells #[.int .i64 j, .int .u32 gen] 30)
              have hLw : HRow (wr.alloc (.cells #[.int .i64 j, .int .u32 gen] 30)) (wr.heap.size :: O) _ L := hL.kept (fun b hb => blk_alloc_old _ (h2.lt b hb)) (fun b hb => List.mem_cons_of_mem _ hb)
              have hEw : HRow (wr.alloc (.cells #[.int .i64 j, .int .u32 gen] 30)) (wr.heap.size :: O) _ E := hEv.kept (fun b hb => blk_alloc_old _ (h2.lt b hb)) (fun b hb => List.mem_cons_of_mem _ hb)
              have hOw : ∀ b ∈ wr.heap.size :: O, w.heap.size ≤ b := fun b hb => by simp only [List.mem_cons] at hb; rcases hb with rfl | hb; exact hbel.size; exact hO b hb
              have hbelw := hbel.alloc hbel.size (.cells #[.int .i64 j, .int .u32 gen] 30)
              have hnw := blk_alloc_new (w := wr) (.cells #[.int .i64 j, .int .u32 gen] 30)
              obtain ⟨hcl1, hcl2⟩ := row_cap hL.row
              have hsm := hinv.small
              go_upto_region 24 with fail
              clear h2 hL hEv hO hbel hinv c0 c1 e0 hd hLx hlt hbw
              have hglt : gb < (wr.alloc (.cells #[.int .i64 j, .int .u32 gen] 30)).heap.size := by simp; omega
              generalize wr.alloc (.cells #[.int .i64 j, .int .u32 gen] 30) = wh at *
              generalize wr.heap.size = zh at *
              obtain ⟨hn1, hn2⟩ := hLw.parts x
              have hxc : x ≤ cL := by omega
              have hxc1 : x + 1 ≤ cL := by omega
              have hxc2 : x + 1 ≤ L.length := by omega
              have hwx : IntKind.i64.wrap ((x : Int) + 1) = (x : Int) + 1 := by rw [IntKind.wrap_i64]; omega
              have hwx0 : (0 : Int) ≤ (x : Int) + 1 := by omega
              have hwx1 : (x : Int) + 1 ≤ (L.length : Int) := by omega
              have hwx2 : ((x : Int) + 1).toNat = x + 1 := by omega
              have hown0 := owns_empty wh 30 2 _ rfl
              have hl1 : (hCells (L.take x)).length = x * 2 := by rw [hCells_len, List.length_take]; omega
              have hl2 : (hCells (L.drop (x + 1))).length = (L.length - (x + 1)) * 2 := by rw [hCells_len, List.length_drop]
              have ho1 := hCells_one (L.take x)
              have ho2 := hCells_one (L.drop (x + 1))
              have hb0w : Below wh.heap.size wh (wh.alloc (.cells #[] 30)) := (Below.refl _ _).alloc (Nat.le_refl _) _
              have hv0 : ∀ b, (Value.slice (some ⟨wh.heap.size, 0, none⟩) 0 0).ownBlock = some b → wh.heap.size ≤ b := fun b hb => by simp [Value.ownBlock] at hb; omega
              by_cases hcx : cL = x + 1
              · have hn2 : ∀ j u, (hCells (L.drop (x + 1)))[j]? = some u → wh.cell? ((⟨gb, 0, none⟩ : Addr).add j) = some u := by
                  intro j u hu
                  rw [List.drop_eq_nil_of_le (by omega)] at hu
                  simp [hCells] at hu
                have hxx : (x : Int) ≤ (x : Int) + 1 := by omega
                go_region_law (first
                  | (refine step_app rfl (.tmp 95) (.tmp 98) 32 rfl 30 (.agg #[.int .i64 0, .int .u32 0]) 2 16 Try.underlying32 Try.infoHandle rfl (by decide) wh _ (below_heap hb0w rfl rfl rfl rfl) (.slice (some ⟨wh.heap.size, 0, none⟩) 0 0) 0 [] rfl (owns_heap hown0 rfl) hv0 ⟨gb, 0, none⟩ x _ (hCells (L.take x)) rfl hglt hl1 hn1 ho1 (by unfold maxLen; omega) (by omega) ?_; intro v1 wz1 hv1 hv2 hv3)
                  | (refine step_app rfl (.tmp 99) (.tmp 103) 32 rfl 30 (.agg #[.int .i64 0, .int .u32 0]) 2 16 Try.underlying32 Try.infoHandle rfl (by decide) wh _ (below_heap hv2 rfl rfl rfl rfl) _ (0 + x) ([] ++ hCells (L.take x)) rfl (owns_heap hv1 rfl) hv3 ⟨gb, 0, none⟩ (L.length - (x + 1)) _ (hCells (L.drop (x + 1))) rfl hglt hl2 hn2 ho2 (by unfold maxLen; omega) (by omega) ?_; intro v2 wz2 hv4 hv5 hv6; have q4 := erased (L := L) (x := x) hv4 (by omega) hxL (by simp); clear hv4))
                all_goals
                  obtain ⟨O2, a1, a2, a3, a4⟩ := hh2.own hbelw.size (by assumption) q4 (by assumption)
                  have b5 := (by assumption : Below wh.heap.size wh wz2)
                  have b6 := (by assumption : ∀ b, v2.ownBlock = some b → wh.heap.size ≤ b)
                  have hL9 : HRow wz2 O2 v2 (L.eraseIdx x) := ⟨q4, a3⟩
                  obtain ⟨a9, c9, rfl⟩ := hL9.form
                  have hE9 : HRow wz2 O2 (.slice aE E.length cE) E := (hEw.below hh2 b5).kept (fun b hb => rfl) a2
                  have hO9 : ∀ b ∈ O2, w.heap.size ≤ b := fun b hb => by
                    rcases a4 b hb with h | h
                    · exact hOw b h
                    · have := hbelw.size; omega
                  have hbel9 := hbelw.trans (b5.mono hbelw.size)
                  have hn9 := (b5.block _ (lt_of_block hnw)).trans hnw
                  have r0 : wz2.cell? ⟨zh, 0, none⟩ = some (.int .i64 j) := by rw [cell_of_blk hn9]; rfl
                  have r1 : wz2.cell? ⟨zh, 1, none⟩ = some (.int .u32 gen) := by rw [cell_of_blk hn9]; rfl
                  have hd9 : ∀ b, (Value.slice a9 (L.eraseIdx x).length c9).ownBlock = some b → (Value.slice aE E.length cE).ownBlock ≠ some b := fun b hb e => by
                    have := b6 b hb
                    have := hEw.lt b e
                    omega
                  have hzO := a2 zh (by simp)
                  have hcnt : ((L.eraseIdx x).length : Int) = L.length - 1 := by rw [List.length_eraseIdx, if_pos hxL]; omega
                  clear hh2 hLw hEw hOw hbelw hnw hn1 hn2 hl1 hl2 ho1 ho2 hb0w hown0 hv0 q4 a2 a3 a4 b5 b6 hn9 hglt
                  clear hv5 hv6 hv1 hv2 hv3
                  go_wp2_with fail
                  refine (ar_give _ _ _ _ _ _ _ _ _ a1 hbel9.size j gen hlive).mono ?_
                  rintro e wd ⟨rfl, h7, k7⟩
                  have hL10 := hL9.stays k7
                  have hE10 := hE9.stays k7
                  have hbel10 := hbel9.trans k7.1
                  have s0 := (k7.cell (i := 0) hzO).trans r0
                  have s1 := (k7.cell (i := 1) hzO).trans r1
                  clear a1 hL9 hE9 hbel9 r0 r1 k7 hlive
                  go_wp2_with fail
                  refine (ar_live _ _ _ _ _ _ _ _ _ h7 hbel10.size j gen).mono ?_
                  rintro e we ⟨rfl, h8, k8⟩
                  rw [hdead]
                  have hL11 := hL10.stays k8
                  have hE11 := hE10.stays k8
                  have hbel11 := hbel10.trans k8.1
                  have t0 := (k8.cell (i := 0) hzO).trans s0
                  have t1 := (k8.cell (i := 1) hzO).trans s1
                  clear h7 hL10 hE10 hbel10 s0 s1 k8
                  go_wp2_with fail
                  refine (ar_stale _ _ _ _ _ _ _ _ _ h8 hbel11.size j gen hdead).mono ?_
                  rintro e wf ⟨rfl, h9, k9⟩
                  have hfin : Once w p n (k + 1) most (.slice a9 (L.eraseIdx x).length c9) (.slice aE E.length cE) wf :=
                    ⟨O2, _, _, _, _, E, hO9, h9.cnt hcnt.symm, hL11.stays k9, hE11.stays k9, hd9, hinv', by omega, hbel11.trans k9.1⟩
                  clear h8 h9 k9 hL11 hE11 hbel11 t0 t1 hd9 hinv' hO9 hdead
                  go_wp2_with fail
                  go_meet
                  exact hfin
              · go_region_law (first
                  | (refine step_app rfl (.tmp 95) (.tmp 98) 32 rfl 30 (.agg #[.int .i64 0, .int .u32 0]) 2 16 Try.underlying32 Try.infoHandle rfl (by decide) wh _ (below_heap hb0w rfl rfl rfl rfl) (.slice (some ⟨wh.heap.size, 0, none⟩) 0 0) 0 [] rfl (owns_heap hown0 rfl) hv0 ⟨gb, 0, none⟩ x _ (hCells (L.take x)) rfl hglt hl1 hn1 ho1 (by unfold maxLen; omega) (by omega) ?_; intro v1 wz1 hv1 hv2 hv3)
                  | (refine step_app rfl (.tmp 99) (.tmp 103) 32 rfl 30 (.agg #[.int .i64 0, .int .u32 0]) 2 16 Try.underlying32 Try.infoHandle rfl (by decide) wh _ (below_heap hv2 rfl rfl rfl rfl) _ (0 + x) ([] ++ hCells (L.take x)) rfl (owns_heap hv1 rfl) hv3 ⟨gb, (x + 1) * 2, none⟩ (L.length - (x + 1)) _ (hCells (L.drop (x + 1))) rfl hglt hl2 hn2 ho2 (by unfold maxLen; omega) (by omega) ?_; intro v2 wz2 hv4 hv5 hv6; have q4 := erased (L := L) (x := x) hv4 (by omega) hxL (by simp); clear hv4))
                all_goals
                  obtain ⟨O2, a1, a2, a3, a4⟩ := hh2.own hbelw.size (by assumption) q4 (by assumption)
                  have b5 := (by assumption : Below wh.heap.size wh wz2)
                  have b6 := (by assumption : ∀ b, v2.ownBlock = some b → wh.heap.size ≤ b)
                  have hL9 : HRow wz2 O2 v2 (L.eraseIdx x) := ⟨q4, a3⟩
                  obtain ⟨a9, c9, rfl⟩ := hL9.form
                  have hE9 : HRow wz2 O2 (.slice aE E.length cE) E := (hEw.below hh2 b5).kept (fun b hb => rfl) a2
                  have hO9 : ∀ b ∈ O2, w.heap.size ≤ b := fun b hb => by
                    rcases a4 b hb with h | h
                    · exact hOw b h
                    · have := hbelw.size; omega
                  have hbel9 := hbelw.trans (b5.mono hbelw.size)
                  have hn9 := (b5.block _ (lt_of_block hnw)).trans hnw
                  have r0 : wz2.cell? ⟨zh, 0, none⟩ = some (.int .i64 j) := by rw [cell_of_blk hn9]; rfl
                  have r1 : wz2.cell? ⟨zh, 1, none⟩ = some (.int .u32 gen) := by rw [cell_of_blk hn9]; rfl
                  have hd9 : ∀ b, (Value.slice a9 (L.eraseIdx x).length c9).ownBlock = some b → (Value.slice aE E.length cE).ownBlock ≠ some b := fun b hb e => by
                    have := b6 b hb
                    have := hEw.lt b e
                    omega
                  have hzO := a2 zh (by simp)
                  have hcnt : ((L.eraseIdx x).length : Int) = L.length - 1 := by rw [List.length_eraseIdx, if_pos hxL]; omega
                  clear hh2 hLw hEw hOw hbelw hnw hn1 hn2 hl1 hl2 ho1 ho2 hb0w hown0 hv0 q4 a2 a3 a4 b5 b6 hn9 hglt
                  clear hv5 hv6 hv1 hv2 hv3
                  go_wp2_with fail
                  refine (ar_give _ _ _ _ _ _ _ _ _ a1 hbel9.size j gen hlive).mono ?_
                  rintro e wd ⟨rfl, h7, k7⟩
                  have hL10 := hL9.stays k7
                  have hE10 := hE9.stays k7
                  have hbel10 := hbel9.trans k7.1
                  have s0 := (k7.cell (i := 0) hzO).trans r0
                  have s1 := (k7.cell (i := 1) hzO).trans r1
                  clear a1 hL9 hE9 hbel9 r0 r1 k7 hlive
                  go_wp2_with fail
                  refine (ar_live _ _ _ _ _ _ _ _ _ h7 hbel10.size j gen).mono ?_
                  rintro e we ⟨rfl, h8, k8⟩
                  rw [hdead]
                  have hL11 := hL10.stays k8
                  have hE11 := hE10.stays k8
                  have hbel11 := hbel10.trans k8.1
                  have t0 := (k8.cell (i := 0) hzO).trans s0
                  have t1 := (k8.cell (i := 1) hzO).trans s1
                  clear h7 hL10 hE10 hbel10 s0 s1 k8
                  go_wp2_with fail
                  refine (ar_stale _ _ _ _ _ _ _ _ _ h8 hbel11.size j gen hdead).mono ?_
                  rintro e wf ⟨rfl, h9, k9⟩
                  have hfin : Once w p n (k + 1) most (.slice a9 (L.eraseIdx x).length c9) (.slice aE E.length cE) wf :=
                    ⟨O2, _, _, _, _, E, hO9, h9.cnt hcnt.symm, hL11.stays k9, hE11.stays k9, hd9, hinv', by omega, hbel11.trans k9.1⟩
                  clear h8 h9 k9 hL11 hE11 hbel11 t0 t1 hd9 hinv' hO9 hdead
                  go_wp2_with fail
                  go_meet
                  exact hfin
        case rest =>
          clear h2 hL hEv hd hinv hbel hO e0 hEk
          obtain ⟨O1, S1, W1, next1, L1, E1, hO, h2, hL, hEv, hd, hinv, hEk, hbel⟩ := hcut
          obtain ⟨aL1, cL1, rfl⟩ := hL.form
          have hsm1 := hinv.small
          go_wp2_with fail
          go_loopg [122] (L1.length + 1) (fun m s wr => ∃ x O5 : _, x ≤ L1.length ∧ m + x = L1.length + 1 ∧ s = .int .i64 x ∧ (∀ b ∈ O5, w.heap.size ≤ b) ∧ AR w.heap.size p O5 S1 W1 next1 L1.length most wr ∧ HRow wr O5 (.slice aL1 L1.length cL1) L1 ∧ HRow wr O5 _ E1 ∧ Below w.heap.size w wr)
          case atStart => exact ⟨0, O1, by omega, rfl, rfl, hO, h2, hL, hEv, hbel⟩
          case round =>
            clear h2 hL hEv hbel hO
            obtain ⟨x, O5, hx, hgx, rfl, hO, h2, hL, hEv, hbel⟩ := hrel
            have HGX := Lib.hid hgx
            clear hgx
            by_cases hxL : x < L1.length
            · obtain ⟨gb, rfl, glt, gO, c0, c1⟩ := hL.at x hxL
              have hlive := hinv.live hxL
              generalize L1.getD x (0, 0) = hh at *
              obtain ⟨j, gen⟩ := hh
              simp only at c0 c1 hlive
              have h3 := h2.push (.cells #[.int .i64 j, .int .u32 gen] 30)
              have hL3 : HRow (wr.alloc (.cells #[.int .i64 j, .int .u32 gen] 30)) (wr.heap.size :: O5) _ L1 := hL.kept (fun b hb => blk_alloc_old _ (h2.lt b hb)) (fun b hb => List.mem_cons_of_mem _ hb)
              have hE3 : HRow (wr.alloc (.cells #[.int .i64 j, .int .u32 gen] 30)) (wr.heap.size :: O5) _ E1 := hEv.kept (fun b hb => blk_alloc_old _ (h2.lt b hb)) (fun b hb => List.mem_cons_of_mem _ hb)
              have hO3 : ∀ b ∈ wr.heap.size :: O5, w.heap.size ≤ b := fun b hb => by simp only [List.mem_cons] at hb; rcases hb with rfl | hb; exact hbel.size; exact hO b hb
              have hbel3 := hbel.alloc hbel.size (.cells #[.int .i64 j, .int .u32 gen] 30)
              clear h2 hL hEv hbel hO
              go_wp2_with fail
              refine (ar_live _ _ _ _ _ _ _ _ _ h3 hbel3.size j gen).mono ?_
              rintro e wd ⟨rfl, h4, k4⟩
              rw [hlive]
              have hL4 := hL3.stays k4
              have hE4 := hE3.stays k4
              have hbel4 := hbel3.trans k4.1
              clear h3 hL3 hE3 hbel3 k4 hlive c0 c1
              go_wp2_with fail
              go_roundg (gk - 1)
              case measure => have := HGX.out; omega
              case rel => exact ⟨x + 1, _, by omega, by have := HGX.out; omega, by go_num, hO3, h4, hL4, hE4, hbel4⟩
            · go_wp2_with fail
              refine (ar_count _ _ _ _ _ _ _ _ _ h2).mono ?_
              rintro e w' ⟨rfl, rfl⟩
              have hcc : ((L1.length : Int) != (L1.length : Int)) = false := by simp
              have hfin := (⟨_, _, _, _, _, _, hO, h2, hL, hEv, hd, hinv, hEk, hbel⟩ : Once w p n (k + 1) most _ _ wr)
              have hgk := HG.out
              clear h2 hL hEv hbel hO hd hinv
              go_wp2_with fail
              go_roundg (len - k)
              case measure => omega
              case rel => exact ⟨k + 1, by omega, by omega, by go_num, hfin⟩
      · obtain rfl : k = len := by omega
        go_wp2
        go_ret
        exact ⟨rfl, hbel⟩

end Go.Proofs.Ytoifnljlnpkodaa

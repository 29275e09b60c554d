/-
  The walk of the law ArenaFills.
-/
import Derived.Test.YtoifnljlnpkodaaAlive
import Derived.Test.YtoifnljlnpkodaaFillsPlain
import Derived.Test.YtoifnljlnpkodaaRem
import Derived.Deep.LoopGhost
import Derived.Deep.DeepCutAuto
import Derived.Deep.CutBlock
namespace Go.Proofs.Ytoifnljlnpkodaa
open Go.RowKit
set_option linter.unusedVariables false

/-- What holds at the head of a round. -/
def Fills (w : World) (p n k : Nat) (most : Int) (wr : World) : Prop :=
  ∃ S W next, AR w.heap.size p [] S W next 0 most wr ∧ Below w.heap.size w wr ∧ FHead n k most S next

/-- What holds while all are taken. -/
def Taking (w : World) (p n k left i : Nat) (most : Int) (v : Value) (wr : World) : Prop :=
  ∃ O S W next L, (∀ b ∈ O, w.heap.size ≤ b) ∧ AR w.heap.size p O S W next i most wr ∧ HRow wr O v L ∧ L.length = i ∧ FTake n (min (k : Int) most) left S W next L ∧ Below w.heap.size w wr

/-- What holds while all are given back. -/
def Giving (w : World) (p n k left i : Nat) (most : Int) (v : Value) (L : List (Nat × Int)) (wr : World) : Prop :=
  ∃ O S W, (∀ b ∈ O, w.heap.size ≤ b) ∧ AR w.heap.size p O S W n (left - i) most wr ∧ HRow wr O v L ∧ FGive n (min ((k + 1 : Nat) : Int) most) S L i ∧ Below w.heap.size w wr

set_option maxHeartbeats 4000000 in
set_option maxRecDepth 100000 in
theorem arenaFills_calls (w : World) (cap : Int) (hcap : (Lit.int .u8 cap).wf = true) (most : Int) (hmost : (Lit.int .u32 most).wf = true) (rounds : Int) (hrounds : (Lit.int .u8 rounds).wf = true) :
    Calls Try.prog 5 #[.int .u8 cap, .int .u32 most, .int .u8 rounds] w fun e w' => e = .returned (.bool true) ∧ Below w.heap.size w w' := by
  have hm : 0 ≤ most ∧ most ≤ 4294967295 := by simp [Lit.wf, IntKind.min, IntKind.max, IntKind.signed, IntKind.bits] at hmost; omega
  obtain ⟨n, hn, hn20⟩ := rem_u8 hcap 20 (by omega)
  obtain ⟨nr, hnr, hnr6⟩ := rem_u8 hrounds 6 (by omega)
  clear hcap hrounds hmost
  have HN := Lib.hid hn
  have HR := Lib.hid hnr
  clear hn hnr
  obtain ⟨hm0, hm1⟩ := hm
  by_cases h0 : most = 0
  · subst h0
    go_enter Try.func5, Try.ntmps5
    go_wp2_with fail
    refine (alive_calls _).mono ?_
    rintro e w1 ⟨rfl, h1⟩
    go_wp2_with fail
    refine (new_no w1 _ 0 (by omega)).mono ?_
    rintro e w2 ⟨rfl, rfl⟩
    go_wp2
    go_ret
    exact ⟨rfl, h1⟩
  · go_enter Try.func5, Try.ntmps5
    go_wp2_with fail
    refine (alive_calls _).mono ?_
    rintro e w1 ⟨rfl, h1⟩
    go_wp2_with fail
    rw [HN.out]
    refine (ar_new w.heap.size [] most w1 n (by omega) (by omega) (by omega) h1.size (by simp)).mono ?_
    rintro e w2 ⟨p, rfl, h2, k2, _, _⟩
    have hinit : Fills w p n 0 most w2 := by
      refine ⟨_, _, _, h2, h1.trans k2.1, ⟨by simp, fun j hj => ?_, fun _ => rfl, fun h => by omega⟩⟩
      simp [List.getD, hj]; omega
    clear h2 k2 h1
    go_wp2_with fail
    go_loopg [10] (nr + 2) (fun m s wr => ∃ k : Nat, k ≤ nr + 1 ∧ m + k = nr + 2 ∧ s = .int .i64 k ∧ Fills w p n k most wr)
    case atStart => exact ⟨0, by omega, rfl, rfl, hinit⟩
    case round =>
      clear hinit
      obtain ⟨k, hk, hgk, rfl, S, W, next, h2, hbel, hhead⟩ := hrel
      have HRN := Lib.hid HR.out
      by_cases hlt : k ≤ nr
      · have hcond : decide ((k : Int) ≤ (wrap64 rounds).tmod 6) = true := by rw [HR.out]; simpa using hlt
        have hinv := h2.inv
        have hlen := hhead.len
        have hwl := hinv.wlen
        have hnx := hinv.nx
        go_wp2_with fail
        refine (ar_usable _ _ _ _ _ _ _ _ _ h2).mono ?_
        rintro e w' ⟨rfl, nn, rfl⟩
        have hst := hhead.start hinv
        obtain ⟨left, hleft⟩ : ∃ l, l = W.length + n - next := ⟨_, rfl⟩
        have e1 : (W.length + S.length - next : Int) = (left : Int) := by omega
        rw [e1]
        rw [← hleft] at hst
        have hall : (k : Int) < most → left = n := fun h => by rw [hleft]; exact hhead.all hinv h
        have hno : most ≤ (k : Int) → left = 0 := fun h => by rw [hleft]; exact hhead.no hinv h
        have hln : left ≤ n := by
          rcases Int.lt_or_le (k : Int) most with h3 | h3
          · exact Nat.le_of_eq (hall h3)
          · rw [hno h3]; omega
        have HALL := Lib.hid hall
        have HNO := Lib.hid hno
        have hinit : Taking w p n k left 0 most (.slice none 0 0) (wr.drewN nn) :=
          ⟨[], S, W, next, [], (by simp), (h2.drewN nn).cnt rfl, HRow.nil _ _, rfl, hst, hbel.trans ⟨rfl, rfl, rfl, Nat.le_refl _, fun _ _ => rfl⟩⟩
        clear h2 hbel hhead hinv hlen hwl hnx hst e1 hleft hall hno
        generalize wr.drewN nn = wq at *
        go_wp2_with fail
        go_loopg [12, 13] (left + 1) (fun m s t wr => ∃ i : Nat, i ≤ left ∧ m + i = left + 1 ∧ t = .int .i64 i ∧ Taking w p n k left i most s wr)
        case atStart => exact ⟨0, by omega, rfl, rfl, hinit⟩
        case round =>
          clear hinit
          obtain ⟨i, hi, hgi, rfl, O, S, W, next, L, hO, h2, hrow, hLi, hft, hbel⟩ := hrel
          obtain ⟨ao, cl, rfl⟩ := hrow.form
          have HG := Lib.hid hgk
          have HGI := Lib.hid hgi
          clear hgk hgi
          by_cases hil : i < left
          · obtain ⟨j, W', next', hp⟩ := hft.can h2.inv (by omega)
            obtain ⟨hj, hg⟩ := hft.gen h2.inv hp
            have hft' := hft.take h2.inv hp
            go_wp2_with fail
            refine (ar_take _ _ _ _ _ _ _ _ _ h2 hbel.size j W' next' hp).mono ?_
            rintro e wa ⟨rfl, ha, ka⟩
            rw [hg] at ha ⊢
            simp only at ha ⊢
            have hrow' := hrow.stays ka
            have hbel' := hbel.trans ka.1
            generalize min (k : Int) most + 1 = g at *
            have q0 : decide ((j : Int) < 0) = false := by rw [decide_eq_false_iff_not]; omega
            have q1 : decide ((n : Int) ≤ (j : Int)) = false := by rw [decide_eq_false_iff_not]; omega
            have hlen : L.length ≤ 20 := by omega
            have hpush := ha.push (.cells #[.int .i64 j, .int .u32 g] 30)
            have hrow2 : HRow (wa.alloc (.cells #[.int .i64 j, .int .u32 g] 30)) (wa.heap.size :: O) (.slice ao L.length cl) L := hrow'.kept (fun b hb => blk_alloc_old _ (ha.lt b hb)) (fun b hb => List.mem_cons_of_mem _ hb)
            have hbel2 := hbel'.alloc hbel'.size (.cells #[.int .i64 j, .int .u32 g] 30)
            have hsl : decide ((i : Int) < (left : Int)) = true := by simpa using hil
            subst hLi
            have HIL := Lib.hid hil
            clear h2 hrow ka ha hrow' hft hp hg hil
            have HALL' := HALL
            have HNO' := HNO
            go_wp2_with (at_builtin; refine wpList_push_agg _ 30 #[.int .i64 j, .int .u32 g] (0, 0) rfl (.tmp 71) (.tmp 73) 32 rfl (.agg #[.int .i64 0, .int .u32 0]) 2 16 Try.underlying32 Try.infoHandle rfl (by decide) rfl (by simp [Value.oneCell']) _ L.length (hCells L) (by simp [Act.eval]) hrow2.row (by simp [Act.eval]) (by unfold maxLen; omega) (by omega) ?_)
            intro g' cap' w4 hr4 hk4 hf4
            obtain ⟨z1, z2, z3, z4⟩ := pushed_all hpush hrow2 (fun b hb => by simp only [List.mem_cons] at hb; rcases hb with rfl | hb; exact hbel'.size; exact hO b hb) hbel2 hbel2.size hr4 hk4 (by simpa using hf4)
            have hfin : Taking w p n k left (L.length + 1) most (.slice (some ⟨g', 0, none⟩) (L ++ [(j, g)]).length cap') w4 := ⟨_, _, _, _, _, z3, z1.cnt (by omega), z2, by simp, hft', z4⟩
            rw [show (L ++ [(j, g)]).length = L.length + 1 by simp] at hfin
            have hgi' := HGI.out
            have hil := HIL.out
            clear z1 z2 z3 z4 hpush hrow2 hbel2 hr4 hk4 hf4 hft' HGI hO
            go_wp2_with fail
            go_roundg (gk - 1)
            case measure => omega
            case rel => exact ⟨L.length + 1, by omega, by omega, by go_num, hfin⟩
          · have hsl : decide ((i : Int) < (left : Int)) = false := by simpa using hil
            have hLl : L.length = left := by omega
            obtain ⟨rfl, hnx⟩ := hft.full h2.inv hLl
            subst hnx
            have hdone := hft.done h2.inv hLl
            have hSl := hft.len
            go_wp2_with fail
            refine (ar_full _ _ _ _ _ _ _ _ _ h2 hbel.size (by rw [hSl]; exact pickS_none)).mono ?_
            rintro e wa ⟨rfl, ha, ka⟩
            have hrow' := hrow.stays ka
            have hbel' := hbel.trans ka.1
            have hpush := ha.push (.cells #[.int .i64 0, .int .u32 0] 30)
            have hrow2 : HRow (wa.alloc (.cells #[.int .i64 0, .int .u32 0] 30)) (wa.heap.size :: O) (.slice ao L.length cl) L := hrow'.kept (fun b hb => blk_alloc_old _ (ha.lt b hb)) (fun b hb => List.mem_cons_of_mem _ hb)
            have hbel2 := hbel'.alloc hbel'.size (.cells #[.int .i64 0, .int .u32 0] 30)
            have hO2 : ∀ b ∈ wa.heap.size :: O, w.heap.size ≤ b := fun b hb => by simp only [List.mem_cons] at hb; rcases hb with rfl | hb; exact hbel'.size; exact hO b hb
            have hgk' := HG.out
            clear h2 hrow ka ha hrow' hft hbel hbel' hO HGI
            go_wp2_with fail
            generalize wa.alloc (.cells #[.int .i64 0, .int .u32 0] 30) = wb at *
            refine (ar_usable _ _ _ _ _ _ _ _ _ hpush).mono ?_
            rintro e w' ⟨rfl, nn2, rfl⟩
            have hp3 := hpush.drewN nn2
            have hrow3 : HRow (wb.drewN nn2) _ _ _ := hrow2.kept (fun b hb => rfl) (fun b hb => hb)
            have hbel3 : Below w.heap.size w (wb.drewN nn2) := hbel2.trans ⟨rfl, rfl, rfl, Nat.le_refl _, fun _ _ => rfl⟩
            have e0 : ((([] : List Nat).length + S.length - next : Int) != 0) = false := by rw [hSl]; simp
            clear hpush hrow2 hbel2
            generalize wb.drewN nn2 = wc at *
            go_wp2_with fail
            refine (ar_count _ _ _ _ _ _ _ _ _ hp3).mono ?_
            rintro e w' ⟨rfl, rfl⟩
            rw [hLi] at hLl
            subst hLl
            have e1 : ((i : Int) != (i : Int)) = false := by simp
            have hG : Giving w p next k i 0 most (.slice ao L.length cl) L wc := ⟨_, _, _, hO2, hp3.cnt (by omega), hrow3, hdone, hbel3⟩
            have hcases : (¬ 0 < k ∧ ((i : Int) != (next : Int)) = false ∧ (k : Int) < most) ∨ (0 < k ∧ ¬ most = 1 ∧ ((i : Int) != (next : Int)) = false ∧ (k : Int) < most) ∨ (0 < k ∧ ¬ 0 < i ∧ (most == 1) = true ∧ most ≤ (k : Int)) ∨ (0 < k ∧ ¬ 0 < i ∧ (most == 1) = false ∧ most ≤ (k : Int)) := by
              rcases Int.lt_or_le (k : Int) most with h | h
              · have hi2 := HALL.out h
                have hi3 : ((i : Int) != (next : Int)) = false := by simp [hi2]
                by_cases hk0 : k = 0
                · exact .inl ⟨by omega, hi3, h⟩
                · exact .inr (.inl ⟨by omega, by omega, hi3, h⟩)
              · have := HNO.out h
                by_cases hm : most = 1
                · exact .inr (.inr (.inl ⟨by omega, by omega, by simp [hm], h⟩))
                · exact .inr (.inr (.inr ⟨by omega, by omega, by simp [hm], h⟩))
            have hl20 : L.length ≤ 20 := by omega
            clear hp3 hrow3 hbel3 hdone hO2 hi hil hsl hln HALL HNO
            rcases hcases with ⟨f1, f2, f3⟩ | ⟨f1, f2, f3, f4⟩ | ⟨f1, f2, f3, f4⟩ | ⟨f1, f2, f3, f4⟩
            all_goals
              go_wp2_with fail
              clear f1 f2 f3
              try clear f4
              go_loopg [118] (i + 1) (fun m s wr => ∃ x : Nat, x ≤ i ∧ m + x = i + 1 ∧ s = .int .i64 x ∧ Giving w p next k i x most (.slice ao L.length cl) L wr)
              case atStart => exact ⟨0, by omega, rfl, rfl, hG⟩
              case round =>
                clear hG
                obtain ⟨x, hx, hgx, rfl, O5, S5, W5, hO5, h5, hrow5, hfg, hbel5⟩ := hrel
                have HGX := Lib.hid hgx
                clear hgx
                by_cases hxi : x < i
                · obtain ⟨gb, rfl, glt, gO, c0, c1⟩ := hrow5.at x (by omega)
                  have hlive := hfg.live (i := x) (by omega)
                  have hfg' := hfg.give (i := x) (by omega)
                  generalize L.getD x (0, 0) = hh at *
                  obtain ⟨j, gen⟩ := hh
                  simp only at c0 c1 hlive hfg'
                  have h6 := h5.push (.cells #[.int .i64 j, .int .u32 gen] 30)
                  have hrow6 : HRow (wr.alloc (.cells #[.int .i64 j, .int .u32 gen] 30)) (wr.heap.size :: O5) _ L := hrow5.kept (fun b hb => blk_alloc_old _ (h5.lt b hb)) (fun b hb => List.mem_cons_of_mem _ hb)
                  have hbel6 := hbel5.alloc hbel5.size (.cells #[.int .i64 j, .int .u32 gen] 30)
                  have hO6 : ∀ b ∈ wr.heap.size :: O5, w.heap.size ≤ b := fun b hb => by simp only [List.mem_cons] at hb; rcases hb with rfl | hb; exact hbel5.size; exact hO5 b hb
                  clear h5 hrow5 hbel5 hO5 hfg
                  go_wp2_with fail
                  refine (ar_give _ _ _ _ _ _ _ _ _ h6 hbel6.size j gen hlive).mono ?_
                  rintro e wd ⟨rfl, h7, k7⟩
                  have hfin : Giving w p next k i (x + 1) most (.slice (some ⟨gb, 0, none⟩) L.length cl) L wd := ⟨_, _, _, hO6, h7.cnt (by omega), hrow6.stays k7, hfg', hbel6.trans k7.1⟩
                  clear h6 hrow6 hbel6 hO6 h7 k7 hfg' hlive c0 c1
                  have hgx := HGX.out
                  go_wp2_with fail
                  go_roundg (gk - 1)
                  case measure => omega
                  case rel => exact ⟨x + 1, by omega, by omega, by go_num, hfin⟩
                · obtain rfl : x = i := by omega
                  have hhead := FGive.head (L := L) (by rw [hLi]; exact hfg)
                  have hfin : Fills w p next (k + 1) most wr := ⟨S5, W5, next, (h5.sub (O' := []) (by simp)).cnt (by omega), hbel5, hhead⟩
                  clear h5 hrow5 hfg hbel5 hhead
                  go_wp2_with fail
                  go_roundg (nr + 1 - k)
                  case measure => omega
                  case rel => exact ⟨k + 1, by omega, by omega, by go_num, hfin⟩
      · obtain rfl : k = nr + 1 := by omega
        have hcond : decide ((nr : Int) + 1 ≤ (wrap64 rounds).tmod 6) = false := by rw [HR.out, decide_eq_false_iff_not]; omega
        go_wp2_with fail
        refine (ar_count _ _ _ _ _ _ _ _ _ h2).mono ?_
        rintro e w' ⟨rfl, rfl⟩
        go_wp2
        go_ret
        exact ⟨rfl, hbel⟩

end Go.Proofs.Ytoifnljlnpkodaa

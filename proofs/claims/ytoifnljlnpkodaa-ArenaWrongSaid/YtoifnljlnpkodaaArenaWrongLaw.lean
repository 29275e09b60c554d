/-
  The walk of the law ArenaWrong.
-/
import Derived.Test.YtoifnljlnpkodaaAlive
import Derived.Test.YtoifnljlnpkodaaTwo
import Derived.Test.YtoifnljlnpkodaaRem
import Derived.Deep.LoopGhost
import Derived.Deep.DeepCutAuto
import Derived.Deep.CutBlock
namespace Go.Proofs.Ytoifnljlnpkodaa
open Go.RowKit
set_option linter.unusedVariables false

/-- What holds at the head of a round. -/
def Wrong (w : World) (p q hb : Nat) (hs hg : Int) (wr : World) : Prop :=
  ∃ S W next cnt, Two w.heap.size p q [hb] S W next cnt S W next cnt 9 wr ∧ Below w.heap.size w wr ∧ wr.cell? ⟨hb, 0, none⟩ = some (.int .i64 hs) ∧ wr.cell? ⟨hb, 1, none⟩ = some (.int .u32 hg)

set_option maxHeartbeats 4000000 in
set_option maxRecDepth 100000 in
theorem arenaWrong_calls (w : World) (cap : Int) (hcap : (Lit.int .u8 cap).wf = true) (hs hg : Int) (_w1 : (Lit.int .i64 hs).wf = true) (_w2 : (Lit.int .u32 hg).wf = true) (takes : Int) (ht : (Lit.int .u8 takes).wf = true) :
    Calls Try.prog 6 #[.int .u8 cap, .agg #[.int .i64 hs, .int .u32 hg], .int .u8 takes] w fun e w' => e = .returned (.bool true) ∧ Below w.heap.size w w' := by
  have es := eqHandle
  have eg := guardHandle
  obtain ⟨n, hn, hn20⟩ := rem_u8 hcap 20 (by omega)
  obtain ⟨nt, hnt, hnt24⟩ := rem_u8 ht 24 (by omega)
  clear hcap ht
  have HN := Lib.hid hn
  have HT := Lib.hid hnt
  clear hn hnt
  go_enter Try.func6, Try.ntmps6
  have b0 : Below w.heap.size w (w.alloc (.cells #[.int .i64 hs, .int .u32 hg] 30)) := (Below.refl _ _).alloc (Nat.le_refl _) _
  have n0 := blk_alloc_new (w := w) (.cells #[.int .i64 hs, .int .u32 hg] 30)
  go_wp2_with fail
  generalize w.alloc (.cells #[.int .i64 hs, .int .u32 hg] 30) = w0 at *
  refine (alive_calls _).mono ?_
  rintro e w1 ⟨rfl, h1⟩
  have hb0 := lt_of_block n0
  have n1 := (h1.block _ hb0).trans n0
  have b1 := b0.trans (h1.mono b0.size)
  clear n0 b0 h1
  go_wp2_with fail
  rw [HN.out]
  refine (ar_new w.heap.size [w.heap.size] 9 w1 n (by omega) (by omega) (by omega) b1.size (by simpa using lt_of_block n1)).mono ?_
  rintro e w2 ⟨p, rfl, h2, k2, _, _⟩
  go_wp2_with fail
  rw [HN.out]
  refine (two_new _ _ _ _ _ _ _ _ _ h2 n (by omega) (by omega) (by omega) (b1.trans k2.1).size).mono ?_
  rintro e w3 ⟨q, rfl, hqp, h3, k3⟩
  have c0 : w3.cell? ⟨w.heap.size, 0, none⟩ = some (.int .i64 hs) := by rw [(k2.trans k3).cell (by simp), cell_of_blk n1]; rfl
  have c1 : w3.cell? ⟨w.heap.size, 1, none⟩ = some (.int .u32 hg) := by rw [(k2.trans k3).cell (by simp), cell_of_blk n1]; rfl
  have hinit : Wrong w p q w.heap.size hs hg w3 := ⟨_, _, _, _, h3, b1.trans (k2.trans k3).1, c0, c1⟩
  clear h2 k2 h3 k3 c0 c1 n1 b1 hb0
  obtain ⟨hb, hhb⟩ : ∃ hb, hb = w.heap.size := ⟨_, rfl⟩
  rw [← hhb] at hinit
  generalize ho : w.heap.size = z
  rw [ho] at hhb
  subst hhb
  go_wp2_with fail
  rw [HT.out]
  go_loopg [48] (nt + 1) (fun m s wr => ∃ k : Nat, k ≤ nt ∧ m + k = nt + 1 ∧ s = .int .i64 k ∧ Wrong w p q hb hs hg wr)
  case atStart => exact ⟨0, by omega, rfl, rfl, hinit⟩
  case round =>
    clear hinit
    obtain ⟨k, hk, hgk, rfl, S, W, next, cnt, h2, hbel, c0, c1⟩ := hrel
    by_cases hlt : k < nt
    · obtain ⟨r, hr⟩ : ∃ r, tkS S W next cnt = r := ⟨_, rfl⟩
      obtain ⟨O2, ho2, hl, hback⟩ := h2.left
      go_wp2_with fail
      refine (ar_tk _ _ _ _ _ _ _ _ _ hl hbel.size r hr).mono ?_
      rintro e wa ⟨rfl, ha, ka⟩
      have h3 := hback _ _ _ _ _ ha ka
      have d0 := (ka.cell (i := 0) (ho2 hb (by simp))).trans c0
      have d1 := (ka.cell (i := 1) (ho2 hb (by simp))).trans c1
      have hbel1 := hbel.trans ka.1
      clear hl hback h2 ha ka ho2 c0 c1 hbel
      obtain ⟨O3, ho3, hl, hback⟩ := h3.right
      go_wp2_with fail
      refine (ar_tk _ _ _ _ _ _ _ _ _ hl hbel1.size r hr).mono ?_
      rintro e wb ⟨rfl, ha, ka⟩
      have h4 := hback _ _ _ _ _ ha ka
      have e0 := (ka.cell (i := 0) (ho3 hb (by simp))).trans d0
      have e1 := (ka.cell (i := 1) (ho3 hb (by simp))).trans d1
      have hbel2 := hbel1.trans ka.1
      clear hl hback h3 ha ka ho3 d0 d1 hbel1
      obtain ⟨⟨ra, rb, rc⟩, S1, W1, n1, cnt1⟩ := r
      simp only at h4
      obtain ⟨O4, ho4, hl, hback⟩ := h4.left
      go_wp2_with fail
      refine (ar_live _ _ _ _ _ _ _ _ _ hl hbel2.size hs hg).mono ?_
      rintro e wc ⟨rfl, ha, ka⟩
      have h5 := hback _ _ _ _ _ ha ka
      have f0 := (ka.cell (i := 0) (ho4 hb (by simp))).trans e0
      have f1 := (ka.cell (i := 1) (ho4 hb (by simp))).trans e1
      have hbel3 := hbel2.trans ka.1
      clear hl hback h4 ha ka ho4 e0 e1 hbel2 hr
      cases hlv : liveB S1 hs hg with
      | true =>
        clear hlv
        obtain ⟨O5, ho5, hl, hback⟩ := h5.left
        obtain ⟨O6, ho6, hl6, hback6⟩ := h5.right
        go_wp2_with fail
        refine (ar_count _ _ _ _ _ _ _ _ _ hl).mono ?_
        rintro e w' ⟨rfl, rfl⟩
        go_wp2_with fail
        refine (ar_count _ _ _ _ _ _ _ _ _ hl6).mono ?_
        rintro e w' ⟨rfl, rfl⟩
        go_wp2_with fail
        refine (ar_usable _ _ _ _ _ _ _ _ _ hl).mono ?_
        rintro e w' ⟨rfl, nn, rfl⟩
        go_wp2_with fail
        refine (ar_usable _ _ _ _ _ _ _ _ _ (hl6.below (w1 := wc.drewN nn) ⟨rfl, rfl, rfl, Nat.le_refl _, fun _ _ => rfl⟩ hbel3.size).1).mono ?_
        rintro e w' ⟨rfl, nn2, rfl⟩
        have hne : ((W1.length + S1.length - n1 : Int) != W1.length + S1.length - n1) = false := by simp
        have hne2 : (cnt1 != cnt1) = false := by simp
        have hfin : Wrong w p q hb hs hg (wc.drewN (nn + nn2)) := ⟨S1, W1, n1, cnt1, h5.drewN (nn + nn2), hbel3.trans ⟨rfl, rfl, rfl, Nat.le_refl _, fun _ _ => rfl⟩, f0, f1⟩
        clear hl hback hl6 hback6 h5 hbel3 f0 f1
        go_wp2_with fail
        go_roundg (gk - 1)
        case measure => omega
        case rel => exact ⟨k + 1, by omega, by omega, by go_num, hfin⟩
      | false =>
        obtain ⟨O5, ho5, hl, hback⟩ := h5.left
        go_wp2_with fail
        refine (ar_stale _ _ _ _ _ _ _ _ _ hl hbel3.size hs hg hlv).mono ?_
        rintro e wd ⟨rfl, ha, ka⟩
        have h6 := hback _ _ _ _ _ ha ka
        have g0 := (ka.cell (i := 0) (ho5 hb (by simp))).trans f0
        have g1 := (ka.cell (i := 1) (ho5 hb (by simp))).trans f1
        have hbel4 := hbel3.trans ka.1
        clear hl hback h5 ha ka ho5 f0 f1 hbel3 hlv
        obtain ⟨O5, ho5, hl, hback⟩ := h6.left
        obtain ⟨O6, ho6, hl6, hback6⟩ := h6.right
        go_wp2_with fail
        refine (ar_count _ _ _ _ _ _ _ _ _ hl).mono ?_
        rintro e w' ⟨rfl, rfl⟩
        go_wp2_with fail
        refine (ar_count _ _ _ _ _ _ _ _ _ hl6).mono ?_
        rintro e w' ⟨rfl, rfl⟩
        go_wp2_with fail
        refine (ar_usable _ _ _ _ _ _ _ _ _ hl).mono ?_
        rintro e w' ⟨rfl, nn, rfl⟩
        go_wp2_with fail
        refine (ar_usable _ _ _ _ _ _ _ _ _ (hl6.below (w1 := wd.drewN nn) ⟨rfl, rfl, rfl, Nat.le_refl _, fun _ _ => rfl⟩ hbel4.size).1).mono ?_
        rintro e w' ⟨rfl, nn2, rfl⟩
        have hne : ((W1.length + S1.length - n1 : Int) != W1.length + S1.length - n1) = false := by simp
        have hne2 : (cnt1 != cnt1) = false := by simp
        have hfin : Wrong w p q hb hs hg (wd.drewN (nn + nn2)) := ⟨S1, W1, n1, cnt1, h6.drewN (nn + nn2), hbel4.trans ⟨rfl, rfl, rfl, Nat.le_refl _, fun _ _ => rfl⟩, g0, g1⟩
        clear hl hback hl6 hback6 h6 hbel4 g0 g1
        go_wp2_with fail
        go_roundg (gk - 1)
        case measure => omega
        case rel => exact ⟨k + 1, by omega, by omega, by go_num, hfin⟩
    · obtain ⟨r, hr⟩ : ∃ r, tkS S W next cnt = r := ⟨_, rfl⟩
      obtain ⟨O2, ho2, hl, hback⟩ := h2.left
      go_wp2_with fail
      refine (ar_tk _ _ _ _ _ _ _ _ _ hl hbel.size r hr).mono ?_
      rintro e wa ⟨rfl, ha, ka⟩
      have h3 := hback _ _ _ _ _ ha ka
      have hbel1 := hbel.trans ka.1
      clear hl hback h2 ha ka ho2 c0 c1 hbel
      obtain ⟨⟨ra, rb, rc⟩, S1, W1, n1, cnt1⟩ := r
      simp only at h3
      have h4 := h3.push (.cells #[.int .i64 ra, .int .u32 rb] 30)
      have hbel2 : Below w.heap.size w (wa.alloc (.cells #[.int .i64 ra, .int .u32 rb] 30)) := hbel1.alloc hbel1.size _
      obtain ⟨O3, ho3, hl, hback⟩ := h4.right
      go_wp2_with fail
      refine (ar_tk _ _ _ _ _ _ _ _ _ hl hbel2.size _ hr).mono ?_
      rintro e wb ⟨rfl, ha, ka⟩
      have e0 : wb.cell? ⟨wa.heap.size, 0, none⟩ = some (.int .i64 ra) := by rw [ka.cell (ho3 _ (by simp)), cell_of_blk (blk_alloc_new _)]; rfl
      have e1 : wb.cell? ⟨wa.heap.size, 1, none⟩ = some (.int .u32 rb) := by rw [ka.cell (ho3 _ (by simp)), cell_of_blk (blk_alloc_new _)]; rfl
      have hbel3 := hbel2.trans ka.1
      have hl4 : wa.heap.size < wb.heap.size := by have h := ka.1.size; simp only [World.size_alloc] at h; omega
      clear hl hback h3 h4 ha ka ho3 hbel1 hbel2 hr
      have q1 : (ra == ra && rb == rb) = true := by simp
      have q2 : (rc == rc) = true := by simp
      go_wp2
      go_ret
      exact ⟨by simp, hbel3.alloc hbel3.size _⟩
end Go.Proofs.Ytoifnljlnpkodaa

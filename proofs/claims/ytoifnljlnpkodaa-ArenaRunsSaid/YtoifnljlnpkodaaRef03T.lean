/-
  The contract of 'Take' of package haycockref03.
-/
import Derived.Test.YtoifnljlnpkodaaRef03H
namespace Go.Proofs.Ytoifnljlnpkodaa
open Go.RowKit
set_option linter.unusedVariables false

/-- What lies in memory ahead of the end of 'Take': the box, the two results, the handle. -/
structure TK (w wr : World) (zh : Nat) (cap most : Int) (vT vG : Value) (T G : List (Nat × Int)) (s g : Int) : Prop where
  box : wr.heap[w.heap.size]? = some (.cells #[.int .i64 cap, .int .u32 most, vT, vG] 42 (0, 0))
  r1 : wr.heap[w.heap.size + 1]? = some (.cells #[.int .i64 0, .int .u32 0, .slice none 0 0, .slice none 0 0] 42 (0, 0))
  r2 : wr.heap[w.heap.size + 2]? = some (.cells #[.int .i64 0, .int .u32 0] 30 (0, 0))
  h : wr.heap[zh]? = some (.cells #[.int .i64 s, .int .u32 g] 30 (0, 0))
  hz : w.heap.size + 3 ≤ zh
  t : HR wr vT T
  g : HR wr vG G
  bel : Below w.heap.size w wr

theorem TK.below {w wr w' : World} {zh : Nat} {cap most : Int} {vT vG : Value} {T G : List (Nat × Int)} {s g : Int} (k : TK w wr zh cap most vT vG T G s g) (hb : Below wr.heap.size wr w') : TK w w' zh cap most vT vG T G s g :=
  ⟨(hb.block _ (lt_of_block k.box)).trans k.box, (hb.block _ (lt_of_block k.r1)).trans k.r1, (hb.block _ (lt_of_block k.r2)).trans k.r2, (hb.block _ (lt_of_block k.h)).trans k.h, k.hz, k.t.below hb, k.g.below hb, k.bel.trans (hb.mono k.bel.size)⟩

theorem TK.read {w wr : World} {zh : Nat} {cap most : Int} {vT vG : Value} {T G : List (Nat × Int)} {s g : Int} (k : TK w wr zh cap most vT vG T G s g) :
    wr.cell? ⟨w.heap.size, 0, none⟩ = some (.int .i64 cap) ∧ wr.cell? ⟨w.heap.size, 1, none⟩ = some (.int .u32 most) ∧ wr.cell? ⟨w.heap.size, 2, none⟩ = some vT ∧ wr.cell? ⟨w.heap.size, 3, none⟩ = some vG := by
  refine ⟨?_, ?_, ?_, ?_⟩
  · rw [cell_of_blk k.box]; rfl
  · rw [cell_of_blk k.box]; rfl
  · rw [cell_of_blk k.box]; rfl
  · rw [cell_of_blk k.box]; rfl

/-- All that the end of 'Take' reads and writes. -/
theorem TK.all {w wr : World} {zh : Nat} {cap most : Int} {vT vG : Value} {T G : List (Nat × Int)} {s g : Int} (k : TK w wr zh cap most vT vG T G s g) :
    (wr.cell? ⟨w.heap.size + 1, 0, none⟩ = some (.int .i64 0) ∧ wr.cell? ⟨w.heap.size + 1, 1, none⟩ = some (.int .u32 0) ∧ wr.cell? ⟨w.heap.size + 1, 2, none⟩ = some (.slice none 0 0) ∧ wr.cell? ⟨w.heap.size + 1, 3, none⟩ = some (.slice none 0 0)) ∧
    (wr.cell? ⟨w.heap.size + 2, 0, none⟩ = some (.int .i64 0) ∧ wr.cell? ⟨w.heap.size + 2, 1, none⟩ = some (.int .u32 0)) ∧ (wr.cell? ⟨zh, 0, none⟩ = some (.int .i64 s) ∧ wr.cell? ⟨zh, 1, none⟩ = some (.int .u32 g)) ∧
    (∀ i, wr.frozen? ⟨w.heap.size, i, none⟩ = false) ∧ (∀ i, wr.frozen? ⟨w.heap.size + 1, i, none⟩ = false) ∧ (∀ i, wr.frozen? ⟨w.heap.size + 2, i, none⟩ = false) ∧ (∀ i, wr.frozen? ⟨zh, i, none⟩ = false) := by
  refine ⟨⟨?_, ?_, ?_, ?_⟩, ⟨?_, ?_⟩, ⟨?_, ?_⟩, fun i => frozen_of_blk k.box, fun i => frozen_of_blk k.r1, fun i => frozen_of_blk k.r2, fun i => frozen_of_blk k.h⟩
  · rw [cell_of_blk k.r1]; rfl
  · rw [cell_of_blk k.r1]; rfl
  · rw [cell_of_blk k.r1]; rfl
  · rw [cell_of_blk k.r1]; rfl
  · rw [cell_of_blk k.r2]; rfl
  · rw [cell_of_blk k.r2]; rfl
  · rw [cell_of_blk k.h]; rfl
  · rw [cell_of_blk k.h]; rfl

set_option maxHeartbeats 2000000 in
theorem r3_take_no (w : World) (cap most : Int) (vT vG : Value) (T G : List (Nat × Int)) (hT : HR w vT T) (hG : HR w vG G) (hl : T.length < 70000) (hlG : G.length < 70000) (hw : waitsP T G most = []) (hf : cap ≤ freshP T) :
    Calls Try.prog 16 #[refV cap most vT vG] w fun e w' => e = .returned (.tuple #[refV cap most vT vG, .agg #[.int .i64 0, .int .u32 0], .int .i64 32]) ∧ Below w.heap.size w w' := by
  obtain ⟨ao, ca, rfl⟩ := hT.form
  obtain ⟨ga, gc, rfl⟩ := hG.form
  have HW := Lib.hid hw
  have hfl := freshP_len T
  clear hw
  unfold refV
  go_enter Try.func16, Try.ntmps16
  have b0 : Below w.heap.size w (((w.alloc (.cells #[.int .i64 cap, .int .u32 most, .slice ao T.length ca, .slice ga G.length gc] 42)).alloc (.cells #[.int .i64 0, .int .u32 0, .slice none 0 0, .slice none 0 0] 42)).alloc (.cells #[.int .i64 0, .int .u32 0] 30)) := (((Below.refl _ w).alloc (Nat.le_refl _) _).alloc (by simp) _).alloc (by simp; omega) _
  have hT0 := hT.below b0
  have hG0 := hG.below b0
  have n0 : (((w.alloc (.cells #[.int .i64 cap, .int .u32 most, .slice ao T.length ca, .slice ga G.length gc] 42)).alloc (.cells #[.int .i64 0, .int .u32 0, .slice none 0 0, .slice none 0 0] 42)).alloc (.cells #[.int .i64 0, .int .u32 0] 30)).heap[w.heap.size]? = some (.cells #[.int .i64 cap, .int .u32 most, .slice ao T.length ca, .slice ga G.length gc] 42 (0, 0)) := (blk_alloc_old _ (by simp; omega)).trans ((blk_alloc_old _ (by simp)).trans (blk_alloc_new _))
  have n1 : (((w.alloc (.cells #[.int .i64 cap, .int .u32 most, .slice ao T.length ca, .slice ga G.length gc] 42)).alloc (.cells #[.int .i64 0, .int .u32 0, .slice none 0 0, .slice none 0 0] 42)).alloc (.cells #[.int .i64 0, .int .u32 0] 30)).heap[w.heap.size + 1]? = some (.cells #[.int .i64 0, .int .u32 0, .slice none 0 0, .slice none 0 0] 42 (0, 0)) := (blk_alloc_old _ (by simp)).trans (by have := blk_alloc_new (w := (w.alloc (.cells #[.int .i64 cap, .int .u32 most, .slice ao T.length ca, .slice ga G.length gc] 42))) (.cells #[.int .i64 0, .int .u32 0, .slice none 0 0, .slice none 0 0] 42); simpa using this)
  have n2 : (((w.alloc (.cells #[.int .i64 cap, .int .u32 most, .slice ao T.length ca, .slice ga G.length gc] 42)).alloc (.cells #[.int .i64 0, .int .u32 0, .slice none 0 0, .slice none 0 0] 42)).alloc (.cells #[.int .i64 0, .int .u32 0] 30)).heap[w.heap.size + 2]? = some (.cells #[.int .i64 0, .int .u32 0] 30 (0, 0)) := by
    have := blk_alloc_new (w := ((w.alloc (.cells #[.int .i64 cap, .int .u32 most, .slice ao T.length ca, .slice ga G.length gc] 42)).alloc (.cells #[.int .i64 0, .int .u32 0, .slice none 0 0, .slice none 0 0] 42))) (.cells #[.int .i64 0, .int .u32 0] 30)
    simpa using this
  have sz : (((w.alloc (.cells #[.int .i64 cap, .int .u32 most, .slice ao T.length ca, .slice ga G.length gc] 42)).alloc (.cells #[.int .i64 0, .int .u32 0, .slice none 0 0, .slice none 0 0] 42)).alloc (.cells #[.int .i64 0, .int .u32 0] 30)).heap.size = w.heap.size + 3 := by simp
  go_wp2_with fail
  generalize (((w.alloc (.cells #[.int .i64 cap, .int .u32 most, .slice ao T.length ca, .slice ga G.length gc] 42)).alloc (.cells #[.int .i64 0, .int .u32 0, .slice none 0 0, .slice none 0 0] 42)).alloc (.cells #[.int .i64 0, .int .u32 0] 30)) = w0 at *
  refine (r3_waits _ cap most _ _ T G hT0 hG0 hl hlG).mono ?_
  rintro e w1 ⟨v, rfl, hv, h1⟩
  obtain ⟨va, vc, rfl⟩ := hv.form
  rw [HW.out]
  have m0 := (h1.block _ (lt_of_block n0)).trans n0
  have m1 := (h1.block _ (lt_of_block n1)).trans n1
  have m2 := (h1.block _ (lt_of_block n2)).trans n2
  have hT1 := hT0.below h1
  have hG1 := hG0.below h1
  have b1 := b0.trans (h1.mono b0.size)
  have s1 := h1.size
  rw [sz] at s1
  clear hT hG hT0 hG0 n0 n1 n2 b0 h1 hv sz
  have z0 := lt_of_block m0
  have p0 : w1.cell? ⟨w.heap.size, 0, none⟩ = some (.int .i64 cap) := by rw [cell_of_blk m0]; rfl
  have p1 : w1.cell? ⟨w.heap.size, 1, none⟩ = some (.int .u32 most) := by rw [cell_of_blk m0]; rfl
  have p2 : w1.cell? ⟨w.heap.size, 2, none⟩ = some (.slice ao T.length ca) := by rw [cell_of_blk m0]; rfl
  have p3 : w1.cell? ⟨w.heap.size, 3, none⟩ = some (.slice ga G.length gc) := by rw [cell_of_blk m0]; rfl
  go_wp2_with fail
  refine (r3_fresh _ cap most _ _ T hT1 ⟨_, _, _, rfl⟩ hl).mono ?_
  rintro e w2 ⟨rfl, h2⟩
  have k0 : TK w (w2.alloc (.cells #[.int .i64 (freshP T), .int .u32 1] 30)) w2.heap.size cap most (.slice ao T.length ca) (.slice ga G.length gc) T G (freshP T) 1 := by
    have b2 := b1.trans (h2.mono b1.size)
    have hs := h2.size
    exact ⟨(blk_alloc_old _ (by omega)).trans ((h2.block _ z0).trans m0), (blk_alloc_old _ (by have := lt_of_block m1; omega)).trans ((h2.block _ (lt_of_block m1)).trans m1), (blk_alloc_old _ (by have := lt_of_block m2; omega)).trans ((h2.block _ (lt_of_block m2)).trans m2), blk_alloc_new _, by omega, (hT1.below h2).alloc _, (hG1.below h2).alloc _, b2.alloc b2.size _⟩
  clear hT1 hG1 b1 m0 m1 m2 p0 p1 p2 p3 h2 z0
  go_upto_region 5 with fail
  generalize w2.alloc (.cells #[.int .i64 (freshP T), .int .u32 1] 30) = w3 at *
  have k1 := k0.below (w' := w3.drew) ⟨rfl, rfl, rfl, Nat.le_refl _, fun _ _ => rfl⟩
  clear k0
  go_region_held3 (fun w' => w'.cell? ⟨w.heap.size, 0, none⟩ = some (.int .i64 cap) ∧ w'.cell? ⟨w.heap.size, 1, none⟩ = some (.int .u32 most) ∧ w'.cell? ⟨w.heap.size, 2, none⟩ = some (.slice ao T.length ca) ∧ w'.cell? ⟨w.heap.size, 3, none⟩ = some (.slice ga G.length gc))
    (exact TK.read (by assumption))
    (first
      | (go_at_call 26; refine (r3_fresh _ cap most _ _ T (TK.t (by assumption)) ⟨_, _, _, rfl⟩ hl).mono ?_; rintro e w' ⟨rfl, hf⟩; have q := (fun h => TK.below h hf) (by assumption); clear hf))
  all_goals
    clear k1
    obtain ⟨p0, p1, p2, p3⟩ := q.read
    obtain ⟨⟨a0, a1, a2, a3⟩, ⟨c0, c1⟩, ⟨d0, d1⟩, _, f1, f2, _⟩ := q.all
    have hb := q.bel
    have u0 := f1 0
    have u1 := f1 1
    have u2 := f1 2
    have u3 := f1 3
    have u4 := f2 0
    have u5 := f2 1
    clear q f1 f2
    go_wp2
    refine bodyPost_ret (v := .tuple #[.agg #[.int .i64 cap, .int .u32 most, .slice ao T.length ca, .slice ga G.length gc], .agg #[.int .i64 0, .int .u32 0], .int .i64 32]) (by simp [results, Try.results16, go_sem, a0, a1, a2, a3, c0, c1]) rfl ⟨rfl, ?_⟩
    exact ((((((hb.setCell (by simp) _).setCell (by simp) _).setCell (by simp) _).setCell (by simp) _).setCell (by simp; omega) _).setCell (by simp; omega) _)

end Go.Proofs.Ytoifnljlnpkodaa

/-
  The contracts of 'Live', 'Count', 'Usable', 'New' of package haycockref03.
-/
import Derived.Test.YtoifnljlnpkodaaRef03W
namespace Go.Proofs.Ytoifnljlnpkodaa
open Go.RowKit
set_option linter.unusedVariables false

theorem IR.form {w : World} {v : Value} {L : List Nat} (h : IR w v L) : ∃ ao cap, v = .slice ao L.length cap := by
  rcases h.2 with ⟨rfl, h0⟩ | ⟨g, cap, cur, rfl, _⟩
  · exact ⟨none, 0, by rw [h0]⟩
  · exact ⟨_, _, rfl⟩

/-- Is a handle live, by the document. -/
def liveP (T G : List (Nat × Int)) (s g : Int) : Bool := hasP T s g && !hasP G s g

theorem r3_live (w : World) (cap most : Int) (vT vG : Value) (T G : List (Nat × Int)) (s g : Int) (hT : HR w vT T) (hG : HR w vG G) (hl : T.length < 70000) (hlG : G.length < 70000) :
    Calls Try.prog 20 #[refV cap most vT vG, .agg #[.int .i64 s, .int .u32 g]] w fun e w' => e = .returned (.bool (liveP T G s g)) ∧ Below w.heap.size w w' := by
  obtain ⟨ao, ca, rfl⟩ := hT.form
  obtain ⟨ga, gc, rfl⟩ := hG.form
  unfold refV
  go_enter Try.func20, Try.ntmps20
  have hT0 := (hT.alloc (.cells #[.int .i64 cap, .int .u32 most, .slice ao T.length ca, .slice ga G.length gc] 42)).alloc (.cells #[.int .i64 s, .int .u32 g] 30)
  have hG0 := (hG.alloc (.cells #[.int .i64 cap, .int .u32 most, .slice ao T.length ca, .slice ga G.length gc] 42)).alloc (.cells #[.int .i64 s, .int .u32 g] 30)
  go_wp2_with fail
  refine (r3_has _ _ T s g hT0 hl).mono ?_
  rintro e w1 ⟨rfl, h1⟩
  have hG1 := hG0.below h1
  have b1 : Below w.heap.size w w1 := (((Below.refl _ w).alloc (Nat.le_refl _) _).alloc (by simp) _).trans (h1.mono (by simp; omega))
  have p3 : w1.cell? ⟨w.heap.size, 3, none⟩ = some (.slice ga G.length gc) := by rw [h1.cell (by simp; omega)]; simp [go_sem]
  have q0 : w1.cell? ⟨w.heap.size + 1, 0, none⟩ = some (.int .i64 s) := by rw [h1.cell (by simp)]; simp [go_sem]
  have q1 : w1.cell? ⟨w.heap.size + 1, 1, none⟩ = some (.int .u32 g) := by rw [h1.cell (by simp)]; simp [go_sem]
  clear hT0 hG0 h1
  cases hh : hasP T s g with
  | false =>
    have HF := Lib.hid hh
    clear hh
    go_wp2
    go_ret
    exact ⟨by simp [liveP, HF.out], b1⟩
  | true =>
    have HF := Lib.hid hh
    clear hh
    go_wp2_with fail
    refine (r3_has _ _ G s g hG1 hlG).mono ?_
    rintro e w2 ⟨rfl, h2⟩
    go_wp2
    go_ret
    exact ⟨by simp [liveP, HF.out], b1.trans (h2.mono b1.size)⟩

theorem r3_count (w : World) (cap most : Int) (vT vG : Value) (T G : List (Nat × Int)) (hT : HR w vT T) (hG : HR w vG G) (hl : T.length < 70000) (hlG : G.length < 70000) :
    Calls Try.prog 21 #[refV cap most vT vG] w fun e w' => e = .returned (.int .i64 (T.length - G.length)) ∧ Below w.heap.size w w' := by
  obtain ⟨ao, ca, rfl⟩ := hT.form
  obtain ⟨ga, gc, rfl⟩ := hG.form
  unfold refV
  go_enter Try.func21, Try.ntmps21
  go_wp2
  go_ret
  exact ⟨by go_num, (Below.refl _ _).alloc (Nat.le_refl _) _⟩

theorem r3_new (w : World) (cap most : Int) (h : 0 ≤ cap ∧ cap ≤ 65536 ∧ most ≠ 0) :
    Calls Try.prog 15 #[.int .i64 cap, .int .u32 most] w fun e w' => e = .returned (.tuple #[refV cap most (.slice none 0 0) (.slice none 0 0), .int .i64 0]) ∧ Below w.heap.size w w' := by
  obtain ⟨h1, h2, h3⟩ := h
  have f1 : decide (cap < 0) = false := by rw [decide_eq_false_iff_not]; omega
  have f2 : decide (65536 < cap) = false := by rw [decide_eq_false_iff_not]; omega
  have f3 : (most == 0) = false := by simpa using h3
  clear h1 h2 h3
  go_enter Try.func15, Try.ntmps15
  go_wp2
  refine bodyPost_ret (v := .tuple #[.agg #[.int .i64 cap, .int .u32 most, .slice none 0 0, .slice none 0 0], .int .i64 0]) (by simp [results, Try.results15, go_sem]) rfl ⟨rfl, ?_⟩
  exact (Below.refl _ _).alloc (Nat.le_refl _) _

theorem r3_new_no (w : World) (cap most : Int) (h : cap < 0 ∨ 65536 < cap ∨ most = 0) :
    Calls Try.prog 15 #[.int .i64 cap, .int .u32 most] w fun e w' => e = .returned (.tuple #[refV 0 0 (.slice none 0 0) (.slice none 0 0), .int .i64 31]) ∧ Below w.heap.size w w' := by
  by_cases h1 : cap < 0
  · clear h
    go_enter Try.func15, Try.ntmps15
    go_wp2
    refine bodyPost_ret (v := .tuple #[.agg #[.int .i64 0, .int .u32 0, .slice none 0 0, .slice none 0 0], .int .i64 31]) (by simp [results, Try.results15, go_sem]) rfl ⟨rfl, ?_⟩
    exact (Below.refl _ _).alloc (Nat.le_refl _) _
  · by_cases h2 : 65536 < cap
    · clear h
      go_enter Try.func15, Try.ntmps15
      go_wp2
      refine bodyPost_ret (v := .tuple #[.agg #[.int .i64 0, .int .u32 0, .slice none 0 0, .slice none 0 0], .int .i64 31]) (by simp [results, Try.results15, go_sem]) rfl ⟨rfl, ?_⟩
      exact (Below.refl _ _).alloc (Nat.le_refl _) _
    · obtain rfl : most = 0 := by omega
      clear h
      go_enter Try.func15, Try.ntmps15
      go_wp2
      refine bodyPost_ret (v := .tuple #[.agg #[.int .i64 0, .int .u32 0, .slice none 0 0, .slice none 0 0], .int .i64 31]) (by simp [results, Try.results15, go_sem]) rfl ⟨rfl, ?_⟩
      exact (Below.refl _ _).alloc (Nat.le_refl _) _

/-- What 'Usable' and 'Take' read. -/
structure RU (W0 w : World) (zb : Nat) (cap most : Int) (vT vG : Value) (T G : List (Nat × Int)) : Prop where
  box : w.heap[zb]? = some (.cells #[.int .i64 cap, .int .u32 most, vT, vG] 42 (0, 0))
  t : HR w vT T
  g : HR w vG G
  bel : Below W0.heap.size W0 w

theorem RU.below {zb : Nat} {W0 w w' : World} {cap most : Int} {vT vG : Value} {T G : List (Nat × Int)} (h : RU W0 w zb cap most vT vG T G) (hb : Below w.heap.size w w') : RU W0 w' zb cap most vT vG T G :=
  ⟨(hb.block _ (lt_of_block h.box)).trans h.box, h.t.below hb, h.g.below hb, h.bel.trans (hb.mono h.bel.size)⟩

theorem RU.read {zb : Nat} {W0 w : World} {cap most : Int} {vT vG : Value} {T G : List (Nat × Int)} (h : RU W0 w zb cap most vT vG T G) :
    w.cell? ⟨zb, 0, none⟩ = some (.int .i64 cap) ∧ w.cell? ⟨zb, 1, none⟩ = some (.int .u32 most) ∧ w.cell? ⟨zb, 2, none⟩ = some vT ∧ w.cell? ⟨zb, 3, none⟩ = some vG := by
  refine ⟨?_, ?_, ?_, ?_⟩
  · rw [cell_of_blk h.box]; rfl
  · rw [cell_of_blk h.box]; rfl
  · rw [cell_of_blk h.box]; rfl
  · rw [cell_of_blk h.box]; rfl

theorem freshP_len (L : List (Nat × Int)) : freshP L ≤ L.length := List.countP_le_length

set_option maxHeartbeats 1000000 in
theorem r3_usable (w : World) (cap most : Int) (vT vG : Value) (T G : List (Nat × Int)) (hT : HR w vT T) (hG : HR w vG G) (hl : T.length < 70000) (hlG : G.length < 70000) (hc : 0 ≤ cap ∧ cap < 70000) :
    Calls Try.prog 22 #[refV cap most vT vG] w fun e w' => e = .returned (.int .i64 ((waitsP T G most).length + cap - freshP T)) ∧ Below w.heap.size w w' := by
  obtain ⟨ao, ca, rfl⟩ := hT.form
  obtain ⟨ga, gc, rfl⟩ := hG.form
  have hw1 := waitsP_len T G most
  have hf1 := freshP_len T
  have he : IntKind.i64.wrap (IntKind.i64.wrap (((waitsP T G most).length : Int) + cap) - (freshP T : Int)) = (waitsP T G most).length + cap - freshP T := by
    rw [IntKind.wrap_i64, IntKind.wrap_i64]; omega
  have HE := Lib.hid he
  clear he
  have hru : RU w (w.alloc (.cells #[.int .i64 cap, .int .u32 most, .slice ao T.length ca, .slice ga G.length gc] 42)).drew w.heap.size cap most (.slice ao T.length ca) (.slice ga G.length gc) T G :=
    ⟨blk_alloc_new _, hT.alloc _, hG.alloc _, ((Below.refl _ _).alloc (Nat.le_refl _) _).drew⟩
  go_enter Try.func22, Try.ntmps22
  unfold refV
  clear hT hG
  go_wp2_with fail
  go_region_held3 (fun w' => w'.cell? ⟨w.heap.size, 0, none⟩ = some (.int .i64 cap) ∧ w'.cell? ⟨w.heap.size, 1, none⟩ = some (.int .u32 most) ∧ w'.cell? ⟨w.heap.size, 2, none⟩ = some (.slice ao T.length ca) ∧ w'.cell? ⟨w.heap.size, 3, none⟩ = some (.slice ga G.length gc))
    (exact RU.read (by assumption))
    (first
      | (go_at_call 25; refine (r3_waits _ cap most _ _ T G (RU.t (by assumption)) (RU.g (by assumption)) hl hlG).mono ?_; rintro e w' ⟨v, rfl, hv, hf⟩; obtain ⟨va, vc, rfl⟩ := hv.form; have q := (fun h => RU.below h hf) (by assumption); clear hf hv)
      | (go_at_call 26; refine (r3_fresh _ cap most _ _ T (RU.t (by assumption)) ⟨_, _, _, rfl⟩ hl).mono ?_; rintro e w' ⟨rfl, hf⟩; have q := (fun h => RU.below h hf) (by assumption); clear hf))
  all_goals
    clear hru
    have hb := RU.bel (W0 := w) (by assumption)
    rw [HE.out]
    clear q
    go_wp2
    go_ret
    exact ⟨rfl, hb⟩

end Go.Proofs.Ytoifnljlnpkodaa

/-
  The contract of 'waits' of package haycockref03.
-/
import Derived.Test.YtoifnljlnpkodaaRef03
import Derived.Deep.RegionHeld3
import Derived.BigQuiet
namespace Go.Proofs.Ytoifnljlnpkodaa
open Go.RowKit
set_option linter.unusedVariables false

/-- A slice of small numbers. -/
def IR (w : World) (v : Value) (L : List Nat) : Prop := w.ownsRow 0 3 1 v L.length (L.map fun (n : Nat) => .int .i64 (n : Int))

/-- What 'waits' reads. -/
structure RQ (W0 w : World) (zb z5 : Nat) (cap most : Int) (vT vG v : Value) (T : List (Nat × Int)) (L : List Nat) (j : Nat) (g : Int) : Prop where
  box : w.heap[zb]? = some (.cells #[.int .i64 cap, .int .u32 most, vT, vG] 42 (0, 0))
  h5 : w.heap[z5]? = some (.cells #[.int .i64 j, .int .u32 g] 30 (0, 0))
  t : HR w vT T
  r : IR w v L
  bel : Below W0.heap.size W0 w

theorem RQ.below {zb z5 j : Nat} {W0 w w' : World} {cap most g : Int} {vT vG v : Value} {T : List (Nat × Int)} {L : List Nat} (h : RQ W0 w zb z5 cap most vT vG v T L j g) (hb : Below w.heap.size w w') : RQ W0 w' zb z5 cap most vT vG v T L j g :=
  ⟨(hb.block _ (lt_of_block h.box)).trans h.box, (hb.block _ (lt_of_block h.h5)).trans h.h5, h.t.below hb, row_below h.r hb (Nat.le_refl _), h.bel.trans (hb.mono h.bel.size)⟩

theorem RQ.read {zb z5 j : Nat} {W0 w : World} {cap most g : Int} {vT vG v : Value} {T : List (Nat × Int)} {L : List Nat} (h : RQ W0 w zb z5 cap most vT vG v T L j g) :
    w.cell? ⟨zb, 0, none⟩ = some (.int .i64 cap) ∧ w.cell? ⟨zb, 1, none⟩ = some (.int .u32 most) ∧ w.cell? ⟨zb, 2, none⟩ = some vT ∧ w.cell? ⟨zb, 3, none⟩ = some vG ∧ w.cell? ⟨z5, 0, none⟩ = some (.int .i64 j) ∧ w.cell? ⟨z5, 1, none⟩ = some (.int .u32 g) := by
  refine ⟨?_, ?_, ?_, ?_, ?_, ?_⟩
  · rw [cell_of_blk h.box]; rfl
  · rw [cell_of_blk h.box]; rfl
  · rw [cell_of_blk h.box]; rfl
  · rw [cell_of_blk h.box]; rfl
  · rw [cell_of_blk h.h5]; rfl
  · rw [cell_of_blk h.h5]; rfl

/-- Does the slot of a handle that was given back wait. -/
def wq (T : List (Nat × Int)) (most : Int) (h : Nat × Int) : Bool := decide (h.2 < most) && (lastP T h.1 == h.2)

/-- The slots that wait, the one that was given back last ahead. -/
def waitsP (T G : List (Nat × Int)) (most : Int) : List Nat := (G.reverse.filter (wq T most)).map (·.1)

theorem waitsP_cons (T G : List (Nat × Int)) (most : Int) (h : Nat × Int) : waitsP T (h :: G) most = waitsP T G most ++ if wq T most h then [h.1] else [] := by
  simp only [waitsP, List.reverse_cons, List.filter_append, List.map_append, List.filter_cons, List.filter_nil]
  split <;> simp_all

theorem waitsP_len (T G : List (Nat × Int)) (most : Int) : (waitsP T G most).length ≤ G.length := by
  have := List.length_filter_le (wq T most) G.reverse
  simpa [waitsP] using this

set_option maxHeartbeats 2000000 in
theorem r3_waits (w : World) (cap most : Int) (vT vG : Value) (T G : List (Nat × Int)) (hT : HR w vT T) (hG : HR w vG G) (hl : T.length < 70000) (hlG : G.length < 70000) :
    Calls Try.prog 25 #[refV cap most vT vG] w fun e w' => ∃ v, e = .returned v ∧ IR w' v (waitsP T G most) ∧ Below w.heap.size w w' := by
  obtain ⟨ao, ca, rfl⟩ := hT.form
  obtain ⟨ga, gc, rfl⟩ := hG.form
  go_enter Try.func25, Try.ntmps25
  have b0 : Below w.heap.size w (w.alloc (.cells #[.int .i64 cap, .int .u32 most, .slice ao T.length ca, .slice ga G.length gc] 42)) := (Below.refl _ _).alloc (Nat.le_refl _) _
  have hT0 : HR (w.alloc (.cells #[.int .i64 cap, .int .u32 most, .slice ao T.length ca, .slice ga G.length gc] 42)) _ T := hT.alloc _
  have hG0 : HR (w.alloc (.cells #[.int .i64 cap, .int .u32 most, .slice ao T.length ca, .slice ga G.length gc] 42)) _ G := hG.alloc _
  have n0 := blk_alloc_new (w := w) (.cells #[.int .i64 cap, .int .u32 most, .slice ao T.length ca, .slice ga G.length gc] 42)
  have hs0 : (w.alloc (.cells #[.int .i64 cap, .int .u32 most, .slice ao T.length ca, .slice ga G.length gc] 42)).heap.size = w.heap.size + 1 := by simp
  clear hT hG
  unfold refV
  go_wp2_with fail
  generalize w.alloc (.cells #[.int .i64 cap, .int .u32 most, .slice ao T.length ca, .slice ga G.length gc] 42) = w0 at *
  go_loopg [3, 4] (G.length + 1) (fun m out u wr => ∃ (k : Nat) (ao2 : Option Addr) (ca2 : Nat), k ≤ G.length ∧ m = k + 1 ∧ u = .int .i64 ((k : Int) - 1) ∧ out = .slice ao2 (waitsP T (G.drop k) most).length ca2 ∧ IR wr out (waitsP T (G.drop k) most) ∧ (∀ b, out.ownBlock = some b → w0.heap.size ≤ b) ∧ Below w0.heap.size w0 wr)
  case atStart =>
    refine ⟨G.length, some ⟨w0.heap.size, 0, none⟩, 0, Nat.le_refl _, rfl, rfl, by simp [waitsP, hs0], ?_, ?_, (Below.refl _ _).alloc (Nat.le_refl _) _⟩
    · have := owns_empty w0 3 1 _ rfl
      simpa [waitsP, IR, hs0] using this
    · intro b hb; simp [Value.ownBlock] at hb; omega
  case round =>
    obtain ⟨k, ao2, ca2, hk, rfl, rfl, rfl, hrow, hown, hbel⟩ := hrel
    have hz := lt_of_block n0
    have hlen := waitsP_len T (G.drop k) most
    rw [List.length_drop] at hlen
    cases k with
    | zero =>
      have e : ((0 : Nat) : Int) - 1 = -1 := by omega
      rw [e]
      have q3 : wr.cell? ⟨w.heap.size, 3, none⟩ = some (.slice ga G.length gc) := by rw [hbel.cell (p := ⟨w.heap.size, 3, none⟩) hz, cell_of_blk n0]; rfl
      rw [List.drop_zero] at *
      go_wp2
      go_ret
      exact ⟨_, rfl, hrow, b0.trans (hbel.mono b0.size)⟩
    | succ i =>
      have e : ((i + 1 : Nat) : Int) - 1 = (i : Int) := by omega
      rw [e]
      obtain ⟨gb, rfl, glt, c0, c1⟩ := hG0.at i (by omega)
      have hd : G.drop i = G.getD i (0, 0) :: G.drop (i + 1) := by
        rw [List.drop_eq_getElem_cons (by omega)]; simp [List.getD, show i < G.length by omega]
      have hw1 := waitsP_cons T (G.drop (i + 1)) most (G.getD i (0, 0))
      rw [← hd] at hw1
      generalize G.getD i (0, 0) = hh at *
      obtain ⟨j, g⟩ := hh
      simp only at c0 c1
      generalize hWL : waitsP T (G.drop (i + 1)) most = WL at *
      have HW := Lib.hid hw1
      have d0 := (hbel.cell (p := ⟨gb, i * 2, none⟩) glt).trans c0
      have d1 := (hbel.cell (p := ⟨gb, i * 2 + 1, none⟩) glt).trans c1
      have q3 : wr.cell? ⟨w.heap.size, 3, none⟩ = some (.slice (some ⟨gb, 0, none⟩) G.length gc) := by rw [hbel.cell (p := ⟨w.heap.size, 3, none⟩) hz, cell_of_blk n0]; rfl
      have hzr : w.heap.size < wr.heap.size := Nat.lt_of_lt_of_le hz hbel.size
      have hrq : RQ w0 (wr.alloc (.cells #[.int .i64 j, .int .u32 g] 30)) w.heap.size wr.heap.size cap most (.slice ao T.length ca) (.slice (some ⟨gb, 0, none⟩) G.length gc) (.slice ao2 WL.length ca2) T WL j g :=
        ⟨(blk_alloc_old _ hzr).trans ((hbel.block _ hz).trans n0), blk_alloc_new _, (hT0.below hbel).alloc _, World.ownsRow.alloc hrow _, hbel.alloc hbel.size _⟩
      clear c0 c1 hbel hrow hT0 hG0 n0 hd hw1 hWL e
      go_upto_region 6 with fail
      by_cases hgm : g < most
      · have hgb : decide (g < most) = true := by simpa using hgm
        clear hgm d0 d1 q3
        have hrq2 := hrq.below (w' := (wr.alloc (.cells #[.int .i64 j, .int .u32 g] 30)).drew) ⟨rfl, rfl, rfl, Nat.le_refl _, fun _ _ => rfl⟩
        clear hrq
        go_region_held3 (fun w' => w'.cell? ⟨w.heap.size, 0, none⟩ = some (.int .i64 cap) ∧ w'.cell? ⟨w.heap.size, 1, none⟩ = some (.int .u32 most) ∧ w'.cell? ⟨w.heap.size, 2, none⟩ = some (.slice ao T.length ca) ∧ w'.cell? ⟨w.heap.size, 3, none⟩ = some (.slice (some ⟨gb, 0, none⟩) G.length gc) ∧ w'.cell? ⟨wr.heap.size, 0, none⟩ = some (.int .i64 j) ∧ w'.cell? ⟨wr.heap.size, 1, none⟩ = some (.int .u32 g))
          (exact RQ.read (by assumption))
          (first
            | (go_at_call 27; refine (r3_last _ cap most _ _ T j (RQ.t (by assumption)) ⟨_, _, _, rfl⟩ hl).mono ?_; rintro e w' ⟨rfl, hf⟩; have q := (fun h => RQ.below h hf) (by assumption); clear hf))
        all_goals
          clear hrq2
          have hq := (by assumption : RQ w0 w' _ _ _ _ _ _ _ _ _ _ _)
          obtain ⟨s0, s1, s2, s3, s4, s5⟩ := hq.read
          have hr9 := hq.r
          have hb9 := hq.bel
          have hz9 := lt_of_block hq.h5
          clear hq q
          cases hq2 : (lastP T (j : Int) == g) with
          | true =>
            have hwq : wq T most (j, g) = true := by simp only [wq, hgb, hq2, Bool.and_self]
            have HW2 : Go.RowKit.Hid (waitsP T (G.drop i) most = WL ++ [j]) := Lib.hid (by rw [HW.out, if_pos hwq])
            clear hwq hq2
            go_wp2_with (at_builtin; refine wpList_push _ 3 (.int .i64 j) (0, 0) rfl (.tmp 34) (.tmp 37) 57 rfl (.int .i64 0) 8 Try.underlying57 Try.infoInt rfl rfl _ WL.length _ (by simp [Act.eval]) hr9 (by simp [Act.eval]) (by unfold maxLen; omega) (by omega) ?_)
            intro g' cap' w4 hr4 hk4 hf4
            have hr5 : IR w4 (.slice (some ⟨g', 0, none⟩) (WL ++ [j]).length cap') (WL ++ [j]) := by
              unfold IR
              simpa using hr4
            have hg' : w0.heap.size ≤ g' := by
              rcases hf4 with h | h
              · exact hown _ h
              · have := hb9.size; omega
            have hb10 := hb9.trans (hk4.below hb9.size (fun b hb => hown b (by simpa using hb)))
            clear hr4 hk4 hf4 hr9 hb9 s0 s1 s2 s3 s4 s5 hown
            go_wp2_with fail
            go_roundg (i + 1)
            case measure => omega
            case rel => exact ⟨i, some ⟨g', 0, none⟩, cap', by omega, rfl, by go_num, by rw [HW2.out]; simp, by rw [HW2.out]; simpa using hr5, fun b hb => by simp [Value.ownBlock] at hb; omega, hb10⟩
          | false =>
            have hwq : wq T most (j, g) = false := by simp only [wq, hgb, hq2, Bool.and_false]
            have HW2 : Go.RowKit.Hid (waitsP T (G.drop i) most = WL) := Lib.hid (by rw [HW.out, if_neg (by simp [hwq])]; simp)
            clear hwq hq2
            go_wp2_with fail
            go_roundg (i + 1)
            case measure => omega
            case rel => exact ⟨i, ao2, ca2, by omega, rfl, by go_num, by rw [HW2.out], by rw [HW2.out]; exact hr9, hown, hb9⟩
      · have hgb : decide (g < most) = false := by simpa using hgm
        have hwq : wq T most (j, g) = false := by simp only [wq, hgb, Bool.false_and]
        have HW2 : Go.RowKit.Hid (waitsP T (G.drop i) most = WL) := Lib.hid (by rw [HW.out, if_neg (by simp [hwq])]; simp)
        obtain ⟨s0, s1, s2, s3, s4, s5⟩ := hrq.read
        have hr9 := hrq.r
        have hb9 := hrq.bel
        clear hrq hgm d0 d1 q3 hwq
        generalize (wr.alloc (.cells #[.int .i64 j, .int .u32 g] 30)) = wa at *
        go_quiet (fail)
        go_wp2_with fail
        go_roundg (i + 1)
        case measure => omega
        case rel => exact ⟨i, ao2, ca2, by omega, rfl, by go_num, by rw [HW2.out], by rw [HW2.out]; exact hr9, hown, hb9.trans ⟨rfl, rfl, rfl, Nat.le_refl _, fun _ _ => rfl⟩⟩

end Go.Proofs.Ytoifnljlnpkodaa

/-
  The contract of 'Take' of package haycockref03, where a slot can be taken.
-/
import Derived.Test.YtoifnljlnpkodaaRef03T
namespace Go.Proofs.Ytoifnljlnpkodaa
open Go.RowKit
set_option linter.unusedVariables false

/-- The same, and the slots that wait. -/
structure TW (w wr : World) (zh : Nat) (cap most : Int) (vT vG : Value) (T G : List (Nat × Int)) (s g : Int) (vw : Value) (L : List Nat) (n : Nat) : Prop where
  k : TK w wr zh cap most vT vG T G s g
  r : IR wr vw L
  hn : L.length = n
  hv : ∀ b, vw.ownBlock = some b → b < zh

theorem TW.below {w wr w' : World} {zh : Nat} {cap most : Int} {vT vG vw : Value} {T G : List (Nat × Int)} {s g : Int} {L : List Nat} {n : Nat} (k : TW w wr zh cap most vT vG T G s g vw L n) (hb : Below wr.heap.size wr w') : TW w w' zh cap most vT vG T G s g vw L n :=
  ⟨k.k.below hb, row_below k.r hb (Nat.le_refl _), k.hn, k.hv⟩

theorem TW.read {w wr : World} {zh gw i n cw : Nat} {cap most : Int} {vT vG : Value} {T G : List (Nat × Int)} {s g : Int} {L : List Nat} (k : TW w wr zh cap most vT vG T G s g (.slice (some ⟨gw, 0, none⟩) n cw) (i :: L) n) :
    wr.cell? ⟨w.heap.size, 0, none⟩ = some (.int .i64 cap) ∧ wr.cell? ⟨w.heap.size, 1, none⟩ = some (.int .u32 most) ∧ wr.cell? ⟨w.heap.size, 2, none⟩ = some vT ∧ wr.cell? ⟨w.heap.size, 3, none⟩ = some vG ∧ wr.cell? ⟨gw, 0, none⟩ = some (.int .i64 i) := by
  have hn := k.hn
  subst hn
  obtain ⟨h0, h1, h2, h3⟩ := k.k.read
  refine ⟨h0, h1, h2, h3, ?_⟩
  have := k.r
  unfold IR at this
  rw [World.ownsRow.cellAt this 0 (by simp)]
  simp

theorem TK.store {w wr : World} {zh : Nat} {cap most : Int} {vT vG : Value} {T G : List (Nat × Int)} {s g : Int} (k : TK w wr zh cap most vT vG T G s g) (s' g' : Int) (hT : ∀ b, vT.ownBlock = some b → b < w.heap.size) (hG : ∀ b, vG.ownBlock = some b → b < w.heap.size) :
    TK w ((wr.setCell ⟨zh, 0, none⟩ (.int .i64 s')).setCell ⟨zh, 1, none⟩ (.int .u32 g')) zh cap most vT vG T G s' g' := by
  have hz := k.hz
  have hk : Keeps [zh] wr ((wr.setCell ⟨zh, 0, none⟩ (.int .i64 s')).setCell ⟨zh, 1, none⟩ (.int .u32 g')) := ((Keeps.refl _ _).setCell (.inl (by simp)) _).setCell (.inl (by simp)) _
  refine ⟨hk.blk k.box (by simp; omega), hk.blk k.r1 (by simp; omega), hk.blk k.r2 (by simp; omega), ?_, hz, k.t.keep hk (fun b hb => by have := hT b hb; simp; omega), k.g.keep hk (fun b hb => by have := hG b hb; simp; omega), ?_⟩
  · rw [blk_setCell _ (blk_setCell _ k.h)]
    simp
  · exact (k.bel.setCell (by simp; omega) _).setCell (by simp; omega) _

theorem TW.store {w wr : World} {zh n : Nat} {cap most : Int} {vT vG vw : Value} {T G : List (Nat × Int)} {s g : Int} {L : List Nat} (k : TW w wr zh cap most vT vG T G s g vw L n) (s' g' : Int) (hT : ∀ b, vT.ownBlock = some b → b < w.heap.size) (hG : ∀ b, vG.ownBlock = some b → b < w.heap.size) :
    TW w ((wr.setCell ⟨zh, 0, none⟩ (.int .i64 s')).setCell ⟨zh, 1, none⟩ (.int .u32 g')) zh cap most vT vG T G s' g' vw L n := by
  refine ⟨k.k.store s' g' hT hG, ?_, k.hn, k.hv⟩
  have hk : Keeps [zh] wr ((wr.setCell ⟨zh, 0, none⟩ (.int .i64 s')).setCell ⟨zh, 1, none⟩ (.int .u32 g')) := ((Keeps.refl _ _).setCell (.inl (by simp)) _).setCell (.inl (by simp)) _
  obtain ⟨ao, ca, rfl⟩ := k.r.form
  refine row_keep k.r hk fun x hx => ?_
  subst hx
  rcases k.r.2 with ⟨h0, _⟩ | ⟨g, cap', cur, e, hb, hg, r⟩
  · cases h0
  · cases e
    have := k.hv g rfl
    simp; omega

theorem TK.put {w wr : World} {zh : Nat} {cap most : Int} {vT vG v' : Value} {T T' G : List (Nat × Int)} {s g : Int} (k : TK w wr zh cap most vT vG T G s g) (hv : HR wr v' T') (hb : ∀ b, v'.ownBlock = some b → w.heap.size < b) (hG : ∀ b, vG.ownBlock = some b → b < w.heap.size) :
    TK w (wr.setCell ⟨w.heap.size, 2, none⟩ v') zh cap most v' vG T' G s g := by
  have hz := k.hz
  have hk : Keeps [w.heap.size] wr (wr.setCell ⟨w.heap.size, 2, none⟩ v') := (Keeps.refl _ _).setCell (.inl (by simp)) _
  refine ⟨?_, hk.blk k.r1 (by simp), hk.blk k.r2 (by simp), hk.blk k.h (by simp; omega), hz, hv.keep hk (fun b h => by have := hb b h; simp; omega), k.g.keep hk (fun b hb => by have := hG b hb; simp; omega), k.bel.setCell (by simp) _⟩
  rw [blk_setCell _ k.box]
  simp

/-- A slot can be taken, and this one. -/
def CanTake (T G : List (Nat × Int)) (cap most : Int) (s : Nat) (g : Int) : Prop :=
  (∃ L, waitsP T G most = s :: L ∧ lastP T s = g ∧ 0 ≤ g ∧ g < 4294967295) ∨ (waitsP T G most = [] ∧ (freshP T : Int) < cap ∧ s = freshP T ∧ g = 0)

set_option maxHeartbeats 4000000 in
theorem r3_take (w : World) (cap most : Int) (vT vG : Value) (T G : List (Nat × Int)) (hT : HR w vT T) (hG : HR w vG G) (hl : T.length < 70000) (hlG : G.length < 70000) (s : Nat) (g : Int) (hc : CanTake T G cap most s g) :
    Calls Try.prog 16 #[refV cap most vT vG] w fun e w' => ∃ v, e = .returned (.tuple #[refV cap most v vG, .agg #[.int .i64 s, .int .u32 (g + 1)], .int .i64 0]) ∧ HR w' v (T ++ [(s, g + 1)]) ∧ HR w' vG G ∧ Below w.heap.size w w' ∧ (∀ b, v.ownBlock = some b → w.heap.size ≤ b) := by
  obtain ⟨ao, ca, rfl⟩ := hT.form
  obtain ⟨ga, gc, rfl⟩ := hG.form
  have hfl := freshP_len T
  have hwl := waitsP_len T G most
  have hTl := hT.own_lt
  have hGl := hG.own_lt
  unfold refV
  go_enter Try.func16, Try.ntmps16
  have b0 : Below w.heap.size w (((w.alloc (.cells #[.int .i64 cap, .int .u32 most, .slice ao T.length ca, .slice ga G.length gc] 42)).alloc (.cells #[.int .i64 0, .int .u32 0, .slice none 0 0, .slice none 0 0] 42)).alloc (.cells #[.int .i64 0, .int .u32 0] 30)) := (((Below.refl _ w).alloc (Nat.le_refl _) _).alloc (by simp) _).alloc (by simp; omega) _
  have hT0 := hT.below b0
  have hG0 := hG.below b0
  have n0 : (((w.alloc (.cells #[.int .i64 cap, .int .u32 most, .slice ao T.length ca, .slice ga G.length gc] 42)).alloc (.cells #[.int .i64 0, .int .u32 0, .slice none 0 0, .slice none 0 0] 42)).alloc (.cells #[.int .i64 0, .int .u32 0] 30)).heap[w.heap.size]? = some (.cells #[.int .i64 cap, .int .u32 most, .slice ao T.length ca, .slice ga G.length gc] 42 (0, 0)) := (blk_alloc_old _ (by simp; omega)).trans ((blk_alloc_old _ (by simp)).trans (blk_alloc_new _))
  have n1 : (((w.alloc (.cells #[.int .i64 cap, .int .u32 most, .slice ao T.length ca, .slice ga G.length gc] 42)).alloc (.cells #[.int .i64 0, .int .u32 0, .slice none 0 0, .slice none 0 0] 42)).alloc (.cells #[.int .i64 0, .int .u32 0] 30)).heap[w.heap.size + 1]? = some (.cells #[.int .i64 0, .int .u32 0, .slice none 0 0, .slice none 0 0] 42 (0, 0)) := (blk_alloc_old _ (by simp)).trans (by have := blk_alloc_new (w := (w.alloc (.cells #[.int .i64 cap, .int .u32 most, .slice ao T.length ca, .slice ga G.length gc] 42))) (.cells #[.int .i64 0, .int .u32 0, .slice none 0 0, .slice none 0 0] 42); simpa using this)
  have n2 : (((w.alloc (.cells #[.int .i64 cap, .int .u32 most, .slice ao T.length ca, .slice ga G.length gc] 42)).alloc (.cells #[.int .i64 0, .int .u32 0, .slice none 0 0, .slice none 0 0] 42)).alloc (.cells #[.int .i64 0, .int .u32 0] 30)).heap[w.heap.size + 2]? = some (.cells #[.int .i64 0, .int .u32 0] 30 (0, 0)) := by
    have := blk_alloc_new (w := ((w.alloc (.cells #[.int .i64 cap, .int .u32 most, .slice ao T.length ca, .slice ga G.length gc] 42)).alloc (.cells #[.int .i64 0, .int .u32 0, .slice none 0 0, .slice none 0 0] 42))) (.cells #[.int .i64 0, .int .u32 0] 30)
    simpa using this
  have sz : (((w.alloc (.cells #[.int .i64 cap, .int .u32 most, .slice ao T.length ca, .slice ga G.length gc] 42)).alloc (.cells #[.int .i64 0, .int .u32 0, .slice none 0 0, .slice none 0 0] 42)).alloc (.cells #[.int .i64 0, .int .u32 0] 30)).heap.size = w.heap.size + 3 := by simp
  go_wp2_with fail
  generalize (((w.alloc (.cells #[.int .i64 cap, .int .u32 most, .slice ao T.length ca, .slice ga G.length gc] 42)).alloc (.cells #[.int .i64 0, .int .u32 0, .slice none 0 0, .slice none 0 0] 42)).alloc (.cells #[.int .i64 0, .int .u32 0] 30)) = w0 at *
  refine (r3_waits _ cap most _ _ T G hT0 hG0 hl hlG).mono ?_
  rintro e w1 ⟨v, rfl, hv, h1⟩
  obtain ⟨va, vc, rfl⟩ := hv.form
  have hvl : ∀ b, (Value.slice va (waitsP T G most).length vc).ownBlock = some b → b < w1.heap.size := by
    intro b hb
    rcases hv.2 with ⟨h0, _⟩ | ⟨g, cap', cur, e, _, hg, r⟩
    · rw [h0] at hb; cases hb
    · rw [e] at hb; cases hb; exact lt_of_block hg
  have m0 := (h1.block _ (lt_of_block n0)).trans n0
  have m1 := (h1.block _ (lt_of_block n1)).trans n1
  have m2 := (h1.block _ (lt_of_block n2)).trans n2
  have hT1 := hT0.below h1
  have hG1 := hG0.below h1
  have b1 := b0.trans (h1.mono b0.size)
  have s1 := h1.size
  rw [sz] at s1
  clear hT hG hT0 hG0 n0 n1 n2 b0 h1 sz
  have z0 := lt_of_block m0
  have p0 : w1.cell? ⟨w.heap.size, 0, none⟩ = some (.int .i64 cap) := by rw [cell_of_blk m0]; rfl
  have p1 : w1.cell? ⟨w.heap.size, 1, none⟩ = some (.int .u32 most) := by rw [cell_of_blk m0]; rfl
  have p2 : w1.cell? ⟨w.heap.size, 2, none⟩ = some (.slice ao T.length ca) := by rw [cell_of_blk m0]; rfl
  have p3 : w1.cell? ⟨w.heap.size, 3, none⟩ = some (.slice ga G.length gc) := by rw [cell_of_blk m0]; rfl
  go_wp2_with fail
  refine (r3_fresh _ cap most _ _ T hT1 ⟨_, _, _, rfl⟩ hl).mono ?_
  rintro e w2 ⟨rfl, h2⟩
  have k0 : TW w (w2.alloc (.cells #[.int .i64 (freshP T), .int .u32 1] 30)) w2.heap.size cap most (.slice ao T.length ca) (.slice ga G.length gc) T G (freshP T) 1 (.slice va (waitsP T G most).length vc) (waitsP T G most) (waitsP T G most).length := by
    have b2 := b1.trans (h2.mono b1.size)
    have hs := h2.size
    exact ⟨⟨(blk_alloc_old _ (by omega)).trans ((h2.block _ z0).trans m0), (blk_alloc_old _ (by have := lt_of_block m1; omega)).trans ((h2.block _ (lt_of_block m1)).trans m1), (blk_alloc_old _ (by have := lt_of_block m2; omega)).trans ((h2.block _ (lt_of_block m2)).trans m2), blk_alloc_new _, by omega, (hT1.below h2).alloc _, (hG1.below h2).alloc _, b2.alloc b2.size _⟩, World.ownsRow.alloc (row_below hv h2 (Nat.le_refl _)) _, rfl, fun b hb => by have := h2.size; have := hvl b hb; omega⟩
  clear hT1 hG1 b1 m0 m1 m2 p0 p1 p2 p3 h2 z0 hv
  go_upto_if 14 with fail
  generalize w2.alloc (.cells #[.int .i64 (freshP T), .int .u32 1] 30) = w3 at *
  generalize w2.heap.size = zh at *
  generalize (waitsP T G most).length = n at *
  go_cut [23] (fun _ wc => TK w wc zh cap most (.slice ao T.length ca) (.slice ga G.length gc) T G s (g + 1))
  case first =>
    rcases hc with ⟨L, hw, hg, hg0, hg1⟩ | ⟨hw, hf, hs, hg⟩
    · rw [hw] at k0
      have hpos : 0 < n := by have := k0.hn; simp at this; omega
      obtain ⟨gw, rfl⟩ := row_some (by have := k0.r; unfold IR at this; rw [k0.hn] at this; exact this) hpos
      clear hw
      have hposb : decide (0 < n) = true := by simpa using hpos
      have hpi : (0 : Int) < (n : Int) := by omega
      have hwr : IntKind.u32.wrap (g + 1) = g + 1 := by rw [IntKind.wrap_u32]; omega
      have HGG := Lib.hid hg
      clear hg
      have k1 := k0.below (w' := w3.drew) ⟨rfl, rfl, rfl, Nat.le_refl _, fun _ _ => rfl⟩
      clear k0
      go_wp2_with fail
      go_region_held3 (fun w' => w'.cell? ⟨w.heap.size, 0, none⟩ = some (.int .i64 cap) ∧ w'.cell? ⟨w.heap.size, 1, none⟩ = some (.int .u32 most) ∧ w'.cell? ⟨w.heap.size, 2, none⟩ = some (.slice ao T.length ca) ∧ w'.cell? ⟨w.heap.size, 3, none⟩ = some (.slice ga G.length gc) ∧ w'.cell? ⟨gw, 0, none⟩ = some (.int .i64 s))
        (first | exact TW.read (by assumption) | exact TW.read (TW.store (by assumption) _ _ hTl hGl))
        (first
          | (go_at_call 27; refine (r3_last _ cap most _ _ T s (TK.t (TW.k (by assumption))) ⟨_, _, _, rfl⟩ hl).mono ?_; rintro e w' ⟨rfl, hf⟩; rw [HGG.out]; have q := (fun h => TW.below h hf) (by assumption); clear hf; obtain ⟨_, _, ⟨d0, d1⟩, _, _, _, fz⟩ := q.k.all; have z0 := fz 0; have z1 := fz 1; clear fz))
      all_goals
        have q9 := (q.store s (g + 1) hTl hGl).k
        clear q d0 d1 z0 z1 k1
        go_wp2_with fail
        go_meet
        exact q9
    · have hfb : decide (cap ≤ (freshP T : Int)) = false := by rw [decide_eq_false_iff_not]; omega
      have HS := Lib.hid hs
      have HGG := Lib.hid hg
      rw [hw] at k0
      have hn0 : n = 0 := by have := k0.hn; simpa using this.symm
      have hn1 : ¬ 0 < n := by omega
      have hk0 := k0.k
      have k1 := hk0.below (w' := w3.drew) ⟨rfl, rfl, rfl, Nat.le_refl _, fun _ _ => rfl⟩
      clear k0 hw hk0 hn0 hs hg hf
      go_wp2_with fail
      go_region_held3 (fun w' => w'.cell? ⟨w.heap.size, 0, none⟩ = some (.int .i64 cap) ∧ w'.cell? ⟨w.heap.size, 1, none⟩ = some (.int .u32 most) ∧ w'.cell? ⟨w.heap.size, 2, none⟩ = some (.slice ao T.length ca) ∧ w'.cell? ⟨w.heap.size, 3, none⟩ = some (.slice ga G.length gc))
        (exact TK.read (by assumption))
        (first
          | (go_at_call 26; refine (r3_fresh _ cap most _ _ T (TK.t (by assumption)) ⟨_, _, _, rfl⟩ hl).mono ?_; rintro e w' ⟨rfl, hf⟩; have q := (fun h => TK.below h hf) (by assumption); clear hf))
      all_goals
        clear k1
        go_wp2_with fail
        go_meet
        rw [HS.out, HGG.out]
        exact q
  case rest =>
    clear k0 hc
    have hkc := hcut
    clear hcut
    have m0 := hkc.box
    have m1 := hkc.h
    have m2 := hkc.r2
    have hT1 := hkc.t
    have hG1 := hkc.g
    have b1 := hkc.bel
    have z0 := lt_of_block m0
    have z1 := lt_of_block m1
    have z2 := lt_of_block m2
    have hown0 := owns_empty wc 30 2 _ rfl
    have hown1 := owns_empty (wc.alloc (.cells #[.int .i64 s, .int .u32 (g + 1)] 30)) 30 2 _ rfl
    have p0 : wc.cell? ⟨w.heap.size, 0, none⟩ = some (.int .i64 cap) := by rw [cell_of_blk m0]; rfl
    have p1 : wc.cell? ⟨w.heap.size, 1, none⟩ = some (.int .u32 most) := by rw [cell_of_blk m0]; rfl
    have p2 : wc.cell? ⟨w.heap.size, 2, none⟩ = some (.slice ao T.length ca) := by rw [cell_of_blk m0]; rfl
    have p3 : wc.cell? ⟨w.heap.size, 3, none⟩ = some (.slice ga G.length gc) := by rw [cell_of_blk m0]; rfl
    have q0 : wc.cell? ⟨zh, 0, none⟩ = some (.int .i64 s) := by rw [cell_of_blk m1]; rfl
    have q1 : wc.cell? ⟨zh, 1, none⟩ = some (.int .u32 (g + 1)) := by rw [cell_of_blk m1]; rfl
    have f3 : wc.frozen? ⟨w.heap.size, 2, none⟩ = false := frozen_of_blk m0
    have ho1 := hCells_one T
    have bE : Below wc.heap.size wc (wc.alloc (.cells #[] 30)) := (Below.refl _ _).alloc (Nat.le_refl _) _
    have bEH : Below wc.heap.size wc ((wc.alloc (.cells #[] 30)).alloc (.cells #[.int .i64 s, .int .u32 (g + 1)] 30)) := bE.alloc (by simp) _
    have bHE : Below wc.heap.size wc ((wc.alloc (.cells #[.int .i64 s, .int .u32 (g + 1)] 30)).alloc (.cells #[] 30)) := ((Below.refl _ _).alloc (Nat.le_refl _) _).alloc (by simp) _
    have nEH : ((wc.alloc (.cells #[] 30)).alloc (.cells #[.int .i64 s, .int .u32 (g + 1)] 30)).heap[wc.heap.size + 1]? = some (.cells #[.int .i64 s, .int .u32 (g + 1)] 30 (0, 0)) := by have := blk_alloc_new (w := wc.alloc (.cells #[] 30)) (.cells #[.int .i64 s, .int .u32 (g + 1)] 30); simpa using this
    have nHE : ((wc.alloc (.cells #[.int .i64 s, .int .u32 (g + 1)] 30)).alloc (.cells #[] 30)).heap[wc.heap.size]? = some (.cells #[.int .i64 s, .int .u32 (g + 1)] 30 (0, 0)) := (blk_alloc_old _ (by simp)).trans (blk_alloc_new _)
    have oEH := hown0.alloc (.cells #[.int .i64 s, .int .u32 (g + 1)] 30)
    have oHE : ((wc.alloc (.cells #[.int .i64 s, .int .u32 (g + 1)] 30)).alloc (.cells #[] 30)).ownsRow 0 30 2 (.slice (some ⟨wc.heap.size + 1, 0, none⟩) 0 0) 0 [] := by simpa using hown1
    go_upto_region 7 with fail
    go_cut [39] (fun _ wf => ∃ va vc, TK w wf zh cap most (.slice va (T.length + 1) vc) (.slice ga G.length gc) (T ++ [(s, g + 1)]) G s (g + 1) ∧ (∀ b, (Value.slice va (T.length + 1) vc).ownBlock = some b → w.heap.size + 2 < b))
    case first =>
      go_region_law (first
        | (refine step_app3 rfl (.tmp 32) (.tmp 34) 32 rfl 30 (.agg #[.int .i64 0, .int .u32 0]) 2 16 Try.underlying32 Try.infoHandle rfl (by decide) wc _ (below_heap bE rfl rfl rfl rfl) (.slice (some ⟨wc.heap.size, 0, none⟩) 0 0) 0 [] rfl (owns_heap hown0 rfl) (fun b hb => by simp [Value.ownBlock] at hb; omega) _ T.length (hCells T) rfl hT1 ho1 (by unfold maxLen; omega) (by omega) ?_; intro v1 wz1 hv1 hv2 hv3 hv4; have k1 := (hv2.block _ z1).trans m1; have x0 : wz1.cell? ⟨zh, 0, none⟩ = some (.int .i64 s) := (by rw [cell_of_blk k1]; rfl); have x1 : wz1.cell? ⟨zh, 1, none⟩ = some (.int .u32 (g + 1)) := (by rw [cell_of_blk k1]; rfl); skip)
        | (refine step_app3 rfl (.tmp 32) (.tmp 34) 32 rfl 30 (.agg #[.int .i64 0, .int .u32 0]) 2 16 Try.underlying32 Try.infoHandle rfl (by decide) wc _ (below_heap bEH rfl rfl rfl rfl) (.slice (some ⟨wc.heap.size, 0, none⟩) 0 0) 0 [] rfl (owns_heap oEH rfl) (fun b hb => by simp [Value.ownBlock] at hb; omega) _ T.length (hCells T) rfl hT1 ho1 (by unfold maxLen; omega) (by omega) ?_; intro v1 wz1 hv1 hv2 hv3 hv4; have k1 := (hv2.block _ z1).trans m1; have x0 : wz1.cell? ⟨zh, 0, none⟩ = some (.int .i64 s) := (by rw [cell_of_blk k1]; rfl); have x1 : wz1.cell? ⟨zh, 1, none⟩ = some (.int .u32 (g + 1)) := (by rw [cell_of_blk k1]; rfl); have hH2 := (hv4.block (wc.heap.size + 1) (by simp) (by simp [Value.ownBlock])).trans nEH)
        | (refine step_app3 rfl (.tmp 32) (.tmp 34) 32 rfl 30 (.agg #[.int .i64 0, .int .u32 0]) 2 16 Try.underlying32 Try.infoHandle rfl (by decide) wc _ (below_heap bHE rfl rfl rfl rfl) (.slice (some ⟨wc.heap.size + 1, 0, none⟩) 0 0) 0 [] rfl (owns_heap oHE rfl) (fun b hb => by simp [Value.ownBlock] at hb; omega) _ T.length (hCells T) rfl hT1 ho1 (by unfold maxLen; omega) (by omega) ?_; intro v1 wz1 hv1 hv2 hv3 hv4; have k1 := (hv2.block _ z1).trans m1; have x0 : wz1.cell? ⟨zh, 0, none⟩ = some (.int .i64 s) := (by rw [cell_of_blk k1]; rfl); have x1 : wz1.cell? ⟨zh, 1, none⟩ = some (.int .u32 (g + 1)) := (by rw [cell_of_blk k1]; rfl); have hH3 := (hv4.block wc.heap.size (by simp only [World.size_drew, World.size_alloc]; omega) (by simp only [Value.ownBlock, ne_eq, Option.some.injEq]; omega)).trans nHE)
        | (refine step_app2 rfl (.tmp 35) (.tmp 37) 32 rfl 30 (.agg #[.int .i64 0, .int .u32 0]) 2 16 Try.underlying32 Try.infoHandle rfl (by decide) wc _ (below_heap (hv2.alloc hv2.size _) rfl rfl rfl rfl) v1 (0 + T.length) ([] ++ hCells T) rfl (owns_heap (World.ownsRow.alloc hv1 _) rfl) hv3 ⟨wz1.heap.size, 0, none⟩ 1 1 [.int .i64 s, .int .u32 (g + 1)] rfl rfl (World.news_of_block (cs := #[.int .i64 s, .int .u32 (g + 1)]) (t := 30) (fr := (0, 0)) (blk_alloc_new (w := wz1) _)) (by simp [Value.oneCell']) (by unfold maxLen; omega) (by omega) ?_; intro v2 wz2 hv5 hv6 hv7 hv8; have hr2 := HR.grow (L := T) (h := (s, g + 1)) hv5 (by omega) (by simp); obtain ⟨va, vc, rfl⟩ := hr2.form; clear hv5; have y0 := (hv6.block _ z0).trans m0; have y3 : wz2.cell? ⟨w.heap.size, 2, none⟩ = some (.slice ao T.length ca) := (by rw [cell_of_blk y0]; rfl); have yf : wz2.frozen? ⟨w.heap.size, 2, none⟩ = false := frozen_of_blk y0)
        | (refine step_app2 rfl (.tmp 35) (.tmp 37) 32 rfl 30 (.agg #[.int .i64 0, .int .u32 0]) 2 16 Try.underlying32 Try.infoHandle rfl (by decide) wc _ (below_heap hv2 rfl rfl rfl rfl) v1 (0 + T.length) ([] ++ hCells T) rfl (owns_heap hv1 rfl) hv3 ⟨wc.heap.size + 1, 0, none⟩ 1 1 [.int .i64 s, .int .u32 (g + 1)] rfl rfl (World.news_of_block (cs := #[.int .i64 s, .int .u32 (g + 1)]) (t := 30) (fr := (0, 0)) hH2) (by simp [Value.oneCell']) (by unfold maxLen; omega) (by omega) ?_; intro v2 wz2 hv5 hv6 hv7 hv8; have hr2 := HR.grow (L := T) (h := (s, g + 1)) hv5 (by omega) (by simp); obtain ⟨va, vc, rfl⟩ := hr2.form; clear hv5; have y0 := (hv6.block _ z0).trans m0; have y3 : wz2.cell? ⟨w.heap.size, 2, none⟩ = some (.slice ao T.length ca) := (by rw [cell_of_blk y0]; rfl); have yf : wz2.frozen? ⟨w.heap.size, 2, none⟩ = false := frozen_of_blk y0)
        | (refine step_app2 rfl (.tmp 35) (.tmp 37) 32 rfl 30 (.agg #[.int .i64 0, .int .u32 0]) 2 16 Try.underlying32 Try.infoHandle rfl (by decide) wc _ (below_heap hv2 rfl rfl rfl rfl) v1 (0 + T.length) ([] ++ hCells T) rfl (owns_heap hv1 rfl) hv3 ⟨wc.heap.size, 0, none⟩ 1 1 [.int .i64 s, .int .u32 (g + 1)] rfl rfl (World.news_of_block (cs := #[.int .i64 s, .int .u32 (g + 1)]) (t := 30) (fr := (0, 0)) hH3) (by simp [Value.oneCell']) (by unfold maxLen; omega) (by omega) ?_; intro v2 wz2 hv5 hv6 hv7 hv8; have hr2 := HR.grow (L := T) (h := (s, g + 1)) hv5 (by omega) (by simp); obtain ⟨va, vc, rfl⟩ := hr2.form; clear hv5; have y0 := (hv6.block _ z0).trans m0; have y3 : wz2.cell? ⟨w.heap.size, 2, none⟩ = some (.slice ao T.length ca) := (by rw [cell_of_blk y0]; rfl); have yf : wz2.frozen? ⟨w.heap.size, 2, none⟩ = false := frozen_of_blk y0))
      all_goals
        have y1 := (hv6.block _ z1).trans m1
        have kk : TK w wz2 zh cap most (.slice ao T.length ca) (.slice ga G.length gc) T G s (g + 1) := hkc.below (hv6.mono (Nat.le_refl _))
        have hr3 : HR wz2 (.slice va (T ++ [(s, g + 1)]).length vc) (T ++ [(s, g + 1)]) := hr2
        have hlen : (T ++ [(s, g + 1)]).length = T.length + 1 := by simp
        have kp := kk.put hr3 (fun b hb => by have := hv7 b hb; omega) hGl
        rw [hlen] at kp
        have hvb : ∀ b, (Value.slice va (T.length + 1) vc).ownBlock = some b → w.heap.size + 2 < b := fun b hb => by have := hv7 b (by simpa [Value.ownBlock] using hb); omega
        clear hv1 hv2 hv3 hv4 hv6 hv7 hv8 k1 x0 x1 y0 y1 m0 m1 m2 hown0 hown1 p0 p1 p2 p3 q0 q1 f3 hT1 hG1 b1 bE bEH bHE nEH nHE oEH oHE ho1 kk hkc hr2 hr3
        go_wp2_with fail
        go_meet
        exact ⟨va, vc, kp, hvb⟩
    case rest =>
      clear m0 m1 m2 hown0 hown1 p0 p1 p2 p3 q0 q1 f3 hT1 hG1 b1 bE bEH bHE nEH nHE oEH oHE ho1 hkc z0 z1 z2
      obtain ⟨va, vc, kp, hvb⟩ := hcut
      generalize hwf : wc = wf at *
      clear hwf
      have hrT := kp.t
      have hrG := kp.g
      have hbf := kp.bel
      obtain ⟨p0, p1, p2, p3⟩ := kp.read
      obtain ⟨⟨a0, a1, a2, a3⟩, ⟨c0, c1⟩, ⟨d0, d1⟩, _, f1, f2, _⟩ := kp.all
      have hz := kp.hz
      have u0 := f1 0
      have u1 := f1 1
      have u2 := f1 2
      have u3 := f1 3
      have u4 := f2 0
      have u5 := f2 1
      clear f1 f2 kp
      go_wp2_with fail
      go_region
      all_goals
        go_wp2
        refine bodyPost_ret (v := .tuple #[.agg #[.int .i64 cap, .int .u32 most, .slice va (T.length + 1) vc, .slice ga G.length gc], .agg #[.int .i64 s, .int .u32 (g + 1)], .int .i64 0]) (by simp [results, Try.results16, go_sem, a0, a1, a2, a3, c0, c1]) rfl ⟨_, rfl, ?_, ?_, ?_, fun b hb => by have := hvb b hb; omega⟩
        · have hk : HR wf (.slice va (T.length + 1) vc) (T ++ [(s, g + 1)]) := hrT
          refine hk.keep (F := [w.heap.size + 1, w.heap.size + 1 + 1]) (by repeat (first | with_reducible refine Keeps.setCell ?_ (.inl (by simp)) _ | with_reducible refine Keeps.drew ?_ | with_reducible exact Keeps.refl _ _)) ?_
          intro b hb
          have := hvb b hb
          simp; omega
        · refine hrG.keep (F := [w.heap.size + 1, w.heap.size + 1 + 1]) (by repeat (first | with_reducible refine Keeps.setCell ?_ (.inl (by simp)) _ | with_reducible refine Keeps.drew ?_ | with_reducible exact Keeps.refl _ _)) ?_
          intro b hb
          have := hGl b hb
          simp; omega
        · repeat (first | with_reducible exact hbf | with_reducible refine Below.drew ?_ | with_reducible refine Below.setCell ?_ (by simp <;> omega) _)

end Go.Proofs.Ytoifnljlnpkodaa

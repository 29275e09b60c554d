/-
  The contract of 'Give' of package haycockref03.
-/
import Derived.Test.YtoifnljlnpkodaaRef03A
import Derived.Deep.RegionLaw
import Derived.Laws.OwnMore
namespace Go.Proofs.Ytoifnljlnpkodaa
open Go.RowKit
set_option linter.unusedVariables false

theorem step_app2 {P : Program} {ops : Array Oper} {o : Oper} {a : Act} {K : Act → World → Prop} {Q : Exit → Act → World → Prop} {E : Prop} (hgd : o.guard = none) (s x : Operand) (t : TypeId)
    (ho : o.op = .call { callee := .builtin .append, args := #[s, x], argTypes := #[t, t] })
    (e : TypeId) (z : Value) (size bytes : Nat) (ht : P.underlying t = some (.slice e)) (hi : (P.info? e).map (fun i => (i.zero, i.size, i.bytes)) = some (some z, size, bytes)) (hzs : z.cells.size = size) (hsz : 0 < size)
    (W w : World) (hbel : Below W.heap.size W w)
    (v : Value) (n : Nat) (xs : List Value) (hs : a.eval s = v) (hown : w.ownsRow 0 e size v n xs) (hv : ∀ b, v.ownBlock = some b → W.heap.size ≤ b)
    (ad : Addr) (m c : Nat) (news : List Value) (hx : a.eval x = .slice (some ad) m c) (hl : news.length = m * size) (hnews : ∀ j u, news[j]? = some u → w.cell? (ad.add j) = some u) (h1 : ∀ u ∈ news, u.oneCell' = true)
    (h63 : n + m ≤ maxLen) (hbytes : (n + m) * bytes ≤ 140737488355328)
    (h : ∀ v' w', w'.ownsRow 0 e size v' (n + m) (xs ++ news) → Below W.heap.size W w' → (∀ b, v'.ownBlock = some b → W.heap.size ≤ b) → w.grownBy w' v.ownBlock → K (a.put o.dst v') w') :
    if Region.wanted o (yielded ops a.tmps) = true then Oper.wp P o a w K Q else E := by
  obtain ⟨i, hi, hz, hsize, hby⟩ := info_parts hi
  have hw : Region.wanted o (yielded ops a.tmps) = true := by simp [Region.wanted, hgd]
  rw [if_pos hw]
  obtain ⟨v', w', hr, h2, h3, _, h5⟩ := run_append_own_at (P := P) w 0 t o.type e i z size bytes ht hi hz hsize hby hzs hsz v n xs hown ad m c news hl hnews h1 h63 hbytes (Nat.zero_le _)
  have hfin := h v' w' h2 (hbel.trans ⟨h3.os, h3.tape, h3.output, h3.size, fun k hk => h3.block k (by have := hbel.size; omega) fun e => by have := hv k e.symm; omega⟩) (fun b hb => by
    rcases h5 with h5 | h5
    · exact hv b (by rw [← h5]; exact hb)
    · rw [h5] at hb; cases hb; exact hbel.size) h3
  unfold Oper.wp execOp
  simp only [ho, resolve, invoke, builtin, Sem.run_bind, Sem.run_pure, Result.andThen_ok, List.map_toArray, List.map_cons, List.map_nil, hs, hx, hr]
  exact hfin

/-- The cells to be appended, out of memory that is older than B. -/
theorem news_old {W w : World} {g off : Nat} {news : List Value} (hbel : Below W.heap.size W w) (hg : g < W.heap.size) (h : ∀ j u, news[j]? = some u → W.cell? ((⟨g, off, none⟩ : Addr).add j) = some u) : ∀ j u, news[j]? = some u → w.cell? ((⟨g, off, none⟩ : Addr).add j) = some u := by
  intro j u hu
  rw [← h j u hu, Addr.add_lit]
  exact hbel.cell (p := ⟨g, off + j, none⟩) hg

theorem World.grownBy.refl (w : World) (r : Option Nat) : w.grownBy w r := ⟨rfl, rfl, rfl, Nat.le_refl _, fun _ _ _ => rfl⟩

/-- 'append' of a whole row that is older, or of nil. -/
theorem step_app3 {P : Program} {ops : Array Oper} {o : Oper} {a : Act} {K : Act → World → Prop} {Q : Exit → Act → World → Prop} {E : Prop} (hgd : o.guard = none) (s x : Operand) (t : TypeId)
    (ho : o.op = .call { callee := .builtin .append, args := #[s, x], argTypes := #[t, t] })
    (e : TypeId) (z : Value) (size bytes : Nat) (ht : P.underlying t = some (.slice e)) (hi : (P.info? e).map (fun i => (i.zero, i.size, i.bytes)) = some (some z, size, bytes)) (hzs : z.cells.size = size) (hsz : 0 < size)
    (W w : World) (hbel : Below W.heap.size W w)
    (v : Value) (n : Nat) (xs : List Value) (hs : a.eval s = v) (hown : w.ownsRow 0 e size v n xs) (hv : ∀ b, v.ownBlock = some b → W.heap.size ≤ b)
    (vx : Value) (m : Nat) (news : List Value) (hx : a.eval x = vx) (hxr : W.ownsRow 0 e size vx m news) (h1 : ∀ u ∈ news, u.oneCell' = true)
    (h63 : n + m ≤ maxLen) (hbytes : (n + m) * bytes ≤ 140737488355328)
    (h : ∀ v' w', w'.ownsRow 0 e size v' (n + m) (xs ++ news) → Below W.heap.size W w' → (∀ b, v'.ownBlock = some b → W.heap.size ≤ b) → w.grownBy w' v.ownBlock → K (a.put o.dst v') w') :
    if Region.wanted o (yielded ops a.tmps) = true then Oper.wp P o a w K Q else E := by
  rcases hxr.2 with ⟨rfl, rfl⟩ | ⟨g, cap, cur, rfl, _, hg, _⟩
  · have hn : news = [] := List.eq_nil_of_length_eq_zero (by simpa using hxr.1)
    subst hn
    obtain ⟨i, hi, hz, hsize, hby⟩ := info_parts hi
    have hw : Region.wanted o (yielded ops a.tmps) = true := by simp [Region.wanted, hgd]
    rw [if_pos hw]
    have hr := run_append_owned_none (P := P) (w := w) 0 t o.type e i size ht hi v n xs hown
    have hfin := h v w (by simpa using hown) hbel hv (World.grownBy.refl _ _)
    unfold Oper.wp execOp
    simp only [ho, resolve, invoke, builtin, Sem.run_bind, Sem.run_pure, Result.andThen_ok, List.map_toArray, List.map_cons, List.map_nil, hs, hx, hr]
    exact hfin
  · exact step_app2 hgd s x t ho e z size bytes ht hi hzs hsz W w hbel v n xs hs hown hv ⟨g, 0, none⟩ m cap news hx hxr.1 (news_old hbel (lt_of_block hg) (World.ownsRow.cells hxr rfl)) h1 h63 hbytes h

theorem HR.grow {w : World} {v : Value} {L : List (Nat × Int)} {h : Nat × Int} {n : Nat} {xs : List Value} (hr : w.ownsRow 0 30 2 v n xs) (hn : n = L.length + 1) (hx : xs = hCells L ++ [.int .i64 h.1, .int .u32 h.2]) : HR w v (L ++ [h]) := by
  subst hn
  subst hx
  unfold HR
  rw [hCells_append]
  simpa [hCells] using hr

theorem HR.own_lt {w : World} {v : Value} {L : List (Nat × Int)} (h : HR w v L) : ∀ b, v.ownBlock = some b → b < w.heap.size := by
  intro b hb
  rcases h.2 with ⟨rfl, _⟩ | ⟨g, cap', cur, rfl, _, hg, r⟩
  · cases hb
  · cases hb; exact lt_of_block hg

theorem HR.keep {w w' : World} {F : List Nat} {v : Value} {L : List (Nat × Int)} (h : HR w v L) (k : Keeps F w w') (hf : ∀ b, v.ownBlock = some b → b ∉ F) : HR w' v L := by
  refine ⟨h.1, ?_⟩
  rcases h.2 with h0 | ⟨g, cap', cur, rfl, hb, hg, r⟩
  · exact .inl h0
  · exact .inr ⟨g, cap', cur, rfl, hb, k.blk hg (hf g rfl), r⟩

set_option maxHeartbeats 4000000 in
theorem r3_give (w : World) (cap most : Int) (vT vG : Value) (T G : List (Nat × Int)) (j : Nat) (g : Int) (hT : HR w vT T) (hG : HR w vG G) (hl : T.length < 70000) (hlG : G.length < 70000) (hlv : liveP T G j g = true) :
    Calls Try.prog 18 #[refV cap most vT vG, .agg #[.int .i64 j, .int .u32 g]] w fun e w' => ∃ v, e = .returned (.tuple #[refV cap most vT v, .int .i64 0]) ∧ HR w' v (G ++ [(j, g)]) ∧ HR w' vT T ∧ Below w.heap.size w w' ∧ (∀ b, v.ownBlock = some b → w.heap.size ≤ b) := by
  obtain ⟨ao, ca, rfl⟩ := hT.form
  obtain ⟨ga, gc, rfl⟩ := hG.form
  have HLV := Lib.hid hlv
  clear hlv
  unfold refV
  go_enter Try.func18, Try.ntmps18
  have b0 : Below w.heap.size w (((w.alloc (.cells #[.int .i64 cap, .int .u32 most, .slice ao T.length ca, .slice ga G.length gc] 42)).alloc (.cells #[.int .i64 j, .int .u32 g] 30)).alloc (.cells #[.int .i64 0, .int .u32 0, .slice none 0 0, .slice none 0 0] 42)) := (((Below.refl _ w).alloc (Nat.le_refl _) _).alloc (by simp) _).alloc (by simp; omega) _
  have hT0 := hT.below b0
  have hG0 := hG.below b0
  have n0 : (((w.alloc (.cells #[.int .i64 cap, .int .u32 most, .slice ao T.length ca, .slice ga G.length gc] 42)).alloc (.cells #[.int .i64 j, .int .u32 g] 30)).alloc (.cells #[.int .i64 0, .int .u32 0, .slice none 0 0, .slice none 0 0] 42)).heap[w.heap.size]? = some (.cells #[.int .i64 cap, .int .u32 most, .slice ao T.length ca, .slice ga G.length gc] 42 (0, 0)) := (blk_alloc_old _ (by simp; omega)).trans ((blk_alloc_old _ (by simp)).trans (blk_alloc_new _))
  have n1 : (((w.alloc (.cells #[.int .i64 cap, .int .u32 most, .slice ao T.length ca, .slice ga G.length gc] 42)).alloc (.cells #[.int .i64 j, .int .u32 g] 30)).alloc (.cells #[.int .i64 0, .int .u32 0, .slice none 0 0, .slice none 0 0] 42)).heap[w.heap.size + 1]? = some (.cells #[.int .i64 j, .int .u32 g] 30 (0, 0)) := (blk_alloc_old _ (by simp)).trans (by have := blk_alloc_new (w := (w.alloc (.cells #[.int .i64 cap, .int .u32 most, .slice ao T.length ca, .slice ga G.length gc] 42))) (.cells #[.int .i64 j, .int .u32 g] 30); simpa using this)
  have n2 : (((w.alloc (.cells #[.int .i64 cap, .int .u32 most, .slice ao T.length ca, .slice ga G.length gc] 42)).alloc (.cells #[.int .i64 j, .int .u32 g] 30)).alloc (.cells #[.int .i64 0, .int .u32 0, .slice none 0 0, .slice none 0 0] 42)).heap[w.heap.size + 2]? = some (.cells #[.int .i64 0, .int .u32 0, .slice none 0 0, .slice none 0 0] 42 (0, 0)) := by
    have := blk_alloc_new (w := ((w.alloc (.cells #[.int .i64 cap, .int .u32 most, .slice ao T.length ca, .slice ga G.length gc] 42)).alloc (.cells #[.int .i64 j, .int .u32 g] 30))) (.cells #[.int .i64 0, .int .u32 0, .slice none 0 0, .slice none 0 0] 42)
    simpa using this
  go_wp2_with fail
  generalize (((w.alloc (.cells #[.int .i64 cap, .int .u32 most, .slice ao T.length ca, .slice ga G.length gc] 42)).alloc (.cells #[.int .i64 j, .int .u32 g] 30)).alloc (.cells #[.int .i64 0, .int .u32 0, .slice none 0 0, .slice none 0 0] 42)) = w0 at *
  refine (r3_live _ cap most _ _ T G j g hT0 hG0 hl hlG).mono ?_
  rintro e w1 ⟨rfl, h1⟩
  rw [HLV.out]
  have hT1 := hT0.below h1
  have hG1 := hG0.below h1
  have m0 := (h1.block _ (lt_of_block n0)).trans n0
  have m1 := (h1.block _ (lt_of_block n1)).trans n1
  have m2 := (h1.block _ (lt_of_block n2)).trans n2
  have b1 := b0.trans (h1.mono b0.size)
  have hTl := hT.own_lt
  clear hT hG hT0 hG0 n0 n1 n2 b0 h1
  have z0 := lt_of_block m0
  have z1 := lt_of_block m1
  have z2 := lt_of_block m2
  have hown0 := owns_empty w1 30 2 _ rfl
  have hown1 := owns_empty (w1.alloc (.cells #[.int .i64 j, .int .u32 g] 30)) 30 2 _ rfl
  have p0 : w1.cell? ⟨w.heap.size, 0, none⟩ = some (.int .i64 cap) := by rw [cell_of_blk m0]; rfl
  have p1 : w1.cell? ⟨w.heap.size, 1, none⟩ = some (.int .u32 most) := by rw [cell_of_blk m0]; rfl
  have p2 : w1.cell? ⟨w.heap.size, 2, none⟩ = some (.slice ao T.length ca) := by rw [cell_of_blk m0]; rfl
  have p3 : w1.cell? ⟨w.heap.size, 3, none⟩ = some (.slice ga G.length gc) := by rw [cell_of_blk m0]; rfl
  have q0 : w1.cell? ⟨w.heap.size + 1, 0, none⟩ = some (.int .i64 j) := by rw [cell_of_blk m1]; rfl
  have q1 : w1.cell? ⟨w.heap.size + 1, 1, none⟩ = some (.int .u32 g) := by rw [cell_of_blk m1]; rfl
  have f3 : w1.frozen? ⟨w.heap.size, 3, none⟩ = false := frozen_of_blk m0
  have ho1 := hCells_one G
  have bE : Below w1.heap.size w1 (w1.alloc (.cells #[] 30)) := (Below.refl _ _).alloc (Nat.le_refl _) _
  have bEH : Below w1.heap.size w1 ((w1.alloc (.cells #[] 30)).alloc (.cells #[.int .i64 j, .int .u32 g] 30)) := bE.alloc (by simp) _
  have bHE : Below w1.heap.size w1 ((w1.alloc (.cells #[.int .i64 j, .int .u32 g] 30)).alloc (.cells #[] 30)) := ((Below.refl _ _).alloc (Nat.le_refl _) _).alloc (by simp) _
  have nEH : ((w1.alloc (.cells #[] 30)).alloc (.cells #[.int .i64 j, .int .u32 g] 30)).heap[w1.heap.size + 1]? = some (.cells #[.int .i64 j, .int .u32 g] 30 (0, 0)) := by have := blk_alloc_new (w := w1.alloc (.cells #[] 30)) (.cells #[.int .i64 j, .int .u32 g] 30); simpa using this
  have nHE : ((w1.alloc (.cells #[.int .i64 j, .int .u32 g] 30)).alloc (.cells #[] 30)).heap[w1.heap.size]? = some (.cells #[.int .i64 j, .int .u32 g] 30 (0, 0)) := (blk_alloc_old _ (by simp)).trans (blk_alloc_new _)
  have oEH := hown0.alloc (.cells #[.int .i64 j, .int .u32 g] 30)
  have oHE : ((w1.alloc (.cells #[.int .i64 j, .int .u32 g] 30)).alloc (.cells #[] 30)).ownsRow 0 30 2 (.slice (some ⟨w1.heap.size + 1, 0, none⟩) 0 0) 0 [] := by simpa using hown1
  go_upto_region 3 with fail
  go_region_law (first
    | (refine step_app3 rfl (.tmp 11) (.tmp 13) 32 rfl 30 (.agg #[.int .i64 0, .int .u32 0]) 2 16 Try.underlying32 Try.infoHandle rfl (by decide) w1 _ (below_heap bE rfl rfl rfl rfl) (.slice (some ⟨w1.heap.size, 0, none⟩) 0 0) 0 [] rfl (owns_heap hown0 rfl) (fun b hb => by simp [Value.ownBlock] at hb; omega) _ G.length (hCells G) rfl hG1 ho1 (by unfold maxLen; omega) (by omega) ?_; intro v1 wz1 hv1 hv2 hv3 hv4; have k1 := (hv2.block _ z1).trans m1; have x0 : wz1.cell? ⟨w.heap.size + 1, 0, none⟩ = some (.int .i64 j) := (by rw [cell_of_blk k1]; rfl); have x1 : wz1.cell? ⟨w.heap.size + 1, 1, none⟩ = some (.int .u32 g) := (by rw [cell_of_blk k1]; rfl); skip)
    | (refine step_app3 rfl (.tmp 11) (.tmp 13) 32 rfl 30 (.agg #[.int .i64 0, .int .u32 0]) 2 16 Try.underlying32 Try.infoHandle rfl (by decide) w1 _ (below_heap bEH rfl rfl rfl rfl) (.slice (some ⟨w1.heap.size, 0, none⟩) 0 0) 0 [] rfl (owns_heap oEH rfl) (fun b hb => by simp [Value.ownBlock] at hb; omega) _ G.length (hCells G) rfl hG1 ho1 (by unfold maxLen; omega) (by omega) ?_; intro v1 wz1 hv1 hv2 hv3 hv4; have k1 := (hv2.block _ z1).trans m1; have x0 : wz1.cell? ⟨w.heap.size + 1, 0, none⟩ = some (.int .i64 j) := (by rw [cell_of_blk k1]; rfl); have x1 : wz1.cell? ⟨w.heap.size + 1, 1, none⟩ = some (.int .u32 g) := (by rw [cell_of_blk k1]; rfl); have hH2 := (hv4.block (w1.heap.size + 1) (by simp) (by simp [Value.ownBlock])).trans nEH)
    | (refine step_app3 rfl (.tmp 11) (.tmp 13) 32 rfl 30 (.agg #[.int .i64 0, .int .u32 0]) 2 16 Try.underlying32 Try.infoHandle rfl (by decide) w1 _ (below_heap bHE rfl rfl rfl rfl) (.slice (some ⟨w1.heap.size + 1, 0, none⟩) 0 0) 0 [] rfl (owns_heap oHE rfl) (fun b hb => by simp [Value.ownBlock] at hb; omega) _ G.length (hCells G) rfl hG1 ho1 (by unfold maxLen; omega) (by omega) ?_; intro v1 wz1 hv1 hv2 hv3 hv4; have k1 := (hv2.block _ z1).trans m1; have x0 : wz1.cell? ⟨w.heap.size + 1, 0, none⟩ = some (.int .i64 j) := (by rw [cell_of_blk k1]; rfl); have x1 : wz1.cell? ⟨w.heap.size + 1, 1, none⟩ = some (.int .u32 g) := (by rw [cell_of_blk k1]; rfl); have hH3 := (hv4.block w1.heap.size (by simp only [World.size_drew, World.size_alloc]; omega) (by simp only [Value.ownBlock, ne_eq, Option.some.injEq]; omega)).trans nHE)
    | (refine step_app2 rfl (.tmp 14) (.tmp 16) 32 rfl 30 (.agg #[.int .i64 0, .int .u32 0]) 2 16 Try.underlying32 Try.infoHandle rfl (by decide) w1 _ (below_heap (hv2.alloc hv2.size _) rfl rfl rfl rfl) v1 (0 + G.length) ([] ++ hCells G) rfl (owns_heap (World.ownsRow.alloc hv1 _) rfl) hv3 ⟨wz1.heap.size, 0, none⟩ 1 1 [.int .i64 j, .int .u32 g] rfl rfl (World.news_of_block (cs := #[.int .i64 j, .int .u32 g]) (t := 30) (fr := (0, 0)) (blk_alloc_new (w := wz1) _)) (by simp [Value.oneCell']) (by unfold maxLen; omega) (by omega) ?_; intro v2 wz2 hv5 hv6 hv7 hv8; have hr2 := HR.grow (L := G) (h := (j, g)) hv5 (by omega) (by simp); obtain ⟨va, vc, rfl⟩ := hr2.form; clear hv5; have y0 := (hv6.block _ z0).trans m0; have y3 : wz2.cell? ⟨w.heap.size, 3, none⟩ = some (.slice ga G.length gc) := (by rw [cell_of_blk y0]; rfl); have yf : wz2.frozen? ⟨w.heap.size, 3, none⟩ = false := frozen_of_blk y0)
    | (refine step_app2 rfl (.tmp 14) (.tmp 16) 32 rfl 30 (.agg #[.int .i64 0, .int .u32 0]) 2 16 Try.underlying32 Try.infoHandle rfl (by decide) w1 _ (below_heap hv2 rfl rfl rfl rfl) v1 (0 + G.length) ([] ++ hCells G) rfl (owns_heap hv1 rfl) hv3 ⟨w1.heap.size + 1, 0, none⟩ 1 1 [.int .i64 j, .int .u32 g] rfl rfl (World.news_of_block (cs := #[.int .i64 j, .int .u32 g]) (t := 30) (fr := (0, 0)) hH2) (by simp [Value.oneCell']) (by unfold maxLen; omega) (by omega) ?_; intro v2 wz2 hv5 hv6 hv7 hv8; have hr2 := HR.grow (L := G) (h := (j, g)) hv5 (by omega) (by simp); obtain ⟨va, vc, rfl⟩ := hr2.form; clear hv5; have y0 := (hv6.block _ z0).trans m0; have y3 : wz2.cell? ⟨w.heap.size, 3, none⟩ = some (.slice ga G.length gc) := (by rw [cell_of_blk y0]; rfl); have yf : wz2.frozen? ⟨w.heap.size, 3, none⟩ = false := frozen_of_blk y0)
    | (refine step_app2 rfl (.tmp 14) (.tmp 16) 32 rfl 30 (.agg #[.int .i64 0, .int .u32 0]) 2 16 Try.underlying32 Try.infoHandle rfl (by decide) w1 _ (below_heap hv2 rfl rfl rfl rfl) v1 (0 + G.length) ([] ++ hCells G) rfl (owns_heap hv1 rfl) hv3 ⟨w1.heap.size, 0, none⟩ 1 1 [.int .i64 j, .int .u32 g] rfl rfl (World.news_of_block (cs := #[.int .i64 j, .int .u32 g]) (t := 30) (fr := (0, 0)) hH3) (by simp [Value.oneCell']) (by unfold maxLen; omega) (by omega) ?_; intro v2 wz2 hv5 hv6 hv7 hv8; have hr2 := HR.grow (L := G) (h := (j, g)) hv5 (by omega) (by simp); obtain ⟨va, vc, rfl⟩ := hr2.form; clear hv5; have y0 := (hv6.block _ z0).trans m0; have y3 : wz2.cell? ⟨w.heap.size, 3, none⟩ = some (.slice ga G.length gc) := (by rw [cell_of_blk y0]; rfl); have yf : wz2.frozen? ⟨w.heap.size, 3, none⟩ = false := frozen_of_blk y0))
  all_goals
    have hb9 := b1.trans (hv6.mono b1.size)
    have y2 := (hv6.block _ z2).trans m2
    have hT9 := hT1.below hv6
    have w0 : wz2.cell? ⟨w.heap.size, 0, none⟩ = some (.int .i64 cap) := by rw [cell_of_blk y0]; rfl
    have w4 : wz2.cell? ⟨w.heap.size, 1, none⟩ = some (.int .u32 most) := by rw [cell_of_blk y0]; rfl
    have w5 : wz2.cell? ⟨w.heap.size, 2, none⟩ = some (.slice ao T.length ca) := by rw [cell_of_blk y0]; rfl
    have t0 : wz2.cell? ⟨w.heap.size + 2, 0, none⟩ = some (.int .i64 0) := by rw [cell_of_blk y2]; rfl
    have t1 : wz2.cell? ⟨w.heap.size + 2, 1, none⟩ = some (.int .u32 0) := by rw [cell_of_blk y2]; rfl
    have t2 : wz2.cell? ⟨w.heap.size + 2, 2, none⟩ = some (.slice none 0 0) := by rw [cell_of_blk y2]; rfl
    have t3 : wz2.cell? ⟨w.heap.size + 2, 3, none⟩ = some (.slice none 0 0) := by rw [cell_of_blk y2]; rfl
    have u0 : wz2.frozen? ⟨w.heap.size + 2, 0, none⟩ = false := frozen_of_blk y2
    have u1 : wz2.frozen? ⟨w.heap.size + 2, 1, none⟩ = false := frozen_of_blk y2
    have u2 : wz2.frozen? ⟨w.heap.size + 2, 2, none⟩ = false := frozen_of_blk y2
    have u3 : wz2.frozen? ⟨w.heap.size + 2, 3, none⟩ = false := frozen_of_blk y2
    clear hv1 hv2 hv3 hv4 hv6 hv8 k1 x0 x1 y0 y2 m0 m1 m2 hown0 hown1 p0 p1 p2 p3 q0 q1 f3 hT1 hG1 bE bEH bHE nEH nHE oEH oHE ho1
    have s9 := b1.size
    clear b1
    go_wp2
    refine bodyPost_ret (v := .tuple #[.agg #[.int .i64 cap, .int .u32 most, .slice ao T.length ca, .slice va (G.length + 1) vc], .int .i64 0]) (by simp [results, Try.results18, go_sem, t0, t1, t2, t3]) rfl ⟨_, rfl, ?_, ?_, ?_, ?_⟩
    · have hk : HR wz2 (.slice va (G.length + 1) vc) (G ++ [(j, g)]) := by simpa using hr2
      refine hk.keep (F := [w.heap.size, w.heap.size + 1 + 1]) ((((((Keeps.refl _ _).setCell (.inl (by simp)) _).setCell (.inl (by simp)) _).setCell (.inl (by simp)) _).setCell (.inl (by simp)) _).setCell (.inl (by simp)) _) ?_
      intro b hb
      have := hv7 b (by simpa [Value.ownBlock] using hb)
      simp; omega
    · refine hT9.keep (F := [w.heap.size, w.heap.size + 1 + 1]) ((((((Keeps.refl _ _).setCell (.inl (by simp)) _).setCell (.inl (by simp)) _).setCell (.inl (by simp)) _).setCell (.inl (by simp)) _).setCell (.inl (by simp)) _) ?_
      intro b hb
      have := hTl b hb
      simp; omega
    · exact (((((hb9.setCell (by simp) _).setCell (by simp; omega) _).setCell (by simp; omega) _).setCell (by simp; omega) _).setCell (by simp; omega) _)
    · intro b hb
      have := hv7 b (by simpa [Value.ownBlock] using hb)
      omega

end Go.Proofs.Ytoifnljlnpkodaa

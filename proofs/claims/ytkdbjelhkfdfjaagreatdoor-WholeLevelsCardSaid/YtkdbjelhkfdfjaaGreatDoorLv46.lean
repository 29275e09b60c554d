/-
  Contracts that the law rests on. Conditions: none.
-/
import Derived.Test.YtkdbjelhkfdfjaaGreatDoorLv44
import Derived.Test.YtkdbjelhkfdfjaaGreatDoorLv45
set_option linter.unusedVariables false
set_option maxRecDepth 100000
set_option maxHeartbeats 32000000
namespace Go.Proofs.YtkdbjelhkfdfjaaGreatDoor
open Go.RowKit
section
variable (w : World) (FP : List Nat) (p k n : Nat) (E : Ent) (q : Nat) (G : Nat -> Nat) (D K : Nat -> Option Nat)
theorem reach_seen (h : SrAt w FP p k n E q G D K) (v far j : Nat) (hv : v < n) (hj : D v = some j) (hle : j <= far) (by' : Int) :
    Calls Tryz.prog 41 #[.pointer (some ⟨p,0,none⟩),.int .i64 (v : Int),.int .i64 (far : Int),.int .i64 by'] w fun e w' => e = .returned (.tuple #[]) ∧ w = w' := by
  obtain ⟨s, gh, mb, c, vd, vb, F, cur,rfl, hq⟩ := h
  have hb := hq.blk
  have hd := hq.dist
  have c0 : w.cell? ⟨p,0,none⟩ = some vd := by rw [cell_of_blk hb]; rfl
  obtain ⟨ao, cd,rfl⟩ := hd.form
  rw [dvL_len] at c0 hd
  have hat := dvL_at D hv
  rw [hj, dv_some] at hat
  obtain ⟨gd,rfl, _, c1⟩ := hd.at hat
  have hv3 : (v : Int) < (n : Int) := by omega
  have hle3 : (j : Int) <= (far : Int) := by omega
  clear hq hb hd hat hj
  go_enter Tryz.func41, Tryz.ntmps41
  go_wp2_with fail
  first | go_end0 | refine bodyPost_ret (results_none rfl _ _ _) rfl ?_
  exact ⟨rfl,rfl⟩
end
def prs (es : List E3) : List (Nat × Nat) := es.map fun x => (x.1.toNat, x.2.1.toNat)
theorem prs_len (es : List E3) : (prs es).length = es.length := by simp [prs]
theorem prs_at {es : List E3} {i u v : Nat} {c : Int} (h : es[i]? = some ((u : Int),(v : Int), c)) : (prs es)[i]? = some (u, v) := by simp [prs, h]
theorem prs_get {es : List E3} {i : Nat} {x : E3} (h : es[i]? = some x) : (prs es)[i]? = some (x.1.toNat, x.2.1.toNat) := by simp [prs, h]
theorem out_prs {es : List E3} {n : Int} (hg : ∀ x ∈ es, inG n x) (v i : Nat) : i ∈ outI es es.length v ↔ ∃ u,(prs es)[i]? = some (v, u) := by
  rw [mem_outI]
  constructor
  · rintro ⟨hi, he⟩
    have hx : es[i]? = some es[i] := List.getElem?_eq_getElem hi
    have e2 : es.getD i (0,0,0) = es[i] := by simp [List.getD, hx]
    rw [e2] at he
    exact ⟨es[i].2.1.toNat,by rw [prs_get hx, he]; rfl⟩
  · rintro ⟨u, he⟩
    simp only [prs, List.getElem?_map, Option.map_eq_some_iff] at he
    obtain ⟨x, hx, e⟩ := he
    have h1 := (List.getElem?_eq_some_iff.1 hx).1
    have h2 := (hg x (List.mem_of_getElem? hx)).1
    simp only [Prod.mk.injEq] at e
    refine ⟨h1,?_⟩
    have e2 : es.getD i (0,0,0) = x := by simp [List.getD, hx]
    rw [e2]
    omega
section
variable {w w' : World} {p s gh mb c k n q : Nat} {vd vb : Value} {F F' S FP : List Nat} {cur : Array Value} {E E' : Ent} {G G' : Nat -> Nat} {D K : Nat -> Option Nat} {q' : Nat}
theorem SrQ.lt (h : SrQ w p s gh mb c k n vd vb F cur E q G D K) : ∀ b ∈ srF p gh mb F vd vb, b < w.heap.size := fun b hb => by
  rw [srF_mem] at hb
  rcases hb with rfl | rfl | rfl | e | e | e
  · exact lt_of_block h.blk
  · exact lt_of_block h.hand
  · exact h.map.lt
  · exact h.st.lt b e
  · exact (h.dist.own b e).2
  · obtain ⟨xs, _, hr⟩ := h.edge
    rcases hr.2 with ⟨a, _⟩ | ⟨g, cap, cu, a, _, hg, _⟩
    · rw [a] at e; cases e
    · rw [a] at e; cases e; exact lt_of_block hg
theorem SrQ.move (h : SrQ w p s gh mb c k n vd vb F cur E q G D K) (st : StoreAt w' F' s k n 1 E' q' 1 G') (mv : Moved F w F' w') (hq : q <= q') (hfr : ∀ x, G' x = 0 -> K x = none) :
    SrQ w' p s gh mb c k n vd vb F' cur E' q' G' D K ∧ Moved (srF p gh mb F vd vb) w (srF p gh mb F' vd vb) w' := by
  have hlt := h.lt
  have hin : ∀ b, b ∉ F -> b < w.heap.size -> b ∉ F' := fun b h1 h2 h3 => by
    rcases mv.from' b h3 with e | e
    · exact h1 e
    · omega
  have l1 : ∀ b,(b = p ∨ b = gh ∨ b = mb ∨ vd.ownBlock = some b ∨ vb.ownBlock = some b) -> b < w.heap.size := fun b hb => hlt b (srF_mem.2 (by
    rcases hb with e | e | e | e | e
    · exact .inl e
    · exact .inr (.inl e)
    · exact .inr (.inr (.inl e))
    · exact .inr (.inr (.inr (.inr (.inl e))))
    · exact .inr (.inr (.inr (.inr (.inr e))))))
  obtain ⟨n1, n2, n3, n4, n5, n6⟩ := h.ne
  refine ⟨⟨mv.keeps.blk h.blk n4, h.dist.keep mv.keeps (fun b e => (h.od b e).2.2.2), h.edge.keep mv.keeps (fun b e => (h.ob b e).2.2.2), st, mv.keeps.blk h.hand n5, h.hsz, h.map.keep mv.keeps n6,by have := h.few; omega,
    ⟨n1, n2, n3, hin p n4 (l1 p (.inl rfl)), hin gh n5 (l1 gh (.inr (.inl rfl))), hin mb n6 (l1 mb (.inr (.inr (.inl rfl))))⟩,fun b e => ?_,fun b e => ?_, h.db, hfr, h.kx⟩,⟨mv.keeps.mono (fun b hb => .inl (srF_mem.2 (.inr (.inr (.inr (.inl hb)))))),fun b hb => ?_,fun b hb => ?_⟩⟩
  · obtain ⟨a1, a2, a3, a4⟩ := h.od b e; exact ⟨a1, a2, a3, hin b a4 (l1 b (.inr (.inr (.inr (.inl e)))))⟩
  · obtain ⟨a1, a2, a3, a4⟩ := h.ob b e; exact ⟨a1, a2, a3, hin b a4 (l1 b (.inr (.inr (.inr (.inr e)))))⟩
  · rw [srF_mem] at hb
    rcases hb with e | e | e | e | e | e
    · exact .inl (srF_mem.2 (.inl e))
    · exact .inl (srF_mem.2 (.inr (.inl e)))
    · exact .inl (srF_mem.2 (.inr (.inr (.inl e))))
    · rcases mv.from' b e with f | f
      · exact .inl (srF_mem.2 (.inr (.inr (.inr (.inl f)))))
      · exact .inr f
    · exact .inl (srF_mem.2 (.inr (.inr (.inr (.inr (.inl e))))))
    · exact .inl (srF_mem.2 (.inr (.inr (.inr (.inr (.inr e))))))
  · have hs := mv.keeps.size
    rw [srF_mem] at hb
    rcases hb with e | e | e | e | e | e
    · have := l1 b (.inl e); omega
    · have := l1 b (.inr (.inl e)); omega
    · have := l1 b (.inr (.inr (.inl e))); omega
    · exact mv.lt b e
    · have := l1 b (.inr (.inr (.inr (.inl e)))); omega
    · have := l1 b (.inr (.inr (.inr (.inr e)))); omega
theorem SrAt.keep (h : SrAt w FP p k n E q G D K) (kk : Keeps S w w') (hS : ∀ b ∈ FP, b ∉ S) : SrAt w' FP p k n E q G D K := by
  obtain ⟨s, gh, mb, c, vd, vb, F, cur,rfl, hq⟩ := h
  exact ⟨s, gh, mb, c, vd, vb, F, cur,rfl, hq.keep kk hS⟩
theorem SrAt.lt (h : SrAt w FP p k n E q G D K) : ∀ b ∈ FP, b < w.heap.size := by
  obtain ⟨s, gh, mb, c, vd, vb, F, cur,rfl, hq⟩ := h
  exact hq.lt
theorem SrAt.most (h : SrAt w FP p k n E q G D K) : ∀ x, x < n -> G x <= 1 := fun x hx => by
  obtain ⟨s, gh, mb, c, vd, vb, F, cur,rfl, hq⟩ := h
  have := hq.st.most x hx
  omega
theorem SrAt.fresh (h : SrAt w FP p k n E q G D K) : ∀ x, G x = 0 -> K x = none := by
  obtain ⟨s, gh, mb, c, vd, vb, F, cur,rfl, hq⟩ := h
  exact hq.fresh
end
def FrS (wL : World) (FP0 : List Nat) (p k n : Nat) (ps : List (Nat × Nat)) (s gk m : Nat) (E : Ent) (D K : Nat -> Option Nat) (todo : List Nat) (w : World) : Prop :=
  ∃ (FP : List Nat) (q : Nat) (G : Nat -> Nat), SrAt w FP p k n E q G D K ∧ Dij ps s n m D K E todo ∧ q = told D n ∧ (∀ x, K x = none -> G x = 0) ∧ gk + told D n = n + 1 + count E n 1 ∧ Keeps FP0 wL w ∧ ∀ b ∈ FP, b ∈ FP0 ∨ wL.heap.size <= b
section
variable {wL w : World} {FP FP0 : List Nat} {p k n : Nat} {ps : List (Nat × Nat)} {s gk m : Nat} {E : Ent} {D K : Nat -> Option Nat} {todo : List Nat}
theorem FrS.start (h : SrAt wL FP0 p k n (fun _ => none) 0 (fun _ => 0) (fun _ => none) (fun _ => none)) (hs : s < n) (hn : n <= 4096) (by' : Int) :
    Calls Tryz.prog 41 #[.pointer (some ⟨p,0,none⟩),.int .i64 (s : Int),.int .i64 0,.int .i64 by'] wL fun e w' => e = .returned (.tuple #[]) ∧ ∃ E' D' K', FrS wL FP0 p k n ps s (n + 1) 0 E' D' K' [] w' := by
  refine (reach_new wL FP0 p k n (fun _ => none) 0 (fun _ => 0) (fun _ => none) (fun _ => none) h s 0 hs rfl (by omega) (by omega) (by omega) ⟨s, hs,rfl,rfl⟩ by').mono ?_
  rintro e w' ⟨rfl, x, FP', hx, _, _, hat, mv⟩
  refine ⟨rfl, _, _, _, FP', _, _, hat, Dij.start hs hx,?_,fun y hy => ?_,?_, mv.keeps, mv.from'⟩
  · rw [told_upd hs rfl, told_none]
  · by_cases c : y = x
    · subst c; rw [upd_same] at hy; cases hy
    · rw [upd_other _ _ c]
  · have h0 : count (fun _ => none : Ent) n 1 = 0 := count_zero.2 fun x _ hx => by obtain ⟨_, e⟩ := hx; cases e
    rw [told_upd hs rfl, told_none, count_in hx rfl, h0]
theorem FrS.out (h : FrS wL FP0 p k n ps s gk m E D K [] w) (hi : ∃ y, isIn E 1 y) (L : Nat -> List Nat) (hL : ∀ v i, i ∈ L v ↔ ∃ u, ps[i]? = some (v, u)) :
    ∃ st, w.cell? ⟨p,2,none⟩ = some (.pointer (some ⟨st,0,none⟩)) ∧ Hid (Calls Tryz.prog 31 #[.pointer (some ⟨st,0,none⟩),.int .i64 1] w fun e w' =>
      ∃ (x v m' : Nat) (E' : Ent), x < n ∧ v < n ∧ m' < n ∧ K x = some v ∧ e = .returned (.tuple #[.agg #[.int .i64 (x : Int),.int .u32 1],.int .i64 (m' : Int),.int .i64 0]) ∧ 1 <= gk ∧ FrS wL FP0 p k n ps s (gk - 1) m' E' D K (L v) w') := by
  obtain ⟨FP, q, G, hat, hd, hq, hG, hgk, kp, hF⟩ := h
  have hat' := hat
  obtain ⟨st, gh, mb, c, vd, vb, F, cur,rfl, hsq⟩ := hat
  refine ⟨st,by rw [cell_of_blk hsq.blk]; rfl,(pq_extract_yes w F st k n 1 E q 1 G hsq.st 1 (by omega) (by omega) hi).mono ?_⟩
  rintro e w' ⟨x, nn, key, hl, he,rfl, F', st', mv⟩
  obtain ⟨⟨k1, q1⟩, hx1⟩ := hl.1
  obtain ⟨_, hxn, v, _, hKx, _, _, _⟩ := hd.key x 1 k1 q1 hx1
  obtain ⟨v', m', q', h1, h2, h3, h4, h5⟩ := hd.take hl (L v)
  rw [hKx] at h2; cases h2
  rw [he] at h1; cases h1
  have hgx : G x = 1 := by
    have h6 := hat'.most x hxn
    have h7 : G x ≠ 0 := fun c => by rw [hat'.fresh x c] at hKx; cases hKx
    omega
  obtain ⟨hq2, mv2⟩ := hsq.move st' mv (Nat.le_refl _) hsq.fresh
  have hc := count_out hxn hl.1
  have hle := told_le D n
  refine ⟨x, v, m', _, hxn, h3, hd.pre.low hd.lt h4, hKx,by rw [hgx]; rfl,by omega, _, q, G,⟨st, gh, mb, c, vd, vb, F', cur,rfl, hq2⟩, h5 (hL v), hq, hG,by omega, kp.trans mv2.keeps hF,fun b hb => ?_⟩
  rcases mv2.from' b hb with e | e
  · exact hF b e
  · have := kp.size; exact .inr (by omega)
theorem FrS.nil (h : FrS wL FP0 p k n ps s gk m E D K [] w) (hn : ∀ y, ¬ isIn E 1 y) :
    IsDst ps s D ∧ ∃ st, w.cell? ⟨p,2,none⟩ = some (.pointer (some ⟨st,0,none⟩)) ∧ Hid (Calls Tryz.prog 31 #[.pointer (some ⟨st,0,none⟩),.int .i64 1] w fun e w' =>
      e = .returned (.tuple #[.agg #[.int .i64 0,.int .u32 0],.int .i64 0,.int .i64 172]) ∧ FrS wL FP0 p k n ps s gk m E D K [] w') := by
  obtain ⟨FP, q, G, hat, hd, hq, hG, hgk, kp, hF⟩ := h
  obtain ⟨st, gh, mb, c, vd, vb, F, cur,rfl, hsq⟩ := hat
  refine ⟨hd.done hn, st,by rw [cell_of_blk hsq.blk]; rfl,(pq_extract_no w F st k n 1 E q 1 G hsq.st 1 (by omega) (by omega) hn).mono ?_⟩
  rintro e w' ⟨rfl, st', kk⟩
  have mv : Moved F w F w' := ⟨kk,fun b hb => .inl hb, st'.lt⟩
  obtain ⟨hq2, mv2⟩ := hsq.move st' mv (Nat.le_refl _) hsq.fresh
  exact ⟨rfl, _, q, G,⟨st, gh, mb, c, vd, vb, F, cur,rfl, hq2⟩, hd, hq, hG, hgk, kp.trans mv2.keeps hF, hF⟩
theorem FrS.reach {i u v : Nat} (h : FrS wL FP0 p k n ps s gk m E D K (i :: todo) w) (he : ps[i]? = some (u, v)) (hvn : v < n) (hn : n <= 4096) (by' : Int) :
    m < n ∧ Hid (Calls Tryz.prog 41 #[.pointer (some ⟨p,0,none⟩),.int .i64 (v : Int),.int .i64 ((m + 1 : Nat) : Int),.int .i64 by'] w fun e w' =>
      e = .returned (.tuple #[]) ∧ ∃ E' D' K', FrS wL FP0 p k n ps s gk m E' D' K' todo w') := by
  obtain ⟨FP, q, G, hat, hd, hq, hG, hgk, kp, hF⟩ := h
  obtain ⟨u1, v1, a1, a2⟩ := hd.cur i (by simp)
  have hm := hd.pre.low hd.lt a2
  refine ⟨hm,?_⟩
  cases hD : D v with
  | some j =>
    refine (reach_seen w FP p k n E q G D K hat v (m + 1) j hvn hD (hd.top v j hD) by').mono ?_
    rintro e w' ⟨rfl,rfl⟩
    exact ⟨rfl, E, D, K, FP, q, G, hat, hd.pass he (by rw [hD]; simp), hq, hG, hgk, kp, hF⟩
  | none =>
    obtain ⟨y, y1, y2, y3⟩ := hd.room hvn hD
    have hle := told_le D n
    refine (reach_new w FP p k n E q G D K hat v (m + 1) hvn hD (by omega) (by omega) (by omega) ⟨y, y1, y3, hG y y2⟩ by').mono ?_
    rintro e w' ⟨rfl, x, FP', hx, hK, hE, hat', mv⟩
    refine ⟨rfl, _, _, _, FP', _, _, hat', hd.reach he hvn hD hx hK hE,?_,fun z hz => ?_,?_, kp.trans mv.keeps hF,fun b hb => ?_⟩
    · rw [told_upd hvn hD, hq]
    · by_cases c : z = x
      · subst c; rw [upd_same] at hz; cases hz
      · rw [upd_other _ _ c] at hz ⊢; exact hG z hz
    · rw [told_upd hvn hD, count_in hx hE]; omega
    · rcases mv.from' b hb with e | e
      · exact hF b e
      · have := kp.size; exact .inr (by omega)
theorem FrS.name (h : FrS wL FP0 p k n ps s gk m E D K todo w) : ∃ mb c, w.cell? ⟨p,4,none⟩ = some (.map (some mb)) ∧ HMap elmInt w mb c (vtx K) := by
  obtain ⟨FP, q, G, hat, _⟩ := h
  obtain ⟨st, gh, mb, c, vd, vb, F, cur,rfl, hsq⟩ := hat
  exact ⟨mb, c,by rw [cell_of_blk hsq.blk]; rfl, hsq.map⟩
theorem FrS.tree (h : FrS wL FP0 p k n ps s gk m E D K todo w) (B : Nat) (hB : ∀ b ∈ FP0, B <= b) (hL : B <= wL.heap.size) : ∃ vd vb, w.cell? ⟨p,0,none⟩ = some vd ∧ w.cell? ⟨p,1,none⟩ = some vb ∧ KRow B w vd (dvL D n) ∧ (∃ a l c, vd = .slice a l c) ∧ ∃ a l c, vb = .slice a l c := by
  obtain ⟨FP, q, G, hat, _, _, _, _, _, hF⟩ := h
  obtain ⟨st, gh, mb, c, vd, vb, F, cur,rfl, hsq⟩ := hat
  refine ⟨vd, vb,by rw [cell_of_blk hsq.blk]; rfl,by rw [cell_of_blk hsq.blk]; rfl,⟨hsq.dist.1,?_⟩,?_,?_⟩
  · rcases hsq.dist.2 with e | ⟨g, cap, cu, e, _, r⟩
    · exact .inl e
    · refine .inr ⟨g, cap, cu, e,?_, r⟩
      rcases hF g (srF_mem.2 (.inr (.inr (.inr (.inr (.inl (by rw [e]; rfl))))))) with f | f
      · exact hB g f
      · omega
  · obtain ⟨a, c, e⟩ := hsq.dist.form
    exact ⟨a, _, c, e⟩
  · obtain ⟨xs, _, hr⟩ := hsq.edge
    rcases hr.2 with ⟨e, _⟩ | ⟨g, cap, cu, e, _⟩
    · exact ⟨_, _, _, e⟩
    · exact ⟨_, _, _, e⟩
theorem FrS.keep {w' : World} (h : FrS wL FP0 p k n ps s gk m E D K todo w) (kk : Keeps [] w w') : FrS wL FP0 p k n ps s gk m E D K todo w' := by
  obtain ⟨FP, q, G, hat, hd, hq, hG, hgk, kp, hF⟩ := h
  exact ⟨FP, q, G, hat.keep kk (by simp), hd, hq, hG, hgk, kp.trans kk (by simp), hF⟩
theorem FrS.kept (h : FrS wL FP0 p k n ps s gk m E D K todo w) : Keeps FP0 wL w := by
  obtain ⟨FP, q, G, hat, hd, hq, hG, hgk, kp, hF⟩ := h
  exact kp
end
theorem Tryz.infoHandle : (Tryz.prog.info? 45).map (fun i => (i.zero, i.size, i.bytes)) = some (some (.agg #[.int .i64 0,.int .u32 0]), 2,16) := by kernel_rfl
theorem vtx_no : vtx (fun _ => none) = fun _ _ => none := by funext x g; simp [vtx]
theorem BegQ.p0 {w : World} {B p s gh mb k n i j : Nat} {vd vb : Value} {F : List Nat} {cur : Array Value} (h : BegQ w B p s gh mb k n i j vd vb F cur) : w.cell? ⟨p,0,none⟩ = some vd := by rw [cell_of_blk h.blk]; rfl
theorem BegQ.p1 {w : World} {B p s gh mb k n i j : Nat} {vd vb : Value} {F : List Nat} {cur : Array Value} (h : BegQ w B p s gh mb k n i j vd vb F cur) : w.cell? ⟨p,1,none⟩ = some vb := by rw [cell_of_blk h.blk]; rfl
def BegDone (w : World) (k n : Nat) (e : Ending) (w' : World) : Prop :=
  ∃ (p : Nat) (FP : List Nat), e = .returned (.tuple #[.pointer (some ⟨p,0,none⟩),.int .i64 0]) ∧ SrAt w' FP p k n (fun _ => none) 0 (fun _ => 0) (fun _ => none) (fun _ => none) ∧ Keeps [] w w' ∧ ∀ b ∈ FP, w.heap.size <= b
theorem begin_calls (w : World) (a b : Int) (hc : okC a b) (n : Nat) (hn : n <= 4096) :
    Calls Tryz.prog 39 #[.agg #[.int .i64 a,.int .i64 b],.int .i64 (n : Int)] w (BegDone w a.toNat n) := by
  obtain ⟨w0, hw0⟩ : ∃ w0, w0 = w.alloc (.cells #[.int .i64 a,.int .i64 b] 23 (0,0)) := ⟨_,rfl⟩
  have k0 : Keeps [] w w0 := by rw [hw0]; exact (Keeps.refl _ _).alloc _
  have hb0 : w0.heap[w.heap.size]? = some (.cells #[.int .i64 a,.int .i64 b] 23 (0,0)) := by rw [hw0]; exact blk_alloc_new _
  have e0 : w0.cell? ⟨w.heap.size,0,none⟩ = some (.int .i64 a) := by rw [cell_of_blk hb0]; rfl
  have e1 : w0.cell? ⟨w.heap.size,1,none⟩ = some (.int .i64 b) := by rw [cell_of_blk hb0]; rfl
  have hop := pq_open w0 a b n 1 hc (by omega) (by omega) (by omega)
  have hmm := @run_makeMap Tryz.prog
  have K0 := Lib.hid k0
  clear k0 hb0 hc
  obtain ⟨i0, hi, hz0, hz1, hzb⟩ := info_parts Tryz.infoHandle
  generalize a.toNat = kk at *
  have b1 : decide ((n : Int) < 0) = false := by rw [decide_eq_false_iff_not]; omega
  go_enter Tryz.func39, Tryz.ntmps39
  go_upto_region 1 with fail
  rw [<- hw0]
  clear hw0
  go_upto_region 4 with (go_at_call 12; refine hop.mono ?_; rintro e w1 ⟨F, s,rfl, st, k1, hF⟩; have ST := Lib.hid st; have K1 := Lib.hid k1; have HF := Lib.hid hF; clear st k1 hF e0 e1)
  have hnh := pq_newheap w1 F s kk n 0 (fun _ => none) 0 1 (fun _ => 0) ST.out (by omega)
  go_upto_region 5 with (go_at_call 13; refine hnh.mono ?_; rintro e w2 ⟨rfl, F2, st2, mv⟩; have ST2 := Lib.hid st2; have MV := Lib.hid mv; clear st2 mv)
  clear hnh hop
  go_upto_region 6 with (at_make; refine wpList_make_full _ rfl _ _ 67 rfl 0 45 i0 (.agg #[.int .i64 0,.int .u32 0]) 2 Tryz.underlying67 hi hz0 hz1 .i64 .i64 n n n rfl rfl rfl rfl (by rw [hzb]; omega) (by unfold maxLen; omega) (Nat.zero_le _) ?_; intro w3 hr3 hg3)
  obtain ⟨w5, hw5⟩ : ∃ w5, w5 = (w3.alloc (.map #[] 0)).alloc (.cells #[.slice none 0 0,.slice none 0 0,.pointer (some ⟨s,0,none⟩),.slice (some ⟨w2.heap.size,0,none⟩) n n,.map (some w3.heap.size)] 115 (0,0)) := ⟨_,rfl⟩
  have hst : ∃ cur, BegQ w5 w.heap.size (w3.heap.size + 1) s w2.heap.size w3.heap.size kk n 0 0 (.slice none 0 0) (.slice none 0 0) F2 cur ∧ Keeps [] w w5 := by
    have k3 : Keeps [] w2 w3 := (Keeps.refl _ _).grown hg3 (fun b h => by cases h)
    have k4 : Keeps [] w3 (w3.alloc (.map #[] 0)) := (Keeps.refl _ _).alloc _
    have k5 : Keeps [] (w3.alloc (.map #[] 0)) w5 := by rw [hw5]; exact (Keeps.refl _ _).alloc _
    have k35 := k4.trans k5 (by simp)
    have s0 := K0.out.size
    have s1 := K1.out.size
    have k02 : Keeps [] w0 w2 := K1.out.trans MV.out.keeps (fun b hb => .inr (HF.out b hb))
    have s2 := k02.size
    have l2 := ST2.out.lt
    obtain ⟨cur, hcur, hcs⟩ : ∃ cur, w3.heap[w2.heap.size]? = some (.cells cur 45 (0,0)) ∧ cur.size = n * 2 := by
      rcases hr3.2 with ⟨e, _⟩ | ⟨g, cap, cu, e, _, hg, _, _, hs, _⟩
      · cases e
      · cases e; exact ⟨cu, hg, hs⟩
    have l3 := lt_of_block hcur
    have hF2 : ∀ b ∈ F2, w.heap.size <= b := fun b hb => by
      rcases MV.out.from' b hb with e | e
      · have := HF.out b e; omega
      · omega
    refine ⟨cur,⟨?_,⟨by simp [dvL, keysV],.inl ⟨rfl,by simp [dvL]⟩⟩,⟨[],rfl,by simp,.inl ⟨rfl,rfl⟩⟩,(ST2.out.keep k3 (by simp)).keep k35 (by simp), k35.blk hcur (by simp), hcs,?_,⟨by omega,by omega,by omega,fun e => ?_,fun e => ?_,fun e => ?_⟩,(fun b e => by cases e),(fun b e => by cases e),(fun b e => by cases e),⟨by omega,by omega,by omega, hF2⟩⟩,?_⟩
    · have : (w3.alloc (.map #[] 0)).heap.size = w3.heap.size + 1 := by simp
      rw [<- this, hw5]; exact blk_alloc_new _
    · rw [vtx_no]; exact (HMap.made elmInt w3).keep k5 (by simp)
    · have := l2 _ e; omega
    · have := l2 _ e; omega
    · have := l2 _ e; omega
    · exact ((K0.out.trans k02 (by simp)).trans k3 (by simp)).trans k35 (by simp)
  obtain ⟨cur, hq5, k5⟩ := hst
  have Q5 := Lib.hid hq5
  have K5 := Lib.hid k5
  rw [<- hw5]
  generalize w3.heap.size + 1 = p at *
  generalize w3.heap.size = mb at *
  generalize w2.heap.size = gh at *
  clear hw5 hr3 hg3 hq5 k5 K0 K1 ST HF ST2 MV hmm hi hz0 hz1 hzb
  go_wp2_with fail
  go_loopg [27] (n + 1) (fun j t wr => ∃ (i : Nat) (vd vb : Value), j + i = n + 1 ∧ i <= n ∧ t = .int .i64 (i : Int) ∧ BegQ wr w.heap.size p s gh mb kk n i i vd vb F2 cur ∧ Keeps [] w wr)
  case atStart => exact ⟨0, _, _,by omega,by omega,rfl, Q5.out, K5.out⟩
  case round =>
    clear Q5 K5
    obtain ⟨i, vd, vb, hk, hin,rfl, hq, kp⟩ := hrel
    have HK := Lib.hid hk
    clear hk
    by_cases hi : i < n
    · have hi3 : (i : Int) < (n : Int) := by omega
      obtain ⟨ao, ca,rfl⟩ := hq.dist.form
      rw [dvL_len] at hq
      obtain ⟨xs, hxs, hxr⟩ := hq.edge
      obtain ⟨ao2, ca2,rfl⟩ : ∃ ao2 ca2, vb = .slice ao2 i ca2 := by
        rcases hxr.2 with ⟨e, e0⟩ | ⟨g, cap, cu, e, _⟩
        · exact ⟨none, 0,by rw [e, e0]⟩
        · exact ⟨_, _, e⟩
      have c0 := hq.p0
      have hB := kp.size
      have hrow : wr.ownsRow 0 2 1 (.slice ao i ca) i (keysV (dvL (fun _ => none) i)) := by
        have := hq.dist.lo (Nat.zero_le _)
        unfold KRow at this
        rwa [dvL_len] at this
      have hown1 : ∀ b,(Value.slice ao i ca).ownBlock = some b -> w.heap.size <= b := fun b e => (hq.dist.own b e).1
      have hpB := hq.base.1
      have HF1 : Hid (∀ g' c' w4, w4.ownsRow 0 2 1 (.slice (some ⟨g',0,none⟩) (i + 1) c') (i + 1) (keysV (dvL (fun _ => none) i) ++ [.int .i64 9223372036854775807]) -> Keeps (Value.slice ao i ca).ownBlock.toList wr w4 -> ((Value.slice ao i ca).ownBlock = some g' ∨ wr.heap.size <= g') ->
          w4.cell? ⟨p,0,none⟩ = some (.slice ao i ca) ∧ w4.frozen? ⟨p,0,none⟩ = false ∧ Hid (BegQ (w4.setCell ⟨p,0,none⟩ (.slice (some ⟨g',0,none⟩) (i + 1) c')) w.heap.size p s gh mb kk n (i + 1) i (.slice (some ⟨g',0,none⟩) (i + 1) c') (.slice ao2 i ca2) F2 cur ∧ Keeps [] w (w4.setCell ⟨p,0,none⟩ (.slice (some ⟨g',0,none⟩) (i + 1) c')))) := by
        refine Lib.hid fun g' c' w4 h4 k4 f4 => ?_
        obtain ⟨z1, z2⟩ := hq.dist1 hB h4 k4 f4
        have hbl := k4.blk hq.blk (fun e => (hq.od p (by simpa [Option.mem_toList] using e)).1 rfl)
        refine ⟨by rw [cell_of_blk hbl]; rfl, frozen_of_blk hbl, z1, kp.trans z2 (fun b hb => .inr ?_)⟩
        simp only [List.mem_cons, Option.mem_toList] at hb
        rcases hb with rfl | hb
        · exact hpB
        · exact hown1 b (by simpa using hb)
      clear hq hxr kp hown1
      go_upto_region 9 with (at_builtin; refine wpList_push _ 2 (.int .i64 9223372036854775807) (0,0) rfl (.tmp 34) (.tmp 35) 25 rfl (.int .i64 0) 8 Tryz.underlying25 Tryz.infoInt64 rfl rfl (.slice ao i ca) i (keysV (dvL (fun _ => none) i)) (by simp [Act.eval]) hrow (by simp [Act.eval]) (by unfold maxLen; omega) (by omega) ?_; intro g' c' w4 hr4 hk4 hf4; obtain ⟨y1, y2, y3⟩ := HF1.out g' c' w4 hr4 hk4 hf4; clear hr4 hk4 hf4)
      generalize w4.setCell ⟨p,0,none⟩ (.slice (some ⟨g',0,none⟩) (i + 1) c') = w6 at *
      clear HF1 y1 y2 c0 hrow hB
      obtain ⟨hq, kp⟩ := y3.out
      obtain ⟨xs, hxs, hxr⟩ := hq.edge
      have c1 := hq.p1
      have hB := kp.size
      have hrow := brow_down hxr
      have hown1 := brow_base hxr
      have HF1 : Hid (∀ g2 c2 w4, w4.ownsRow 0 3 1 (.slice (some ⟨g2,0,none⟩) (i + 1) c2) (i + 1) ((xs.map fun x => .int .i64 x) ++ [.int .i64 (-1)]) -> Keeps (Value.slice ao2 i ca2).ownBlock.toList w6 w4 -> ((Value.slice ao2 i ca2).ownBlock = some g2 ∨ w6.heap.size <= g2) ->
          w4.cell? ⟨p,1,none⟩ = some (.slice ao2 i ca2) ∧ w4.frozen? ⟨p,1,none⟩ = false ∧ Hid (BegQ (w4.setCell ⟨p,1,none⟩ (.slice (some ⟨g2,0,none⟩) (i + 1) c2)) w.heap.size p s gh mb kk n (i + 1) (i + 1) (.slice (some ⟨g',0,none⟩) (i + 1) c') (.slice (some ⟨g2,0,none⟩) (i + 1) c2) F2 cur ∧ Keeps [] w (w4.setCell ⟨p,1,none⟩ (.slice (some ⟨g2,0,none⟩) (i + 1) c2)))) := by
        refine Lib.hid fun g2 c2 w4 h4 k4 f4 => ?_
        obtain ⟨z1, z2⟩ := hq.edge1 hB hxs h4 k4 f4
        have hbl := k4.blk hq.blk (fun e => (hq.ob p (by simpa [Option.mem_toList] using e)).1 rfl)
        refine ⟨by rw [cell_of_blk hbl]; rfl, frozen_of_blk hbl, z1, kp.trans z2 (fun b hb => .inr ?_)⟩
        simp only [List.mem_cons, Option.mem_toList] at hb
        rcases hb with rfl | hb
        · exact hpB
        · exact hown1 b (by simpa using hb)
      clear hq hxr kp hown1 y3 hxs
      go_wp2_with (at_builtin; refine wpList_push _ 3 (.int .i64 (-1)) (0,0) rfl (.tmp 45) (.tmp 46) 28 rfl (.int .i64 0) 8 Tryz.underlying28 Tryz.infoIntG rfl rfl (.slice ao2 i ca2) i (xs.map fun x => .int .i64 x) (by simp [Act.eval]) hrow (by simp [Act.eval]) (by unfold maxLen; omega) (by omega) ?_; intro g2 c2 w7 hr4 hk4 hf4; obtain ⟨y1, y2, y3⟩ := HF1.out g2 c2 w7 hr4 hk4 hf4; clear hr4 hk4 hf4)
      go_roundg (gk - 1)
      case measure => have := HK.out; omega
      case rel => exact ⟨i + 1, _, _,by have := HK.out; omega,by omega,by go_num, y3.out⟩
    · obtain rfl : i = n := by omega
      obtain ⟨q1, q2⟩ := hq.done
      have HZ : Hid (BegDone w kk i (.returned (.tuple #[.pointer (some ⟨p,0,none⟩),.int .i64 0])) wr) := Lib.hid ⟨p, _,rfl,⟨s, gh, mb, 0, vd, vb, F2, cur,rfl, q1⟩, kp, q2⟩
      clear hq kp q1 q2
      go_wp2_with fail
      go_ret2
      exact HZ.out
theorem hmap_run_int1 {t : TypeId} {w : World} {b c : Nat} {f : Nat -> Nat -> Option Nat} (ht : Tryz.prog.underlying t = some (.map 45 3)) (h : HMap elmInt w b c f) (x : Nat) (hxg : okH x 1) (n : Nat) (hf : f x 1 = some n) :
    (Instr.lookup t (.map (some b)) (.agg #[.int .i64 (x : Int),.int .u32 1]) false).run Tryz.prog w = .ok (.int .i64 (n : Int)) w := by
  obtain ⟨D, h1, h2, h3⟩ := h
  obtain ⟨v, ps, hrun, hv⟩ := h1.lookup Tryz.keyedHandle ht (elmInt.hz w) (elmInt.hR elmInt.zero elmInt.zok) (hkey x 1 hxg)
  have hv' : v = elmInt.val n := by
    rw [(h3 x 1 hxg).2, hf] at hv
    exact elmInt.inv _ _ _ hv
  subst hv'
  exact hrun
def FromDone (w : World) (n : Nat) (ps : List (Nat × Nat)) (s : Nat) (e : Ending) (w' : World) : Prop :=
  ∃ (D : Nat -> Option Nat) (vd vb : Value), e = .returned (.tuple #[.agg #[vd, vb],.int .i64 0]) ∧ IsDst ps s D ∧ KRow w.heap.size w' vd (dvL D n) ∧ (∃ a l c, vb = .slice a l c) ∧ Keeps [] w w'
theorem from_calls (w : World) (a b : Int) (hc : okC a b) (n : Nat) (v : Value) (es : List E3) (hE : EIn w v es) (hg : ∀ x ∈ es, inG n x) (h1 : ∀ x ∈ es, x.2.2 = 1) (hl : es.length <= 4096) (hn : n <= 4096) (s : Nat) (hs : s < n) :
    Calls Tryz.prog 17 #[.agg #[.int .i64 a,.int .i64 b],.agg #[.int .i64 (n : Int), v],.int .i64 (s : Int)] w (FromDone w n (prs es) s) := by
  obtain ⟨ao, ca,rfl⟩ := hE.1
  obtain ⟨w1, hw1⟩ : ∃ w1, w1 = w.alloc (.cells #[.int .i64 a,.int .i64 b] 23 (0,0)) := ⟨_,rfl⟩
  obtain ⟨w2, hw2⟩ : ∃ w2, w2 = w1.alloc (.cells #[.int .i64 (n : Int),.slice ao es.length ca] 55 (0,0)) := ⟨_,rfl⟩
  obtain ⟨w0, hw0⟩ : ∃ w0, w0 = w2.alloc (.cells #[.slice none 0 0,.slice none 0 0] 60 (0,0)) := ⟨_,rfl⟩
  have s1 : w1.heap.size = w.heap.size + 1 := by rw [hw1]; simp
  have s2 : w2.heap.size = w.heap.size + 2 := by rw [hw2]; simp [s1]
  have s0 : w0.heap.size = w.heap.size + 3 := by rw [hw0]; simp [s2]
  have j1 : Keeps [] w w1 := by rw [hw1]; exact (Keeps.refl _ _).alloc _
  have j2 : Keeps [] w1 w2 := by rw [hw2]; exact (Keeps.refl _ _).alloc _
  have j3 : Keeps [] w2 w0 := by rw [hw0]; exact (Keeps.refl _ _).alloc _
  have k0 : Keeps [] w w0 := (j1.trans j2 (by simp)).trans j3 (by simp)
  have b0 : w0.heap[w.heap.size]? = some (.cells #[.int .i64 a,.int .i64 b] 23 (0,0)) := j3.blk (j2.blk (by rw [hw1]; exact blk_alloc_new _) (by simp)) (by simp)
  have b1 : w0.heap[w.heap.size + 1]? = some (.cells #[.int .i64 (n : Int),.slice ao es.length ca] 55 (0,0)) := by
    rw [<- s1]; exact j3.blk (by rw [hw2]; exact blk_alloc_new _) (by simp)
  have b2 : w0.heap[w.heap.size + 2]? = some (.cells #[.slice none 0 0,.slice none 0 0] 60 (0,0)) := by
    rw [<- s2, hw0]; exact blk_alloc_new _
  have hcell : ∀ u, Keeps [] w0 u -> u.cell? ⟨w.heap.size,0,none⟩ = some (.int .i64 a) ∧ u.cell? ⟨w.heap.size,1,none⟩ = some (.int .i64 b) ∧ u.cell? ⟨w.heap.size + 1,0,none⟩ = some (.int .i64 (n : Int)) ∧ u.cell? ⟨w.heap.size + 1,1,none⟩ = some (.slice ao es.length ca) := fun u k => by
    have h0 := k.blk b0 (by simp)
    have h1 := k.blk b1 (by simp)
    exact ⟨by rw [cell_of_blk h0]; rfl,by rw [cell_of_blk h0]; rfl,by rw [cell_of_blk h1]; rfl,by rw [cell_of_blk h1]; rfl⟩
  have hE0 := hE.keep k0 (by simp)
  have hck := check_ok w0 a b hc
  have hwe := fun u (k : Keeps [] w0 u) => weighed_calls u n (.slice ao es.length ca) es (hE0.keep k (by simp)) hg h1 (by omega) hn
  have hbe := fun u => begin_calls u a b hc n hn
  have hlv := fun u (k : Keeps [] w0 u) => leaving_calls u n (.slice ao es.length ca) es (hE0.keep k (by simp)) hg (by omega) hn
  have HC := Lib.hid hcell
  have HE := Lib.hid hE0
  have HG := Lib.hid hg
  have H1 := Lib.hid h1
  have K0 := Lib.hid k0
  have B2 := Lib.hid b2
  have S0 := Lib.hid s0
  obtain ⟨e0, e1, e2, e3⟩ := hcell w0 (Keeps.refl _ _)
  have q1 : ¬ (s : Int) < 0 := by omega
  have q2 : ¬ (n : Int) <= (s : Int) := by omega
  generalize a.toNat = kk at *
  clear hcell hE hE0 hg h1 k0 b0 b1 b2 s0 s1 s2 j1 j2 j3 hc
  go_enter Tryz.func17, Tryz.ntmps17
  go_upto_region 1 with fail
  rw [<- hw1, <- hw2, <- hw0]
  clear hw1 hw2 hw0
  go_upto_region 10 with (first
    | (go_at_call 33; refine hck.mono ?_; rintro e u1 ⟨rfl, k⟩; obtain ⟨x0, x1, x2, x3⟩ := HC.out u1 k; have C1 := Lib.hid k; clear k e0 e1 e2 e3)
    | (go_at_call 38; refine (hwe u1 C1.out).mono ?_; rintro e u2 ⟨rfl, k⟩; obtain ⟨y0, y1, y2, y3⟩ := HC.out u2 (C1.out.trans k (by simp)); have C2 := Lib.hid (C1.out.trans k (by simp)); clear k x0 x1 x2 x3)
    | (go_at_call 39; refine (hbe u2).mono ?_; rintro e u3 ⟨p, FP0,rfl, sr, k, hF⟩; obtain ⟨z0, z1, z2, z3⟩ := HC.out u3 (C2.out.trans k (by simp)); have C3 := Lib.hid (C2.out.trans k (by simp)); have SR := Lib.hid sr; have HF := Lib.hid (show ∀ b ∈ FP0, w0.heap.size <= b from fun b hb => Nat.le_trans C2.out.size (hF b hb)); clear k y0 y1 y2 y3 sr hF)
    | (go_at_call 40; refine (hlv u3 C3.out).mono ?_; rintro e u4 ⟨g, V,rfl, lv, k⟩; have C4 := Lib.hid (C3.out.trans k (by simp)); have K4 := Lib.hid k; have LV := Lib.hid lv; clear k lv z0 z1 z2 z3))
  clear hck hwe hbe hlv
  have hst := FrS.start (ps := prs es) (SR.out.keep K4.out (by simp)) hs hn (-1)
  have L3 := Lib.hid SR.out.lt
  go_wp2_with (go_at_call 41; refine hst.mono ?_; rintro e w5 ⟨rfl, E, D, K, fs⟩; have FS := Lib.hid fs; clear fs)
  clear hst
  have hall : ∀ m gk E D K todo wr, FrS u4 FP0 p kk n (prs es) s gk m E D K todo wr -> Keeps [] w0 wr ∧ LvAt u3.heap.size wr g n V (outI es es.length) ∧ EIn wr (.slice ao es.length ca) es := fun m gk E D K todo wr h => by
    have k := h.kept
    have k2 : Keeps [] w0 wr := C4.out.trans k (fun b hb => .inr (HF.out b hb))
    exact ⟨k2, LV.out.keep k (fun b hb => .inl (L3.out b hb)), HE.out.keep k2 (by simp)⟩
  have HA := Lib.hid hall
  clear hall
  go_loopg [] (n + 1) (fun j wr => ∃ (m : Nat) (E : Ent) (D K : Nat -> Option Nat), FrS u4 FP0 p kk n (prs es) s j m E D K [] wr)
  case atStart => exact ⟨0, E, D, K, FS.out⟩
  case round =>
    clear FS
    obtain ⟨m, E, D, K, fs⟩ := hrel
    obtain ⟨go,rfl⟩ : ∃ u, u = gk := ⟨gk,rfl⟩
    by_cases hi : ∃ y, isIn E 1 y
    · obtain ⟨st, c2, hext⟩ := fs.out hi (outI es es.length) (fun v i => out_prs HG.out v i)
      clear fs hi
      go_upto_region 12 with (go_at_call 31; refine hext.out.mono ?_; rintro e w6 ⟨x, u, m', E', hx, hu, hm', hK,rfl, hgk, fs6⟩; have FS6 := Lib.hid fs6; have HK := Lib.hid hK; clear fs6 hK)
      clear hext c2
      obtain ⟨wA, hwA⟩ : ∃ wA, wA = w6.alloc (.cells #[.int .i64 (x : Int),.int .u32 1] 45 (0,0)) := ⟨_,rfl⟩
      have kA : Keeps [] w6 wA := by rw [hwA]; exact (Keeps.refl _ _).alloc _
      have hA : wA.heap[w6.heap.size]? = some (.cells #[.int .i64 (x : Int),.int .u32 1] 45 (0,0)) := by rw [hwA]; exact blk_alloc_new _
      have d0 : wA.cell? ⟨w6.heap.size,0,none⟩ = some (.int .i64 (x : Int)) := by rw [cell_of_blk hA]; rfl
      have d1 : wA.cell? ⟨w6.heap.size,1,none⟩ = some (.int .u32 1) := by rw [cell_of_blk hA]; rfl
      rw [<- hwA]
      have fA := FS6.out.keep kA
      obtain ⟨mb, c, d4, hmap⟩ := fA.name
      have hlk := hmap_run_int1 Tryz.underlying113 (hmap.keep ((Keeps.refl [] wA).drew) (by simp)) x ⟨by omega,by omega⟩ u (by unfold vtx; rw [if_pos rfl]; exact HK.out)
      obtain ⟨_, lvA, _⟩ := HA.out _ _ _ _ _ _ _ fA
      have d5 := lvA.at hu
      obtain ⟨aw, cw, hV⟩ := (lvA.row u hu).form
      rw [hV] at d5
      have hlen : (outI es es.length u).length <= 4096 := Nat.le_trans (outI_len es es.length u) hl
      have HV := Lib.hid hV
      have HO : Hid (∀ i ∈ outI es es.length u, ∃ v : Nat, v < n ∧ (prs es)[i]? = some (u, v) ∧ ∃ c, es[i]? = some ((u : Int),(v : Int), c) ∧ c = 1) := Lib.hid fun i hi => by
        obtain ⟨h1, h2⟩ := mem_outI.1 hi
        obtain ⟨x, hx⟩ : ∃ x, es[i]? = some x := ⟨_, List.getElem?_eq_getElem h1⟩
        have e2 : es.getD i (0,0,0) = x := by simp [List.getD, hx]
        rw [e2] at h2
        have hm := List.mem_of_getElem? hx
        obtain ⟨p1, p2, p3, p4⟩ := HG.out _ hm
        have p5 := H1.out _ hm
        obtain ⟨x1, x2, x3⟩ := x
        simp only at h2 p1 p2 p3 p4 p5
        subst h2
        obtain ⟨v,rfl⟩ : ∃ v : Nat, x2 = (v : Int) := ⟨x2.toNat,by omega⟩
        exact ⟨v,by omega, prs_at hx, x3, hx, p5⟩
      have FA := Lib.hid (fA.keep ((Keeps.refl [] wA).drew))
      obtain ⟨Lu, hLu⟩ : ∃ Lu, Lu = outI es es.length u := ⟨_,rfl⟩
      rw [<- hLu] at d5 HV hlen HO FA
      have HLU := Lib.hid hLu
      have hu3 : (u : Int) < (n : Int) := by omega
      clear kA hA fA hmap lvA hV hwA FS6 HK hLu
      go_upto_region 14 with fail
      go_region
      all_goals
        generalize wA.drew = wB at *
        clear hlk d0 d1 d4 d5
        go_wp2_with fail
        go_loopg [78] (Lu.length + 1) (fun j t wr => ∃ (i : Nat) (E : Ent) (D K : Nat -> Option Nat), j + i = Lu.length + 1 ∧ i <= Lu.length ∧ t = .int .i64 (i : Int) ∧ FrS u4 FP0 p kk n (prs es) s (go - 1) m' E D K (Lu.drop i) wr)
        case atStart => exact ⟨0, _, _, _,by omega,by omega,rfl,by simpa using FA.out⟩
        case round =>
          clear FA
          obtain ⟨i, E2, D2, K2, hk, hin,rfl, fs⟩ := hrel
          have HKK := Lib.hid hk
          clear hk
          by_cases hi : i < Lu.length
          · have hi3 : (i : Int) < (Lu.length : Int) := by omega
            obtain ⟨ei, hei⟩ : ∃ ei, Lu[i]? = some ei := ⟨_, List.getElem?_eq_getElem hi⟩
            obtain ⟨v, hv, hps, c, hes,rfl⟩ := HO.out ei (List.mem_of_getElem? hei)
            obtain ⟨k9, lv9, ein9⟩ := HA.out _ _ _ _ _ _ _ fs
            obtain ⟨_, _, _, g1⟩ := HC.out wr k9
            obtain ⟨_, _, _, g2⟩ := HC.out wr.drew k9.drew
            have hrow := lv9.row u hu
            rw [HV.out, <- HLU.out] at hrow
            obtain ⟨gw,rfl, _, g3⟩ := hrow.at hei
            obtain ⟨ge, off, ca', hvv, g4, g5, g6⟩ := ein9.2 ei _ hes
            have heil := (List.getElem?_eq_some_iff.1 hes).1
            have heil3 : (ei : Int) < (es.length : Int) := by omega
            rw [List.drop_eq_getElem_cons hi] at fs
            have hgl : Lu[i] = ei := (List.getElem?_eq_some_iff.1 hei).2
            rw [hgl] at fs
            have fd := fs.keep ((Keeps.refl [] wr).drew)
            obtain ⟨hmn, hreach⟩ := fd.reach hps hv hn (ei : Int)
            have hwrap : IntKind.i64.wrap ((m' : Int) + 1) = ((m' + 1 : Nat) : Int) := by rw [IntKind.wrap_i64]; omega
            have g7 : wr.drew.cell? ⟨ge, off + ei * 3 + 1, none⟩ = some (.int .i64 (v : Int)) := g5
            have g8 : wr.drew.cell? ⟨ge, off + ei * 3 + 2, none⟩ = some (.int .i64 1) := g6
            cases hvv
            simp only at g5 g6
            clear fs fd k9 lv9 ein9 hrow hei hes hps g4
            go_upto_region 17 with fail
            go_region_law (first
              | (go_simp; go_at_call 41; refine hreach.out.mono ?_; rintro e w9 ⟨rfl, E3, D3, K3, fs9⟩; have FS9 := Lib.hid fs9; clear fs9))
            all_goals
              go_wp2_with fail
              go_roundg (gk - 1)
              case measure => have := HKK.out; omega
              case rel => exact ⟨i + 1, E3, D3, K3,by have := HKK.out; omega,by omega,by go_num, FS9.out⟩
          · obtain rfl : i = Lu.length := by omega
            rw [List.drop_length] at fs
            have FZ := Lib.hid fs
            clear fs
            go_wp2_with fail
            go_roundg (go - 1)
            case measure => omega
            case rel => exact ⟨m', E2, D2, K2, FZ.out⟩
    · have hno : ∀ y, ¬ isIn E 1 y := fun y hy => hi ⟨y, hy⟩
      obtain ⟨hd, st, c2, hext⟩ := fs.nil hno
      have HD := Lib.hid hd
      clear fs hi hno hd
      go_upto_region 12 with (go_at_call 31; refine hext.out.mono ?_; rintro e w6 ⟨rfl, fs6⟩; have FS6 := Lib.hid fs6; clear fs6)
      clear hext c2
      obtain ⟨wA, hwA⟩ : ∃ wA, wA = w6.alloc (.cells #[.int .i64 0,.int .u32 0] 45 (0,0)) := ⟨_,rfl⟩
      have kA : Keeps [] w6 wA := by rw [hwA]; exact (Keeps.refl _ _).alloc _
      rw [<- hwA]
      have fA := FS6.out.keep kA
      obtain ⟨vd, vb, t0, t1, hrow,⟨va, vl, vc,rfl⟩,⟨va2, vl2, vc2,rfl⟩⟩ := fA.tree w0.heap.size HF.out C4.out.size
      obtain ⟨kf, _, _⟩ := HA.out _ _ _ _ _ _ _ fA
      have b2 := kf.blk B2.out (by simp)
      have t2 : wA.cell? ⟨w.heap.size + 2,0,none⟩ = some (.slice none 0 0) := by rw [cell_of_blk b2]; rfl
      have t3 : wA.cell? ⟨w.heap.size + 2,1,none⟩ = some (.slice none 0 0) := by rw [cell_of_blk b2]; rfl
      have t4 : wA.frozen? ⟨w.heap.size + 2,0,none⟩ = false := frozen_of_blk b2
      have t5 : wA.frozen? ⟨w.heap.size + 2,1,none⟩ = false := frozen_of_blk b2
      have HB := Lib.hid (blk_setCell (i := 1) (.slice va2 vl2 vc2) (blk_setCell (i := 0) (.slice va vl vc) b2))
      have HZ : Hid (FromDone w n (prs es) s (.returned (.tuple #[.agg #[.slice va vl vc,.slice va2 vl2 vc2],.int .i64 0])) ((wA.setCell ⟨w.heap.size + 2,0,none⟩ (.slice va vl vc)).setCell ⟨w.heap.size + 2,1,none⟩ (.slice va2 vl2 vc2))) := by
        have kz : Keeps [w.heap.size + 2] wA ((wA.setCell ⟨w.heap.size + 2,0,none⟩ (.slice va vl vc)).setCell ⟨w.heap.size + 2,1,none⟩ (.slice va2 vl2 vc2)) := ((Keeps.refl _ _).setCell (p := ⟨w.heap.size + 2,0,none⟩) (.inl (by simp)) _).setCell (p := ⟨w.heap.size + 2,1,none⟩) (.inl (by simp)) _
        refine Lib.hid ⟨D, _, _,rfl, HD.out,(hrow.keep kz (fun b e f => ?_)).lo K0.out.size,⟨_, _, _,rfl⟩,(K0.out.trans kf (by simp)).trans kz (fun b hb => .inr ?_)⟩
        · have := (hrow.own b e).1
          have := S0.out
          simp at f; omega
        · simp at hb; omega
      clear kA fA hrow kf b2 hwA FS6 HD
      go_wp2_with fail
      refine bodyPost_ret (v := .tuple #[.agg #[.slice va vl vc,.slice va2 vl2 vc2],.int .i64 0]) ?_ rfl HZ.out
      refine (results_cell2 (p := 6) (u := 7) rfl _ _ (w.heap.size + 2) 60 #[.slice va vl vc,.slice va2 vl2 vc2] (0,0) _ (by simp) ?_ Tryz.underlying60 rfl (by kernel_rfl)).trans ?_
      · have := HB.out
        simpa using this
      · simp
theorem KRow.toIn {B : Nat} {w : World} {v : Value} {ns : List Int} (h : KRow B w v ns) (hw : ∀ n ∈ ns,(Lit.int .i64 n).wf = true) : KIn w v ns := by
  obtain ⟨ao, ca,rfl⟩ := h.form
  refine ⟨⟨ao, ca,rfl⟩,fun i x hx => ?_⟩
  obtain ⟨g,rfl, _, hc⟩ := h.at hx
  exact ⟨hw x (List.mem_of_getElem? hx), g, 0, ca,rfl,by rw [Nat.zero_add]; exact hc⟩
section
variable (w : World)
theorem rep_sort (db : Nat) (a b : Int) (st : Value) (hb : w.heap[db]? = some (deskO a b st)) (hc : okC a b) (g off cap : Nat) (l : List ByteArray) (ns : List Int) (h : SAt w g off l) (hn : NumW l ns) (hl : ns.length <= 3) :
    Calls Tryz.prog 104 #[.pointer (some ⟨db,0,none⟩),.slice (some ⟨g,off,none⟩) l.length cap] w fun e w' => ∃ lst : List Nat, e = .returned (.string ⟨(sayW [115,111,114,116] lst).toArray⟩) ∧ Sorted ns lst ∧ Keeps [] w w' := by
  have e0 : w.cell? ⟨db,0,none⟩ = some (.int .i64 a) := by rw [cell_of_blk hb]; rfl
  have e1 : w.cell? ⟨db,1,none⟩ = some (.int .i64 b) := by rw [cell_of_blk hb]; rfl
  have hS : ∀ u, Keeps [] w u -> u.cell? ⟨db,0,none⟩ = some (.int .i64 a) ∧ u.cell? ⟨db,1,none⟩ = some (.int .i64 b) := fun u k => ⟨k.cell' e0, k.cell' e1⟩
  have hll := hn.1
  have hwf : ∀ n ∈ ns,(Lit.int .i64 n).wf = true := fun n hm => by
    obtain ⟨i, hi⟩ := List.getElem?_of_mem hm
    obtain ⟨s, hs⟩ : ∃ s, l[i]? = some s := ⟨_, List.getElem?_eq_getElem (by have := (List.getElem?_eq_some_iff.1 hi).1; omega)⟩
    exact (hn.2 i s n hs hi).1
  have hl65 : l.length <= 65536 := by omega
  have hnum := fun u (hu : SAt u g off l) => numbers_calls u g off cap l ns hu hn hl65
  have hsort := fun u v (hv : KIn u v ns) => sort_calls u ns a b hc v hv (by omega)
  have H := Lib.hid h
  have HW := Lib.hid hwf
  clear h hn hwf hb hll
  go_enter Tryz.func104, Tryz.ntmps104
  go_upto_region 1 with fail
  go_region_held3 (fun u => u.cell? ⟨db,0,none⟩ = some (.int .i64 a) ∧ u.cell? ⟨db,1,none⟩ = some (.int .i64 b)) (first | exact ⟨e0, e1⟩ | exact q1 | exact q2)
    (first
      | (go_at_call 129; refine (hnum _ (by exact H.out)).mono ?_; rintro e w1 ⟨ao1, ca1,rfl, hr, hk1⟩; have q1 := hS w1 hk1.ofDrew)
      | (go_at_call 9; refine (hsort w1 _ (hr.toIn HW.out)).mono ?_; rintro e w2 ⟨lst, v2,rfl, hso, hrow, hk2⟩; have q2 := hS w2 (hk1.ofDrew.trans hk2 (by simp))))
  all_goals
    have hsm : ∀ i ∈ lst, i < 3 := fun i hi => by have := (hso.2 i).1 hi; omega
    have hlen := hso.length
    have HF := Lib.hid (show Sorted ns lst ∧ Keeps [] w w2 from ⟨hso, hk1.ofDrew.trans hk2 (by simp)⟩)
    have hsaid := fun u (hu : Keeps [] w2 u) => said_calls u ⟨#[115,111,114,116]⟩ _ lst v2 (hrow.keep hu (by simp)) hsm (by omega) (by decide)
    clear hso hk1 hk2 q1 q2 e0 e1 hS hr hnum hsort hsm
    go_wp2_with (first
      | (go_at_call 128; refine (rep_check _).mono ?_; rintro e w3 ⟨rfl,rfl⟩)
      | (go_at_call 134; refine (hsaid _ (Keeps.refl _ _)).mono ?_; rintro e w3 ⟨rfl,rfl⟩))
    go_ret
    exact ⟨lst,rfl, HF.out⟩
end
theorem sorted_21 {l : List Nat} (h : Sorted [2,1] l) : l = [1,0] :=
  h.one ⟨by simp [kLess],fun x => by simp; omega⟩
theorem numW_21 : NumW [⟨#[50]⟩,⟨#[49]⟩] [2,1] := ⟨rfl,fun i s n e1 e2 => by
  match i, e1, e2 with
  | 0, e1, e2 => cases e1; cases e2; exact ⟨by decide,fun u => number_dig u 2 (by omega)⟩
  | 1, e1, e2 => cases e1; cases e2; exact ⟨by decide,fun u => number_dig u 1 (by omega)⟩⟩
theorem gives_sort (a : Int) (h : okC a 0) : DoGives a ⟨#[115,111,114,116,32,50,32,49]⟩ outA a :=
  do_sort a a outA fun db g u hb hs => (rep_sort u db a 0 (.pointer none) hb h g 1 2 [⟨#[50]⟩,⟨#[49]⟩] [2,1] hs numW_21 (by decide)).mono fun e w' ⟨lst, he, hso, k⟩ => by
    obtain rfl := sorted_21 hso
    exact ⟨he, k.blk hb (by simp), k.mono (by simp)⟩
theorem gives_kind : DoGives 1 ⟨#[107,105,110,100,32,115,107,101,119]⟩ outK 7 :=
  do_kind 1 7 outK fun db g u hb hs => rep_kind u db 1 0 (.pointer none) hb g 1 1 hs
theorem alive_calls (w : World) : Calls Tryz.prog 7 #[] w fun e w' => e = .returned (.bool true) ∧ Keeps [] w w' :=
  alive_of w (gives_sort 1 (by decide)) (gives_sort 7 (by decide)) gives_kind
end Go.Proofs.YtkdbjelhkfdfjaaGreatDoor
namespace Go.Proofs.YtkdbjelhkfdfjaaGreatDoor
open Go.RowKit Go.WideShapes Go.ChangeShapes Go.Deep
section
variable {H : Type} {enc : TypeId × Value -> H} {w : World} {base : Nat} {spare : Nat -> Bool} {held : Bool}
theorem config_cells {n : Nat} {cs : List Value} {y : DataW H × List MemPlace} (h : DataW.trod enc Tryz.prog w base spare held n 23 cs = some y) :
    ∃ a b : Int, cs = [.int .i64 a,.int .i64 b] ∧ (Lit.int .i64 a).wf = true ∧ (Lit.int .i64 b).wf = true := by
  obtain ⟨y0, y1, m, _, hl, h0, h1⟩ := trod_struct2 Tryz.underlying23 h
  have hc : Tryz.prog.cellsOf 23 = 2 := by kernel_rfl
  have hc1 : Tryz.prog.cellsOf 3 = 1 := by kernel_rfl
  rw [hc] at hl
  match cs, hl with
  | [c0, c1], _ =>
    simp only [hc1, List.drop_zero, List.take_succ_cons, List.take_zero, List.drop_succ_cons] at h0 h1
    obtain ⟨x0, e0, _, w0⟩ := Go.DataW.trod_int Tryz.underlying3 h0
    obtain ⟨x1, e1, _, w1⟩ := Go.DataW.trod_int Tryz.underlying3 h1
    simp only [List.cons.injEq, and_true] at e0 e1
    subst e0 e1
    exact ⟨x0, x1,rfl, w0, w1⟩
theorem open_config {r : Reach} {b0 : Nat} {v : Value} {d : DataW H} {p : List MemPlace} (hv : Value.okWide Tryz.prog w r b0 23 v) (h : DataW.Trod enc Tryz.prog w base spare held 23 v d p) :
    ∃ a b : Int, v = .agg #[.int .i64 a,.int .i64 b] ∧ (Lit.int .i64 a).wf = true ∧ (Lit.int .i64 b).wf = true := by
  simp only [Value.okWide, Tryz.underlying23] at hv
  obtain ⟨cs,rfl, hsz, _⟩ := hv
  obtain ⟨l⟩ := cs
  obtain ⟨fuel, hf⟩ := h
  have hf' : DataW.trod enc Tryz.prog w base spare held fuel 23 l = some (d, p) := by simpa [Value.cells] using hf
  obtain ⟨a, b,rfl, wa, wb⟩ := config_cells hf'
  exact ⟨a, b,rfl, wa, wb⟩
end
end Go.Proofs.YtkdbjelhkfdfjaaGreatDoor


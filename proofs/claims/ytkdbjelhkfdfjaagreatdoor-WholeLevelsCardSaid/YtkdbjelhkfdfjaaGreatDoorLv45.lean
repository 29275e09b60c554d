/-
  Contracts that the law rests on. Conditions: none.
-/
import Derived.Test.YtkdbjelhkfdfjaaGreatDoorLv43
set_option linter.unusedVariables false
set_option maxRecDepth 100000
set_option maxHeartbeats 32000000
namespace Go.Proofs.YtkdbjelhkfdfjaaGreatDoor
open Go.RowKit
structure BegQ (w : World) (B p s gh mb k n i j : Nat) (vd vb : Value) (F : List Nat) (cur : Array Value) : Prop where
  blk : w.heap[p]? = some (.cells #[vd, vb,.pointer (some ⟨s,0,none⟩),.slice (some ⟨gh,0,none⟩) n n,.map (some mb)] 115 (0,0))
  dist : KRow B w vd (dvL (fun _ => none) i)
  edge : AnyI B w vb j
  st : StoreAt w F s k n 1 (fun _ => none) 0 1 (fun _ => 0)
  hand : w.heap[gh]? = some (.cells cur 45 (0,0))
  hsz : cur.size = n * 2
  map : HMap elmInt w mb 0 (vtx fun _ => none)
  ne : p ≠ gh ∧ p ≠ mb ∧ gh ≠ mb ∧ p ∉ F ∧ gh ∉ F ∧ mb ∉ F
  od : ∀ b, vd.ownBlock = some b -> b ≠ p ∧ b ≠ gh ∧ b ≠ mb ∧ b ∉ F
  ob : ∀ b, vb.ownBlock = some b -> b ≠ p ∧ b ≠ gh ∧ b ≠ mb ∧ b ∉ F
  db : ∀ b, vd.ownBlock = some b -> vb.ownBlock ≠ some b
  base : B <= p ∧ B <= gh ∧ B <= mb ∧ ∀ b ∈ F, B <= b
theorem BegQ.done {w : World} {B p s gh mb k n : Nat} {vd vb : Value} {F : List Nat} {cur : Array Value} (h : BegQ w B p s gh mb k n n n vd vb F cur) :
    SrQ w p s gh mb 0 k n vd vb F cur (fun _ => none) 0 (fun _ => 0) (fun _ => none) (fun _ => none) ∧ ∀ b ∈ srF p gh mb F vd vb, B <= b := by
  refine ⟨⟨h.blk, h.dist.lo (Nat.zero_le _),?_, h.st, h.hand, h.hsz, h.map, Nat.le_refl _, h.ne, h.od, h.ob, h.db,fun _ _ => rfl,fun x e => absurd rfl e⟩,fun b hb => ?_⟩
  · obtain ⟨xs, h1, h2⟩ := h.edge
    exact ⟨xs, h1, brow_down h2⟩
  · rw [srF_mem] at hb
    rcases hb with rfl | rfl | rfl | e | e | e
    · exact h.base.1
    · exact h.base.2.1
    · exact h.base.2.2.1
    · exact h.base.2.2.2 b e
    · exact (h.dist.own b e).1
    · obtain ⟨xs, h1, h2⟩ := h.edge
      exact brow_base h2 b e
section
variable {w w5 : World} {B p s gh mb k n i j : Nat} {vd vb : Value} {F S : List Nat} {cur : Array Value}
theorem BegQ.lt (h : BegQ w B p s gh mb k n i j vd vb F cur) : ∀ b ∈ srF p gh mb F vd vb, b < w.heap.size := fun b hb => by
  rw [srF_mem] at hb
  rcases hb with rfl | rfl | rfl | e | e | e
  · exact lt_of_block h.blk
  · exact lt_of_block h.hand
  · exact h.map.lt
  · exact h.st.lt b e
  · exact (h.dist.own b e).2
  · obtain ⟨xs, _, hr⟩ := h.edge
    rcases hr.2 with ⟨a, _⟩ | ⟨g, cap, cu, a, _, hg, _⟩
    · rw [a] at e; cases e
    · rw [a] at e; cases e; exact lt_of_block hg
theorem BegQ.dist1 {ao : Option Addr} {ca g' c' : Nat} (h : BegQ w B p s gh mb k n i j (.slice ao i ca) vb F cur) (hB : B <= w.heap.size)
    (hr : w5.ownsRow 0 2 1 (.slice (some ⟨g',0,none⟩) (i + 1) c') (i + 1) (keysV (dvL (fun _ => none) i) ++ [.int .i64 9223372036854775807])) (hk : Keeps (Value.slice ao i ca).ownBlock.toList w w5) (hf : (Value.slice ao i ca).ownBlock = some g' ∨ w.heap.size <= g') :
    BegQ (w5.setCell ⟨p,0,none⟩ (.slice (some ⟨g',0,none⟩) (i + 1) c')) B p s gh mb k n (i + 1) j (.slice (some ⟨g',0,none⟩) (i + 1) c') vb F cur ∧
      Keeps (p :: (Value.slice ao i ca).ownBlock.toList) w (w5.setCell ⟨p,0,none⟩ (.slice (some ⟨g',0,none⟩) (i + 1) c')) := by
  have hno : ∀ b,(b = p ∨ b = gh ∨ b = mb ∨ b ∈ F ∨ vb.ownBlock = some b) -> b ∉ (Value.slice ao i ca).ownBlock.toList := fun b hb hm => by
    have e : (Value.slice ao i ca).ownBlock = some b := by simpa [Option.mem_toList] using hm
    obtain ⟨a1, a2, a3, a4⟩ := h.od b e
    rcases hb with c | c | c | c | c
    · exact a1 c
    · exact a2 c
    · exact a3 c
    · exact a4 c
    · exact h.db b e c
  have hlt := h.lt
  have hg' : g' ≠ p ∧ g' ≠ gh ∧ g' ≠ mb ∧ g' ∉ F ∧ vb.ownBlock ≠ some g' ∧ B <= g' := by
    rcases hf with e | e
    · obtain ⟨a1, a2, a3, a4⟩ := h.od g' e
      exact ⟨a1, a2, a3, a4, h.db g' e,(h.dist.own g' e).1⟩
    · refine ⟨fun c => ?_,fun c => ?_,fun c => ?_,fun c => ?_,fun c => ?_,by omega⟩
      · have := hlt p (srF_mem.2 (.inl rfl)); omega
      · have := hlt gh (srF_mem.2 (.inr (.inl rfl))); omega
      · have := hlt mb (srF_mem.2 (.inr (.inr (.inl rfl)))); omega
      · have := hlt g' (srF_mem.2 (.inr (.inr (.inr (.inl c))))); omega
      · have := hlt g' (srF_mem.2 (.inr (.inr (.inr (.inr (.inr c)))))); omega
  obtain ⟨b1, b2, b3, b4, b5, b6⟩ := hg'
  have ks : Keeps [p] w5 (w5.setCell ⟨p,0,none⟩ (.slice (some ⟨g',0,none⟩) (i + 1) c')) := (Keeps.refl _ _).setCell (p := ⟨p,0,none⟩) (.inl (by simp)) _
  obtain ⟨n1, n2, n3, n4, n5, n6⟩ := h.ne
  have hbl := hk.blk h.blk (hno p (.inl rfl))
  refine ⟨⟨(blk_setCell (i := 0) _ hbl).trans rfl,?_,(h.edge.keep hk (fun b e => hno b (.inr (.inr (.inr (.inr e)))))).keep ks (fun b e => by simpa using (h.ob b e).1),(h.st.keep hk (fun b hb => hno b (.inr (.inr (.inr (.inl hb)))))).keep ks (fun b hb e => by simp at e; subst e; exact n4 hb),
    ks.blk (hk.blk h.hand (hno gh (.inr (.inl rfl)))) (by simpa using n1.symm), h.hsz,(h.map.keep hk (hno mb (.inr (.inr (.inl rfl))))).keep ks (by simpa using n2.symm), h.ne,fun b e => ?_, h.ob,fun b e => ?_, h.base⟩,?_⟩
  · have e : dvL (fun _ => none) (i + 1) = dvL (fun _ => none) i ++ [9223372036854775807] := by simp [dvL, List.range_succ, dv]
    have := KRow.pushed (B := B) (l := dvL (fun _ => none) i) (g := g') (ca := c') (x := 9223372036854775807) (w := w5) (by rw [dvL_len]; exact hr) b6
    rw [dvL_len] at this
    rw [e]
    exact this.keep ks (fun b e => by cases e; simpa using b1)
  · cases e; exact ⟨b1, b2, b3, b4⟩
  · cases e; exact b5
  · exact (hk.mono (T := p :: (Value.slice ao i ca).ownBlock.toList) (fun x hx => .inl (by simp at hx ⊢; exact .inr hx))).trans ks (fun x hx => .inl (by simp at hx; simp [hx]))
theorem BegQ.edge1 {ao : Option Addr} {ca g' c' : Nat} {xs : List Int} {y : Int} (h : BegQ w B p s gh mb k n i j vd (.slice ao j ca) F cur) (hB : B <= w.heap.size) (hx : xs.length = j)
    (hr : w5.ownsRow 0 3 1 (.slice (some ⟨g',0,none⟩) (j + 1) c') (j + 1) ((xs.map fun x => .int .i64 x) ++ [.int .i64 y])) (hk : Keeps (Value.slice ao j ca).ownBlock.toList w w5) (hf : (Value.slice ao j ca).ownBlock = some g' ∨ w.heap.size <= g') :
    BegQ (w5.setCell ⟨p,1,none⟩ (.slice (some ⟨g',0,none⟩) (j + 1) c')) B p s gh mb k n i (j + 1) vd (.slice (some ⟨g',0,none⟩) (j + 1) c') F cur ∧
      Keeps (p :: (Value.slice ao j ca).ownBlock.toList) w (w5.setCell ⟨p,1,none⟩ (.slice (some ⟨g',0,none⟩) (j + 1) c')) := by
  have hno : ∀ b,(b = p ∨ b = gh ∨ b = mb ∨ b ∈ F ∨ vd.ownBlock = some b) -> b ∉ (Value.slice ao j ca).ownBlock.toList := fun b hb hm => by
    have e : (Value.slice ao j ca).ownBlock = some b := by simpa [Option.mem_toList] using hm
    obtain ⟨a1, a2, a3, a4⟩ := h.ob b e
    rcases hb with c | c | c | c | c
    · exact a1 c
    · exact a2 c
    · exact a3 c
    · exact a4 c
    · exact h.db b c e
  have hlt := h.lt
  have hg' : g' ≠ p ∧ g' ≠ gh ∧ g' ≠ mb ∧ g' ∉ F ∧ vd.ownBlock ≠ some g' ∧ B <= g' := by
    rcases hf with e | e
    · obtain ⟨a1, a2, a3, a4⟩ := h.ob g' e
      refine ⟨a1, a2, a3, a4,fun c => h.db g' c e,?_⟩
      obtain ⟨xs', _, h2⟩ := h.edge
      exact brow_base h2 g' e
    · refine ⟨fun c => ?_,fun c => ?_,fun c => ?_,fun c => ?_,fun c => ?_,by omega⟩
      · have := hlt p (srF_mem.2 (.inl rfl)); omega
      · have := hlt gh (srF_mem.2 (.inr (.inl rfl))); omega
      · have := hlt mb (srF_mem.2 (.inr (.inr (.inl rfl)))); omega
      · have := hlt g' (srF_mem.2 (.inr (.inr (.inr (.inl c))))); omega
      · have := hlt g' (srF_mem.2 (.inr (.inr (.inr (.inr (.inl c)))))); omega
  obtain ⟨b1, b2, b3, b4, b5, b6⟩ := hg'
  have ks : Keeps [p] w5 (w5.setCell ⟨p,1,none⟩ (.slice (some ⟨g',0,none⟩) (j + 1) c')) := (Keeps.refl _ _).setCell (p := ⟨p,1,none⟩) (.inl (by simp)) _
  obtain ⟨n1, n2, n3, n4, n5, n6⟩ := h.ne
  have hbl := hk.blk h.blk (hno p (.inl rfl))
  refine ⟨⟨(blk_setCell (i := 1) _ hbl).trans rfl,(h.dist.keep hk (fun b e => hno b (.inr (.inr (.inr (.inr e)))))).keep ks (fun b e => by simpa using (h.od b e).1),?_,(h.st.keep hk (fun b hb => hno b (.inr (.inr (.inr (.inl hb)))))).keep ks (fun b hb e => by simp at e; subst e; exact n4 hb),
    ks.blk (hk.blk h.hand (hno gh (.inr (.inl rfl)))) (by simpa using n1.symm), h.hsz,(h.map.keep hk (hno mb (.inr (.inr (.inl rfl))))).keep ks (by simpa using n2.symm), h.ne, h.od,fun b e => ?_,fun b e e2 => ?_, h.base⟩,?_⟩
  · refine ⟨xs ++ [y],by simp [hx],?_⟩
    have e : (xs ++ [y]).map (fun x => Value.int .i64 x) = (xs.map fun x => .int .i64 x) ++ [.int .i64 y] := by simp
    rw [e]
    have h6 : (w5.setCell ⟨p,1,none⟩ (.slice (some ⟨g',0,none⟩) (j + 1) c')).ownsRow 0 3 1 (.slice (some ⟨g',0,none⟩) (j + 1) c') (j + 1) ((xs.map fun x => .int .i64 x) ++ [.int .i64 y]) := by
      refine ⟨hr.1,?_⟩
      rcases hr.2 with c | ⟨g, cap, cu, e', hb, hg, r⟩
      · exact .inl c
      · exact .inr ⟨g, cap, cu, e', hb, ks.blk hg (by cases e'; simpa using b1), r⟩
    exact brow_up h6 (fun b e => by cases e; exact b6)
  · cases e; exact ⟨b1, b2, b3, b4⟩
  · cases e2; exact b5 e
  · exact (hk.mono (T := p :: (Value.slice ao j ca).ownBlock.toList) (fun x hx => .inl (by simp at hx ⊢; exact .inr hx))).trans ks (fun x hx => .inl (by simp at hx; simp [hx]))
end
def ones (es : List E3) : List E3 := es.map fun x => (x.1, x.2.1,1)
theorem ones_len (es : List E3) : (ones es).length = es.length := by simp [ones]
theorem ones_w {es : List E3} : ∀ x ∈ ones es, x.2.2 = 1 := by intro x hx; simp only [ones, List.mem_map] at hx; obtain ⟨y, _,rfl⟩ := hx; rfl
theorem ones_in {es : List E3} {n : Int} (h : ∀ x ∈ es, inG n x) : ∀ x ∈ ones es, inG n x := by intro x hx; simp only [ones, List.mem_map] at hx; obtain ⟨y, hy,rfl⟩ := hx; exact h y hy
def eV (es : List E3) : List Value := es.flatMap fun x => [.int .i64 x.1,.int .i64 x.2.1,.int .i64 x.2.2]
theorem flat3_at {α : Type} (f : α -> List Value) (hf : ∀ x,(f x).length = 3) : ∀ (l : List α) (i j : Nat) (x : α), l[i]? = some x -> j < 3 -> (l.flatMap f)[i * 3 + j]? = (f x)[j]? := by
  intro l
  induction l with
  | nil => intro i j x h; simp at h
  | cons a l ih =>
    intro i j x h hj
    rw [List.flatMap_cons]
    cases i with
    | zero =>
      simp at h; subst h
      rw [List.getElem?_append_left (by rw [hf]; omega)]
      simp
    | succ i =>
      simp at h
      rw [List.getElem?_append_right (by rw [hf]; omega), hf, show (i + 1) * 3 + j - 3 = i * 3 + j by omega]
      exact ih i j x h hj
theorem eV_len (es : List E3) : (eV es).length = es.length * 3 := by
  induction es with
  | nil => rfl
  | cons x l ih => simp only [eV, List.flatMap_cons, List.length_append, List.length_cons] at ih ⊢; simp [ih]; omega
theorem eV_snoc (es : List E3) (x : E3) : eV (es ++ [x]) = eV es ++ [.int .i64 x.1,.int .i64 x.2.1,.int .i64 x.2.2] := by simp [eV]
theorem EIn.own {w : World} {v : Value} {es : List E3} (h : w.ownsRow 0 58 3 v es.length (eV es)) : EIn w v es := by
  obtain ⟨a, ca, hv⟩ : ∃ a ca, v = .slice a es.length ca := by
    rcases h.2 with ⟨e, h0⟩ | ⟨g, cap, cur, e, _⟩
    · exact ⟨none, 0,by rw [e, h0]⟩
    · exact ⟨_, _, e⟩
  refine ⟨⟨a, ca, hv⟩,fun i x hx => ?_⟩
  have hl := (List.getElem?_eq_some_iff.1 hx).1
  rcases h.2 with ⟨e, h0⟩ | ⟨g, cap, cur, e, _⟩
  · omega
  · subst e
    have hc := fun j (hj : j < 3) => (World.ownsRow.cellAt h (i * 3 + j) (by omega)).trans (flat3_at (fun x : E3 => [Value.int .i64 x.1,.int .i64 x.2.1,.int .i64 x.2.2]) (fun _ => rfl) es i j x hx hj)
    refine ⟨g, 0, cap,rfl,?_,?_,?_⟩
    · have := hc 0 (by omega); simpa using this
    · have := hc 1 (by omega); simpa [Nat.add_assoc] using this
    · have := hc 2 (by omega); simpa [Nat.add_assoc] using this
structure HEdges (wB : World) (h n : Nat) (es : List E3) (vE : Value) (wr : World) : Prop where
  blk : wr.heap[h]? = some (.cells #[.int .i64 (n : Int), vE] 55 (0,0))
  row : wr.ownsRow 0 58 3 vE es.length (eV es)
  own : ∀ b, vE.ownBlock = some b -> wB.heap.size <= b ∧ b ≠ h
  hB : wB.heap.size <= h
  kp : Keeps [] wB wr
section
variable {wB wr w2 w4 : World} {h n : Nat} {es : List E3} {vE : Value} {S : List Nat}
theorem HEdges.keep (q : HEdges wB h n es vE wr) (k : Keeps S wr w2) (hS : ∀ b ∈ S, wr.heap.size <= b) : HEdges wB h n es vE w2 := by
  have hh := lt_of_block q.blk
  have k' : Keeps [] wr w2 := k.mono (fun b hb => .inr (hS b hb))
  refine ⟨k'.blk q.blk (by simp),⟨q.row.1,?_⟩, q.own, q.hB, q.kp.trans k' (by simp)⟩
  rcases q.row.2 with c | ⟨g, cap, cur, e, hb, hg, r⟩
  · exact .inl c
  · exact .inr ⟨g, cap, cur, e, hb, k'.blk hg (by simp), r⟩
theorem HEdges.form (q : HEdges wB h n es vE wr) : ∃ a ca, vE = .slice a es.length ca := by
  rcases q.row.2 with ⟨e, h0⟩ | ⟨g, cap, cur, e, _⟩
  · exact ⟨none, 0,by rw [e, h0]⟩
  · exact ⟨_, _, e⟩
theorem HEdges.c1 (q : HEdges wB h n es vE wr) : wr.cell? ⟨h,1,none⟩ = some vE := by rw [cell_of_blk q.blk]; rfl
theorem HEdges.c0 (q : HEdges wB h n es vE wr) : wr.cell? ⟨h,0,none⟩ = some (.int .i64 (n : Int)) := by rw [cell_of_blk q.blk]; rfl
theorem HEdges.step (q : HEdges wB h n es vE wr) (x : E3) {g' c' m : Nat} (hm : m = es.length) (hr : w4.ownsRow 0 58 3 (.slice (some ⟨g',0,none⟩) (m + 1) c') (m + 1) (eV es ++ [.int .i64 x.1,.int .i64 x.2.1,.int .i64 x.2.2]))
    (hk : Keeps vE.ownBlock.toList wr w4) (hf : vE.ownBlock = some g' ∨ wr.heap.size <= g') :
    w4.cell? ⟨h,1,none⟩ = some vE ∧ w4.frozen? ⟨h,1,none⟩ = false ∧ Hid (HEdges wB h n (es ++ [x]) (.slice (some ⟨g',0,none⟩) (m + 1) c') (w4.setCell ⟨h,1,none⟩ (.slice (some ⟨g',0,none⟩) (m + 1) c'))) := by
  subst hm
  have hno : h ∉ vE.ownBlock.toList := fun e => (q.own h (by simpa [Option.mem_toList] using e)).2 rfl
  have hbl := hk.blk q.blk hno
  have hh := lt_of_block q.blk
  have hg : wB.heap.size <= g' ∧ g' ≠ h := by
    rcases hf with e | e
    · exact q.own g' e
    · have := q.kp.size; exact ⟨by omega,by omega⟩
  have ks : Keeps [h] w4 (w4.setCell ⟨h,1,none⟩ (.slice (some ⟨g',0,none⟩) (es.length + 1) c')) := (Keeps.refl _ _).setCell (p := ⟨h,1,none⟩) (.inl (by simp)) _
  refine ⟨by rw [cell_of_blk hbl]; rfl, frozen_of_blk hbl,⟨(blk_setCell (i := 1) _ hbl).trans rfl,?_,fun b e => by cases e; exact hg, q.hB,?_⟩⟩
  · rw [eV_snoc, List.length_append]
    refine ⟨by rw [List.length_append, eV_len]; simp; omega,?_⟩
    rcases hr.2 with ⟨c, _⟩ | ⟨g, cap, cur, e, hb, hg2, r⟩
    · cases c
    · cases e; exact .inr ⟨g', c', cur,rfl, hb, ks.blk hg2 (by simpa using hg.2), r⟩
  · refine (q.kp.trans hk (fun b hb => .inr (q.own b (by simpa [Option.mem_toList] using hb)).1)).trans ks (fun b hb => .inr ?_)
    simp at hb; subst hb; exact q.hB
end
def LRow (w : World) (g : Nat) (l : List Int) : Prop := w.heap[g]? = some (.cells (l.map fun x => Value.int .i64 x).toArray 2 (0,0))
section
variable {w w' : World} {g : Nat} {l : List Int} {S : List Nat}
theorem LRow.keep (h : LRow w g l) (k : Keeps S w w') (hg : g ∉ S) : LRow w' g l := k.blk h hg
theorem LRow.at (h : LRow w g l) {i : Nat} {x : Int} (hi : l[i]? = some x) : w.cell? ⟨g,i,none⟩ = some (.int .i64 x) := by
  rw [cell_of_blk h]; simp [hi]
theorem LRow.frozen (h : LRow w g l) (i : Nat) : w.frozen? ⟨g,i,none⟩ = false := frozen_of_blk h
theorem LRow.set (h : LRow w g l) (i : Nat) (x : Int) : LRow (w.setCell ⟨g,i,none⟩ (.int .i64 x)) g (l.set i x) := by
  refine (blk_setCell (i := i) _ h).trans ?_
  congr 2
  apply Array.toList_inj.1
  simp [List.map_set]
end
theorem filled_none {l : List Int} {n : Nat} (hl : l.length = n) (h : ∀ j, j < n -> l[j]? = some 9223372036854775807) : l = dvL (fun _ => none) n := by
  apply List.ext_getElem?
  intro j
  by_cases c : j < n
  · rw [h j c, dvL_at _ c]; rfl
  · rw [List.getElem?_eq_none (by omega), List.getElem?_eq_none (by rw [dvL_len]; omega)]
theorem Tryz.infoInt : (Tryz.prog.info? 3).map (fun i => (i.zero, i.size, i.bytes)) = some (some (.int .i64 0), 1,8) := by kernel_rfl
theorem numF_nil : numF (fun _ => none) = fun _ _ => none := by funext x g; simp [numF]
def LeastDone (w : World) (keys : List Int) (e : Ending) (w' : World) : Prop :=
  ∃ (l : List Nat) (v : Value), e = .returned (.tuple #[v,.int .i64 0]) ∧ Sorted keys l ∧ NRow w.heap.size w' v l ∧ Keeps [] w w'
section
variable (w : World) (s k m : Nat) (keys : List Int)
def Least1 (i : Nat) (wr : World) : Prop :=
  ∃ (E : Ent) (G : Nat -> Nat) (F : List Nat) (c : Nat), FillS wr F s k keys.length 1 4294967295 (keys.take i) E G ∧ HMap elmInt wr m c (numF E) ∧ c <= i ∧ Keeps [] w wr ∧ (∀ b ∈ F, w.heap.size <= b) ∧ w.heap.size <= m ∧ m ∉ F
theorem Least1.next {i : Nat} {key : Int} {E : Ent} {G : Nat -> Nat} {F : List Nat} {c : Nat} {wr w1 : World} (hcap : keys.length <= 65536)
    (hi : keys[i]? = some key) (f : FillS wr F s k keys.length 1 4294967295 (keys.take i) E G) (hm : HMap elmInt wr m c (numF E)) (hc : c <= i) (kp : Keeps [] w wr) (hF : ∀ b ∈ F, w.heap.size <= b) (hwm : w.heap.size <= m) (hmF : m ∉ F) (e : Ending)
    (d : InsDone wr F s k keys.length 1 E (keys.take i).length 4294967295 G 1 key e w1) :
    ∃ x : Nat, e = .returned (.tuple #[.agg #[.int .i64 (x : Int),.int .u32 1],.int .i64 0]) ∧ okH x 1 ∧ ∀ o, HMap elmInt (w1.alloc o) m c (numF E) ∧
      Hid (∀ w2, HMap elmInt w2 m (if (numF E x 1).isSome then c else c + 1) (fun u v => if u = x ∧ v = 1 then some i else numF E u v) -> (w1.alloc o).grownBy w2 (some m) -> Least1 w s k m keys (i + 1) w2) := by
  obtain ⟨x, hx, hn,rfl, F', st, mv⟩ := d
  have hil := (List.getElem?_eq_some_iff.1 hi).1
  have htl : (keys.take i).length = i := by rw [List.length_take]; omega
  have htk : keys.take (i + 1) = keys.take i ++ [key] := by rw [List.take_add_one, hi]; rfl
  have hlt := f.1.lt
  have hml := hm.lt
  have s1 := mv.keeps.size
  have hmF' : m ∉ F' := fun h => by
    rcases mv.from' m h with c | c
    · exact hmF c
    · omega
  refine ⟨x,by rw [f.2.g0 x hn]; rfl,⟨by omega,by omega⟩,fun o => ?_⟩
  have kA : Keeps [] w1 (w1.alloc o) := (Keeps.refl _ _).alloc _
  refine ⟨(hm.keep mv.keeps hmF).keep kA (by simp),fun w2 hm2 hg => ?_⟩
  have k2 : Keeps [m] (w1.alloc o) w2 := (Keeps.refl [m] _).grown hg (fun b hb => .inl (by cases hb; simp))
  have hF' : ∀ b ∈ F', w.heap.size <= b := fun b hb => by
    rcases mv.from' b hb with c | c
    · exact hF b c
    · have := kp.size; omega
  refine ⟨put E x (some (1, key,(keys.take i).length + 1)), upd G x (G x + 1), F',(if (numF E x 1).isSome then c else c + 1),⟨?_,?_⟩,?_,?_,?_, hF', hwm, hmF'⟩
  · rw [htk, List.length_append]
    exact (st.keep kA (by simp)).keep k2 (fun b hb e => hmF' (by simp at e; exact e ▸ hb))
  · rw [htk]
    exact f.2.step hx hn key
  · rw [htl, numF_put hn]; exact hm2
  · split <;> omega
  · exact ((kp.trans mv.keeps (fun b hb => .inr (hF b hb))).trans kA (by simp)).trans k2 (fun b hb => .inr (by simp at hb; omega))
def Least2 (E : Ent) (G : Nat -> Nat) (i : Nat) (v : Value) (wr : World) : Prop :=
  ∃ (o F : List Nat) (c : Nat), o.length = i ∧ Drn E 1 o ∧ count (remL E o) keys.length 1 + i = keys.length ∧ StoreAt wr F s k keys.length 1 (remL E o) keys.length 4294967295 G ∧ Keeps [] w wr ∧ (∀ b ∈ F, w.heap.size <= b) ∧
    NRow w.heap.size wr v (o.map fun x => seqE E x - 1) ∧ (∀ b, v.ownBlock = some b -> b ∉ F ∧ b ≠ m) ∧ HMap elmInt wr m c (numF E) ∧ w.heap.size <= m ∧ m ∉ F
theorem Least2.next {E : Ent} {G : Nat -> Nat} {i c ca : Nat} {ao : Option Addr} {o F : List Nat} {wr w1 : World} (fp : FillP E G keys.length 1 keys) (uq : ∀ x y h key n h' key', E x = some (h, key, n) -> E y = some (h', key', n) -> x = y) (hcap : keys.length <= 65536)
    (ho : o.length = i) (hd : Drn E 1 o) (hct : count (remL E o) keys.length 1 + i = keys.length) (st : StoreAt wr F s k keys.length 1 (remL E o) keys.length 4294967295 G) (kp : Keeps [] w wr) (hF : ∀ b ∈ F, w.heap.size <= b)
    (hr : NRow w.heap.size wr (.slice ao i ca) (o.map fun x => seqE E x - 1)) (hv : ∀ b,(Value.slice ao i ca).ownBlock = some b -> b ∉ F ∧ b ≠ m) (hm : HMap elmInt wr m c (numF E)) (hwm : w.heap.size <= m) (hmF : m ∉ F) (e : Ending)
    (d : ExtYes wr F s k keys.length 1 (remL E o) keys.length 4294967295 G 1 e w1) :
    ∃ (x : Nat) (key : Int), e = .returned (.tuple #[.agg #[.int .i64 (x : Int),.int .u32 1],.int .i64 key,.int .i64 0]) ∧ okH x 1 ∧ numF E x 1 = some (seqE E x - 1) ∧ ∀ oo, HMap elmInt (w1.alloc oo) m c (numF E) ∧ (w1.alloc oo).ownsRow 0 3 1 (.slice ao i ca) i (natV (o.map fun x => seqE E x - 1)) ∧
      Hid (∀ g' c' w2, w2.ownsRow 0 3 1 (.slice (some ⟨g',0,none⟩) (i + 1) c') (i + 1) (natV (o.map fun x => seqE E x - 1) ++ [.int .i64 ((seqE E x - 1 : Nat) : Int)]) -> Keeps (Value.slice ao i ca).ownBlock.toList (w1.alloc oo) w2 -> ((Value.slice ao i ca).ownBlock = some g' ∨ (w1.alloc oo).heap.size <= g') ->
        Least2 w s k m keys E G (i + 1) (.slice (some ⟨g',0,none⟩) (i + 1) c') w2) := by
  obtain ⟨x, n, key, hl, hex,rfl, F', st', mv⟩ := d
  have hxo : x ∉ o := (remL_in.1 hl.1).2
  have hex' : E x = some (1, key, n) := by rw [<- hex, remL_at hxo]
  have hxc := st.ok.lt x hl.1.some
  have s1 := mv.keeps.size
  have hml := hm.lt
  have hmF' : m ∉ F' := fun h => by
    rcases mv.from' m h with c | c
    · exact hmF c
    · omega
  have hown := hr.own
  refine ⟨x, key,by rw [fp.g1 x (by rw [hex']; simp)]; rfl,⟨by omega,by omega⟩,by rw [numF_some hex', seqE_some hex'],fun oo => ?_⟩
  have kA : Keeps [] w1 (w1.alloc oo) := (Keeps.refl _ _).alloc _
  have hl0 : (o.map fun x => seqE E x - 1).length = i := by simp [ho]
  have hr1 := (hr.keep mv.keeps (fun b eb => (hv b eb).1)).keep kA (by simp)
  refine ⟨(hm.keep mv.keeps hmF).keep kA (by simp),?_,fun g' c' w2 hr2 k2 hg2 => ?_⟩
  · have := hr1.lo (Nat.zero_le _)
    unfold NRow at this
    rw [hl0] at this
    exact this
  · have stA := st'.keep kA (by simp)
    have hlt' := stA.lt
    have sw := kp.size
    have sA := kA.size
    have hvF'' : ∀ b,(Value.slice ao i ca).ownBlock = some b -> b ∉ F' := fun b eb f => by
      rcases mv.from' b f with c | c
      · exact (hv b eb).1 c
      · have := (hown b eb).2; omega
    refine ⟨o ++ [x], F', c,by simp [ho], hd.step hl,?_,?_,?_,fun b hb => ?_,?_,fun b eb => ?_,?_, hwm, hmF'⟩
    · rw [<- remL_put]
      have := count_out (n := keys.length) hxc hl.1
      omega
    · rw [<- remL_put]
      exact stA.keep k2 (fun b hb e => hvF'' b (by simpa [Option.mem_toList] using e) hb)
    · exact ((kp.trans mv.keeps (fun b hb => .inr (hF b hb))).trans kA (by simp)).trans k2 (fun b hb => .inr (hown b (by simpa [Option.mem_toList] using hb)).1)
    · rcases mv.from' b hb with c | c
      · exact hF b c
      · omega
    · have hg' : w.heap.size <= g' := by
        rcases hg2 with e | e
        · exact (hown g' e).1
        · omega
      rw [List.map_append, List.map_singleton]
      have := NRow.pushed (B := w.heap.size) (l := o.map fun x => seqE E x - 1) (g := g') (ca := c') (x := seqE E x - 1) (w := w2) (by rw [hl0]; exact hr2) hg'
      rw [hl0] at this
      exact this
    · simp [Value.ownBlock] at eb; subst eb
      rcases hg2 with e | e
      · exact ⟨hvF'' _ e,(hv _ e).2⟩
      · have := kA.size
        exact ⟨fun f => by have := hlt' _ f; omega,fun f => by omega⟩
    · exact ((hm.keep mv.keeps hmF).keep kA (by simp)).keep k2 (fun e => (hv m (by simpa [Option.mem_toList] using e)).2 rfl)
end
theorem least_calls (w : World) (keys : List Int) (a b : Int) (hc : okC a b) (kv : Value) (hkv : KIn w kv keys) (hlen : keys.length <= 65536) :
    Calls Tryz.prog 22 #[.agg #[.int .i64 a,.int .i64 b], kv,.int .i64 (keys.length : Int)] w (LeastDone w keys) := by
  obtain ⟨⟨ao, ca, hkv0⟩, _⟩ := id hkv
  obtain ⟨w0, hw0⟩ : ∃ w0, w0 = w.alloc (.cells #[.int .i64 a,.int .i64 b] 23 (0,0)) := ⟨_,rfl⟩
  have k0 : Keeps [] w w0 := by rw [hw0]; exact (Keeps.refl _ _).alloc _
  have hb0 : w0.heap[w.heap.size]? = some (.cells #[.int .i64 a,.int .i64 b] 23 (0,0)) := by rw [hw0]; exact blk_alloc_new _
  have e0 : w0.cell? ⟨w.heap.size,0,none⟩ = some (.int .i64 a) := by rw [cell_of_blk hb0]; rfl
  have e1 : w0.cell? ⟨w.heap.size,1,none⟩ = some (.int .i64 b) := by rw [cell_of_blk hb0]; rfl
  have hop := rank_open w0 a b keys.length 1 hc hlen (by omega)
  have hmm := @run_makeMap Tryz.prog
  have K0 := Lib.hid k0
  have HKV := Lib.hid hkv
  clear k0 hb0 hkv hc
  subst hkv0
  generalize a.toNat = kk at *
  generalize hn : keys.length = n at *
  have HN := Lib.hid hn
  clear hn
  have b1 : decide ((n : Int) < 0) = false := by rw [decide_eq_false_iff_not]; omega
  go_enter Tryz.func22, Tryz.ntmps22
  go_upto_region 1 with fail
  rw [<- hw0]
  clear hw0
  go_upto_region 7 with (go_at_call 24; refine hop.mono ?_; rintro e w1 ⟨F, s,rfl, st, k1, hF⟩; have ST := Lib.hid st; have K1 := Lib.hid k1; have HF := Lib.hid hF; clear st k1 hF e0 e1)
  have hs1 : w.heap.size <= w1.heap.size := Nat.le_trans K0.out.size K1.out.size
  have hst1 : Least1 w s kk w1.heap.size keys 0 (w1.alloc (.map #[] 0)) := by
    have kA : Keeps [] w1 (w1.alloc (.map #[] 0)) := (Keeps.refl _ _).alloc _
    have hlt := ST.out.lt
    have hnn := HN.out
    subst hnn
    exact ⟨fun _ => none,fun _ => 0, F, 0,⟨ST.out.keep kA (by simp), FillP.empty _ _⟩,(by rw [numF_nil]; exact HMap.made elmInt w1), Nat.le_refl _,(K0.out.trans K1.out (by simp)).trans kA (by simp),fun b hb => Nat.le_trans K0.out.size (HF.out b hb), hs1,fun h => Nat.lt_irrefl _ (hlt _ h)⟩
  have HS := Lib.hid hst1
  clear hst1 ST K0 K1 HF
  generalize hm0 : w1.heap.size = m at *
  clear hs1 hm0 hop
  go_wp2_with fail
  go_loopg [40] (n + 1) (fun j t wr => ∃ i : Nat, j + i = n + 1 ∧ i <= n ∧ t = .int .i64 i ∧ Least1 w s kk m keys i wr)
  case atStart => exact ⟨0,by omega,by omega,rfl, HS.out⟩
  case round =>
    clear HS
    obtain ⟨i, hk, hin,rfl, E, G, F', c, f, hm, hci, kp, hF, hwm, hmF⟩ := hrel
    have HK := Lib.hid hk
    clear hk
    by_cases hi : i < n
    · have hi3 : (i : Int) < (n : Int) := by omega
      have hnn := HN.out
      subst hnn
      have hik : i < keys.length := by omega
      obtain ⟨key, hkey⟩ : ∃ key, keys[i]? = some key := ⟨_, List.getElem?_eq_getElem hik⟩
      obtain ⟨hwf, g, off, ca', hv, hcell⟩ := (HKV.out.keep kp (by simp)).2 i key hkey
      cases hv
      have hroom := f.2.room (by rw [List.length_take]; omega)
      have htl : (keys.take i).length = i := by rw [List.length_take]; omega
      have hins := pq_insert wr F' s kk keys.length 1 E (keys.take i).length 4294967295 G f.1 1 key (by omega) (by omega) hwf (by omega) (by obtain ⟨x, a, b, c⟩ := hroom; exact ⟨x, a, b,by rw [c]; decide⟩)
      have HX := Lib.hid (fun e w1 d => Least1.next w s kk m keys hlen hkey f hm hci kp hF hwm hmF e d (w1 := w1))
      have NOK := Lib.hid (numF_ok (E := E) f.1.ok.lt hlen)
      clear f hm kp hF hwm hmF hroom hwf hkey htl
      go_wp2_with (first
        | (go_at_call 14; go_loud (refine hins.mono ?_; intro e w1 hd; obtain ⟨x,rfl, hok, z⟩ := HX.out e w1 hd; clear hd; obtain ⟨zm, zn⟩ := z (.cells #[.int .i64 (x : Int),.int .u32 1] 45 (0,0)); clear z; have hA : (w1.alloc (.cells #[.int .i64 (x : Int),.int .u32 1] 45 (0,0))).heap[w1.heap.size]? = some (.cells #[.int .i64 (x : Int),.int .u32 1] 45 (0,0)) := blk_alloc_new _; have z0 : (w1.alloc (.cells #[.int .i64 (x : Int),.int .u32 1] 45 (0,0))).cell? ⟨w1.heap.size,0,none⟩ = some (.int .i64 (x : Int)) := (cell_of_blk hA).trans rfl; have z1 : (w1.alloc (.cells #[.int .i64 (x : Int),.int .u32 1] 45 (0,0))).cell? ⟨w1.heap.size,1,none⟩ = some (.int .u32 1) := (cell_of_blk hA).trans rfl; clear hA))
        | (at_mapUpdate; refine wpList_hmap_put (E := elmInt) rfl _ _ _ rfl Tryz.underlying113 m c _ rfl zm NOK.out (by unfold maxLen; omega) x 1 rfl hok i rfl (show i <= 65536 by omega) ?_; intro w2 hm2 hg2; have z3 := Lib.hid (zn.out w2 hm2 hg2); clear hm2 hg2))
      go_roundg (gk - 1)
      case measure => have := HK.out; omega
      case rel => exact ⟨i + 1,by have := HK.out; omega,by omega,by go_num, z3.out⟩
    · obtain rfl : i = n := by omega
      have hnn := HN.out
      subst hnn
      have htk : keys.take keys.length = keys := List.take_length
      rw [htk] at f
      have hst2 : Least2 w s kk m keys E G 0 (.slice none 0 0) wr :=
        ⟨[], F', c,rfl, Drn.nil E 1,by rw [remL_nil, f.2.ct]; rfl,by rw [remL_nil]; exact f.1, kp, hF, NRow.nil _ _,fun b e => (by cases e), hm, hwm, hmF⟩
      have HS2 := Lib.hid hst2
      have FP := Lib.hid f.2
      have UQ := Lib.hid f.1.uq
      have NOK := Lib.hid (numF_ok (E := E) f.1.ok.lt hlen)
      clear hst2 f hm kp hF hwm hmF htk
      go_wp2_with fail
      go_loopg [15,56] (keys.length + 1) (fun j v t wr => ∃ i : Nat, j + i = keys.length + 1 ∧ i <= keys.length ∧ t = .int .i64 i ∧ Least2 w s kk m keys E G i v wr)
      case atStart => exact ⟨0,by omega,by omega,rfl, HS2.out⟩
      case round =>
        clear HS2
        obtain ⟨i, hk, hin,rfl, o, F', c, ho, hd, hct, st, kp, hF, hrow, hv, hm, hwm, hmF⟩ := hrel
        have HK := Lib.hid hk
        clear hk
        have hrl : (o.map fun x => seqE E x - 1).length = i := by simp [ho]
        obtain ⟨ao2, ca2,rfl⟩ := hrow.form
        rw [hrl] at hrow hv
        rw [hrl]
        by_cases hi : i < keys.length
        · have hex : ∃ y, isIn (remL E o) 1 y := by
            refine Classical.byContradiction fun hne => ?_
            have : count (remL E o) keys.length 1 = 0 := count_zero.2 fun x _ hx => hne ⟨x, hx⟩
            omega
          have hext := pq_extract_yes wr F' s kk keys.length 1 (remL E o) keys.length 4294967295 G st 1 (by omega) (by omega) hex
          have hi3 : (i : Int) < (keys.length : Int) := by omega
          have HX := Lib.hid (fun e w1 d => Least2.next w s kk m keys FP.out UQ.out hlen ho hd hct st kp hF hrow hv hm hwm hmF e d (w1 := w1))
          clear ho hd hct st kp hF hrow hv hm hwm hmF hex
          go_wp2_with (first
            | (go_at_call 31; refine hext.mono ?_; intro e w1 hd1; obtain ⟨x, key,rfl, hok, hnum, z⟩ := HX.out e w1 hd1; clear hd1; obtain ⟨zm, zr, zn⟩ := z (.cells #[.int .i64 (x : Int),.int .u32 1] 45 (0,0)); clear z; have hA : (w1.alloc (.cells #[.int .i64 (x : Int),.int .u32 1] 45 (0,0))).heap[w1.heap.size]? = some (.cells #[.int .i64 (x : Int),.int .u32 1] 45 (0,0)) := blk_alloc_new _; have z0 : (w1.alloc (.cells #[.int .i64 (x : Int),.int .u32 1] 45 (0,0))).cell? ⟨w1.heap.size,0,none⟩ = some (.int .i64 (x : Int)) := (cell_of_blk hA).trans rfl; have z1 : (w1.alloc (.cells #[.int .i64 (x : Int),.int .u32 1] 45 (0,0))).cell? ⟨w1.heap.size,1,none⟩ = some (.int .u32 1) := (cell_of_blk hA).trans rfl; clear hA)
            | (at_lookup; refine wpList_hmap_look_int rfl _ _ rfl Tryz.underlying113 rfl zm x 1 rfl hok _ hnum ?_)
            | (at_builtin; refine wpList_push _ 3 (.int .i64 ((seqE E x - 1 : Nat) : Int)) (0,0) rfl (.tmp 64) (.tmp 68) 28 rfl (.int .i64 0) 8 Tryz.underlying28 Tryz.infoInt rfl rfl (.slice ao2 i ca2) i (natV (o.map fun x => seqE E x - 1)) (by simp [Act.eval]) zr (by simp [Act.eval]) (by unfold maxLen; omega) (by omega) ?_; intro g' cap' w4 hr4 hk4 hf4; have z3 := Lib.hid (zn.out g' cap' w4 hr4 hk4 hf4); clear hr4 hk4 hf4))
          go_roundg (gk - 1)
          case measure => have := HK.out; omega
          case rel => exact ⟨i + 1,by have := HK.out; omega,by omega,by go_num, z3.out⟩
        · obtain rfl : i = keys.length := by omega
          have hnone : ∀ y, ¬ isIn (remL E o) 1 y := fun y hy => by
            have := (count_zero (E := remL E o) (n := keys.length) (h := 1)).1 (by omega) y (st.ok.lt y hy.some)
            exact this hy
          have hsrt := (Drn.sorted hd (hd.all hnone) FP.out.fl UQ.out).1
          have hfin : LeastDone w keys (.returned (.tuple #[.slice ao2 keys.length ca2,.int .i64 0])) wr := ⟨_, _,rfl, hsrt, hrow, kp⟩
          have HF := Lib.hid hfin
          clear hfin hsrt hnone ho hd hct st kp hF hrow hv hm hwm hmF
          go_wp2_with fail
          go_ret2
          exact HF.out
theorem sort_calls (w : World) (keys : List Int) (a b : Int) (hc : okC a b) (kv : Value) (hkv : KIn w kv keys) (hlen : keys.length <= 65536) :
    Calls Tryz.prog 9 #[.agg #[.int .i64 a,.int .i64 b], kv] w (LeastDone w keys) := by
  obtain ⟨⟨ao, ca, hkv0⟩, _⟩ := id hkv
  obtain ⟨w0, hw0⟩ : ∃ w0, w0 = w.alloc (.cells #[.int .i64 a,.int .i64 b] 23 (0,0)) := ⟨_,rfl⟩
  have k0 : Keeps [] w w0 := by rw [hw0]; exact (Keeps.refl _ _).alloc _
  have hb0 : w0.heap[w.heap.size]? = some (.cells #[.int .i64 a,.int .i64 b] 23 (0,0)) := by rw [hw0]; exact blk_alloc_new _
  have e0 : w0.cell? ⟨w.heap.size,0,none⟩ = some (.int .i64 a) := by rw [cell_of_blk hb0]; rfl
  have e1 : w0.cell? ⟨w.heap.size,1,none⟩ = some (.int .i64 b) := by rw [cell_of_blk hb0]; rfl
  have hl := least_calls w0 keys a b hc kv (hkv.keep k0 (by simp)) hlen
  have hfin : ∀ e w1, LeastDone w0 keys e w1 -> ∃ v, e = .returned (.tuple #[v,.int .i64 0]) ∧ Hid (LeastDone w keys (.returned (.tuple #[v,.int .i64 0])) w1) := by
    rintro e w1 ⟨l, v,rfl, h1, h2, h3⟩
    exact ⟨v,rfl, l, v,rfl, h1, h2.lo k0.size, k0.trans h3 (by simp)⟩
  have HF := Lib.hid hfin
  clear hfin k0 hb0 hkv
  subst hkv0
  generalize keys.length = n at *
  go_enter Tryz.func9, Tryz.ntmps9
  go_upto_region 1 with fail
  rw [<- hw0]
  clear hw0
  go_wp2_with (go_at_call 22; refine hl.mono ?_; intro e w1 hd; obtain ⟨v,rfl, z⟩ := HF.out e w1 hd; clear hd)
  go_ret2
  exact z.out
section
variable (w : World)
def NumW (l : List ByteArray) (ns : List Int) : Prop :=
  l.length = ns.length ∧ ∀ (i : Nat) s n, l[i]? = some s -> ns[i]? = some n -> (Lit.int .i64 n).wf = true ∧ ∀ u, Calls Tryz.prog 155 #[.string s] u fun e w' => e = .returned (.tuple #[.int .i64 n,.bool true]) ∧ Keeps [] u w'
theorem numbers_calls (g off cap : Nat) (l : List ByteArray) (ns : List Int) (h : SAt w g off l) (hn : NumW l ns) (hl : l.length <= 65536) :
    Calls Tryz.prog 129 #[.slice (some ⟨g,off,none⟩) l.length cap] w fun e w' => ∃ ao ca, e = .returned (.slice ao ns.length ca) ∧ KRow w.heap.size w' (.slice ao ns.length ca) ns ∧ Keeps [] w w' := by
  have H := Lib.hid h
  have HN := Lib.hid hn
  clear h hn
  have HS : Hid (Keeps [] w w ∧ KRow w.heap.size w (.slice none 0 0) ([] : List Int)) := Lib.hid ⟨Keeps.refl _ _, KRow.nil _ _⟩
  go_enter Tryz.func129, Tryz.ntmps129
  go_wp2_with fail
  go_loopg [3,5,6,7,10] (l.length + 1) (fun k v s n ok t wr => ∃ j : Nat, k + j = l.length + 1 ∧ j <= l.length ∧ t = .int .i64 j ∧ Keeps [] w wr ∧ KRow w.heap.size wr v (ns.take j))
  case atStart => exact ⟨0,by omega,by omega,rfl, HS.out.1, HS.out.2⟩
  case round =>
    clear HS
    obtain ⟨j, hk, hj,rfl, kp, hv⟩ := hrel
    have HK := Lib.hid hk
    clear hk
    obtain ⟨ao, ca,rfl⟩ := hv.form
    have htl : (ns.take j).length = j := by rw [List.length_take]; have := HN.out.1; omega
    by_cases hi : j < l.length
    · have hi3 : (j : Int) < (l.length : Int) := by omega
      obtain ⟨s, hs⟩ : ∃ s, l[j]? = some s := ⟨_, List.getElem?_eq_getElem hi⟩
      obtain ⟨x, hx⟩ : ∃ x, ns[j]? = some x := ⟨_, List.getElem?_eq_getElem (by have := HN.out.1; omega)⟩
      have hc := (H.out.keep kp) j s hs
      obtain ⟨_, hnum⟩ := HN.out.2 j s x hs hx
      have htk : ns.take (j + 1) = ns.take j ++ [x] := by rw [List.take_add_one, hx]; rfl
      have hfin : ∀ w1, Keeps [] wr w1 -> w1.ownsRow 0 2 1 (.slice ao j ca) j (keysV (ns.take j)) ∧
          Hid (∀ g' c' w2, w2.ownsRow 0 2 1 (.slice (some ⟨g',0,none⟩) (j + 1) c') (j + 1) (keysV (ns.take j) ++ [.int .i64 x]) -> Keeps (Value.slice ao j ca).ownBlock.toList w1 w2 -> ((Value.slice ao j ca).ownBlock = some g' ∨ w1.heap.size <= g') ->
            Keeps [] w w2 ∧ KRow w.heap.size w2 (.slice (some ⟨g',0,none⟩) (j + 1) c') (ns.take (j + 1))) := by
        intro w1 k1
        have hrow := hv.keep k1 (by simp)
        rw [htl] at hrow
        have hown := hv.own
        rw [htl] at hown
        refine ⟨?_,fun g' c' w2 hr2 k2 hg2 => ⟨?_,?_⟩⟩
        · have := hrow.lo (Nat.zero_le _)
          unfold KRow at this
          rw [htl] at this
          exact this
        · exact (kp.trans k1 (by simp)).trans k2 (fun b hb => .inr (hown b (by simpa [Option.mem_toList] using hb)).1)
        · have hg' : w.heap.size <= g' := by
            rcases hg2 with e | e
            · exact (hown g' e).1
            · have := kp.size; have := k1.size; omega
          rw [htk]
          have := KRow.pushed (B := w.heap.size) (l := ns.take j) (g := g') (ca := c') (x := x) (w := w2) (by rw [htl]; exact hr2) hg'
          rw [htl] at this
          exact this
      have HF := Lib.hid hfin
      clear hfin hv kp hs hx htk
      rw [htl]
      go_wp2_with (first
        | (go_at_call 155; refine (hnum _).mono ?_; rintro e w1 ⟨rfl, k1⟩; obtain ⟨z1, z2⟩ := HF.out w1 k1; clear k1)
        | (at_builtin; refine wpList_push _ 2 (.int .i64 x) (0,0) rfl (.tmp 23) (.tmp 25) 25 rfl (.int .i64 0) 8 Tryz.underlying25 Tryz.infoInt64 rfl rfl (.slice ao j ca) j (keysV (ns.take j)) (by simp [Act.eval]) z1 (by simp [Act.eval]) (by unfold maxLen; omega) (by omega) ?_; intro g' cap' w4 hr4 hk4 hf4; have z3 := Lib.hid (z2.out g' cap' w4 hr4 hk4 hf4); clear hr4 hk4 hf4))
      go_roundg (gk - 1)
      case measure => have := HK.out; omega
      case rel => exact ⟨j + 1,by have := HK.out; omega,by omega,by go_num, z3.out.1, z3.out.2⟩
    · obtain rfl : j = l.length := by omega
      have hns : ns.take l.length = ns := by rw [HN.out.1]; exact List.take_length
      rw [hns] at hv ⊢
      have HF := Lib.hid (show KRow w.heap.size wr (.slice ao ns.length ca) ns ∧ Keeps [] w wr from ⟨hv, kp⟩)
      clear hv kp
      go_wp2_with fail
      go_ret
      exact ⟨_, _,rfl, HF.out⟩
def sayW (a : List UInt8) (l : List Nat) : List UInt8 := a ++ l.flatMap fun i => [32,(48 + i).toUInt8]
theorem sayW_len (a : List UInt8) (l : List Nat) : (sayW a l).length = a.length + 2 * l.length := by
  unfold sayW
  rw [List.length_append]
  congr 1
  induction l with
  | nil => rfl
  | cons x l ih => simp only [List.flatMap_cons, List.length_append, List.length_cons, List.length_nil, ih]; omega
theorem said_calls (a : ByteArray) (B : Nat) (l : List Nat) (v : Value) (h : NRow B w v l) (hl : ∀ i ∈ l, i < 3) (hlen : l.length <= 65536) (ha : a.size <= 65536) :
    Calls Tryz.prog 134 #[.string a, v] w fun e w' => e = .returned (.string ⟨(sayW a.data.toList l).toArray⟩) ∧ w = w' := by
  obtain ⟨ao, ca,rfl⟩ := h.form
  have H := Lib.hid h
  clear h
  go_enter Tryz.func134, Tryz.ntmps134
  go_wp2_with fail
  go_loopg [0,6,9] (l.length + 1) (fun k s i t wr => ∃ j : Nat, k + j = l.length + 1 ∧ j <= l.length ∧ t = .int .i64 j ∧ s = .string ⟨(sayW a.data.toList (l.take j)).toArray⟩ ∧ wr = w)
  case atStart => exact ⟨0,by omega,by omega,rfl,by simp [sayW],rfl⟩
  case round =>
    obtain ⟨j, hk, hj,rfl,rfl,rfl⟩ := hrel
    have HK := Lib.hid hk
    clear hk
    by_cases hi : j < l.length
    · have hi3 : (j : Int) < (l.length : Int) := by omega
      obtain ⟨x, hx⟩ : ∃ x, l[j]? = some x := ⟨_, List.getElem?_eq_getElem hi⟩
      obtain ⟨g,rfl, _, hc⟩ := H.out.at hx
      have hd := digits_calls wr x (hl x (List.mem_of_getElem? hx))
      have htk : l.take (j + 1) = l.take j ++ [x] := by rw [List.take_add_one, hx]; rfl
      have hsay : (sayW a.data.toList (l.take (j + 1))) = sayW a.data.toList (l.take j) ++ [32,(48 + x).toUInt8] := by rw [htk]; simp [sayW]
      have HS := Lib.hid hsay
      have hq : ¬ 9223372036854775807 < (sayW a.data.toList (l.take j)).length + (1 + (dig x).size) := by
        have : (dig x).size = 1 := rfl
        rw [this, sayW_len, List.length_take]
        have : a.data.toList.length = a.size := rfl
        omega
      clear hx htk hsay
      go_wp2_with (go_at_call 74; refine hd.mono ?_; rintro e w' ⟨rfl,rfl⟩)
      go_roundg (gk - 1)
      case measure => have := HK.out; omega
      case rel => exact ⟨j + 1,by have := HK.out; omega,by omega,by go_num,by rw [HS.out, <- ByteArray.mk_append_mk, show (⟨#[32]⟩ ++ dig x : ByteArray) = ByteArray.mk [32,(48 + x).toUInt8].toArray from ByteArray.mk_append_mk [32] [(48 + x).toUInt8]],rfl⟩
    · obtain rfl : j = l.length := by omega
      rw [List.take_length]
      go_wp2_with fail
      go_ret
      exact ⟨rfl,rfl⟩
end
end Go.Proofs.YtkdbjelhkfdfjaaGreatDoor


/-
  Rings as the document has them (package haycockref15), in memory; the appends of regions that draw their order.
-/
import Derived.Test.YtnpglgkpdikcjaaRingSt
import Derived.Test.YtnpglgkpdikcjaaRingPlain2
import Derived.Maps.AppendAt
import Derived.Laws.OwnMore
import Derived.Deep.RegionLaw
import Derived.Deep.AppendLies
import Derived.Deep.DeepCutAuto
import Derived.Deep.CutBlock
import Derived.ArgAppend
namespace Go.Proofs.Ytnpglgkpdikcjaa
open Go.RowKit
set_option linter.unusedVariables false

theorem Try.infoRow : (Try.prog.info? 33).map (fun i => (i.zero, i.size, i.bytes)) = some (some (.slice none 0 0), 1, 24) := by kernel_rfl

/-- A slice of slices of things; all their blocks are from B on. -/
def WR (B : Nat) (w : World) (v : Value) (W : List (List Nat)) : Prop :=
  ∃ vs : List Value, w.ownsRow B 33 1 v W.length vs ∧ ∀ (i : Nat) (l : List Nat), W[i]? = some l → ∃ u, vs[i]? = some u ∧ IR B w u l

theorem WR.form {B : Nat} {w : World} {v : Value} {W : List (List Nat)} (h : WR B w v W) : ∃ ao cap, v = .slice ao W.length cap := by
  obtain ⟨vs, h, _⟩ := h
  rcases h.2 with ⟨rfl, h0⟩ | ⟨g, cap, cur, rfl, _⟩
  · exact ⟨none, 0, by rw [h0]⟩
  · exact ⟨_, _, rfl⟩

theorem WR.at {B : Nat} {w : World} {ao : Option Addr} {n cap : Nat} {W : List (List Nat)} (h : WR B w (.slice ao n cap) W) (k : Nat) (hk : k < W.length) :
    ∃ g u, ao = some ⟨g, 0, none⟩ ∧ g < w.heap.size ∧ w.cell? ⟨g, k, none⟩ = some u ∧ IR B w u (W.getD k []) := by
  obtain ⟨vs, h, hi⟩ := h
  obtain ⟨u, h1, h2⟩ := hi k (W.getD k []) (by simp [List.getD, hk])
  have hlen := h.1
  rcases h.2 with ⟨h0, h3⟩ | ⟨g, cap', cur, e, hb, hg, _⟩
  · omega
  · cases e
    refine ⟨g, u, rfl, lt_of_block hg, ?_, h2⟩
    rw [World.ownsRow.cellAt h k (by omega), h1]

theorem row_up {B e size n : Nat} {w w' : World} {v : Value} {xs : List Value} (h : w.ownsRow B e size v n xs) (hb : Below w.heap.size w w') : w'.ownsRow B e size v n xs := by
  refine ⟨h.1, ?_⟩
  rcases h.2 with h0 | ⟨g, cap, cur, rfl, h1, hg, r⟩
  · exact .inl h0
  · exact .inr ⟨g, cap, cur, rfl, h1, (hb.block _ (lt_of_block hg)).trans hg, r⟩

theorem WR.below {B : Nat} {w w' : World} {v : Value} {W : List (List Nat)} (h : WR B w v W) (hb : Below w.heap.size w w') : WR B w' v W := by
  obtain ⟨vs, h1, h2⟩ := h
  exact ⟨vs, row_up h1 hb, fun i l hi => by
    obtain ⟨u, h3, h4⟩ := h2 i l hi
    exact ⟨u, h3, h4.below hb⟩⟩

theorem WR.keep {B : Nat} {w w' : World} {F : List Nat} {v : Value} {W : List (List Nat)} (h : WR B w v W) (k : Keeps F w w') (hf : ∀ b ∈ F, b < B) : WR B w' v W := by
  obtain ⟨vs, h1, h2⟩ := h
  refine ⟨vs, ⟨h1.1, ?_⟩, fun i l hi => by
    obtain ⟨u, h3, h4⟩ := h2 i l hi
    exact ⟨u, h3, h4.keep k hf⟩⟩
  rcases h1.2 with h0 | ⟨g, cap, cur, rfl, hb, hg, r⟩
  · exact .inl h0
  · exact .inr ⟨g, cap, cur, rfl, hb, k.blk hg (fun e => by have := hf g e; omega), r⟩

theorem WR.lo {B C : Nat} {w : World} {v : Value} {W : List (List Nat)} (h : WR B w v W) (hc : C ≤ B) : WR C w v W := by
  obtain ⟨vs, h1, h2⟩ := h
  refine ⟨vs, ⟨h1.1, ?_⟩, fun i l hi => by
    obtain ⟨u, h3, h4⟩ := h2 i l hi
    exact ⟨u, h3, h4.lo hc⟩⟩
  rcases h1.2 with h0 | ⟨g, cap, cur, e, hb, r⟩
  · exact .inl h0
  · exact .inr ⟨g, cap, cur, e, Nat.le_trans hc hb, r⟩

/-- A slice of things lies elsewhere than a slice of slices. -/
theorem IR.apart {B B' n : Nat} {w : World} {u v : Value} {l : List Nat} {vs : List Value} (h : IR B w u l) (ho : w.ownsRow B' 33 1 v n vs) : ∀ b, u.ownBlock = some b → v.ownBlock ≠ some b := by
  intro b hb hv
  rcases h.2 with ⟨rfl, _⟩ | ⟨g, cap, cur, rfl, _, hg, _⟩
  · cases hb
  · cases hb
    rcases ho.2 with ⟨rfl, _⟩ | ⟨g', cap', cur', rfl, _, hg', _⟩
    · cases hv
    · cases hv
      rw [hg] at hg'
      injection hg' with h1
      injection h1 with h2 h3
      cases h3

theorem IR.grown {B : Nat} {w w' : World} {u : Value} {l : List Nat} {row : Option Nat} (h : IR B w u l) (hg : w.grownBy w' row) (hr : ∀ b, u.ownBlock = some b → row ≠ some b) : IR B w' u l := by
  refine ⟨h.1, ?_⟩
  rcases h.2 with h0 | ⟨g, cap, cur, rfl, hb, hh, r⟩
  · exact .inl h0
  · exact .inr ⟨g, cap, cur, rfl, hb, (hg.block g (lt_of_block hh) (Ne.symm (hr g rfl))).trans hh, r⟩

/-- Rings are put behind others. -/
theorem WR.push {B : Nat} {w w' : World} {v v' : Value} {W K : List (List Nat)} {vs us : List Value} (h1 : w.ownsRow B 33 1 v W.length vs) (h2 : ∀ (i : Nat) (l : List Nat), W[i]? = some l → ∃ u, vs[i]? = some u ∧ IR B w u l)
    (hk : ∀ (i : Nat) (l : List Nat), K[i]? = some l → ∃ u, us[i]? = some u ∧ IR B w u l) (hr : w'.ownsRow B 33 1 v' (W ++ K).length (vs ++ us)) (hg : w.grownBy w' v.ownBlock) : WR B w' v' (W ++ K) := by
  have hlen := h1.1
  rw [Nat.mul_one] at hlen
  refine ⟨_, hr, fun i l hi => ?_⟩
  by_cases hlt : i < W.length
  · rw [List.getElem?_append_left hlt] at hi
    obtain ⟨u, h3, h4⟩ := h2 i l hi
    exact ⟨u, by rw [List.getElem?_append_left (by omega)]; exact h3, h4.grown hg (fun b hb => h4.apart h1 b hb)⟩
  · rw [List.getElem?_append_right (by omega)] at hi
    obtain ⟨u, h3, h4⟩ := hk _ l hi
    exact ⟨u, by rw [List.getElem?_append_right (by omega), hlen]; exact h3, h4.grown hg (fun b hb => h4.apart h1 b hb)⟩

theorem row_one_new {w : World} {e : TypeId} {u : Value} {k : Nat} (hk : k = w.heap.size) : (w.alloc (.cells #[u] e)).ownsRow 0 e 1 (.slice (some ⟨k, 0, none⟩) 1 1) 1 [u] := by
  subst hk
  exact ⟨by simp, .inr ⟨w.heap.size, 1, #[u], rfl, Nat.zero_le _, blk_alloc_new _, by omega, by unfold maxLen; omega, by simp, by simp⟩⟩

theorem row_none_new {w : World} {e : TypeId} {k : Nat} (hk : k = w.heap.size) : (w.alloc (.cells #[] e)).ownsRow 0 e 1 (.slice (some ⟨k, 0, none⟩) 0 0) 0 [] := by
  subst hk
  exact ⟨by simp, .inr ⟨w.heap.size, 0, #[], rfl, Nat.zero_le _, blk_alloc_new _, by omega, by unfold maxLen; omega, by simp, by simp⟩⟩

theorem row_form {B e n : Nat} {w : World} {v : Value} {xs : List Value} (h : w.ownsRow B e 1 v n xs) : ∃ ao cap, v = .slice ao n cap := by
  rcases h.2 with ⟨rfl, h0⟩ | ⟨g, cap, cur, rfl, _⟩
  · exact ⟨none, 0, by rw [h0]⟩
  · exact ⟨_, _, rfl⟩

theorem row_base {B C e size n : Nat} {w : World} {v : Value} {xs : List Value} (h : w.ownsRow B e size v n xs) (hc : ∀ b, v.ownBlock = some b → C ≤ b) : w.ownsRow C e size v n xs := by
  refine ⟨h.1, ?_⟩
  rcases h.2 with h0 | ⟨g, cap, cur, rfl, hb, r⟩
  · exact .inl h0
  · exact .inr ⟨g, cap, cur, rfl, hc g rfl, r⟩

/-- The cells of a part of a row. -/
theorem IR.part {B : Nat} {w : World} {g n cap : Nat} {L : List Nat} (h : IR B w (.slice (some ⟨g, 0, none⟩) n cap) L) (i m : Nat) :
    ∀ j u, (nCells ((L.drop i).take m))[j]? = some u → w.cell? ((⟨g, i, none⟩ : Addr).add j) = some u := by
  intro j u hu
  have hc := World.ownsRow.cells (g := g) h rfl (i + j) u (by
    simp only [nCells, List.map_take, List.map_drop, List.getElem?_take, List.getElem?_drop] at hu ⊢
    split at hu
    · exact hu
    · cases hu)
  rw [Addr.add_lit] at hc ⊢
  rwa [Nat.zero_add] at hc

theorem below_drew' (w : World) : Below w.heap.size w w.drew := ⟨rfl, rfl, rfl, Nat.le_refl _, fun _ _ => rfl⟩
theorem below_ad (w : World) (o : Obj) : Below w.heap.size w (w.alloc o).drew := ((Below.refl _ w).alloc (Nat.le_refl _) o).drew
theorem below_ad2 {w a b : World} (h : Below w.heap.size w a) (k : Below a.heap.size a b) : Below w.heap.size w b := h.trans (k.mono h.size)

theorem base_ad {w : World} {o : Obj} {k : Nat} (h : k = w.heap.size ∨ ((w.alloc o).drew).heap.size ≤ k) : w.heap.size ≤ k := by
  rcases h with h | h
  · omega
  · simp at h; omega

theorem below_grown {w a b : World} {row : Option Nat} (h : Below w.heap.size w a) (k : a.grownBy b row) (hr : ∀ g, row = some g → w.heap.size ≤ g) : Below w.heap.size w b :=
  h.trans ⟨k.os, k.tape, k.output, k.size, fun i hi => k.block i (by have := h.size; omega) (fun e => by have := hr i e.symm; omega)⟩

/-- The cells to be appended, out of older memory. -/
theorem news_up {w w' : World} {g off : Nat} {news : List Value} (h : ∀ j u, news[j]? = some u → w.cell? ((⟨g, off, none⟩ : Addr).add j) = some u) (hg : g < w.heap.size) (hb : Below w.heap.size w w') : ∀ j u, news[j]? = some u → w'.cell? ((⟨g, off, none⟩ : Addr).add j) = some u := by
  intro j u hu
  rw [← h j u hu, Addr.add_lit]
  exact hb.cell (p := ⟨g, off + j, none⟩) hg

/-- A row's rest, as Go cuts it. -/
theorem IR.rest {B : Nat} {w w' : World} {g n cap : Nat} {L : List Nat} (h : IR B w (.slice (some ⟨g, 0, none⟩) n cap) L) (hn : n = L.length) (hb : Below w.heap.size w w') (i : Nat) :
    ∃ ad : Addr, (if cap = i then some ⟨g, 0, none⟩ else some ⟨g, i, none⟩) = some ad ∧ ∀ j u, (nCells (L.drop i))[j]? = some u → w'.cell? (ad.add j) = some u := by
  subst hn
  have hg := (h.own g rfl).2
  by_cases hc : cap = i
  · refine ⟨⟨g, 0, none⟩, by rw [if_pos hc], fun j u hu => ?_⟩
    have := (row_cap (IR.lo h (Nat.zero_le _))).1
    rw [List.drop_eq_nil_of_le (by omega)] at hu
    simp [nCells] at hu
  · refine ⟨⟨g, i, none⟩, by rw [if_neg hc], ?_⟩
    have := h.part i (L.length - i)
    rw [List.take_of_length_le (by simp)] at this
    exact news_up this hg hb

theorem IR.mid {B : Nat} {w w' : World} {g n cap : Nat} {L : List Nat} (h : IR B w (.slice (some ⟨g, 0, none⟩) n cap) L) (hb : Below w.heap.size w w') (i m : Nat) (hc : cap ≠ i) :
    ∃ ad : Addr, (if cap = i then some ⟨g, 0, none⟩ else some ⟨g, i, none⟩) = some ad ∧ ∀ j u, (nCells ((L.drop i).take m))[j]? = some u → w'.cell? (ad.add j) = some u := by
  refine ⟨⟨g, i, none⟩, by rw [if_neg hc], news_up (h.part i m) (h.own g rfl).2 hb⟩

theorem new_one {w : World} {e : TypeId} {v : Value} {k : Nat} (hk : k = w.heap.size) : ∃ ad : Addr, some (⟨k, 0, none⟩ : Addr) = some ad ∧ ∀ j u, [v][j]? = some u → (w.alloc (.cells #[v] e)).cell? (ad.add j) = some u := by
  subst hk
  refine ⟨_, rfl, fun j u hu => ?_⟩
  rw [Addr.add_lit, Nat.zero_add, cell_of_blk (blk_alloc_new _)]
  cases j with
  | zero => simpa using hu
  | succ j => simp at hu

theorem new_two {w : World} {e : TypeId} {v v2 : Value} {k : Nat} (hk : k = w.heap.size) : ∃ ad : Addr, some (⟨k, 0, none⟩ : Addr) = some ad ∧ ∀ j u, [v, v2][j]? = some u → (w.alloc (.cells #[v, v2] e)).cell? (ad.add j) = some u := by
  subst hk
  refine ⟨_, rfl, fun j u hu => ?_⟩
  rw [Addr.add_lit, Nat.zero_add, cell_of_blk (blk_alloc_new _)]
  rcases j with _ | _ | j
  · simpa using hu
  · simpa using hu
  · simp at hu

section
variable {P : Program}

/-- 'append' onto a row that is full: what was there is as it was. -/
theorem run_full (w : World) (t ty e : TypeId) (z : Value) (bytes : Nat) (ht : P.underlying t = some (.slice e)) (hi : (P.info? e).map (fun i => (i.zero, i.size, i.bytes)) = some (some z, 1, bytes)) (hzs : z.cells.size = 1)
    (b n : Nat) (xs : List Value) (hown : w.ownsRow 0 e 1 (.slice (some ⟨b, 0, none⟩) n n) n xs)
    (ao : Option Addr) (m c : Nat) (news : List Value) (hl : news.length = m) (hnews : ∃ ad, ao = some ad ∧ ∀ j u, news[j]? = some u → w.cell? (ad.add j) = some u) (h1 : ∀ u ∈ news, u.oneCell' = true)
    (h63 : n + m ≤ maxLen) (hbytes : (n + m) * bytes ≤ 140737488355328) :
    ∃ v' w', (Builtin.append_ #[t, t] ty #[.slice (some ⟨b, 0, none⟩) n n, .slice ao m c]).run P w = .ok v' w' ∧ w'.ownsRow 0 e 1 v' (n + m) (xs ++ news) ∧ Below w.heap.size w w' ∧ (∀ k, v'.ownBlock = some k → k = b ∨ w.heap.size ≤ k) := by
  obtain ⟨i, hi, hz, hsize, hby⟩ := info_parts hi
  obtain ⟨ad, rfl, hnews⟩ := hnews
  by_cases hm : m = 0
  · subst hm
    obtain ⟨v', w', hr, h2, h3, _, h5⟩ := run_append_own_at (P := P) w 0 t ty e i z 1 bytes ht hi hz hsize hby hzs (by decide) _ n xs hown ad 0 c news (by simpa using hl) hnews h1 h63 hbytes (Nat.zero_le _)
    have hroom := run_append_room (P := P) w t ty e i ht hi b n n
    rcases hown.2 with ⟨h0, _⟩ | ⟨g, cap, cur, ev, hb, hg, hnc, hcm, hcs, htake⟩
    · cases h0
    · cases ev
      have hn0 : news = [] := List.eq_nil_of_length_eq_zero hl
      subst hn0
      have hr2 := hroom cur hg ad 0 c [] (by simp) (by simp) (by simp) (by omega) (by rw [hsize]; simp; omega)
      rw [hr] at hr2
      injection hr2 with h6 h7
      have hrow : ∀ cs : Array Value, cs = cur → Below w.heap.size w (w.setRow b cs) := by
        intro cs hc
        subst hc
        refine ⟨rfl, rfl, rfl, by simp [World.setRow], fun k hk => ?_⟩
        by_cases hkb : k = b
        · subst hkb
          rw [setRow_heap w k cs cs e _ hg, hg]
        · exact setRow_other w b k _ hkb
      refine ⟨v', w', hr, h2, by rw [h7]; exact hrow _ (by simp), fun k hk => ?_⟩
      rw [h6] at hk
      simp [Value.ownBlock] at hk
      exact .inl hk.symm
  · obtain ⟨v', w', hr, ho', hgr⟩ := run_append_arg_grows (P := P) w t ty e i z 1 bytes ht hi hz hsize hby hzs (by decide) ⟨b, 0, none⟩ n n xs hown.1 (hown.cells rfl) ad m c news (by simpa using hl) hnews (by omega) h63 hbytes
    refine ⟨v', w', hr, row_base (B := w.heap.size) (C := 0) ho' (fun _ _ => Nat.zero_le _), ⟨hgr.os, hgr.tape, hgr.output, hgr.size, fun k hk => hgr.block k hk (by simp)⟩, fun k hk => ?_⟩
    rcases ho'.2 with ⟨rfl, _⟩ | ⟨g, cap, cur, rfl, hb, _⟩
    · cases hk
    · cases hk; exact .inr hb

/-- .. at a step of a region that draws its order. -/
theorem step_full {ops : Array Oper} {o : Oper} {a : Act} {K : Act → World → Prop} {Q : Exit → Act → World → Prop} {E : Prop} (hgd : o.guard = none) (s x : Operand) (t : TypeId)
    (ho : o.op = .call { callee := .builtin .append, args := #[s, x], argTypes := #[t, t] })
    (e : TypeId) (z : Value) (bytes : Nat) (ht : P.underlying t = some (.slice e)) (hi : (P.info? e).map (fun i => (i.zero, i.size, i.bytes)) = some (some z, 1, bytes)) (hzs : z.cells.size = 1)
    (w : World) (b n : Nat) (xs : List Value) (hs : a.eval s = .slice (some ⟨b, 0, none⟩) n n) (hown : w.ownsRow 0 e 1 (.slice (some ⟨b, 0, none⟩) n n) n xs)
    (ao : Option Addr) (m c : Nat) (news : List Value) (hx : a.eval x = .slice ao m c) (hl : news.length = m) (hnews : ∃ ad, ao = some ad ∧ ∀ j u, news[j]? = some u → w.cell? (ad.add j) = some u) (h1 : ∀ u ∈ news, u.oneCell' = true)
    (h63 : n + m ≤ maxLen) (hbytes : (n + m) * bytes ≤ 140737488355328)
    (h : ∀ v' w', w'.ownsRow 0 e 1 v' (n + m) (xs ++ news) → Below w.heap.size w w' → (∀ k, v'.ownBlock = some k → k = b ∨ w.heap.size ≤ k) → K (a.put o.dst v') w') :
    if Region.wanted o (yielded ops a.tmps) = true then Oper.wp P o a w K Q else E := by
  have hw : Region.wanted o (yielded ops a.tmps) = true := by simp [Region.wanted, hgd]
  rw [if_pos hw]
  obtain ⟨v', w', hr, h2, h3, h4⟩ := run_full (P := P) w t o.type e z bytes ht hi hzs b n xs hown ao m c news hl hnews h1 h63 hbytes
  have hfin := h v' w' h2 h3 h4
  unfold Oper.wp execOp
  simp only [ho, resolve, invoke, builtin, Sem.run_bind, Sem.run_pure, Result.andThen_ok, List.map_toArray, List.map_cons, List.map_nil, hs, hx, hr]
  exact hfin

/-- .. in a plain region. -/
theorem wpList_full {ops : Array Oper} {rest : List Oper} {o : Oper} {a : Act} {Q : Exit → Act → World → Prop} (hgd : o.guard = none) (s x : Operand) (t : TypeId)
    (ho : o.op = .call { callee := .builtin .append, args := #[s, x], argTypes := #[t, t] })
    (e : TypeId) (z : Value) (bytes : Nat) (ht : P.underlying t = some (.slice e)) (hi : (P.info? e).map (fun i => (i.zero, i.size, i.bytes)) = some (some z, 1, bytes)) (hzs : z.cells.size = 1)
    (w : World) (b n : Nat) (xs : List Value) (hs : a.eval s = .slice (some ⟨b, 0, none⟩) n n) (hown : w.ownsRow 0 e 1 (.slice (some ⟨b, 0, none⟩) n n) n xs)
    (ao : Option Addr) (m c : Nat) (news : List Value) (hx : a.eval x = .slice ao m c) (hl : news.length = m) (hnews : ∃ ad, ao = some ad ∧ ∀ j u, news[j]? = some u → w.cell? (ad.add j) = some u) (h1 : ∀ u ∈ news, u.oneCell' = true)
    (h63 : n + m ≤ maxLen) (hbytes : (n + m) * bytes ≤ 140737488355328)
    (h : ∀ v' w', w'.ownsRow 0 e 1 v' (n + m) (xs ++ news) → Below w.heap.size w w' → (∀ k, v'.ownBlock = some k → k = b ∨ w.heap.size ≤ k) → wpList P ops Q rest (a.put o.dst v') w') :
    wpList P ops Q (o :: rest) a w := by
  refine wpList_plain hgd fun K hK => ?_
  obtain ⟨v', w', hr, h2, h3, h4⟩ := run_full (P := P) w t o.type e z bytes ht hi hzs b n xs hown ao m c news hl hnews h1 h63 hbytes
  unfold Oper.wp execOp
  simp only [ho, resolve, invoke, builtin, Sem.run_bind, Sem.run_pure, Result.andThen_ok, List.map_toArray, List.map_cons, List.map_nil, hs, hx, hr]
  exact hK _ _ (h v' w' h2 h3 h4)

/-- 'append' onto a row of its own, at a step of a region that draws its order. -/
theorem step_own {ops : Array Oper} {o : Oper} {a : Act} {K : Act → World → Prop} {Q : Exit → Act → World → Prop} {E : Prop} (hgd : o.guard = none) (s x : Operand) (t : TypeId)
    (ho : o.op = .call { callee := .builtin .append, args := #[s, x], argTypes := #[t, t] })
    (e : TypeId) (z : Value) (bytes : Nat) (ht : P.underlying t = some (.slice e)) (hi : (P.info? e).map (fun i => (i.zero, i.size, i.bytes)) = some (some z, 1, bytes)) (hzs : z.cells.size = 1)
    (B : Nat) (w : World) (hB : B ≤ w.heap.size) (v : Value) (n : Nat) (xs : List Value) (hs : a.eval s = v) (hown : w.ownsRow B e 1 v n xs)
    (ao : Option Addr) (m c : Nat) (news : List Value) (hx : a.eval x = .slice ao m c) (hl : news.length = m) (hnews : ∃ ad, ao = some ad ∧ ∀ j u, news[j]? = some u → w.cell? (ad.add j) = some u) (h1 : ∀ u ∈ news, u.oneCell' = true)
    (h63 : n + m ≤ maxLen) (hbytes : (n + m) * bytes ≤ 140737488355328)
    (h : ∀ v' w', w'.ownsRow B e 1 v' (n + m) (xs ++ news) → w.grownBy w' v.ownBlock → K (a.put o.dst v') w') :
    if Region.wanted o (yielded ops a.tmps) = true then Oper.wp P o a w K Q else E := by
  obtain ⟨i, hi, hz, hsize, hby⟩ := info_parts hi
  obtain ⟨ad, rfl, hnews⟩ := hnews
  have hw : Region.wanted o (yielded ops a.tmps) = true := by simp [Region.wanted, hgd]
  rw [if_pos hw]
  obtain ⟨v', w', hr, h2, h3, _, h5⟩ := run_append_own_at (P := P) w B t o.type e i z 1 bytes ht hi hz hsize hby hzs (by decide) v n xs hown ad m c news (by simpa using hl) hnews h1 h63 hbytes hB
  have hfin := h v' w' h2 h3
  unfold Oper.wp execOp
  simp only [ho, resolve, invoke, builtin, Sem.run_bind, Sem.run_pure, Result.andThen_ok, List.map_toArray, List.map_cons, List.map_nil, hs, hx, hr]
  exact hfin
end

end Go.Proofs.Ytnpglgkpdikcjaa

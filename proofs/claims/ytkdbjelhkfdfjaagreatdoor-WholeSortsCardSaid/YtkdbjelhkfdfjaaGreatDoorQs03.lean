/-
  Contracts that the law rests on. Conditions: none.
-/
import Derived.WalkKit
import Derived.Deep.Draws
set_option linter.unusedVariables false
set_option maxRecDepth 100000
set_option maxHeartbeats 16000000
namespace Go.Proofs.YtkdbjelhkfdfjaaGreatDoor
open Go.RowKit
structure Keeps (S : List Nat) (w w' : World) : Prop where
  os : w'.os = w.os
  tape : w'.tape = w.tape
  output : w'.output = w.output
  size : w.heap.size ≤ w'.heap.size
  block : ∀ k, k < w.heap.size → k ∉ S → w'.heap[k]? = w.heap[k]?
theorem Keeps.refl (S : List Nat) (w : World) : Keeps S w w := ⟨rfl,rfl,rfl, Nat.le_refl _,fun _ _ _ => rfl⟩
theorem Keeps.trans {S T : List Nat} {a b c : World} (h : Keeps S a b) (k : Keeps T b c) (hT : ∀ x ∈ T, x ∈ S ∨ a.heap.size ≤ x) : Keeps S a c :=
  ⟨k.os.trans h.os, k.tape.trans h.tape, k.output.trans h.output, Nat.le_trans h.size k.size,fun i hi hs =>
    (k.block i (Nat.lt_of_lt_of_le hi h.size) (fun e => by rcases hT i e with h1 | h1; exact hs h1; omega)).trans (h.block i hi hs)⟩
theorem Keeps.mono {S T : List Nat} {a b : World} (h : Keeps S a b) (hT : ∀ x ∈ S, x ∈ T ∨ a.heap.size ≤ x) : Keeps T a b :=
  ⟨h.os, h.tape, h.output, h.size,fun i hi hs => h.block i hi fun e => by rcases hT i e with h1 | h1; exact hs h1; omega⟩
theorem Keeps.drew {S : List Nat} {a b : World} (h : Keeps S a b) : Keeps S a b.drew := ⟨h.os, h.tape, h.output, h.size, h.block⟩
theorem Keeps.drewN {S : List Nat} {a b : World} (h : Keeps S a b) (n : Nat) : Keeps S a (b.drewN n) := ⟨h.os, h.tape, h.output, h.size, h.block⟩
theorem Keeps.alloc {S : List Nat} {a b : World} (h : Keeps S a b) (o : Obj) : Keeps S a (b.alloc o) :=
  h.trans (T := []) ⟨rfl,rfl,rfl,by simp,fun k hk _ => Below.heap_alloc _ _ _ hk⟩ (fun _ h => by cases h)
theorem Keeps.setCell {S : List Nat} {a b : World} (h : Keeps S a b) {p : Addr} (hp : p.block ∈ S ∨ a.heap.size ≤ p.block) (u : Value) : Keeps S a (b.setCell p u) :=
  h.trans (T := [p.block]) ⟨rfl,rfl,rfl,by simp [World.setCell],fun k hk hs => Below.heap_setCell _ _ _ _ (by simpa using hs)⟩ (by simpa using hp)
theorem Keeps.grown {S : List Nat} {a w w' : World} {row : Option Nat} (h : Keeps S a w) (hg : w.grownBy w' row) (hr : ∀ k, row = some k → k ∈ S ∨ a.heap.size ≤ k) : Keeps S a w' :=
  h.trans (T := row.toList) ⟨hg.os, hg.tape, hg.output, hg.size,fun k hk hs => hg.block k hk (fun e => hs (by simp [← e]))⟩ (by simpa using hr)
theorem Keeps.below {S : List Nat} {B : Nat} {a b : World} (h : Keeps S a b) (hB : B ≤ a.heap.size) (hS : ∀ k ∈ S, B ≤ k) : Below B a b :=
  ⟨h.os, h.tape, h.output, h.size,fun k hk => h.block k (by omega) fun e => by have := hS k e; omega⟩
theorem Below.keeps {B : Nat} {a b : World} (h : Below B a b) (hB : a.heap.size ≤ B) (S : List Nat) : Keeps S a b :=
  ⟨h.os, h.tape, h.output, h.size,fun k hk _ => h.block k (by omega)⟩
theorem Keeps.blk {S : List Nat} {a b : World} (h : Keeps S a b) {k : Nat} {o : Obj} (ho : a.heap[k]? = some o) (hk : k ∉ S) : b.heap[k]? = some o :=
  (h.block k (lt_of_block ho) hk).trans ho
theorem Keeps.row {S : List Nat} {a b : World} (h : Keeps S a b) {e size g n cap : Nat} {xs : List Value}
    (ho : a.ownsRow 0 e size (.slice (some ⟨g,0,none⟩) n cap) n xs) (hk : g ∉ S) : b.ownsRow 0 e size (.slice (some ⟨g,0,none⟩) n cap) n xs := by
  refine ⟨ho.1,?_⟩
  rcases ho.2 with ⟨h0, _⟩ | ⟨g', cap', cur, hv, hb, hh, r⟩
  · cases h0
  · cases hv
    exact .inr ⟨g, cap, cur,rfl, hb, h.blk hh hk, r⟩
theorem blk_setCell {w : World} {b i : Nat} {c : Array Value} {e : TypeId} {f : Nat × Nat} (v : Value) (h : w.heap[b]? = some (.cells c e f)) :
    (w.setCell ⟨b,i,none⟩ v).heap[b]? = some (.cells (c.setIfInBounds i v) e f) := by
  simp [World.setCell, Array.getElem?_modify, h]
theorem blk_setCell_ne {w : World} {b : Nat} {a : Addr} (v : Value) (h : b ≠ a.block) : (w.setCell a v).heap[b]? = w.heap[b]? := Below.heap_setCell _ _ _ _ h
theorem blk_alloc_new {w : World} (o : Obj) : (w.alloc o).heap[w.heap.size]? = some o := heap_alloc_new w o
theorem blk_alloc_old {w : World} (o : Obj) {b : Nat} (h : b < w.heap.size) : (w.alloc o).heap[b]? = w.heap[b]? := Below.heap_alloc _ _ _ h
theorem cell_of_blk {w : World} {b i : Nat} {c : Array Value} {e : TypeId} {f : Nat × Nat} (h : w.heap[b]? = some (.cells c e f)) : w.cell? ⟨b,i,none⟩ = c[i]? := by
  simp [World.cell?, h]
theorem frozen_of_blk {w : World} {b i : Nat} {c : Array Value} {e : TypeId} (h : w.heap[b]? = some (.cells c e (0,0))) : w.frozen? ⟨b,i,none⟩ = false := by
  simp [World.frozen?, h]
theorem cell_some_of_row {w : World} {e g n cap : Nat} {xs : List Value} (h : w.ownsRow 0 e 1 (.slice (some ⟨g,0,none⟩) n cap) n xs) (j : Nat) (hj : j < n) (d : Value) :
    w.cell? ⟨g,j,none⟩ = some (xs.getD j d) := by
  have hl := h.1
  rw [h.cellAt j (by omega)]
  simp [List.getD, show j < xs.length by omega]
theorem row_lt {w : World} {e size g n cap : Nat} {xs : List Value} (h : w.ownsRow 0 e size (.slice (some ⟨g,0,none⟩) n cap) n xs) : g < w.heap.size := (h.lt g rfl).2
theorem row_cap {w : World} {e size g n cap : Nat} {xs : List Value} (h : w.ownsRow 0 e size (.slice (some ⟨g,0,none⟩) n cap) n xs) : n ≤ cap ∧ cap ≤ maxLen := by
  rcases h.2 with ⟨h0, _⟩ | ⟨g', cap', cur, hv, hb, hh, h1, h2, r⟩
  · cases h0
  · cases hv; exact ⟨h1, h2⟩
theorem bcell {W w1 : World} (hb : Below W.heap.size W w1) : (∀ b o, b < W.heap.size → w1.cell? ⟨b,o,none⟩ = W.cell? ⟨b,o,none⟩) ∧ (∀ b o, b < W.heap.size → w1.frozen? ⟨b,o,none⟩ = W.frozen? ⟨b,o,none⟩) :=
  ⟨fun b o h => hb.cell (p := ⟨b,o,none⟩) h,fun b o h => hb.frozen (p := ⟨b,o,none⟩) h⟩
section
variable {P : Program}
theorem run_app (w : World) (t ty e : TypeId) (i : TypeInfo) (z : Value) (size bytes : Nat) (ht : P.underlying t = some (.slice e)) (hi : P.info? e = some i) (hz : i.zero = some z)
    (hsize : i.size = size) (hby : i.bytes = bytes) (hzs : z.cells.size = size) (hsz : 0 < size)
    (v : Value) (n : Nat) (xs : List Value) (hown : w.ownsRow 0 e size v n xs)
    (a : Addr) (m c : Nat) (news : List Value) (hl : news.length = m * size) (hnews : ∀ j u, news[j]? = some u → w.cell? (a.add j) = some u) (h1 : ∀ u ∈ news, u.oneCell' = true)
    (h63 : n + m ≤ maxLen) (hbytes : (n + m) * bytes ≤ 140737488355328) (hm : 0 < m) :
    ∃ g' cap' w', (Builtin.append_ #[t, t] ty #[v, .slice (some a) m c]).run P w = .ok (.slice (some ⟨g',0,none⟩) (n + m) cap') w' ∧
      w'.ownsRow 0 e size (.slice (some ⟨g',0,none⟩) (n + m) cap') (n + m) (xs ++ news) ∧ Keeps v.ownBlock.toList w w' ∧ (v.ownBlock = some g' ∨ w.heap.size ≤ g') := by
  have fin : ∀ (v' : Value) (w' : World), w'.ownsRow w.heap.size e size v' (n + m) (xs ++ news) → w.grownBy w' none →
      (Builtin.append_ #[t, t] ty #[v, .slice (some a) m c]).run P w = .ok v' w' →
      ∃ g' cap' w', (Builtin.append_ #[t, t] ty #[v, .slice (some a) m c]).run P w = .ok (.slice (some ⟨g',0,none⟩) (n + m) cap') w' ∧
        w'.ownsRow 0 e size (.slice (some ⟨g',0,none⟩) (n + m) cap') (n + m) (xs ++ news) ∧ Keeps v.ownBlock.toList w w' ∧ (v.ownBlock = some g' ∨ w.heap.size ≤ g') := by
    intro v' w' ho hg hr
    rcases ho.2 with ⟨_, h0⟩ | ⟨g, cap, cur,rfl, hb, r⟩
    · omega
    · exact ⟨g, cap, w', hr, ⟨ho.1, .inr ⟨g, cap, cur,rfl, Nat.zero_le _, r⟩⟩, (Keeps.refl _ _).grown hg (fun k h => by cases h), .inr hb⟩
  rcases hown.2 with ⟨rfl,rfl⟩ | ⟨g, cap, cur,rfl, hb, hg, hnc, hcm, hcs, htake⟩
  · have hx : xs = [] := List.eq_nil_of_length_eq_zero (by simpa using hown.1)
    subst hx
    obtain ⟨v', w', hr, ho, hgr, _⟩ := run_append_own (P := P) w w.heap.size t ty e i z size bytes ht hi hz hsize hby hzs hsz (.slice none 0 0) 0 [] (World.ownsRow_nil _ _ _ _) a m c news hl hnews h1 h63 hbytes (Nat.le_refl _)
    exact fin v' w' ho hgr hr
  · by_cases hroom : n + m ≤ cap
    · obtain ⟨v', w', hr, ho, hgr, _⟩ := run_append_own (P := P) w 0 t ty e i z size bytes ht hi hz hsize hby hzs hsz _ n xs hown a m c news hl hnews h1 h63 hbytes (Nat.zero_le _)
      have hfit : n * i.size + news.length ≤ cur.size := by rw [hsize, hl, hcs, ← Nat.add_mul]; exact Nat.mul_le_mul_right _ hroom
      have hr2 := run_append_room (P := P) w t ty e i ht hi g n cap cur hg a m c news (by rw [hsize]; exact hl) hnews h1 hroom hfit
      rw [hr] at hr2
      injection hr2 with h3 h4
      subst h3
      exact ⟨g, cap, w', hr, ho, (Keeps.refl _ _).grown hgr (fun k h => .inl (by rw [h]; simp)), .inl rfl⟩
    · obtain ⟨v', w', hr, ho, hgr⟩ := run_append_arg_grows (P := P) w t ty e i z size bytes ht hi hz hsize hby hzs hsz ⟨g,0,none⟩ n cap xs hown.1 (hown.cells rfl) a m c news hl hnews (by omega) h63 hbytes
      exact fin v' w' ho hgr hr
theorem wpList_app (w : World) {ops : Array Oper} {rest : List Oper} {o : Oper} {a : Act} {Q : Exit → Act → World → Prop} (hgd : o.guard = none) (s x : Operand) (t : TypeId)
    (ho : o.op = .call { callee := .builtin .append, args := #[s, x], argTypes := #[t, t] })
    (e : TypeId) (i : TypeInfo) (z : Value) (size bytes : Nat) (ht : P.underlying t = some (.slice e)) (hi : P.info? e = some i) (hz : i.zero = some z)
    (hsize : i.size = size) (hby : i.bytes = bytes) (hzs : z.cells.size = size) (hsz : 0 < size)
    (v : Value) (n : Nat) (xs : List Value) (hs : a.eval s = v) (hown : w.ownsRow 0 e size v n xs)
    (ad : Addr) (m c : Nat) (news : List Value) (hx : a.eval x = .slice (some ad) m c) (hl : news.length = m * size) (hnews : ∀ j u, news[j]? = some u → w.cell? (ad.add j) = some u) (h1 : ∀ u ∈ news, u.oneCell' = true)
    (h63 : n + m ≤ maxLen) (hbytes : (n + m) * bytes ≤ 140737488355328) (hm : 0 < m)
    (h : ∀ g' cap' w', w'.ownsRow 0 e size (.slice (some ⟨g',0,none⟩) (n + m) cap') (n + m) (xs ++ news) → Keeps v.ownBlock.toList w w' → (v.ownBlock = some g' ∨ w.heap.size ≤ g') →
      wpList P ops Q rest (a.put o.dst (.slice (some ⟨g',0,none⟩) (n + m) cap')) w') : wpList P ops Q (o :: rest) a w := by
  refine wpList_plain hgd fun K hK => ?_
  obtain ⟨g', cap', w', hr, h2, h3, h4⟩ := run_app (P := P) w t o.type e i z size bytes ht hi hz hsize hby hzs hsz v n xs hown ad m c news hl hnews h1 h63 hbytes hm
  unfold Oper.wp execOp
  simp only [ho, resolve, invoke, builtin, Sem.run_bind, Sem.run_pure, Result.andThen_ok, List.map_toArray, List.map_cons, List.map_nil, hs, hx, hr]
  exact hK _ _ (h g' cap' w' h2 h3 h4)
theorem wpList_push (w : World) (e : TypeId) (y : Value) (c : Nat × Nat) {ops : Array Oper} {rest : List Oper} {o : Oper} {a : Act} {Q : Exit → Act → World → Prop} (hgd : o.guard = none) (s x : Operand) (t : TypeId)
    (ho : o.op = .call { callee := .builtin .append, args := #[s, x], argTypes := #[t, t] })
    (z : Value) (bytes : Nat) (ht : P.underlying t = some (.slice e)) (hi : (P.info? e).map (fun i => (i.zero, i.size, i.bytes)) = some (some z, 1, bytes))
    (hzs : z.cells.size = 1) (hy : y.oneCell' = true)
    (v : Value) (n : Nat) (xs : List Value) (hs : a.eval s = v) (hown : w.ownsRow 0 e 1 v n xs) (hx : a.eval x = .slice (some ⟨w.heap.size,0,none⟩) 1 1)
    (h63 : n + 1 ≤ maxLen) (hbytes : (n + 1) * bytes ≤ 140737488355328)
    (h : ∀ g' cap' w', w'.ownsRow 0 e 1 (.slice (some ⟨g',0,none⟩) (n + 1) cap') (n + 1) (xs ++ [y]) → Keeps v.ownBlock.toList w w' → (v.ownBlock = some g' ∨ w.heap.size ≤ g') →
      wpList P ops Q rest (a.put o.dst (.slice (some ⟨g',0,none⟩) (n + 1) cap')) w') : wpList P ops Q (o :: rest) a (w.alloc (.cells #[y] e c)) := by
  obtain ⟨i, hi, hz, hsize, hby⟩ := info_parts hi
  refine wpList_app _ hgd s x t ho e i z 1 bytes ht hi hz hsize hby hzs (by decide) v n xs hs (hown.alloc _) ⟨w.heap.size,0,none⟩ 1 1 [y] hx rfl ?_ ?_ h63 hbytes (by decide) ?_
  · intro j u hj
    match j, hj with
    | 0, hj =>
      simp at hj; subst hj
      show (w.alloc _).cell? ⟨w.heap.size,0,none⟩ = _
      rw [cell_of_blk (blk_alloc_new _)]; rfl
  · intro u hu; simp at hu; subst hu; exact hy
  · intro g' cap' w' r k f
    refine h g' cap' w' r ((Keeps.alloc (Keeps.refl _ _) _).trans k fun x hx => .inl hx) ?_
    rcases f with f | f
    · exact .inl f
    · exact .inr (by simp at f; omega)
theorem wpList_push_agg (w : World) (e : TypeId) (ys : Array Value) (c : Nat × Nat) {ops : Array Oper} {rest : List Oper} {o : Oper} {a : Act} {Q : Exit → Act → World → Prop} (hgd : o.guard = none) (s x : Operand) (t : TypeId)
    (ho : o.op = .call { callee := .builtin .append, args := #[s, x], argTypes := #[t, t] })
    (z : Value) (size bytes : Nat) (ht : P.underlying t = some (.slice e)) (hi : (P.info? e).map (fun i => (i.zero, i.size, i.bytes)) = some (some z, size, bytes))
    (hzs : z.cells.size = size) (hsz : 0 < size) (hys : ys.size = size) (hy : ∀ u ∈ ys.toList, u.oneCell' = true)
    (v : Value) (n : Nat) (xs : List Value) (hs : a.eval s = v) (hown : w.ownsRow 0 e size v n xs) (hx : a.eval x = .slice (some ⟨w.heap.size,0,none⟩) 1 1)
    (h63 : n + 1 ≤ maxLen) (hbytes : (n + 1) * bytes ≤ 140737488355328)
    (h : ∀ g' cap' w', w'.ownsRow 0 e size (.slice (some ⟨g',0,none⟩) (n + 1) cap') (n + 1) (xs ++ ys.toList) → Keeps v.ownBlock.toList w w' → (v.ownBlock = some g' ∨ w.heap.size ≤ g') →
      wpList P ops Q rest (a.put o.dst (.slice (some ⟨g',0,none⟩) (n + 1) cap')) w') : wpList P ops Q (o :: rest) a (w.alloc (.cells ys e c)) := by
  obtain ⟨i, hi, hz, hsize, hby⟩ := info_parts hi
  refine wpList_app _ hgd s x t ho e i z size bytes ht hi hz hsize hby hzs hsz v n xs hs (hown.alloc _) ⟨w.heap.size,0,none⟩ 1 1 ys.toList hx (by simpa using hys) ?_ hy h63 hbytes (by decide) ?_
  · intro j u hj
    rw [Addr.add_lit, Nat.zero_add, cell_of_blk (blk_alloc_new _)]
    simpa using hj
  · intro g' cap' w' r k f
    refine h g' cap' w' r ((Keeps.alloc (Keeps.refl _ _) _).trans k fun x hx => .inl hx) ?_
    rcases f with f | f
    · exact .inl f
    · exact .inr (by simp at f; omega)
end
end Go.Proofs.YtkdbjelhkfdfjaaGreatDoor


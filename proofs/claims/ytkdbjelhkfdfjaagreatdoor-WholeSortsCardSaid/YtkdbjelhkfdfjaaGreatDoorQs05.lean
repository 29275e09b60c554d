/-
  Contracts that the law rests on. Conditions: none.
-/
import Derived.Test.YtkdbjelhkfdfjaaGreatDoorQs01
import Derived.Test.YtkdbjelhkfdfjaaGreatDoorQs03
import Derived.Deep.OwnRows
import Derived.OwnWalk
import Derived.Maps.OwnSet
import Derived.Maps.Views
import Derived.ChangeKeysEq
import Derived.Laws.Entries
set_option linter.unusedVariables false
set_option maxRecDepth 100000
set_option maxHeartbeats 16000000
namespace Go.Proofs.YtkdbjelhkfdfjaaGreatDoor
open Go.RowKit
def fCells (F : Nat → List Value) (n : Nat) : List Value := (List.range n).flatMap F
theorem fCells_succ (F : Nat → List Value) (n : Nat) : fCells F (n + 1) = fCells F n ++ F n := by simp [fCells, List.range_succ]
theorem fCells_len {F : Nat → List Value} {n s : Nat} (h : ∀ i, i < n → (F i).length = s) : (fCells F n).length = n * s := by
  induction n with
  | zero => simp [fCells]
  | succ n ih => rw [fCells_succ, List.length_append, ih (fun i hi => h i (by omega)), h n (by omega), Nat.succ_mul]
theorem idx_lt {i n j s : Nat} (hi : i < n) (hj : j < s) : i * s + j < n * s := by
  have : (i + 1) * s ≤ n * s := Nat.mul_le_mul_right s hi
  rw [Nat.succ_mul] at this
  omega
theorem fCells_at {F : Nat → List Value} {n s : Nat} (h : ∀ i, i < n → (F i).length = s) {i j : Nat} (hi : i < n) (hj : j < s) : (fCells F n)[i * s + j]? = (F i)[j]? := by
  induction n with
  | zero => omega
  | succ n ih =>
    have hl := fCells_len (F := F) (n := n) (s := s) (fun i hi => h i (by omega))
    rw [fCells_succ]
    by_cases e : i = n
    · subst e
      rw [List.getElem?_append_right (by omega), hl]
      congr 1; omega
    · have := idx_lt (i := i) (n := n) (by omega) hj
      rw [List.getElem?_append_left (by omega)]
      exact ih (fun i hi => h i (by omega)) (by omega)
theorem fCells_congr {F G : Nat → List Value} {n : Nat} (h : ∀ i, i < n → F i = G i) : fCells F n = fCells G n := by
  induction n with
  | zero => rfl
  | succ n ih => rw [fCells_succ, fCells_succ, ih (fun i hi => h i (by omega)), h n (by omega)]
theorem fCells_set {F : Nat → List Value} {n s : Nat} (h : ∀ i, i < n → (F i).length = s) {i j : Nat} (hi : i < n) (hj : j < s) (v : Value) : (fCells F n).set (i * s + j) v = fCells (upd F i ((F i).set j v)) n := by
  induction n with
  | zero => omega
  | succ n ih =>
    have hl := fCells_len (F := F) (n := n) (s := s) (fun i hi => h i (by omega))
    rw [fCells_succ, fCells_succ]
    by_cases e : i = n
    · subst e
      rw [List.set_append_right _ _ (by omega), hl, upd_same, show i * s + j - i * s = j by omega]
      congr 1
      refine fCells_congr fun k hk => ?_
      rw [upd_other _ _ (by omega)]
    · have := idx_lt (i := i) (n := n) (by omega) hj
      rw [List.set_append_left _ _ (by omega), ih (fun i hi => h i (by omega)) (by omega), upd_other _ _ (by omega)]
structure Arr (w : World) (T s n g : Nat) (F : Nat → List Value) : Prop where
  row : w.ownsRow 0 T s (.slice (some ⟨g,0,none⟩) n n) n (fCells F n)
  size : ∀ i, i < n → (F i).length = s
section
variable {w w' : World} {T s n g : Nat} {F G : Nat → List Value}
theorem Arr.lt (h : Arr w T s n g F) : g < w.heap.size := row_lt h.row
theorem Arr.keep {S : List Nat} (h : Arr w T s n g F) (k : Keeps S w w') (hg : g ∉ S) : Arr w' T s n g F := ⟨k.row h.row hg, h.size⟩
theorem Arr.congr (h : Arr w T s n g F) (e : ∀ i, i < n → F i = G i) : Arr w T s n g G := ⟨by rw [← fCells_congr e]; exact h.row,fun i hi => by rw [← e i hi]; exact h.size i hi⟩
theorem Arr.frozen (h : Arr w T s n g F) (i : Nat) : w.frozen? ⟨g,i,none⟩ = false := by
  rcases h.row.2 with ⟨h0, _⟩ | ⟨g', cap', cur, e, hb, hg, _⟩
  · cases h0
  · cases e; exact frozen_of_blk hg
theorem Arr.cell (h : Arr w T s n g F) {i j : Nat} (hi : i < n) (hj : j < s) : w.cell? ⟨g, i * s + j, none⟩ = (F i)[j]? := by
  rw [World.ownsRow.cellAt h.row (i * s + j) (idx_lt hi hj)]
  exact fCells_at h.size hi hj
theorem Arr.cell1 (h : Arr w T 1 n g F) {i : Nat} (hi : i < n) : w.cell? ⟨g,i,none⟩ = (F i)[0]? := by
  have := h.cell hi (j := 0) (by omega)
  simpa using this
end
theorem rows_set {w : World} {B e s g n cap : Nat} {xs : List Value} (h : w.ownsRow B e s (.slice (some ⟨g,0,none⟩) n cap) n xs) (i : Nat) (u : Value) :
    (w.setCell ⟨g,i,none⟩ u).ownsRow B e s (.slice (some ⟨g,0,none⟩) n cap) n (xs.set i u) := by
  refine ⟨by rw [List.length_set]; exact h.1,?_⟩
  rcases h.2 with ⟨h0, _⟩ | ⟨g', cap', cur, hv, hb, hg, h1, h2, h3, h4⟩
  · cases h0
  · cases hv
    refine .inr ⟨g, cap, cur.setIfInBounds i u,rfl, hb, blk_setCell _ hg, h1, h2,by simpa using h3,?_⟩
    rw [Array.toList_setIfInBounds, List.take_set, h4]
section
variable {w w' : World} {T s n g : Nat} {F G : Nat → List Value}
theorem Arr.set (h : Arr w T s n g F) {i j : Nat} (hi : i < n) (hj : j < s) (v : Value) : Arr (w.setCell ⟨g, i * s + j, none⟩ v) T s n g (upd F i ((F i).set j v)) := by
  refine ⟨?_,?_⟩
  · rw [← fCells_set h.size hi hj]
    exact rows_set h.row _ v
  · intro k hk
    by_cases e : k = i
    · subst e; rw [upd_same, List.length_set]; exact h.size k hk
    · rw [upd_other _ _ e]; exact h.size k hk
theorem Arr.set1 (h : Arr w T 1 n g F) {i : Nat} (hi : i < n) (v : Value) : Arr (w.setCell ⟨g,i,none⟩ v) T 1 n g (upd F i [v]) := by
  have h1 := h.set hi (j := 0) (by omega) v
  have h2 := h.size i hi
  have e : (F i).set 0 v = [v] := by
    cases hF : F i with
    | nil => rw [hF] at h2; simp at h2
    | cons a l => rw [hF] at h2; cases l with
      | nil => rfl
      | cons b l => simp at h2
  rw [e] at h1
  simpa using h1
theorem Arr.alloc (h : Arr w T s n g F) (o : Obj) : Arr (w.alloc o) T s n g F := h.keep ((Keeps.refl [] w).alloc o) (by simp)
end
theorem Keeps.ofDrewN {S : List Nat} {w w' : World} {n : Nat} (h : Keeps S (w.drewN n) w') : Keeps S w w' := ⟨h.os, h.tape, h.output, h.size, h.block⟩
theorem Keeps.ofDrew {S : List Nat} {w w' : World} (h : Keeps S w.drew w') : Keeps S w w' := ⟨h.os, h.tape, h.output, h.size, h.block⟩
structure Moved (F : List Nat) (w : World) (F' : List Nat) (w' : World) : Prop where
  keeps : Keeps F w w'
  from' : ∀ b ∈ F', b ∈ F ∨ w.heap.size ≤ b
  lt : ∀ b ∈ F', b < w'.heap.size
section
variable {F F' F'' G : List Nat} {w w' w'' : World}
theorem Moved.trans (h : Moved F w F' w') (k : Moved F' w' F'' w'') : Moved F w F'' w'' :=
  ⟨h.keeps.trans k.keeps h.from',fun b hb => by
    rcases k.from' b hb with c | c
    · exact h.from' b c
    · exact .inr (Nat.le_trans h.keeps.size c), k.lt⟩
theorem Moved.below (hF : ∀ b ∈ F, b < w.heap.size) (h : Below w.heap.size w w') : Moved F w F w' := ⟨Below.keeps h (Nat.le_refl _) F,fun b hb => .inl hb,fun b hb => Nat.lt_of_lt_of_le (hF b hb) h.size⟩
theorem Moved.part' (h : Moved F w F' w') (hG : ∀ b ∈ G, b < w.heap.size) : Moved (G ++ F) w (G ++ F') w' :=
  ⟨h.keeps.mono fun b hb => .inl (by simp [hb]),fun b hb => by
    rw [List.mem_append] at hb ⊢
    rcases hb with c | c
    · exact .inl (.inl c)
    · rcases h.from' b c with d | d
      · exact .inl (.inr d)
      · exact .inr d,fun b hb => by
    rw [List.mem_append] at hb
    rcases hb with c | c
    · exact Nat.lt_of_lt_of_le (hG b c) h.keeps.size
    · exact h.lt b c⟩
end
end Go.Proofs.YtkdbjelhkfdfjaaGreatDoor
namespace Go.Proofs.YtkdbjelhkfdfjaaGreatDoor
open Go.RowKit Go.Maps
structure MapTy (P : Program) (t k : TypeId) : Prop where
  ht : P.underlying t = some (.map k k)
  hk : P.underlying k = some (.int .i64)
  hz : ∀ w, (zeroValue k).run P w = .ok (.int .i64 0) w
theorem MapTy.key {P : Program} {t k : TypeId} (m : MapTy P t k) : Keyed P k := int_keyed m.hk
theorem ownsMap_tight {P : Program} {k : TypeId} {R : Value → Option (DataW Unit × List MemPlace)} {w : World} {b n : Nat} {D : DataW Unit} (h : w.ownsMap P k R b n D) : w.ownsMap P k R b (Maps.size D) D := by
  obtain ⟨es, clock, hb, F, hs,rfl⟩ := h
  refine ⟨es, clock, hb, F,?_,rfl⟩
  rw [Maps.size_eq, length_read]
  exact Nat.le_refl _
def IMap (P : Program) (k : TypeId) (w : World) (b c : Nat) (f : Int → Option Int) : Prop :=
  ∃ D : DataW Unit, w.ownsMap P k (plainElem P k) b c D ∧ Maps.size D = c ∧
    ∀ x : Int, Maps.has D (.int .i64 x) = (f x).isSome ∧ D.atKey (.int .i64 x) (.lit (.int .i64 0)) = .lit (.int .i64 ((f x).getD 0))
theorem i64key (x : Int) : WideAt.IsKeyLit (.int .i64 x) := by simp [WideAt.IsKeyLit]
section
variable {P : Program} {t k : TypeId} {w w' : World} {b c : Nat} {f : Int → Option Int}
theorem IMap.made (P : Program) (k : TypeId) (w : World) : IMap P k (w.alloc (.map #[] 0)) w.heap.size 0 (fun _ => none) :=
  ⟨.map [], World.ownsMap_made w P k _,rfl,fun x => ⟨rfl,rfl⟩⟩
theorem IMap.lt (h : IMap P k w b c f) : b < w.heap.size := by obtain ⟨D, h1, _⟩ := h; exact h1.lt
theorem IMap.blk (h : IMap P k w b c f) (e : w'.heap[b]? = w.heap[b]?) : IMap P k w' b c f := by
  obtain ⟨D, ⟨es, clock, hb, r⟩, h2⟩ := h
  exact ⟨D, ⟨es, clock, e.trans hb, r⟩, h2⟩
theorem IMap.keep {S : List Nat} (h : IMap P k w b c f) (hk : Keeps S w w') (hb : b ∉ S) : IMap P k w' b c f := h.blk (hk.block b h.lt hb)
theorem IMap.put (m : MapTy P t k) (h : IMap P k w b c f) {x y : Int} (D : DataW Unit)
    (hD : Maps.size D = c ∧ ∀ x : Int, Maps.has D (.int .i64 x) = (f x).isSome ∧ D.atKey (.int .i64 x) (.lit (.int .i64 0)) = .lit (.int .i64 ((f x).getD 0)))
    (h0 : w.ownsMap P k (plainElem P k) b c D) (h1 : w'.ownsMap P k (plainElem P k) b (c + 1) (D.put (.int .i64 x) (.lit (.int .i64 y)))) :
    IMap P k w' b (if (f x).isSome then c else c + 1) (fun z => if z = x then some y else f z) := by
  have ht := h0.tidy m.key
  have hs := size_put (k := .int .i64 x) ht (.lit (.int .i64 y))
  rw [(hD.2 x).1, hD.1] at hs
  have h2 := ownsMap_tight h1
  rw [hs] at h2
  refine ⟨_, h2, hs,fun z => ?_⟩
  by_cases e : z = x
  · subst e
    simp only [if_true]
    exact ⟨has_put_same h0.isMap (i64key z) _, atKey_put_same h0.isMap (i64key z) _ _⟩
  · have e' : (Lit.int .i64 z) ≠ .int .i64 x := fun c => e (by cases c; rfl)
    simp only [e, if_false]
    rw [has_put_other e', atKey_put_other e']
    exact hD.2 z
theorem IMap.del (m : MapTy P t k) {x : Int} (D : DataW Unit)
    (hD : Maps.size D = c ∧ ∀ x : Int, Maps.has D (.int .i64 x) = (f x).isSome ∧ D.atKey (.int .i64 x) (.lit (.int .i64 0)) = .lit (.int .i64 ((f x).getD 0)))
    (h0 : w.ownsMap P k (plainElem P k) b c D) {n : Nat} (h1 : w'.ownsMap P k (plainElem P k) b n (D.del (.int .i64 x))) :
    IMap P k w' b (if (f x).isSome then c - 1 else c) (fun z => if z = x then none else f z) := by
  have ht := h0.tidy m.key
  have hs := size_del (k := .int .i64 x) ht
  rw [(hD.2 x).1, hD.1] at hs
  have h2 := ownsMap_tight h1
  have hs' : Maps.size (D.del (.int .i64 x)) = if (f x).isSome then c - 1 else c := by
    split at hs <;> simp_all <;> omega
  rw [hs'] at h2
  refine ⟨_, h2, hs',fun z => ?_⟩
  by_cases e : z = x
  · subst e
    simp only [if_true]
    exact ⟨has_del_same, atKey_del_same _⟩
  · have e' : (Lit.int .i64 z) ≠ .int .i64 x := fun c => e (by cases c; rfl)
    simp only [e, if_false]
    rw [has_del_other e', atKey_del_other e']
    exact hD.2 z
theorem wpList_imap_put {ops : Array Oper} {rest : List Oper} {o : Oper} {a : Act} {Q : Exit → Act → World → Prop}
    (hg : o.guard = none) (mo xo vo : Operand) (hop : o.op = Op.mapUpdate t mo xo vo) (m : MapTy P t k) (b c : Nat) (f : Int → Option Int)
    (hm : a.eval mo = .map (some b)) (h : IMap P k w b c f) (hc : c < maxLen) (x y : Int) (hx : a.eval xo = .int .i64 x) (hv : a.eval vo = .int .i64 y) (hxw : (Lit.int .i64 x).wf = true) (hyw : (Lit.int .i64 y).wf = true)
    (hK : ∀ w', IMap P k w' b (if (f x).isSome then c else c + 1) (fun z => if z = x then some y else f z) → w.grownBy w' (some b) → wpList P ops Q rest (a.put o.dst undef) w') :
    wpList P ops Q (o :: rest) a w := by
  have h' := h
  obtain ⟨D, h1, h2⟩ := h'
  refine wpList_mapUpdate_own w hg mo xo vo t hop k k m.key m.ht _ b c D hm h1 hc _ _ _ hx hv (keyOf_int_mk m.hk hxw) _ [] (plainElem_int m.hk hyw) ?_
  intro w' hown hgrow
  exact hK w' (h.put m D h2 h1 hown) hgrow
theorem wpList_imap_look {ops : Array Oper} {rest : List Oper} {o : Oper} {a : Act} {Q : Exit → Act → World → Prop}
    (hg : o.guard = none) (mo xo : Operand) (hop : o.op = Op.lookup t mo xo false) (m : MapTy P t k) (b c : Nat) (f : Int → Option Int)
    (hm : a.eval mo = .map (some b)) (h : IMap P k w b c f) (x : Int) (hx : a.eval xo = .int .i64 x) (hxw : (Lit.int .i64 x).wf = true)
    (hK : wpList P ops Q rest (a.put o.dst (.int .i64 ((f x).getD 0))) w) :
    wpList P ops Q (o :: rest) a w := by
  obtain ⟨D, h1, h2, h3⟩ := h
  refine wpList_lookup_own_int w hg mo xo t hop k k .i64 m.key m.ht m.hk (m.hz w) b c D hm h1 _ _ hx (keyOf_int_mk m.hk hxw) ?_
  intro y hy _
  rw [(h3 x).2] at hy
  cases hy
  exact hK
theorem wpList_imap_look_ok {ops : Array Oper} {rest : List Oper} {o : Oper} {a : Act} {Q : Exit → Act → World → Prop}
    (hg : o.guard = none) (mo xo : Operand) (hop : o.op = Op.lookup t mo xo true) (m : MapTy P t k) (b c : Nat) (f : Int → Option Int)
    (hm : a.eval mo = .map (some b)) (h : IMap P k w b c f) (x : Int) (hx : a.eval xo = .int .i64 x) (hxw : (Lit.int .i64 x).wf = true)
    (hK : wpList P ops Q rest (a.put o.dst (.tuple #[.int .i64 ((f x).getD 0), .bool (f x).isSome])) w) :
    wpList P ops Q (o :: rest) a w := by
  obtain ⟨D, h1, h2, h3⟩ := h
  refine wpList_lookup_own_ok_int w hg mo xo t hop k k .i64 m.key m.ht m.hk (m.hz w) b c D hm h1 _ _ hx (keyOf_int_mk m.hk hxw) ?_
  intro y hy _
  rw [(h3 x).2] at hy
  cases hy
  rw [(h3 x).1]
  exact hK
theorem wpList_imap_del {ops : Array Oper} {rest : List Oper} {o : Oper} {a : Act} {Q : Exit → Act → World → Prop}
    (hg : o.guard = none) (mo xo : Operand) (hop : o.op = Op.call { callee := Callee.builtin Builtin.delete, args := #[mo, xo], argTypes := #[t, k] }) (m : MapTy P t k) (b c : Nat) (f : Int → Option Int)
    (hm : a.eval mo = .map (some b)) (h : IMap P k w b c f) (x : Int) (hx : a.eval xo = .int .i64 x) (hxw : (Lit.int .i64 x).wf = true)
    (hK : ∀ w', IMap P k w' b (if (f x).isSome then c - 1 else c) (fun z => if z = x then none else f z) → w.grownBy w' (some b) → wpList P ops Q rest (a.put o.dst (.tuple #[])) w') :
    wpList P ops Q (o :: rest) a w := by
  obtain ⟨D, h1, h2⟩ := h
  refine wpList_delete_own w hg mo xo t k hop k m.key m.ht _ b c D hm h1 _ _ hx (keyOf_int_mk m.hk hxw) ?_
  intro w' hown hturn
  exact hK w' (IMap.del m D h2 h1 hown) hturn.grown
end
end Go.Proofs.YtkdbjelhkfdfjaaGreatDoor
namespace Go.Proofs.YtkdbjelhkfdfjaaGreatDoor
open Go.RowKit
section
variable {P : Program}
theorem em_info {t : TypeId} {i : TypeInfo} (h : P.info? t = some i) (w : World) : (typeInfo t).run P w = .ok i w := by
  unfold typeInfo
  simp [Sem.run_bind, h, Result.andThen]
theorem run_method_embed (w : World) (fuel : Nat) (T S e : TypeId) (ti tf : TypeInfo) (name : String) (m : Method) (f : Field) (fields : Array Field) (p : Nat) (k : FuncId) (v : Value)
    (h1 : P.info? T = some ti) (h2 : ti.methods.find? (·.name == name) = some m) (h3 : m.path = #[⟨S, 0, true⟩]) (h4 : m.func = some (k, true)) (h5 : P.underlying S = some (.struct fields)) (h6 : fields[0]? = some f) (h7 : f.offset = 0)
    (h8 : P.underlying f.type = some (.pointer e)) (h9 : P.info? f.type = some tf) (h10 : tf.size = 1) (hc : w.cell? ⟨p,0,none⟩ = some v) : (method (fuel + 1) T (.pointer (some ⟨p,0,none⟩)) name).run P w = .ok (k, v) w := by
  have e1 := em_info h1 w
  have e2 := run_underlying h5 w
  have e3 := run_underlying h8 w
  have e4 := em_info h9 w
  unfold method
  simp [Sem.run_bind, e1, h2, h3, h4, follow, e2, h6, Place.get, asAddr, fieldPlace, sizeOf, e4, h7, h10, receiverAt, e3, loadVar, isAgg, Addr.add, hc, Result.andThen]
theorem run_method_embedded (w : World) (fuel : Nat) (T S e t : TypeId) (name : String) (p : Nat) (k : FuncId) (v : Value)
    (h1 : (P.info? T).bind (fun i => (i.methods.find? (·.name == name)).map fun m => (m.path, m.func)) = some (#[⟨S, 0, true⟩], some (k, true)))
    (h5 : (P.underlying S).bind (fun d => match d with | .struct fields => (fields[0]?).map (fun f => (f.type, f.offset)) | _ => none) = some (t, 0))
    (h8 : P.underlying t = some (.pointer e)) (h9 : (P.info? t).map (·.size) = some 1) (hc : w.cell? ⟨p,0,none⟩ = some v) : (method (fuel + 1) T (.pointer (some ⟨p,0,none⟩)) name).run P w = .ok (k, v) w := by
  obtain ⟨ti, a1, a2⟩ := Option.bind_eq_some_iff.1 h1
  obtain ⟨m, b1, b2⟩ := Option.map_eq_some_iff.1 a2
  obtain ⟨d, c1, c2⟩ := Option.bind_eq_some_iff.1 h5
  obtain ⟨tf, d1, d2⟩ := Option.map_eq_some_iff.1 h9
  cases d with
  | struct fields =>
    obtain ⟨f, f1, f2⟩ := Option.map_eq_some_iff.1 c2
    simp only [Prod.mk.injEq] at b2 f2
    obtain ⟨rfl, f3⟩ := f2
    exact run_method_embed w fuel T S e ti tf name m f fields p k v a1 b1 b2.1 b2.2 c1 f1 f3 h8 d1 d2 hc
  | _ => simp at c2
end
end Go.Proofs.YtkdbjelhkfdfjaaGreatDoor


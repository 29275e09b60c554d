/-
  Contracts that the law rests on. Conditions: none.
-/
import Derived.Test.YtkdbjelhkfdfjaaGreatDoorQs02
import Derived.Test.YtkdbjelhkfdfjaaGreatDoorQt05
import Derived.Test.YtkdbjelhkfdfjaaGreatDoorQt08
set_option linter.unusedVariables false
set_option maxRecDepth 100000
set_option maxHeartbeats 16000000
namespace Go.Proofs.YtkdbjelhkfdfjaaGreatDoor
open Go.RowKit
theorem turn_wf {k : Int} (h : (Lit.int .i64 k).wf = true) : (Lit.int .i64 (turn k)).wf = true := by
  have e1 : IntKind.i64.min = -9223372036854775808 := rfl
  have e2 : IntKind.i64.max = 9223372036854775807 := rfl
  simp only [Lit.wf, e1, e2, Bool.and_eq_true, decide_eq_true_eq] at h ⊢
  unfold turn
  omega
theorem turnV_eq {k : Int} (h : (Lit.int .i64 k).wf = true) : turnV k = turn k := by
  have e1 : IntKind.i64.min = -9223372036854775808 := rfl
  have e2 : IntKind.i64.max = 9223372036854775807 := rfl
  simp only [Lit.wf, e1, e2, Bool.and_eq_true, decide_eq_true_eq] at h
  have h0 : BitVec.ofInt 64 (-1) = BitVec.allOnes 64 := by decide
  show IntKind.i64.wrap ((BitVec.ofInt 64 (-1) ^^^ BitVec.ofInt 64 k).toNat : Int) = _
  rw [h0, BitVec.allOnes_xor, BitVec.toNat_not, BitVec.toNat_ofInt]
  have e3 : IntKind.i64.wrap = fun n => if n % 18446744073709551616 ≥ 9223372036854775808 then n % 18446744073709551616 - 18446744073709551616 else n % 18446744073709551616 := by
    funext n; simp [IntKind.wrap, IntKind.bits, IntKind.signed]
  rw [e3]
  unfold turn
  simp only
  split <;> omega
theorem eturn_calls (w : World) (k : Int) (h : (Lit.int .i64 k).wf = true) : Calls Tryz.prog 30 #[.int .i64 k] w fun e w' => e = .returned (.int .i64 (turn k)) ∧ w = w' := by
  rw [<- turnV_eq h]; exact turn_calls w k
def MedQ (w : World) (s k n : Nat) (v : Value) (outs : List Int) (A B : List Int) (lv qb : Nat) (wr : World) : Prop :=
  ∃ (E : Ent) (G : Nat -> Nat) (F : List Nat) (q : Nat), StoreAt wr F s k n 2 E q 4294967295 G ∧ q <= qb ∧ held E n = lv ∧ List.Perm (keysOf E n 1) (A.map turn) ∧ List.Perm (keysOf E n 2) B ∧
    Keeps [] w wr ∧ (∀ b ∈ F, w.heap.size <= b) ∧ KRow w.heap.size wr v outs ∧ (∀ b, v.ownBlock = some b -> b ∉ F) ∧ (∀ a ∈ A,(Lit.int .i64 a).wf = true) ∧ ∀ b ∈ B,(Lit.int .i64 b).wf = true
section
variable {w wr : World} {s k n : Nat} {v : Value} {outs A B : List Int} {lv qb : Nat}
theorem MedQ.keep0 {w2 : World} (h : MedQ w s k n v outs A B lv qb wr) (kk : Keeps [] wr w2) : MedQ w s k n v outs A B lv qb w2 := by
  obtain ⟨E, G, F, q, h1, h2, h3, h4, h5, h6, h7, h8, h9, h10⟩ := h
  exact ⟨E, G, F, q, h1.keep kk (by simp), h2, h3, h4, h5, h6.trans kk (by simp), h7, h8.keep kk (by simp), h9, h10⟩
theorem MedQ.next {E' : Ent} {G' : Nat -> Nat} {F F' : List Nat} {q' : Nat} {A' B' : List Int} {lv' qb' : Nat} {w2 : World} (h6 : Keeps [] w wr) (h7 : ∀ b ∈ F, w.heap.size <= b) (h8 : KRow w.heap.size wr v outs) (h9 : ∀ b, v.ownBlock = some b -> b ∉ F)
    (st : StoreAt w2 F' s k n 2 E' q' 4294967295 G') (mv : Moved F wr F' w2) (hq : q' <= qb') (hh : held E' n = lv') (p1 : List.Perm (keysOf E' n 1) (A'.map turn)) (p2 : List.Perm (keysOf E' n 2) B')
    (hA : ∀ a ∈ A',(Lit.int .i64 a).wf = true) (hB : ∀ b ∈ B',(Lit.int .i64 b).wf = true) : MedQ w s k n v outs A' B' lv' qb' w2 := by
  have hown := h8.own
  refine ⟨E', G', F', q', st, hq, hh, p1, p2, h6.trans mv.keeps (fun b hb => .inr (h7 b hb)),fun b hb => ?_, h8.keep mv.keeps h9,fun b eb f => ?_, hA, hB⟩
  · rcases mv.from' b hb with c | c
    · exact h7 b c
    · have := h6.size; omega
  · rcases mv.from' b f with c | c
    · exact h9 b eb c
    · have := (hown b eb).2; omega
theorem med_insert1 (h : MedQ w s k n v outs A B lv qb wr) (hl : lv < n) (hqb : qb < 4294967294) (key : Int) (hwf : (Lit.int .i64 key).wf = true) :
    Calls Tryz.prog 14 #[.pointer (some ⟨s,0,none⟩),.int .i64 1,.int .i64 (turn key)] wr fun e w2 => (∃ x g : Int, e = .returned (.tuple #[.agg #[.int .i64 x,.int .u32 g],.int .i64 0])) ∧ MedQ w s k n v outs (key :: A) B (lv + 1) (qb + 1) w2 := by
  obtain ⟨E, G, F, q, h1, h2, h3, h4, h5, h6, h7, h8, h9, h10, h11⟩ := h
  obtain ⟨x, hx, hxn⟩ := held_room (E := E) (n := n) (by omega)
  have hg := h1.gq x
  refine (pq_insert wr F s k n 2 E q 4294967295 G h1 1 (turn key) (by omega) (by omega) (turn_wf hwf) (by omega) ⟨x, hx, hxn,by omega⟩).mono ?_
  rintro e w2 ⟨i, hi, hn,rfl, F', st, mv⟩
  refine ⟨⟨_, _,rfl⟩, MedQ.next h6 h7 h8 h9 st mv (by omega) (by rw [held_in hi hn]; omega) ?_ ?_ ?_ h11⟩
  · exact (keysOf_in hi hn _).trans (h4.cons _)
  · rw [keysOf_in_other hn (by decide)]; exact h5
  · intro a ha
    rcases List.mem_cons.1 ha with rfl | ha
    · exact hwf
    · exact h10 a ha
theorem med_insert2 (h : MedQ w s k n v outs A B lv qb wr) (hl : lv < n) (hqb : qb < 4294967294) (key : Int) (hwf : (Lit.int .i64 key).wf = true) :
    Calls Tryz.prog 14 #[.pointer (some ⟨s,0,none⟩),.int .i64 2,.int .i64 key] wr fun e w2 => (∃ x g : Int, e = .returned (.tuple #[.agg #[.int .i64 x,.int .u32 g],.int .i64 0])) ∧ MedQ w s k n v outs A (key :: B) (lv + 1) (qb + 1) w2 := by
  obtain ⟨E, G, F, q, h1, h2, h3, h4, h5, h6, h7, h8, h9, h10, h11⟩ := h
  obtain ⟨x, hx, hxn⟩ := held_room (E := E) (n := n) (by omega)
  have hg := h1.gq x
  refine (pq_insert wr F s k n 2 E q 4294967295 G h1 2 key (by omega) (by omega) hwf (by omega) ⟨x, hx, hxn,by omega⟩).mono ?_
  rintro e w2 ⟨i, hi, hn,rfl, F', st, mv⟩
  refine ⟨⟨_, _,rfl⟩, MedQ.next h6 h7 h8 h9 st mv (by omega) (by rw [held_in hi hn]; omega) ?_ ?_ h10 ?_⟩
  · rw [keysOf_in_other hn (by decide)]; exact h4
  · exact (keysOf_in hi hn _).trans (h5.cons _)
  · intro a ha
    rcases List.mem_cons.1 ha with rfl | ha
    · exact hwf
    · exact h11 a ha
theorem perm_turn {l A : List Int} (h : List.Perm l (A.map turn)) : List.Perm (l.map turn) A := by
  have := h.map turn
  rwa [List.map_map, show turn ∘ turn = id from funext turn_turn, List.map_id] at this
theorem med_top {E : Ent} {x q : Nat} {key : Int} (h4 : List.Perm (keysOf E n 1) (A.map turn)) (hl : least E 1 x) (hx : x < n) (he : E x = some (1, key, q)) : turn key ∈ A ∧ ∀ a ∈ A, a <= turn key := by
  constructor
  · exact (perm_turn h4).mem_iff.1 (List.mem_map.2 ⟨key, mem_keysOf.2 ⟨x, q, hx, he⟩,rfl⟩)
  · intro a ha
    have := least_key (n := n) hl he (turn a) (h4.mem_iff.2 (List.mem_map.2 ⟨a, ha,rfl⟩))
    have h2 := turn_le (a := turn (turn key)) (b := turn (turn (turn a)))
    unfold turn at *; omega
theorem some_in {E : Ent} {h : Nat} {l : List Int} (hp : List.Perm (keysOf E n h) l) (hne : l ≠ []) : ∃ y, isIn E h y := by
  cases l with
  | nil => exact absurd rfl hne
  | cons a l =>
    obtain ⟨x, q, _, e⟩ := mem_keysOf.1 (hp.mem_iff.2 (List.mem_cons_self ..))
    exact ⟨x, _, e⟩
theorem med_extract1 (h : MedQ w s k n v outs A B (lv + 1) qb wr) (hne : A ≠ []) :
    Calls Tryz.prog 31 #[.pointer (some ⟨s,0,none⟩),.int .i64 1] wr fun e w2 => ∃ (x g top : Int) (A' : List Int), e = .returned (.tuple #[.agg #[.int .i64 x,.int .u32 g],.int .i64 (turn top),.int .i64 0]) ∧ (Lit.int .i64 top).wf = true ∧ List.Perm A (top :: A') ∧ (∀ a ∈ A, a <= top) ∧ MedQ w s k n v outs A' B lv qb w2 := by
  obtain ⟨E, G, F, q, h1, h2, h3, h4, h5, h6, h7, h8, h9, h10, h11⟩ := h
  refine (pq_extract_yes wr F s k n 2 E q 4294967295 G h1 1 (by omega) (by omega) (some_in h4 (by simpa using hne))).mono ?_
  rintro e w2 ⟨x, nn, key, hl, hex,rfl, F', st, mv⟩
  have hx := h1.ok.lt x hl.1.some
  obtain ⟨t1, t2⟩ := med_top h4 hl hx hex
  have hpA : List.Perm A (turn key :: A.erase (turn key)) := List.perm_cons_erase t1
  have hout := keysOf_out hx hex
  have hp1 : List.Perm (keysOf (put E x none) n 1) ((A.erase (turn key)).map turn) := by
    have := (hout.symm.trans h4).trans (hpA.map turn)
    rw [List.map_cons, turn_turn] at this
    exact this.cons_inv
  refine ⟨_, _, turn key, A.erase (turn key),by rw [turn_turn], h10 _ t1, hpA, t2, MedQ.next h6 h7 h8 h9 st mv h2 (by have := held_out hx hex; omega) hp1 ?_ (fun a ha => h10 a (hpA.mem_iff.2 (List.mem_cons_of_mem _ ha))) h11⟩
  rw [keysOf_out_other hex (by decide)]; exact h5
theorem med_extract2 (h : MedQ w s k n v outs A B (lv + 1) qb wr) (hne : B ≠ []) :
    Calls Tryz.prog 31 #[.pointer (some ⟨s,0,none⟩),.int .i64 2] wr fun e w2 => ∃ (x g low : Int) (B' : List Int), e = .returned (.tuple #[.agg #[.int .i64 x,.int .u32 g],.int .i64 low,.int .i64 0]) ∧ (Lit.int .i64 low).wf = true ∧ List.Perm B (low :: B') ∧ (∀ a ∈ B, low <= a) ∧ MedQ w s k n v outs A B' lv qb w2 := by
  obtain ⟨E, G, F, q, h1, h2, h3, h4, h5, h6, h7, h8, h9, h10, h11⟩ := h
  refine (pq_extract_yes wr F s k n 2 E q 4294967295 G h1 2 (by omega) (by omega) (some_in h5 hne)).mono ?_
  rintro e w2 ⟨x, nn, key, hl, hex,rfl, F', st, mv⟩
  have hx := h1.ok.lt x hl.1.some
  have t1 : key ∈ B := h5.mem_iff.1 (mem_keysOf.2 ⟨x, nn, hx, hex⟩)
  have hpB : List.Perm B (key :: B.erase key) := List.perm_cons_erase t1
  have hout := keysOf_out hx hex
  have hp1 : List.Perm (keysOf (put E x none) n 2) (B.erase key) := ((hout.symm.trans h5).trans hpB).cons_inv
  refine ⟨_, _, key, B.erase key,rfl, h11 _ t1, hpB,fun a ha => least_key hl hex a (h5.mem_iff.2 ha), MedQ.next h6 h7 h8 h9 st mv h2 (by have := held_out hx hex; omega) ?_ hp1 h10 (fun a ha => h11 a (hpB.mem_iff.2 (List.mem_cons_of_mem _ ha)))⟩
  rw [keysOf_out_other hex (by decide)]; exact h4
theorem med_min (h : MedQ w s k n v outs A B lv qb wr) (hne : A ≠ []) :
    Calls Tryz.prog 32 #[.pointer (some ⟨s,0,none⟩),.int .i64 1] wr fun e w2 => ∃ x g top : Int, e = .returned (.tuple #[.agg #[.int .i64 x,.int .u32 g],.int .i64 (turn top),.int .i64 0]) ∧ (Lit.int .i64 top).wf = true ∧ top ∈ A ∧ (∀ a ∈ A, a <= top) ∧ MedQ w s k n v outs A B lv qb w2 := by
  obtain ⟨E, G, F, q, h1, h2, h3, h4, h5, h6, h7, h8, h9, h10, h11⟩ := h
  refine (pq_min_yes wr F s k n 2 E q 4294967295 G h1 1 (by omega) (by omega) (some_in h4 (by simpa using hne))).mono ?_
  rintro e w2 ⟨x, nn, key, hl, hex,rfl, st, kk⟩
  have hx := h1.ok.lt x hl.1.some
  obtain ⟨t1, t2⟩ := med_top h4 hl hx hex
  exact ⟨_, _, turn key,by rw [turn_turn], h10 _ t1, t1, t2, E, G, F, q, st, h2, h3, h4, h5, h6.trans kk (fun b hb => .inr (h7 b hb)), h7, h8.keep kk h9, h9, h10, h11⟩
theorem MedQ.row (h : MedQ w s k n v outs A B lv qb wr) : wr.ownsRow 0 2 1 v outs.length (keysV outs) := by
  obtain ⟨E, G, F, q, h1, h2, h3, h4, h5, h6, h7, h8, h9, h10, h11⟩ := h
  exact h8.lo (Nat.zero_le _)
theorem MedQ.push {ao : Option Addr} {ca g' c' : Nat} {x : Int} {w2 : World} (h : MedQ w s k n (.slice ao outs.length ca) outs A B lv qb wr)
    (hr : w2.ownsRow 0 2 1 (.slice (some ⟨g',0,none⟩) (outs.length + 1) c') (outs.length + 1) (keysV outs ++ [.int .i64 x])) (k2 : Keeps (Value.slice ao outs.length ca).ownBlock.toList wr w2) (hg2 : (Value.slice ao outs.length ca).ownBlock = some g' ∨ wr.heap.size <= g') :
    MedQ w s k n (.slice (some ⟨g',0,none⟩) (outs.length + 1) c') (outs ++ [x]) A B lv qb w2 := by
  obtain ⟨E, G, F, q, h1, h2, h3, h4, h5, h6, h7, h8, h9, h10, h11⟩ := h
  have hown := h8.own
  have hlt := h1.lt
  refine ⟨E, G, F, q, h1.keep k2 (fun b hb e => h9 b (by simpa [Option.mem_toList] using e) hb), h2, h3, h4, h5, h6.trans k2 (fun b hb => .inr (hown b (by simpa [Option.mem_toList] using hb)).1), h7,?_,fun b eb f => ?_, h10, h11⟩
  · have hg' : w.heap.size <= g' := by
      rcases hg2 with e | e
      · exact (hown g' e).1
      · have := h6.size; omega
    exact KRow.pushed hr hg'
  · simp [Value.ownBlock] at eb; subst eb
    rcases hg2 with e | e
    · exact h9 _ e f
    · have := hlt _ f; omega
end
theorem eturn_back (w : World) (k : Int) (h : (Lit.int .i64 k).wf = true) : Calls Tryz.prog 30 #[.int .i64 (turn k)] w fun e w' => e = .returned (.int .i64 k) ∧ w = w' := by
  have := eturn_calls w (turn k) (turn_wf h)
  rwa [turn_turn] at this
def MediansDone (w : World) (keys : List Int) (e : Ending) (w' : World) : Prop :=
  ∃ (outs : List Int) (v : Value), e = .returned (.tuple #[v,.int .i64 0]) ∧ outs.length = keys.length ∧ KRow w.heap.size w' v outs ∧ Keeps [] w w' ∧
    (0 < keys.length -> ∃ A B m, MedP keys A B ∧ m ∈ A ∧ (∀ a ∈ A, a <= m) ∧ outs[keys.length - 1]? = some m)
theorem MedQ.form {w wr : World} {s k n : Nat} {v : Value} {outs A B : List Int} {lv qb : Nat} (h : MedQ w s k n v outs A B lv qb wr) : ∃ ao ca, v = .slice ao outs.length ca := by
  obtain ⟨_, _, _, _, _, _, _, _, _, _, _, hr, _⟩ := h
  exact hr.form
theorem MedQ.kp {w wr : World} {s k n : Nat} {v : Value} {outs A B : List Int} {lv qb : Nat} (h : MedQ w s k n v outs A B lv qb wr) : Keeps [] w wr := by
  obtain ⟨_, _, _, _, _, _, _, _, _, hr, _⟩ := h
  exact hr
def MedS (w : World) (s k : Nat) (keys : List Int) (i : Nat) (v : Value) (wr : World) : Prop :=
  ∃ outs A B, MedQ w s k keys.length v outs A B i (3 * i) wr ∧ MedP (keys.take i) A B ∧ outs.length = i ∧ (0 < i -> ∃ m ∈ A,(∀ a ∈ A, a <= m) ∧ outs[i - 1]? = some m)
theorem MedS.next {w wr w2 : World} {s k i ca g' c' : Nat} {keys outs A' B' : List Int} {ao : Option Addr} {key m : Int} {qb : Nat}
    (hi : keys[i]? = some key) (hq : MedQ w s k keys.length (.slice ao outs.length ca) outs A' B' (i + 1) qb wr) (hqb : qb <= 3 * (i + 1)) (hl : outs.length = i) (p1 : List.Perm (A' ++ B') (keys.take i ++ [key])) (p2 : ∀ a ∈ A', ∀ b ∈ B', a <= b) (p3 : A'.length = (i + 2) / 2)
    (hm : m ∈ A') (hmx : ∀ a ∈ A', a <= m)
    (hr : w2.ownsRow 0 2 1 (.slice (some ⟨g',0,none⟩) (outs.length + 1) c') (outs.length + 1) (keysV outs ++ [.int .i64 m])) (k2 : Keeps (Value.slice ao outs.length ca).ownBlock.toList wr w2) (hg2 : (Value.slice ao outs.length ca).ownBlock = some g' ∨ wr.heap.size <= g') :
    MedS w s k keys (i + 1) (.slice (some ⟨g',0,none⟩) (outs.length + 1) c') w2 := by
  have hil := (List.getElem?_eq_some_iff.1 hi).1
  have htk : keys.take (i + 1) = keys.take i ++ [key] := by rw [List.take_add_one, hi]; rfl
  obtain ⟨E, G, F, q, h1, h2, h3⟩ := hq.push hr k2 hg2
  refine ⟨outs ++ [m], A', B',⟨E, G, F, q, h1,by omega, h3⟩,⟨by rw [htk]; exact p1, p2,?_⟩,by simp [hl],fun _ => ⟨m, hm, hmx,?_⟩⟩
  · rw [p3, List.length_take]; congr 1; omega
  · rw [Nat.add_sub_cancel, <- hl, List.getElem?_append_right (Nat.le_refl _)]; simp
theorem medians_calls (w : World) (keys : List Int) (a b : Int) (hc : okC a b) (kv : Value) (hkv : KIn w kv keys) (hlen : keys.length <= 65536) :
    Calls Tryz.prog 11 #[.agg #[.int .i64 a,.int .i64 b], kv] w (MediansDone w keys) := by
  obtain ⟨⟨ao, ca, hkv0⟩, _⟩ := id hkv
  obtain ⟨w0, hw0⟩ : ∃ w0, w0 = w.alloc (.cells #[.int .i64 a,.int .i64 b] 23 (0,0)) := ⟨_,rfl⟩
  have k0 : Keeps [] w w0 := by rw [hw0]; exact (Keeps.refl _ _).alloc _
  have hb0 : w0.heap[w.heap.size]? = some (.cells #[.int .i64 a,.int .i64 b] 23 (0,0)) := by rw [hw0]; exact blk_alloc_new _
  have e0 : w0.cell? ⟨w.heap.size,0,none⟩ = some (.int .i64 a) := by rw [cell_of_blk hb0]; rfl
  have e1 : w0.cell? ⟨w.heap.size,1,none⟩ = some (.int .i64 b) := by rw [cell_of_blk hb0]; rfl
  have hop := rank_open w0 a b keys.length 2 hc hlen (by omega)
  have K0 := Lib.hid k0
  have HKV := Lib.hid hkv
  clear k0 hb0 hkv hc
  subst hkv0
  generalize a.toNat = kk at *
  generalize hn : keys.length = n at *
  have HN := Lib.hid hn
  clear hn
  go_enter Tryz.func11, Tryz.ntmps11
  go_upto_region 1 with fail
  rw [<- hw0]
  clear hw0
  go_wp2_with (go_at_call 24; refine hop.mono ?_; rintro e w1 ⟨F, s,rfl, st, k1, hF⟩; have ST := Lib.hid st; have K1 := Lib.hid k1; have HF := Lib.hid hF; clear st k1 hF e0 e1)
  have hst1 : MedS w s kk keys 0 (.slice none 0 0) w1 := by
    have hnn := HN.out
    subst hnn
    exact ⟨[], [], [],⟨fun _ => none,fun _ => 0, F, 0, ST.out, Nat.le_refl _, held_empty _,by rw [keysOf_empty]; exact List.Perm.refl _,by rw [keysOf_empty], K0.out.trans K1.out (by simp),(fun b hb => Nat.le_trans K0.out.size (HF.out b hb)), KRow.nil _ _,(fun b e => by cases e),by simp,by simp⟩,by rw [List.take_zero]; exact MedP.empty,rfl,fun h => absurd h (Nat.lt_irrefl _)⟩
  have HS := Lib.hid hst1
  clear hst1 ST K0 K1 HF hop
  go_loopg [8,32] (n + 1) (fun j v t wr => ∃ i : Nat, j + i = n + 1 ∧ i <= n ∧ t = .int .i64 i ∧ MedS w s kk keys i v wr)
  case atStart => exact ⟨0,by omega,by omega,rfl, HS.out⟩
  case round =>
    clear HS
    obtain ⟨i, hk, hin,rfl, outs, A, B, hq, hp, hol, hm0⟩ := hrel
    have HK := Lib.hid hk
    clear hk
    have hnn := HN.out
    subst hnn
    obtain ⟨ao2, ca2,rfl⟩ := hq.form
    subst hol
    by_cases hi : outs.length < keys.length
    · have hi3 : (outs.length : Int) < (keys.length : Int) := by omega
      obtain ⟨key, hkey⟩ : ∃ key, keys[outs.length]? = some key := ⟨_, List.getElem?_eq_getElem hi⟩
      obtain ⟨hwf, g, off, ca', hv, hcell⟩ := (HKV.out.keep hq.kp (by simp)).2 outs.length key hkey
      cases hv
      have hins := med_insert1 hq hi (by omega) key hwf
      have hq0 := Lib.hid hq
      clear hq
      go_upto_region 10 with (first
        | (go_at_call 30; refine (eturn_calls _ key hwf).mono ?_; rintro e wx ⟨rfl,rfl⟩)
        | (go_at_call 14; refine hins.mono ?_; rintro e w1 ⟨⟨x1, g1,rfl⟩, q1⟩; have hx1 := med_extract1 q1 (List.cons_ne_nil _ _); clear q1)
        | (go_at_call 31; refine hx1.mono ?_; rintro e w2 ⟨x2, g2, top, A1,rfl, hwt, hpm, hmx, q2⟩; have hi2 := med_insert2 (q2.keep0 ((Keeps.refl _ _).alloc (.cells #[.int .i64 x2,.int .u32 g2] 45 (0,0)))) hi (by omega) top hwt; clear q2))
      go_upto_region 11 with (first
        | (go_at_call 30; refine (eturn_back _ top hwt).mono ?_; rintro e wx ⟨rfl,rfl⟩)
        | (go_at_call 14; refine hi2.mono ?_; rintro e w3 ⟨⟨x3, g3,rfl⟩, q3⟩))
      obtain ⟨p1, p2, p3⟩ := Med_over hp.pm hp.le hpm hmx
      have hln := hp.ln
      rw [List.length_take, Nat.min_eq_left (by omega)] at hln
      clear hpm hmx hp hm0
      by_cases hev : outs.length % 2 = 0
      · have htm : (outs.length : Int).tmod 2 = 0 := by rw [Int.tmod_eq_emod_of_nonneg (by omega)]; omega
        have hx2 := med_extract2 q3 (List.cons_ne_nil _ _)
        clear q3
        go_upto_region 13 with (go_at_call 31; refine hx2.mono ?_; rintro e w4 ⟨x4, g4, low, B1,rfl, hwl, hpl, hml, q4⟩; have hi4 := med_insert1 (q4.keep0 ((Keeps.refl _ _).alloc (.cells #[.int .i64 x4,.int .u32 g4] 45 (0,0)))) hi (by omega) low hwl; clear q4)
        obtain ⟨hP, hL⟩ := Med_back p1 p2 hpl hml
        clear p1 p2 hpl hml
        go_upto_region 14 with (first
          | (go_at_call 30; refine (eturn_calls _ low hwl).mono ?_; rintro e wx ⟨rfl,rfl⟩)
          | (go_at_call 14; refine hi4.mono ?_; rintro e w5 ⟨⟨x5, g5,rfl⟩, q5⟩; have hmn := med_min q5 (List.cons_ne_nil _ _); clear q5))
        have hN : (low :: A1).length = (outs.length + 2) / 2 := by rw [List.length_cons, p3, hln]; omega
        go_upto_region 15 with (go_at_call 32; refine hmn.mono ?_; rintro e w7 ⟨x7, g7, mid,rfl, hwm, hmm, hmmx, q7⟩; have q8 := q7.keep0 ((Keeps.refl _ _).alloc (.cells #[.int .i64 x7,.int .u32 g7] 45 (0,0))); clear q7)
        have hrow := q8.row
        have HFin := Lib.hid (fun g' c' w2 hr k2 hg => MedS.next (w2 := w2) (m := mid) (g' := g') (c' := c') hkey q8 (by omega) rfl hP hL hN hmm hmmx hr k2 hg)
        clear q8 hmm hmmx hP hL hN hmn
        go_wp2_with (first
          | (go_at_call 30; refine (eturn_back _ mid hwm).mono ?_; rintro e wx ⟨rfl,rfl⟩)
          | (at_builtin; refine wpList_push _ 2 (.int .i64 mid) (0,0) rfl (.tmp 70) (.tmp 73) 25 rfl (.int .i64 0) 8 Tryz.underlying25 Tryz.infoInt64 rfl rfl (.slice ao2 outs.length ca2) outs.length (keysV outs) (by simp [Act.eval]) hrow (by simp [Act.eval]) (by unfold maxLen; omega) (by omega) ?_; intro g' cap' w9 hr9 hk9 hf9; have z3 := Lib.hid (HFin.out g' cap' w9 hr9 hk9 hf9); clear hr9 hk9 hf9))
        go_roundg (gk - 1)
        case measure => have := HK.out; omega
        case rel => exact ⟨outs.length + 1,by have := HK.out; omega,by omega,by go_num, z3.out⟩
      · have htm : (outs.length : Int).tmod 2 = 1 := by rw [Int.tmod_eq_emod_of_nonneg (by omega)]; omega
        have hP := p1
        have hL := p2
        have hN : A1.length = (outs.length + 2) / 2 := by rw [p3, hln]; omega
        have hmn := med_min q3 (fun e => by rw [e] at hN; simp at hN)
        clear q3 p1 p2
        go_upto_region 15 with (go_at_call 32; refine hmn.mono ?_; rintro e w7 ⟨x7, g7, mid,rfl, hwm, hmm, hmmx, q7⟩; have q8 := q7.keep0 ((Keeps.refl _ _).alloc (.cells #[.int .i64 x7,.int .u32 g7] 45 (0,0))); clear q7)
        have hrow := q8.row
        have HFin := Lib.hid (fun g' c' w2 hr k2 hg => MedS.next (w2 := w2) (m := mid) (g' := g') (c' := c') hkey q8 (by omega) rfl hP hL hN hmm hmmx hr k2 hg)
        clear q8 hmm hmmx hP hL hN hmn
        go_wp2_with (first
          | (go_at_call 30; refine (eturn_back _ mid hwm).mono ?_; rintro e wx ⟨rfl,rfl⟩)
          | (at_builtin; refine wpList_push _ 2 (.int .i64 mid) (0,0) rfl (.tmp 70) (.tmp 73) 25 rfl (.int .i64 0) 8 Tryz.underlying25 Tryz.infoInt64 rfl rfl (.slice ao2 outs.length ca2) outs.length (keysV outs) (by simp [Act.eval]) hrow (by simp [Act.eval]) (by unfold maxLen; omega) (by omega) ?_; intro g' cap' w9 hr9 hk9 hf9; have z3 := Lib.hid (HFin.out g' cap' w9 hr9 hk9 hf9); clear hr9 hk9 hf9))
        go_roundg (gk - 1)
        case measure => have := HK.out; omega
        case rel => exact ⟨outs.length + 1,by have := HK.out; omega,by omega,by go_num, z3.out⟩
    · have hie : outs.length = keys.length := by omega
      have hfin : MediansDone w keys (.returned (.tuple #[.slice ao2 outs.length ca2,.int .i64 0])) wr := by
        obtain ⟨_, _, _, _, _, _, _, _, _, q6, _, q8, _⟩ := hq
        refine ⟨outs, _,rfl, hie, q8, q6,fun h0 => ?_⟩
        rw [hie] at hm0 hp
        rw [List.take_length] at hp
        obtain ⟨m, m1, m2, m3⟩ := hm0 h0
        exact ⟨A, B, m, hp, m1, m2, m3⟩
      have HF := Lib.hid hfin
      have hi3 : ¬ (outs.length : Int) < (keys.length : Int) := by omega
      clear hfin hq hp hm0
      have HIE := Lib.hid hie
      clear hie
      go_wp2_with fail
      go_ret2
      exact HF.out
theorem Tryz.infoInt : (Tryz.prog.info? 3).map (fun i => (i.zero, i.size, i.bytes)) = some (some (.int .i64 0), 1,8) := by kernel_rfl
theorem numF_nil : numF (fun _ => none) = fun _ _ => none := by funext x g; simp [numF]
def LeastDone (w : World) (keys : List Int) (e : Ending) (w' : World) : Prop :=
  ∃ (l : List Nat) (v : Value), e = .returned (.tuple #[v,.int .i64 0]) ∧ Sorted keys l ∧ NRow w.heap.size w' v l ∧ Keeps [] w w'
section
variable (w : World) (s k m : Nat) (keys : List Int)
def Least1 (i : Nat) (wr : World) : Prop :=
  ∃ (E : Ent) (G : Nat -> Nat) (F : List Nat) (c : Nat), FillS wr F s k keys.length 1 4294967295 (keys.take i) E G ∧ HMap elmInt wr m c (numF E) ∧ c <= i ∧ Keeps [] w wr ∧ (∀ b ∈ F, w.heap.size <= b) ∧ w.heap.size <= m ∧ m ∉ F
theorem Least1.next {i : Nat} {key : Int} {E : Ent} {G : Nat -> Nat} {F : List Nat} {c : Nat} {wr w1 : World} (hcap : keys.length <= 65536)
    (hi : keys[i]? = some key) (f : FillS wr F s k keys.length 1 4294967295 (keys.take i) E G) (hm : HMap elmInt wr m c (numF E)) (hc : c <= i) (kp : Keeps [] w wr) (hF : ∀ b ∈ F, w.heap.size <= b) (hwm : w.heap.size <= m) (hmF : m ∉ F) (e : Ending)
    (d : InsDone wr F s k keys.length 1 E (keys.take i).length 4294967295 G 1 key e w1) :
    ∃ x : Nat, e = .returned (.tuple #[.agg #[.int .i64 (x : Int),.int .u32 1],.int .i64 0]) ∧ okH x 1 ∧ ∀ o, HMap elmInt (w1.alloc o) m c (numF E) ∧
      Hid (∀ w2, HMap elmInt w2 m (if (numF E x 1).isSome then c else c + 1) (fun u v => if u = x ∧ v = 1 then some i else numF E u v) -> (w1.alloc o).grownBy w2 (some m) -> Least1 w s k m keys (i + 1) w2) := by
  obtain ⟨x, hx, hn,rfl, F', st, mv⟩ := d
  have hil := (List.getElem?_eq_some_iff.1 hi).1
  have htl : (keys.take i).length = i := by rw [List.length_take]; omega
  have htk : keys.take (i + 1) = keys.take i ++ [key] := by rw [List.take_add_one, hi]; rfl
  have hlt := f.1.lt
  have hml := hm.lt
  have s1 := mv.keeps.size
  have hmF' : m ∉ F' := fun h => by
    rcases mv.from' m h with c | c
    · exact hmF c
    · omega
  refine ⟨x,by rw [f.2.g0 x hn]; rfl,⟨by omega,by omega⟩,fun o => ?_⟩
  have kA : Keeps [] w1 (w1.alloc o) := (Keeps.refl _ _).alloc _
  refine ⟨(hm.keep mv.keeps hmF).keep kA (by simp),fun w2 hm2 hg => ?_⟩
  have k2 : Keeps [m] (w1.alloc o) w2 := (Keeps.refl [m] _).grown hg (fun b hb => .inl (by cases hb; simp))
  have hF' : ∀ b ∈ F', w.heap.size <= b := fun b hb => by
    rcases mv.from' b hb with c | c
    · exact hF b c
    · have := kp.size; omega
  refine ⟨put E x (some (1, key,(keys.take i).length + 1)), upd G x (G x + 1), F',(if (numF E x 1).isSome then c else c + 1),⟨?_,?_⟩,?_,?_,?_, hF', hwm, hmF'⟩
  · rw [htk, List.length_append]
    exact (st.keep kA (by simp)).keep k2 (fun b hb e => hmF' (by simp at e; exact e ▸ hb))
  · rw [htk]
    exact f.2.step hx hn key
  · rw [htl, numF_put hn]; exact hm2
  · split <;> omega
  · exact ((kp.trans mv.keeps (fun b hb => .inr (hF b hb))).trans kA (by simp)).trans k2 (fun b hb => .inr (by simp at hb; omega))
def Least2 (E : Ent) (G : Nat -> Nat) (i : Nat) (v : Value) (wr : World) : Prop :=
  ∃ (o F : List Nat) (c : Nat), o.length = i ∧ Drn E 1 o ∧ count (remL E o) keys.length 1 + i = keys.length ∧ StoreAt wr F s k keys.length 1 (remL E o) keys.length 4294967295 G ∧ Keeps [] w wr ∧ (∀ b ∈ F, w.heap.size <= b) ∧
    NRow w.heap.size wr v (o.map fun x => seqE E x - 1) ∧ (∀ b, v.ownBlock = some b -> b ∉ F ∧ b ≠ m) ∧ HMap elmInt wr m c (numF E) ∧ w.heap.size <= m ∧ m ∉ F
theorem Least2.next {E : Ent} {G : Nat -> Nat} {i c ca : Nat} {ao : Option Addr} {o F : List Nat} {wr w1 : World} (fp : FillP E G keys.length 1 keys) (uq : ∀ x y h key n h' key', E x = some (h, key, n) -> E y = some (h', key', n) -> x = y) (hcap : keys.length <= 65536)
    (ho : o.length = i) (hd : Drn E 1 o) (hct : count (remL E o) keys.length 1 + i = keys.length) (st : StoreAt wr F s k keys.length 1 (remL E o) keys.length 4294967295 G) (kp : Keeps [] w wr) (hF : ∀ b ∈ F, w.heap.size <= b)
    (hr : NRow w.heap.size wr (.slice ao i ca) (o.map fun x => seqE E x - 1)) (hv : ∀ b,(Value.slice ao i ca).ownBlock = some b -> b ∉ F ∧ b ≠ m) (hm : HMap elmInt wr m c (numF E)) (hwm : w.heap.size <= m) (hmF : m ∉ F) (e : Ending)
    (d : ExtYes wr F s k keys.length 1 (remL E o) keys.length 4294967295 G 1 e w1) :
    ∃ (x : Nat) (key : Int), e = .returned (.tuple #[.agg #[.int .i64 (x : Int),.int .u32 1],.int .i64 key,.int .i64 0]) ∧ okH x 1 ∧ numF E x 1 = some (seqE E x - 1) ∧ ∀ oo, HMap elmInt (w1.alloc oo) m c (numF E) ∧ (w1.alloc oo).ownsRow 0 3 1 (.slice ao i ca) i (natV (o.map fun x => seqE E x - 1)) ∧
      Hid (∀ g' c' w2, w2.ownsRow 0 3 1 (.slice (some ⟨g',0,none⟩) (i + 1) c') (i + 1) (natV (o.map fun x => seqE E x - 1) ++ [.int .i64 ((seqE E x - 1 : Nat) : Int)]) -> Keeps (Value.slice ao i ca).ownBlock.toList (w1.alloc oo) w2 -> ((Value.slice ao i ca).ownBlock = some g' ∨ (w1.alloc oo).heap.size <= g') ->
        Least2 w s k m keys E G (i + 1) (.slice (some ⟨g',0,none⟩) (i + 1) c') w2) := by
  obtain ⟨x, n, key, hl, hex,rfl, F', st', mv⟩ := d
  have hxo : x ∉ o := (remL_in.1 hl.1).2
  have hex' : E x = some (1, key, n) := by rw [<- hex, remL_at hxo]
  have hxc := st.ok.lt x hl.1.some
  have s1 := mv.keeps.size
  have hml := hm.lt
  have hmF' : m ∉ F' := fun h => by
    rcases mv.from' m h with c | c
    · exact hmF c
    · omega
  have hown := hr.own
  refine ⟨x, key,by rw [fp.g1 x (by rw [hex']; simp)]; rfl,⟨by omega,by omega⟩,by rw [numF_some hex', seqE_some hex'],fun oo => ?_⟩
  have kA : Keeps [] w1 (w1.alloc oo) := (Keeps.refl _ _).alloc _
  have hl0 : (o.map fun x => seqE E x - 1).length = i := by simp [ho]
  have hr1 := (hr.keep mv.keeps (fun b eb => (hv b eb).1)).keep kA (by simp)
  refine ⟨(hm.keep mv.keeps hmF).keep kA (by simp),?_,fun g' c' w2 hr2 k2 hg2 => ?_⟩
  · have := hr1.lo (Nat.zero_le _)
    unfold NRow at this
    rw [hl0] at this
    exact this
  · have stA := st'.keep kA (by simp)
    have hlt' := stA.lt
    have sw := kp.size
    have sA := kA.size
    have hvF'' : ∀ b,(Value.slice ao i ca).ownBlock = some b -> b ∉ F' := fun b eb f => by
      rcases mv.from' b f with c | c
      · exact (hv b eb).1 c
      · have := (hown b eb).2; omega
    refine ⟨o ++ [x], F', c,by simp [ho], hd.step hl,?_,?_,?_,fun b hb => ?_,?_,fun b eb => ?_,?_, hwm, hmF'⟩
    · rw [<- remL_put]
      have := count_out (n := keys.length) hxc hl.1
      omega
    · rw [<- remL_put]
      exact stA.keep k2 (fun b hb e => hvF'' b (by simpa [Option.mem_toList] using e) hb)
    · exact ((kp.trans mv.keeps (fun b hb => .inr (hF b hb))).trans kA (by simp)).trans k2 (fun b hb => .inr (hown b (by simpa [Option.mem_toList] using hb)).1)
    · rcases mv.from' b hb with c | c
      · exact hF b c
      · omega
    · have hg' : w.heap.size <= g' := by
        rcases hg2 with e | e
        · exact (hown g' e).1
        · omega
      rw [List.map_append, List.map_singleton]
      have := NRow.pushed (B := w.heap.size) (l := o.map fun x => seqE E x - 1) (g := g') (ca := c') (x := seqE E x - 1) (w := w2) (by rw [hl0]; exact hr2) hg'
      rw [hl0] at this
      exact this
    · simp [Value.ownBlock] at eb; subst eb
      rcases hg2 with e | e
      · exact ⟨hvF'' _ e,(hv _ e).2⟩
      · have := kA.size
        exact ⟨fun f => by have := hlt' _ f; omega,fun f => by omega⟩
    · exact ((hm.keep mv.keeps hmF).keep kA (by simp)).keep k2 (fun e => (hv m (by simpa [Option.mem_toList] using e)).2 rfl)
end
theorem least_calls (w : World) (keys : List Int) (a b : Int) (hc : okC a b) (kv : Value) (hkv : KIn w kv keys) (hlen : keys.length <= 65536) :
    Calls Tryz.prog 22 #[.agg #[.int .i64 a,.int .i64 b], kv,.int .i64 (keys.length : Int)] w (LeastDone w keys) := by
  obtain ⟨⟨ao, ca, hkv0⟩, _⟩ := id hkv
  obtain ⟨w0, hw0⟩ : ∃ w0, w0 = w.alloc (.cells #[.int .i64 a,.int .i64 b] 23 (0,0)) := ⟨_,rfl⟩
  have k0 : Keeps [] w w0 := by rw [hw0]; exact (Keeps.refl _ _).alloc _
  have hb0 : w0.heap[w.heap.size]? = some (.cells #[.int .i64 a,.int .i64 b] 23 (0,0)) := by rw [hw0]; exact blk_alloc_new _
  have e0 : w0.cell? ⟨w.heap.size,0,none⟩ = some (.int .i64 a) := by rw [cell_of_blk hb0]; rfl
  have e1 : w0.cell? ⟨w.heap.size,1,none⟩ = some (.int .i64 b) := by rw [cell_of_blk hb0]; rfl
  have hop := rank_open w0 a b keys.length 1 hc hlen (by omega)
  have hmm := @run_makeMap Tryz.prog
  have K0 := Lib.hid k0
  have HKV := Lib.hid hkv
  clear k0 hb0 hkv hc
  subst hkv0
  generalize a.toNat = kk at *
  generalize hn : keys.length = n at *
  have HN := Lib.hid hn
  clear hn
  have b1 : decide ((n : Int) < 0) = false := by rw [decide_eq_false_iff_not]; omega
  go_enter Tryz.func22, Tryz.ntmps22
  go_upto_region 1 with fail
  rw [<- hw0]
  clear hw0
  go_upto_region 7 with (go_at_call 24; refine hop.mono ?_; rintro e w1 ⟨F, s,rfl, st, k1, hF⟩; have ST := Lib.hid st; have K1 := Lib.hid k1; have HF := Lib.hid hF; clear st k1 hF e0 e1)
  have hs1 : w.heap.size <= w1.heap.size := Nat.le_trans K0.out.size K1.out.size
  have hst1 : Least1 w s kk w1.heap.size keys 0 (w1.alloc (.map #[] 0)) := by
    have kA : Keeps [] w1 (w1.alloc (.map #[] 0)) := (Keeps.refl _ _).alloc _
    have hlt := ST.out.lt
    have hnn := HN.out
    subst hnn
    exact ⟨fun _ => none,fun _ => 0, F, 0,⟨ST.out.keep kA (by simp), FillP.empty _ _⟩,(by rw [numF_nil]; exact HMap.made elmInt w1), Nat.le_refl _,(K0.out.trans K1.out (by simp)).trans kA (by simp),fun b hb => Nat.le_trans K0.out.size (HF.out b hb), hs1,fun h => Nat.lt_irrefl _ (hlt _ h)⟩
  have HS := Lib.hid hst1
  clear hst1 ST K0 K1 HF
  generalize hm0 : w1.heap.size = m at *
  clear hs1 hm0 hop
  go_wp2_with fail
  go_loopg [40] (n + 1) (fun j t wr => ∃ i : Nat, j + i = n + 1 ∧ i <= n ∧ t = .int .i64 i ∧ Least1 w s kk m keys i wr)
  case atStart => exact ⟨0,by omega,by omega,rfl, HS.out⟩
  case round =>
    clear HS
    obtain ⟨i, hk, hin,rfl, E, G, F', c, f, hm, hci, kp, hF, hwm, hmF⟩ := hrel
    have HK := Lib.hid hk
    clear hk
    by_cases hi : i < n
    · have hi3 : (i : Int) < (n : Int) := by omega
      have hnn := HN.out
      subst hnn
      have hik : i < keys.length := by omega
      obtain ⟨key, hkey⟩ : ∃ key, keys[i]? = some key := ⟨_, List.getElem?_eq_getElem hik⟩
      obtain ⟨hwf, g, off, ca', hv, hcell⟩ := (HKV.out.keep kp (by simp)).2 i key hkey
      cases hv
      have hroom := f.2.room (by rw [List.length_take]; omega)
      have htl : (keys.take i).length = i := by rw [List.length_take]; omega
      have hins := pq_insert wr F' s kk keys.length 1 E (keys.take i).length 4294967295 G f.1 1 key (by omega) (by omega) hwf (by omega) (by obtain ⟨x, a, b, c⟩ := hroom; exact ⟨x, a, b,by rw [c]; decide⟩)
      have HX := Lib.hid (fun e w1 d => Least1.next w s kk m keys hlen hkey f hm hci kp hF hwm hmF e d (w1 := w1))
      have NOK := Lib.hid (numF_ok (E := E) f.1.ok.lt hlen)
      clear f hm kp hF hwm hmF hroom hwf hkey htl
      go_wp2_with (first
        | (go_at_call 14; go_loud (refine hins.mono ?_; intro e w1 hd; obtain ⟨x,rfl, hok, z⟩ := HX.out e w1 hd; clear hd; obtain ⟨zm, zn⟩ := z (.cells #[.int .i64 (x : Int),.int .u32 1] 45 (0,0)); clear z; have hA : (w1.alloc (.cells #[.int .i64 (x : Int),.int .u32 1] 45 (0,0))).heap[w1.heap.size]? = some (.cells #[.int .i64 (x : Int),.int .u32 1] 45 (0,0)) := blk_alloc_new _; have z0 : (w1.alloc (.cells #[.int .i64 (x : Int),.int .u32 1] 45 (0,0))).cell? ⟨w1.heap.size,0,none⟩ = some (.int .i64 (x : Int)) := (cell_of_blk hA).trans rfl; have z1 : (w1.alloc (.cells #[.int .i64 (x : Int),.int .u32 1] 45 (0,0))).cell? ⟨w1.heap.size,1,none⟩ = some (.int .u32 1) := (cell_of_blk hA).trans rfl; clear hA))
        | (at_mapUpdate; refine wpList_hmap_put (E := elmInt) rfl _ _ _ rfl Tryz.underlying113 m c _ rfl zm NOK.out (by unfold maxLen; omega) x 1 rfl hok i rfl (show i <= 65536 by omega) ?_; intro w2 hm2 hg2; have z3 := Lib.hid (zn.out w2 hm2 hg2); clear hm2 hg2))
      go_roundg (gk - 1)
      case measure => have := HK.out; omega
      case rel => exact ⟨i + 1,by have := HK.out; omega,by omega,by go_num, z3.out⟩
    · obtain rfl : i = n := by omega
      have hnn := HN.out
      subst hnn
      have htk : keys.take keys.length = keys := List.take_length
      rw [htk] at f
      have hst2 : Least2 w s kk m keys E G 0 (.slice none 0 0) wr :=
        ⟨[], F', c,rfl, Drn.nil E 1,by rw [remL_nil, f.2.ct]; rfl,by rw [remL_nil]; exact f.1, kp, hF, NRow.nil _ _,fun b e => (by cases e), hm, hwm, hmF⟩
      have HS2 := Lib.hid hst2
      have FP := Lib.hid f.2
      have UQ := Lib.hid f.1.uq
      have NOK := Lib.hid (numF_ok (E := E) f.1.ok.lt hlen)
      clear hst2 f hm kp hF hwm hmF htk
      go_wp2_with fail
      go_loopg [15,56] (keys.length + 1) (fun j v t wr => ∃ i : Nat, j + i = keys.length + 1 ∧ i <= keys.length ∧ t = .int .i64 i ∧ Least2 w s kk m keys E G i v wr)
      case atStart => exact ⟨0,by omega,by omega,rfl, HS2.out⟩
      case round =>
        clear HS2
        obtain ⟨i, hk, hin,rfl, o, F', c, ho, hd, hct, st, kp, hF, hrow, hv, hm, hwm, hmF⟩ := hrel
        have HK := Lib.hid hk
        clear hk
        have hrl : (o.map fun x => seqE E x - 1).length = i := by simp [ho]
        obtain ⟨ao2, ca2,rfl⟩ := hrow.form
        rw [hrl] at hrow hv
        rw [hrl]
        by_cases hi : i < keys.length
        · have hex : ∃ y, isIn (remL E o) 1 y := by
            refine Classical.byContradiction fun hne => ?_
            have : count (remL E o) keys.length 1 = 0 := count_zero.2 fun x _ hx => hne ⟨x, hx⟩
            omega
          have hext := pq_extract_yes wr F' s kk keys.length 1 (remL E o) keys.length 4294967295 G st 1 (by omega) (by omega) hex
          have hi3 : (i : Int) < (keys.length : Int) := by omega
          have HX := Lib.hid (fun e w1 d => Least2.next w s kk m keys FP.out UQ.out hlen ho hd hct st kp hF hrow hv hm hwm hmF e d (w1 := w1))
          clear ho hd hct st kp hF hrow hv hm hwm hmF hex
          go_wp2_with (first
            | (go_at_call 31; refine hext.mono ?_; intro e w1 hd1; obtain ⟨x, key,rfl, hok, hnum, z⟩ := HX.out e w1 hd1; clear hd1; obtain ⟨zm, zr, zn⟩ := z (.cells #[.int .i64 (x : Int),.int .u32 1] 45 (0,0)); clear z; have hA : (w1.alloc (.cells #[.int .i64 (x : Int),.int .u32 1] 45 (0,0))).heap[w1.heap.size]? = some (.cells #[.int .i64 (x : Int),.int .u32 1] 45 (0,0)) := blk_alloc_new _; have z0 : (w1.alloc (.cells #[.int .i64 (x : Int),.int .u32 1] 45 (0,0))).cell? ⟨w1.heap.size,0,none⟩ = some (.int .i64 (x : Int)) := (cell_of_blk hA).trans rfl; have z1 : (w1.alloc (.cells #[.int .i64 (x : Int),.int .u32 1] 45 (0,0))).cell? ⟨w1.heap.size,1,none⟩ = some (.int .u32 1) := (cell_of_blk hA).trans rfl; clear hA)
            | (at_lookup; refine wpList_hmap_look_int rfl _ _ rfl Tryz.underlying113 rfl zm x 1 rfl hok _ hnum ?_)
            | (at_builtin; refine wpList_push _ 3 (.int .i64 ((seqE E x - 1 : Nat) : Int)) (0,0) rfl (.tmp 64) (.tmp 68) 28 rfl (.int .i64 0) 8 Tryz.underlying28 Tryz.infoInt rfl rfl (.slice ao2 i ca2) i (natV (o.map fun x => seqE E x - 1)) (by simp [Act.eval]) zr (by simp [Act.eval]) (by unfold maxLen; omega) (by omega) ?_; intro g' cap' w4 hr4 hk4 hf4; have z3 := Lib.hid (zn.out g' cap' w4 hr4 hk4 hf4); clear hr4 hk4 hf4))
          go_roundg (gk - 1)
          case measure => have := HK.out; omega
          case rel => exact ⟨i + 1,by have := HK.out; omega,by omega,by go_num, z3.out⟩
        · obtain rfl : i = keys.length := by omega
          have hnone : ∀ y, ¬ isIn (remL E o) 1 y := fun y hy => by
            have := (count_zero (E := remL E o) (n := keys.length) (h := 1)).1 (by omega) y (st.ok.lt y hy.some)
            exact this hy
          have hsrt := (Drn.sorted hd (hd.all hnone) FP.out.fl UQ.out).1
          have hfin : LeastDone w keys (.returned (.tuple #[.slice ao2 keys.length ca2,.int .i64 0])) wr := ⟨_, _,rfl, hsrt, hrow, kp⟩
          have HF := Lib.hid hfin
          clear hfin hsrt hnone ho hd hct st kp hF hrow hv hm hwm hmF
          go_wp2_with fail
          go_ret2
          exact HF.out
theorem sort_calls (w : World) (keys : List Int) (a b : Int) (hc : okC a b) (kv : Value) (hkv : KIn w kv keys) (hlen : keys.length <= 65536) :
    Calls Tryz.prog 9 #[.agg #[.int .i64 a,.int .i64 b], kv] w (LeastDone w keys) := by
  obtain ⟨⟨ao, ca, hkv0⟩, _⟩ := id hkv
  obtain ⟨w0, hw0⟩ : ∃ w0, w0 = w.alloc (.cells #[.int .i64 a,.int .i64 b] 23 (0,0)) := ⟨_,rfl⟩
  have k0 : Keeps [] w w0 := by rw [hw0]; exact (Keeps.refl _ _).alloc _
  have hb0 : w0.heap[w.heap.size]? = some (.cells #[.int .i64 a,.int .i64 b] 23 (0,0)) := by rw [hw0]; exact blk_alloc_new _
  have e0 : w0.cell? ⟨w.heap.size,0,none⟩ = some (.int .i64 a) := by rw [cell_of_blk hb0]; rfl
  have e1 : w0.cell? ⟨w.heap.size,1,none⟩ = some (.int .i64 b) := by rw [cell_of_blk hb0]; rfl
  have hl := least_calls w0 keys a b hc kv (hkv.keep k0 (by simp)) hlen
  have hfin : ∀ e w1, LeastDone w0 keys e w1 -> ∃ v, e = .returned (.tuple #[v,.int .i64 0]) ∧ Hid (LeastDone w keys (.returned (.tuple #[v,.int .i64 0])) w1) := by
    rintro e w1 ⟨l, v,rfl, h1, h2, h3⟩
    exact ⟨v,rfl, l, v,rfl, h1, h2.lo k0.size, k0.trans h3 (by simp)⟩
  have HF := Lib.hid hfin
  clear hfin k0 hb0 hkv
  subst hkv0
  generalize keys.length = n at *
  go_enter Tryz.func9, Tryz.ntmps9
  go_upto_region 1 with fail
  rw [<- hw0]
  clear hw0
  go_wp2_with (go_at_call 22; refine hl.mono ?_; intro e w1 hd; obtain ⟨v,rfl, z⟩ := HF.out e w1 hd; clear hd)
  go_ret2
  exact z.out
end Go.Proofs.YtkdbjelhkfdfjaaGreatDoor


/-
  ArenaOnce in plain Lean, and the append of a region that draws its order.
-/
import Derived.Test.YtoifnljlnpkodaaFillsPlain
import Derived.Maps.AppendAt
namespace Go.Proofs.Ytoifnljlnpkodaa
open Go.RowKit
set_option linter.unusedVariables false

/-- What is told of the slots, of the handles that are live, and of those that ever were. -/
structure OnceInv (n : Nat) (S : List (Int × Bool)) (L E : List (Nat × Int)) : Prop where
  len : S.length = n
  hl : ∀ h ∈ L, h.1 < n ∧ S.getD h.1 (0, false) = (h.2, true)
  nd : (L.map (·.1)).Nodup
  ev : ∀ h ∈ E, h.1 < n ∧ h.2 ≤ (S.getD h.1 (0, false)).1

section
variable {n k i next next' : Nat} {most cnt : Int} {S : List (Int × Bool)} {W W' : List Nat} {L E : List (Nat × Int)}

theorem OnceInv.small (h : OnceInv n S L E) : L.length ≤ n := by
  have := nodup_len h.nd (n := n) (fun i hi => by
    obtain ⟨x, hx, rfl⟩ := List.mem_map.1 hi
    exact (h.hl x hx).1)
  simpa using this

theorem OnceInv.take (h : OnceInv n S L E) (hi : i < n) (hf : (S.getD i (0, false)).2 = false) (g : Int) (hg : (S.getD i (0, false)).1 = g) :
    OnceInv n (S.set i (g + 1, true)) (L ++ [(i, g + 1)]) (E ++ [(i, g + 1)]) := by
  have hlen := h.len
  refine ⟨by simpa using h.len, ?_, ?_, ?_⟩
  · intro x hx
    simp only [List.mem_append, List.mem_singleton] at hx
    rcases hx with hx | rfl
    · obtain ⟨a1, a2⟩ := h.hl x hx
      refine ⟨a1, ?_⟩
      rw [getD_set_ne, a2]
      intro e
      rw [e, a2] at hf
      cases hf
    · exact ⟨hi, getD_set_eq (by omega)⟩
  · rw [List.map_append, List.nodup_append]
    refine ⟨h.nd, by simp, ?_⟩
    intro a ha b hb
    simp at hb
    subst hb
    intro e
    subst e
    simp only [List.mem_map] at ha
    obtain ⟨x, hx, rfl⟩ := ha
    have := (h.hl x hx).2
    rw [this] at hf
    cases hf
  · intro x hx
    simp only [List.mem_append, List.mem_singleton] at hx
    rcases hx with hx | rfl
    · obtain ⟨a1, a2⟩ := h.ev x hx
      refine ⟨a1, ?_⟩
      by_cases e : i = x.1
      · subst e
        rw [getD_set_eq (by omega)]
        simp only; omega
      · rw [getD_set_ne e]; exact a2
    · refine ⟨hi, ?_⟩
      rw [getD_set_eq (by omega)]
      exact Int.le_refl _

theorem OnceInv.new (h : OnceInv n S L E) (hi : i < n) (g : Int) (hg : (S.getD i (0, false)).1 = g) : ∀ x ∈ E, (((x.1 : Nat) : Int) == (i : Int) && x.2 == g + 1) = false := by
  intro x hx
  obtain ⟨a1, a2⟩ := h.ev x hx
  by_cases e : x.1 = i
  · rw [e, hg] at a2
    have : (x.2 == g + 1) = false := by rw [beq_eq_false_iff_ne]; omega
    simp [this]
  · have : (((x.1 : Nat) : Int) == (i : Int)) = false := by rw [beq_eq_false_iff_ne]; omega
    simp [this]

theorem OnceInv.live (h : OnceInv n S L E) (hk : k < L.length) : liveB S ((L.getD k (0, 0)).1 : Nat) (L.getD k (0, 0)).2 = true := by
  obtain ⟨a1, a2⟩ := h.hl (L.getD k (0, 0)) (by simp [List.getD, hk])
  have hlen := h.len
  simp only [liveB, Int.toNat_natCast, a2, Bool.and_true, Bool.and_eq_true, decide_eq_true_eq, beq_self_eq_true]
  omega

theorem OnceInv.give (h : OnceInv n S L E) (hk : k < L.length) : OnceInv n (S.set (L.getD k (0, 0)).1 ((L.getD k (0, 0)).2, false)) (L.eraseIdx k) E ∧ liveB (S.set (L.getD k (0, 0)).1 ((L.getD k (0, 0)).2, false)) ((L.getD k (0, 0)).1 : Nat) (L.getD k (0, 0)).2 = false := by
  obtain ⟨a1, a2⟩ := h.hl (L.getD k (0, 0)) (by simp [List.getD, hk])
  have hlen := h.len
  have hnd := nd_at h.nd
  refine ⟨⟨by simpa using h.len, ?_, ?_, ?_⟩, ?_⟩
  · intro x hx
    obtain ⟨y, hy, e⟩ := List.getElem_of_mem hx
    have hxm : x ∈ L := List.mem_of_mem_eraseIdx hx
    refine ⟨(h.hl x hxm).1, ?_⟩
    rw [getD_set_ne, (h.hl x hxm).2]
    rw [List.getElem_eraseIdx] at e
    intro e2
    split at e
    · rename_i h1
      refine hnd y k h1 hk ?_
      rw [e2, ← e]
      simp [List.getD, show y < L.length by omega]
    · rename_i h1
      have hy1 : y + 1 < L.length := by rw [List.length_eraseIdx, if_pos hk] at hy; omega
      refine hnd k (y + 1) (by omega) hy1 ?_
      rw [e2, ← e]
      simp [List.getD, hy1]
  · exact h.nd.sublist ((List.eraseIdx_sublist L k).map _)
  · intro x hx
    obtain ⟨b1, b2⟩ := h.ev x hx
    refine ⟨b1, ?_⟩
    by_cases e : (L.getD k (0, 0)).1 = x.1
    · rw [← e, getD_set_eq (by omega)]
      rw [← e, a2] at b2
      exact b2
    · rw [getD_set_ne e]; exact b2
  · simp only [liveB, Int.toNat_natCast]
    rw [getD_set_eq (by omega)]
    simp
end

section
variable {P : Program}

/-- 'append' of some or no elements at a step of a region that draws its order: onto a row of its own, from memory that is older than B. -/
theorem step_app {ops : Array Oper} {o : Oper} {a : Act} {K : Act → World → Prop} {Q : Exit → Act → World → Prop} {E : Prop} (hgd : o.guard = none) (s x : Operand) (t : TypeId)
    (ho : o.op = .call { callee := .builtin .append, args := #[s, x], argTypes := #[t, t] })
    (e : TypeId) (z : Value) (size bytes : Nat) (ht : P.underlying t = some (.slice e)) (hi : (P.info? e).map (fun i => (i.zero, i.size, i.bytes)) = some (some z, size, bytes)) (hzs : z.cells.size = size) (hsz : 0 < size)
    (W w : World) (hbel : Below W.heap.size W w)
    (v : Value) (n : Nat) (xs : List Value) (hs : a.eval s = v) (hown : w.ownsRow 0 e size v n xs) (hv : ∀ b, v.ownBlock = some b → W.heap.size ≤ b)
    (ad : Addr) (m c : Nat) (news : List Value) (hx : a.eval x = .slice (some ad) m c) (had : ad.block < W.heap.size) (hl : news.length = m * size) (hnews : ∀ j u, news[j]? = some u → W.cell? (ad.add j) = some u) (h1 : ∀ u ∈ news, u.oneCell' = true)
    (h63 : n + m ≤ maxLen) (hbytes : (n + m) * bytes ≤ 140737488355328)
    (h : ∀ v' w', w'.ownsRow 0 e size v' (n + m) (xs ++ news) → Below W.heap.size W w' → (∀ b, v'.ownBlock = some b → W.heap.size ≤ b) → K (a.put o.dst v') w') :
    if Region.wanted o (yielded ops a.tmps) = true then Oper.wp P o a w K Q else E := by
  obtain ⟨i, hi, hz, hsize, hby⟩ := info_parts hi
  have hw : Region.wanted o (yielded ops a.tmps) = true := by simp [Region.wanted, hgd]
  rw [if_pos hw]
  have hblk : ∀ j, (ad.add j).block = ad.block := fun j => by unfold Addr.add; split <;> rfl
  obtain ⟨v', w', hr, h2, h3, _, h5⟩ := run_append_own_at (P := P) w 0 t o.type e i z size bytes ht hi hz hsize hby hzs hsz v n xs hown ad m c news hl
    (fun j u hu => (hbel.cell (by rw [hblk]; exact had)).trans (hnews j u hu)) h1 h63 hbytes (Nat.zero_le _)
  have hfin := h v' w' h2 (hbel.trans ⟨h3.os, h3.tape, h3.output, h3.size, fun k hk => h3.block k (by have := hbel.size; omega) fun e => by have := hv k e.symm; omega⟩) (fun b hb => by
    rcases h5 with h5 | h5
    · exact hv b (by rw [← h5]; exact hb)
    · rw [h5] at hb; cases hb; exact hbel.size)
  unfold Oper.wp execOp
  simp only [ho, resolve, invoke, builtin, Sem.run_bind, Sem.run_pure, Result.andThen_ok, List.map_toArray, List.map_cons, List.map_nil, hs, hx, hr]
  exact hfin
end

/-- An empty row that was made now. -/
theorem owns_empty (w : World) (e : TypeId) (size : Nat) (o : Obj) (ho : o = .cells #[] e) : (w.alloc o).ownsRow 0 e size (.slice (some ⟨w.heap.size, 0, none⟩) 0 0) 0 [] := by
  subst ho
  exact ⟨by simp, .inr ⟨w.heap.size, 0, #[], rfl, Nat.zero_le _, blk_alloc_new _, by omega, by unfold maxLen; omega, by simp, by simp⟩⟩

/-- A row is the heap's alone: what was drawn does not touch it. -/
theorem owns_heap {w w' : World} {e : TypeId} {size : Nat} {v : Value} {n : Nat} {xs : List Value} (h : w.ownsRow 0 e size v n xs) (he : w'.heap = w.heap) : w'.ownsRow 0 e size v n xs := by
  refine ⟨h.1, ?_⟩
  rw [he]
  exact h.2

theorem below_heap {B : Nat} {W w w' : World} (h : Below B W w) (he : w'.heap = w.heap) (h1 : w'.os = w.os) (h2 : w'.tape = w.tape) (h3 : w'.output = w.output) : Below B W w' :=
  ⟨h1.trans h.os, h2.trans h.tape, h3.trans h.output, by rw [he]; exact h.size, fun k hk => by rw [he]; exact h.block k hk⟩

theorem hCells_take (L : List (Nat × Int)) (x : Nat) : hCells (L.take x) = (hCells L).take (x * 2) := by
  have h : hCells L = hCells (L.take x) ++ hCells (L.drop x) := by rw [← hCells_append, List.take_append_drop]
  by_cases hx : x ≤ L.length
  · rw [h, List.take_left']
    rw [hCells_len, List.length_take]; omega
  · rw [List.take_of_length_le (by omega), List.take_of_length_le (by rw [hCells_len]; omega)]

theorem hCells_drop (L : List (Nat × Int)) (x : Nat) : hCells (L.drop x) = (hCells L).drop (x * 2) := by
  have h : hCells L = hCells (L.take x) ++ hCells (L.drop x) := by rw [← hCells_append, List.take_append_drop]
  by_cases hx : x ≤ L.length
  · rw [h, List.drop_left']
    rw [hCells_len, List.length_take]; omega
  · rw [List.drop_of_length_le (by omega), List.drop_of_length_le (by rw [hCells_len]; omega)]
    rfl

/-- The two parts of a row without one element. -/
theorem HRow.parts {w : World} {O : List Nat} {g cap : Nat} {L : List (Nat × Int)} (h : HRow w O (.slice (some ⟨g, 0, none⟩) L.length cap) L) (x : Nat) :
    (∀ j u, (hCells (L.take x))[j]? = some u → w.cell? ((⟨g, 0, none⟩ : Addr).add j) = some u) ∧ (∀ j u, (hCells (L.drop (x + 1)))[j]? = some u → w.cell? ((⟨g, (x + 1) * 2, none⟩ : Addr).add j) = some u) := by
  have hc := h.row.cells (g := g) rfl
  constructor
  · intro j u hu
    refine hc j u ?_
    rw [hCells_take, List.getElem?_take] at hu
    split at hu
    · exact hu
    · cases hu
  · intro j u hu
    have := hc ((x + 1) * 2 + j) u (by rw [hCells_drop, List.getElem?_drop] at hu; exact hu)
    rw [Addr.add_lit] at this ⊢
    rwa [Nat.zero_add] at this

/-- A row that was made now is looked at too. -/
theorem AR.own {B p : Nat} {O : List Nat} {S : List (Int × Bool)} {W : List Nat} {next : Nat} {cnt most : Int} {wr w1 : World} (h : AR B p O S W next cnt most wr) (hB : B ≤ wr.heap.size) (hb : Below wr.heap.size wr w1) {e : TypeId} {size n : Nat} {v : Value} {xs : List Value}
    (hr : w1.ownsRow 0 e size v n xs) (hv : ∀ b, v.ownBlock = some b → wr.heap.size ≤ b) :
    ∃ O2, AR B p O2 S W next cnt most w1 ∧ (∀ b ∈ O, b ∈ O2) ∧ (∀ b, v.ownBlock = some b → b ∈ O2) ∧ (∀ b ∈ O2, b ∈ O ∨ wr.heap.size ≤ b) := by
  rcases hr.2 with ⟨rfl, _⟩ | ⟨g, cap', cur, rfl, _, hg, _⟩
  · exact ⟨O, (h.below hb hB).1, fun _ h => h, fun b hb => (by cases hb), fun b hb => .inl hb⟩
  · refine ⟨g :: O, h.grown (Below.keeps hb (Nat.le_refl _) []) (by simp) (.inr (hv g rfl)) (lt_of_block hg), fun b hb => List.mem_cons_of_mem _ hb, fun b hb => (by cases hb; simp), fun b hb => ?_⟩
    simp only [List.mem_cons] at hb
    rcases hb with rfl | hb
    · exact .inr (hv _ rfl)
    · exact .inl hb

theorem erased {w : World} {v : Value} {n : Nat} {L : List (Nat × Int)} {x : Nat} {xs : List Value} (h : w.ownsRow 0 30 2 v n xs) (hn : n = L.length - 1) (hx : x < L.length) (hxs : xs = hCells (L.take x) ++ hCells (L.drop (x + 1))) :
    w.ownsRow 0 30 2 v (L.eraseIdx x).length (hCells (L.eraseIdx x)) := by
  subst hn
  subst hxs
  rw [List.length_eraseIdx, if_pos hx, List.eraseIdx_eq_take_drop_succ, hCells_append]
  exact h

end Go.Proofs.Ytoifnljlnpkodaa

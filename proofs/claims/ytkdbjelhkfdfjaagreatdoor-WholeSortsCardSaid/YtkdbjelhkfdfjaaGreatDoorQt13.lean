/-
  Contracts that the law rests on. Conditions: none.
-/
import Derived.Test.YtkdbjelhkfdfjaaGreatDoorQt12
set_option linter.unusedVariables false
set_option maxRecDepth 100000
set_option maxHeartbeats 16000000
namespace Go.Proofs.YtkdbjelhkfdfjaaGreatDoor
open Go.RowKit
def lst (E : Ent) (x : Nat) : Nat := seqE E x - 1
def Rd (w : World) (s k mp mb : Nat) (lv : Value) (n : Nat) (E : Ent) (G : Nat -> Nat) (o : List Nat) (vr : Value) (lr : List Nat) (vq : Value) (lq : List Nat) (P : List Nat) (wr : World) : Prop :=
  ∃ (F : List Nat) (c : Nat), StoreAt wr F s k n 1 (remL E o) n 4294967295 G ∧ Drn E 1 o ∧ count (remL E o) n 1 + o.length = n ∧ HMap elmPlace wr mb c (plF E) ∧ wr.heap[mp]? = some (mergerO s mb lv) ∧ Keeps [] w wr ∧
    (∀ b ∈ F, w.heap.size <= b) ∧ w.heap.size <= mb ∧ w.heap.size <= mp ∧ mb ∉ F ∧ mp ∉ F ∧ mp ≠ mb ∧
    PRow w.heap.size wr vr lr ∧ PRow w.heap.size wr vq lq ∧ (∀ b, vr.ownBlock = some b -> b ∉ F ∧ b ≠ mb ∧ b ≠ mp ∧ vq.ownBlock ≠ some b) ∧ (∀ b, vq.ownBlock = some b -> b ∉ F ∧ b ≠ mb ∧ b ≠ mp) ∧
    ∀ p ∈ P, p ∉ F ∧ p ≠ mb ∧ p ≠ mp ∧ vr.ownBlock ≠ some p ∧ vq.ownBlock ≠ some p ∧ w.heap.size <= p ∧ p < wr.heap.size
section
variable {w wr w2 : World} {s k mp mb : Nat} {lv : Value} {n : Nat} {E : Ent} {G : Nat -> Nat} {o : List Nat} {vr : Value} {lr : List Nat} {vq : Value} {lq : List Nat} {P : List Nat}
theorem Rd.kp (h : Rd w s k mp mb lv n E G o vr lr vq lq P wr) : Keeps [] w wr := by
  obtain ⟨F, c, h1, h2, h3, h4, h5, h6, _⟩ := h; exact h6
theorem Rd.blk (h : Rd w s k mp mb lv n E G o vr lr vq lq P wr) : wr.heap[mp]? = some (mergerO s mb lv) := by
  obtain ⟨F, c, h1, h2, h3, h4, h5, h6, _⟩ := h; exact h5
theorem Rd.map (h : Rd w s k mp mb lv n E G o vr lr vq lq P wr) : ∃ c, HMap elmPlace wr mb c (plF E) := by
  obtain ⟨F, c, h1, h2, h3, h4, h5, h6, _⟩ := h; exact ⟨c, h4⟩
theorem Rd.drn (h : Rd w s k mp mb lv n E G o vr lr vq lq P wr) : Drn E 1 o := by
  obtain ⟨F, c, h1, h2, h3, h4, h5, h6, _⟩ := h; exact h2
theorem Rd.len (h : Rd w s k mp mb lv n E G o vr lr vq lq P wr) : o.length <= n := by
  obtain ⟨F, c, h1, h2, h3, h4, h5, h6, _⟩ := h; omega
theorem Rd.rowR (h : Rd w s k mp mb lv n E G o vr lr vq lq P wr) : PRow w.heap.size wr vr lr := by
  obtain ⟨F, c, _, _, _, _, _, _, _, _, _, _, _, _, h, _⟩ := h; exact h
theorem Rd.rowQ (h : Rd w s k mp mb lv n E G o vr lr vq lq P wr) : PRow w.heap.size wr vq lq := by
  obtain ⟨F, c, _, _, _, _, _, _, _, _, _, _, _, _, _, h, _⟩ := h; exact h
theorem Rd.keep0 (h : Rd w s k mp mb lv n E G o vr lr vq lq P wr) (kk : Keeps P wr w2) : Rd w s k mp mb lv n E G o vr lr vq lq P w2 := by
  obtain ⟨F, c, h1, h2, h3, h4, h5, h6, h7, h8, h9, h10, h11, h12, h13, h14, h15, h16, h17⟩ := h
  exact ⟨F, c, h1.keep kk (fun b hb e => (h17 b e).1 hb), h2, h3, h4.keep kk (fun e => (h17 _ e).2.1 rfl), kk.blk h5 (fun e => (h17 _ e).2.2.1 rfl), h6.trans kk (fun b hb => .inr (h17 b hb).2.2.2.2.2.1), h7, h8, h9, h10, h11, h12, h13.keep kk (fun b e f => (h17 b f).2.2.2.1 e), h14.keep kk (fun b e f => (h17 b f).2.2.2.2.1 e), h15, h16,fun p hp => ⟨(h17 p hp).1,(h17 p hp).2.1,(h17 p hp).2.2.1,(h17 p hp).2.2.2.1,(h17 p hp).2.2.2.2.1,(h17 p hp).2.2.2.2.2.1, Nat.lt_of_lt_of_le (h17 p hp).2.2.2.2.2.2 kk.size⟩⟩
theorem Rd.dropP (h : Rd w s k mp mb lv n E G o vr lr vq lq P wr) : Rd w s k mp mb lv n E G o vr lr vq lq [] wr := by
  obtain ⟨F, c, h1, h2, h3, h4, h5, h6, h7, h8, h9, h10, h11, h12, h13, h14, h15, h16, h17⟩ := h
  exact ⟨F, c, h1, h2, h3, h4, h5, h6, h7, h8, h9, h10, h11, h12, h13, h14, h15, h16,by simp⟩
theorem Rd.addP (h : Rd w s k mp mb lv n E G o vr lr vq lq [] wr) (kk : Keeps [] wr w2) {p : Nat} (hp : wr.heap.size <= p) (hp2 : p < w2.heap.size) : Rd w s k mp mb lv n E G o vr lr vq lq [p] w2 := by
  obtain ⟨F, c, h1, h2, h3, h4, h5, h6, h7, h8, h9, h10, h11, h12, h13, h14, h15, h16, h17⟩ := h.keep0 kk
  obtain ⟨F', c', g1, g2, g3, g4, g5, g6, g7, g8, g9, g10, g11, g12, g13, g14, g15, g16, g17⟩ := h
  have hlt := g1.lt
  have hml := g4.lt
  have hpl := lt_of_block g5
  have ho13 := g13.own
  have ho14 := g14.own
  refine ⟨F', c', g1.keep kk (by simp), g2, g3, g4.keep kk (by simp), kk.blk g5 (by simp), h6, g7, g8, g9, g10, g11, g12, g13.keep kk (by simp), g14.keep kk (by simp), g15, g16,fun q hq => ?_⟩
  simp only [List.mem_singleton] at hq
  subst hq
  have := g6.size
  exact ⟨fun f => by have := hlt _ f; omega,by omega,by omega,fun e => by have := (ho13 _ e).2; omega,fun e => by have := (ho14 _ e).2; omega,by omega, hp2⟩
theorem rd_min (h : Rd w s k mp mb lv n E G o vr lr vq lq P wr) (g1 : ∀ x, E x ≠ none -> G x = 1) (hi : ∃ y, isIn (remL E o) 1 y) :
    Calls Tryz.prog 32 #[.pointer (some ⟨s,0,none⟩),.int .i64 1] wr fun e w2 => ∃ (x nn : Nat) (key : Int), e = .returned (.tuple #[.agg #[.int .i64 x,.int .u32 1],.int .i64 key,.int .i64 0]) ∧ least (remL E o) 1 x ∧ E x = some (1, key, nn) ∧ x < n ∧ (∀ p ∈ P, ∀ oo, wr.heap[p]? = some oo -> w2.heap[p]? = some oo) ∧ Rd w s k mp mb lv n E G o vr lr vq lq P w2 := by
  obtain ⟨F, c, h1, h2, h3, h4, h5, h6, h7, h8, h9, h10, h11, h12, h13, h14, h15, h16, h17⟩ := h
  refine (pq_min_yes wr F s k n 1 (remL E o) n 4294967295 G h1 1 (by omega) (by omega) hi).mono ?_
  rintro e w2 ⟨x, nn, key, hl, hex,rfl, st, kk⟩
  have hxo : x ∉ o := (remL_in.1 hl.1).2
  have hex' : E x = some (1, key, nn) := by rw [<- hex, remL_at hxo]
  refine ⟨x, nn, key,by rw [g1 x (by rw [hex']; simp)]; rfl, hl, hex', st.ok.lt x hl.1.some,fun p hp oo ho => kk.blk ho (h17 p hp).1, F, c, st, h2, h3, h4.keep kk h10, kk.blk h5 h11, h6.trans kk (fun b hb => .inr (h7 b hb)), h7, h8, h9, h10, h11, h12, h13.keep kk (fun b e => (h15 b e).1), h14.keep kk (fun b e => (h16 b e).1), h15, h16,fun p hp => ⟨(h17 p hp).1,(h17 p hp).2.1,(h17 p hp).2.2.1,(h17 p hp).2.2.2.1,(h17 p hp).2.2.2.2.1,(h17 p hp).2.2.2.2.2.1, Nat.lt_of_lt_of_le (h17 p hp).2.2.2.2.2.2 kk.size⟩⟩
theorem rd_min_no (h : Rd w s k mp mb lv n E G o vr lr vq lq P wr) (hi : ∀ y, ¬ isIn (remL E o) 1 y) :
    Calls Tryz.prog 32 #[.pointer (some ⟨s,0,none⟩),.int .i64 1] wr fun e w2 => e = .returned (.tuple #[.agg #[.int .i64 0,.int .u32 0],.int .i64 0,.int .i64 172]) ∧ Rd w s k mp mb lv n E G o vr lr vq lq P w2 := by
  obtain ⟨F, c, h1, h2, h3, h4, h5, h6, h7, h8, h9, h10, h11, h12, h13, h14, h15, h16, h17⟩ := h
  refine (pq_min_no wr F s k n 1 (remL E o) n 4294967295 G h1 1 (by omega) (by omega) hi).mono ?_
  rintro e w2 ⟨rfl, st, kk⟩
  exact ⟨rfl, F, c, st, h2, h3, h4.keep kk h10, kk.blk h5 h11, h6.trans kk (fun b hb => .inr (h7 b hb)), h7, h8, h9, h10, h11, h12, h13.keep kk (fun b e => (h15 b e).1), h14.keep kk (fun b e => (h16 b e).1), h15, h16,fun p hp => ⟨(h17 p hp).1,(h17 p hp).2.1,(h17 p hp).2.2.1,(h17 p hp).2.2.2.1,(h17 p hp).2.2.2.2.1,(h17 p hp).2.2.2.2.2.1, Nat.lt_of_lt_of_le (h17 p hp).2.2.2.2.2.2 kk.size⟩⟩
theorem rd_extract (h : Rd w s k mp mb lv n E G o vr lr vq lq P wr) {x : Nat} (hl : least (remL E o) 1 x) :
    Calls Tryz.prog 31 #[.pointer (some ⟨s,0,none⟩),.int .i64 1] wr fun e w2 => (∃ v, e = .returned v) ∧ (∀ p ∈ P, ∀ oo, wr.heap[p]? = some oo -> w2.heap[p]? = some oo) ∧ Rd w s k mp mb lv n E G (o ++ [x]) vr lr vq lq P w2 := by
  obtain ⟨F, c, h1, h2, h3, h4, h5, h6, h7, h8, h9, h10, h11, h12, h13, h14, h15, h16, h17⟩ := h
  refine (pq_extract_yes wr F s k n 1 (remL E o) n 4294967295 G h1 1 (by omega) (by omega) ⟨x, hl.1⟩).mono ?_
  rintro e w2 ⟨x', nn, key, hl', hex,rfl, F', st, mv⟩
  obtain rfl := hl'.one hl
  have hml := h4.lt
  have hpl := lt_of_block h5
  have ho13 := h13.own
  have ho14 := h14.own
  have hnew : ∀ b, b < wr.heap.size -> b ∉ F -> b ∉ F' := fun b hb hf f => by
    rcases mv.from' b f with c | c
    · exact hf c
    · omega
  refine ⟨⟨_,rfl⟩,fun p hp oo ho => mv.keeps.blk ho (h17 p hp).1, F', c,by rw [<- remL_put]; exact st, h2.step hl,?_, h4.keep mv.keeps h10, mv.keeps.blk h5 h11, h6.trans mv.keeps (fun b hb => .inr (h7 b hb)),fun b hb => ?_, h8, h9, hnew _ hml h10, hnew _ hpl h11, h12, h13.keep mv.keeps (fun b e => (h15 b e).1), h14.keep mv.keeps (fun b e => (h16 b e).1),fun b e => ⟨hnew b (ho13 b e).2 (h15 b e).1,(h15 b e).2⟩,fun b e => ⟨hnew b (ho14 b e).2 (h16 b e).1,(h16 b e).2⟩,fun p hp => ⟨hnew p (h17 p hp).2.2.2.2.2.2 (h17 p hp).1,(h17 p hp).2.1,(h17 p hp).2.2.1,(h17 p hp).2.2.2.1,(h17 p hp).2.2.2.2.1,(h17 p hp).2.2.2.2.2.1, Nat.lt_of_lt_of_le (h17 p hp).2.2.2.2.2.2 mv.keeps.size⟩⟩
  · rw [<- remL_put, List.length_append, List.length_singleton]
    have := count_out (n := n) (h1.ok.lt x' hl.1.some) hl.1
    omega
  · rcases mv.from' b hb with c | c
    · exact h7 b c
    · have := h6.size; omega
theorem Rd.pushQ {ao : Option Addr} {ca g' c' y : Nat} (h : Rd w s k mp mb lv n E G o vr lr (.slice ao lq.length ca) lq P wr)
    (hr : w2.ownsRow 0 51 2 (.slice (some ⟨g',0,none⟩) (lq.length + 1) c') (lq.length + 1) (rplV lq ++ [.int .i64 (y : Nat),.int .i64 0])) (k2 : Keeps (Value.slice ao lq.length ca).ownBlock.toList wr w2) (hg2 : (Value.slice ao lq.length ca).ownBlock = some g' ∨ wr.heap.size <= g') :
    Rd w s k mp mb lv n E G o vr lr (.slice (some ⟨g',0,none⟩) (lq.length + 1) c') (lq ++ [y]) P w2 := by
  obtain ⟨F, c, h1, h2, h3, h4, h5, h6, h7, h8, h9, h10, h11, h12, h13, h14, h15, h16, h17⟩ := h
  have hown := h14.own
  have hlt := h1.lt
  have hml := h4.lt
  have hpl := lt_of_block h5
  have hgw : w.heap.size <= g' := by
    rcases hg2 with e | e
    · exact (hown g' e).1
    · have := h6.size; omega
  have hin : ∀ b, b ∈ (Value.slice ao lq.length ca).ownBlock.toList -> (Value.slice ao lq.length ca).ownBlock = some b := fun b hb => by simpa [Option.mem_toList] using hb
  have hq : PRow w.heap.size w2 (.slice (some ⟨g',0,none⟩) (lq.length + 1) c') (lq ++ [y]) := PRow.pushed (m := [y]) hr hgw
  refine ⟨F, c, h1.keep k2 (fun b hb e => (h16 b (hin b e)).1 hb), h2, h3, h4.keep k2 (fun e => (h16 mb (hin mb e)).2.1 rfl), k2.blk h5 (fun e => (h16 mp (hin mp e)).2.2 rfl), h6.trans k2 (fun b hb => .inr (hown b (hin b hb)).1), h7, h8, h9, h10, h11, h12, h13.keep k2 (fun b e f => (h15 b e).2.2.2 (hin b f)), hq,fun b e => ⟨(h15 b e).1,(h15 b e).2.1,(h15 b e).2.2.1,fun f => ?_⟩,fun b e => ?_,fun p hp => ⟨(h17 p hp).1,(h17 p hp).2.1,(h17 p hp).2.2.1,(h17 p hp).2.2.2.1,fun e => ?_,(h17 p hp).2.2.2.2.2.1, Nat.lt_of_lt_of_le (h17 p hp).2.2.2.2.2.2 k2.size⟩⟩
  · simp [Value.ownBlock] at f
    subst f
    rcases hg2 with q | q
    · exact (h15 _ e).2.2.2 q
    · have := (h13.own _ e).2; omega
  · simp [Value.ownBlock] at e
    subst e
    rcases hg2 with q | q
    · exact h16 _ q
    · exact ⟨fun f => by have := hlt _ f; omega,by omega,by omega⟩
  · simp [Value.ownBlock] at e
    subst e
    rcases hg2 with q | q
    · exact (h17 _ hp).2.2.2.2.1 q
    · have := (h17 _ hp).2.2.2.2.2.2; omega
theorem Rd.app {ao : Option Addr} {ca g' c' : Nat} (h : Rd w s k mp mb lv n E G o (.slice ao lr.length ca) lr vq lq P wr)
    (hr : w2.ownsRow 0 51 2 (.slice (some ⟨g',0,none⟩) (lr.length + lq.length) c') (lr.length + lq.length) (rplV lr ++ rplV lq)) (k2 : Keeps (Value.slice ao lr.length ca).ownBlock.toList wr w2) (hg2 : (Value.slice ao lr.length ca).ownBlock = some g' ∨ wr.heap.size <= g') :
    Rd w s k mp mb lv n E G o (.slice (some ⟨g',0,none⟩) (lr.length + lq.length) c') (lr ++ lq) (.slice none 0 0) [] [] w2 := by
  obtain ⟨F, c, h1, h2, h3, h4, h5, h6, h7, h8, h9, h10, h11, h12, h13, h14, h15, h16, h17⟩ := h
  have hown := h13.own
  have hlt := h1.lt
  have hml := h4.lt
  have hpl := lt_of_block h5
  have hgw : w.heap.size <= g' := by
    rcases hg2 with e | e
    · exact (hown g' e).1
    · have := h6.size; omega
  have hin : ∀ b, b ∈ (Value.slice ao lr.length ca).ownBlock.toList -> (Value.slice ao lr.length ca).ownBlock = some b := fun b hb => by simpa [Option.mem_toList] using hb
  refine ⟨F, c, h1.keep k2 (fun b hb e => (h15 b (hin b e)).1 hb), h2, h3, h4.keep k2 (fun e => (h15 mb (hin mb e)).2.1 rfl), k2.blk h5 (fun e => (h15 mp (hin mp e)).2.2.1 rfl), h6.trans k2 (fun b hb => .inr (hown b (hin b hb)).1), h7, h8, h9, h10, h11, h12, PRow.pushed hr hgw, PRow.nil _ _,fun b e => ?_,(fun b e => by simp [Value.ownBlock] at e),by simp⟩
  simp [Value.ownBlock] at e
  subst e
  rcases hg2 with q | q
  · exact ⟨(h15 _ q).1,(h15 _ q).2.1,(h15 _ q).2.2.1,by simp [Value.ownBlock]⟩
  · exact ⟨fun f => by have := hlt _ f; omega,by omega,by omega,by simp [Value.ownBlock]⟩
theorem chunk_up {c : List Nat} {key : Int} {keys : List Int} (d : Drn E 1 (o ++ c)) (f : Filled E 1 keys) (uq : ∀ x y h key n h' key', E x = some (h, key, n) -> E y = some (h', key', n) -> x = y) (hk : ∀ x ∈ c, keyE E x = key) :
    (c.map (lst E)).Pairwise (· < ·) ∧ ∀ i ∈ c.map (lst E), i < keys.length := by
  have hx : ∀ x ∈ c, ∃ i : Nat, E x = some (1, key, i + 1) ∧ i < keys.length := fun x hx => by
    obtain ⟨⟨k, n⟩, e⟩ := d.mem x (by simp [hx])
    obtain ⟨_, i,rfl, hki⟩ := f.only x 1 k n e
    have := hk x hx
    rw [keyE_some e] at this
    subst this
    exact ⟨i, e,(List.getElem?_eq_some_iff.1 hki).1⟩
  refine ⟨?_,fun i hi => ?_⟩
  · rw [List.pairwise_map]
    have hs := (List.pairwise_append.1 d.srt).2.1
    refine List.Pairwise.imp_of_mem ?_ hs
    intro x y hxc hyc hxy
    obtain ⟨i, e1, _⟩ := hx x hxc
    obtain ⟨j, e2, _⟩ := hx y hyc
    obtain ⟨_, _, _, _, q1, q2, q3⟩ := ahead_iff.1 hxy
    rw [e1] at q1; rw [e2] at q2
    cases q1; cases q2
    simp only at q3
    simp only [lst, seqE_some e1, seqE_some e2, Nat.add_sub_cancel]
    rcases q3 with q | ⟨_, q | ⟨q, _⟩⟩
    · omega
    · omega
    · have : i = j := by omega
      subst this
      exact absurd (uq x y _ _ _ _ _ e1 e2) (ahead_ne hxy)
  · obtain ⟨x, hxc,rfl⟩ := List.mem_map.1 hi
    obtain ⟨j, e1, hj⟩ := hx x hxc
    simp only [lst, seqE_some e1, Nat.add_sub_cancel]
    exact hj
end
theorem hmap_run_place {t : TypeId} {w : World} {b c : Nat} {f : Nat -> Nat -> Option (Nat × Nat)} (ht : Tryz.prog.underlying t = some (.map 45 51)) (h : HMap elmPlace w b c f) (x g : Nat) (hxg : okH x g) (n k : Nat) (hf : f x g = some (n, k)) :
    (Instr.lookup t (.map (some b)) (.agg #[.int .i64 (x : Int),.int .u32 (g : Int)]) false).run Tryz.prog w = .ok (.agg #[.int .i64 (n : Int),.int .i64 (k : Int)]) w := by
  obtain ⟨D, h1, h2, h3⟩ := h
  obtain ⟨v, ps, hrun, hv⟩ := h1.lookup Tryz.keyedHandle ht (elmPlace.hz w) (elmPlace.hR elmPlace.zero elmPlace.zok) (hkey x g hxg)
  have hv' : v = elmPlace.val (n, k) := by
    rw [(h3 x g hxg).2, hf] at hv
    exact elmPlace.inv _ _ _ hv
  subst hv'
  exact hrun
theorem hmap_run_place1 {t : TypeId} {w : World} {b c : Nat} {f : Nat -> Nat -> Option (Nat × Nat)} (ht : Tryz.prog.underlying t = some (.map 45 51)) (h : HMap elmPlace w b c f) (x : Nat) (hxg : okH x 1) (n : Nat) (hf : f x 1 = some (n, 0)) :
    (Instr.lookup t (.map (some b)) (.agg #[.int .i64 (x : Int),.int .u32 1]) false).run Tryz.prog w = .ok (.agg #[.int .i64 (n : Int),.int .i64 0]) w := hmap_run_place ht h x 1 hxg n 0 hf
def ReadyDone (w : World) (s k mp mb : Nat) (lv : Value) (n : Nat) (E : Ent) (G : Nat -> Nat) (o : List Nat) (vr : Value) (lr : List Nat) (e : Ending) (w' : World) : Prop :=
  ∃ (c : List Nat) (v : Value), e = .returned v ∧ Rd w s k mp mb lv n E G (o ++ c) vr lr v (c.map (lst E)) [] w' ∧ (c = [] -> ∀ y, ¬ isIn (remL E o) 1 y)
section
variable (w : World) (s k mp mb : Nat) (lv : Value) (keys : List Int) (E : Ent) (G : Nat -> Nat)
theorem ready_calls {wr0 : World} {o : List Nat} {vr : Value} {lr : List Nat} (hcap : keys.length <= 65536) (fp : FillP E G keys.length 1 keys) (uq : ∀ x y h key n h' key', E x = some (h, key, n) -> E y = some (h', key', n) -> x = y)
    (h : Rd w s k mp mb lv keys.length E G o vr lr (.slice none 0 0) [] [] wr0) (hl : LIn w lv keys) :
    Calls Tryz.prog 29 #[.pointer (some ⟨mp,0,none⟩)] wr0 (ReadyDone w s k mp mb lv keys.length E G o vr lr) := by
  have c0 : wr0.cell? ⟨mp,0,none⟩ = some (.pointer (some ⟨s,0,none⟩)) := by rw [cell_of_blk h.blk]; rfl
  by_cases hex : ∃ y, isIn (remL E o) 1 y
  · have hmin := rd_min h fp.g1 hex
    have hlen := h.len
    have HH := Lib.hid h
    have HL := Lib.hid hl
    have FP := Lib.hid fp
    have UQ := Lib.hid uq
    clear h hl fp uq hex
    go_enter Tryz.func29, Tryz.ntmps29
    go_wp2_with (go_at_call 32; refine hmin.mono ?_; rintro e w2 ⟨x0, n0, key,rfl, hl0, hE0, hx0, _, q2⟩; have Q2 := Lib.hid (q2.keep0 ((Keeps.refl _ _).alloc (.cells #[.int .i64 x0,.int .u32 1] 45 (0,0)))); have L0 := Lib.hid hl0; have E0 := Lib.hid hE0; clear q2 hl0 hE0)
    clear hmin
    go_loopg [6] (keys.length + 1) (fun j v wr => ∃ c : List Nat, j + c.length = keys.length + 1 ∧ Rd w s k mp mb lv keys.length E G (o ++ c) vr lr v (c.map (lst E)) [] wr ∧ (∀ x ∈ c, keyE E x = key) ∧ (c = [] -> least (remL E o) 1 x0))
    case atStart => exact ⟨[],by simp,by rw [List.append_nil]; exact Q2.out,by simp,fun _ => L0.out⟩
    case round =>
      clear Q2 c0 HH
      obtain ⟨c, hk, hq, hck, hc0⟩ := hrel
      have hclen := hq.len
      rw [List.length_append] at hclen
      obtain ⟨gk0, hgk0⟩ : ∃ gk0, gk0 = gk := ⟨_,rfl⟩
      have HG := Lib.hid hgk0
      clear hgk0
      have HK := Lib.hid hk
      clear hk
      obtain ⟨ao, ca,rfl⟩ := hq.rowQ.form
      rw [List.length_map] at hq ⊢
      have c0 : wr.cell? ⟨mp,0,none⟩ = some (.pointer (some ⟨s,0,none⟩)) := by rw [cell_of_blk hq.blk]; rfl
      have hend : ∀ wq, Rd w s k mp mb lv keys.length E G (o ++ c) vr lr (.slice ao c.length ca) (c.map (lst E)) [] wq -> c ≠ [] -> Calls Tryz.prog 53 #[.slice ao c.length ca, cmpV'] wq fun e w' => e = .returned (.tuple #[]) ∧ ReadyDone w s k mp mb lv keys.length E G o vr lr (.returned (.slice ao c.length ca)) w' := by
        intro wq hq hne
        have hpos : 0 < (c.map (lst E)).length := by rw [List.length_map]; exact List.length_pos_iff.2 hne
        obtain ⟨g, ca', hv⟩ := hq.rowQ.form1 hpos
        rw [List.length_map] at hv
        cases hv
        obtain ⟨u1, u2⟩ := chunk_up hq.drn FP.out.fl UQ.out hck
        have hpat := PRow.pat (l := c.map (lst E)) (g := g) (ca := ca) (w := wq) (by rw [List.length_map]; exact hq.rowQ) u1 (fun x hx => by have := u2 x hx; omega) (by rw [List.length_map]; omega)
        rw [List.length_map] at hpat
        refine (sortStable_calls g c.length ca _ wq hpat).mono ?_
        rintro e w' ⟨rfl, kk⟩
        exact ⟨rfl, c, _,rfl, hq.keep0 kk,fun e => absurd e hne⟩
      have HEND := Lib.hid hend
      clear hend
      by_cases hexY : ∃ y, isIn (remL E (o ++ c)) 1 y
      · have hmin := rd_min hq FP.out.g1 hexY
        clear hexY hq
        go_upto_region 6 with (go_at_call 32; refine hmin.mono ?_; rintro e w3 ⟨x, nn, key',rfl, hl', hE', hx', _, q3⟩; have q4 := q3.keep0 ((Keeps.refl _ _).alloc (.cells #[.int .i64 x,.int .u32 1] 45 (0,0))); have hA : (w3.alloc (.cells #[.int .i64 (x : Int),.int .u32 1] 45 (0,0))).heap[w3.heap.size]? = some (.cells #[.int .i64 (x : Int),.int .u32 1] 45 (0,0)) := blk_alloc_new _; clear q3)
        clear hmin
        generalize hwA : w3.alloc (.cells #[.int .i64 (x : Int),.int .u32 1] 45 (0,0)) = wA at *
        clear hwA
        by_cases hkk : key' = key
        · subst hkk
          have hkf : (key' != key') = false := by simp
          have z3 : wA.cell? ⟨w3.heap.size,0,none⟩ = some (.int .i64 (x : Int)) := (cell_of_blk hA).trans rfl
          have z4 : wA.cell? ⟨w3.heap.size,1,none⟩ = some (.int .u32 1) := (cell_of_blk hA).trans rfl
          have d2 : wA.cell? ⟨mp,2,none⟩ = some (.map (some mb)) := by rw [cell_of_blk q4.blk]; rfl
          obtain ⟨cm, hm⟩ := q4.map
          have hokx : okH x 1 := ⟨by omega,by omega⟩
          have hlk1 := hmap_run_place1 Tryz.underlying80 (hm.keep ((Keeps.refl [] wA).drew) (by simp)) x hokx _ (plF_some hE')
          have hlk2 := hmap_run_place1 Tryz.underlying80 (hm.keep (((Keeps.refl [] wA).alloc (.cells #[.int .i64 0,.int .i64 0] 51 (0,0))).drew) (by simp)) x hokx _ (plF_some hE')
          have kz : Keeps [] wA (wA.alloc (.cells #[.int .i64 0,.int .i64 0] 51 (0,0))) := (Keeps.refl _ _).alloc _
          have y2 := kz.cell d2
          have y3 := kz.cell z3
          have y4 := kz.cell z4
          have Q4 := Lib.hid q4
          have HE := Lib.hid hE'
          have HL' := Lib.hid hl'
          clear q4 hE' hl' hm hA kz c0
          generalize hnn : nn - 1 = li at *
          go_upto_region 7 with fail
          go_region
          all_goals
            have kB : Keeps [] wA (wA.alloc (.cells #[.int .i64 (li : Int),.int .i64 0] 51 (0,0))).drew := ((Keeps.refl _ _).alloc _).drew
            have hB : (wA.alloc (.cells #[.int .i64 (li : Int),.int .i64 0] 51 (0,0))).drew.heap[wA.heap.size]? = some (.cells #[.int .i64 (li : Int),.int .i64 0] 51 (0,0)) := blk_alloc_new _
            have q5 := Q4.out.addP kB (Nat.le_refl _) (lt_of_block hB)
            generalize (wA.alloc (.cells #[.int .i64 (li : Int),.int .i64 0] 51 (0,0))).drew = wB at *
            generalize wA.heap.size = pb at *
            clear hlk1 hlk2 y2 y3 y4 z3 z4 d2 kB
            have hext := rd_extract q5 HL'.out
            have c0 : wB.cell? ⟨mp,0,none⟩ = some (.pointer (some ⟨s,0,none⟩)) := by rw [cell_of_blk q5.blk]; rfl
            have HB := Lib.hid hB
            clear q5 hB
            go_upto_region 9 with (go_at_call 31; refine hext.mono ?_; rintro e w6 ⟨⟨v6,rfl⟩, hk6, q6⟩; have hb6 := hk6 pb (List.mem_singleton.2 rfl) _ HB.out; clear hk6)
            clear hext c0 HB
            rw [List.append_assoc] at q6
            have hli : keys[li]? = some key' := by
              obtain ⟨_, i, hi, hki⟩ := FP.out.fl.only x 1 key' nn HE.out
              have : li = i := by omega
              rw [this]; exact hki
            have hlx : lst E x = li := by rw [lst, seqE_some HE.out]; exact hnn
            have hlil := (List.getElem?_eq_some_iff.1 hli).1
            have hli3 : (li : Int) < (keys.length : Int) := by omega
            obtain ⟨_, g, lca, gi, hv, cw1, cw2⟩ := HL.out.2 li key' hli
            have c1 := q6.kp.cell cw1
            have c2 := q6.kp.cell cw2
            have CW := Lib.hid cw2
            clear cw1 cw2
            have hlvs := hv
            subst hlvs
            have d1 : w6.cell? ⟨mp,1,none⟩ = some (.slice (some ⟨g,0,none⟩) keys.length lca) := by rw [cell_of_blk q6.blk]; rfl
            have d3 : w6.cell? ⟨pb,0,none⟩ = some (.int .i64 (li : Int)) := by rw [cell_of_blk hb6]; rfl
            have Q6 := Lib.hid q6
            have HB6 := Lib.hid hb6
            clear q6 hb6 hnn
            go_quiet (fail)
            have kC : Keeps [] w6 (w6.drewN nq) := (Keeps.refl _ _).drewN nq
            have f2 := kC.cell c2
            have q7 := Q6.out.keep0 (kC.mono (T := [pb]) (by simp))
            have hb7 := kC.blk HB6.out (by simp)
            generalize w6.drewN nq = wC at *
            clear c1 c2 d1 d3 Q6 HB6 Q4 kC hv
            have Q7 := Lib.hid q7
            have HB7 := Lib.hid hb7
            clear q7 hb7
            go_wp2_with fail
            go_loopg [6] 2 (fun j v wr => (j = 2 ∧ v = .slice ao c.length ca ∧ Rd w s k mp mb (.slice (some ⟨g,0,none⟩) keys.length lca) keys.length E G (o ++ (c ++ [x])) vr lr (.slice ao c.length ca) (c.map (lst E)) [pb] wr ∧ wr.heap[pb]? = some (.cells #[.int .i64 (li : Int),.int .i64 0] 51 (0,0))) ∨
              (j = 1 ∧ ∃ g' ca', v = .slice (some ⟨g',0,none⟩) (c.length + 1) ca' ∧ Rd w s k mp mb (.slice (some ⟨g,0,none⟩) keys.length lca) keys.length E G (o ++ (c ++ [x])) vr lr (.slice (some ⟨g',0,none⟩) (c.length + 1) ca') ((c ++ [x]).map (lst E)) [pb] wr ∧ wr.heap[pb]? = some (.cells #[.int .i64 (li : Int),.int .i64 1] 51 (0,0))))
            case atStart => exact .inl ⟨rfl,rfl, Q7.out, HB7.out⟩
            case round =>
              clear Q7 HB7 f2
              rcases hrel with ⟨hj,rfl, q8, hb8⟩ | ⟨hj, g', ca',rfl, q8, hb8⟩
              · have f2 := q8.kp.cell CW.out
                have p0 : wr.cell? ⟨pb,0,none⟩ = some (.int .i64 (li : Int)) := by rw [cell_of_blk hb8]; rfl
                have p1 : wr.cell? ⟨pb,1,none⟩ = some (.int .i64 0) := by rw [cell_of_blk hb8]; rfl
                have hr8 : wr.ownsRow 0 51 2 (.slice ao c.length ca) c.length (rplV (c.map (lst E))) := by
                  have := q8.rowQ.lo (Nat.zero_le _)
                  unfold PRow at this
                  rw [List.length_map] at this
                  exact this
                have hpb : pb < wr.heap.size := lt_of_block hb8
                have hfin : ∀ g' c' w2, w2.ownsRow 0 51 2 (.slice (some ⟨g',0,none⟩) (c.length + 1) c') (c.length + 1) (rplV (c.map (lst E)) ++ [.int .i64 (li : Int),.int .i64 0]) -> Keeps (Value.slice ao c.length ca).ownBlock.toList wr w2 -> ((Value.slice ao c.length ca).ownBlock = some g' ∨ wr.heap.size <= g') ->
                    w2.cell? ⟨pb,1,none⟩ = some (.int .i64 0) ∧ w2.frozen? ⟨pb,1,none⟩ = false ∧ Hid (Rd w s k mp mb (.slice (some ⟨g,0,none⟩) keys.length lca) keys.length E G (o ++ (c ++ [x])) vr lr (.slice (some ⟨g',0,none⟩) (c.length + 1) c') ((c ++ [x]).map (lst E)) [pb] (w2.setCell ⟨pb,1,none⟩ (.int .i64 1)) ∧ (w2.setCell ⟨pb,1,none⟩ (.int .i64 1)).heap[pb]? = some (.cells #[.int .i64 (li : Int),.int .i64 1] 51 (0,0))) := by
                  intro g' c' w2 hr hk hg
                  have hlen : (c.map (lst E)).length = c.length := List.length_map ..
                  have hpush := Rd.pushQ (lq := c.map (lst E)) (ao := ao) (ca := ca) (g' := g') (c' := c') (y := li) (w2 := w2) (by rw [hlen]; exact q8) (by rw [hlen]; exact hr) (by rw [hlen]; exact hk) (by rw [hlen]; exact hg)
                  rw [hlen] at hpush
                  have hmap : (c ++ [x]).map (lst E) = c.map (lst E) ++ [li] := by rw [List.map_append, List.map_singleton, hlx]
                  have hbp := hk.blk hb8 (fun e => by
                    obtain ⟨_, _, _, _, _, _, _, _, _, _, _, _, _, _, _, _, _, _, h17⟩ := q8
                    exact (h17 pb (List.mem_singleton.2 rfl)).2.2.2.2.1 (by simpa [Option.mem_toList] using e))
                  have kS : Keeps [pb] w2 (w2.setCell ⟨pb,1,none⟩ (.int .i64 1)) := Keeps.setCell (S := [pb]) (a := w2) (b := w2) (p := ⟨pb,1,none⟩) (Keeps.refl [pb] w2) (.inl (by simp)) _
                  refine ⟨by rw [cell_of_blk hbp]; rfl, frozen_of_blk hbp,?_, blk_setCell (i := 1) (.int .i64 1) hbp⟩
                  rw [hmap]
                  exact hpush.keep0 kS
                have HF := Lib.hid hfin
                clear hfin q8 hb8
                go_wp2_with (at_builtin; refine wpList_push_agg _ 51 #[.int .i64 (li : Int),.int .i64 0] (0,0) rfl (.tmp 76) (.tmp 78) 33 rfl (.agg #[.int .i64 0,.int .i64 0]) 2 16 Tryz.underlying33 Tryz.infoRPlace rfl (by decide) rfl (rplV_one [li]) (.slice ao c.length ca) c.length (rplV (c.map (lst E))) (by simp [Act.eval]) hr8 (by simp [Act.eval]) (by unfold maxLen; omega) (by omega) ?_; intro g' cap' w9 hr9 hk9 hf9; obtain ⟨y1, y2, y3⟩ := HF.out g' cap' w9 hr9 hk9 hf9; clear hr9 hk9 hf9)
                go_roundg 1
                case measure => omega
                case rel => exact .inr ⟨rfl, _, _,by go_num, y3.out.1, y3.out.2⟩
              · have f2 := q8.kp.cell CW.out
                have p0 : wr.cell? ⟨pb,0,none⟩ = some (.int .i64 (li : Int)) := by rw [cell_of_blk hb8]; rfl
                have p1 : wr.cell? ⟨pb,1,none⟩ = some (.int .i64 1) := by rw [cell_of_blk hb8]; rfl
                have hpush := push_no s mp mb keys (.slice (some ⟨g,0,none⟩) keys.length lca) (i := li) (wr := wr) hcap q8.blk hlil (HL.out.keep q8.kp (by simp))
                have Q8 := Lib.hid q8
                clear q8 hb8
                go_wp2_with (go_at_call 28; refine hpush.mono ?_; rintro e w9 ⟨rfl, k9⟩; have Q9 := Lib.hid ((Q8.out.keep0 (k9.mono (by simp))).dropP); clear k9)
                go_roundg (gk0 - 1)
                case measure => have := HK.out; have := HG.out; omega
                case rel => exact ⟨c ++ [x],by have := HK.out; have := HG.out; simp; omega,by simpa using Q9.out,fun y hy => by
                  rcases List.mem_append.1 hy with c1 | c1
                  · exact hck y c1
                  · simp only [List.mem_singleton] at c1; subst c1; exact keyE_some HE.out,fun e => by simp at e⟩
        · have hkf : (key' != key) = true := by rw [bne_iff_ne]; exact hkk
          have hne : c ≠ [] := fun e => by
            subst e
            rw [List.append_nil] at hl'
            have := (hc0 rfl).one hl'
            subst this
            have e0 := E0.out
            rw [hE'] at e0
            cases e0
            exact hkk rfl
          have hs := HEND.out wA q4 hne
          have HKK := Lib.hid hkk
          clear hkk q4 hE' hl' hc0 hck c0
          go_wp2_with (go_at_call 53; refine hs.mono ?_; rintro e w9 ⟨rfl, z9⟩; have Z9 := Lib.hid z9; clear z9)
          go_ret
          exact Z9.out
      · have hno : ∀ y, ¬ isIn (remL E (o ++ c)) 1 y := fun y hy => hexY ⟨y, hy⟩
        have hmin := rd_min_no hq hno
        have hne : c ≠ [] := fun e => by
          subst e
          rw [List.append_nil] at hno
          exact hno x0 (hc0 rfl).1
        clear hexY hq hno hc0 hck
        go_wp2_with (first
          | (go_at_call 32; refine hmin.mono ?_; rintro e w3 ⟨rfl, q3⟩; have hs := HEND.out _ (q3.keep0 ((Keeps.refl _ _).alloc (.cells #[.int .i64 0,.int .u32 0] 45 (0,0)))) hne; clear q3)
          | (go_at_call 53; refine hs.mono ?_; rintro e w9 ⟨rfl, z9⟩; have Z9 := Lib.hid z9; clear z9))
        go_ret
        exact Z9.out
  · have hno : ∀ y, ¬ isIn (remL E o) 1 y := fun y hy => hex ⟨y, hy⟩
    have hmin := rd_min_no h hno
    have HN := Lib.hid hno
    clear hno hex h hl fp uq
    go_enter Tryz.func29, Tryz.ntmps29
    go_wp2_with (go_at_call 32; refine hmin.mono ?_; rintro e w3 ⟨rfl, q3⟩; have Q3 := Lib.hid (q3.keep0 ((Keeps.refl _ _).alloc (.cells #[.int .i64 0,.int .u32 0] 45 (0,0)))); clear q3)
    go_ret
    exact ⟨[],.slice none 0 0,rfl,by rw [List.append_nil]; exact Q3.out,fun _ => HN.out⟩
end
def MergeDone (w : World) (keys : List Int) (e : Ending) (w' : World) : Prop :=
  ∃ (l : List Nat) (v : Value), e = .returned (.tuple #[v,.int .i64 0]) ∧ Sorted keys l ∧ PRow w.heap.size w' v l ∧ Keeps [] w w'
theorem PRow.news {B : Nat} {w : World} {l : List Nat} {g n ca : Nat} (h : PRow B w (.slice (some ⟨g,0,none⟩) n ca) l) : ∀ j u,(rplV l)[j]? = some u -> w.cell? ((⟨g,0,none⟩ : Addr).add j) = some u := by
  intro j u hj
  have hlt := (List.getElem?_eq_some_iff.1 hj).1
  rw [rplV_len] at hlt
  have h' := h
  have hn : n = l.length := by
    rcases h.2 with ⟨h0, _⟩ | ⟨g', cap', cur, e, _⟩
    · cases h0
    · cases e; rfl
  subst hn
  unfold PRow at h'
  rw [Addr.add_lit, Nat.zero_add, World.ownsRow.cellAt h' j (by omega)]
  exact hj
theorem merge_calls (w : World) (keys : List Int) (a b : Int) (hc : okC a b) (lv : Value) (hl : LIn w lv keys) (hlen : keys.length <= 65536) :
    Calls Tryz.prog 10 #[.agg #[.int .i64 a,.int .i64 b], lv] w (MergeDone w keys) := by
  obtain ⟨⟨ao, ca, hlv⟩, _⟩ := id hl
  obtain ⟨w0, hw0⟩ : ∃ w0, w0 = w.alloc (.cells #[.int .i64 a,.int .i64 b] 23 (0,0)) := ⟨_,rfl⟩
  have k0 : Keeps [] w w0 := by rw [hw0]; exact (Keeps.refl _ _).alloc _
  have hb0 : w0.heap[w.heap.size]? = some (.cells #[.int .i64 a,.int .i64 b] 23 (0,0)) := by rw [hw0]; exact blk_alloc_new _
  have e0 : w0.cell? ⟨w.heap.size,0,none⟩ = some (.int .i64 a) := by rw [cell_of_blk hb0]; rfl
  have e1 : w0.cell? ⟨w.heap.size,1,none⟩ = some (.int .i64 b) := by rw [cell_of_blk hb0]; rfl
  have hop := rank_open w0 a b keys.length 1 hc hlen (by omega)
  have hmm := @run_makeMap Tryz.prog
  subst hlv
  have hmany := many_calls w0 keys ao ca (hl.keep k0 (by simp)) hlen
  have hnon := fun u (ku : Keeps [] w u) => unsorted_none u keys ao ca (hl.keep ku (by simp)) hlen
  have HNON := Lib.hid hnon
  have K0 := Lib.hid k0
  have HL := Lib.hid hl
  clear k0 hb0 hl hc hnon
  generalize a.toNat = kk at *
  have b1 : decide ((65536 : Int) < (keys.length : Int)) = false := by rw [decide_eq_false_iff_not]; omega
  go_enter Tryz.func10, Tryz.ntmps10
  go_upto_region 1 with fail
  rw [<- hw0]
  clear hw0
  go_upto_region 7 with (first
    | (go_at_call 23; refine hmany.mono ?_; rintro e wx ⟨rfl,rfl⟩)
    | (go_at_call 24; refine hop.mono ?_; rintro e w1 ⟨F, s,rfl, st, k1, hF⟩; have hct := HNON.out w1 (K0.out.trans k1 (by simp)); have ST := Lib.hid st; have K1 := Lib.hid k1; have HF := Lib.hid hF; clear st k1 hF e0 e1)
    | (go_at_call 25; refine hct.mono ?_; rintro e wx ⟨rfl,rfl⟩))
  clear hct HNON hmany hop
  have hs1 : w.heap.size <= w1.heap.size := Nat.le_trans K0.out.size K1.out.size
  have hst1 : MSt w s kk (w1.heap.size + 1) w1.heap.size (.slice ao keys.length ca) keys 0 ((w1.alloc (.map #[] 0)).alloc (mergerO s w1.heap.size (.slice ao keys.length ca))) := by
    have kA : Keeps [] w1 (w1.alloc (.map #[] 0)) := (Keeps.refl _ _).alloc _
    have kB : Keeps [] (w1.alloc (.map #[] 0)) ((w1.alloc (.map #[] 0)).alloc (mergerO s w1.heap.size (.slice ao keys.length ca))) := (Keeps.refl _ _).alloc _
    have hlt := ST.out.lt
    have hbk := blk_alloc_new (w := w1.alloc (.map #[] 0)) (mergerO s w1.heap.size (.slice ao keys.length ca))
    have hsz : (w1.alloc (.map #[] 0)).heap.size = w1.heap.size + 1 := by simp
    rw [hsz] at hbk
    exact ⟨fun _ => none,fun _ => 0, F, 0,⟨(ST.out.keep kA (by simp)).keep kB (by simp), FillP.empty _ _⟩,(by rw [plF_nil]; exact (HMap.made elmPlace w1).keep kB (by simp)), Nat.le_refl _, hbk,((K0.out.trans K1.out (by simp)).trans kA (by simp)).trans kB (by simp),fun b hb => Nat.le_trans K0.out.size (HF.out b hb), hs1,by omega,fun h => Nat.lt_irrefl _ (hlt _ h),fun h => by have := hlt _ h; omega,by omega⟩
  have HS := Lib.hid hst1
  clear hst1 ST K1 HF hs1 K0
  go_wp2_with fail
  go_loopg [38] (keys.length + 1) (fun j t wr => ∃ i : Nat, j + i = keys.length + 1 ∧ i <= keys.length ∧ t = .int .i64 i ∧ MSt w s kk (w1.heap.size + 1) w1.heap.size (.slice ao keys.length ca) keys i wr)
  case atStart => exact ⟨0,by omega,by omega,rfl, HS.out⟩
  case round =>
    clear HS
    obtain ⟨i, hk, hin,rfl, hm⟩ := hrel
    have HK := Lib.hid hk
    clear hk
    generalize w1.heap.size = mb at *
    by_cases hi : i < keys.length
    · have hi3 : (i : Int) < (keys.length : Int) := by omega
      have kw : Keeps [] w wr := by obtain ⟨_, _, _, _, _, _, _, _, h, _⟩ := hm; exact h
      have hpush := push_do w s kk (mb + 1) mb (.slice ao keys.length ca) keys hlen hm hi (HL.out.keep kw (by simp))
      clear hm kw
      go_wp2_with (go_at_call 28; refine hpush.mono ?_; rintro e w9 ⟨rfl, q9⟩; have Q9 := Lib.hid q9; clear q9)
      go_roundg (gk - 1)
      case measure => have := HK.out; omega
      case rel => exact ⟨i + 1,by have := HK.out; omega,by omega,by go_num, Q9.out⟩
    · obtain rfl : keys.length = i := by omega
      have hi3 : ¬ (keys.length : Int) < (keys.length : Int) := by omega
      obtain ⟨E, G, F', c, f, hmap, hc1, hb, kp, hF, hwb, hwp, hbF, hpF, hne⟩ := hm
      rw [List.take_length] at f
      have hrd : Rd w s kk (mb + 1) mb (.slice ao keys.length ca) keys.length E G [] (.slice none 0 0) [] (.slice none 0 0) [] [] wr :=
        ⟨F', c,by rw [remL_nil]; exact f.1, Drn.nil E 1,by rw [remL_nil, f.2.ct]; rfl, hmap, hb, kp, hF, hwb, hwp, hbF, hpF, hne, PRow.nil _ _, PRow.nil _ _,fun b e => by simp [Value.ownBlock] at e,fun b e => by simp [Value.ownBlock] at e,by simp⟩
      have FP := Lib.hid f.2
      have UQ := Lib.hid f.1.uq
      have hready := ready_calls w s kk (mb + 1) mb (.slice ao keys.length ca) keys E G hlen FP.out UQ.out hrd HL.out
      clear hrd f hmap hb kp hF hbF hpF hne
      go_wp2_with (go_at_call 29; refine hready.mono ?_; rintro e w3 ⟨c1, v1,rfl, q1, hc2⟩; have Q1 := Lib.hid q1; have HC2 := Lib.hid hc2; clear q1 hc2)
      clear hready
      go_loopg [11,12] (keys.length + 1) (fun j v t wr => ∃ o c : List Nat, j + o.length = keys.length + 1 ∧ Rd w s kk (mb + 1) mb (.slice ao keys.length ca) keys.length E G (o ++ c) v (o.map (lst E)) t (c.map (lst E)) [] wr ∧ (c = [] -> ∀ y, ¬ isIn (remL E o) 1 y))
      case atStart => exact ⟨[], c1,by simp, Q1.out, HC2.out⟩
      case round =>
        clear Q1 HC2
        obtain ⟨o, c, hk, hq, hend⟩ := hrel
        have HK2 := Lib.hid hk
        clear hk
        have hol := hq.len
        rw [List.length_append] at hol
        obtain ⟨ao1, ca1,rfl⟩ := hq.rowR.form
        rw [List.length_map] at hq ⊢
        by_cases hcn : c = []
        · subst hcn
          obtain ⟨ao2, ca2,rfl⟩ := hq.rowQ.form
          have hnone := hend rfl
          have hd := hq.drn
          rw [List.append_nil] at hd
          have hsrt := (Drn.sorted hd (hd.all hnone) FP.out.fl UQ.out).1
          have hfin : MergeDone w keys (.returned (.tuple #[.slice ao1 o.length ca1,.int .i64 0])) wr := ⟨o.map (lst E), _,rfl, hsrt, hq.rowR, hq.kp⟩
          have HF := Lib.hid hfin
          clear hfin hsrt hnone hd hq hend
          go_wp2_with fail
          go_ret2
          exact HF.out
        · have hpos : 0 < c.length := List.length_pos_iff.2 hcn
          obtain ⟨g2, ca2,rfl⟩ := hq.rowQ.form1 (by rw [List.length_map]; exact hpos)
          rw [List.length_map] at hq ⊢
          have hpos3 : (0 : Int) < (c.length : Int) := by omega
          have hr1 : wr.ownsRow 0 51 2 (.slice ao1 o.length ca1) o.length (rplV (o.map (lst E))) := by
            have := hq.rowR.lo (Nat.zero_le _)
            unfold PRow at this
            rw [List.length_map] at this
            exact this
          have hnews := hq.rowQ.news
          have hnl : (rplV (c.map (lst E))).length = c.length * 2 := by rw [rplV_len, List.length_map]
          have hfin : ∀ g' c' w2, w2.ownsRow 0 51 2 (.slice (some ⟨g',0,none⟩) (o.length + c.length) c') (o.length + c.length) (rplV (o.map (lst E)) ++ rplV (c.map (lst E))) -> Keeps (Value.slice ao1 o.length ca1).ownBlock.toList wr w2 -> ((Value.slice ao1 o.length ca1).ownBlock = some g' ∨ wr.heap.size <= g') ->
              Calls Tryz.prog 29 #[.pointer (some ⟨mb + 1,0,none⟩)] w2 (ReadyDone w s kk (mb + 1) mb (.slice ao keys.length ca) keys.length E G (o ++ c) (.slice (some ⟨g',0,none⟩) (o.length + c.length) c') ((o ++ c).map (lst E))) := by
            intro g' c' w2 hr hk hg
            have h1 : (o.map (lst E)).length = o.length := List.length_map ..
            have h2 : (c.map (lst E)).length = c.length := List.length_map ..
            have happ := Rd.app (lr := o.map (lst E)) (lq := c.map (lst E)) (ao := ao1) (ca := ca1) (g' := g') (c' := c') (w2 := w2) (by rw [h1]; exact hq) (by rw [h1, h2]; exact hr) (by rw [h1]; exact hk) (by rw [h1]; exact hg)
            rw [h1, h2, <- List.map_append] at happ
            exact ready_calls w s kk (mb + 1) mb (.slice ao keys.length ca) keys E G hlen FP.out UQ.out happ HL.out
          have HF := Lib.hid hfin
          have HN2 := Lib.hid hnews
          have HNL := Lib.hid hnl
          have HR1 := Lib.hid hr1
          have HCN := Lib.hid hcn
          obtain ⟨i0, hi0, hz0, hz1, hzb⟩ := info_parts Tryz.infoRPlace
          clear hfin hq hend hnews hnl hr1 hcn
          go_wp2_with (first
            | (at_builtin; refine wpList_app _ rfl (.tmp 53) (.tmp 54) 33 rfl 51 i0 (.agg #[.int .i64 0,.int .i64 0]) 2 16 Tryz.underlying33 hi0 hz0 hz1 hzb rfl (by decide) (.slice ao1 o.length ca1) o.length (rplV (o.map (lst E))) (by simp [Act.eval]) HR1.out ⟨g2,0,none⟩ c.length ca2 (rplV (c.map (lst E))) (by simp [Act.eval]) HNL.out HN2.out (rplV_one _) (by unfold maxLen; omega) (by omega) hpos ?_; intro g' cap' w9 hr9 hk9 hf9; have hready := HF.out g' cap' w9 hr9 hk9 hf9; clear hr9 hk9 hf9)
            | (go_at_call 29; refine hready.mono ?_; rintro e w3 ⟨c3, v3,rfl, q3, hc3⟩; have Q3 := Lib.hid q3; have HC3 := Lib.hid hc3; clear q3 hc3))
          go_roundg (gk - c.length)
          case measure => have := HK2.out; omega
          case rel => exact ⟨o ++ c, c3,by have := HK2.out; rw [List.length_append]; omega, Q3.out, HC3.out⟩
theorem Tryz.infoI64s : (Tryz.prog.info? 25).map (fun i => (i.zero, i.size, i.bytes)) = some (some (.slice none 0 0), 1,24) := by kernel_rfl
def LsRow (B : Nat) (w : World) (v : Value) (ks : List Int) : Prop :=
  ∃ gs : List Nat, gs.length = ks.length ∧ w.ownsRow 0 25 1 v ks.length (gs.map fun g => .slice (some ⟨g,0,none⟩) 1 1) ∧ (∀ b, v.ownBlock = some b -> B <= b) ∧
    ∀ (i : Nat) g k, gs[i]? = some g -> ks[i]? = some k -> w.heap[g]? = some (.cells #[.int .i64 k] 2 (0,0))
section
variable {B : Nat} {w w' : World} {v : Value} {ks : List Int}
theorem LsRow.form (h : LsRow B w v ks) : ∃ ao ca, v = .slice ao ks.length ca := by
  obtain ⟨gs, h1, h2, _⟩ := h
  rcases h2.2 with ⟨rfl, e⟩ | ⟨g, cap, cur,rfl, _⟩
  · exact ⟨none, 0,by rw [e]⟩
  · exact ⟨_, _,rfl⟩
theorem LsRow.start (w : World) : LsRow w.heap.size (w.alloc (.cells #[] 25 (0,0))) (.slice (some ⟨w.heap.size,0,none⟩) 0 0) [] :=
  ⟨[],rfl,⟨rfl,.inr ⟨_, 0, #[],rfl, Nat.zero_le _, blk_alloc_new _, Nat.le_refl _,by decide,rfl,rfl⟩⟩,by simp [Value.ownBlock],by simp⟩
theorem LsRow.toIn (h : LsRow B w v ks) (hw : ∀ (i : Nat) k, ks[i]? = some k -> (Lit.int .i64 k).wf = true) : LIn w v ks := by
  obtain ⟨ao, ca,rfl⟩ := h.form
  obtain ⟨gs, h1, h2, h3, h4⟩ := h
  refine ⟨⟨_, _,rfl⟩,fun i x hx => ⟨hw i x hx,?_⟩⟩
  have hi := (List.getElem?_eq_some_iff.1 hx).1
  obtain ⟨g, hg⟩ : ∃ g, gs[i]? = some g := ⟨_, List.getElem?_eq_getElem (by omega)⟩
  rcases h2.2 with ⟨_, e⟩ | ⟨b, cap, cur, e, hb⟩
  · omega
  · cases e
    refine ⟨b, ca, g,rfl,?_,by rw [cell_of_blk (h4 i g x hg hx)]; rfl⟩
    have := cell_some_of_row h2 i hi (.bool true)
    rw [this]
    simp [List.getD, hg]
theorem LsRow.own (h : LsRow B w v ks) : ∀ b, v.ownBlock = some b -> B <= b := by obtain ⟨_, _, _, h3, _⟩ := h; exact h3
theorem LsRow.step {ao : Option Addr} {ca : Nat} {w1 : World} (h : LsRow B w (.slice ao ks.length ca) ks) (hB : B <= w.heap.size) (k : Int) (e1 : w1 = w.alloc (.cells #[.int .i64 k] 2 (0,0))) :
    ∃ xs, w1.ownsRow 0 25 1 (.slice ao ks.length ca) ks.length xs ∧ ∀ g' c' w2, w2.ownsRow 0 25 1 (.slice (some ⟨g',0,none⟩) (ks.length + 1) c') (ks.length + 1) (xs ++ [.slice (some ⟨w.heap.size,0,none⟩) 1 1]) ->
      Keeps (Value.slice ao ks.length ca).ownBlock.toList w1 w2 -> ((Value.slice ao ks.length ca).ownBlock = some g' ∨ w1.heap.size <= g') ->
      LsRow B w2 (.slice (some ⟨g',0,none⟩) (ks.length + 1) c') (ks ++ [k]) ∧ Keeps (Value.slice ao ks.length ca).ownBlock.toList w w2 := by
  obtain ⟨gs, h1, h2, h3, h4⟩ := h
  have k1 : Keeps [] w w1 := by rw [e1]; exact (Keeps.refl _ _).alloc _
  have hs1 : w1.heap.size = w.heap.size + 1 := by rw [e1]; simp
  have bn : w1.heap[w.heap.size]? = some (.cells #[.int .i64 k] 2 (0,0)) := by rw [e1]; exact blk_alloc_new _
  have hty : ∀ b,(Value.slice ao ks.length ca).ownBlock = some b -> ∃ cur, w.heap[b]? = some (.cells cur 25 (0,0)) := fun b e => by
    rcases h2.2 with ⟨c, _⟩ | ⟨g, cap, cur, e', hb, hgg, r⟩
    · rw [c] at e; cases e
    · rw [e'] at e; cases e; exact ⟨cur, hgg⟩
  have hnot : ∀ (b : Nat) c, w1.heap[b]? = some (.cells c 2 (0,0)) -> b ∉ (Value.slice ao ks.length ca).ownBlock.toList := fun b c hb hm => by
    obtain ⟨cur, hc⟩ := hty b (by simpa [Option.mem_toList] using hm)
    have := k1.blk hc (by simp)
    rw [hb] at this
    injection this with this; injection this with _ ht; cases ht
  refine ⟨_,⟨h2.1,?_⟩,fun g' c' w2 hr hk hg => ⟨⟨gs ++ [w.heap.size],by simp [h1],?_,fun b e => ?_,fun i g x hx1 hx2 => ?_⟩,(k1.mono (by simp)).trans hk (fun x hx => .inl hx)⟩⟩
  · rcases h2.2 with c | ⟨g, cap, cur, e', hb, hgg, r⟩
    · exact .inl c
    · exact .inr ⟨g, cap, cur, e', hb, k1.blk hgg (by simp), r⟩
  · rw [List.map_append, List.length_append]; exact hr
  · cases e
    rcases hg with e | e
    · exact h3 _ e
    · show B <= g'; omega
  · by_cases hi : i < ks.length
    · rw [List.getElem?_append_left (by omega)] at hx1 hx2
      have := k1.blk (h4 i g x hx1 hx2) (by simp)
      exact hk.blk this (hnot g _ this)
    · have hi2 : i = ks.length := by
        have := (List.getElem?_eq_some_iff.1 hx2).1
        simp at this; omega
      subst hi2
      rw [List.getElem?_append_right (Nat.le_refl _)] at hx2
      rw [<- h1, List.getElem?_append_right (Nat.le_refl _)] at hx1
      simp at hx1 hx2
      subst hx1 hx2
      exact hk.blk bn (hnot _ _ bn)
end
section
variable (w : World) (s k : Nat) (keys : List Int)
def Come (i : Nat) (wr : World) : Prop :=
  ∃ (E : Ent) (G : Nat -> Nat) (F : List Nat), FillS wr F s k keys.length 1 1 (keys.take i) E G ∧ Keeps [] w wr ∧ ∀ b ∈ F, w.heap.size <= b
theorem Come.insert {i : Nat} {key : Int} {wr : World} (h : Come w s k keys i wr) (hcap : keys.length <= 65536) (hi : keys[i]? = some key) (hwf : (Lit.int .i64 key).wf = true) :
    Calls Tryz.prog 14 #[.pointer (some ⟨s,0,none⟩),.int .i64 1,.int .i64 key] wr fun e w2 => (∃ r, e = .returned r) ∧ Come w s k keys (i + 1) w2 := by
  obtain ⟨E, G, F, f, kp, hF⟩ := h
  have hil := (List.getElem?_eq_some_iff.1 hi).1
  have htl : (keys.take i).length = i := by rw [List.length_take]; omega
  have htk : keys.take (i + 1) = keys.take i ++ [key] := by rw [List.take_add_one, hi]; rfl
  obtain ⟨x, hx1, hx2, hx3⟩ := f.2.room (by omega)
  refine (pq_insert wr F s k keys.length 1 E (keys.take i).length 1 G f.1 1 key (by omega) (by omega) hwf (by omega) ⟨x, hx1, hx2,by omega⟩).mono ?_
  rintro e w2 ⟨y, hy, hn,rfl, F', st, mv⟩
  refine ⟨⟨_,rfl⟩, put E y (some (1, key,(keys.take i).length + 1)), upd G y (G y + 1), F',⟨?_,?_⟩, kp.trans mv.keeps (fun b hb => .inr (hF b hb)),fun b hb => ?_⟩
  · rw [htk, List.length_append]; exact st
  · rw [htk]; exact f.2.step hy hn key
  · rcases mv.from' b hb with c | c
    · exact hF b c
    · have := kp.size; omega
theorem Come.drain {wr : World} (h : Come w s k keys keys.length wr) (hcap : keys.length <= 65536) :
    Calls Tryz.prog 15 #[.pointer (some ⟨s,0,none⟩),.int .i64 1] wr fun e w2 => ∃ (l : List Nat) (v : Value), e = .returned (.tuple #[v,.bool true]) ∧ Sorted keys l ∧ KRow wr.heap.size w2 v (l.map fun i => keys.getD i 0) ∧ Keeps [] w w2 := by
  obtain ⟨E, G, F, f, kp, hF⟩ := h
  rw [List.take_length] at f
  refine (drain_calls wr F s k keys.length 1 E keys.length 1 G f.1 1 (by omega) (by omega) hcap).mono ?_
  rintro e w2 ⟨o, v,rfl, hd, ha, hr, kk⟩
  obtain ⟨hs, he⟩ := hd.sorted ha f.2.fl f.1.uq
  rw [he] at hr
  exact ⟨_, v,rfl, hs, hr, kp.trans kk (fun b hb => .inr (hF b hb))⟩
end
end Go.Proofs.YtkdbjelhkfdfjaaGreatDoor


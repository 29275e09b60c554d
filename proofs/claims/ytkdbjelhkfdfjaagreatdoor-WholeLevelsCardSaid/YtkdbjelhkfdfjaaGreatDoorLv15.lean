/-
  Contracts that the law rests on. Conditions: none.
-/
import Derived.Test.YtkdbjelhkfdfjaaGreatDoorLv14
set_option linter.unusedVariables false
set_option maxRecDepth 100000
set_option maxHeartbeats 32000000
namespace Go.Proofs.YtkdbjelhkfdfjaaGreatDoor
def HeapAt (d : Nat) (r : Nat -> Nat -> Bool) (v : Nat -> Nat) (n i : Nat) : Prop :=
  (∀ j, 0 < j -> j < n -> j ≠ i -> par d j ≠ i -> r (v (par d j)) (v j) = true) ∧ (∀ j, 0 < j -> j < n -> par d j = i -> 0 < i -> r (v (par d i)) (v j) = true)
section
variable {d n i : Nat} {r : Nat -> Nat -> Bool} {v : Nat -> Nat}
theorem HeapAt.down (h : HeapAt d r v n i) (hd : 2 <= d) (ho : Ord r v n) (hi : i < n) (hs : i = 0 ∨ r (v i) (v (par d i)) = false) : HeapDown d r v n i := by
  refine ⟨fun j hj hn hp => ?_, h.2⟩
  by_cases e : j = i
  · subst e
    rcases hs with c | c
    · omega
    · have hp := par_lt hd hj
      rcases ho.tot j (par d j) hn (by omega) (by omega) with h1 | h1
      · rw [c] at h1; cases h1
      · exact h1
  · exact h.1 j hj hn e hp
theorem HeapAt.up (h : HeapAt d r v n i) (hd : 2 <= d) (ho : Ord r v n) (hi : i < n) (h0 : 0 < i) (hs : r (v i) (v (par d i)) = true) : HeapUp d r v n i := by
  have hp := par_lt hd h0
  refine ⟨fun j hj hn hne => ?_, h.2⟩
  by_cases e : par d j = i
  · rw [e]
    exact ho.tr i (par d i) j hi (by omega) hn hs (h.2 j hj hn e h0)
  · exact h.1 j hj hn hne e
theorem Heap'.at_end (h : Heap' d r v n) (hd : 2 <= d) (x : Nat) : HeapAt d r (fun k => if k = n then x else v k) (n + 1) n := by
  refine ⟨fun j hj hn hne hp => ?_,fun j hj hn hp _ => ?_⟩
  · have := par_lt hd hj
    simp only [hp, hne, if_false]
    exact h j hj (by omega)
  · have := par_lt hd hj
    omega
theorem Heap'.refill (h : Heap' d r v (n + 1)) (hd : 2 <= d) (ho : Ord r v (n + 1)) (hi : i < n) : HeapAt d r (fun k => if k = i then v n else v k) n i := by
  refine ⟨fun j hj hn hne hp => ?_,fun j hj hn hp h0 => ?_⟩
  · simp only [hp, hne, if_false]
    exact h j hj (by omega)
  · have h1 := par_lt hd h0
    have h2 := par_lt hd hj
    simp only [show par d i ≠ i by omega, show j ≠ i by omega, if_false]
    have a := h i h0 (by omega)
    have b := h j hj (by omega)
    rw [hp] at b
    exact ho.tr (par d i) i j (by omega) (by omega) (by omega) a b
theorem HeapDown.last (h : HeapDown d r v n i) (hd : 2 <= d) (hi : n <= i + 1) : Heap' d r v n := by
  refine h.stop fun j hj hn hp => ?_
  have := par_lt hd hj
  omega
end
def Same (v v' : Nat -> Nat) (n : Nat) : Prop := ∀ z,(∃ j, j < n ∧ v' j = z) ↔ (∃ j, j < n ∧ v j = z)
theorem Same.refl (v : Nat -> Nat) (n : Nat) : Same v v n := fun z => Iff.rfl
theorem Same.trans {a b c : Nat -> Nat} {n : Nat} (h : Same a b n) (k : Same b c n) : Same a c n := fun z => (k z).trans (h z)
theorem Same.sw {v : Nat -> Nat} {n i j : Nat} (hi : i < n) (hj : j < n) : Same v (sw v i j) n := by
  intro z
  constructor
  · rintro ⟨k, hk, e⟩
    obtain ⟨m, m1, m2, m3, m4⟩ := sw_idx v i j k
    refine ⟨m,?_,by rw [<- m1]; exact e⟩
    by_cases e1 : k = i
    · rw [m2 e1]; exact hj
    · by_cases e2 : k = j
      · rw [m3 e2 e1]; exact hi
      · rw [m4 e1 e2]; exact hk
  · rintro ⟨k, hk, e⟩
    by_cases e1 : k = i
    · exact ⟨j, hj,by rw [sw_right, <- e1]; exact e⟩
    · by_cases e2 : k = j
      · exact ⟨i, hi,by rw [sw_left, <- e2]; exact e⟩
      · exact ⟨k, hk,by rw [sw_other _ _ _ _ e1 e2]; exact e⟩
theorem ordOf {E : Ent} {v : Nat -> Nat} {n : Nat} (inj : ∀ i j, i < n -> j < n -> v i = v j -> i = j) (hs : ∀ j, j < n -> (E (v j)).isSome) : Ord (ahead E) v n :=
  ⟨inj,fun i j k _ _ _ a b => ahead_tr a b,fun i j hi hj hne => ahead_tot (hs i hi) (hs j hj) fun e => hne (inj i j hi hj e),fun i _ => ahead_irr E _⟩
theorem Heap'.cong {d n : Nat} {r r' : Nat -> Nat -> Bool} {v v' : Nat -> Nat} (h : Heap' d r v n) (hd : 2 <= d) (hv : ∀ j, j < n -> v' j = v j) (hr : ∀ i j, i < n -> j < n -> r' (v i) (v j) = r (v i) (v j)) : Heap' d r' v' n := by
  intro j hj hn
  have := par_lt hd hj
  rw [hv _ (by omega), hv _ hn, hr _ _ (by omega) hn]
  exact h j hj hn
theorem Heap'.least {E : Ent} {d n g : Nat} {v : Nat -> Nat} (h : Heap' d (ahead E) v n) (hd : 2 <= d) (ho : Ord (ahead E) v n) (h0 : 0 < n) (hm : ∀ x, isIn E g x ↔ ∃ j, j < n ∧ v j = x) : least E g (v 0) := by
  refine ⟨(hm _).2 ⟨0, h0,rfl⟩,fun y hy hne => ?_⟩
  obtain ⟨j, hj, e⟩ := (hm y).1 hy
  subst e
  refine h.root hd ho j ?_ hj
  rcases Nat.eq_zero_or_pos j with c | c
  · exact absurd (by rw [c]) hne
  · exact c
end Go.Proofs.YtkdbjelhkfdfjaaGreatDoor
namespace Go.Proofs.YtkdbjelhkfdfjaaGreatDoor
open Go.RowKit
section
variable (w : World) (B : Nat) (ao bo : Option Addr) (ca cb : Nat) (l m : List Nat)
theorem common_no (hB : w.cell? ⟨B,0,none⟩ = some (.slice bo m.length cb)) (hm : Rg.IR 0 w (.slice bo m.length cb) m) (hml : m.length <= 65536) (x : Nat) (hx : x ∉ m) :
    Calls Tryz.prog 365 #[.int .i64 x,.pointer (some ⟨B,0,none⟩)] w fun e w' => e = .returned (.bool false) ∧ w = w' := by
  have hc := Rg.contains_calls w 0 _ m hm (by omega) (x : Int)
  have hn : m.any (Rg.isI (x : Int)) = false := by
    rw [List.any_eq_false]
    intro y hy e
    simp only [Rg.isI, beq_iff_eq] at e
    have : x = y := by omega
    exact hx (this ▸ hy)
  rw [hn] at hc
  clear hn hm hx
  go_enter Tryz.func365, Tryz.ntmps365
  go_wp2_with (go_at_call 366; refine hc.mono ?_; rintro e w' ⟨rfl,rfl⟩)
  go_ret
  exact ⟨rfl,rfl⟩
theorem index_no (hB : w.cell? ⟨B,0,none⟩ = some (.slice bo m.length cb)) (hm : Rg.IR 0 w (.slice bo m.length cb) m) (hml : m.length <= 65536) (hl : Rg.IR 0 w (.slice ao l.length ca) l) (hll : l.length <= 65536) (hd : ∀ x ∈ l, x ∉ m) :
    Calls Tryz.prog 251 #[.slice ao l.length ca,.func (.func 365) #[] #[.pointer (some ⟨B,0,none⟩)]] w fun e w' => e = .returned (.int .i64 (-1)) ∧ w = w' := by
  have hno := fun x hx => common_no w B bo cb m hB hm hml x hx
  have hat : ∀ i, i < l.length -> ∃ gg x, ao = some ⟨gg,0,none⟩ ∧ w.cell? ⟨gg,i,none⟩ = some (.int .i64 (x : Nat)) ∧ x ∉ m := fun i hi => by
    obtain ⟨gg, e, _, _, c⟩ := hl.at i hi
    have : l[i]? = some (Rg.fn l i) := by simp [Rg.fn, List.getD, hi]
    exact ⟨gg, _, e, c, hd _ (List.mem_of_getElem? this)⟩
  have HAT := Lib.hid hat
  clear hat hl hm hd
  go_enter Tryz.func251, Tryz.ntmps251
  go_wp2_with fail
  go_loopg [8] (l.length + 1) (fun k s wr => ∃ i : Nat, k + i = l.length + 1 ∧ i <= l.length ∧ s = .int .i64 i ∧ wr = w)
  case atStart => exact ⟨0,by omega,by omega,rfl,rfl⟩
  case round =>
    obtain ⟨i, hk, hin,rfl,rfl⟩ := hrel
    have HK := Lib.hid hk
    clear hk
    by_cases hi : i < l.length
    · obtain ⟨gg, x, hao, d1, hx⟩ := HAT.out i hi
      subst hao
      have hc := hno x hx
      have hi3 : (i : Int) < (l.length : Int) := by omega
      clear hno
      go_wp2_with (go_at_call 365; refine hc.mono ?_; rintro e w' ⟨rfl,rfl⟩)
      go_roundg (gk - 1)
      case measure => have := HK.out; omega
      case rel => exact ⟨i + 1,by have := HK.out; omega,by omega,by go_num,rfl⟩
    · obtain rfl : i = l.length := by omega
      go_wp2_with fail
      go_ret
      exact ⟨rfl,rfl⟩
theorem none_common (hB : w.cell? ⟨B,0,none⟩ = some (.slice bo m.length cb)) (hm : Rg.IR 0 w (.slice bo m.length cb) m) (hml : m.length <= 65536) (hl : Rg.IR 0 w (.slice ao l.length ca) l) (hll : l.length <= 65536) (hd : ∀ x ∈ l, x ∉ m) :
    Calls Tryz.prog 229 #[.slice ao l.length ca,.func (.func 365) #[] #[.pointer (some ⟨B,0,none⟩)]] w fun e w' => e = .returned (.bool false) ∧ w = w' := by
  have hi := index_no w B ao bo ca cb l m hB hm hml hl hll hd
  clear hB hm hl hd
  go_enter Tryz.func229, Tryz.ntmps229
  go_wp2_with (go_at_call 251; refine hi.mono ?_; rintro e w' ⟨rfl,rfl⟩)
  go_ret
  exact ⟨rfl,rfl⟩
end
structure PileOk (w : World) (p pc ga q : Nat) (ao : Option Addr) (ca : Nat) (vP : Value) (Fc : List Nat) (cap hs : Nat) (E : Ent) (n : Nat) (v : Nat -> Nat) (f : Nat -> Int) : Prop where
  bp : w.heap[p]? = some (.cells #[.pointer (some ⟨pc,0,none⟩), vP,.slice (some ⟨ga,0,none⟩) cap cap] 238 (0,0))
  bq : w.heap[q]? = some (.cells #[.pointer (some ⟨p,0,none⟩),.slice ao n ca] 482 (0,0))
  ce : CellsAt w Fc pc cap hs E
  ar : Arr w 3 1 cap ga (numV f)
  row : ∃ Lm : List Nat, Lm.length = n ∧ Rg.IR 0 w (.slice ao Lm.length ca) Lm ∧ ∀ j, j < n -> Rg.fn Lm j = v j
  ne : p ≠ q ∧ p ≠ ga ∧ q ≠ ga ∧ p ∉ Fc ∧ q ∉ Fc ∧ ga ∉ Fc
  na : ∀ x, ao = some x -> x.block ≠ p ∧ x.block ≠ q ∧ x.block ≠ ga ∧ x.block ∉ Fc
  pos : ∀ j, j < n -> f (v j) = (j : Int)
  lt : ∀ j, j < n -> v j < cap
  inj : Inj v n
def pfp (q : Nat) (ao : Option Addr) : List Nat := q :: ao.toList.map (·.block)
section
variable {w w' : World} {p pc ga q ca cap hs n i j : Nat} {ao : Option Addr} {vP : Value} {Fc S : List Nat} {E E' : Ent} {v : Nat -> Nat} {f : Nat -> Int}
theorem PileOk.keep (h : PileOk w p pc ga q ao ca vP Fc cap hs E n v f) (k : Keeps S w w') (hS : ∀ b ∈ p :: ga :: (pfp q ao ++ Fc), b ∉ S) : PileOk w' p pc ga q ao ca vP Fc cap hs E n v f := by
  obtain ⟨Lm, l1, l2, l3⟩ := h.row
  exact ⟨k.blk h.bp (hS p (by simp)), k.blk h.bq (hS q (by simp [pfp])), h.ce.keep k (fun b hb => hS b (by simp [hb])), h.ar.keep k (hS ga (by simp)),⟨Lm, l1, ir_keep l2 k (fun x e => hS _ (by simp [pfp, e])), l3⟩, h.ne, h.na, h.pos, h.lt, h.inj⟩
theorem PileOk.cells (h : PileOk w p pc ga q ao ca vP Fc cap hs E n v f) (c : CellsAt w' Fc pc cap hs E') (k : Keeps Fc w w') : PileOk w' p pc ga q ao ca vP Fc cap hs E' n v f := by
  obtain ⟨Lm, l1, l2, l3⟩ := h.row
  obtain ⟨n1, n2, n3, n4, n5, n6⟩ := h.ne
  exact ⟨k.blk h.bp n4, k.blk h.bq n5, c, h.ar.keep k n6,⟨Lm, l1, ir_keep l2 k (fun x e => (h.na x e).2.2.2), l3⟩, h.ne, h.na, h.pos, h.lt, h.inj⟩
theorem PileOk.same (h : PileOk w p pc ga q ao ca vP Fc cap hs E n v f) (k : Keeps [] w w') : PileOk w' p pc ga q ao ca vP Fc cap hs E n v f := h.keep k (by simp)
theorem PileOk.below (h : PileOk w p pc ga q ao ca vP Fc cap hs E n v f) : ∀ b ∈ p :: ga :: (pfp q ao ++ Fc), b < w.heap.size := by
  intro b hb
  simp only [List.mem_cons, List.mem_append, pfp, List.mem_map, Option.mem_toList] at hb
  rcases hb with rfl | rfl | (rfl | ⟨x, e,rfl⟩) | hb
  · exact lt_of_block h.bp
  · exact h.ar.lt
  · exact lt_of_block h.bq
  · obtain ⟨Lm, l1, l2, l3⟩ := h.row
    rcases l2.2 with ⟨h0, _⟩ | ⟨g, cap', cur, e', hb, hg, r⟩
    · simp only [Value.slice.injEq] at h0
      rw [h0.1] at e; cases e
    · cases e'; cases e; exact lt_of_block hg
  · exact h.ce.lt b hb
theorem PileOk.q0 (h : PileOk w p pc ga q ao ca vP Fc cap hs E n v f) : w.cell? ⟨q,0,none⟩ = some (.pointer (some ⟨p,0,none⟩)) := by rw [cell_of_blk h.bq]; rfl
theorem PileOk.q1 (h : PileOk w p pc ga q ao ca vP Fc cap hs E n v f) : w.cell? ⟨q,1,none⟩ = some (.slice ao n ca) := by rw [cell_of_blk h.bq]; rfl
theorem PileOk.p0 (h : PileOk w p pc ga q ao ca vP Fc cap hs E n v f) : w.cell? ⟨p,0,none⟩ = some (.pointer (some ⟨pc,0,none⟩)) := by rw [cell_of_blk h.bp]; rfl
theorem PileOk.p2 (h : PileOk w p pc ga q ao ca vP Fc cap hs E n v f) : w.cell? ⟨p,2,none⟩ = some (.slice (some ⟨ga,0,none⟩) cap cap) := by rw [cell_of_blk h.bp]; rfl
theorem PileOk.at (h : PileOk w p pc ga q ao ca vP Fc cap hs E n v f) (hi : i < n) : ∃ g, ao = some ⟨g,0,none⟩ ∧ g ≠ p ∧ g ≠ q ∧ g ≠ ga ∧ g ∉ Fc ∧ g < w.heap.size ∧ w.cell? ⟨g,i,none⟩ = some (.int .i64 (v i : Nat)) ∧ w.frozen? ⟨g,i,none⟩ = false := by
  obtain ⟨Lm, l1, l2, l3⟩ := h.row
  obtain ⟨g, e, hlt, _, hc⟩ := l2.at i (by omega)
  subst e
  obtain ⟨n1, n2, n3, n4⟩ := h.na _ rfl
  refine ⟨g,rfl, n1, n2, n3, n4, hlt,by rw [<- l3 i hi]; exact hc,?_⟩
  rcases l2.2 with ⟨h0, _⟩ | ⟨g', cap', cur, e', hb, hg, r⟩
  · simp only [Value.slice.injEq] at h0; cases h0.1
  · cases e'; exact frozen_of_blk hg
theorem PileOk.pl (h : PileOk w p pc ga q ao ca vP Fc cap hs E n v f) (hi : i < n) : w.cell? ⟨ga, v i, none⟩ = some (.int .i64 (i : Int)) ∧ w.frozen? ⟨ga, v i, none⟩ = false := by
  have := h.ar.cell1 (h.lt i hi)
  simp only [numV, List.getElem?_cons_zero, h.pos i hi] at this
  exact ⟨this, h.ar.frozen _⟩
end
section
variable (w : World) (p pc ga q : Nat) (ao : Option Addr) (ca : Nat) (vP : Value) (Fc : List Nat) (cap hs : Nat) (E : Ent) (n : Nat) (v : Nat -> Nat) (f : Nat -> Int)
theorem pile_len (h : PileOk w p pc ga q ao ca vP Fc cap hs E n v f) : Calls Tryz.prog 443 #[.pointer (some ⟨q,0,none⟩)] w fun e w' => e = .returned (.int .i64 n) ∧ w = w' := by
  have q1 := h.q1
  clear h
  go_enter Tryz.func443, Tryz.ntmps443
  go_wp2
  go_ret
  exact ⟨rfl,rfl⟩
def LessDone (b : Bool) (e : Ending) (w' : World) : Prop := e = .returned (.bool b) ∧ PileOk w' p pc ga q ao ca vP Fc cap hs E n v f ∧ Keeps Fc w w'
theorem pile_less (h : PileOk w p pc ga q ao ca vP Fc cap hs E n v f) (i j : Nat) (hi : i < n) (hj : j < n) (hE : ∀ j, j < n -> (E (v j)).isSome) :
    Calls Tryz.prog 452 #[.pointer (some ⟨q,0,none⟩),.int .i64 i,.int .i64 j] w (LessDone w p pc ga q ao ca vP Fc cap hs E n v f (ahead E (v i) (v j))) := by
  obtain ⟨g,rfl, g1, g2, g3, g4, g5, c1, _⟩ := h.at hi
  obtain ⟨g', e', _, _, _, _, _, c2, _⟩ := h.at hj
  cases e'
  have q0 := h.q0
  have q1 := h.q1
  have p0 := h.p0
  have hal := fun u (hu : CellsAt u Fc pc cap hs E) => cells_ahead u Fc pc cap hs E hu (v i) (v j) (hE i hi) (hE j hj)
  obtain ⟨n1, n2, n3, n4, n5, n6⟩ := h.ne
  have hql := h.below q (by simp [pfp])
  have hpl := h.below p (by simp)
  have hS : ∀ u, Keeps Fc w u -> u.cell? ⟨q,0,none⟩ = some (.pointer (some ⟨p,0,none⟩)) ∧ u.cell? ⟨q,1,none⟩ = some (.slice (some ⟨g,0,none⟩) n ca) ∧ u.cell? ⟨p,0,none⟩ = some (.pointer (some ⟨pc,0,none⟩)) ∧ u.cell? ⟨g,i,none⟩ = some (.int .i64 (v i : Nat)) ∧ u.cell? ⟨g,j,none⟩ = some (.int .i64 (v j : Nat)) := fun u k =>
    ⟨(World.cell?_of_block (a := ⟨q,0,none⟩) (k.block q hql n5)).trans q0,(World.cell?_of_block (a := ⟨q,1,none⟩) (k.block q hql n5)).trans q1,(World.cell?_of_block (a := ⟨p,0,none⟩) (k.block p hpl n4)).trans p0,
      (World.cell?_of_block (a := ⟨g,i,none⟩) (k.block g g5 g4)).trans c1,(World.cell?_of_block (a := ⟨g,j,none⟩) (k.block g g5 g4)).trans c2⟩
  have kdr : Keeps Fc w w.drew := ⟨rfl,rfl,rfl, Nat.le_refl _,fun _ _ _ => rfl⟩
  have hi3 : (i : Int) < (n : Int) := by omega
  have hj3 : (j : Int) < (n : Int) := by omega
  go_enter Tryz.func452, Tryz.ntmps452
  go_wp2_with fail
  go_region_held3 (fun u => u.cell? ⟨q,0,none⟩ = some (.pointer (some ⟨p,0,none⟩)) ∧ u.cell? ⟨q,1,none⟩ = some (.slice (some ⟨g,0,none⟩) n ca) ∧ u.cell? ⟨p,0,none⟩ = some (.pointer (some ⟨pc,0,none⟩)) ∧ u.cell? ⟨g,i,none⟩ = some (.int .i64 (v i : Nat)) ∧ u.cell? ⟨g,j,none⟩ = some (.int .i64 (v j : Nat)))
    (first | exact hS _ kdr | exact hS _ (kdr.trans (by assumption) (fun _ h => .inl h)))
    (first
      | (go_at_call 339; refine (hal _ (by exact h.ce.drew)).mono ?_; rintro e w1 ⟨rfl, hc1, hk1⟩))
  all_goals
    go_wp2_with fail
    go_ret
    exact ⟨rfl, h.cells hc1 hk1.ofDrew, hk1.ofDrew⟩
end
end Go.Proofs.YtkdbjelhkfdfjaaGreatDoor


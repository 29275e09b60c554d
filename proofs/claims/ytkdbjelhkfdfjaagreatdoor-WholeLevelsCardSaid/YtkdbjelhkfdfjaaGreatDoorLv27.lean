/-
  Contracts that the law rests on. Conditions: none.
-/
import Derived.Test.YtkdbjelhkfdfjaaGreatDoorLv20
import Derived.Test.YtkdbjelhkfdfjaaGreatDoorLv22
import Derived.Test.YtkdbjelhkfdfjaaGreatDoorLv26
set_option linter.unusedVariables false
set_option maxRecDepth 100000
set_option maxHeartbeats 32000000
namespace Go.Proofs.YtkdbjelhkfdfjaaGreatDoor
def topF (top : Nat -> Option Nat) (z : Int) : Option Int := if 0 <= z then (top z.toNat).map fun (x : Nat) => (x : Int) else none
def topN (top : Nat -> Option Nat) (n : Nat) : Nat := ((List.range (n + 1)).filter fun g => (top g).isSome).length
theorem topF_at (top : Nat -> Option Nat) (h : Nat) : topF top (h : Int) = (top h).map fun (x : Nat) => (x : Int) := by simp [topF]
theorem topN_le (top : Nat -> Option Nat) (n : Nat) : topN top n <= n + 1 := by
  have := List.length_filter_le (fun g => (top g).isSome) (List.range (n + 1))
  simpa [topN] using this
theorem topF_put (top : Nat -> Option Nat) (h x : Nat) : topF (upd top h (some x)) = fun z => if z = (h : Int) then some (x : Int) else topF top z := by
  funext z
  by_cases e : z = (h : Int)
  · subst e; simp [topF, upd_same]
  · rw [if_neg e]
    unfold topF
    by_cases c : 0 <= z
    · rw [if_pos c, if_pos c, upd_other top _ (by omega)]
    · rw [if_neg c, if_neg c]
theorem topF_del (top : Nat -> Option Nat) (h : Nat) : topF (upd top h none) = fun z => if z = (h : Int) then none else topF top z := by
  funext z
  by_cases e : z = (h : Int)
  · subst e; simp [topF, upd_same]
  · rw [if_neg e]
    unfold topF
    by_cases c : 0 <= z
    · rw [if_pos c, if_pos c, upd_other top _ (by omega)]
    · rw [if_neg c, if_neg c]
theorem topN_same (top : Nat -> Option Nat) (n h : Nat) (o : Option Nat) (e : (top h).isSome = o.isSome) : topN (upd top h o) n = topN top n := by
  unfold topN
  refine filter_range_congr _ _ _ fun g _ => ?_
  by_cases c : g = h
  · subst c; rw [upd_same, e]
  · rw [upd_other top _ c]
theorem topN_more (top : Nat -> Option Nat) (n h x : Nat) (hh : h <= n) (e : top h = none) : topN (upd top h (some x)) n = topN top n + 1 := by
  unfold topN
  refine filter_range_one _ h (by omega) _ _ (by rw [e]; rfl) (by rw [upd_same]; rfl) fun g hg => ?_
  rw [upd_other top _ hg]
theorem topN_less (top : Nat -> Option Nat) (n h : Nat) (hh : h <= n) (e : (top h).isSome) : topN (upd top h none) n = topN top n - 1 := by
  have : topN top n = topN (upd top h none) n + 1 := by
    unfold topN
    refine filter_range_one _ h (by omega) _ _ (by rw [upd_same]; rfl) e fun g hg => ?_
    rw [upd_other top _ hg]
  omega
theorem topN_put (top : Nat -> Option Nat) (n h x : Nat) (hh : h <= n) : topN (upd top h (some x)) n = if (topF top (h : Int)).isSome then topN top n else topN top n + 1 := by
  rw [topF_at]
  cases e : top h with
  | none => simpa using topN_more top n h x hh e
  | some y => simpa using topN_same top n h (some x) (by rw [e]; rfl)
theorem topN_del (top : Nat -> Option Nat) (n h : Nat) (hh : h <= n) : topN (upd top h none) n = if (topF top (h : Int)).isSome then topN top n - 1 else topN top n := by
  rw [topF_at]
  cases e : top h with
  | none => simpa using topN_same top n h none (by rw [e])
  | some y => simpa using topN_less top n h hh (by rw [e]; rfl)
theorem topN_wide (top : Nat -> Option Nat) (n : Nat) (e : top (n + 1) = none) : topN top (n + 1) = topN top n := by
  unfold topN
  rw [List.range_succ (n := n + 1), List.filter_append, List.length_append]
  simp [e]
theorem topN_none (n : Nat) : topN (fun _ => none) n = 0 := by
  unfold topN
  rw [List.length_eq_zero_iff, List.filter_eq_nil_iff]
  simp
theorem topF_none : topF (fun _ => none) = fun _ => none := by
  funext z
  unfold topF
  split <;> rfl
end Go.Proofs.YtkdbjelhkfdfjaaGreatDoor
namespace Go.Proofs.YtkdbjelhkfdfjaaGreatDoor
open Go.RowKit
section
variable {P : Program}
theorem step_push {ops : Array Oper} {o : Oper} {a : Act} {K : Act -> World -> Prop} {Q : Exit -> Act -> World -> Prop} {E : Prop} (hgd : o.guard = none) (s x : Operand) (t e : TypeId)
    (ho : o.op = .call { callee := .builtin .append, args := #[s, x], argTypes := #[t, t] })
    (z : Value) (ht : P.underlying t = some (.slice e)) (hi : (P.info? e).map (fun i => (i.zero, i.size, i.bytes)) = some (some z, 1,8)) (hzs : z.cells.size = 1)
    (B : Nat) (w W : World) (y : Value) (hy : y.oneCell' = true) (c : Nat × Nat) (hB : B <= w.heap.size) (hW : W.heap = (w.alloc (.cells #[y] e c)).heap) (hW1 : W.os = w.os) (hW2 : W.tape = w.tape) (hW3 : W.output = w.output)
    (v : Value) (n : Nat) (xs : List Value) (hs : a.eval s = v) (hown : w.ownsRow B e 1 v n xs) (hx : a.eval x = .slice (some ⟨w.heap.size,0,none⟩) 1 1)
    (h63 : n + 1 <= maxLen) (hbytes : (n + 1) * 8 <= 140737488355328)
    (h : ∀ v' w', w'.ownsRow B e 1 v' (n + 1) (xs ++ [y]) -> Keeps v.ownBlock.toList w w' -> K (a.put o.dst v') w') :
    if Region.wanted o (yielded ops a.tmps) = true then Oper.wp P o a W K Q else E := by
  obtain ⟨i, hi, hz, hsize, hby⟩ := info_parts hi
  have hw : Region.wanted o (yielded ops a.tmps) = true := by simp [Region.wanted, hgd]
  rw [if_pos hw]
  have hownW : W.ownsRow B e 1 v n xs := by
    have := hown.alloc (.cells #[y] e c)
    refine ⟨this.1,?_⟩
    rw [hW]; exact this.2
  have hcell : ∀ j u,([y] : List Value)[j]? = some u -> W.cell? ((⟨w.heap.size,0,none⟩ : Addr).add j) = some u := by
    intro j u hj
    match j, hj with
    | 0, hj =>
      simp at hj; subst hj
      have : W.heap[w.heap.size]? = some (.cells #[y] e c) := by rw [hW]; exact blk_alloc_new _
      show W.cell? ⟨w.heap.size,0,none⟩ = _
      rw [cell_of_blk this]; rfl
  have hBW : B <= W.heap.size := by rw [hW]; simp; omega
  obtain ⟨v', w', hr, h2, h3, _, h5⟩ := run_append_own_at (P := P) W B t o.type e i z 1 8 ht hi hz hsize hby hzs (by decide) v n xs hownW ⟨w.heap.size,0,none⟩ 1 1 [y] rfl hcell (by intro u hu; simp at hu; subst hu; exact hy) h63 hbytes hBW
  have k1 : Keeps [] w W := by
    have k : Keeps [] w (w.alloc (.cells #[y] e c)) := (Keeps.refl _ _).alloc _
    exact ⟨hW1.trans k.os, hW2.trans k.tape, hW3.trans k.output,by rw [hW]; exact k.size,by rw [hW]; exact k.block⟩
  have k2 : Keeps v.ownBlock.toList W w' := (Keeps.refl _ _).grown h3 (fun k e => .inl (by simp [e]))
  have hfin := h v' w' h2 ((k1.mono (T := v.ownBlock.toList) (by simp)).trans k2 fun _ hb => .inl hb)
  unfold Oper.wp execOp
  simp only [ho, resolve, invoke, builtin, Sem.run_bind, Sem.run_pure, Result.andThen_ok, List.map_toArray, List.map_cons, List.map_nil, hs, hx, hr]
  exact hfin
end
theorem ir_of {B : Nat} {w : World} {v : Value} {L : List Nat} {x : Nat} (h : w.ownsRow B 3 1 v (L.length + 1) (Rg.nCells L ++ [.int .i64 (x : Int)])) : Rg.IR B w v (L ++ [x]) := by
  unfold Rg.IR
  rw [List.length_append, List.length_singleton, Rg.nCells_append]
  simpa [Rg.nCells] using h
section
variable (w : World) (p pc gt : Nat) (vT : Value) (Fc : List Nat) (cap hs : Nat) (E : Ent) (h : Nat) (top : Nat -> Option Nat)
def KidsDone (l : List Nat) (e : Ending) (w' : World) : Prop := ∃ v, e = .returned v ∧ Rg.IR w.heap.size w' v l ∧ Below w.heap.size w w'
theorem kids_calls (K : Nat -> List Nat) (kid next back U : Nat -> Option Nat) (m : PairMid w p pc gt vT Fc cap hs E kid next back) (t : Ties K kid next back U) (x : Nat) (hx : isIn E h x) :
    Calls Tryz.prog 380 #[.pointer (some ⟨p,0,none⟩),.int .i64 x] w (KidsDone w (K x)) := by
  have hxc := m.ce.ok.lt x hx.some
  have hbc := m.ce.ok.bc
  have hhome := cells_home w Fc pc cap hs E m.ce x h hx
  have c0 := m.c0
  have hkc : ∀ y ∈ K x, y < cap := by
    intro y hy
    obtain ⟨i, hi, e⟩ := List.mem_iff_getElem.1 hy
    cases i with
    | zero => exact m.ti.wf x y (.inl (by rw [t.kid, List.getElem?_eq_getElem hi, e]))
    | succ i =>
      have hi' : i < (K x).length := by omega
      have hn := t.nx x i _ (List.getElem?_eq_getElem hi')
      exact m.ti.wf _ y (.inr (.inl (by rw [hn, List.getElem?_eq_getElem hi, e])))
  have hlen : (K x).length <= cap := nodup_len (t.nd x) hkc
  have hk0 := t.kid x
  have hnx := t.nx x
  have hA : ∀ u, Below w.heap.size w u -> u.cell? ⟨p,1,none⟩ = some (.slice (some ⟨gt,0,none⟩) cap cap) ∧ (∀ y, y < cap -> u.cell? ⟨gt, y * 3, none⟩ = some (.int .i64 (oZ (kid y)))) ∧ (∀ y, y < cap -> u.cell? ⟨gt, y * 3 + 1, none⟩ = some (.int .i64 (oZ (next y)))) := fun u hb =>
    have m' := m.below hb
    ⟨m'.c1,fun y hy => m'.ti.a hy,fun y hy => m'.ti.b hy⟩
  obtain ⟨l, hl⟩ : ∃ l, K x = l := ⟨_,rfl⟩
  rw [hl] at hkc hlen hk0 hnx ⊢
  have HA := Lib.hid hA
  have HNX := Lib.hid hnx
  have HK0 := Lib.hid hk0
  have HKC := Lib.hid hkc
  clear hA hnx hk0 hkc hl t m
  have hx3 : (x : Int) < (cap : Int) := by omega
  go_enter Tryz.func380, Tryz.ntmps380
  go_upto_region 5 with (go_at_call 302; refine hhome.mono ?_; rintro e w1 ⟨rfl, n1,rfl⟩)
  have hb0 : Below w.heap.size w (w.drewN n1) := ⟨rfl,rfl,rfl, Nat.le_refl _,fun _ _ => rfl⟩
  obtain ⟨d1, d2, _⟩ := HA.out _ hb0
  have d3 := d2 x hxc
  rw [HK0.out] at d3
  clear d2
  generalize w.drewN n1 = w0 at *
  go_wp2_with fail
  go_loopg [7,8] (l.length + 1) (fun m s t wr => ∃ (i : Nat) (ao : Option Addr) (ca : Nat), m + i = l.length + 1 ∧ i <= l.length ∧ s = .slice ao i ca ∧ t = .int .i64 (oZ (l[i]?)) ∧ Rg.IR w.heap.size wr s (l.take i) ∧ Below w.heap.size w wr)
  case atStart => exact ⟨0, none, 0,by omega,by omega,rfl,rfl, Rg.IR.nil _ _, hb0⟩
  case round =>
    clear hb0 d1 d3
    obtain ⟨i, ao, ca, hk, hi,rfl,rfl, hir, hb⟩ := hrel
    have HK := Lib.hid hk
    clear hk
    rcases Nat.lt_or_ge i l.length with hlt | hge
    · obtain ⟨y, hy⟩ : ∃ y, l[i]? = some y := ⟨_, List.getElem?_eq_getElem hlt⟩
      have hyc := HKC.out y (List.mem_of_getElem? hy)
      have hnext := HNX.out i y hy
      have hyb : ((y : Int) != -1) = true := by rw [bne_iff_ne]; omega
      have htk : l.take (i + 1) = l.take i ++ [y] := by
        rw [List.take_add_one, hy]; rfl
      have hlt2 : (l.take i).length = i := by simp; omega
      have HY := Lib.hid hy
      rw [hy]
      simp only [oZ_some]
      clear hy
      have hrow : wr.ownsRow 0 3 1 (.slice ao i ca) i (Rg.nCells (l.take i)) := by
        have := hir.lo (Nat.zero_le _)
        unfold Rg.IR at this
        rwa [hlt2] at this
      have hsz := hb.size
      have HTK := Lib.hid htk
      have HNEXT := Lib.hid hnext
      clear htk hnext
      go_upto_region 7 with (at_builtin; refine wpList_push _ 3 (.int .i64 (y : Int)) (0,0) rfl (.tmp 38) (.tmp 40) 28 rfl (.int .i64 0) 8 Tryz.underlying28 Rg.Tryz.infoInt rfl rfl _ i (Rg.nCells (l.take i)) (by simp [Act.eval]) hrow (by simp [Act.eval]) (by unfold maxLen; omega) (by omega) ?_; intro g' cap' w4 hr4 hk4 hf4)
      have hown : ∀ b ∈ (Value.slice ao i ca).ownBlock.toList, w.heap.size <= b := fun b hb => (hir.own b (by simpa using hb)).1
      have hg' : w.heap.size <= g' := by
        rcases hf4 with h1 | h1
        · exact hown g' (by simpa using h1)
        · omega
      have hir4 : Rg.IR w.heap.size w4 (.slice (some ⟨g',0,none⟩) (i + 1) cap') (l.take (i + 1)) := by
        rw [HTK.out]
        have := Rg.IR.pushed (B := w.heap.size) (L := l.take i) (x := y) (by rw [hlt2]; exact hr4) hg'
        rwa [hlt2] at this
      have hb4 := hb.trans (hk4.below hsz hown)
      obtain ⟨d1, _, d2⟩ := HA.out _ hb4
      have d3 := d2 y hyc
      rw [HNEXT.out] at d3
      have hy3 : (y : Int) < (cap : Int) := by omega
      clear d2 hr4 hk4 hf4 hown hrow hir hb
      go_wp2_with fail
      go_roundg (gk - 1)
      case measure => have := HK.out; omega
      case rel => exact ⟨i + 1, _, _,by have := HK.out; omega,by omega,rfl,rfl, hir4, hb4⟩
    · obtain rfl : i = l.length := by omega
      rw [show l[l.length]? = none from List.getElem?_eq_none (Nat.le_refl _), List.take_length] at *
      simp only [oZ_none]
      go_wp2_with fail
      go_ret
      exact ⟨_,rfl, hir, hb⟩
end
structure BRow where
  ao : Option Addr
  ca : Nat
  l : List Nat
def BRow.v (r : BRow) : Value := .slice r.ao r.l.length r.ca
def BRow.nil : BRow := ⟨none, 0, []⟩
def bRows (R : Nat -> BRow) (n : Nat) : List Value := (List.range n).map fun i => (R i).v
theorem bRows_at (R : Nat -> BRow) {n i : Nat} (h : i < n) : (bRows R n)[i]? = some (R i).v := by simp [bRows, h]
theorem bRows_snoc (R : Nat -> BRow) (n : Nat) : bRows R (n + 1) = bRows R n ++ [(R n).v] := by simp [bRows, List.range_succ]
theorem bRows_set (R : Nat -> BRow) (n h : Nat) (r : BRow) : (bRows R n).set h r.v = bRows (upd R h r) n := by
  apply List.ext_getElem (by simp [bRows])
  intro i h1 h2
  simp only [bRows, List.length_map, List.length_range, List.length_set] at h1 h2
  rw [List.getElem_set]
  simp only [bRows, List.getElem_map, List.getElem_range]
  by_cases c : h = i
  · subst c; rw [if_pos rfl, upd_same]
  · rw [if_neg c, upd_other _ _ (fun q => c q.symm)]
def binF (p gr : Nat) (Fc Ft : List Nat) (hs : Nat) (R : Nat -> BRow) : List Nat := p :: gr :: (Fc ++ Ft ++ (List.range (hs + 1)).flatMap fun i => (R i).v.ownBlock.toList)
theorem binF_mem {p gr b hs : Nat} {Fc Ft : List Nat} {R : Nat -> BRow} : b ∈ binF p gr Fc Ft hs R ↔ b = p ∨ b = gr ∨ b ∈ Fc ∨ b ∈ Ft ∨ ∃ i, i <= hs ∧ (R i).v.ownBlock = some b := by
  simp only [binF, List.mem_cons, List.mem_append, List.mem_flatMap, List.mem_range, Option.mem_toList, or_assoc, Nat.lt_succ_iff]
structure BinQ (w : World) (p pc pf gf gr rc : Nat) (Fc : List Nat) (cap hs : Nat) (E : Ent) (T : Nat -> TwigR) (U : Nat -> Option Nat) (R : Nat -> BRow) : Prop where
  blk : w.heap[p]? = some (.cells #[.pointer (some ⟨pc,0,none⟩),.pointer (some ⟨pf,0,none⟩),.slice (some ⟨gr,0,none⟩) (hs + 1) rc] 213 (0,0))
  ce : CellsAt w Fc pc cap hs E
  fo : ForestAt w pf gf cap T U
  rows : w.ownsRow 0 28 1 (.slice (some ⟨gr,0,none⟩) (hs + 1) rc) (hs + 1) (bRows R (hs + 1))
  mem : ∀ g, g <= hs -> Rg.IR 0 w (R g).v (R g).l
  ne : p ≠ gr ∧ p ∉ Fc ∧ gr ∉ Fc ∧ p ∉ treeF pf gf cap T ∧ gr ∉ treeF pf gf cap T ∧ ∀ b ∈ Fc, b ∉ treeF pf gf cap T
  own : ∀ g b, g <= hs -> (R g).v.ownBlock = some b -> b ≠ p ∧ b ≠ gr ∧ b ∉ Fc ∧ b ∉ treeF pf gf cap T
  dis : ∀ g g' b, g <= hs -> g' <= hs -> g ≠ g' -> (R g).v.ownBlock = some b -> (R g').v.ownBlock ≠ some b
def BinAt (w : World) (F : List Nat) (p cap hs : Nat) (E : Ent) : Prop :=
  ∃ (pc pf gf gr rc : Nat) (Fc : List Nat) (T : Nat -> TwigR) (U : Nat -> Option Nat) (R : Nat -> BRow), F = binF p gr Fc (treeF pf gf cap T) hs R ∧ BinQ w p pc pf gf gr rc Fc cap hs E T U R ∧ BinO E (fun x => (T x).kids) U (fun g => (R g).l)
section
variable {w w' : World} {p pc pf gf gr rc cap hs : Nat} {F Fc S : List Nat} {E E' : Ent} {T T' : Nat -> TwigR} {U U' : Nat -> Option Nat} {R R' : Nat -> BRow}
theorem ir_block {B b : Nat} {v : Value} {L : List Nat} (h : Rg.IR B w v L) (e : v.ownBlock = some b) : b < w.heap.size := (h.own b e).2
theorem BinQ.lt (h : BinQ w p pc pf gf gr rc Fc cap hs E T U R) : ∀ b ∈ binF p gr Fc (treeF pf gf cap T) hs R, b < w.heap.size := by
  intro b hb
  rcases binF_mem.1 hb with rfl | rfl | c | c | ⟨i, h1, c⟩
  · exact lt_of_block h.blk
  · exact row_lt h.rows
  · exact h.ce.lt b c
  · exact h.fo.lt b c
  · exact ir_block (h.mem i h1) c
theorem BinQ.keep (h : BinQ w p pc pf gf gr rc Fc cap hs E T U R) (k : Keeps S w w') (hS : ∀ b ∈ binF p gr Fc (treeF pf gf cap T) hs R, b ∉ S) : BinQ w' p pc pf gf gr rc Fc cap hs E T U R :=
  ⟨k.blk h.blk (hS p (binF_mem.2 (.inl rfl))), h.ce.keep k (fun b hb => hS b (binF_mem.2 (.inr (.inr (.inl hb))))), h.fo.keep k (fun b hb => hS b (binF_mem.2 (.inr (.inr (.inr (.inl hb)))))),
    k.row h.rows (hS gr (binF_mem.2 (.inr (.inl rfl)))),fun g hg => ir_keep' (h.mem g hg) k (fun b e => hS b (binF_mem.2 (.inr (.inr (.inr (.inr ⟨g, hg, e⟩)))))), h.ne, h.own, h.dis⟩
theorem BinAt.lt (h : BinAt w F p cap hs E) : ∀ b ∈ F, b < w.heap.size := by
  obtain ⟨pc, pf, gf, gr, rc, Fc, T, U, R,rfl, h, ho⟩ := h; exact h.lt
theorem BinAt.mem (h : BinAt w F p cap hs E) : p ∈ F := by
  obtain ⟨pc, pf, gf, gr, rc, Fc, T, U, R,rfl, h, ho⟩ := h; exact binF_mem.2 (.inl rfl)
theorem BinAt.keep (h : BinAt w F p cap hs E) (k : Keeps S w w') (hS : ∀ b ∈ F, b ∉ S) : BinAt w' F p cap hs E := by
  obtain ⟨pc, pf, gf, gr, rc, Fc, T, U, R,rfl, h, ho⟩ := h
  exact ⟨pc, pf, gf, gr, rc, Fc, T, U, R,rfl, h.keep k hS, ho⟩
theorem BinAt.ok (h : BinAt w F p cap hs E) : EntOk E cap hs := by
  obtain ⟨pc, pf, gf, gr, rc, Fc, T, U, R,rfl, h, ho⟩ := h; exact h.ce.ok
theorem BinQ.c0 (h : BinQ w p pc pf gf gr rc Fc cap hs E T U R) : w.cell? ⟨p,0,none⟩ = some (.pointer (some ⟨pc,0,none⟩)) := by rw [cell_of_blk h.blk]; rfl
theorem BinQ.c1 (h : BinQ w p pc pf gf gr rc Fc cap hs E T U R) : w.cell? ⟨p,1,none⟩ = some (.pointer (some ⟨pf,0,none⟩)) := by rw [cell_of_blk h.blk]; rfl
theorem BinQ.c2 (h : BinQ w p pc pf gf gr rc Fc cap hs E T U R) : w.cell? ⟨p,2,none⟩ = some (.slice (some ⟨gr,0,none⟩) (hs + 1) rc) := by rw [cell_of_blk h.blk]; rfl
theorem BinQ.at (h : BinQ w p pc pf gf gr rc Fc cap hs E T U R) {g : Nat} (hg : g <= hs) : w.cell? ⟨gr,g,none⟩ = some (.slice (R g).ao (R g).l.length (R g).ca) := by
  rw [h.rows.cellAt g (by omega)]
  exact bRows_at R (by omega)
theorem BinQ.ord (h : BinQ w p pc pf gf gr rc Fc cap hs E T U R) : OrdAt w p pc Fc cap hs E := ⟨h.c0, lt_of_block h.blk, h.ne.2.1, h.ce⟩
end
end Go.Proofs.YtkdbjelhkfdfjaaGreatDoor
namespace Go.Proofs.YtkdbjelhkfdfjaaGreatDoor
open Rg
def Rl (w : List (List Nat)) (x y : Nat) : Prop := y ∈ allZ w x
section
variable {n : Nat} {N P : List Nat} {w : List (List Nat)} {x y u v : Nat}
theorem rl_iff (h : Rings n N P w) (hx : x < n) : Rl w x y ↔ ∃ l ∈ w, x ∈ l ∧ y ∈ l := by
  obtain ⟨lx, rx, hlx, hxl, hax, hpx, hndx, hmx, hbx⟩ := h.home hx
  unfold Rl
  rw [hax, hmx]
  constructor
  · intro e; exact ⟨lx, hlx, hxl, e⟩
  · rintro ⟨l, h1, h2, h3⟩
    rw [uniq h.nd hlx h1 hxl h2]; exact h3
theorem rl_self (h : Rings n N P w) (hx : x < n) : Rl w x x := by
  obtain ⟨lx, rx, hlx, hxl, _⟩ := h.home hx
  exact (rl_iff h hx).2 ⟨lx, hlx, hxl, hxl⟩
theorem rl_splice (h : Rings n N P w) (hx : x < n) (hy : y < n) (hn : ¬ Rl w x y) (hu : u < n) :
    Rl (spliceZ w x y).1 u v ↔ Rl w u v ∨ ((Rl w x u ∨ Rl w y u) ∧ (Rl w x v ∨ Rl w y v)) := by
  have hs := (h.splice hx hy).2
  obtain ⟨lx, rx, hlx, hxl, hax, hpx, hndx, hmx, hbx⟩ := h.home hx
  obtain ⟨ly, ry, hly, hyl, hay, hpy, hndy, hmy, hby⟩ := h.home hy
  have hxy : x ≠ y := by rintro rfl; exact hn (rl_self h hx)
  have e' : ¬ ((x : Int) = (y : Int)) := by omega
  have hn2 : y ∉ x :: rx := by rw [<- hax]; exact hn
  have hfi : (x :: rx).findIdx? (isI y) = none := findIdx_none hn2
  have hsp : (spliceZ w x y).1 = withoutZ w x y ++ [x :: ry ++ y :: rx] := by
    simp only [spliceZ, hax, hay, hfi, e', Int.toNat_natCast]
    simp
  have hwo : ∀ l, l ∈ withoutZ w x y ↔ l ∈ w ∧ x ∉ l ∧ y ∉ l := by
    intro l
    simp only [withoutZ, List.mem_filter, any_isI, Bool.and_eq_true, Bool.not_eq_true', decide_eq_false_iff_not]
  have hrx : ∀ z, Rl w x z ↔ z ∈ lx := fun z => by unfold Rl; rw [hax, hmx]
  have hry : ∀ z, Rl w y z ↔ z ∈ ly := fun z => by unfold Rl; rw [hay, hmy]
  have hj : ∀ z, z ∈ x :: ry ++ y :: rx ↔ z ∈ lx ∨ z ∈ ly := fun z => by
    rw [<- hmx, <- hmy]
    simp only [List.cons_append, List.mem_cons, List.mem_append]
    constructor
    · rintro (q | q | q | q)
      · exact .inl (.inl q)
      · exact .inr (.inr q)
      · exact .inr (.inl q)
      · exact .inl (.inr q)
    · rintro ((q | q) | (q | q))
      · exact .inl q
      · exact .inr (.inr (.inr q))
      · exact .inr (.inr (.inl q))
      · exact .inr (.inl q)
  rw [rl_iff hs hu, hsp, rl_iff h hu, hrx, hrx, hry, hry]
  constructor
  · rintro ⟨l, h1, h2, h3⟩
    rcases List.mem_append.1 h1 with q | q
    · exact .inl ⟨l,((hwo l).1 q).1, h2, h3⟩
    · simp only [List.mem_singleton] at q
      rw [q, hj] at h2 h3
      exact .inr ⟨h2, h3⟩
  · rintro (⟨l, h1, h2, h3⟩ | ⟨h2, h3⟩)
    · by_cases c : x ∈ l
      · have := uniq h.nd h1 hlx c hxl
        subst this
        exact ⟨_, List.mem_append.2 (.inr (List.mem_singleton.2 rfl)),(hj u).2 (.inl h2),(hj v).2 (.inl h3)⟩
      · by_cases d : y ∈ l
        · have := uniq h.nd h1 hly d hyl
          subst this
          exact ⟨_, List.mem_append.2 (.inr (List.mem_singleton.2 rfl)),(hj u).2 (.inr h2),(hj v).2 (.inr h3)⟩
        · exact ⟨l, List.mem_append.2 (.inl ((hwo l).2 ⟨h1, c, d⟩)), h2, h3⟩
    · exact ⟨_, List.mem_append.2 (.inr (List.mem_singleton.2 rfl)),(hj u).2 h2,(hj v).2 h3⟩
theorem rl_part (h : Rings n N P w) (hx : x < n) (hu : u < n) : Rl (partZ w x).1 u v ↔ (u = x ∧ v = x) ∨ (u ≠ x ∧ v ≠ x ∧ Rl w u v) := by
  have hs := (h.part hx).2
  obtain ⟨lx, rx, hlx, hxl, hax, hpx, hndx, hmx, hbx⟩ := h.home hx
  have hwo : ∀ l, l ∈ withoutZ w x x ↔ l ∈ w ∧ x ∉ l := by
    intro l
    simp only [withoutZ, List.mem_filter, any_isI, Bool.and_eq_true, Bool.not_eq_true', decide_eq_false_iff_not, and_self]
  have hxr : x ∉ rx := (List.nodup_cons.1 hndx).1
  by_cases h1 : rx = []
  · subst h1
    have hp : (partZ w x).1 = w := by simp [partZ, hax]
    rw [hp]
    have hone : ∀ z, z ∈ lx ↔ z = x := fun z => by rw [<- hmx]; simp
    by_cases c : u = x
    · subst c
      unfold Rl
      rw [hax]; simp
    · simp only [c, false_and, false_or, ne_eq, not_false_iff, true_and]
      constructor
      · intro e
        refine ⟨?_, e⟩
        rintro rfl
        obtain ⟨l, h1, h2, h3⟩ := (rl_iff h hu).1 e
        have := uniq h.nd h1 hlx h3 hxl
        subst this
        exact c ((hone u).1 h2)
      · exact fun e => e.2
  · have hne : ¬ (x :: rx).length = 1 := by simp [h1]
    have hsp : (partZ w x).1 = withoutZ w x x ++ [[x], rx] := by
      simp only [partZ, hax, if_neg hne, Int.toNat_natCast]
      simp
    rw [rl_iff hs hu, hsp, rl_iff h hu]
    constructor
    · rintro ⟨l, h1, h2, h3⟩
      rcases List.mem_append.1 h1 with q | q
      · obtain ⟨q1, q2⟩ := (hwo l).1 q
        exact .inr ⟨by rintro rfl; exact q2 h2,by rintro rfl; exact q2 h3, l, q1, h2, h3⟩
      · simp only [List.mem_cons, List.not_mem_nil, or_false] at q
        rcases q with rfl | rfl
        · simp only [List.mem_singleton] at h2 h3
          exact .inl ⟨h2, h3⟩
        · exact .inr ⟨by rintro rfl; exact hxr h2,by rintro rfl; exact hxr h3, lx, hlx,(hmx u).1 (by simp [h2]),(hmx v).1 (by simp [h3])⟩
    · rintro (⟨rfl,rfl⟩ | ⟨c, d, l, h1, h2, h3⟩)
      · exact ⟨[_],by simp, List.mem_singleton.2 rfl, List.mem_singleton.2 rfl⟩
      · by_cases e : x ∈ l
        · have := uniq h.nd h1 hlx e hxl
          subst this
          have q2 := (hmx u).2 h2
          have q3 := (hmx v).2 h3
          simp only [List.mem_cons, c, d, false_or] at q2 q3
          exact ⟨rx,by simp, q2, q3⟩
        · exact ⟨l, List.mem_append.2 (.inl ((hwo l).2 ⟨h1, e⟩)), h2, h3⟩
theorem rl_new (hx : x < n) : Rl ((List.range n).map fun i => [i]) x y ↔ x = y := by
  unfold Rl
  rw [alone_all n x hx]
  simp [eq_comm]
end
end Go.Proofs.YtkdbjelhkfdfjaaGreatDoor
namespace Go.Proofs.YtkdbjelhkfdfjaaGreatDoor.Rg
open Go.RowKit
theorem part_yes (w : World) (p gn gp : Nat) (N P : List Nat) (h : RingAt w p gn gp N P) (hN : N.length < 70000) (x : Nat) (hx : x < N.length) (hy : fn P x < N.length) (ha : fn N x < N.length) (hb : fn N (fn P x) < N.length) (hne : x ≠ fn P x -> fn N x ≠ fn N (fn P x)) :
    Calls Tryz.prog 390 #[.pointer (some ⟨p,0,none⟩),.int .i64 x] w fun e w' => e = .returned (.bool true) ∧ Left w p gn gp (nextS N x (fn P x)) (prevS N P x (fn P x)) w' := by
  obtain ⟨_, c1⟩ := h.head
  obtain ⟨d0, _⟩ := h.q x hx
  go_enter Tryz.func390, Tryz.ntmps390
  go_wp2_with fail
  refine (has_yes w p gn gp N P h x hx).mono ?_
  rintro e w' ⟨rfl,rfl⟩
  go_wp2_with fail
  refine (splice_yes w p gn gp N P h hN x (fn P x) hx hy ha hb hne).mono ?_
  rintro e w' ⟨rfl, hl⟩
  go_wp2
  go_ret
  exact ⟨rfl, hl⟩
def laid (n i : Nat) : List Nat := (List.range n).map fun j => if j < i then j else 0
theorem laid_len (n i : Nat) : (laid n i).length = n := by simp [laid]
theorem laid_zero (n : Nat) : laid n 0 = List.replicate n 0 := by
  apply List.ext_getElem (by simp [laid])
  intro j h1 h2
  simp [laid]
theorem laid_all (n : Nat) : laid n n = List.range n := by
  apply List.ext_getElem (by simp [laid])
  intro j h1 h2
  simp at h2
  simp [laid, h2]
theorem laid_set (n i : Nat) : (laid n i).set i i = laid n (i + 1) := by
  apply List.ext_getElem (by simp [laid])
  intro j h1 h2
  rw [List.getElem_set]
  simp only [laid, List.getElem_map, List.getElem_range]
  by_cases e : i = j
  · subst e; simp
  · have : (j < i + 1) = (j < i) := by rw [eq_iff_iff]; omega
    simp only [if_neg e, this]
theorem made_row (w : World) (n : Nat) (hn : n <= 65536) : (w.alloc (.cells (madeCells #[.int .i64 0] n) 3)).ownsRow 0 3 1 (.slice (some ⟨w.heap.size,0,none⟩) n n) n (nCells (List.replicate n 0)) := by
  refine ⟨by simp [nCells],.inr ⟨w.heap.size, n, madeCells #[.int .i64 0] n,rfl, Nat.zero_le _, blk_alloc_new _, Nat.le_refl _,by unfold maxLen; omega,by simp [size_madeCells],?_⟩⟩
  apply List.ext_getElem (by simp [nCells, size_madeCells])
  intro j h1 h2
  simp [madeCells, nCells, Nat.mod_one]
theorem init_at (w : World) (n : Nat) (hn : n <= 65536) (a b : Nat) (hab : a = w.heap.size ∧ b = w.heap.size + 1 ∨ a = w.heap.size + 1 ∧ b = w.heap.size) :
    RingAt (((w.alloc (.cells (madeCells #[.int .i64 0] n) 3)).alloc (.cells (madeCells #[.int .i64 0] n) 3)).alloc (.cells #[.slice (some ⟨a,0,none⟩) n n,.slice (some ⟨b,0,none⟩) n n] 267)).drew (w.heap.size + 1 + 1) a b (laid n 0) (laid n 0) := by
  have r1 := made_row w n hn
  have r2 := made_row (w.alloc (.cells (madeCells #[.int .i64 0] n) 3)) n hn
  have s1 := (r1.alloc (.cells (madeCells #[.int .i64 0] n) 3)).alloc (.cells #[.slice (some ⟨a,0,none⟩) n n,.slice (some ⟨b,0,none⟩) n n] 267)
  have s2 := r2.alloc (.cells #[.slice (some ⟨a,0,none⟩) n n,.slice (some ⟨b,0,none⟩) n n] 267)
  have s2 : (((w.alloc (.cells (madeCells #[.int .i64 0] n) 3)).alloc (.cells (madeCells #[.int .i64 0] n) 3)).alloc (.cells #[.slice (some ⟨a,0,none⟩) n n,.slice (some ⟨b,0,none⟩) n n] 267)).ownsRow 0 3 1 (.slice (some ⟨w.heap.size + 1,0,none⟩) n n) n (nCells (List.replicate n 0)) := by simpa using s2
  rw [<- laid_zero] at s1 s2
  have hl := laid_len n 0
  have hb := blk_alloc_new (w := ((w.alloc (.cells (madeCells #[.int .i64 0] n) 3)).alloc (.cells (madeCells #[.int .i64 0] n) 3))) (.cells #[.slice (some ⟨a,0,none⟩) n n,.slice (some ⟨b,0,none⟩) n n] 267)
  have h0 : RingAt (((w.alloc (.cells (madeCells #[.int .i64 0] n) 3)).alloc (.cells (madeCells #[.int .i64 0] n) 3)).alloc (.cells #[.slice (some ⟨a,0,none⟩) n n,.slice (some ⟨b,0,none⟩) n n] 267)) (w.heap.size + 1 + 1) a b (laid n 0) (laid n 0) := by
    rcases hab with ⟨rfl,rfl⟩ | ⟨rfl,rfl⟩
    · exact ⟨by rw [hl]; simpa using hb,by rw [hl]; exact s1,by rw [hl]; exact s2,by omega,rfl⟩
    · exact ⟨by rw [hl]; simpa using hb,by rw [hl]; exact s2,by rw [hl]; exact s1,by omega,rfl⟩
  exact h0.like rfl
theorem init_below (w : World) (o1 o2 o3 : Obj) : Below w.heap.size w (((w.alloc o1).alloc o2).alloc o3).drew :=
  ((((Below.refl _ w).alloc (Nat.le_refl _) _).alloc (by simp) _).alloc (by simp; omega) _).drew
def NewDone (w : World) (n : Nat) (e : Ending) (w' : World) : Prop :=
  ∃ p gn gp, e = .returned (.tuple #[.pointer (some ⟨p,0,none⟩),.int .i64 0]) ∧ RingAt w' p gn gp (List.range n) (List.range n) ∧ Below w.heap.size w w' ∧ w.heap.size <= p ∧ w.heap.size <= gn ∧ w.heap.size <= gp
theorem new_yes (w : World) (n : Nat) (hn : n <= 65536) :
    Calls Tryz.prog 90 #[.int .i64 n] w (NewDone w n) := by
  have hm := fun (u : World) => run_make_row' (P := Tryz.prog) 28 3 (.int .i64 0) 8 Tryz.underlying28 Tryz.infoInt rfl .i64 .i64 n (by omega) (by omega) u
  have b1 : decide ((n : Int) < 0) = false := by rw [decide_eq_false_iff_not]; omega
  have b2 : decide (65536 < (n : Int)) = false := by rw [decide_eq_false_iff_not]; omega
  go_enter Tryz.func90, Tryz.ntmps90
  go_wp2_with fail
  go_region
  all_goals
    go_wp2_with fail
    go_loopg [19] (n + 1) (fun m s wr => ∃ i gn gp : Nat, i <= n ∧ m + i = n + 1 ∧ s = .int .i64 i ∧ RingAt wr (w.heap.size + 1 + 1) gn gp (laid n i) (laid n i) ∧ Below w.heap.size w wr ∧ w.heap.size <= gn ∧ w.heap.size <= gp)
    case atStart => first
      | exact ⟨0, _, _,by omega,by omega,rfl, init_at w n hn w.heap.size (w.heap.size + 1) (.inl ⟨rfl,rfl⟩), init_below _ _ _ _,by omega,by omega⟩
      | exact ⟨0, _, _,by omega,by omega,rfl, init_at w n hn (w.heap.size + 1) w.heap.size (.inr ⟨rfl,rfl⟩), init_below _ _ _ _,by omega,by omega⟩
    case round =>
      clear hm
      obtain ⟨i, gn, gp, hi, hgk,rfl, hr, hbel, b3, b4⟩ := hrel
      have HG := Lib.hid hgk
      clear hgk
      have hl := laid_len n i
      by_cases hlt : i < n
      · obtain ⟨c0, c1⟩ := hr.head
        obtain ⟨d0, f0⟩ := hr.n i (by omega)
        obtain ⟨d1, f1⟩ := hr.q i (by omega)
        obtain ⟨n1, n2, n3⟩ := hr.ne
        rw [hl] at c0 c1
        have r1 := row_set hr.rn i (by omega) (.int .i64 (i : Int))
        have r2 := row_set hr.rp i (by omega) (.int .i64 (i : Int))
        rw [<- nCells_set, laid_set] at r1 r2
        have hfin : RingAt ((wr.setCell ⟨gn,i,none⟩ (.int .i64 (i : Int))).setCell ⟨gp,i,none⟩ (.int .i64 (i : Int))) (w.heap.size + 1 + 1) gn gp (laid n (i + 1)) (laid n (i + 1)) := by
          have k1 : Keeps [gn] wr (wr.setCell ⟨gn,i,none⟩ (.int .i64 (i : Int))) := (Keeps.refl _ _).setCell (.inl (by simp)) _
          have k2 : Keeps [gp] (wr.setCell ⟨gn,i,none⟩ (.int .i64 (i : Int))) ((wr.setCell ⟨gn,i,none⟩ (.int .i64 (i : Int))).setCell ⟨gp,i,none⟩ (.int .i64 (i : Int))) := (Keeps.refl _ _).setCell (.inl (by simp)) _
          have l2 := laid_len n (i + 1)
          refine ⟨?_,?_,?_, hr.ne,rfl⟩
          · rw [l2]
            have := hr.blk
            rw [hl] at this
            exact k2.blk (k1.blk this (by simpa using Ne.symm n1)) (by simpa using Ne.symm n2)
          · rw [l2]
            rw [hl] at r1
            exact k2.row r1 (by simpa using n3)
          · rw [l2]
            have := row_set (k1.row hr.rp (by simpa using Ne.symm n3)) i (by omega) (.int .i64 (i : Int))
            rw [<- nCells_set, laid_set, hl] at this
            exact this
        have hb9 : Below w.heap.size w ((wr.setCell ⟨gn,i,none⟩ (.int .i64 (i : Int))).setCell ⟨gp,i,none⟩ (.int .i64 (i : Int))) := (hbel.setCell b3 _).setCell b4 _
        clear r1 r2 hr hbel
        go_wp2_with fail
        go_region
        go_wp2_with fail
        go_roundg (gk - 1)
        case measure => have := HG.out; omega
        case rel => exact ⟨i + 1, gn, gp,by omega,by have := HG.out; omega,by go_num, hfin.like rfl, hb9.trans ⟨rfl,rfl,rfl, Nat.le_refl _,fun _ _ => rfl⟩, b3, b4⟩
      · obtain rfl : i = n := by omega
        rw [laid_all] at hr
        go_wp2
        go_ret2
        exact ⟨_, gn, gp,rfl, hr, hbel,by omega, b3, b4⟩
theorem new_no (w : World) (n : Int) (h : n < 0 ∨ 65536 < n) :
    Calls Tryz.prog 90 #[.int .i64 n] w fun e w' => e = .returned (.tuple #[.pointer none,.int .i64 31]) ∧ w = w' := by
  by_cases h1 : n < 0
  · clear h
    go_enter Tryz.func90, Tryz.ntmps90
    go_wp2
    go_ret2
    exact ⟨rfl,rfl⟩
  · have h2 : 65536 < n := by omega
    clear h
    go_enter Tryz.func90, Tryz.ntmps90
    go_wp2
    go_ret2
    exact ⟨rfl,rfl⟩
end Go.Proofs.YtkdbjelhkfdfjaaGreatDoor.Rg
namespace Go.Proofs.YtkdbjelhkfdfjaaGreatDoor
open Go.RowKit
def RgAt (w : World) (p gn gp n : Nat) (wl : List (List Nat)) : Prop := ∃ N P, Rg.RingAt w p gn gp N P ∧ Rg.Rings n N P wl
section
variable {w w' : World} {p gn gp n x y : Nat} {wl : List (List Nat)} {S : List Nat}
theorem RgAt.keep (h : RgAt w p gn gp n wl) (k : Keeps S w w') (h1 : p ∉ S) (h2 : gn ∉ S) (h3 : gp ∉ S) : RgAt w' p gn gp n wl := by
  obtain ⟨N, P, a, b⟩ := h
  exact ⟨N, P, a.keep k h1 h2 h3, b⟩
theorem RgAt.lt (h : RgAt w p gn gp n wl) : p < w.heap.size ∧ gn < w.heap.size ∧ gp < w.heap.size := by
  obtain ⟨N, P, a, b⟩ := h
  exact a.lt
theorem RgAt.rings (h : RgAt w p gn gp n wl) : ∃ N P, Rg.Rings n N P wl := by
  obtain ⟨N, P, a, b⟩ := h
  exact ⟨N, P, b⟩
theorem rg_splice (h : RgAt w p gn gp n wl) (hn : n <= 65536) (hx : x < n) (hy : y < n) :
    Calls Tryz.prog 396 #[.pointer (some ⟨p,0,none⟩),.int .i64 x,.int .i64 y] w fun e w' => e = .returned (.bool true) ∧ RgAt w' p gn gp n (Rg.spliceZ wl x y).1 ∧ Keeps [gn, gp] w w' := by
  obtain ⟨N, P, a, b⟩ := h
  have hl := b.ln
  refine (Rg.splice_yes w p gn gp N P a (by omega) x y (by omega) (by omega) (by rw [hl]; exact (b.inv x hx).1) (by rw [hl]; exact (b.inv y hy).1) (fun hne e => hne (b.inj hx hy e))).mono ?_
  rintro e w' ⟨rfl, h1, h2⟩
  exact ⟨rfl,⟨_, _, h1,(b.splice hx hy).2⟩, h2⟩
theorem rg_part (h : RgAt w p gn gp n wl) (hn : n <= 65536) (hx : x < n) :
    Calls Tryz.prog 390 #[.pointer (some ⟨p,0,none⟩),.int .i64 x] w fun e w' => e = .returned (.bool true) ∧ RgAt w' p gn gp n (Rg.partZ wl x).1 ∧ Keeps [gn, gp] w w' := by
  obtain ⟨N, P, a, b⟩ := h
  have hl := b.ln
  have hp := (b.inv x hx).2.1
  refine (Rg.part_yes w p gn gp N P a (by omega) x (by omega) (by rw [hl]; exact hp) (by rw [hl]; exact (b.inv x hx).1) (by rw [hl]; exact (b.inv _ hp).1) (fun hne e => hne (b.inj hx hp e))).mono ?_
  rintro e w' ⟨rfl, h1, h2⟩
  exact ⟨rfl,⟨_, _, h1,(b.part hx).2⟩, h2⟩
theorem rg_all (h : RgAt w p gn gp n wl) (hn : n <= 65536) (hx : x < n) :
    Calls Tryz.prog 391 #[.pointer (some ⟨p,0,none⟩),.int .i64 x] w fun e w' => ∃ v, e = .returned v ∧ Rg.IR w.heap.size w' v (Rg.allZ wl x) ∧ Below w.heap.size w w' := by
  obtain ⟨N, P, a, b⟩ := h
  have hl := b.ln
  obtain ⟨lx, rx, hlx, hxl, hax, hpx, hndx, hmx, hbx⟩ := b.home hx
  rw [hax]
  have hlen := nodup_len hndx (n := n) (fun z hz => by
    rcases List.mem_cons.1 hz with rfl | hz
    · exact hx
    · exact hbx z hz)
  simp only [List.length_cons] at hlen
  exact Rg.all_yes w p gn gp N P a (by omega) x (by omega) rx hpx (List.nodup_cons.1 hndx).1 (fun z hz => by rw [hl]; exact hbx z hz) (by omega)
end
def placeV (U kid : Nat -> Option Nat) (deg : Nat -> Nat) (mk : Nat -> Bool) (x : Nat) : List Value := [.int .i64 (oZ (U x)),.int .i64 (oZ (kid x)),.int .i64 (deg x),.bool (mk x)]
structure FibQ (w : World) (p pc pr gn gp gt gT cT : Nat) (Fc : List Nat) (cap hs : Nat) (E : Ent) (wl : List (List Nat)) (U kid : Nat -> Option Nat) (deg : Nat -> Nat) (mk : Nat -> Bool) (top : Nat -> Option Nat) : Prop where
  nd : (p :: pr :: gn :: gp :: gt :: gT :: Fc).Nodup
  blk : w.heap[p]? = some (.cells #[.pointer (some ⟨pc,0,none⟩),.pointer (some ⟨pr,0,none⟩),.slice (some ⟨gt,0,none⟩) cap cap,.slice (some ⟨gT,0,none⟩) (hs + 1) cT] 224 (0,0))
  ce : CellsAt w Fc pc cap hs E
  rg : RgAt w pr gn gp cap wl
  ar : Arr w 226 4 cap gt (placeV U kid deg mk)
  tr : TopRow w gT (hs + 1) cT top
  cp : cap <= 65536
def FibAt (w : World) (F : List Nat) (p cap hs : Nat) (E : Ent) : Prop :=
  ∃ (pc pr gn gp gt gT cT : Nat) (Fc : List Nat) (wl : List (List Nat)) (U kid : Nat -> Option Nat) (deg : Nat -> Nat) (mk : Nat -> Bool) (top : Nat -> Option Nat), F = p :: pr :: gn :: gp :: gt :: gT :: Fc ∧
    FibQ w p pc pr gn gp gt gT cT Fc cap hs E wl U kid deg mk top ∧ FibO E cap (Rl wl) U kid deg top
section
variable {w w' : World} {p pc pr gn gp gt gT cT cap hs : Nat} {F Fc S : List Nat} {E E' : Ent} {wl wl' : List (List Nat)} {U kid top top' : Nat -> Option Nat} {deg : Nat -> Nat} {mk : Nat -> Bool}
theorem FibQ.apart (h : FibQ w p pc pr gn gp gt gT cT Fc cap hs E wl U kid deg mk top) :
    (p ≠ pr ∧ p ≠ gn ∧ p ≠ gp ∧ p ≠ gt ∧ p ≠ gT ∧ p ∉ Fc) ∧ (pr ≠ gn ∧ pr ≠ gp ∧ pr ≠ gt ∧ pr ≠ gT ∧ pr ∉ Fc) ∧ (gn ≠ gp ∧ gn ≠ gt ∧ gn ≠ gT ∧ gn ∉ Fc) ∧ (gp ≠ gt ∧ gp ≠ gT ∧ gp ∉ Fc) ∧ (gt ≠ gT ∧ gt ∉ Fc) ∧ gT ∉ Fc := by
  have := h.nd
  simp only [List.nodup_cons, List.mem_cons, not_or] at this
  obtain ⟨a, b, c, d, e, f, _⟩ := this
  exact ⟨a, b, c, d, e, f⟩
theorem FibQ.lt (h : FibQ w p pc pr gn gp gt gT cT Fc cap hs E wl U kid deg mk top) : ∀ b ∈ p :: pr :: gn :: gp :: gt :: gT :: Fc, b < w.heap.size := by
  obtain ⟨r1, r2, r3⟩ := h.rg.lt
  intro b hb
  simp only [List.mem_cons] at hb
  rcases hb with rfl | rfl | rfl | rfl | rfl | rfl | hb
  · exact lt_of_block h.blk
  · exact r1
  · exact r2
  · exact r3
  · exact h.ar.lt
  · exact h.tr.lt
  · exact h.ce.lt b hb
theorem FibQ.keep (h : FibQ w p pc pr gn gp gt gT cT Fc cap hs E wl U kid deg mk top) (k : Keeps S w w') (hS : ∀ b ∈ p :: pr :: gn :: gp :: gt :: gT :: Fc, b ∉ S) : FibQ w' p pc pr gn gp gt gT cT Fc cap hs E wl U kid deg mk top :=
  ⟨h.nd, k.blk h.blk (hS p (by simp)), h.ce.keep k (fun b hb => hS b (by simp [hb])), h.rg.keep k (hS pr (by simp)) (hS gn (by simp)) (hS gp (by simp)), h.ar.keep k (hS gt (by simp)), h.tr.keep k (hS gT (by simp)), h.cp⟩
theorem FibQ.same (h : FibQ w p pc pr gn gp gt gT cT Fc cap hs E wl U kid deg mk top) (k : Keeps [] w w') : FibQ w' p pc pr gn gp gt gT cT Fc cap hs E wl U kid deg mk top := h.keep k (by simp)
theorem FibQ.cells (h : FibQ w p pc pr gn gp gt gT cT Fc cap hs E wl U kid deg mk top) (hc : CellsAt w' Fc pc cap hs E') (k : Keeps Fc w w') : FibQ w' p pc pr gn gp gt gT cT Fc cap hs E' wl U kid deg mk top := by
  obtain ⟨⟨_, _, _, _, _, a⟩,⟨_, _, _, _, b⟩,⟨_, _, _, c⟩,⟨_, _, d⟩,⟨_, e⟩, f⟩ := h.apart
  exact ⟨h.nd, k.blk h.blk a, hc, h.rg.keep k b c d, h.ar.keep k e, h.tr.keep k f, h.cp⟩
theorem FibQ.ring (h : FibQ w p pc pr gn gp gt gT cT Fc cap hs E wl U kid deg mk top) (hr : RgAt w' pr gn gp cap wl') (k : Keeps [gn, gp] w w') : FibQ w' p pc pr gn gp gt gT cT Fc cap hs E wl' U kid deg mk top := by
  obtain ⟨⟨a1, a2, a3, a4, a5, a6⟩,⟨b1, b2, b3, b4, b5⟩,⟨c1, c2, c3, c4⟩,⟨d1, d2, d3⟩,⟨e1, e2⟩, f⟩ := h.apart
  exact ⟨h.nd, k.blk h.blk (by simp; exact ⟨a2, a3⟩), h.ce.keep k (fun b hb e => by
    simp only [List.mem_cons, List.not_mem_nil, or_false] at e
    rcases e with rfl | rfl
    · exact c4 hb
    · exact d3 hb), hr, h.ar.keep k (by simp; exact ⟨c2.symm, d1.symm⟩), h.tr.keep k (by simp; exact ⟨c3.symm, d2.symm⟩), h.cp⟩
theorem FibQ.setTop (h : FibQ w p pc pr gn gp gt gT cT Fc cap hs E wl U kid deg mk top) {g : Nat} (h1 : 1 <= g) (h2 : g <= hs) (o : Option Nat) :
    FibQ (w.setCell ⟨gT,g,none⟩ (.int .i64 (oZ o))) p pc pr gn gp gt gT cT Fc cap hs E wl U kid deg mk (upd top g o) := by
  obtain ⟨⟨a1, a2, a3, a4, a5, a6⟩,⟨b1, b2, b3, b4, b5⟩,⟨c1, c2, c3, c4⟩,⟨d1, d2, d3⟩,⟨e1, e2⟩, f⟩ := h.apart
  have k : Keeps [gT] w (w.setCell ⟨gT,g,none⟩ (.int .i64 (oZ o))) := (Keeps.refl _ _).setCell (.inl (by simp)) _
  exact ⟨h.nd, k.blk h.blk (by simpa using a5), h.ce.keep k (fun b hb e => by simp only [List.mem_singleton] at e; exact f (e ▸ hb)), h.rg.keep k (by simpa using b4) (by simpa using c3) (by simpa using d2), h.ar.keep k (by simpa using e1), h.tr.set (by omega) (by omega) o, h.cp⟩
theorem FibQ.setPlace (h : FibQ w p pc pr gn gp gt gT cT Fc cap hs E wl U kid deg mk top) {x j : Nat} (hx : x < cap) (hj : j < 4) (v : Value) {U' kid' : Nat -> Option Nat} {deg' : Nat -> Nat} {mk' : Nat -> Bool}
    (e : upd (placeV U kid deg mk) x ((placeV U kid deg mk x).set j v) = placeV U' kid' deg' mk') : FibQ (w.setCell ⟨gt, x * 4 + j, none⟩ v) p pc pr gn gp gt gT cT Fc cap hs E wl U' kid' deg' mk' top := by
  obtain ⟨⟨a1, a2, a3, a4, a5, a6⟩,⟨b1, b2, b3, b4, b5⟩,⟨c1, c2, c3, c4⟩,⟨d1, d2, d3⟩,⟨e1, e2⟩, f⟩ := h.apart
  have k : Keeps [gt] w (w.setCell ⟨gt, x * 4 + j, none⟩ v) := (Keeps.refl _ _).setCell (.inl (by simp)) _
  exact ⟨h.nd, k.blk h.blk (by simpa using a4), h.ce.keep k (fun b hb e => by simp only [List.mem_singleton] at e; exact e2 (e ▸ hb)), h.rg.keep k (by simpa using b3) (by simpa using c2) (by simpa using d1),by rw [<- e]; exact h.ar.set hx hj v, h.tr.keep k (by simpa using e1.symm), h.cp⟩
theorem place_up (x : Nat) (o : Option Nat) : upd (placeV U kid deg mk) x ((placeV U kid deg mk x).set 0 (.int .i64 (oZ o))) = placeV (upd U x o) kid deg mk := by
  funext j
  by_cases e : j = x
  · subst e; rw [upd_same]; simp [placeV, upd_same]
  · rw [upd_other _ _ e]; simp only [placeV, upd_other U _ e]
theorem place_kid (x : Nat) (o : Option Nat) : upd (placeV U kid deg mk) x ((placeV U kid deg mk x).set 1 (.int .i64 (oZ o))) = placeV U (upd kid x o) deg mk := by
  funext j
  by_cases e : j = x
  · subst e; rw [upd_same]; simp [placeV, upd_same]
  · rw [upd_other _ _ e]; simp only [placeV, upd_other kid _ e]
theorem place_deg (x d : Nat) : upd (placeV U kid deg mk) x ((placeV U kid deg mk x).set 2 (.int .i64 (d : Nat))) = placeV U kid (upd deg x d) mk := by
  funext j
  by_cases e : j = x
  · subst e; rw [upd_same]; simp [placeV, upd_same]
  · rw [upd_other _ _ e]; simp only [placeV, upd_other deg _ e]
theorem place_mark (x : Nat) (b : Bool) : upd (placeV U kid deg mk) x ((placeV U kid deg mk x).set 3 (.bool b)) = placeV U kid deg (upd mk x b) := by
  funext j
  by_cases e : j = x
  · subst e; rw [upd_same]; simp [placeV, upd_same]
  · rw [upd_other _ _ e]; simp only [placeV, upd_other mk _ e]
theorem FibQ.c0 (h : FibQ w p pc pr gn gp gt gT cT Fc cap hs E wl U kid deg mk top) : w.cell? ⟨p,0,none⟩ = some (.pointer (some ⟨pc,0,none⟩)) := by rw [cell_of_blk h.blk]; rfl
theorem FibQ.c1 (h : FibQ w p pc pr gn gp gt gT cT Fc cap hs E wl U kid deg mk top) : w.cell? ⟨p,1,none⟩ = some (.pointer (some ⟨pr,0,none⟩)) := by rw [cell_of_blk h.blk]; rfl
theorem FibQ.c2 (h : FibQ w p pc pr gn gp gt gT cT Fc cap hs E wl U kid deg mk top) : w.cell? ⟨p,2,none⟩ = some (.slice (some ⟨gt,0,none⟩) cap cap) := by rw [cell_of_blk h.blk]; rfl
theorem FibQ.c3 (h : FibQ w p pc pr gn gp gt gT cT Fc cap hs E wl U kid deg mk top) : w.cell? ⟨p,3,none⟩ = some (.slice (some ⟨gT,0,none⟩) (hs + 1) cT) := by rw [cell_of_blk h.blk]; rfl
theorem FibQ.k0 (h : FibQ w p pc pr gn gp gt gT cT Fc cap hs E wl U kid deg mk top) {x : Nat} (hx : x < cap) : w.cell? ⟨gt, x * 4, none⟩ = some (.int .i64 (oZ (U x))) := h.ar.cell (j := 0) hx (by decide)
theorem FibQ.k1 (h : FibQ w p pc pr gn gp gt gT cT Fc cap hs E wl U kid deg mk top) {x : Nat} (hx : x < cap) : w.cell? ⟨gt, x * 4 + 1, none⟩ = some (.int .i64 (oZ (kid x))) := h.ar.cell (j := 1) hx (by decide)
theorem FibQ.k2 (h : FibQ w p pc pr gn gp gt gT cT Fc cap hs E wl U kid deg mk top) {x : Nat} (hx : x < cap) : w.cell? ⟨gt, x * 4 + 2, none⟩ = some (.int .i64 (deg x : Nat)) := h.ar.cell (j := 2) hx (by decide)
theorem FibQ.k3 (h : FibQ w p pc pr gn gp gt gT cT Fc cap hs E wl U kid deg mk top) {x : Nat} (hx : x < cap) : w.cell? ⟨gt, x * 4 + 3, none⟩ = some (.bool (mk x)) := h.ar.cell (j := 3) hx (by decide)
theorem FibAt.lt (h : FibAt w F p cap hs E) : ∀ b ∈ F, b < w.heap.size := by
  obtain ⟨pc, pr, gn, gp, gt, gT, cT, Fc, wl, U, kid, deg, mk, top,rfl, q, o⟩ := h; exact q.lt
theorem FibAt.mem (h : FibAt w F p cap hs E) : p ∈ F := by
  obtain ⟨pc, pr, gn, gp, gt, gT, cT, Fc, wl, U, kid, deg, mk, top,rfl, q, o⟩ := h; simp
theorem FibAt.keep (h : FibAt w F p cap hs E) (k : Keeps S w w') (hS : ∀ b ∈ F, b ∉ S) : FibAt w' F p cap hs E := by
  obtain ⟨pc, pr, gn, gp, gt, gT, cT, Fc, wl, U, kid, deg, mk, top,rfl, q, o⟩ := h
  exact ⟨pc, pr, gn, gp, gt, gT, cT, Fc, wl, U, kid, deg, mk, top,rfl, q.keep k hS, o⟩
theorem FibAt.ok (h : FibAt w F p cap hs E) : EntOk E cap hs := by
  obtain ⟨pc, pr, gn, gp, gt, gT, cT, Fc, wl, U, kid, deg, mk, top,rfl, q, o⟩ := h; exact q.ce.ok
end
section
variable {w w4 : World} {p pc ga q ca cap hs n x g' cap' : Nat} {ao : Option Addr} {vP : Value} {Fc : List Nat} {E : Ent} {v : Nat -> Nat} {f : Nat -> Int}
theorem PileOk.list (h : PileOk w p pc ga q ao ca vP Fc cap hs E n v f) : ∃ Lm : List Nat, Lm.length = n ∧ Rg.IR 0 w (.slice ao n ca) Lm ∧ ∀ j, j < n -> Rg.fn Lm j = v j := by
  obtain ⟨Lm, l1, l2, l3⟩ := h.row
  exact ⟨Lm, l1,by rw [l1] at l2; exact l2, l3⟩
theorem PileOk.setAt (h : PileOk w p pc ga q ao ca vP Fc cap hs E n v f) (hx : ∀ j, j < n -> v j ≠ x) (hc : x < cap) (z : Int) :
    PileOk (w.setCell ⟨ga,x,none⟩ (.int .i64 z)) p pc ga q ao ca vP Fc cap hs E n v (upd f x z) := by
  have k : Keeps [ga] w (w.setCell ⟨ga,x,none⟩ (.int .i64 z)) := (Keeps.refl _ _).setCell (.inl (by simp)) _
  obtain ⟨n1, n2, n3, n4, n5, n6⟩ := h.ne
  obtain ⟨Lm, l1, l2, l3⟩ := h.row
  refine ⟨k.blk h.bp (by simpa using n2), k.blk h.bq (by simpa using n3), h.ce.keep k (fun b hb e => by simp at e; subst e; exact n6 hb),?_,⟨Lm, l1, ir_keep l2 k (fun y e => by simpa using (h.na y e).2.2.1), l3⟩, h.ne, h.na,?_, h.lt, h.inj⟩
  · refine (h.ar.set1 hc (.int .i64 z)).congr fun k _ => ?_
    by_cases a : k = x
    · subst a; simp [upd_same, numV]
    · simp [upd_other _ _ a, numV]
  · intro j hj
    rw [upd_other _ _ (hx j hj)]; exact h.pos j hj
theorem PileOk.push (h : PileOk w p pc ga q ao ca vP Fc cap hs E n v f) (hx : ∀ j, j < n -> v j ≠ x) (hc : x < cap) (hf : f x = (n : Int)) {Lm : List Nat} (l1 : Lm.length = n) (l3 : ∀ j, j < n -> Rg.fn Lm j = v j)
    (hr : w4.ownsRow 0 3 1 (.slice (some ⟨g',0,none⟩) (n + 1) cap') (n + 1) (Rg.nCells Lm ++ [.int .i64 (x : Int)]))
    (hk : Keeps (Value.slice ao n ca).ownBlock.toList w w4) (hg : (Value.slice ao n ca).ownBlock = some g' ∨ w.heap.size <= g') :
    PileOk (w4.setCell ⟨q,1,none⟩ (.slice (some ⟨g',0,none⟩) (n + 1) cap')) p pc ga q (some ⟨g',0,none⟩) cap' vP Fc cap hs E (n + 1) (fun k => if k = n then x else v k) f ∧
      Keeps (pfp q ao) w (w4.setCell ⟨q,1,none⟩ (.slice (some ⟨g',0,none⟩) (n + 1) cap')) ∧ (∀ b ∈ pfp q (some ⟨g',0,none⟩), b ∈ pfp q ao ∨ w.heap.size <= b) ∧ (∃ u, w4.cell? ⟨q,1,none⟩ = some u) ∧ w4.frozen? ⟨q,1,none⟩ = false := by
  have hown : ∀ b ∈ (Value.slice ao n ca).ownBlock.toList, ∃ x, ao = some x ∧ x.block = b := by
    intro b hb
    cases ao with
    | none => simp [Value.ownBlock] at hb
    | some a =>
      obtain ⟨b', o', i'⟩ := a
      refine ⟨_,rfl,?_⟩
      simp [Value.ownBlock] at hb
      exact hb.symm
  have hno : ∀ b, b = p ∨ b = q ∨ b = ga ∨ b ∈ Fc -> b ∉ (Value.slice ao n ca).ownBlock.toList := by
    intro b hb e
    obtain ⟨y, e1, e2⟩ := hown b e
    obtain ⟨m1, m2, m3, m4⟩ := h.na y e1
    rw [e2] at m1 m2 m3 m4
    rcases hb with rfl | rfl | rfl | hb
    · exact m1 rfl
    · exact m2 rfl
    · exact m3 rfl
    · exact m4 hb
  have hbl := h.below
  obtain ⟨n1, n2, n3, n4, n5, n6⟩ := h.ne
  have hgp : g' ≠ p ∧ g' ≠ q ∧ g' ≠ ga ∧ g' ∉ Fc := by
    rcases hg with e | e
    · obtain ⟨y, e1, e2⟩ := hown g' (by simp [e])
      rw [<- e2]; exact h.na y e1
    · have a1 := hbl p (by simp)
      have a2 := hbl q (by simp [pfp])
      have a3 := hbl ga (by simp)
      exact ⟨by omega,by omega,by omega,fun hm => by have := hbl g' (by simp [hm]); omega⟩
  have k2 : Keeps [q] w4 (w4.setCell ⟨q,1,none⟩ (.slice (some ⟨g',0,none⟩) (n + 1) cap')) := (Keeps.refl _ _).setCell (.inl (by simp)) _
  have bq4 := hk.blk h.bq (hno q (by simp))
  have hr2 : Rg.IR 0 w4 (.slice (some ⟨g',0,none⟩) (Lm ++ [x]).length cap') (Lm ++ [x]) := by
    subst l1
    have := Rg.IR.pushed (B := 0) (L := Lm) (x := x) hr (Nat.zero_le _)
    simpa using this
  refine ⟨⟨k2.blk (hk.blk h.bp (hno p (by simp))) (by simpa using n1),?_,(h.ce.keep hk (fun b hb => hno b (by simp [hb]))).keep k2 (fun b hb e => by simp at e; subst e; exact n5 hb),(h.ar.keep hk (hno ga (by simp))).keep k2 (by simpa using fun e => n3 e.symm),
    ⟨Lm ++ [x],by simp [l1], ir_keep hr2 k2 (fun y e => by cases e; simpa using hgp.2.1),?_⟩, h.ne,fun y e => by cases e; exact hgp,?_,?_,(hole_add h.inj hx).2⟩,?_,?_,⟨_,by rw [cell_of_blk bq4]; rfl⟩, frozen_of_blk bq4⟩
  · rw [blk_setCell _ bq4]; simp
  · intro j hj
    by_cases e : j = n
    · subst e; subst l1; simp [Rg.fn, List.getD]
    · simp only [if_neg e]
      rw [<- l3 j (by omega)]
      simp [Rg.fn, List.getD, List.getElem?_append_left (show j < Lm.length by omega)]
  · intro j hj
    by_cases e : j = n
    · subst e; simpa using hf
    · simp only [if_neg e]; exact h.pos j (by omega)
  · intro j hj
    by_cases e : j = n
    · subst e; simpa using hc
    · simp only [if_neg e]; exact h.lt j (by omega)
  · refine (hk.mono (T := pfp q ao) fun b hb => .inl ?_).trans k2 (by simp [pfp])
    obtain ⟨y, e1, e2⟩ := hown b hb
    simp [pfp, e1, e2]
  · intro b hb
    simp only [pfp, Option.toList_some, List.map_cons, List.map_nil, List.mem_cons, List.not_mem_nil, or_false] at hb
    rcases hb with rfl | rfl
    · exact .inl (by simp [pfp])
    · rcases hg with e | e
      · obtain ⟨y, e1, e2⟩ := hown b (by simp [e])
        exact .inl (by simp [pfp, e1, e2])
      · exact .inr e
theorem PileOk.pop (h : PileOk w p pc ga q ao ca vP Fc cap hs E (n + 1) v f) : PileOk (w.setCell ⟨q,1,none⟩ (.slice ao n ca)) p pc ga q ao ca vP Fc cap hs E n v f := by
  have k : Keeps [q] w (w.setCell ⟨q,1,none⟩ (.slice ao n ca)) := (Keeps.refl _ _).setCell (.inl (by simp)) _
  obtain ⟨n1, n2, n3, n4, n5, n6⟩ := h.ne
  obtain ⟨Lm, l1, l2, l3⟩ := h.row
  have hlt : (Lm.take n).length = n := by simp; omega
  refine ⟨k.blk h.bp (by simpa using n1),by rw [blk_setCell _ h.bq]; simp, h.ce.keep k (fun b hb e => by simp at e; subst e; exact n5 hb), h.ar.keep k (by simpa using fun e => n3 e.symm),⟨Lm.take n, hlt,?_,fun j hj => ?_⟩, h.ne, h.na,fun j hj => h.pos j (by omega),fun j hj => h.lt j (by omega),fun a b ha hb e => h.inj a b (by omega) (by omega) e⟩
  · rw [hlt]
    have hr := ir_keep l2 k (fun x hx => by simpa using (h.na x hx).2.1)
    rcases hr.2 with ⟨h0, h1⟩ | ⟨g', cap', cur, hv, hb, hh, r1, r2, r3, r4⟩
    · omega
    · cases hv
      refine ⟨by simp [Rg.nCells],.inr ⟨g', ca, cur,by rw [hlt], hb, hh,by omega, r2, r3,?_⟩⟩
      rw [Nat.mul_one] at r4 ⊢
      have e : cur.toList.take (Lm.take n).length = (cur.toList.take Lm.length).take n := by rw [List.take_take, hlt, Nat.min_eq_left (by omega)]
      rw [e, r4]; simp [Rg.nCells, List.map_take]
  · rw [<- l3 j (by omega)]
    simp [Rg.fn, List.getD, hj]
end
section
variable (w : World) (p pc ga q : Nat) (ao : Option Addr) (ca : Nat) (vP : Value) (Fc : List Nat) (cap hs : Nat) (E : Ent) (n : Nat) (v : Nat -> Nat) (f : Nat -> Int)
theorem assert_int (x : Int) (t : TypeId) (w : World) : (Instr.typeAssert (.iface 3 (.int .i64 x)) t 3 false).run Tryz.prog w = .ok (.int .i64 x) w := by kernel_rfl
def PushDone (x : Nat) (e : Ending) (w' : World) : Prop :=
  ∃ ao' ca', e = .returned (.tuple #[]) ∧ PileOk w' p pc ga q ao' ca' vP Fc cap hs E (n + 1) (fun k => if k = n then x else v k) (upd f x (n : Int)) ∧ Keeps (ga :: pfp q ao) w w' ∧ (∀ b ∈ pfp q ao', b ∈ pfp q ao ∨ w.heap.size <= b)
theorem pile_push (h : PileOk w p pc ga q ao ca vP Fc cap hs E n v f) (x : Nat) (hx : ∀ j, j < n -> v j ≠ x) (hc : x < cap) (hn : n + 1 <= 65536) :
    Calls Tryz.prog 454 #[.pointer (some ⟨q,0,none⟩),.iface 3 (.int .i64 x)] w (PushDone w p pc ga q ao vP Fc cap hs E n v f x) := by
  have q0 := h.q0
  have q1 := h.q1
  have p2 := h.p2
  obtain ⟨n1, n2, n3, n4, n5, n6⟩ := h.ne
  obtain ⟨xv, hxv⟩ : ∃ u, w.cell? ⟨ga,x,none⟩ = some u := ⟨_, h.ar.cell1 hc⟩
  have hxf : w.frozen? ⟨ga,x,none⟩ = false := h.ar.frozen _
  have hx3 : (x : Int) < (cap : Int) := by omega
  have hset := h.setAt hx hc (n : Int)
  have hmid : ∀ u, u.heap = (w.setCell ⟨ga,x,none⟩ (.int .i64 (n : Int))).heap -> u.os = w.os -> u.tape = w.tape -> u.output = w.output -> ∃ Lm : List Nat, Lm.length = n ∧ Rg.IR 0 u (.slice ao n ca) Lm ∧ u.cell? ⟨q,1,none⟩ = some (.slice ao n ca) ∧ u.frozen? ⟨q,1,none⟩ = false ∧
      ∀ (w4 : World) (g' cap' : Nat), w4.ownsRow 0 3 1 (.slice (some ⟨g',0,none⟩) (n + 1) cap') (n + 1) (Rg.nCells Lm ++ [.int .i64 (x : Int)]) -> Keeps (Value.slice ao n ca).ownBlock.toList u w4 -> ((Value.slice ao n ca).ownBlock = some g' ∨ u.heap.size <= g') ->
        w4.frozen? ⟨q,1,none⟩ = false ∧ (∃ u, w4.cell? ⟨q,1,none⟩ = some u) ∧ ∀ W, W = w4.setCell ⟨q,1,none⟩ (.slice (some ⟨g',0,none⟩) (n + 1) cap') -> PushDone w p pc ga q ao vP Fc cap hs E n v f x (.returned (.tuple #[])) W := by
    intro u e1 e2 e3 e4
    have k0 : Keeps [ga] w (w.setCell ⟨ga,x,none⟩ (.int .i64 (n : Int))) := (Keeps.refl _ _).setCell (.inl (by simp)) _
    have ku : Keeps [] (w.setCell ⟨ga,x,none⟩ (.int .i64 (n : Int))) u := ⟨by rw [e2]; rfl,by rw [e3]; rfl,by rw [e4]; rfl,by rw [e1]; exact Nat.le_refl _,fun k _ _ => by rw [e1]⟩
    have hu := hset.same ku
    have kwu : Keeps [ga] w u := k0.trans ku (by simp)
    obtain ⟨Lm, l1, l2, l3⟩ := hu.list
    refine ⟨Lm, l1, l2, hu.q1, frozen_of_blk hu.bq,fun w4 g' cap' a1 a2 a3 => ?_⟩
    obtain ⟨b1, b2, b3, b4, b5⟩ := hu.push hx hc (by rw [upd_same]) l1 l3 a1 a2 a3
    refine ⟨b5, b4,?_⟩
    rintro W rfl
    refine ⟨_, _,rfl, b1,(kwu.mono (T := ga :: pfp q ao) (by simp)).trans b2 (fun b hb => .inl (by simp [hb])),fun b hb => ?_⟩
    rcases b3 b hb with c | c
    · exact .inl c
    · exact .inr (by have := kwu.size; omega)
  have HMID := Lib.hid hmid
  clear hmid hset h hx
  have hta := fun t => assert_int x t w
  go_enter Tryz.func454, Tryz.ntmps454
  go_wp2_with fail
  go_region_held3 (fun u => u.cell? ⟨q,0,none⟩ = some (.pointer (some ⟨p,0,none⟩)) ∧ u.cell? ⟨q,1,none⟩ = some (.slice ao n ca) ∧ u.cell? ⟨p,2,none⟩ = some (.slice (some ⟨ga,0,none⟩) cap cap))
    (first | exact ⟨q0, q1, p2⟩ | exact ⟨cell_set_ne n3 q0, cell_set_ne n3 q1, cell_set_ne n2 p2⟩) (fail)
  all_goals
    obtain ⟨u, hu⟩ : ∃ u, u = (w.setCell ⟨ga,x,none⟩ (.int .i64 (n : Int))).drew := ⟨_,rfl⟩
    obtain ⟨Lm, l1, l2, l4, l5, l6⟩ := HMID.out u (by rw [hu]; rfl) (by rw [hu]; rfl) (by rw [hu]; rfl) (by rw [hu]; rfl)
    have l2' : u.ownsRow 0 3 1 (.slice ao n ca) n (Rg.nCells Lm) := by
      unfold Rg.IR at l2; rwa [l1] at l2
    have H6 := Lib.hid l6
    have H1 := Lib.hid l1
    clear l6 HMID q0 q1 p2 hxv hxf l2 l1
    rw [<- hu]
    clear hu
    go_upto_region 3 with (first
      | (at_builtin; refine wpList_push _ 3 (.int .i64 (x : Int)) (0,0) rfl (.tmp 25) (.tmp 27) 28 rfl (.int .i64 0) 8 Tryz.underlying28 Rg.Tryz.infoInt rfl rfl _ n (Rg.nCells Lm) (by simp [Act.eval]) l2' (by simp [Act.eval]) (by unfold maxLen; omega) (by omega) ?_; intro g' cap' w4 hr4 hk4 hf4; obtain ⟨f4,⟨u4, c4⟩, HF⟩ := H6.out w4 g' cap' hr4 hk4 hf4; have HF4 := Lib.hid HF; clear hr4 hk4 hf4 HF))
    go_end0
    exact HF4.out _ rfl
def PopDone (e : Ending) (w' : World) : Prop := e = .returned (.iface 3 (.int .i64 (v n : Nat))) ∧ PileOk w' p pc ga q ao ca vP Fc cap hs E n v f ∧ Keeps [q] w w'
theorem pile_pop (h : PileOk w p pc ga q ao ca vP Fc cap hs E (n + 1) v f) (hn : n + 1 <= 65536) :
    Calls Tryz.prog 453 #[.pointer (some ⟨q,0,none⟩)] w (PopDone w p pc ga q ao ca vP Fc cap hs E n v f) := by
  obtain ⟨g,rfl, g1, g2, g3, g4, g5, c1, _⟩ := h.at (i := n) (by omega)
  have q1 := h.q1
  have f1 : w.frozen? ⟨q,1,none⟩ = false := frozen_of_blk h.bq
  have hcap : n + 1 <= ca := by
    obtain ⟨Lm, l1, l2, l3⟩ := h.row
    have := row_cap l2
    omega
  have hn3 : (n : Int) < ((n + 1 : Nat) : Int) := by omega
  have hfin : ∀ W, W.heap = (w.setCell ⟨q,1,none⟩ (.slice (some ⟨g,0,none⟩) n ca)).heap -> W.os = w.os -> W.tape = w.tape -> W.output = w.output -> PopDone w p pc ga q (some ⟨g,0,none⟩) ca vP Fc cap hs E n v f (.returned (.iface 3 (.int .i64 (v n : Nat)))) W := by
    intro W e1 e2 e3 e4
    have k0 : Keeps [q] w (w.setCell ⟨q,1,none⟩ (.slice (some ⟨g,0,none⟩) n ca)) := (Keeps.refl _ _).setCell (.inl (by simp)) _
    have ku : Keeps [] (w.setCell ⟨q,1,none⟩ (.slice (some ⟨g,0,none⟩) n ca)) W := ⟨by rw [e2]; rfl,by rw [e3]; rfl,by rw [e4]; rfl,by rw [e1]; exact Nat.le_refl _,fun k _ _ => by rw [e1]⟩
    exact ⟨rfl, h.pop.same ku, k0.trans ku (by simp)⟩
  have HF := Lib.hid hfin
  clear hfin h
  go_enter Tryz.func453, Tryz.ntmps453
  go_wp2_with fail
  go_quiet (fail)
  go_wp2_with fail
  go_region
  all_goals
    go_wp2_with fail
    go_ret
    exact HF.out _ rfl rfl rfl rfl
end
end Go.Proofs.YtkdbjelhkfdfjaaGreatDoor


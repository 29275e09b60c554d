/-
  Contracts that the law rests on. Conditions: none.
-/
import Derived.Test.YtkdbjelhkfdfjaaGreatDoorLv15
import Derived.Laws.Bits64b
set_option linter.unusedVariables false
set_option maxRecDepth 100000
set_option maxHeartbeats 32000000
namespace Go.Proofs.YtkdbjelhkfdfjaaGreatDoor
open Go.RowKit
theorem maskS (a : Nat) (ha : a <= 4096) : bits .and .u64 (a : Int) 4294967295 = (a : Int) := by
  have h := bits_and_u64_nat a 4294967295 (by omega) (by omega)
  have e : a &&& 4294967295 = a % 4294967296 := Nat.and_two_pow_sub_one_eq_mod a 32
  rw [e, Nat.mod_eq_of_lt (by omega)] at h
  exact h
theorem mul64_calls (w : World) (n m : Nat) (hn : n <= 4096) (hm : m <= 1) : Calls Tryz.prog 73 #[.int .u64 (n : Int),.int .u64 (m : Int)] w fun e w' => e = .returned (.tuple #[.int .u64 0,.int .u64 ((n * m : Nat) : Int)]) ∧ w = w' := by
  have h1 := maskS n hn
  have h2 := maskS m (by omega)
  have h3 : (n : Int) / 4294967296 = 0 := by omega
  have h4 : (m : Int) / 4294967296 = 0 := by omega
  have hp : n * m <= 4096 := Nat.le_trans (Nat.mul_le_mul hn hm) (by omega)
  have hc : (n : Int) * (m : Int) = ((n * m : Nat) : Int) := (Int.natCast_mul n m).symm
  have w0 : IntKind.u64.wrap 0 = 0 := by rfl
  have w1 : IntKind.u64.wrap ((n * m : Nat) : Int) = ((n * m : Nat) : Int) := by rw [IntKind.wrap_u64]; omega
  have d1 : ((n * m : Nat) : Int) / 4294967296 = 0 := by omega
  have b0 : bits .and .u64 0 4294967295 = 0 := maskS 0 (by omega)
  have HC := Lib.hid hc
  have W1 := Lib.hid w1
  have D1 := Lib.hid d1
  have H1 := Lib.hid h1
  have H2 := Lib.hid h2
  have H3 := Lib.hid h3
  have H4 := Lib.hid h4
  clear hc w1 d1 h1 h2 h3 h4
  go_enter Tryz.func73, Tryz.ntmps73
  go_wp2_with fail
  have hc := HC.out
  have w1 := W1.out
  have d1 := D1.out
  have h1 := H1.out
  have h2 := H2.out
  have h3 := H3.out
  have h4 := H4.out
  simp only [h1, h2, h3, h4, hc, Int.zero_mul, Int.mul_zero, w0, w1, d1, Int.add_zero, b0, Int.zero_ediv]
  go_ret2
  exact ⟨rfl,rfl⟩
section
variable (w : World) (n : Nat) (v : Value) (es : List E3)
theorem weighed_calls (h : EIn w v es) (hg : ∀ x ∈ es, inG n x) (h1 : ∀ x ∈ es, x.2.2 = 1) (hl : es.length <= 65536) (hn : n <= 4096) :
    Calls Tryz.prog 38 #[.agg #[.int .i64 (n : Int), v]] w fun e w' => e = .returned (.int .i64 0) ∧ Keeps [] w w' := by
  obtain ⟨ao, ca,rfl⟩ := h.1
  obtain ⟨w0, hw0⟩ : ∃ w0, w0 = w.alloc (.cells #[.int .i64 (n : Int),.slice ao es.length ca] 55 (0,0)) := ⟨_,rfl⟩
  obtain ⟨b, hb⟩ : ∃ b, b = w.heap.size := ⟨_,rfl⟩
  have k0 : Keeps [] w w0 := by rw [hw0]; exact (Keeps.refl _ _).alloc _
  have hb0 : w0.heap[b]? = some (.cells #[.int .i64 (n : Int),.slice ao es.length ca] 55 (0,0)) := by rw [hw0, hb]; exact blk_alloc_new _
  have hc : ∀ u, Keeps [] w0 u -> u.cell? ⟨b,0,none⟩ = some (.int .i64 (n : Int)) ∧ u.cell? ⟨b,1,none⟩ = some (.slice ao es.length ca) := fun u k => by
    have := k.blk hb0 (by simp)
    exact ⟨by rw [cell_of_blk this]; rfl,by rw [cell_of_blk this]; rfl⟩
  have HC := Lib.hid hc
  have HE := Lib.hid (h.keep k0 (by simp))
  have H1 := Lib.hid h1
  have K0 := Lib.hid k0
  obtain ⟨e0, e1⟩ := hc w0 (Keeps.refl _ _)
  have hck := gcheck_calls w0 n (.slice ao es.length ca) es HE.out hg hl (by omega) (by omega)
  have hm0 := fun u => mul64_calls u n 0 hn (by omega)
  have hm1 := fun u => mul64_calls u n 1 hn (by omega)
  have hwn : IntKind.u64.wrap (n : Int) = (n : Int) := by rw [IntKind.wrap_u64]; omega
  clear h hg hc h1 hb0 k0
  go_enter Tryz.func38, Tryz.ntmps38
  go_upto_region 1 with fail
  rw [<- hw0, <- hb]
  clear hw0 hb
  go_wp2_with (go_at_call 72; refine hck.mono ?_; rintro e w1 ⟨rfl, k1⟩; obtain ⟨y0, y1⟩ := HC.out w1 k1; have K1 := Lib.hid k1; clear k1 e0 e1)
  go_loopg [4,17] (es.length + 1) (fun k m t wr => ∃ i : Nat, k + i = es.length + 1 ∧ i <= es.length ∧ t = .int .i64 i ∧ Keeps [] w0 wr ∧ ((i = 0 ∧ m = .int .i64 0) ∨ (0 < i ∧ m = .int .i64 1)))
  case atStart => exact ⟨0,by omega,by omega,rfl, K1.out,.inl ⟨rfl,rfl⟩⟩
  case round =>
    clear y0 y1 hck
    obtain ⟨i, hk, hin,rfl, kp, hm⟩ := hrel
    have HK := Lib.hid hk
    clear hk
    by_cases hi : i < es.length
    · have hi3 : (i : Int) < (es.length : Int) := by omega
      obtain ⟨x, hx⟩ : ∃ x, es[i]? = some x := ⟨_, List.getElem?_eq_getElem hi⟩
      obtain ⟨g, off, ca', hv, c1, c2, c3⟩ := (HE.out.keep kp (by simp)).2 i x hx
      have hx1 := H1.out x (List.mem_of_getElem? hx)
      obtain ⟨x1, x2, x3⟩ := x
      simp only at hx1
      subst hx1
      cases hv
      have KA := Lib.hid (show Keeps [] w0 (wr.alloc (.cells #[.int .i64 x1,.int .i64 x2,.int .i64 1] 58 (0,0))) from kp.alloc _)
      clear kp hx
      simp only at c1 c2 c3
      rcases hm with ⟨hi0,rfl⟩ | ⟨hi0,rfl⟩
      · have HI := Lib.hid hi0
        clear hi0
        go_wp2_with fail
        go_roundg (gk - 1)
        case measure => have := HK.out; omega
        case rel => exact ⟨i + 1,by have := HK.out; omega,by omega,by go_num, KA.out,.inr ⟨by omega,rfl⟩⟩
      · go_wp2_with fail
        go_roundg (gk - 1)
        case measure => have := HK.out; omega
        case rel => exact ⟨i + 1,by have := HK.out; omega,by omega,by go_num, KA.out,.inr ⟨by omega,rfl⟩⟩
    · obtain rfl : i = es.length := by omega
      obtain ⟨n0, n1⟩ := HC.out _ kp
      have KP := Lib.hid (K0.out.trans kp (by simp))
      clear kp
      rcases hm with ⟨_,rfl⟩ | ⟨_,rfl⟩
      · go_wp2_with (go_at_call 73; refine (hm0 _).mono ?_; rintro e w' ⟨rfl,rfl⟩)
        go_ret
        exact ⟨rfl, KP.out⟩
      · have q : ¬ 9223372036854775807 < ((n * 1 : Nat) : Int) := by omega
        have q2 : ¬ 9223372036854775807 < (n : Int) := by omega
        go_wp2_with (go_at_call 73; refine (hm1 _).mono ?_; rintro e w' ⟨rfl,rfl⟩)
        go_ret
        exact ⟨rfl, KP.out⟩
end
structure RowR where
  p : Nat
  mb : Nat
  ao : Option Addr
  ca : Nat
  n : Nat
  v : Nat -> Nat
def RowR.fp (r : RowR) : List Nat := rfp r.p r.mb r.ao
def nestF (p g : Nat) (Fc : List Nat) (hs : Nat) (foot : Nat -> List Nat) : List Nat := p :: g :: (Fc ++ (List.range hs).flatMap fun i => foot (i + 1))
theorem nestF_mem {p g : Nat} {Fc : List Nat} {hs : Nat} {foot : Nat -> List Nat} {b : Nat} : b ∈ nestF p g Fc hs foot ↔ b = p ∨ b = g ∨ b ∈ Fc ∨ ∃ i, 1 <= i ∧ i <= hs ∧ b ∈ foot i := by
  simp only [nestF, List.mem_cons, List.mem_append, List.mem_flatMap, List.mem_range]
  constructor
  · rintro (c | c | c | ⟨i, hi, c⟩)
    · exact .inl c
    · exact .inr (.inl c)
    · exact .inr (.inr (.inl c))
    · exact .inr (.inr (.inr ⟨i + 1,by omega,by omega, c⟩))
  · rintro (c | c | c | ⟨i, h1, h2, c⟩)
    · exact .inl c
    · exact .inr (.inl c)
    · exact .inr (.inr (.inl c))
    · exact .inr (.inr (.inr ⟨i - 1,by omega,by rw [show i - 1 + 1 = i by omega]; exact c⟩))
def rowsV (r : Nat -> Nat) (n : Nat) : List Value := (List.range n).map fun i => if i = 0 then .pointer none else .pointer (some ⟨r i,0,none⟩)
theorem rowsV_at (r : Nat -> Nat) (n i : Nat) (h0 : 1 <= i) (h1 : i < n) : (rowsV r n)[i]? = some (.pointer (some ⟨r i,0,none⟩)) := by
  simp [rowsV, h1, show i ≠ 0 by omega]
theorem rowsV_snoc (r : Nat -> Nat) (n : Nat) (h0 : 1 <= n) : rowsV r (n + 1) = rowsV r n ++ [.pointer (some ⟨r n,0,none⟩)] := by
  simp [rowsV, List.range_succ, show n ≠ 0 by omega]
theorem rowsV_congr {r r' : Nat -> Nat} {n : Nat} (h : ∀ i, 1 <= i -> i < n -> r' i = r i) : rowsV r' n = rowsV r n := by
  apply List.ext_getElem (by simp [rowsV])
  intro i h1 h2
  simp only [rowsV, List.length_map, List.length_range] at h1
  simp only [rowsV, List.getElem_map, List.getElem_range]
  by_cases c : i = 0
  · simp [c]
  · simp only [if_neg c]; rw [h i (by omega) h1]
structure RowOk (E : Ent) (d g : Nat) (r : RowR) : Prop where
  inj : Inj r.v r.n
  mem : ∀ x, isIn E g x ↔ ∃ j, j < r.n ∧ r.v j = x
  heap : Heap' d (ahead E) r.v r.n
structure DaryP (w : World) (p pc gr rc d : Nat) (Fc : List Nat) (cap hs : Nat) (E : Ent) (R : Nat -> RowR) : Prop where
  blk : w.heap[p]? = some (.cells #[.pointer (some ⟨pc,0,none⟩),.int .i64 (d : Int),.slice (some ⟨gr,0,none⟩) (hs + 1) rc] 208 (0,0))
  ce : CellsAt w Fc pc cap hs E
  rows : w.ownsRow 0 203 1 (.slice (some ⟨gr,0,none⟩) (hs + 1) rc) (hs + 1) (rowsV (fun i => (R i).p) (hs + 1))
  ne : p ≠ gr ∧ p ∉ Fc ∧ gr ∉ Fc
  own : ∀ g, 1 <= g -> g <= hs -> ∀ b ∈ (R g).fp, b ≠ p ∧ b ≠ gr ∧ b ∉ Fc
  dis : ∀ g g', 1 <= g -> g <= hs -> 1 <= g' -> g' <= hs -> g ≠ g' -> ∀ b ∈ (R g).fp, b ∉ (R g').fp
  mem : ∀ g, 1 <= g -> g <= hs -> RowFull w (R g).p d (R g).ao (R g).ca (R g).mb (R g).n (R g).v
  ok : ∀ g, 1 <= g -> g <= hs -> RowOk E d g (R g)
  d1 : 2 <= d
  d2 : d <= 16
def DaryAt (w : World) (F : List Nat) (p cap hs : Nat) (E : Ent) : Prop :=
  ∃ (pc gr rc d : Nat) (Fc : List Nat) (R : Nat -> RowR), F = nestF p gr Fc hs (fun g => (R g).fp) ∧ DaryP w p pc gr rc d Fc cap hs E R
section
variable {w w' : World} {p pc gr rc d cap hs : Nat} {F Fc S : List Nat} {E E' : Ent} {R : Nat -> RowR}
theorem DaryP.lt (h : DaryP w p pc gr rc d Fc cap hs E R) : ∀ b ∈ nestF p gr Fc hs (fun g => (R g).fp), b < w.heap.size := by
  intro b hb
  rcases nestF_mem.1 hb with rfl | rfl | c | ⟨i, h1, h2, c⟩
  · exact lt_of_block h.blk
  · exact row_lt h.rows
  · exact h.ce.lt b c
  · exact (h.mem i h1 h2).lt b c
theorem DaryP.keep (h : DaryP w p pc gr rc d Fc cap hs E R) (k : Keeps S w w') (hS : ∀ b ∈ nestF p gr Fc hs (fun g => (R g).fp), b ∉ S) : DaryP w' p pc gr rc d Fc cap hs E R :=
  ⟨k.blk h.blk (hS p (nestF_mem.2 (.inl rfl))), h.ce.keep k (fun b hb => hS b (nestF_mem.2 (.inr (.inr (.inl hb))))), k.row h.rows (hS gr (nestF_mem.2 (.inr (.inl rfl)))), h.ne, h.own, h.dis,
    fun g h1 h2 => (h.mem g h1 h2).keep k (fun b hb => hS b (nestF_mem.2 (.inr (.inr (.inr ⟨g, h1, h2, hb⟩))))), h.ok, h.d1, h.d2⟩
theorem DaryAt.lt (h : DaryAt w F p cap hs E) : ∀ b ∈ F, b < w.heap.size := by obtain ⟨pc, gr, rc, d, Fc, R,rfl, h⟩ := h; exact h.lt
theorem DaryAt.mem (h : DaryAt w F p cap hs E) : p ∈ F := by obtain ⟨pc, gr, rc, d, Fc, R,rfl, h⟩ := h; exact nestF_mem.2 (.inl rfl)
theorem DaryAt.keep (h : DaryAt w F p cap hs E) (k : Keeps S w w') (hS : ∀ b ∈ F, b ∉ S) : DaryAt w' F p cap hs E := by
  obtain ⟨pc, gr, rc, d, Fc, R,rfl, h⟩ := h
  exact ⟨pc, gr, rc, d, Fc, R,rfl, h.keep k hS⟩
theorem DaryAt.ok (h : DaryAt w F p cap hs E) : EntOk E cap hs := by obtain ⟨pc, gr, rc, d, Fc, R,rfl, h⟩ := h; exact h.ce.ok
theorem DaryP.c0 (h : DaryP w p pc gr rc d Fc cap hs E R) : w.cell? ⟨p,0,none⟩ = some (.pointer (some ⟨pc,0,none⟩)) := by rw [cell_of_blk h.blk]; rfl
theorem DaryP.c2 (h : DaryP w p pc gr rc d Fc cap hs E R) : w.cell? ⟨p,2,none⟩ = some (.slice (some ⟨gr,0,none⟩) (hs + 1) rc) := by rw [cell_of_blk h.blk]; rfl
theorem DaryP.row (h : DaryP w p pc gr rc d Fc cap hs E R) {g : Nat} (h1 : 1 <= g) (h2 : g <= hs) : w.cell? ⟨gr,g,none⟩ = some (.pointer (some ⟨(R g).p,0,none⟩)) := by
  rw [h.rows.cellAt g (by omega)]
  exact rowsV_at _ _ _ h1 (by omega)
theorem DaryP.ord (h : DaryP w p pc gr rc d Fc cap hs E R) : OrdAt w p pc Fc cap hs E := ⟨h.c0, lt_of_block h.blk, h.ne.2.1, h.ce⟩
theorem DaryP.apart (h : DaryP w p pc gr rc d Fc cap hs E R) {g : Nat} (h1 : 1 <= g) (h2 : g <= hs) : ∀ b ∈ rfp (R g).p (R g).mb (R g).ao, b ∉ p :: Fc := fun b hb e => by
  obtain ⟨a1, a2, a3⟩ := h.own g h1 h2 b hb
  simp only [List.mem_cons] at e
  rcases e with e | e
  · exact a1 e
  · exact a3 e
theorem DaryP.isSome (h : DaryP w p pc gr rc d Fc cap hs E R) {g : Nat} (h1 : 1 <= g) (h2 : g <= hs) : ∀ j, j < (R g).n -> (E ((R g).v j)).isSome := fun j hj => (((h.ok g h1 h2).mem _).2 ⟨j, hj,rfl⟩).some
theorem DaryP.change (h : DaryP w p pc gr rc d Fc cap hs E R) {g : Nat} (h1 : 1 <= g) (h2 : g <= hs) {r : RowR} (k : Keeps ((R g).fp ++ Fc) w w') (hp : r.p = (R g).p) (hf : ∀ b ∈ r.fp, b ∈ (R g).fp ∨ w.heap.size <= b)
    (hc : CellsAt w' Fc pc cap hs E') (hr : RowFull w' r.p d r.ao r.ca r.mb r.n r.v) (ho : RowOk E' d g r) (hoth : ∀ g', 1 <= g' -> g' <= hs -> g' ≠ g -> RowOk E' d g' (R g')) :
    DaryP w' p pc gr rc d Fc cap hs E' (upd R g r) ∧ Moved (nestF p gr Fc hs (fun g => (R g).fp)) w (nestF p gr Fc hs (fun g' => (upd R g r g').fp)) w' := by
  have hlt := h.lt
  have hnot : ∀ b, b ∉ (R g).fp -> b ∉ Fc -> b ∉ (R g).fp ++ Fc := fun b a c e => by rcases List.mem_append.1 e with e | e; exact a e; exact c e
  have hpg : p ∉ (R g).fp := fun e => (h.own g h1 h2 p e).1 rfl
  have hgg : gr ∉ (R g).fp := fun e => (h.own g h1 h2 gr e).2.1 rfl
  have hD : DaryP w' p pc gr rc d Fc cap hs E' (upd R g r) := by
    refine ⟨k.blk h.blk (hnot p hpg h.ne.2.1), hc,?_, h.ne,?_,?_,?_,?_, h.d1, h.d2⟩
    · have := k.row h.rows (hnot gr hgg h.ne.2.2)
      rw [rowsV_congr (r := fun i => (R i).p) (r' := fun i => (upd R g r i).p)]
      · exact this
      · intro i a b
        by_cases c : i = g
        · subst c; simp only [upd_same]; exact hp
        · simp only [upd_other R r c]
    · intro g' a b x hx
      by_cases c : g' = g
      · subst c
        rw [upd_same] at hx
        rcases hf x hx with e | e
        · exact h.own g' a b x e
        · have l1 := hlt p (nestF_mem.2 (.inl rfl))
          have l2 := hlt gr (nestF_mem.2 (.inr (.inl rfl)))
          exact ⟨by omega,by omega,fun e2 => by have := h.ce.lt x e2; omega⟩
      · rw [upd_other R r c] at hx; exact h.own g' a b x hx
    · intro g1 g2 a1 a2 b1 b2 hne x hx hx2
      by_cases c1 : g1 = g
      · subst c1
        rw [upd_same] at hx
        rw [upd_other R r (fun e => hne e.symm)] at hx2
        rcases hf x hx with e | e
        · exact h.dis g1 g2 a1 a2 b1 b2 hne x e hx2
        · have := hlt x (nestF_mem.2 (.inr (.inr (.inr ⟨g2, b1, b2, hx2⟩)))); omega
      · rw [upd_other R r c1] at hx
        by_cases c2 : g2 = g
        · subst c2
          rw [upd_same] at hx2
          rcases hf x hx2 with e | e
          · exact h.dis g1 g2 a1 a2 b1 b2 hne x hx e
          · have := hlt x (nestF_mem.2 (.inr (.inr (.inr ⟨g1, a1, a2, hx⟩)))); omega
        · rw [upd_other R r c2] at hx2
          exact h.dis g1 g2 a1 a2 b1 b2 hne x hx hx2
    · intro g' a b
      by_cases c : g' = g
      · subst c; rw [upd_same]; exact hr
      · rw [upd_other R r c]
        exact (h.mem g' a b).keep k fun x hx => hnot x (fun e => h.dis g' g a b h1 h2 c x hx e) (fun e => (h.own g' a b x hx).2.2 e)
    · intro g' a b
      by_cases c : g' = g
      · subst c; rw [upd_same]; exact ho
      · rw [upd_other R r c]; exact hoth g' a b c
  refine ⟨hD, k.mono (fun b hb => .inl (nestF_mem.2 ?_)),fun b hb => ?_, hD.lt⟩
  · rcases List.mem_append.1 hb with e | e
    · exact .inr (.inr (.inr ⟨g, h1, h2, e⟩))
    · exact .inr (.inr (.inl e))
  · rcases nestF_mem.1 hb with e | e | e | ⟨g', a1, a2, e⟩
    · exact .inl (nestF_mem.2 (.inl e))
    · exact .inl (nestF_mem.2 (.inr (.inl e)))
    · exact .inl (nestF_mem.2 (.inr (.inr (.inl e))))
    · by_cases c : g' = g
      · subst c
        rw [upd_same] at e
        rcases hf b e with f | f
        · exact .inl (nestF_mem.2 (.inr (.inr (.inr ⟨g', a1, a2, f⟩))))
        · exact .inr f
      · rw [upd_other R r c] at e
        exact .inl (nestF_mem.2 (.inr (.inr (.inr ⟨g', a1, a2, e⟩))))
end
theorem isIn_put {E : Ent} {x y g h : Nat} {k : Int × Nat} : isIn (put E x (some (h, k))) g y ↔ (y = x ∧ g = h) ∨ (y ≠ x ∧ isIn E g y) := by
  by_cases c : y = x
  · subst c
    simp only [isIn, put_same, Option.some.injEq, Prod.mk.injEq]
    constructor
    · rintro ⟨k', e, _⟩; exact .inl ⟨trivial, e.symm⟩
    · rintro (⟨_, e⟩ | ⟨e, _⟩)
      · exact ⟨k, e.symm,rfl⟩
      · exact absurd rfl e
  · rw [isIn_put_other c]
    constructor
    · intro h; exact .inr ⟨c, h⟩
    · rintro (⟨e, _⟩ | ⟨_, h⟩)
      · exact absurd e c
      · exact h
theorem isIn_drop {E : Ent} {x y g : Nat} : isIn (put E x none) g y ↔ y ≠ x ∧ isIn E g y := by
  by_cases c : y = x
  · subst c
    simp [isIn, put_same]
  · rw [isIn_put_other c]; simp [c]
theorem RowOk.other {E : Ent} {d g x : Nat} {r : RowR} {o : Option (Nat × Int × Nat)} (h : RowOk E d g r) (hd : 2 <= d) (hx : ∀ j, j < r.n -> r.v j ≠ x) (hm : ∀ y, isIn (put E x o) g y ↔ isIn E g y) : RowOk (put E x o) d g r :=
  ⟨h.inj,fun y => (hm y).trans (h.mem y), h.heap.cong hd (fun _ _ => rfl) fun i j hi hj => ahead_put_other (hx i hi) (hx j hj)⟩
section
variable (w : World) (p g n : Nat) (T : Nat -> TwigR) (U : Nat -> Option Nat)
def SplitDone (x : Nat) (e : Ending) (w' : World) : Prop :=
  ∃ v, e = .returned v ∧ Rg.IR w.heap.size w' v (T x).kids ∧ ForestAt w' p g n (upd T x ⟨none, 0, []⟩) (updM U (T x).kids none) ∧ Moved (treeF p g n T) w (treeF p g n (upd T x ⟨none, 0, []⟩)) w'
theorem fo_split (h : ForestAt w p g n T U) (x : Nat) (hx : x < n) (hu : U x = none) :
    Calls Tryz.prog 359 #[.pointer (some ⟨p,0,none⟩),.int .i64 x] w (SplitDone w p g n T U x) := by
  have hrt := fo_root w p g n T U h x hx
  rw [hu] at hrt
  have c0 := h.c0
  have c1 := h.k0 hx
  have f1 := h.arr.frozen (x * 2)
  have hlt := h.lt
  have hrow := h.rows x hx
  have hkl := (h.num x hx).1
  have hkm := (h.num x hx).2.1
  have hown := h.own x hx
  have hset := h.setKids hx (t := ⟨none, 0, []⟩) (w5 := w) (Keeps.refl _ _) (Rg.IR.nil _ _) (fun q e => by cases e) (by simp) (by simp)
  simp only [List.length_nil] at hset
  have hrow1 : ∀ w', Keeps [g] w w' -> Rg.IR 0 w' (.slice (T x).ao (T x).kids.length (T x).ca) (T x).kids := fun w' k => ir_keep hrow k (fun a e => by simpa using (hown a e).2)
  have k0 : Keeps [g] w (w.setCell ⟨g, x * 2, none⟩ (.slice none 0 0)) := (Keeps.refl _ _).setCell (.inl (by simp)) _
  have hcap := h.cap
  obtain ⟨L, hL⟩ : ∃ L,(T x).kids = L := ⟨_,rfl⟩
  obtain ⟨ao, hao⟩ : ∃ ao,(T x).ao = ao := ⟨_,rfl⟩
  obtain ⟨ca, hca⟩ : ∃ ca,(T x).ca = ca := ⟨_,rfl⟩
  rw [hL, hao, hca] at hrow1
  rw [hL, hao, hca] at c1
  rw [hL] at hkl hkm
  have hx3 : (x : Int) < (n : Int) := by omega
  have HROW := Lib.hid hrow1
  have HKM := Lib.hid hkm
  have HMV := Lib.hid hset.2
  have HL := Lib.hid hL
  have hF0 := hset.1
  clear hrow1 hkm hset hrow hown hlt h hL hao hca hu
  go_enter Tryz.func359, Tryz.ntmps359
  go_upto_region 5 with (go_at_call 363; refine hrt.mono ?_; rintro e w' ⟨rfl,rfl⟩)
  generalize hw1 : w.setCell ⟨g, x * 2, none⟩ (.slice none 0 0) = w1 at *
  clear hw1 c0 c1 f1 hrt
  go_wp2_with fail
  go_loopg [29] (L.length + 1) (fun m s wr => ∃ i : Nat, m + i = L.length + 1 ∧ i <= L.length ∧ s = .int .i64 i ∧ ForestAt wr p g n (upd T x ⟨none, 0, []⟩) (updM U (L.take i) none) ∧ Keeps [g] w wr ∧ Keeps [g] w1 wr)
  case atStart => exact ⟨0,by omega,by omega,rfl,by rw [List.take_zero, updM_nil]; exact hF0, k0, Keeps.refl _ _⟩
  case round =>
    clear hF0 k0
    obtain ⟨i, hk, hin,rfl, hF, kp, kp1⟩ := hrel
    have HK := Lib.hid hk
    clear hk
    have hr := HROW.out wr kp
    by_cases hi : i < L.length
    · obtain ⟨gg, hao, _, _, d1⟩ := hr.at i hi
      subst hao
      obtain ⟨y, hy⟩ : ∃ y, Rg.fn L i = y := ⟨_,rfl⟩
      have hyL : L[i]? = some y := by rw [<- hy]; simp [Rg.fn, List.getD, hi]
      have hyn : y < n := HKM.out y (List.mem_of_getElem? hyL)
      have hyn3 : (y : Int) < (n : Int) := by omega
      rw [hy] at d1
      have e0 := hF.c0
      have e1 := hF.k1 hyn
      have e2 := hF.arr.frozen (y * 2 + 1)
      have h7 := hF.setUp (x := y) (o := none) hyn (fun z e => by cases e)
      rw [oZ_none] at h7
      have htk : L.take (i + 1) = L.take i ++ [y] := by rw [List.take_add_one, hyL]; rfl
      rw [<- updM_snoc, <- htk] at h7
      have k7 : Keeps [g] w (wr.setCell ⟨g, y * 2 + 1, none⟩ (.int .i64 (-1))) := kp.setCell (.inl (by simp)) _
      have k8 : Keeps [g] w1 (wr.setCell ⟨g, y * 2 + 1, none⟩ (.int .i64 (-1))) := kp1.setCell (.inl (by simp)) _
      have hi3 : (i : Int) < (L.length : Int) := by omega
      clear hr hy hyL htk hF kp kp1
      go_wp2_with fail
      go_roundg (gk - 1)
      case measure => have := HK.out; omega
      case rel => exact ⟨i + 1,by have := HK.out; omega,by omega,by go_num, h7, k7, k8⟩
    · obtain rfl : i = L.length := by omega
      rw [List.take_length] at hF
      have hcl := clone_ints wr ao ca L hr hkl
      go_wp2_with (go_at_call 252; refine hcl.mono ?_; rintro e w9 ⟨v,rfl, hv, k9⟩)
      go_ret
      have hF9 := hF.keep k9 (by simp)
      refine ⟨v,rfl,?_,?_,?_⟩
      · rw [HL.out]; exact hv.lo kp.size
      · rw [HL.out]; exact hF9
      · refine ⟨(kp.mono (T := treeF p g n T) fun b hb => .inl (treeF_mem.2 (.inr (.inl (by simpa using hb))))).trans k9 (by simp), HMV.out.from', hF9.lt⟩
end
end Go.Proofs.YtkdbjelhkfdfjaaGreatDoor
namespace Go.Proofs.YtkdbjelhkfdfjaaGreatDoor
section
variable {E : Ent} {n : Nat} {R R' : Nat -> Nat -> Prop} {U kid : Nat -> Option Nat} {deg : Nat -> Nat} {top : Nat -> Option Nat} {h g x y t k c d : Nat} {D D' : Nat -> Prop} {l : List Nat}
theorem FibM.ringKid (m : FibM E n R U kid deg top h D) (e : kid c = some k) (hk : k < n) (z : Nat) : R k z ↔ U z = some c := by
  have hu := m.kidS c k e
  rw [m.rel k z hk]
  constructor
  · rintro (q | ⟨p, q1, q2⟩ | ⟨g, q1, _⟩)
    · subst q; exact hu
    · rw [hu] at q1; cases q1; exact q2
    · rw [q1.2] at hu; cases hu
  · intro q; exact .inr (.inl ⟨c, hu, q⟩)
theorem FibM.kidLt (m : FibM E n R U kid deg top h D) (e : U y = some c) : y < n := m.lt y (ahead_some (m.par y c e).2).2
theorem FibM.raise (m : FibM E n R U kid deg top h (fun _ => True)) (e : top h = some x) (ek : kid x = some k) (hl : ∀ z, z ∈ l ↔ U z = some x)
    (hR : ∀ u v, u < n -> (R' u v ↔ R u v ∨ ((R x u ∨ R k u) ∧ (R x v ∨ R k v)))) : FibM E n R' (updM U l none) (upd kid x none) (upd deg x 0) top h (fun _ => True) := by
  have hk := m.kidLt (m.kidS x k ek)
  obtain ⟨hx, _, hxa⟩ := m.topS h x e
  have hin : ∀ z, updM U l none z = if U z = some x then none else U z := fun z => by
    by_cases c : z ∈ l
    · rw [updM_in _ _ c, if_pos ((hl z).1 c)]
    · rw [updM_out _ _ c, if_neg (fun q => c ((hl z).2 q))]
  have hsome : ∀ z p, updM U l none z = some p ↔ U z = some p ∧ p ≠ x := fun z p => by
    rw [hin]
    by_cases c : U z = some x
    · rw [if_pos c, c]
      constructor
      · intro q; cases q
      · rintro ⟨q, r⟩; cases q; exact absurd rfl r
    · rw [if_neg c]
      constructor
      · intro q; exact ⟨q,by rintro rfl; exact c q⟩
      · exact fun q => q.1
  have hnone : ∀ z, updM U l none z = none ↔ U z = none ∨ U z = some x := fun z => by
    rw [hin]
    by_cases c : U z = some x
    · rw [if_pos c]; simp [c]
    · rw [if_neg c]; simp [c]
  have hroot : ∀ g z, rootOf E (updM U l none) g z ↔ rootOf E U g z ∨ (g = h ∧ U z = some x) := fun g z => by
    unfold rootOf
    rw [hnone]
    constructor
    · rintro ⟨q1, q2 | q2⟩
      · exact .inl ⟨q1, q2⟩
      · refine .inr ⟨?_, q2⟩
        have := (m.par z x q2).1
        rw [hp_some.2 q1, hp_some.2 hx.1] at this
        cases this; rfl
    · rintro (⟨q1, q2⟩ | ⟨q1, q2⟩)
      · exact ⟨q1,.inl q2⟩
      · subst q1
        refine ⟨?_,.inr q2⟩
        have := (m.par z x q2).1
        rw [<- hp_some, <- this, hp_some]; exact hx.1
  have hrx : ∀ z, R x z ↔ rootOf E U h z := fun z => by rw [m.ringTop e]; simp
  have hrk : ∀ z, R k z ↔ U z = some x := m.ringKid ek hk
  refine ⟨?_, m.lt,?_,?_,?_,?_,?_,?_⟩
  · intro y p q; exact m.par y p ((hsome y p).1 q).1
  · intro a b ha
    rw [hR a b ha, m.rel a b ha, hrx, hrx, hrk, hrk]
    constructor
    · rintro ((q | ⟨p, q1, q2⟩ | ⟨g, q1, q2, _⟩) | ⟨q1, q2⟩)
      · exact .inl q
      · by_cases c : p = x
        · subst c; exact .inr (.inr ⟨h,(hroot h a).2 (.inr ⟨rfl, q1⟩),(hroot h b).2 (.inr ⟨rfl, q2⟩),fun _ => ⟨trivial, trivial⟩⟩)
        · exact .inr (.inl ⟨p,(hsome a p).2 ⟨q1, c⟩,(hsome b p).2 ⟨q2, c⟩⟩)
      · exact .inr (.inr ⟨g,(hroot g a).2 (.inl q1),(hroot g b).2 (.inl q2),fun _ => ⟨trivial, trivial⟩⟩)
      · exact .inr (.inr ⟨h,(hroot h a).2 (q1.imp id fun q => ⟨rfl, q⟩),(hroot h b).2 (q2.imp id fun q => ⟨rfl, q⟩),fun _ => ⟨trivial, trivial⟩⟩)
    · rintro (q | ⟨p, q1, q2⟩ | ⟨g, q1, q2, _⟩)
      · exact .inl (.inl q)
      · exact .inl (.inr (.inl ⟨p,((hsome a p).1 q1).1,((hsome b p).1 q2).1⟩))
      · rcases (hroot g a).1 q1 with r1 | ⟨rfl, r1⟩
        · rcases (hroot g b).1 q2 with r2 | ⟨rfl, r2⟩
          · exact .inl (.inr (.inr ⟨g, r1, r2,fun _ => ⟨trivial, trivial⟩⟩))
          · exact .inr ⟨.inl r1,.inr r2⟩
        · rcases (hroot g b).1 q2 with r2 | ⟨_, r2⟩
          · exact .inr ⟨.inr r1,.inl r2⟩
          · exact .inr ⟨.inr r1,.inr r2⟩
  · intro p y q
    by_cases c : p = x
    · subst c; rw [upd_same] at q; cases q
    · rw [upd_other _ _ c] at q
      exact (hsome y p).2 ⟨m.kidS p y q, c⟩
  · intro p y q
    obtain ⟨q1, q2⟩ := (hsome y p).1 q
    rw [upd_other _ _ q2]; exact m.kidN p y q1
  · intro p
    by_cases c : p = x
    · subst c
      rw [upd_same, kidsN_zero]
      intro y q; exact ((hsome y p).1 q).2 rfl
    · rw [upd_other _ _ c, m.dg p]
      unfold kidsN
      refine filter_range_congr n _ _ fun z _ => ?_
      rw [Bool.eq_iff_iff]
      simp only [beq_iff_eq, hsome]
      constructor
      · exact fun q => ⟨q, c⟩
      · exact fun q => q.1
  · intro g t q
    obtain ⟨h1, h2, h3⟩ := m.topS g t q
    refine ⟨(hroot g t).2 (.inl h1),fun _ => trivial,fun y hy _ hne => ?_⟩
    rcases (hroot g y).1 hy with r | ⟨rfl, r⟩
    · exact h3 y r (fun _ => trivial) hne
    · rw [e] at q; cases q
      exact (m.par y x r).2
  · intro g q y hy
    rcases (hroot g y).1 hy with r | ⟨rfl, r⟩
    · exact m.topN g q y r
    · rw [e] at q; cases q
def Parted (n : Nat) (R R' : Nat -> Nat -> Prop) (S : List Nat) : Prop := ∀ a b, a < n -> (R' a b ↔ (a ∈ S ∧ a = b) ∨ (a ∉ S ∧ b ∉ S ∧ R a b))
theorem Parted.nil (n : Nat) (R : Nat -> Nat -> Prop) : Parted n R R [] := by intro a b _; simp
theorem Parted.more {R'' : Nat -> Nat -> Prop} {S : List Nat} {r : Nat} (p : Parted n R R' S) (h : ∀ a b, a < n -> (R'' a b ↔ (a = r ∧ b = r) ∨ (a ≠ r ∧ b ≠ r ∧ R' a b))) : Parted n R R'' (S ++ [r]) := by
  intro a b ha
  rw [h a b ha, p a b ha]
  simp only [List.mem_append, List.mem_singleton]
  by_cases c : a = r
  · subst c
    simp only [true_and, ne_eq, not_true, false_and, or_false, or_true, true_and, eq_comm]
  · by_cases d : b = r
    · subst d
      simp only [c, false_and, ne_eq, not_true, and_false, or_self, or_true, or_false, and_false, false_or]
    · simp only [c, d, false_and, ne_eq, not_false_iff, true_and, or_false, false_or]
theorem FibM.parted {S : List Nat} (m : FibM E n R U kid deg top h (fun _ => True)) (hS : ∀ z, z ∈ S ↔ rootOf E U h z) (p : Parted n R R' S) : FibM E n R' U kid deg (upd top h none) h (fun _ => False) := by
  refine ⟨m.par, m.lt,?_, m.kidS, m.kidN, m.dg,?_,?_⟩
  · intro a b ha
    rw [p a b ha, m.rel a b ha, hS, hS]
    constructor
    · rintro (⟨_, q⟩ | ⟨q1, q2, q | q | ⟨g, r1, r2, _⟩⟩)
      · exact .inl q
      · exact .inl q
      · exact .inr (.inl q)
      · exact .inr (.inr ⟨g, r1, r2,fun c => by subst c; exact absurd r1 q1⟩)
    · rintro (q | ⟨v, q1, q2⟩ | ⟨g, r1, r2, r3⟩)
      · subst q
        by_cases c : rootOf E U h a
        · exact .inl ⟨c,rfl⟩
        · exact .inr ⟨c, c,.inl rfl⟩
      · refine .inr ⟨?_,?_,.inr (.inl ⟨v, q1, q2⟩)⟩
        · intro c; rw [c.2] at q1; cases q1
        · intro c; rw [c.2] at q2; cases q2
      · have c : g ≠ h := fun c => (r3 c).1
        exact .inr ⟨fun q => c (root_one r1 q),fun q => c (root_one r2 q),.inr (.inr ⟨g, r1, r2,fun _ => ⟨trivial, trivial⟩⟩)⟩
  · intro g t q
    by_cases c : g = h
    · subst c; rw [upd_same] at q; cases q
    · rw [upd_other _ _ c] at q
      obtain ⟨h1, h2, h3⟩ := m.topS g t q
      exact ⟨h1,fun d => c d,fun y hy _ hne => h3 y hy (fun _ => trivial) hne⟩
  · intro g q y hy
    by_cases c : g = h
    · exact ⟨c,fun q => q⟩
    · rw [upd_other _ _ c] at q
      exact absurd trivial (m.topN g q y hy).2
theorem FibM.under (m : FibM E n R U kid deg top h (fun _ => False)) (hc : rootOf E U h c) (hd : rootOf E U h d) (ha : ahead E c d = true)
    (hR : ∀ u v, u < n -> (R' u v ↔ R u v ∨ ((U u = some c ∨ u = d) ∧ (U v = some c ∨ v = d)))) : FibM E n R' (upd U d (some c)) (upd kid c (some d)) (upd deg c (deg c + 1)) top h (fun _ => False) := by
  have hne : c ≠ d := ahead_ne ha
  have hroot : ∀ g z, rootOf E (upd U d (some c)) g z ↔ rootOf E U g z ∧ z ≠ d := fun g z => by
    unfold rootOf
    by_cases e : z = d
    · subst e; rw [upd_same]
      constructor
      · rintro ⟨_, q⟩; cases q
      · rintro ⟨_, q⟩; exact absurd rfl q
    · rw [upd_other _ _ e]; simp [e]
  have hud : ∀ z p, U z = some p -> z ≠ d := fun z p q => by rintro rfl; rw [hd.2] at q; cases q
  refine ⟨m.par.attach (by rw [hp_some.2 hc.1, hp_some.2 hd.1]) ha, m.lt,?_,?_,?_,?_,?_,?_⟩
  · intro a b han
    rw [hR a b han, m.rel a b han]
    constructor
    · rintro ((q | ⟨p, q1, q2⟩ | ⟨g, q1, q2, q3⟩) | ⟨q1, q2⟩)
      · exact .inl q
      · exact .inr (.inl ⟨p,by rw [upd_other _ _ (hud a p q1)]; exact q1,by rw [upd_other _ _ (hud b p q2)]; exact q2⟩)
      · have e : g ≠ h := fun e => (q3 e).1
        exact .inr (.inr ⟨g,(hroot g a).2 ⟨q1,by rintro rfl; exact e (root_one q1 hd)⟩,(hroot g b).2 ⟨q2,by rintro rfl; exact e (root_one q2 hd)⟩, q3⟩)
      · have key : ∀ z,(U z = some c ∨ z = d) -> upd U d (some c) z = some c := fun z q => by
          by_cases e : z = d
          · subst e; exact upd_same _ _ _
          · rw [upd_other _ _ e]; exact q.resolve_right e
        exact .inr (.inl ⟨c, key a q1, key b q2⟩)
    · rintro (q | ⟨p, q1, q2⟩ | ⟨g, q1, q2, q3⟩)
      · exact .inl (.inl q)
      · by_cases e : a = d
        · subst e; rw [upd_same] at q1; cases q1
          refine .inr ⟨.inr rfl,?_⟩
          by_cases f : b = a
          · exact .inr f
          · rw [upd_other _ _ f] at q2; exact .inl q2
        · rw [upd_other _ _ e] at q1
          by_cases f : b = d
          · subst f; rw [upd_same] at q2; cases q2
            exact .inr ⟨.inl q1,.inr rfl⟩
          · rw [upd_other _ _ f] at q2
            exact .inl (.inr (.inl ⟨p, q1, q2⟩))
      · exact .inl (.inr (.inr ⟨g,((hroot g a).1 q1).1,((hroot g b).1 q2).1, q3⟩))
  · intro p y q
    by_cases e : p = c
    · subst e; rw [upd_same] at q; cases q; exact upd_same _ _ _
    · rw [upd_other _ _ e] at q
      have := m.kidS p y q
      rw [upd_other _ _ (hud y p this)]; exact this
  · intro p y q
    by_cases e : p = c
    · subst e; rw [upd_same]; rfl
    · rw [upd_other _ _ e]
      by_cases f : y = d
      · subst f; rw [upd_same] at q; cases q; exact absurd rfl e
      · rw [upd_other _ _ f] at q; exact m.kidN p y q
  · intro p
    by_cases e : p = c
    · subst e
      rw [upd_same, m.dg]
      unfold kidsN
      refine (filter_range_one n d (hd.lt m) _ _ ?_ ?_ ?_).symm
      · rw [hd.2]; rfl
      · rw [upd_same]; simp
      · intro z hz; rw [upd_other _ _ hz]
    · rw [upd_other _ _ e, m.dg]
      unfold kidsN
      refine filter_range_congr n _ _ fun z _ => ?_
      by_cases f : z = d
      · subst f; rw [upd_same, hd.2]
        symm
        simpa using fun q => e q.symm
      · rw [upd_other _ _ f]
  · intro g t q
    obtain ⟨h1, h2, h3⟩ := m.topS g t q
    refine ⟨(hroot g t).2 ⟨h1,?_⟩, h2,fun y hy hf hne => h3 y ((hroot g y).1 hy).1 hf hne⟩
    rintro rfl
    exact h2 (root_one h1 hd)
  · intro g q y hy
    exact m.topN g q y ((hroot g y).1 hy).1
end
end Go.Proofs.YtkdbjelhkfdfjaaGreatDoor


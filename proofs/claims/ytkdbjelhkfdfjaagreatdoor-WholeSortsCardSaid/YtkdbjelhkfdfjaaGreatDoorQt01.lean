/-
  Contracts that the law rests on. Conditions: none.
-/
import Derived.Test.YtkdbjelhkfdfjaaGreatDoorQs23
import Derived.Test.YtkdbjelhkfdfjaaGreatDoorQs27
import Derived.Test.YtkdbjelhkfdfjaaGreatDoorQs29
import Derived.Test.YtkdbjelhkfdfjaaGreatDoorQs32
import Derived.Test.YtkdbjelhkfdfjaaGreatDoorQt04
import Derived.Laws.ResultCell
set_option linter.unusedVariables false
set_option maxRecDepth 100000
set_option maxHeartbeats 16000000
namespace Go.Proofs.YtkdbjelhkfdfjaaGreatDoor
open Go.RowKit
theorem Tryz.infoInts : (Tryz.prog.info? 28).map (fun i => (i.zero, i.size, i.bytes)) = some (some (.slice none 0 0), 1,24) := by kernel_rfl
section
variable (w : World) (F : List Nat) (p cap hs : Nat) (E : Ent)
def BinMade (e : Ending) (w' : World) : Prop := ∃ F', e = .returned (.int .i64 ((hs + 1 : Nat) : Int)) ∧ BinAt w' F' p cap (hs + 1) E ∧ Moved F w F' w'
theorem bin_make (c : BinAt w F p cap hs E) (hh : hs < 65536) : Calls Tryz.prog 344 #[.pointer (some ⟨p,0,none⟩)] w (BinMade w F p cap hs E) := by
  obtain ⟨pc, pf, gf, gr, rc, Fc, T, U, R,rfl, m, o⟩ := c
  have hlt := m.lt
  have hmk := cells_make w Fc pc cap hs E m.ce hh
  have d0 := m.c0
  obtain ⟨n1, n2, n3, n4, n5, n6⟩ := m.ne
  have lp := hlt p (binF_mem.2 (.inl rfl))
  have lg := hlt gr (binF_mem.2 (.inr (.inl rfl)))
  have hnil : (R (hs + 1)).l = [] := by
    cases e : (R (hs + 1)).l with
    | nil => rfl
    | cons x t =>
      obtain ⟨kk, hk⟩ := ((o.mem (hs + 1) x).1 (by simp [e])).1
      have := m.ce.ok.heap x _ _ hk
      omega
  have hrl : (fun g => (upd R (hs + 1) BRow.nil g).l) = fun g => (R g).l := by
    funext g
    by_cases c : g = hs + 1
    · subst c; rw [upd_same, hnil]; rfl
    · rw [upd_other _ _ c]
  have hbr : bRows R (hs + 1) ++ [BRow.nil.v] = bRows (upd R (hs + 1) BRow.nil) (hs + 1 + 1) := by
    rw [bRows_snoc (upd R (hs + 1) BRow.nil) (hs + 1), upd_same]
    congr 1
    unfold bRows
    refine List.map_congr_left fun i hi => ?_
    rw [List.mem_range] at hi
    rw [upd_other _ _ (by omega)]
  have hown : ∀ g x,(upd R (hs + 1) BRow.nil g).v.ownBlock = some x -> g <= hs + 1 -> g <= hs ∧ (R g).v.ownBlock = some x := fun g x e hg => by
    by_cases c : g = hs + 1
    · subst c; rw [upd_same] at e; cases e
    · rw [upd_other _ _ c] at e; exact ⟨by omega, e⟩
  have hfin : ∀ (w1 w4 : World) (Fc' : List Nat) (g' c' : Nat), CellsAt w1 Fc' pc cap (hs + 1) E -> Moved Fc w Fc' w1 -> w4.ownsRow 0 28 1 (.slice (some ⟨g',0,none⟩) (hs + 1 + 1) c') (hs + 1 + 1) (bRows R (hs + 1) ++ [BRow.nil.v]) -> Keeps [gr] w1 w4 -> (g' = gr ∨ w1.heap.size <= g') ->
      w4.frozen? ⟨p,2,none⟩ = false ∧ w4.cell? ⟨p,2,none⟩ = some (.slice (some ⟨gr,0,none⟩) (hs + 1) rc) ∧ BinMade w (binF p gr Fc (treeF pf gf cap T) hs R) p cap hs E (.returned (.int .i64 ((hs + 1 : Nat) : Int))) (w4.setCell ⟨p,2,none⟩ (.slice (some ⟨g',0,none⟩) (hs + 1 + 1) c')) := by
    intro w1 w4 Fc' g' c' hc1 hm1 hr4 k4 hg4
    have s1 := hm1.keeps.size
    have s4 := k4.size
    have hcl := hc1.lt
    have hnew : ∀ b, b ∉ Fc -> b < w.heap.size -> b ∉ Fc' := fun b a c e => by
      rcases hm1.from' b e with f | f
      · exact a f
      · omega
    have b4 := k4.blk (hm1.keeps.blk m.blk n2) (by simpa using n1)
    have k5 : Keeps [p] w4 (w4.setCell ⟨p,2,none⟩ (.slice (some ⟨g',0,none⟩) (hs + 1 + 1) c')) := (Keeps.refl _ _).setCell (.inl (by simp)) _
    have k15 : Keeps [p, gr] w1 (w4.setCell ⟨p,2,none⟩ (.slice (some ⟨g',0,none⟩) (hs + 1 + 1) c')) := (k4.mono (T := [p, gr]) (by simp)).trans k5 (by simp)
    have kall : Keeps (p :: gr :: Fc) w (w4.setCell ⟨p,2,none⟩ (.slice (some ⟨g',0,none⟩) (hs + 1 + 1) c')) := (hm1.keeps.mono (T := p :: gr :: Fc) fun b hb => .inl (by simp [hb])).trans k15 fun b hb => .inl (by simp at hb; rcases hb with c | c <;> simp [c])
    have hg' : ∀ b, b < w.heap.size -> b ≠ gr -> b ≠ g' := fun b h1 h2 => by rcases hg4 with e | e <;> omega
    have hgF : g' ∉ Fc' := by
      rcases hg4 with e | e
      · rw [e]; exact hnew gr n3 lg
      · exact fun f => by have := hcl _ f; omega
    have hgT : g' ∉ treeF pf gf cap T := by
      rcases hg4 with e | e
      · rw [e]; exact n5
      · intro f; have := m.fo.lt _ f; omega
    have hQ : BinQ (w4.setCell ⟨p,2,none⟩ (.slice (some ⟨g',0,none⟩) (hs + 1 + 1) c')) p pc pf gf g' c' Fc' cap (hs + 1) E T U (upd R (hs + 1) BRow.nil) := by
      refine ⟨?_, hc1.keep k15 ?_, m.fo.keep kall ?_,?_,fun g hg => ?_,⟨hg' p lp n1, hnew p n2 lp, hgF, n4, hgT,fun b hb => ?_⟩,fun g x hg e => ?_,fun g g2 x h1 h2 hne e1 e2 => ?_⟩
      · rw [blk_setCell _ b4]; simp
      · intro b hb e
        simp only [List.mem_cons, List.not_mem_nil, or_false] at e
        rcases e with rfl | rfl
        · exact hnew b n2 lp hb
        · exact hnew b n3 lg hb
      · intro b hb e
        simp only [List.mem_cons] at e
        rcases e with rfl | rfl | e
        · exact n4 hb
        · exact n5 hb
        · exact n6 b e hb
      · rw [<- hbr]; exact k5.row hr4 (by simpa using fun e : g' = p => hg' p lp n1 e.symm)
      · by_cases c : g = hs + 1
        · subst c; rw [upd_same]; exact Rg.IR.nil _ _
        · rw [upd_other _ _ c]
          refine ir_keep' (m.mem g (by omega)) kall (fun b e f => ?_)
          obtain ⟨a1, a2, a3, a4⟩ := m.own g b (by omega) e
          simp only [List.mem_cons] at f
          rcases f with f | f | f
          · exact a1 f
          · exact a2 f
          · exact a3 f
      · rcases hm1.from' b hb with c | c
        · exact n6 b c
        · intro f; have := m.fo.lt b f; omega
      · obtain ⟨h1, h2⟩ := hown g x e hg
        obtain ⟨a1, a2, a3, a4⟩ := m.own g x h1 h2
        have lx := hlt x (binF_mem.2 (.inr (.inr (.inr (.inr ⟨g, h1, h2⟩)))))
        exact ⟨a1, hg' x lx a2, hnew x a3 lx, a4⟩
      · obtain ⟨h3, h4⟩ := hown g x e1 h1
        obtain ⟨h5, h6⟩ := hown g2 x e2 h2
        exact m.dis g g2 x h3 h5 hne h4 h6
    refine ⟨frozen_of_blk b4,by rw [cell_of_blk b4]; rfl, _,rfl,⟨pc, pf, gf, g', c', Fc', T, U, _,rfl, hQ,by rw [hrl]; exact o⟩, kall.mono ?_,?_, hQ.lt⟩
    · intro b hb
      simp only [List.mem_cons] at hb
      rcases hb with c | c | c
      · exact .inl (binF_mem.2 (.inl c))
      · exact .inl (binF_mem.2 (.inr (.inl c)))
      · exact .inl (binF_mem.2 (.inr (.inr (.inl c))))
    · intro b hb
      rcases binF_mem.1 hb with c | c | c | c | ⟨g, hg, c⟩
      · exact .inl (binF_mem.2 (.inl c))
      · rcases hg4 with e | e
        · exact .inl (binF_mem.2 (.inr (.inl (c.trans e))))
        · exact .inr (by omega)
      · rcases hm1.from' b c with d | d
        · exact .inl (binF_mem.2 (.inr (.inr (.inl d))))
        · exact .inr d
      · exact .inl (binF_mem.2 (.inr (.inr (.inr (.inl c)))))
      · obtain ⟨h3, h4⟩ := hown g b c hg
        exact .inl (binF_mem.2 (.inr (.inr (.inr (.inr ⟨g, h3, h4⟩)))))
  have hstep : ∀ (w1 : World) (Fc' : List Nat), Moved Fc w Fc' w1 -> w1.cell? ⟨p,2,none⟩ = some (.slice (some ⟨gr,0,none⟩) (hs + 1) rc) ∧ w1.ownsRow 0 28 1 (.slice (some ⟨gr,0,none⟩) (hs + 1) rc) (hs + 1) (bRows R (hs + 1)) := fun w1 Fc' h1 =>
    ⟨by rw [cell_of_blk (h1.keeps.blk m.blk n2)]; rfl, h1.keeps.row m.rows n3⟩
  have hh3 : (0 : Int) < ((hs + 1 : Nat) : Int) := by omega
  have HF := Lib.hid hfin
  have HS := Lib.hid hstep
  clear hfin hstep m o hlt hnil hrl hbr hown n1 n2 n3 n4 n5 n6 lp lg
  go_enter Tryz.func344, Tryz.ntmps344
  go_upto_region 3 with (go_at_call 318; refine hmk.mono ?_; rintro e w1 ⟨Fc',rfl, hc1, hm1⟩)
  obtain ⟨q1, q2⟩ := HS.out w1 Fc' hm1
  go_wp2_with (first
    | (at_builtin; refine wpList_push _ 28 (.slice none 0 0) (0,0) rfl (.tmp 15) (.tmp 16) 110 rfl (.slice none 0 0) 24 Tryz.underlying110 Tryz.infoInts rfl rfl _ (hs + 1) (bRows R (hs + 1)) (by simp [Act.eval]) q2 (by simp [Act.eval]) (by unfold maxLen; omega) (by omega) ?_; intro g' cap' w4 hr4 hk4 hf4; obtain ⟨f5, c5, hD5⟩ := HF.out w1 w4 Fc' g' cap' hc1 hm1 hr4 (by simpa [Value.ownBlock] using hk4) (by simpa [Value.ownBlock, eq_comm] using hf4); clear hr4 hk4 hf4))
  go_ret
  exact hD5
def BinNew (w : World) (n : Nat) (e : Ending) (w' : World) : Prop :=
  ∃ (F : List Nat) (p : Nat), e = .returned (.tuple #[.pointer (some ⟨p,0,none⟩),.int .i64 0]) ∧ BinAt w' F p n 0 (fun _ => none) ∧ Keeps [] w w' ∧ ∀ b ∈ F, w.heap.size <= b
theorem bin_new (w : World) (n : Nat) (hn : n <= 65536) : Calls Tryz.prog 60 #[.int .i64 n] w (BinNew w n) := by
  have hs := fun u => fo_new u n hn
  have hfin : ∀ (w1 w2 : World) (Fc : List Nat) (pc pf gf : Nat), CellsAt w1 Fc pc n 0 (fun _ => none) -> Keeps [] w w1 -> (∀ b ∈ Fc, w.heap.size <= b) -> ForestAt w2 pf gf n (fun _ => ⟨none, 0, []⟩) (fun _ => none) -> Keeps [] w1 w2 -> w1.heap.size <= pf -> w1.heap.size <= gf ->
      BinNew w n (.returned (.tuple #[.pointer (some ⟨w2.heap.size + 1,0,none⟩),.int .i64 0])) ((w2.alloc (.cells #[.slice none 0 0] 28 (0,0))).alloc (.cells #[.pointer (some ⟨pc,0,none⟩),.pointer (some ⟨pf,0,none⟩),.slice (some ⟨w2.heap.size,0,none⟩) 1 1] 213 (0,0))) := by
    intro w1 w2 Fc pc pf gf hc1 hk1 hF1 hf2 hk2 hp2 hg2
    have hl1 := hc1.lt
    have hl2 := hf2.lt
    have k1 := hk1.size
    have k2 := hk2.size
    have kA : Keeps [] w2 (w2.alloc (.cells #[.slice none 0 0] 28 (0,0))) := (Keeps.refl _ _).alloc _
    have kB : Keeps [] (w2.alloc (.cells #[.slice none 0 0] 28 (0,0))) ((w2.alloc (.cells #[.slice none 0 0] 28 (0,0))).alloc (.cells #[.pointer (some ⟨pc,0,none⟩),.pointer (some ⟨pf,0,none⟩),.slice (some ⟨w2.heap.size,0,none⟩) 1 1] 213 (0,0))) := (Keeps.refl _ _).alloc _
    have kk := kA.trans kB (by simp)
    have hb0 : (w2.alloc (.cells #[.slice none 0 0] 28 (0,0))).heap[w2.heap.size]? = some (.cells #[.slice none 0 0] 28 (0,0)) := blk_alloc_new _
    have hb1 := kB.blk hb0 (by simp)
    have htl : ∀ b ∈ treeF pf gf n (fun _ => (⟨none, 0, []⟩ : TwigR)), b = pf ∨ b = gf := fun b hb => by
      rcases treeF_mem.1 hb with c | c | ⟨z, hz, q, e, _⟩
      · exact .inl c
      · exact .inr c
      · cases e
    have lpf : pf < w2.heap.size := hl2 pf (treeF_mem.2 (.inl rfl))
    have lgf : gf < w2.heap.size := hl2 gf (treeF_mem.2 (.inr (.inl rfl)))
    have hQ : BinQ ((w2.alloc (.cells #[.slice none 0 0] 28 (0,0))).alloc (.cells #[.pointer (some ⟨pc,0,none⟩),.pointer (some ⟨pf,0,none⟩),.slice (some ⟨w2.heap.size,0,none⟩) 1 1] 213 (0,0))) (w2.heap.size + 1) pc pf gf w2.heap.size 1 Fc n 0 (fun _ => none) (fun _ => ⟨none, 0, []⟩) (fun _ => none) (fun _ => BRow.nil) := by
      refine ⟨?_,(hc1.keep hk2 (by simp)).keep kk (by simp), hf2.keep kk (by simp),?_,fun g hg => Rg.IR.nil _ _,⟨by omega,fun e => by have := hl1 _ e; omega,fun e => by have := hl1 _ e; omega,fun e => by rcases htl _ e with c | c <;> omega,fun e => by rcases htl _ e with c | c <;> omega,fun b hb e => by have := hl1 b hb; rcases htl _ e with c | c <;> omega⟩,fun g x hg e => (by cases e),fun g g' x h1 h2 hne e1 e2 => (by cases e1)⟩
      · have := blk_alloc_new (w := w2.alloc (.cells #[.slice none 0 0] 28 (0,0))) (.cells #[.pointer (some ⟨pc,0,none⟩),.pointer (some ⟨pf,0,none⟩),.slice (some ⟨w2.heap.size,0,none⟩) 1 1] 213 (0,0))
        simpa using this
      · exact ⟨by simp [bRows],.inr ⟨w2.heap.size, 1, #[.slice none 0 0],rfl, Nat.zero_le _, hb1,by simp,by decide,by simp,by simp [bRows, BRow.nil, BRow.v]⟩⟩
    refine ⟨_, _,rfl,⟨pc, pf, gf, w2.heap.size, 1, Fc, _, _, _,rfl, hQ, BinO.init⟩,(hk1.trans hk2 (by simp)).trans kk (by simp),fun b hb => ?_⟩
    rcases binF_mem.1 hb with c | c | c | c | ⟨g, hg, c⟩
    · omega
    · omega
    · exact hF1 b c
    · rcases htl b c with d | d <;> omega
    · cases c
  have HF := Lib.hid hfin
  clear hfin
  go_enter Tryz.func60, Tryz.ntmps60
  go_wp2_with (first
    | (go_at_call 87; refine (cells_new w n hn).mono ?_; rintro e w1 ⟨Fc, pc,rfl, hc1, hk1, hF1⟩)
    | (go_at_call 89; refine (hs w1).mono ?_; rintro e w2 ⟨pf, gf,rfl, hf2, hk2, hp2, hg2⟩))
  go_ret2
  exact HF.out _ _ _ _ _ _ hc1 hk1 hF1 hf2 hk2 hp2 hg2
end
theorem run_enter {P : Program} {f : FuncId} (h : (P.funcs[f]?).map (fun fn => (fn.name == "runtime.NumGoroutine", fn.body.isNone)) = some (false, false)) (args : Array Value) (w : World) : (callFunc f args).run P w = .ok (.enter f args) w := by
  obtain ⟨fn, hf, e⟩ := Option.map_eq_some_iff.1 h
  simp only [Prod.mk.injEq] at e
  have h1 : ¬ fn.name = "runtime.NumGoroutine" := by simpa using e.1
  have h2 : ¬ fn.body = none := by
    intro c
    rw [c] at e
    exact absurd e.2 (by simp)
  simp [callFunc, hf, h1, h2]
def nTy : Nat -> TypeId
  | 3 => 152
  | 4 => 156
  | 5 => 160
  | 6 => 164
  | 7 => 168
  | 8 => 172
  | _ => 148
def nAt (k : Nat) (w : World) (F : List Nat) (p cap hs : Nat) (E : Ent) : Prop :=
  match k with
  | 3 => BinAt w F p cap hs E
  | 4 => PairAt w F p cap hs E
  | 5 => FibAt w F p cap hs E
  | 6 => LeftAt w F p cap hs E
  | 7 => SkewAt w F p cap hs E
  | 8 => ShedAt w F p cap hs E
  | _ => DaryAt w F p cap hs E
section
variable {k : Nat} {w w' : World} {F S : List Nat} {p cap hs : Nat} {E E' : Ent}
theorem nAt.lt (c : nAt k w F p cap hs E) : ∀ b ∈ F, b < w.heap.size := by
  unfold nAt at c
  split at c
  · exact BinAt.lt c
  · exact PairAt.lt c
  · exact FibAt.lt c
  · exact LeftAt.lt c
  · exact SkewAt.lt c
  · exact ShedAt.lt c
  · exact DaryAt.lt c
theorem nAt.mem (c : nAt k w F p cap hs E) : p ∈ F := by
  unfold nAt at c
  split at c
  · exact BinAt.mem c
  · exact PairAt.mem c
  · exact FibAt.mem c
  · exact LeftAt.mem c
  · exact SkewAt.mem c
  · exact ShedAt.mem c
  · exact DaryAt.mem c
theorem nAt.ok (c : nAt k w F p cap hs E) : EntOk E cap hs := by
  unfold nAt at c
  split at c
  · exact BinAt.ok c
  · exact PairAt.ok c
  · exact FibAt.ok c
  · exact LeftAt.ok c
  · exact SkewAt.ok c
  · exact ShedAt.ok c
  · exact DaryAt.ok c
theorem nAt.keep (c : nAt k w F p cap hs E) (h : Keeps S w w') (hS : ∀ b ∈ F, b ∉ S) : nAt k w' F p cap hs E := by
  unfold nAt at c ⊢
  split at c
  · exact BinAt.keep c h hS
  · exact PairAt.keep c h hS
  · exact FibAt.keep c h hS
  · exact LeftAt.keep c h hS
  · exact SkewAt.keep c h hS
  · exact ShedAt.keep c h hS
  · exact DaryAt.keep c h hS
theorem nAt.cells (c : nAt k w F p cap hs E) : ∃ pc Fc, w.cell? ⟨p,0,none⟩ = some (.pointer (some ⟨pc,0,none⟩)) ∧ CellsAt w Fc pc cap hs E ∧ ∀ b ∈ Fc, b ∈ F := by
  unfold nAt at c
  split at c
  · obtain ⟨pc, pf, gf, gr, rc, Fc, T, U, R,rfl, m, o⟩ := c
    exact ⟨pc, Fc, m.c0, m.ce,fun b hb => binF_mem.2 (.inr (.inr (.inl hb)))⟩
  · obtain ⟨pc, gt, gT, cT, Fc, K, kid, next, back, U, top,rfl, m, tr, ng, t⟩ := c
    exact ⟨pc, Fc, m.c0, m.ce,fun b hb => by simp [hb]⟩
  · obtain ⟨pc, pr, gn, gp, gt, gT, cT, Fc, wl, U, kid, deg, mk, top,rfl, q, o⟩ := c
    exact ⟨pc, Fc, q.c0, q.ce,fun b hb => by simp [hb]⟩
  · obtain ⟨pc, pt, gt, gr, gT, cT, Fc, L, R, U, top,rfl, m, tr, ng, t⟩ := c
    exact ⟨pc, Fc, m.c0, m.ce,fun b hb => by simp [hb]⟩
  · obtain ⟨pc, pt, gt, mb, Fc, L, R, U, top,rfl, m, im, t⟩ := c
    exact ⟨pc, Fc, m.c0, m.ce,fun b hb => by simp [hb]⟩
  · obtain ⟨pc, gr, rc, ga, Fc, R, f,rfl, m⟩ := c
    exact ⟨pc, Fc, m.c0, m.ce,fun b hb => nestF_mem.2 (.inr (.inr (.inl (by simp [hb]))))⟩
  · obtain ⟨pc, gr, rc, d, Fc, R,rfl, m⟩ := c
    exact ⟨pc, Fc, m.c0, m.ce,fun b hb => nestF_mem.2 (.inr (.inr (.inl hb)))⟩
end
theorem n_has_m (k : Nat) (w : World) (p pc : Nat) (hc : w.cell? ⟨p,0,none⟩ = some (.pointer (some ⟨pc,0,none⟩))) :
    (method 588 (nTy k) (.pointer (some ⟨p,0,none⟩)) "Has").run Tryz.prog w = .ok (301,.pointer (some ⟨pc,0,none⟩)) w := by
  unfold nTy
  split
  · exact run_method_embedded w 587 152 213 258 200 "Has" p _ _ (by kernel_rfl) (by kernel_rfl) Tryz.underlying200 (by kernel_rfl) hc
  · exact run_method_embedded w 587 156 216 258 200 "Has" p _ _ (by kernel_rfl) (by kernel_rfl) Tryz.underlying200 (by kernel_rfl) hc
  · exact run_method_embedded w 587 160 224 258 200 "Has" p _ _ (by kernel_rfl) (by kernel_rfl) Tryz.underlying200 (by kernel_rfl) hc
  · exact run_method_embedded w 587 164 232 258 200 "Has" p _ _ (by kernel_rfl) (by kernel_rfl) Tryz.underlying200 (by kernel_rfl) hc
  · exact run_method_embedded w 587 168 235 258 200 "Has" p _ _ (by kernel_rfl) (by kernel_rfl) Tryz.underlying200 (by kernel_rfl) hc
  · exact run_method_embedded w 587 172 238 258 200 "Has" p _ _ (by kernel_rfl) (by kernel_rfl) Tryz.underlying200 (by kernel_rfl) hc
  · exact run_method_embedded w 587 148 208 258 200 "Has" p _ _ (by kernel_rfl) (by kernel_rfl) Tryz.underlying200 (by kernel_rfl) hc
theorem n_len_m (k : Nat) (w : World) (p pc : Nat) (hc : w.cell? ⟨p,0,none⟩ = some (.pointer (some ⟨pc,0,none⟩))) :
    (method 588 (nTy k) (.pointer (some ⟨p,0,none⟩)) "Len").run Tryz.prog w = .ok (304,.pointer (some ⟨pc,0,none⟩)) w := by
  unfold nTy
  split
  · exact run_method_embedded w 587 152 213 258 200 "Len" p _ _ (by kernel_rfl) (by kernel_rfl) Tryz.underlying200 (by kernel_rfl) hc
  · exact run_method_embedded w 587 156 216 258 200 "Len" p _ _ (by kernel_rfl) (by kernel_rfl) Tryz.underlying200 (by kernel_rfl) hc
  · exact run_method_embedded w 587 160 224 258 200 "Len" p _ _ (by kernel_rfl) (by kernel_rfl) Tryz.underlying200 (by kernel_rfl) hc
  · exact run_method_embedded w 587 164 232 258 200 "Len" p _ _ (by kernel_rfl) (by kernel_rfl) Tryz.underlying200 (by kernel_rfl) hc
  · exact run_method_embedded w 587 168 235 258 200 "Len" p _ _ (by kernel_rfl) (by kernel_rfl) Tryz.underlying200 (by kernel_rfl) hc
  · exact run_method_embedded w 587 172 238 258 200 "Len" p _ _ (by kernel_rfl) (by kernel_rfl) Tryz.underlying200 (by kernel_rfl) hc
  · exact run_method_embedded w 587 148 208 258 200 "Len" p _ _ (by kernel_rfl) (by kernel_rfl) Tryz.underlying200 (by kernel_rfl) hc
theorem n_entry_m (k : Nat) (w : World) (p pc : Nat) (hc : w.cell? ⟨p,0,none⟩ = some (.pointer (some ⟨pc,0,none⟩))) :
    (method 588 (nTy k) (.pointer (some ⟨p,0,none⟩)) "Entry").run Tryz.prog w = .ok (299,.pointer (some ⟨pc,0,none⟩)) w := by
  unfold nTy
  split
  · exact run_method_embedded w 587 152 213 258 200 "Entry" p _ _ (by kernel_rfl) (by kernel_rfl) Tryz.underlying200 (by kernel_rfl) hc
  · exact run_method_embedded w 587 156 216 258 200 "Entry" p _ _ (by kernel_rfl) (by kernel_rfl) Tryz.underlying200 (by kernel_rfl) hc
  · exact run_method_embedded w 587 160 224 258 200 "Entry" p _ _ (by kernel_rfl) (by kernel_rfl) Tryz.underlying200 (by kernel_rfl) hc
  · exact run_method_embedded w 587 164 232 258 200 "Entry" p _ _ (by kernel_rfl) (by kernel_rfl) Tryz.underlying200 (by kernel_rfl) hc
  · exact run_method_embedded w 587 168 235 258 200 "Entry" p _ _ (by kernel_rfl) (by kernel_rfl) Tryz.underlying200 (by kernel_rfl) hc
  · exact run_method_embedded w 587 172 238 258 200 "Entry" p _ _ (by kernel_rfl) (by kernel_rfl) Tryz.underlying200 (by kernel_rfl) hc
  · exact run_method_embedded w 587 148 208 258 200 "Entry" p _ _ (by kernel_rfl) (by kernel_rfl) Tryz.underlying200 (by kernel_rfl) hc
section
variable (k : Nat) (w : World) (F : List Nat) (p cap hs : Nat) (E : Ent)
def nAft (hs' : Nat) (E' : Ent) (w' : World) : Prop := ∃ F', nAt k w' F' p cap hs' E' ∧ Moved F w F' w'
theorem n_insert (c : nAt k w F p cap hs E) (h x q : Nat) (key : Int) (h1 : 1 <= h) (h2 : h <= hs) (hx : x < cap) (he : E x = none) (hk : (Lit.int .i64 key).wf = true) (hq : (Lit.int .u64 (q : Int)).wf = true) :
    ∃ fn,(∀ u,(method 588 (nTy k) (.pointer (some ⟨p,0,none⟩)) "Insert").run Tryz.prog u = .ok (fn,.pointer (some ⟨p,0,none⟩)) u) ∧ (∀ args u,(callFunc fn args).run Tryz.prog u = .ok (.enter fn args) u) ∧
      Calls Tryz.prog fn #[.pointer (some ⟨p,0,none⟩),.int .i64 h,.int .i64 x,.agg #[.int .i64 key,.int .u64 (q : Int)]] w fun e w' => e = .returned (.bool true) ∧ nAft k w F p cap hs (put E x (some (h, key, q))) w' := by
  have hlt := c.lt
  unfold nAft nAt at *
  unfold nTy
  split at c
  · refine ⟨343,fun u => by kernel_rfl,fun args u => run_enter (by kernel_rfl) args u,(bin_insert w F p cap hs E c h x q key h1 h2 hx he hk hq).mono ?_⟩
    rintro e w' ⟨rfl, F', a, b⟩
    exact ⟨rfl, F', a, b⟩
  · refine ⟨373,fun u => by kernel_rfl,fun args u => run_enter (by kernel_rfl) args u,(pair_insert w F p cap hs E c h x q key h1 h2 hx he hk hq).mono ?_⟩
    rintro e w' ⟨rfl, a, b⟩
    exact ⟨rfl, F, a, b,fun b' hb => .inl hb, a.lt⟩
  · refine ⟨384,fun u => by kernel_rfl,fun args u => run_enter (by kernel_rfl) args u,(fib_insert w F p cap hs E c h x q key h1 h2 hx he hk hq).mono ?_⟩
    rintro e w' ⟨rfl, a, b⟩
    exact ⟨rfl, F, a, b,fun b' hb => .inl hb, a.lt⟩
  · refine ⟨403,fun u => by kernel_rfl,fun args u => run_enter (by kernel_rfl) args u,(left_insert w F p cap hs E c h x q key h1 h2 hx he hk hq).mono ?_⟩
    rintro e w' ⟨rfl, a, b⟩
    exact ⟨rfl, F, a, b,fun b' hb => .inl hb, a.lt⟩
  · refine ⟨426,fun u => by kernel_rfl,fun args u => run_enter (by kernel_rfl) args u,(skew_insert w F p cap hs E c h x q key h1 h2 hx he hk hq).mono ?_⟩
    rintro e w' ⟨rfl, a, b⟩
    exact ⟨rfl, F, a, b,fun b' hb => .inl hb, a.lt⟩
  · refine ⟨436,fun u => by kernel_rfl,fun args u => run_enter (by kernel_rfl) args u,(shed_insert w F p cap hs E c h x q key h1 h2 hx he hk hq).mono ?_⟩
    rintro e w' ⟨rfl, F', a, b⟩
    exact ⟨rfl, F', a, b⟩
  · refine ⟨303,fun u => by kernel_rfl,fun args u => run_enter (by kernel_rfl) args u,(dary_insert w F p cap hs E c h x q key h1 h2 hx he hk hq).mono ?_⟩
    rintro e w' ⟨rfl, F', a, b⟩
    exact ⟨rfl, F', a, b⟩
theorem n_extract (c : nAt k w F p cap hs E) (h : Nat) (h1 : 1 <= h) (h2 : h <= hs) (hi : ∃ y, isIn E h y) :
    ∃ fn,(∀ u,(method 588 (nTy k) (.pointer (some ⟨p,0,none⟩)) "Extract").run Tryz.prog u = .ok (fn,.pointer (some ⟨p,0,none⟩)) u) ∧ (∀ args u,(callFunc fn args).run Tryz.prog u = .ok (.enter fn args) u) ∧
      Calls Tryz.prog fn #[.pointer (some ⟨p,0,none⟩),.int .i64 h] w fun e w' => ∃ x : Nat, e = .returned (.tuple #[.int .i64 x,.bool true]) ∧ least E h x ∧ nAft k w F p cap hs (put E x none) w' := by
  have hbh := c.ok.bh
  unfold nAft nAt at *
  unfold nTy
  split at c
  · refine ⟨342,fun u => by kernel_rfl,fun args u => run_enter (by kernel_rfl) args u,(bin_extract w F p cap hs E c h h1 h2 hi).mono ?_⟩
    rintro e w' ⟨x,rfl, hl, F', a, b⟩
    exact ⟨x,rfl, hl, F', a, b⟩
  · refine ⟨372,fun u => by kernel_rfl,fun args u => run_enter (by kernel_rfl) args u,(pair_extract w F p cap hs E c h h1 h2 hi).mono ?_⟩
    rintro e w' ⟨x,rfl, hl, a, b⟩
    exact ⟨x,rfl, hl, F, a, b,fun b' hb => .inl hb, a.lt⟩
  · refine ⟨383,fun u => by kernel_rfl,fun args u => run_enter (by kernel_rfl) args u,(fib_extract w F p cap hs E c h h1 h2 hi).mono ?_⟩
    rintro e w' ⟨x,rfl, hl, a, b⟩
    exact ⟨x,rfl, hl, F, a, b,fun b' hb => .inl hb, a.lt⟩
  · refine ⟨402,fun u => by kernel_rfl,fun args u => run_enter (by kernel_rfl) args u,(left_extract w F p cap hs E c h h1 h2 hi).mono ?_⟩
    rintro e w' ⟨x,rfl, hl, a, b⟩
    exact ⟨x,rfl, hl, F, a, b,fun b' hb => .inl hb, a.lt⟩
  · refine ⟨425,fun u => by kernel_rfl,fun args u => run_enter (by kernel_rfl) args u,(skew_extract w F p cap hs E c h (by omega) hi).mono ?_⟩
    rintro e w' ⟨x,rfl, hl, a, b⟩
    exact ⟨x,rfl, hl, F, a, b,fun b' hb => .inl hb, a.lt⟩
  · refine ⟨435,fun u => by kernel_rfl,fun args u => run_enter (by kernel_rfl) args u,(shed_extract w F p cap hs E c h h1 h2 hi).mono ?_⟩
    rintro e w' ⟨x,rfl, hl, F', a, b⟩
    exact ⟨x,rfl, hl, F', a, b⟩
  · refine ⟨300,fun u => by kernel_rfl,fun args u => run_enter (by kernel_rfl) args u,(dary_extract w F p cap hs E c h h1 h2 hi).mono ?_⟩
    rintro e w' ⟨x,rfl, hl, F', a, b⟩
    exact ⟨x,rfl, hl, F', a, b⟩
theorem n_min_yes (c : nAt k w F p cap hs E) (h : Nat) (h1 : 1 <= h) (h2 : h <= hs) (hi : ∃ y, isIn E h y) :
    ∃ fn,(∀ u,(method 588 (nTy k) (.pointer (some ⟨p,0,none⟩)) "Min").run Tryz.prog u = .ok (fn,.pointer (some ⟨p,0,none⟩)) u) ∧ (∀ args u,(callFunc fn args).run Tryz.prog u = .ok (.enter fn args) u) ∧
      Calls Tryz.prog fn #[.pointer (some ⟨p,0,none⟩),.int .i64 h] w fun e w' => ∃ x : Nat, e = .returned (.tuple #[.int .i64 x,.bool true]) ∧ least E h x ∧ nAt k w' F p cap hs E ∧ Keeps F w w' := by
  have hbh := c.ok.bh
  unfold nAt at *
  unfold nTy
  split at c
  · refine ⟨346,fun u => by kernel_rfl,fun args u => run_enter (by kernel_rfl) args u,?_⟩
    obtain ⟨pc, pf, gf, gr, rc, Fc, T, U, R,rfl, m, o⟩ := c
    refine (bin_min_yes w p pc pf gf gr rc cap hs Fc E T U R m o h h1 h2 hi).mono ?_
    rintro e w' ⟨x,rfl, hl, _, q, kk⟩
    exact ⟨x,rfl, hl,⟨pc, pf, gf, gr, rc, Fc, T, U, R,rfl, q, o⟩, kk.mono fun b hb => .inl (binF_mem.2 (.inr (.inr (.inl hb))))⟩
  · refine ⟨376,fun u => by kernel_rfl,fun args u => run_enter (by kernel_rfl) args u,(pair_min_yes w F p cap hs E c h h1 h2 hi).mono ?_⟩
    rintro e w' ⟨⟨x,rfl, hl⟩,rfl⟩
    exact ⟨x,rfl, hl, c, Keeps.refl _ _⟩
  · refine ⟨387,fun u => by kernel_rfl,fun args u => run_enter (by kernel_rfl) args u,(fib_min_yes w F p cap hs E c h h1 h2 hi).mono ?_⟩
    rintro e w' ⟨⟨x,rfl, hl⟩,rfl⟩
    exact ⟨x,rfl, hl, c, Keeps.refl _ _⟩
  · refine ⟨406,fun u => by kernel_rfl,fun args u => run_enter (by kernel_rfl) args u,(left_min_yes w F p cap hs E c h h1 h2 hi).mono ?_⟩
    rintro e w' ⟨⟨x,rfl, hl⟩,rfl⟩
    exact ⟨x,rfl, hl, c, Keeps.refl _ _⟩
  · refine ⟨428,fun u => by kernel_rfl,fun args u => run_enter (by kernel_rfl) args u,(skew_min_yes w F p cap hs E c h (by omega) hi).mono ?_⟩
    rintro e w' ⟨⟨x,rfl, hl⟩,rfl⟩
    exact ⟨x,rfl, hl, c, Keeps.refl _ _⟩
  · refine ⟨439,fun u => by kernel_rfl,fun args u => run_enter (by kernel_rfl) args u,(shed_min_yes w F p cap hs E c h h1 h2 hi).mono ?_⟩
    rintro e w' ⟨⟨x,rfl, hl⟩,rfl⟩
    exact ⟨x,rfl, hl, c, Keeps.refl _ _⟩
  · refine ⟨307,fun u => by kernel_rfl,fun args u => run_enter (by kernel_rfl) args u,(dary_min_yes w F p cap hs E c h h1 h2 hi).mono ?_⟩
    rintro e w' ⟨⟨x,rfl, hl⟩,rfl⟩
    exact ⟨x,rfl, hl, c, Keeps.refl _ _⟩
theorem n_min_no (c : nAt k w F p cap hs E) (h : Nat) (h1 : 1 <= h) (h2 : h <= hs) (hi : ∀ y, ¬ isIn E h y) :
    ∃ fn,(∀ u,(method 588 (nTy k) (.pointer (some ⟨p,0,none⟩)) "Min").run Tryz.prog u = .ok (fn,.pointer (some ⟨p,0,none⟩)) u) ∧ (∀ args u,(callFunc fn args).run Tryz.prog u = .ok (.enter fn args) u) ∧
      Calls Tryz.prog fn #[.pointer (some ⟨p,0,none⟩),.int .i64 h] w fun e w' => e = .returned (.tuple #[.int .i64 0,.bool false]) ∧ w = w' := by
  have hbh := c.ok.bh
  unfold nAt at *
  unfold nTy
  split at c
  · refine ⟨346,fun u => by kernel_rfl,fun args u => run_enter (by kernel_rfl) args u,?_⟩
    obtain ⟨pc, pf, gf, gr, rc, Fc, T, U, R,rfl, m, o⟩ := c
    exact bin_min_no w p pc pf gf gr rc cap hs Fc E T U R m o h hi
  · exact ⟨376,fun u => by kernel_rfl,fun args u => run_enter (by kernel_rfl) args u, pair_min_no w F p cap hs E c h (by omega) hi⟩
  · exact ⟨387,fun u => by kernel_rfl,fun args u => run_enter (by kernel_rfl) args u, fib_min_no w F p cap hs E c h (by omega) hi⟩
  · exact ⟨406,fun u => by kernel_rfl,fun args u => run_enter (by kernel_rfl) args u, left_min_no w F p cap hs E c h (by omega) hi⟩
  · exact ⟨428,fun u => by kernel_rfl,fun args u => run_enter (by kernel_rfl) args u, skew_min_no w F p cap hs E c h (by omega) hi⟩
  · exact ⟨439,fun u => by kernel_rfl,fun args u => run_enter (by kernel_rfl) args u, shed_min_no w F p cap hs E c h h1 h2 hi⟩
  · exact ⟨307,fun u => by kernel_rfl,fun args u => run_enter (by kernel_rfl) args u, dary_min_no w F p cap hs E c h h1 h2 hi⟩
theorem n_make (c : nAt k w F p cap hs E) (hh : hs < 65536) :
    ∃ fn r,(∀ u, u.cell? ⟨p,0,none⟩ = w.cell? ⟨p,0,none⟩ -> (method 588 (nTy k) (.pointer (some ⟨p,0,none⟩)) "Make").run Tryz.prog u = .ok (fn, r) u) ∧ (∀ args u,(callFunc fn args).run Tryz.prog u = .ok (.enter fn args) u) ∧
      Calls Tryz.prog fn #[r] w fun e w' => e = .returned (.int .i64 ((hs + 1 : Nat) : Int)) ∧ nAft k w F p cap (hs + 1) E w' := by
  unfold nAft nAt at *
  unfold nTy
  split at c
  · refine ⟨344,.pointer (some ⟨p,0,none⟩),fun u _ => by kernel_rfl,fun args u => run_enter (by kernel_rfl) args u,(bin_make w F p cap hs E c hh).mono ?_⟩
    rintro e w' ⟨F',rfl, a, b⟩
    exact ⟨rfl, F', a, b⟩
  · refine ⟨374,.pointer (some ⟨p,0,none⟩),fun u _ => by kernel_rfl,fun args u => run_enter (by kernel_rfl) args u,(pair_make w F p cap hs E c hh).mono ?_⟩
    rintro e w' ⟨F',rfl, a, b⟩
    exact ⟨rfl, F', a, b⟩
  · refine ⟨385,.pointer (some ⟨p,0,none⟩),fun u _ => by kernel_rfl,fun args u => run_enter (by kernel_rfl) args u,(fib_make w F p cap hs E c hh).mono ?_⟩
    rintro e w' ⟨F',rfl, a, b⟩
    exact ⟨rfl, F', a, b⟩
  · refine ⟨404,.pointer (some ⟨p,0,none⟩),fun u _ => by kernel_rfl,fun args u => run_enter (by kernel_rfl) args u,(left_make w F p cap hs E c hh).mono ?_⟩
    rintro e w' ⟨F',rfl, a, b⟩
    exact ⟨rfl, F', a, b⟩
  · obtain ⟨pc, h0, hm⟩ := skew_make w F p cap hs E c hh
    refine ⟨_, _,fun u hu => run_method_embedded u 587 168 235 258 200 "Make" p _ _ (by kernel_rfl) (by kernel_rfl) Tryz.underlying200 (by kernel_rfl) (hu.trans h0),fun args u => run_enter (by kernel_rfl) args u, hm.mono ?_⟩
    rintro e w' ⟨F',rfl, a, b⟩
    exact ⟨rfl, F', a, b⟩
  · refine ⟨437,.pointer (some ⟨p,0,none⟩),fun u _ => by kernel_rfl,fun args u => run_enter (by kernel_rfl) args u,(shed_make w F p cap hs E c hh).mono ?_⟩
    rintro e w' ⟨F',rfl, a, b⟩
    exact ⟨rfl, F', a, b⟩
  · refine ⟨305,.pointer (some ⟨p,0,none⟩),fun u _ => by kernel_rfl,fun args u => run_enter (by kernel_rfl) args u,(dary_make w F p cap hs E c hh).mono ?_⟩
    rintro e w' ⟨F',rfl, a, b⟩
    exact ⟨rfl, F', a, b⟩
end
def AreAt (w : World) (F : List Nat) (p cap : Nat) (most : Int) (G : Nat -> Nat) (V : Nat -> Bool) : Prop :=
  ∃ (gs : Nat) (ao : Option Addr) (cw : Nat) (S : List (Int × Bool)) (W : List Nat) (next : Nat) (cnt : Int), F = Ar.fp p gs ao ∧ Ar.ArenaAt w p gs ao cw S W next cnt most ∧ Ar.Inv S W next cnt most ∧ S.length = cap ∧ ∀ x, x < cap -> S.getD x (0, false) = ((G x : Int), V x)
section
variable {w w' : World} {F T : List Nat} {p cap : Nat} {most : Int} {G : Nat -> Nat} {V : Nat -> Bool}
theorem AreAt.lt (h : AreAt w F p cap most G V) : ∀ b ∈ F, b < w.heap.size := by
  obtain ⟨gs, ao, cw, S, W, next, cnt,rfl, a, i, l, g⟩ := h; exact a.lt
theorem AreAt.keep (h : AreAt w F p cap most G V) (k : Keeps T w w') (hT : ∀ b ∈ F, b ∉ T) : AreAt w' F p cap most G V := by
  obtain ⟨gs, ao, cw, S, W, next, cnt,rfl, a, i, l, g⟩ := h
  exact ⟨gs, ao, cw, S, W, next, cnt,rfl, a.keep k hT, i, l, g⟩
theorem fp_moved {gs : Nat} {ao ao' : Option Addr} (hk : Keeps (Ar.fp p gs ao) w w') (hao : ∀ x, ao' = some x -> ao = some x ∨ w.heap.size <= x.block) (hl : ∀ b ∈ Ar.fp p gs ao', b < w'.heap.size) : Moved (Ar.fp p gs ao) w (Ar.fp p gs ao') w' := by
  refine ⟨hk,fun b hb => ?_, hl⟩
  simp only [Ar.fp, List.mem_cons, List.mem_map, Option.mem_toList] at hb ⊢
  rcases hb with c | c | ⟨q, c,rfl⟩
  · exact .inl (.inl c)
  · exact .inl (.inr (.inl c))
  · rcases hao q c with d | d
    · exact .inl (.inr (.inr ⟨q, d,rfl⟩))
    · exact .inr d
theorem are_take (h : AreAt w F p cap most G V) (hx : ∃ x, x < cap ∧ V x = false ∧ (G x : Int) < most) :
    Calls Tryz.prog 36 #[.pointer (some ⟨p,0,none⟩)] w fun e w' => ∃ i : Nat, i < cap ∧ V i = false ∧ (G i : Int) < most ∧ e = .returned (.tuple #[.agg #[.int .i64 i,.int .u32 ((G i : Int) + 1)],.int .i64 0]) ∧
      ∃ F', AreAt w' F' p cap most (upd G i (G i + 1)) (upd V i true) ∧ Moved F w F' w' := by
  obtain ⟨gs, ao, cw, S, W, next, cnt,rfl, a, iv, l, g⟩ := h
  have hwl := iv.wlen
  have hnx := iv.nx
  have hln := iv.len
  have hm2 := iv.m2
  obtain ⟨hc0, hc1⟩ := iv.cntB
  cases hp : Ar.pickS S.length W next with
  | none =>
    exfalso
    obtain ⟨x, hx, hv, hg⟩ := hx
    have hgx := g x hx
    unfold Ar.pickS at hp
    cases hW : W.getLast? with
    | some j => rw [hW] at hp; cases hp
    | none =>
      rw [hW] at hp
      have hWn : W = [] := List.getLast?_eq_none_iff.1 hW
      simp only at hp
      split at hp
      · cases hp
      · rename_i hlt
        have := iv.waits x (by omega) (by rw [hgx]; exact hv) (by rw [hgx]; exact hg)
        rw [hWn] at this; cases this
  | some r =>
    obtain ⟨i, W', next'⟩ := r
    obtain ⟨h1, h2, h3, h4, h5, h6, h7⟩ := iv.pick hp
    have hgi := g i (by omega)
    rw [hgi] at h2 h3 h4 h5
    refine (Ar.take_calls w p gs ao cw S W next cnt most a (by omega) (by omega) hnx i W' next' hp h1 (G i) (by rw [hgi]) h3 (by omega) (by omega) (by omega)).mono ?_
    rintro e w' ⟨rfl, ao', cw', a', k', n'⟩
    refine ⟨i,by omega, h2, h4,rfl, _,⟨gs, ao', cw', _, W', next', cnt + 1,rfl, a', h5,by simpa using l,fun x hx => ?_⟩, fp_moved k' n' a'.lt⟩
    by_cases c : x = i
    · subst c; rw [Ar.getD_set_eq (by omega), upd_same, upd_same]; simp
    · rw [Ar.getD_set_ne (fun q => c q.symm), upd_other _ _ c, upd_other _ _ c]; exact g x hx
theorem are_at (h : AreAt w F p cap most G V) (x : Nat) (hx : x < cap) (hv : V x = true) :
    Calls Tryz.prog 86 #[.pointer (some ⟨p,0,none⟩),.int .i64 x] w fun e w' => e = .returned (.tuple #[.agg #[.int .i64 x,.int .u32 (G x : Nat)],.bool true]) ∧ Keeps [] w w' := by
  obtain ⟨gs, ao, cw, S, W, next, cnt,rfl, a, iv, l, g⟩ := h
  have hln := iv.len
  refine (Ar.at_yes w p gs ao cw S W next cnt most x (G x) a (by omega) ?_).mono ?_
  · unfold Ar.atS
    rw [Int.toNat_natCast, g x hx, if_pos ⟨by omega,by omega, hv⟩]
  · rintro e w' ⟨rfl, b⟩
    exact ⟨rfl, Below.keeps b (Nat.le_refl _) _⟩
theorem are_live (h : AreAt w F p cap most G V) (x : Nat) (hx : x < cap) (hv : V x = true) :
    Calls Tryz.prog 83 #[.pointer (some ⟨p,0,none⟩),.agg #[.int .i64 x,.int .u32 (G x : Nat)]] w fun e w' => e = .returned (.bool true) ∧ Keeps [] w w' := by
  obtain ⟨gs, ao, cw, S, W, next, cnt,rfl, a, iv, l, g⟩ := h
  have hln := iv.len
  have := Ar.live_calls w p gs ao cw S W next cnt most x (G x) a (by omega)
  have hb : Ar.liveB S x (G x) = true := by
    unfold Ar.liveB
    rw [Int.toNat_natCast, g x hx, hv]
    simp
    omega
  rw [hb] at this
  refine this.mono ?_
  rintro e w' ⟨rfl, b⟩
  exact ⟨rfl, Below.keeps b (Nat.le_refl _) _⟩
theorem are_give (h : AreAt w F p cap most G V) (x : Nat) (hx : x < cap) (hv : V x = true) :
    Calls Tryz.prog 50 #[.pointer (some ⟨p,0,none⟩),.agg #[.int .i64 x,.int .u32 (G x : Nat)]] w fun e w' => e = .returned (.int .i64 0) ∧ ∃ F', AreAt w' F' p cap most G (upd V x false) ∧ Moved F w F' w' := by
  obtain ⟨gs, ao, cw, S, W, next, cnt,rfl, a, iv, l, g⟩ := h
  have hwl := iv.wlen
  have hnx := iv.nx
  have hln := iv.len
  obtain ⟨hc0, hc1⟩ := iv.cntB
  have hgx : S.getD x (0, false) = ((G x : Int), true) := by rw [g x hx, hv]
  obtain ⟨i1, i2⟩ := iv.give (i := x) (by omega) hgx
  refine (Ar.give_live w p gs ao cw S W next cnt most (G x) a x (by omega) (by omega) (by omega) hgx (by omega) (by omega)).mono ?_
  rintro e w' ⟨rfl, ao', cw', a', k', n'⟩
  refine ⟨rfl, _,⟨gs, ao', cw', _, _, next, cnt - 1,rfl, a', i1,by simpa using l,fun y hy => ?_⟩, fp_moved k' n' a'.lt⟩
  by_cases c : y = x
  · subst c; rw [Ar.getD_set_eq (by omega), upd_same]
  · rw [Ar.getD_set_ne (fun q => c q.symm), upd_other _ _ c]; exact g y hy
theorem are_new (w : World) (n : Nat) (most : Int) (hn : n <= 65536) (h1 : 1 <= most) (h2 : most <= 4294967295) :
    Calls Tryz.prog 34 #[.int .i64 n,.int .u32 most] w fun e w' => ∃ F p, e = .returned (.tuple #[.pointer (some ⟨p,0,none⟩),.int .i64 0]) ∧ AreAt w' F p n most (fun _ => 0) (fun _ => false) ∧ Keeps [] w w' ∧ ∀ b ∈ F, w.heap.size <= b := by
  refine (Ar.new_yes w n most hn (by omega)).mono ?_
  rintro e w' ⟨p, gs,rfl, a, k, l1, l2⟩
  refine ⟨_, p,rfl,⟨gs, none, 0, _, [], 0,0,rfl, a, Ar.Inv.new n most hn h1 h2,by simp,fun x hx => ?_⟩, k,fun b hb => ?_⟩
  · simp [List.getD, hx]
  · simp only [Ar.fp, List.mem_cons, List.mem_map, Option.mem_toList] at hb
    rcases hb with rfl | rfl | ⟨q, c, _⟩
    · exact l2
    · exact l1
    · cases c
end
section
variable {P : Program}
theorem results_cell2 {fn : Func} {p u : Tmp} {ty : TypeId} (h : fn.results = #[.cell p ty,.tmp u]) (tmps : Array Value) (w : World) (g : Nat) (t : TypeId) (cs : Array Value) (fr : Nat × Nat) (d : TypeDesc)
    (hp : tmps.getD p undef = .pointer (some ⟨g,0,none⟩)) (hg : w.heap[g]? = some (.cells cs t fr))
    (hu : P.underlying ty = some d) (hd : (match d with | .struct _ | .array _ _ => true | _ => false) = true) (hi : (P.info? ty).map (·.size) = some cs.size) :
    (results fn tmps).run P w = .ok (.tuple #[.agg cs, tmps.getD u undef]) w := by
  have hp' : tmps[p]?.getD undef = .pointer (some ⟨g,0,none⟩) := by simpa using hp
  simp [results, h, hp', asAddr, Result.andThen, run_loadVar_row w g t ty cs fr d hg hu hd hi]
theorem results_cell3 {fn : Func} {p u v : Tmp} {ty : TypeId} (h : fn.results = #[.cell p ty,.tmp u,.tmp v]) (tmps : Array Value) (w : World) (g : Nat) (t : TypeId) (cs : Array Value) (fr : Nat × Nat) (d : TypeDesc)
    (hp : tmps.getD p undef = .pointer (some ⟨g,0,none⟩)) (hg : w.heap[g]? = some (.cells cs t fr))
    (hu : P.underlying ty = some d) (hd : (match d with | .struct _ | .array _ _ => true | _ => false) = true) (hi : (P.info? ty).map (·.size) = some cs.size) :
    (results fn tmps).run P w = .ok (.tuple #[.agg cs, tmps.getD u undef, tmps.getD v undef]) w := by
  have hp' : tmps[p]?.getD undef = .pointer (some ⟨g,0,none⟩) := by simpa using hp
  simp [results, h, hp', asAddr, Result.andThen, run_loadVar_row w g t ty cs fr d hg hu hd hi]
end
structure StoreQ (w : World) (s pa pn : Nat) (Fa Fn : List Nat) (c1 c2 : Int) (k cap hs : Nat) (E : Ent) (q : Nat) (most : Int) (G : Nat -> Nat) : Prop where
  blk : w.heap[s]? = some (.cells #[.int .i64 c1,.int .i64 c2,.pointer (some ⟨pa,0,none⟩),.iface (nTy k) (.pointer (some ⟨pn,0,none⟩)),.int .u64 (q : Int)] 98 (0,0))
  ar : AreAt w Fa pa cap most G (fun x => (E x).isSome)
  ne : nAt k w Fn pn cap hs E
  sa : s ∉ Fa
  sn : s ∉ Fn
  an : ∀ b ∈ Fa, b ∉ Fn
  sq : ∀ x h key n, E x = some (h, key, n) -> n <= q
  uq : ∀ x y h key n h' key', E x = some (h, key, n) -> E y = some (h', key', n) -> x = y
  gq : ∀ x, G x <= q
def StoreAt (w : World) (F : List Nat) (s k cap hs : Nat) (E : Ent) (q : Nat) (most : Int) (G : Nat -> Nat) : Prop :=
  ∃ (pa pn : Nat) (Fa Fn : List Nat) (c1 c2 : Int), F = s :: (Fa ++ Fn) ∧ StoreQ w s pa pn Fa Fn c1 c2 k cap hs E q most G
section
variable {w w' : World} {F Fa Fn Fa' Fn' T : List Nat} {s pa pn k cap hs hs' q : Nat} {c1 c2 most : Int} {E E' : Ent} {G G' : Nat -> Nat}
theorem StoreQ.lt (h : StoreQ w s pa pn Fa Fn c1 c2 k cap hs E q most G) : ∀ b ∈ s :: (Fa ++ Fn), b < w.heap.size := by
  intro b hb
  simp only [List.mem_cons, List.mem_append] at hb
  rcases hb with rfl | hb | hb
  · exact lt_of_block h.blk
  · exact h.ar.lt b hb
  · exact h.ne.lt b hb
theorem StoreAt.lt (h : StoreAt w F s k cap hs E q most G) : ∀ b ∈ F, b < w.heap.size := by
  obtain ⟨pa, pn, Fa, Fn, c1, c2,rfl, h⟩ := h; exact h.lt
theorem StoreQ.keep (h : StoreQ w s pa pn Fa Fn c1 c2 k cap hs E q most G) (kk : Keeps T w w') (hT : ∀ b ∈ s :: (Fa ++ Fn), b ∉ T) : StoreQ w' s pa pn Fa Fn c1 c2 k cap hs E q most G :=
  ⟨kk.blk h.blk (hT s (by simp)), h.ar.keep kk (fun b hb => hT b (by simp [hb])), h.ne.keep kk (fun b hb => hT b (by simp [hb])), h.sa, h.sn, h.an, h.sq, h.uq, h.gq⟩
theorem StoreAt.keep (h : StoreAt w F s k cap hs E q most G) (kk : Keeps T w w') (hT : ∀ b ∈ F, b ∉ T) : StoreAt w' F s k cap hs E q most G := by
  obtain ⟨pa, pn, Fa, Fn, c1, c2,rfl, h⟩ := h
  exact ⟨pa, pn, Fa, Fn, c1, c2,rfl, h.keep kk hT⟩
theorem StoreAt.ok (h : StoreAt w F s k cap hs E q most G) : EntOk E cap hs := by
  obtain ⟨pa, pn, Fa, Fn, c1, c2,rfl, h⟩ := h; exact h.ne.ok
theorem StoreQ.c2' (h : StoreQ w s pa pn Fa Fn c1 c2 k cap hs E q most G) : w.cell? ⟨s,2,none⟩ = some (.pointer (some ⟨pa,0,none⟩)) := by rw [cell_of_blk h.blk]; rfl
theorem StoreQ.c3 (h : StoreQ w s pa pn Fa Fn c1 c2 k cap hs E q most G) : w.cell? ⟨s,3,none⟩ = some (.iface (nTy k) (.pointer (some ⟨pn,0,none⟩))) := by rw [cell_of_blk h.blk]; rfl
theorem StoreQ.nest (h : StoreQ w s pa pn Fa Fn c1 c2 k cap hs E q most G) (a : nAft k w Fn pn cap hs' E' w') (hE : ∀ x,(E' x).isSome = (E x).isSome) (hsq : ∀ x h key n, E' x = some (h, key, n) -> n <= q) (huq : ∀ x y h key n h' key', E' x = some (h, key, n) -> E' y = some (h', key', n) -> x = y) :
    ∃ Fn', StoreQ w' s pa pn Fa Fn' c1 c2 k cap hs' E' q most G ∧ Moved (s :: (Fa ++ Fn)) w (s :: (Fa ++ Fn')) w' := by
  obtain ⟨Fn', hn, hm⟩ := a
  have hl := h.lt
  have hold : ∀ b, b < w.heap.size -> b ∉ Fn -> b ∉ Fn' := fun b h1 h2 h3 => by
    rcases hm.from' b h3 with c | c
    · exact h2 c
    · omega
  have hq : StoreQ w' s pa pn Fa Fn' c1 c2 k cap hs' E' q most G := by
    refine ⟨hm.keeps.blk h.blk h.sn,?_, hn, h.sa, hold s (hl s (by simp)) h.sn,fun b hb => hold b (hl b (by simp [hb])) (h.an b hb), hsq, huq, h.gq⟩
    have := h.ar.keep hm.keeps h.an
    have e : (fun x => (E' x).isSome) = fun x => (E x).isSome := funext hE
    rw [e]; exact this
  refine ⟨Fn', hq, hm.keeps.mono fun b hb => .inl (by simp [hb]),fun b hb => ?_, hq.lt⟩
  simp only [List.mem_cons, List.mem_append] at hb ⊢
  rcases hb with c | c | c
  · exact .inl (.inl c)
  · exact .inl (.inr (.inl c))
  · rcases hm.from' b c with d | d
    · exact .inl (.inr (.inr d))
    · exact .inr d
end
section
variable (w : World) (F : List Nat) (s k cap hs : Nat) (E : Ent) (q : Nat) (most : Int) (G : Nat -> Nat)
def HeapDone (e : Ending) (w' : World) : Prop := e = .returned (.tuple #[.int .i64 ((hs + 1 : Nat) : Int),.int .i64 0]) ∧ ∃ F', StoreAt w' F' s k cap (hs + 1) E q most G ∧ Moved F w F' w'
theorem pq_newheap (c : StoreAt w F s k cap hs E q most G) (hh : hs < 65536) : Calls Tryz.prog 13 #[.pointer (some ⟨s,0,none⟩)] w (HeapDone w F s k cap hs E q most G) := by
  obtain ⟨pa, pn, Fa, Fn, c1, c2,rfl, h⟩ := c
  obtain ⟨fn, r, hm, hen, hc⟩ := n_make k w Fn pn cap hs E h.ne hh
  have hm := hm w rfl
  have c3 := h.c3
  have hfin : ∀ w', nAft k w Fn pn cap (hs + 1) E w' -> HeapDone w (s :: (Fa ++ Fn)) s k cap hs E q most G (.returned (.tuple #[.int .i64 ((hs + 1 : Nat) : Int),.int .i64 0])) w' := fun w' a => by
    obtain ⟨Fn', a1, a2⟩ := h.nest a (fun _ => rfl) h.sq h.uq
    exact ⟨rfl, _,⟨pa, pn, Fa, Fn', c1, c2,rfl, a1⟩, a2⟩
  have HF := Lib.hid hfin
  have hz : (((hs + 1 : Nat) : Int) == 0) = false := by rw [beq_eq_false_iff_ne]; omega
  have hz2 : ((hs : Int) + 1 == 0) = false := by rw [beq_eq_false_iff_ne]; omega
  clear hfin h
  go_enter Tryz.func13, Tryz.ntmps13
  go_wp2_with (refine hc.mono ?_; rintro e w' ⟨rfl, ha⟩)
  go_ret2
  exact HF.out _ ha
theorem pq_len (c : StoreAt w F s k cap hs E q most G) (h : Nat) (h1 : 1 <= h) (h2 : h <= hs) : Calls Tryz.prog 37 #[.pointer (some ⟨s,0,none⟩),.int .i64 h] w fun e w' => e = .returned (.tuple #[.int .i64 (count E cap h : Nat),.int .i64 0]) ∧ w = w' := by
  obtain ⟨pa, pn, Fa, Fn, c1, c2,rfl, st⟩ := c
  obtain ⟨pc, Fc, d0, ce, _⟩ := st.ne.cells
  have hbh := ce.ok.bh
  have hhas := cells_has w Fc pc cap hs E ce h
  rw [decide_eq_true (by omega)] at hhas
  have hlen := cells_len w Fc pc cap hs E ce h (by omega)
  have m1 := n_has_m k w pn pc d0
  have m2 := n_len_m k w pn pc d0
  have c3 := st.c3
  clear st ce d0
  generalize count E cap h = cn at *
  go_enter Tryz.func37, Tryz.ntmps37
  go_wp2_with (first
    | (go_at_call 301; refine hhas.mono ?_; rintro e w' ⟨rfl,rfl⟩)
    | (go_at_call 304; refine hlen.mono ?_; rintro e w' ⟨rfl,rfl⟩))
  go_ret2
  exact ⟨rfl,rfl⟩
end
end Go.Proofs.YtkdbjelhkfdfjaaGreatDoor


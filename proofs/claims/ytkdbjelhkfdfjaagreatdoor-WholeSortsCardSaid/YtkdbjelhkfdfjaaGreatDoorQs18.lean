/-
  Contracts that the law rests on. Conditions: none.
-/
import Derived.Test.YtkdbjelhkfdfjaaGreatDoorQs17
set_option linter.unusedVariables false
set_option maxRecDepth 100000
set_option maxHeartbeats 16000000
namespace Go.Proofs.YtkdbjelhkfdfjaaGreatDoor
open Go.RowKit
section
variable (w : World) (F : List Nat) (p cap hs : Nat) (E : Ent)
theorem left_delete (c : LeftAt w F p cap hs E) (h x : Nat) (hl : least E h x) :
    Calls Tryz.prog 401 #[.pointer (some ⟨p,0,none⟩), .int .i64 x] w (LeftSt w F p cap hs (put E x none)) := by
  obtain ⟨pc, pt, gt, gr, gT, cT, Fc, L, R, U, top,rfl, m, tr, ng, t⟩ := c
  have hn := fun y (hy : (E y).isSome) => m.ce.ok.lt y hy
  have hx := hn x hl.1.some
  have htop : top h = some x := by
    cases e : top h with
    | none => exact absurd hl.1 (t.none_of hn e x)
    | some y => rw [(t.first hn e).one hl]
  have hhome := cells_home w Fc pc cap hs E m.ce x h hl.1
  have hcut := t.cut htop
  obtain ⟨hk0, hk1⟩ := hl.1
  obtain ⟨h1, h2⟩ := m.ce.ok.heap x h _ hk1
  have hne := m.ne
  have hlt3 := m.lt
  have hdrop := fun u (hu : CellsAt u Fc pc cap hs E) => cells_drop u Fc pc cap hs E hu x h hl.1
  have hbL := fun z (e : L x = some z) => And.intro (t.bin.left x z e).1 (t.bin.lr x z e)
  have hbR := fun z (e : R x = some z) => (by rw [offU_other (fun c => t.bin.lr x z c e)]; exact (t.bin.right x z e).1 : offU U (L x) z = some x)
  have hgn := ng
  simp only [List.mem_cons, not_or] at hgn
  obtain ⟨g1, g2, g3, g4, g5⟩ := hgn
  have hfin : ∀ (w3 w5 : World) (C : Option Nat) (L' R' U' : Nat → Option Nat), LeftMid w3 p pc pt gt gr (.slice (some ⟨gT,0,none⟩) (hs + 1) cT) Fc cap hs E L' R' U' → Zip E L' R' U' (fun y => ∃ g, top g = some y) (upd L x none) (upd R x none) h [] C none → Keeps (gt :: gr :: Fc) w w3 →
      CellsAt w5 Fc pc cap hs (put E x none) → Keeps Fc (w3.setCell ⟨gT,h,none⟩ (.int .i64 (oZ C))) w5 → LeftSt w (p :: pt :: gt :: gr :: gT :: Fc) p cap hs (put E x none) (.returned (.bool true)) w5 := by
    intro w3 w5 C L' R' U' m3 z3 k3 c5 k5
    have tr3 := tr.keep k3 (by simp; exact ⟨g3, g4, g5⟩)
    have k4 : Keeps [gT] w3 (w3.setCell ⟨gT,h,none⟩ (.int .i64 (oZ C))) := (Keeps.refl _ _).setCell (.inl (by simp)) _
    have m4 := m3.keep k4 (fun b hb e => by
      simp only [List.mem_cons, List.not_mem_nil, or_false] at e
      subst e
      exact ng hb)
    refine ⟨rfl, ⟨pc, pt, gt, gr, gT, cT, Fc, L', R', U', upd top h C,rfl, m4.cells c5 k5, (tr3.set (by omega) (by omega) C).keep k5 g5, ng, Tops.dropped z3 htop t.mine (upd_same _ _ _) (upd_same _ _ _)⟩,?_⟩
    exact ((k3.mono (T := p :: pt :: gt :: gr :: gT :: Fc) (fun b hb => .inl (by simp only [List.mem_cons] at hb ⊢; rcases hb with c | c | c <;> simp [c]))).trans k4 (by simp)).trans k5 (fun b hb => .inl (by simp [hb]))
  have hmid : ∀ (w3 : World) (C : Option Nat) (L' R' U' : Nat → Option Nat), LeftMid w3 p pc pt gt gr (.slice (some ⟨gT,0,none⟩) (hs + 1) cT) Fc cap hs E L' R' U' → Zip E L' R' U' (fun y => ∃ g, top g = some y) (upd L x none) (upd R x none) h [] C none → Keeps (gt :: gr :: Fc) w w3 →
      U' x = none ∧ w3.cell? ⟨p,1,none⟩ = some (.pointer (some ⟨pt,0,none⟩)) ∧ w3.cell? ⟨p,3,none⟩ = some (.slice (some ⟨gT,0,none⟩) (hs + 1) cT) ∧ w3.cell? ⟨gT,h,none⟩ = some (.int .i64 (oZ (top h))) ∧ w3.frozen? ⟨gT,h,none⟩ = false ∧
      (w3.setCell ⟨gT,h,none⟩ (.int .i64 (oZ C))).cell? ⟨p,0,none⟩ = some (.pointer (some ⟨pc,0,none⟩)) ∧ CellsAt (w3.setCell ⟨gT,h,none⟩ (.int .i64 (oZ C))) Fc pc cap hs E := fun w3 C L' R' U' m3 z3 k3 =>
    have tr3 := tr.keep k3 (by simp; exact ⟨g3, g4, g5⟩)
    have k4 : Keeps [gT] w3 (w3.setCell ⟨gT,h,none⟩ (.int .i64 (oZ C))) := (Keeps.refl _ _).setCell (.inl (by simp)) _
    have m4 := m3.keep k4 (fun b hb e => by
      simp only [List.mem_cons, List.not_mem_nil, or_false] at e
      subst e
      exact ng hb)
    ⟨(z3.bin.top x (.inl ⟨h, htop⟩)).2, m3.c1, m3.c3, tr3.at (by omega), tr3.frozen _, m4.c0, m4.ce⟩
  have d0 := m.c0
  have d1 := m.c1
  have hhs3 : (h : Int) < ((hs + 1 : Nat) : Int) := by omega
  have hhs4 : (h : Int) < (hs : Int) + 1 := by omega
  have HCUT := Lib.hid hcut
  have HF := Lib.hid hfin
  have HMID := Lib.hid hmid
  have HDROP := Lib.hid hdrop
  have HBL := Lib.hid hbL
  have HBR := Lib.hid hbR
  clear hfin hmid hcut hdrop hbL hbR t tr ng htop hn hk1
  go_enter Tryz.func401, Tryz.ntmps401
  go_upto_region 4 with (go_at_call 302; refine hhome.mono ?_; rintro e w1 ⟨rfl, n1,rfl⟩)
  have m0 := m.drewN n1
  have k0 : Keeps [] w (w.drewN n1) := (Keeps.refl [] w).drewN _
  generalize hw0 : w.drewN n1 = w0 at *
  clear hw0
  have e1 := m0.c1
  go_quiet ((first
    | (go_at_call 411; exact Calls.quiet_of (sp_Left _ pt gt cap L R U (by exact m0.sp.like rfl) x hx))
    | (go_at_call 412; exact Calls.quiet_of (sp_Right _ pt gt cap L R U (by exact m0.sp.like rfl) x hx))
    | (go_at_call 410; exact Calls.quiet_of_same (kid_calls _ (L x)))
    | (go_at_call 410; exact Calls.quiet_of_same (kid_calls _ (R x)))))
  have m1 := m0.drewN nq
  have k1 : Keeps [] w (w0.drewN nq) := k0.drewN _
  clear m0 k0 e1 m
  generalize w0.drewN nq = w1 at *
  have e1 := m1.c1
  have hcl := cut_left w1 p pc pt gt gr _ Fc cap hs E L R U m1 x HBL.out
  go_upto_region 6 with (go_at_call 407; refine hcl.mono ?_; rintro e w2 ⟨⟨v2,rfl⟩, s2⟩)
  have m2 := m1.spine s2
  have k2 : Keeps (gt :: gr :: Fc) w w2 := (k1.mono (T := gt :: gr :: Fc) (by simp)).trans s2.2 (by simp)
  have hcr := cut_right w2 p pc pt gt gr _ Fc cap hs E (upd L x none) R (offU U (L x)) m2 x HBR.out
  clear hcl e1 m1 s2
  have e1 := m2.c1
  go_upto_region 7 with (go_at_call 407; refine hcr.mono ?_; rintro e w3 ⟨⟨v3,rfl⟩, s3⟩)
  have m3 := m2.spine s3
  have k3 : Keeps (gt :: gr :: Fc) w w3 := k2.trans s3.2 (by simp)
  clear hcr e1 m2 s3 k2
  have e1 := m3.c1
  have hmg := left_merge w3 p pc pt gt gr _ Fc cap hs E _ _ _ _ _ _ h (L x) (R x) m3 HCUT.out
  go_upto_region 8 with (go_at_call 409; refine hmg.mono ?_; rintro e w4 ⟨C, L', R', U',rfl, m4, z4, k4⟩)
  have k5 := k3.trans k4 (fun b hb => .inl hb)
  obtain ⟨hu, f1, f3, f4, f5, f6, f7⟩ := HMID.out w4 C L' R' U' m4 z4 k5
  have hup := sp_Up w4 pt gt cap L' R' U' m4.sp x hx
  rw [hu] at hup
  simp only [Option.getD_none, Option.isSome_none] at hup
  have M4 := Lib.hid m4
  have Z4 := Lib.hid z4
  clear m4 z4 hmg e1 m3 hu d0 d1
  go_wp2_with (first
    | (go_at_call 413; refine hup.mono ?_; rintro e w' ⟨rfl,rfl⟩)
    | (go_at_call 312; refine (HDROP.out _ f7).mono ?_; rintro e w5 ⟨rfl, c5, k6⟩))
  go_ret
  exact HF.out w4 w5 C L' R' U' M4.out Z4.out k5 c5 k6
def LeftExt (w : World) (F : List Nat) (p cap hs : Nat) (E : Ent) (h : Nat) (e : Ending) (w' : World) : Prop :=
  ∃ x : Nat, e = .returned (.tuple #[.int .i64 x, .bool true]) ∧ least E h x ∧ LeftAt w' F p cap hs (put E x none) ∧ Keeps F w w'
theorem left_extract (c : LeftAt w F p cap hs E) (h : Nat) (h1 : 1 ≤ h) (h2 : h ≤ hs) (hi : ∃ y, isIn E h y) :
    Calls Tryz.prog 402 #[.pointer (some ⟨p,0,none⟩), .int .i64 h] w (LeftExt w F p cap hs E h) := by
  have hm := left_min_yes w F p cap hs E c h h1 h2 hi
  have hd := fun x hl => left_delete w F p cap hs E c h x hl
  clear c hi
  go_enter Tryz.func402, Tryz.ntmps402
  go_wp2_with (first
    | (go_at_call 406; refine hm.mono ?_; rintro e w1 ⟨⟨x,rfl, hl⟩,rfl⟩)
    | (go_at_call 401; refine (hd _ hl).mono ?_; rintro e w2 ⟨rfl, c2, k2⟩))
  go_ret2
  exact ⟨x,rfl, hl, c2, k2⟩
end
theorem TopRow.more {w1 w4 : World} {g n c g' c' : Nat} {top : Nat → Option Nat} (h : TopRow w1 g n c top) (hn : top n = none) (h0 : 0 < n)
    (hr : w4.ownsRow 0 3 1 (.slice (some ⟨g',0,none⟩) (n + 1) c') (n + 1) (topsV top n ++ [.int .i64 (-1)])) : TopRow w4 g' (n + 1) c' top :=
  ⟨by rw [topsV_snoc top n hn]; exact hr, h.zero⟩
section
variable (w : World) (F : List Nat) (p cap hs : Nat) (E : Ent)
def LeftMade (w : World) (F : List Nat) (p cap hs : Nat) (E : Ent) (e : Ending) (w' : World) : Prop := ∃ F', e = .returned (.int .i64 ((hs + 1 : Nat) : Int)) ∧ LeftAt w' F' p cap (hs + 1) E ∧ Moved F w F' w'
theorem left_make (c : LeftAt w F p cap hs E) (hh : hs < 65536) : Calls Tryz.prog 404 #[.pointer (some ⟨p,0,none⟩)] w (LeftMade w F p cap hs E) := by
  have hlt := c.lt
  obtain ⟨pc, pt, gt, gr, gT, cT, Fc, L, R, U, top,rfl, m, tr, ng, t⟩ := c
  have hmk := cells_make w Fc pc cap hs E m.ce hh
  have d0 := m.c0
  obtain ⟨⟨a1, a2, a3, a4⟩, ⟨b1, b2, b3⟩, ⟨c1, c2⟩, cd⟩ := m.ne
  obtain ⟨l1, l2, l3, l5, l4⟩ := m.lt
  have l6 := tr.lt
  have hgn := ng
  simp only [List.mem_cons, not_or] at hgn
  obtain ⟨g1, g2, g3, g4, g5⟩ := hgn
  have ht : top (hs + 1) = none := by
    cases e : top (hs + 1) with
    | none => rfl
    | some x =>
      obtain ⟨k, hk⟩ := t.mine _ _ e
      have := m.ce.ok.heap x _ _ hk
      omega
  have hfin : ∀ (w1 w4 : World) (Fc' : List Nat) (g' c' : Nat), CellsAt w1 Fc' pc cap (hs + 1) E → Moved Fc w Fc' w1 → w4.ownsRow 0 3 1 (.slice (some ⟨g',0,none⟩) (hs + 1 + 1) c') (hs + 1 + 1) (topsV top (hs + 1) ++ [.int .i64 (-1)]) → Keeps [gT] w1 w4 → (g' = gT ∨ w1.heap.size ≤ g') →
      w4.frozen? ⟨p,3,none⟩ = false ∧ w4.cell? ⟨p,3,none⟩ = some (.slice (some ⟨gT,0,none⟩) (hs + 1) cT) ∧ LeftMade w (p :: pt :: gt :: gr :: gT :: Fc) p cap hs E (.returned (.int .i64 ((hs + 1 : Nat) : Int))) (w4.setCell ⟨p,3,none⟩ (.slice (some ⟨g',0,none⟩) (hs + 1 + 1) c')) := by
    intro w1 w4 Fc' g' c' hc1 hm1 hr4 k4 hg4
    have s1 := hm1.keeps.size
    have s4 := k4.size
    have hcl := hc1.lt
    have hnew : ∀ b, b ∉ Fc → b < w.heap.size → b ∉ Fc' := fun b a c e => by
      rcases hm1.from' b e with f | f
      · exact a f
      · omega
    have b4 := k4.blk (hm1.keeps.blk m.blk a4) (by simpa using fun e => g1 e.symm)
    have hgF : g' ∉ Fc' := by rcases hg4 with e | e; rw [e]; exact hnew gT g5 l6; exact fun f => by have := hcl _ f; omega
    have hgs : g' ≠ p ∧ g' ≠ pt ∧ g' ≠ gt ∧ g' ≠ gr := by rcases hg4 with e | e; rw [e]; exact ⟨g1, g2, g3, g4⟩; refine ⟨?_,?_,?_,?_⟩ <;> omega
    have k5 : Keeps [p] w4 (w4.setCell ⟨p,3,none⟩ (.slice (some ⟨g',0,none⟩) (hs + 1 + 1) c')) := (Keeps.refl _ _).setCell (.inl (by simp)) _
    have k15 : Keeps [p, gT] w1 (w4.setCell ⟨p,3,none⟩ (.slice (some ⟨g',0,none⟩) (hs + 1 + 1) c')) := (k4.mono (T := [p, gT]) (by simp)).trans k5 (by simp)
    have kall : Keeps (p :: gT :: Fc) w (w4.setCell ⟨p,3,none⟩ (.slice (some ⟨g',0,none⟩) (hs + 1 + 1) c')) := (hm1.keeps.mono (T := p :: gT :: Fc) fun b hb => .inl (by simp [hb])).trans k15 fun b hb => .inl (by simp at hb; rcases hb with c | c <;> simp [c])
    have m5 : LeftMid (w4.setCell ⟨p,3,none⟩ (.slice (some ⟨g',0,none⟩) (hs + 1 + 1) c')) p pc pt gt gr (.slice (some ⟨g',0,none⟩) (hs + 1 + 1) c') Fc' cap (hs + 1) E L R U := by
      refine ⟨?_,?_, hc1.keep k15 ?_, m.sp.keep kall ?_ ?_, m.rkeep kall ?_⟩
      · simp only [List.nodup_cons, List.mem_cons, not_or]
        exact ⟨⟨a1, a2, a3, hnew p a4 l1⟩, ⟨b1, b2, hnew pt b3 l2⟩, ⟨c1, hnew gt c2 l3⟩, hnew gr cd l5, hc1.nodup⟩
      · rw [blk_setCell _ b4]; simp
      · intro b hb e
        simp only [List.mem_cons, List.not_mem_nil, or_false] at e
        rcases e with rfl | rfl
        · exact hnew b a4 l1 hb
        · exact hnew b g5 l6 hb
      · simp only [List.mem_cons, not_or]; exact ⟨fun e => a1 e.symm,fun e => g2 e.symm, b3⟩
      · simp only [List.mem_cons, not_or]; exact ⟨fun e => a2 e.symm,fun e => g3 e.symm, c2⟩
      · simp only [List.mem_cons, not_or]; exact ⟨fun e => a3 e.symm,fun e => g4 e.symm, cd⟩
    have tr5 : TopRow (w4.setCell ⟨p,3,none⟩ (.slice (some ⟨g',0,none⟩) (hs + 1 + 1) c')) g' (hs + 1 + 1) c' top := (tr.more ht (by omega) hr4).keep k5 (by simpa using hgs.1)
    refine ⟨frozen_of_blk b4,by rw [cell_of_blk b4]; rfl, p :: pt :: gt :: gr :: g' :: Fc',rfl, ⟨pc, pt, gt, gr, g', c', Fc', L, R, U, top,rfl, m5, tr5,?_, t⟩, kall.mono ?_,?_,?_⟩
    · simp only [List.mem_cons, not_or]; exact ⟨hgs.1, hgs.2.1, hgs.2.2.1, hgs.2.2.2, hgF⟩
    · intro b hb
      simp only [List.mem_cons] at hb ⊢
      rcases hb with c | c | c <;> simp [c]
    · intro b hb
      simp only [List.mem_cons] at hb ⊢
      rcases hb with rfl | rfl | rfl | rfl | rfl | hb
      · simp
      · simp
      · simp
      · simp
      · rcases hg4 with e | e
        · simp [e]
        · exact .inr (by omega)
      · rcases hm1.from' b hb with c | c
        · simp [c]
        · exact .inr c
    · intro b hb
      obtain ⟨q1, q2, q3, q5, q4⟩ := m5.lt
      simp only [List.mem_cons] at hb
      rcases hb with rfl | rfl | rfl | rfl | rfl | hb
      · exact q1
      · exact q2
      · exact q3
      · exact q5
      · exact tr5.lt
      · exact q4 b hb
  have hstep : ∀ (w1 : World) (Fc' : List Nat), Moved Fc w Fc' w1 → w1.cell? ⟨p,3,none⟩ = some (.slice (some ⟨gT,0,none⟩) (hs + 1) cT) ∧ w1.ownsRow 0 3 1 (.slice (some ⟨gT,0,none⟩) (hs + 1) cT) (hs + 1) (topsV top (hs + 1)) := fun w1 Fc' h1 =>
    ⟨by rw [cell_of_blk (h1.keeps.blk m.blk a4)]; rfl, h1.keeps.row tr.row g5⟩
  have hh3 : (0 : Int) < ((hs + 1 : Nat) : Int) := by omega
  have HF := Lib.hid hfin
  have HS := Lib.hid hstep
  clear hfin hstep m tr t hlt ht
  go_enter Tryz.func404, Tryz.ntmps404
  go_upto_region 3 with (go_at_call 318; refine hmk.mono ?_; rintro e w1 ⟨Fc',rfl, hc1, hm1⟩)
  obtain ⟨q1, q2⟩ := HS.out w1 Fc' hm1
  go_wp2_with (first
    | (at_builtin; refine wpList_push _ 3 (.int .i64 (-1)) (0,0) rfl (.tmp 15) (.tmp 16) 28 rfl (.int .i64 0) 8 Tryz.underlying28 Rg.Tryz.infoInt rfl rfl _ (hs + 1) (topsV top (hs + 1)) (by simp [Act.eval]) q2 (by simp [Act.eval]) (by unfold maxLen; omega) (by omega) ?_; intro g' cap' w4 hr4 hk4 hf4; obtain ⟨f5, c5, hD5⟩ := HF.out w1 w4 Fc' g' cap' hc1 hm1 hr4 (by simpa [Value.ownBlock] using hk4) (by simpa [Value.ownBlock, eq_comm] using hf4); clear hr4 hk4 hf4))
  go_ret
  exact hD5
def LeftNew (w : World) (n : Nat) (e : Ending) (w' : World) : Prop :=
  ∃ (F : List Nat) (p : Nat), e = .returned (.tuple #[.pointer (some ⟨p,0,none⟩), .int .i64 0]) ∧ LeftAt w' F p n 0 (fun _ => none) ∧ Keeps [] w w' ∧ ∀ b ∈ F, w.heap.size ≤ b
theorem left_new (w : World) (n : Nat) (hn : n ≤ 65536) : Calls Tryz.prog 66 #[.int .i64 n] w (LeftNew w n) := by
  have hs := fun u => sp_new u n hn
  obtain ⟨i0, hi, hz0, hz1, hzb⟩ := info_parts Rg.Tryz.infoInt
  go_enter Tryz.func66, Tryz.ntmps66
  go_wp2_with (first
    | (go_at_call 87; refine (cells_new w n hn).mono ?_; rintro e w1 ⟨Fc, pc,rfl, hc1, hk1, hF1⟩)
    | (go_at_call 92; refine (hs w1).mono ?_; rintro e w2 ⟨pt, gt,rfl, hs2, hk2, hp2, hg2⟩)
    | (at_make; refine wpList_make_full _ rfl _ _ 28 rfl 0 3 i0 (.int .i64 0) 1 Tryz.underlying28 hi hz0 hz1 .i64 .i64 n n n rfl rfl rfl rfl (by rw [hzb]; omega) (by unfold maxLen; omega) (Nat.zero_le _) ?_; intro w3 hr3 hg3))
  go_ret2
  have hl1 := hc1.lt
  have hl2 := hs2.lt
  have hne2 := hs2.ne
  have k1 := hk1.size
  have k2 := hk2.size
  have hk3 : Keeps [] w2 w3 := (Keeps.refl _ _).grown hg3 (fun k h => by cases h)
  have k3 := hk3.size
  have hr0 := row_lt hr3
  have ha : Arr w3 3 1 n w2.heap.size (numV fun _ => 0) := Arr.made rfl (by decide) hr3
  obtain ⟨w5, hw5⟩ : ∃ w5, w5 = (w3.alloc (.cells #[.int .i64 (-1)] 3)).alloc (.cells #[.pointer (some ⟨pc,0,none⟩), .pointer (some ⟨pt,0,none⟩), .slice (some ⟨w2.heap.size,0,none⟩) n n, .slice (some ⟨w3.heap.size,0,none⟩) 1 1] 232) := ⟨_,rfl⟩
  rw [← hw5]
  have hk5 : Keeps [] w3 w5 := by rw [hw5]; exact ((Keeps.refl _ _).alloc _).alloc _
  have hk25 : Keeps [] w2 w5 := hk3.trans hk5 (by simp)
  have hz5 : w5.heap.size = w3.heap.size + 2 := by rw [hw5]; simp
  have hb5 : w5.heap[w3.heap.size + 1]? = some (.cells #[.pointer (some ⟨pc,0,none⟩), .pointer (some ⟨pt,0,none⟩), .slice (some ⟨w2.heap.size,0,none⟩) n n, .slice (some ⟨w3.heap.size,0,none⟩) 1 1] 232 (0,0)) := by
    rw [hw5]
    have := blk_alloc_new (w := w3.alloc (.cells #[.int .i64 (-1)] 3 (0,0))) (.cells #[.pointer (some ⟨pc,0,none⟩), .pointer (some ⟨pt,0,none⟩), .slice (some ⟨w2.heap.size,0,none⟩) n n, .slice (some ⟨w3.heap.size,0,none⟩) 1 1] 232 (0,0))
    simpa using this
  have ht5 : w5.heap[w3.heap.size]? = some (.cells #[.int .i64 (-1)] 3 (0,0)) := by
    rw [hw5, blk_alloc_old _ (by simp), blk_alloc_new]
  have hF2 : ∀ b ∈ Fc, b < w2.heap.size := fun b hb => by have := hl1 b hb; omega
  refine ⟨(w3.heap.size + 1) :: pt :: gt :: w2.heap.size :: w3.heap.size :: Fc, w3.heap.size + 1,rfl, ⟨pc, pt, gt, w2.heap.size, w3.heap.size, 1, Fc,fun _ => none,fun _ => none,fun _ => none,fun _ => none,rfl, ⟨?_, hb5, (hc1.keep hk2 (by simp)).keep hk25 (by simp), hs2.keep hk25 (by simp) (by simp), _, ha.keep hk5 (by simp)⟩, ⟨?_,rfl⟩,?_, Tops.init⟩, (hk1.trans hk2 (by simp)).trans hk25 (by simp),?_⟩
  · simp only [List.nodup_cons, List.mem_cons, not_or]
    exact ⟨⟨by omega,by omega,by omega,fun e => by have := hF2 _ e; omega⟩, ⟨fun e => hne2 e.symm,by omega,fun e => by have := hl1 _ e; omega⟩, ⟨by omega,fun e => by have := hl1 _ e; omega⟩,fun e => by have := hF2 _ e; omega, hc1.nodup⟩
  · exact ⟨by simp [topsV], .inr ⟨w3.heap.size, 1, #[.int .i64 (-1)],rfl, Nat.zero_le _, ht5,by simp,by decide,by simp,by simp [topsV, oZ]⟩⟩
  · simp only [List.mem_cons, not_or]
    exact ⟨by omega,by omega,by omega,by omega,fun e => by have := hF2 _ e; omega⟩
  · intro b hb
    simp only [List.mem_cons] at hb
    rcases hb with rfl | rfl | rfl | rfl | rfl | hb
    · omega
    · omega
    · omega
    · omega
    · omega
    · exact hF1 b hb
end
structure PileOk (w : World) (p pc ga q : Nat) (ao : Option Addr) (ca : Nat) (vP : Value) (Fc : List Nat) (cap hs : Nat) (E : Ent) (n : Nat) (v : Nat → Nat) (f : Nat → Int) : Prop where
  bp : w.heap[p]? = some (.cells #[.pointer (some ⟨pc,0,none⟩), vP, .slice (some ⟨ga,0,none⟩) cap cap] 238 (0,0))
  bq : w.heap[q]? = some (.cells #[.pointer (some ⟨p,0,none⟩), .slice ao n ca] 482 (0,0))
  ce : CellsAt w Fc pc cap hs E
  ar : Arr w 3 1 cap ga (numV f)
  row : ∃ Lm : List Nat, Lm.length = n ∧ Rg.IR 0 w (.slice ao Lm.length ca) Lm ∧ ∀ j, j < n → Rg.fn Lm j = v j
  ne : p ≠ q ∧ p ≠ ga ∧ q ≠ ga ∧ p ∉ Fc ∧ q ∉ Fc ∧ ga ∉ Fc
  na : ∀ x, ao = some x → x.block ≠ p ∧ x.block ≠ q ∧ x.block ≠ ga ∧ x.block ∉ Fc
  pos : ∀ j, j < n → f (v j) = (j : Int)
  lt : ∀ j, j < n → v j < cap
  inj : Inj v n
def pfp (q : Nat) (ao : Option Addr) : List Nat := q :: ao.toList.map (·.block)
section
variable {w w' : World} {p pc ga q ca cap hs n i j : Nat} {ao : Option Addr} {vP : Value} {Fc S : List Nat} {E E' : Ent} {v : Nat → Nat} {f : Nat → Int}
theorem PileOk.keep (h : PileOk w p pc ga q ao ca vP Fc cap hs E n v f) (k : Keeps S w w') (hS : ∀ b ∈ p :: ga :: (pfp q ao ++ Fc), b ∉ S) : PileOk w' p pc ga q ao ca vP Fc cap hs E n v f := by
  obtain ⟨Lm, l1, l2, l3⟩ := h.row
  exact ⟨k.blk h.bp (hS p (by simp)), k.blk h.bq (hS q (by simp [pfp])), h.ce.keep k (fun b hb => hS b (by simp [hb])), h.ar.keep k (hS ga (by simp)), ⟨Lm, l1, ir_keep l2 k (fun x e => hS _ (by simp [pfp, e])), l3⟩, h.ne, h.na, h.pos, h.lt, h.inj⟩
theorem PileOk.cells (h : PileOk w p pc ga q ao ca vP Fc cap hs E n v f) (c : CellsAt w' Fc pc cap hs E') (k : Keeps Fc w w') : PileOk w' p pc ga q ao ca vP Fc cap hs E' n v f := by
  obtain ⟨Lm, l1, l2, l3⟩ := h.row
  obtain ⟨n1, n2, n3, n4, n5, n6⟩ := h.ne
  exact ⟨k.blk h.bp n4, k.blk h.bq n5, c, h.ar.keep k n6, ⟨Lm, l1, ir_keep l2 k (fun x e => (h.na x e).2.2.2), l3⟩, h.ne, h.na, h.pos, h.lt, h.inj⟩
theorem PileOk.same (h : PileOk w p pc ga q ao ca vP Fc cap hs E n v f) (k : Keeps [] w w') : PileOk w' p pc ga q ao ca vP Fc cap hs E n v f := h.keep k (by simp)
theorem PileOk.below (h : PileOk w p pc ga q ao ca vP Fc cap hs E n v f) : ∀ b ∈ p :: ga :: (pfp q ao ++ Fc), b < w.heap.size := by
  intro b hb
  simp only [List.mem_cons, List.mem_append, pfp, List.mem_map, Option.mem_toList] at hb
  rcases hb with rfl | rfl | (rfl | ⟨x, e,rfl⟩) | hb
  · exact lt_of_block h.bp
  · exact h.ar.lt
  · exact lt_of_block h.bq
  · obtain ⟨Lm, l1, l2, l3⟩ := h.row
    rcases l2.2 with ⟨h0, _⟩ | ⟨g, cap', cur, e', hb, hg, r⟩
    · simp only [Value.slice.injEq] at h0
      rw [h0.1] at e; cases e
    · cases e'; cases e; exact lt_of_block hg
  · exact h.ce.lt b hb
theorem PileOk.q0 (h : PileOk w p pc ga q ao ca vP Fc cap hs E n v f) : w.cell? ⟨q,0,none⟩ = some (.pointer (some ⟨p,0,none⟩)) := by rw [cell_of_blk h.bq]; rfl
theorem PileOk.q1 (h : PileOk w p pc ga q ao ca vP Fc cap hs E n v f) : w.cell? ⟨q,1,none⟩ = some (.slice ao n ca) := by rw [cell_of_blk h.bq]; rfl
theorem PileOk.p0 (h : PileOk w p pc ga q ao ca vP Fc cap hs E n v f) : w.cell? ⟨p,0,none⟩ = some (.pointer (some ⟨pc,0,none⟩)) := by rw [cell_of_blk h.bp]; rfl
theorem PileOk.p2 (h : PileOk w p pc ga q ao ca vP Fc cap hs E n v f) : w.cell? ⟨p,2,none⟩ = some (.slice (some ⟨ga,0,none⟩) cap cap) := by rw [cell_of_blk h.bp]; rfl
theorem PileOk.at (h : PileOk w p pc ga q ao ca vP Fc cap hs E n v f) (hi : i < n) : ∃ g, ao = some ⟨g,0,none⟩ ∧ g ≠ p ∧ g ≠ q ∧ g ≠ ga ∧ g ∉ Fc ∧ g < w.heap.size ∧ w.cell? ⟨g,i,none⟩ = some (.int .i64 (v i : Nat)) ∧ w.frozen? ⟨g,i,none⟩ = false := by
  obtain ⟨Lm, l1, l2, l3⟩ := h.row
  obtain ⟨g, e, hlt, _, hc⟩ := l2.at i (by omega)
  subst e
  obtain ⟨n1, n2, n3, n4⟩ := h.na _ rfl
  refine ⟨g,rfl, n1, n2, n3, n4, hlt,by rw [← l3 i hi]; exact hc,?_⟩
  rcases l2.2 with ⟨h0, _⟩ | ⟨g', cap', cur, e', hb, hg, r⟩
  · simp only [Value.slice.injEq] at h0; cases h0.1
  · cases e'; exact frozen_of_blk hg
theorem PileOk.pl (h : PileOk w p pc ga q ao ca vP Fc cap hs E n v f) (hi : i < n) : w.cell? ⟨ga, v i, none⟩ = some (.int .i64 (i : Int)) ∧ w.frozen? ⟨ga, v i, none⟩ = false := by
  have := h.ar.cell1 (h.lt i hi)
  simp only [numV, List.getElem?_cons_zero, h.pos i hi] at this
  exact ⟨this, h.ar.frozen _⟩
end
section
variable (w : World) (p pc ga q : Nat) (ao : Option Addr) (ca : Nat) (vP : Value) (Fc : List Nat) (cap hs : Nat) (E : Ent) (n : Nat) (v : Nat → Nat) (f : Nat → Int)
theorem pile_len (h : PileOk w p pc ga q ao ca vP Fc cap hs E n v f) : Calls Tryz.prog 443 #[.pointer (some ⟨q,0,none⟩)] w fun e w' => e = .returned (.int .i64 n) ∧ w = w' := by
  have q1 := h.q1
  clear h
  go_enter Tryz.func443, Tryz.ntmps443
  go_wp2
  go_ret
  exact ⟨rfl,rfl⟩
def LessDone (b : Bool) (e : Ending) (w' : World) : Prop := e = .returned (.bool b) ∧ PileOk w' p pc ga q ao ca vP Fc cap hs E n v f ∧ Keeps Fc w w'
theorem pile_less (h : PileOk w p pc ga q ao ca vP Fc cap hs E n v f) (i j : Nat) (hi : i < n) (hj : j < n) (hE : ∀ j, j < n → (E (v j)).isSome) :
    Calls Tryz.prog 452 #[.pointer (some ⟨q,0,none⟩), .int .i64 i, .int .i64 j] w (LessDone w p pc ga q ao ca vP Fc cap hs E n v f (ahead E (v i) (v j))) := by
  obtain ⟨g,rfl, g1, g2, g3, g4, g5, c1, _⟩ := h.at hi
  obtain ⟨g', e', _, _, _, _, _, c2, _⟩ := h.at hj
  cases e'
  have q0 := h.q0
  have q1 := h.q1
  have p0 := h.p0
  have hal := fun u (hu : CellsAt u Fc pc cap hs E) => cells_ahead u Fc pc cap hs E hu (v i) (v j) (hE i hi) (hE j hj)
  obtain ⟨n1, n2, n3, n4, n5, n6⟩ := h.ne
  have hql := h.below q (by simp [pfp])
  have hpl := h.below p (by simp)
  have hS : ∀ u, Keeps Fc w u → u.cell? ⟨q,0,none⟩ = some (.pointer (some ⟨p,0,none⟩)) ∧ u.cell? ⟨q,1,none⟩ = some (.slice (some ⟨g,0,none⟩) n ca) ∧ u.cell? ⟨p,0,none⟩ = some (.pointer (some ⟨pc,0,none⟩)) ∧ u.cell? ⟨g,i,none⟩ = some (.int .i64 (v i : Nat)) ∧ u.cell? ⟨g,j,none⟩ = some (.int .i64 (v j : Nat)) := fun u k =>
    ⟨(World.cell?_of_block (a := ⟨q,0,none⟩) (k.block q hql n5)).trans q0, (World.cell?_of_block (a := ⟨q,1,none⟩) (k.block q hql n5)).trans q1, (World.cell?_of_block (a := ⟨p,0,none⟩) (k.block p hpl n4)).trans p0,
      (World.cell?_of_block (a := ⟨g,i,none⟩) (k.block g g5 g4)).trans c1, (World.cell?_of_block (a := ⟨g,j,none⟩) (k.block g g5 g4)).trans c2⟩
  have kdr : Keeps Fc w w.drew := ⟨rfl,rfl,rfl, Nat.le_refl _,fun _ _ _ => rfl⟩
  have hi3 : (i : Int) < (n : Int) := by omega
  have hj3 : (j : Int) < (n : Int) := by omega
  go_enter Tryz.func452, Tryz.ntmps452
  go_wp2_with fail
  go_region_held3 (fun u => u.cell? ⟨q,0,none⟩ = some (.pointer (some ⟨p,0,none⟩)) ∧ u.cell? ⟨q,1,none⟩ = some (.slice (some ⟨g,0,none⟩) n ca) ∧ u.cell? ⟨p,0,none⟩ = some (.pointer (some ⟨pc,0,none⟩)) ∧ u.cell? ⟨g,i,none⟩ = some (.int .i64 (v i : Nat)) ∧ u.cell? ⟨g,j,none⟩ = some (.int .i64 (v j : Nat)))
    (first | exact hS _ kdr | exact hS _ (kdr.trans (by assumption) (fun _ h => .inl h)))
    (first
      | (go_at_call 339; refine (hal _ (by exact h.ce.drew)).mono ?_; rintro e w1 ⟨rfl, hc1, hk1⟩))
  all_goals
    go_wp2_with fail
    go_ret
    exact ⟨rfl, h.cells hc1 hk1.ofDrew, hk1.ofDrew⟩
end
end Go.Proofs.YtkdbjelhkfdfjaaGreatDoor


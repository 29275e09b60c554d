/-
  Contracts that the law rests on. Conditions: none.
-/
import Derived.Test.YtkdbjelhkfdfjaaGreatDoorQs09
import Derived.Deep.DeepCutAuto
import Derived.Deep.CutBlock
set_option linter.unusedVariables false
set_option maxRecDepth 100000
set_option maxHeartbeats 16000000
namespace Go.Proofs.YtkdbjelhkfdfjaaGreatDoor
open Go.RowKit
structure SkewMid (w : World) (p pc pt gt mb : Nat) (Fc : List Nat) (cap hs : Nat) (E : Ent) (L R U : Nat → Option Nat) : Prop where
  nd : (p :: pt :: gt :: mb :: Fc).Nodup
  blk : w.heap[p]? = some (.cells #[.pointer (some ⟨pc,0,none⟩), .pointer (some ⟨pt,0,none⟩), .map (some mb)] 235 (0,0))
  ce : CellsAt w Fc pc cap hs E
  sp : SpineAt w pt gt cap L R U
section
variable {w w' : World} {p pc pt gt mb cap hs : Nat} {Fc S : List Nat} {E E' : Ent} {L R U L' R' U' : Nat → Option Nat}
theorem SkewMid.ne (m : SkewMid w p pc pt gt mb Fc cap hs E L R U) : (p ≠ pt ∧ p ≠ gt ∧ p ≠ mb ∧ p ∉ Fc) ∧ (pt ≠ gt ∧ pt ≠ mb ∧ pt ∉ Fc) ∧ (gt ≠ mb ∧ gt ∉ Fc) ∧ mb ∉ Fc := by
  have := m.nd
  simp only [List.nodup_cons, List.mem_cons, not_or] at this
  obtain ⟨⟨a1, a2, a3, a4⟩, ⟨b1, b2, b3⟩, ⟨c1, c2⟩, d, _⟩ := this
  exact ⟨⟨a1, a2, a3, a4⟩, ⟨b1, b2, b3⟩, ⟨c1, c2⟩, d⟩
theorem SkewMid.keep (m : SkewMid w p pc pt gt mb Fc cap hs E L R U) (k : Keeps S w w') (hS : ∀ b ∈ p :: pt :: gt :: Fc, b ∉ S) : SkewMid w' p pc pt gt mb Fc cap hs E L R U :=
  ⟨m.nd, k.blk m.blk (hS p (by simp)), m.ce.keep k (fun b hb => hS b (by simp [hb])), m.sp.keep k (hS pt (by simp)) (hS gt (by simp))⟩
theorem SkewMid.below (m : SkewMid w p pc pt gt mb Fc cap hs E L R U) (k : Below w.heap.size w w') : SkewMid w' p pc pt gt mb Fc cap hs E L R U := m.keep (Below.keeps k (Nat.le_refl _) []) (by simp)
theorem SkewMid.drewN (m : SkewMid w p pc pt gt mb Fc cap hs E L R U) (n : Nat) : SkewMid (w.drewN n) p pc pt gt mb Fc cap hs E L R U := m.keep (S := []) ⟨rfl,rfl,rfl, Nat.le_refl _,fun _ _ _ => rfl⟩ (by simp)
theorem SkewMid.cells (m : SkewMid w p pc pt gt mb Fc cap hs E L R U) (c : CellsAt w' Fc pc cap hs E') (k : Keeps Fc w w') : SkewMid w' p pc pt gt mb Fc cap hs E' L R U := by
  obtain ⟨⟨a1, a2, a3, a4⟩, ⟨b1, b2, b3⟩, ⟨c1, c2⟩, d⟩ := m.ne
  exact ⟨m.nd, k.blk m.blk a4, c, m.sp.keep k b3 c2⟩
theorem SkewMid.spine (m : SkewMid w p pc pt gt mb Fc cap hs E L R U) (c : SpineLeft w pt gt cap L' R' U' w') : SkewMid w' p pc pt gt mb Fc cap hs E L' R' U' := by
  obtain ⟨⟨a1, a2, a3, a4⟩, ⟨b1, b2, b3⟩, ⟨c1, c2⟩, d⟩ := m.ne
  exact ⟨m.nd, c.2.blk m.blk (by simpa using a2), m.ce.keep c.2 (fun b hb e => by simp at e; subst e; exact c2 hb), c.1⟩
theorem SkewMid.lt (m : SkewMid w p pc pt gt mb Fc cap hs E L R U) : p < w.heap.size ∧ pt < w.heap.size ∧ gt < w.heap.size ∧ ∀ b ∈ Fc, b < w.heap.size := ⟨lt_of_block m.blk, m.sp.lt.1, m.sp.lt.2, m.ce.lt⟩
theorem SkewMid.c0 (m : SkewMid w p pc pt gt mb Fc cap hs E L R U) : w.cell? ⟨p,0,none⟩ = some (.pointer (some ⟨pc,0,none⟩)) := by rw [cell_of_blk m.blk]; rfl
theorem SkewMid.c1 (m : SkewMid w p pc pt gt mb Fc cap hs E L R U) : w.cell? ⟨p,1,none⟩ = some (.pointer (some ⟨pt,0,none⟩)) := by rw [cell_of_blk m.blk]; rfl
theorem SkewMid.c2 (m : SkewMid w p pc pt gt mb Fc cap hs E L R U) : w.cell? ⟨p,2,none⟩ = some (.map (some mb)) := by rw [cell_of_blk m.blk]; rfl
end
theorem oZ_none : oZ none = -1 := rfl
theorem oZ_some (x : Nat) : oZ (some x) = (x : Int) := rfl
theorem offU_no (U : Nat → Option Nat) : offU U none = U := rfl
theorem offU_yes (U : Nat → Option Nat) (z : Nat) : offU U (some z) = upd U z none := rfl
section
variable (w : World) (p pc pt gt mb : Nat) (Fc : List Nat) (cap hs : Nat) (E : Ent) (L R U : Nat → Option Nat)
theorem loose_R (m : SkewMid w p pc pt gt mb Fc cap hs E L R U) (u : Nat) (hz : ∀ z, R u = some z → U z = some u) :
    Calls Tryz.prog 432 #[.pointer (some ⟨p,0,none⟩), .int .i64 (((R u).getD 0 : Nat) : Int), .bool (R u).isSome] w fun e w' => e = .returned (.int .i64 (oZ (R u))) ∧ SpineLeft w pt gt cap L (upd R u none) (offU U (R u)) w' := by
  have c1 := m.c1
  cases e : R u with
  | none =>
    have hf : SpineLeft w pt gt cap L (upd R u none) (offU U none) w := by
      rw [show upd R u none = R by rw [← e]; exact upd_self R u, offU_no]
      exact ⟨m.sp, Keeps.refl _ _⟩
    go_enter Tryz.func432, Tryz.ntmps432
    go_wp2
    go_ret
    exact ⟨rfl, hf⟩
  | some z =>
    have hzc := m.sp.wf u z (.inr (.inl e))
    have hc := sp_cut_R w pt gt cap L R U m.sp z u hzc (hz z e) e
    rw [offU_yes]
    clear hz e
    go_enter Tryz.func432, Tryz.ntmps432
    go_wp2_with (go_at_call 407; refine hc.mono ?_; rintro e w' ⟨rfl, hs⟩)
    go_ret
    exact ⟨rfl, hs⟩
theorem loose_L (m : SkewMid w p pc pt gt mb Fc cap hs E L R U) (u : Nat) (hz : ∀ z, L u = some z → U z = some u ∧ R u ≠ some z) :
    Calls Tryz.prog 432 #[.pointer (some ⟨p,0,none⟩), .int .i64 (((L u).getD 0 : Nat) : Int), .bool (L u).isSome] w fun e w' => e = .returned (.int .i64 (oZ (L u))) ∧ SpineLeft w pt gt cap (upd L u none) R (offU U (L u)) w' := by
  have c1 := m.c1
  cases e : L u with
  | none =>
    have hf : SpineLeft w pt gt cap (upd L u none) R (offU U none) w := by
      rw [show upd L u none = L by rw [← e]; exact upd_self L u, offU_no]
      exact ⟨m.sp, Keeps.refl _ _⟩
    go_enter Tryz.func432, Tryz.ntmps432
    go_wp2
    go_ret
    exact ⟨rfl, hf⟩
  | some z =>
    have hzc := m.sp.wf u z (.inl e)
    have hc := sp_cut_L w pt gt cap L R U m.sp z u hzc (hz z e).1 e (hz z e).2
    rw [offU_yes]
    clear hz e
    go_enter Tryz.func432, Tryz.ntmps432
    go_wp2_with (go_at_call 407; refine hc.mono ?_; rintro e w' ⟨rfl, hs⟩)
    go_ret
    exact ⟨rfl, hs⟩
end
theorem oZ_max1 (o : Option Nat) : max (-1 : Int) (oZ o) = oZ o := by cases o with | none => simp [oZ] | some x => simp only [oZ]; omega
theorem rev_at (T S : List Nat) (x : Nat) : Rg.fn (T ++ x :: S).reverse S.length = x := by
  have : S.length = S.reverse.length := by simp
  rw [this]
  simp [Rg.fn, List.getD]
section
variable (w : World) (p pc pt gt mb : Nat) (Fc : List Nat) (cap hs : Nat) (E : Ent) (L R U : Nat → Option Nat) (To : Nat → Prop) (L0 R0 : Nat → Option Nat) (h : Nat)
def SkewDown (out a b : Value) (w' : World) : Prop :=
  ∃ (C : Option Nat) (S : List Nat) (L R U : Nat → Option Nat) (ao : Option Addr) (ca : Nat) (ia ib : Int), out = .slice ao S.length ca ∧ a = .int .i64 ia ∧ b = .int .i64 ib ∧ max ia ib = oZ C ∧
    Rg.IR w.heap.size w' out S.reverse ∧ Zip E L R U To L0 R0 h S C none ∧ SkewMid w' p pc pt gt mb Fc cap hs E L R U ∧ Keeps (gt :: Fc) w w' ∧ S.length ≤ cap
def SkewMerged (e : Ending) (w' : World) : Prop :=
  ∃ (C : Option Nat) (L R U : Nat → Option Nat), e = .returned (.int .i64 (oZ C)) ∧ SkewMid w' p pc pt gt mb Fc cap hs E L R U ∧ Zip E L R U To L0 R0 h [] C none ∧ Keeps (gt :: Fc) w w'
theorem skew_merge (A B : Option Nat) (m : SkewMid w p pc pt gt mb Fc cap hs E L R U) (z : Zip E L R U To L0 R0 h [] A B) :
    Calls Tryz.prog 430 #[.pointer (some ⟨p,0,none⟩), .int .i64 (oZ A), .int .i64 (oZ B)] w (SkewMerged w p pc pt gt mb Fc cap hs E To L0 R0 h) := by
  obtain ⟨l1, l2, l3, l4⟩ := m.lt
  have hbc := m.ce.ok.bc
  go_enter Tryz.func430, Tryz.ntmps430
  go_upto_block 0 with fail
  go_cut [7,1,2] (fun out a b wc => SkewDown w p pc pt gt mb Fc cap hs E To L0 R0 h out a b wc)
  case first =>
    go_wp2_with fail
    go_loopg [7,1,2] (cap + 1) (fun k out a b wr => ∃ (A B : Option Nat) (S : List Nat) (L R U : Nat → Option Nat) (ao : Option Addr) (ca : Nat), k + S.length = cap + 1 ∧ out = .slice ao S.length ca ∧ a = .int .i64 (oZ A) ∧ b = .int .i64 (oZ B) ∧
      Rg.IR w.heap.size wr out S.reverse ∧ Zip E L R U To L0 R0 h S A B ∧ SkewMid wr p pc pt gt mb Fc cap hs E L R U ∧ Keeps (gt :: Fc) w wr)
    case atStart => exact ⟨A, B, [], L, R, U, none, 0,by simp,rfl,rfl,rfl, Rg.IR.nil _ _, z, m, Keeps.refl _ _⟩
    case round =>
      clear z m
      obtain ⟨A, B, S, L, R, U, ao, ca, hk,rfl,rfl,rfl, hir, z, m, kp⟩ := hrel
      have HK := Lib.hid hk
      clear hk
      have hsc : S.length ≤ cap := nodup_len z.nd fun y hy => m.ce.ok.lt y (z.nm y hy).2.1.some
      cases A with
      | none =>
        have hm := oZ_max1 B
        have HM := Lib.hid hm
        clear hm
        simp only [oZ_none]
        go_wp2_with fail
        go_meet
        case rel => exact ⟨B, S, L, R, U, ao, ca, -1, oZ B,rfl,rfl,rfl, HM.out, hir, z.swap, m, kp, hsc⟩
      | some x =>
        have hx1 : ((x : Int) != -1) = true := by rw [bne_iff_ne]; omega
        cases B with
        | none =>
          simp only [oZ_none, oZ_some]
          go_wp2_with fail
          go_meet
          case rel => exact ⟨some x, S, L, R, U, ao, ca, x, -1,rfl,rfl,rfl,by simp only [oZ_some]; omega, hir, z, m, kp, hsc⟩
        | some y =>
          have hy1 : ((y : Int) != -1) = true := by rw [bne_iff_ne]; omega
          have hxs := (z.na x rfl).2.2
          have hys := (z.nb y rfl).2.2
          have hal := cells_ahead wr Fc pc cap hs E m.ce y x hys.some hxs.some
          have hxy : x ≠ y := fun e => z.ab x rfl (by rw [e])
          have hsl := z.len (fun q hq => m.ce.ok.lt q hq)
          simp only [oZ_some]
          have c0 := m.c0
          cases hb : ahead E y x with
          | true =>
            rw [hb] at hal
            have z2 := z.swap
            have HB := Lib.hid hb
            clear z hb hx1 hy1
            obtain ⟨u,rfl⟩ : ∃ u, u = y := ⟨y,rfl⟩
            obtain ⟨v,rfl⟩ : ∃ v, v = x := ⟨x,rfl⟩
            have hus := hys
            clear hxs hys hxy
            have hx1 : ((v : Int) != -1) = true := by rw [bne_iff_ne]; omega
            have hy1 : ((u : Int) != -1) = true := by rw [bne_iff_ne]; omega
            go_upto_region 5 with (go_at_call 339; refine hal.mono ?_; rintro e w1 ⟨rfl, hc1, hk1⟩)
            clear hal
            have m1 := m.cells hc1 hk1
            have hir1 := hir.keep hk1 (fun b hb => l4 b hb)
            have kp1 : Keeps (gt :: Fc) w w1 := kp.trans hk1 (fun b hb => .inl (by simp [hb]))
            have ks1 := kp1.size
            have hrow : w1.ownsRow 0 3 1 (.slice ao S.length ca) S.length (Rg.nCells S.reverse) := by
              have := hir1.lo (Nat.zero_le _)
              unfold Rg.IR at this
              rwa [List.length_reverse] at this
            clear hir hk1 hc1 kp m hsc
            go_upto_region 6 with (at_builtin; refine wpList_push _ 3 (.int .i64 (u : Int)) (0,0) rfl (.tmp 26) (.tmp 28) 28 rfl (.int .i64 0) 8 Tryz.underlying28 Rg.Tryz.infoInt rfl rfl _ S.length (Rg.nCells S.reverse) (by simp [Act.eval]) hrow (by simp [Act.eval]) (by unfold maxLen; omega) (by omega) ?_; intro g' cap' w4 hr4 hk4 hf4)
            have hown : ∀ b ∈ (Value.slice ao S.length ca).ownBlock.toList, w.heap.size ≤ b := fun b hb => (hir1.own b (by simpa using hb)).1
            have hg' : w.heap.size ≤ g' := by
              rcases hf4 with h1 | h1
              · exact hown g' (by simpa using h1)
              · omega
            have hir4 : Rg.IR w.heap.size w4 (.slice (some ⟨g',0,none⟩) (S.length + 1) cap') (u :: S).reverse := by
              rw [List.reverse_cons]
              have := Rg.IR.pushed (B := w.heap.size) (L := S.reverse) (x := u) (by rw [List.length_reverse]; exact hr4) hg'
              rwa [List.length_reverse] at this
            have kp4 : Keeps (gt :: Fc) w w4 := kp1.trans hk4 (fun b hb => .inr (hown b hb))
            have m4 := m1.keep hk4 (fun b hb e => by
              have h1 := hown b e
              simp only [List.mem_cons] at hb
              rcases hb with rfl | rfl | rfl | hb
              · omega
              · omega
              · omega
              · have := l4 b hb; omega)
            have hu := m4.ce.ok.lt u hus.some
            have hz := Lib.hid (fun z e => (z2.bin.right u z e).1)
            have d1 := m4.c1
            clear hr4 hk4 hf4 hown hrow hir1 m1 kp1
            go_wp2_with (first
              | (go_at_call 412; refine (sp_Right w4 pt gt cap L R U m4.sp u hu).mono ?_; rintro e w' ⟨rfl, mm,rfl⟩)
              | (go_at_call 432; refine (loose_R _ p pc pt gt mb Fc cap hs E L R U (m4.drewN _) u hz.out).mono ?_; rintro e w5 ⟨rfl, hs5⟩))
            have k5 : Keeps [gt] w4 w5 := ((Keeps.refl [gt] w4).drewN mm).trans hs5.2 (by simp)
            go_roundg (gk - 1)
            case measure => have := HK.out; omega
            case rel => exact ⟨R u, some v, u :: S, L, upd R u none, offU U (R u), some ⟨g',0,none⟩, cap',by have := HK.out; simp only [List.length_cons]; omega,rfl,rfl,rfl, hir4.keep k5 (by simpa using l3), z2.step HB.out, (m4.drewN mm).spine hs5, kp4.trans k5 (by simp)⟩
          | false =>
            rw [hb] at hal
            have hb2 : ahead E x y = true := by
              rcases ahead_tot hxs.some hys.some hxy with c | c
              · exact c
              · rw [hb] at c; cases c
            have z2 := z
            have HB := Lib.hid hb2
            clear z hb hb2 hx1 hy1
            obtain ⟨u,rfl⟩ : ∃ u, u = x := ⟨x,rfl⟩
            obtain ⟨v,rfl⟩ : ∃ v, v = y := ⟨y,rfl⟩
            have hus := hxs
            clear hxs hys hxy
            have hx1 : ((u : Int) != -1) = true := by rw [bne_iff_ne]; omega
            have hy1 : ((v : Int) != -1) = true := by rw [bne_iff_ne]; omega
            go_upto_region 5 with (go_at_call 339; refine hal.mono ?_; rintro e w1 ⟨rfl, hc1, hk1⟩)
            clear hal
            have m1 := m.cells hc1 hk1
            have hir1 := hir.keep hk1 (fun b hb => l4 b hb)
            have kp1 : Keeps (gt :: Fc) w w1 := kp.trans hk1 (fun b hb => .inl (by simp [hb]))
            have ks1 := kp1.size
            have hrow : w1.ownsRow 0 3 1 (.slice ao S.length ca) S.length (Rg.nCells S.reverse) := by
              have := hir1.lo (Nat.zero_le _)
              unfold Rg.IR at this
              rwa [List.length_reverse] at this
            clear hir hk1 hc1 kp m hsc
            go_upto_region 6 with (at_builtin; refine wpList_push _ 3 (.int .i64 (u : Int)) (0,0) rfl (.tmp 26) (.tmp 28) 28 rfl (.int .i64 0) 8 Tryz.underlying28 Rg.Tryz.infoInt rfl rfl _ S.length (Rg.nCells S.reverse) (by simp [Act.eval]) hrow (by simp [Act.eval]) (by unfold maxLen; omega) (by omega) ?_; intro g' cap' w4 hr4 hk4 hf4)
            have hown : ∀ b ∈ (Value.slice ao S.length ca).ownBlock.toList, w.heap.size ≤ b := fun b hb => (hir1.own b (by simpa using hb)).1
            have hg' : w.heap.size ≤ g' := by
              rcases hf4 with h1 | h1
              · exact hown g' (by simpa using h1)
              · omega
            have hir4 : Rg.IR w.heap.size w4 (.slice (some ⟨g',0,none⟩) (S.length + 1) cap') (u :: S).reverse := by
              rw [List.reverse_cons]
              have := Rg.IR.pushed (B := w.heap.size) (L := S.reverse) (x := u) (by rw [List.length_reverse]; exact hr4) hg'
              rwa [List.length_reverse] at this
            have kp4 : Keeps (gt :: Fc) w w4 := kp1.trans hk4 (fun b hb => .inr (hown b hb))
            have m4 := m1.keep hk4 (fun b hb e => by
              have h1 := hown b e
              simp only [List.mem_cons] at hb
              rcases hb with rfl | rfl | rfl | hb
              · omega
              · omega
              · omega
              · have := l4 b hb; omega)
            have hu := m4.ce.ok.lt u hus.some
            have hz := Lib.hid (fun z e => (z2.bin.right u z e).1)
            have d1 := m4.c1
            clear hr4 hk4 hf4 hown hrow hir1 m1 kp1
            go_wp2_with (first
              | (go_at_call 412; refine (sp_Right w4 pt gt cap L R U m4.sp u hu).mono ?_; rintro e w' ⟨rfl, mm,rfl⟩)
              | (go_at_call 432; refine (loose_R _ p pc pt gt mb Fc cap hs E L R U (m4.drewN _) u hz.out).mono ?_; rintro e w5 ⟨rfl, hs5⟩))
            have k5 : Keeps [gt] w4 w5 := ((Keeps.refl [gt] w4).drewN mm).trans hs5.2 (by simp)
            go_roundg (gk - 1)
            case measure => have := HK.out; omega
            case rel => exact ⟨R u, some v, u :: S, L, upd R u none, offU U (R u), some ⟨g',0,none⟩, cap',by have := HK.out; simp only [List.length_cons]; omega,rfl,rfl,rfl, hir4.keep k5 (by simpa using l3), z2.step HB.out, (m4.drewN mm).spine hs5, kp4.trans k5 (by simp)⟩
  case rest =>
    clear m z
    obtain ⟨C, S, L, R, U, ao, ca, ia, ib,rfl,rfl,rfl, hmax, hir, z, m, kp, hsc⟩ := hcut
    have HMAX := Lib.hid hmax
    clear hmax
    obtain ⟨wd,rfl⟩ : ∃ wd, wd = wc := ⟨wc,rfl⟩
    go_upto_region 7 with fail
    go_cut [8] (fun r w2 => r = .int .i64 (oZ C) ∧ w2 = wd)
    case first =>
      go_wp2_with fail
      all_goals
        go_meet
        case rel => exact ⟨by rw [← HMAX.out]; congr 1; omega,rfl⟩
    obtain ⟨rfl,rfl⟩ := hcut
    go_wp2_with fail
    go_loopg [8,9] (S.length + 1) (fun k r i wr => ∃ (C : Option Nat) (T S' : List Nat) (L R U : Nat → Option Nat) (iz : Int), S = T ++ S' ∧ k = S'.length + 1 ∧ iz + 1 = (S'.length : Int) ∧ r = .int .i64 (oZ C) ∧ i = .int .i64 iz ∧
      Zip E L R U To L0 R0 h S' C none ∧ SkewMid wr p pc pt gt mb Fc cap hs E L R U ∧ Keeps (gt :: Fc) w wr ∧ Keeps [gt] wc wr)
    case atStart => exact ⟨C, [], S, L, R, U, (S.length : Int) - 1,rfl,rfl,by omega,rfl,rfl, z, m, kp, Keeps.refl _ _⟩
    case round =>
      clear z m kp
      obtain ⟨C, T, S', L, R, U, iz, hST, hk, hiz,rfl,rfl, z, m, kp, kq⟩ := hrel
      have HK := Lib.hid hk
      have HST := Lib.hid hST
      clear hk hST
      cases S' with
      | nil =>
        obtain rfl : iz = -1 := by simp at hiz; omega
        clear hiz
        go_wp2_with fail
        go_ret
        exact ⟨C, L, R, U,rfl, m, z, kp⟩
      | cons x S2 =>
        obtain rfl : iz = (S2.length : Int) := by simp at hiz; omega
        clear hiz
        have hlen : S2.length < S.length := by rw [HST.out]; simp; omega
        obtain ⟨g, hao, glt, _, c9⟩ := (hir.keep kq (by simpa using l3)).at S2.length (by rw [List.length_reverse]; exact hlen)
        rw [HST.out, rev_at] at c9
        subst hao
        obtain ⟨x1, x2, x3⟩ := z.nm x (by simp)
        have hnd := (List.nodup_cons.1 z.nd).1
        have hx := m.ce.ok.lt x x2.some
        have d1 := m.c1
        have hlen3 : (S2.length : Int) < (S.length : Int) := by omega
        cases C with
        | none =>
          have z3 := z.back.turn hnd x1
          rw [show upd R x none = R by rw [← x3]; exact upd_self R x] at z3
          have Z3 := Lib.hid z3
          have X3 := Lib.hid x3
          clear z z3 x3
          simp only [oZ_none]
          go_wp2_with (go_at_call 422; refine (sp_turn wr pt gt cap L R U m.sp x hx).mono ?_; rintro e w5 ⟨rfl, hs5⟩)
          go_roundg (gk - 1)
          case measure => have := HK.out; simp at this; omega
          case rel => exact ⟨some x, T ++ [x], S2, _, _, _, (S2.length : Int) - 1,by rw [HST.out]; simp,by have := HK.out; simp at this; omega,by omega,rfl,rfl, Z3.out, m.spine hs5, kp.trans hs5.2 (by simp), kq.trans hs5.2 (by simp)⟩
        | some r =>
          obtain ⟨r1, r2, r3⟩ := z.na r rfl
          have hr := m.ce.ok.lt r r3.some
          have hur := (z.bin.top r (.inr (.inr (.inl rfl)))).2
          have hxr : x ≠ r := by rintro rfl; exact r1 (by simp)
          have z3 := z.back.turn hnd x1
          have Z3 := Lib.hid z3
          have hh := sp_hang wr pt gt cap L R U m.sp x r hx hr hxr hur x3
          have hr1 : ((r : Int) != -1) = true := by rw [bne_iff_ne]; omega
          clear z z3 x3 hur
          simp only [oZ_some]
          go_upto_region 14 with (go_at_call 414; refine hh.mono ?_; rintro e w5 ⟨rfl, hs5⟩)
          clear hh d1
          have m5 := m.spine hs5
          have d1 := m5.c1
          go_wp2_with (go_at_call 422; refine (sp_turn w5 pt gt cap _ _ _ m5.sp x hx).mono ?_; rintro e w6 ⟨rfl, hs6⟩)
          go_roundg (gk - 1)
          case measure => have := HK.out; simp at this; omega
          case rel => exact ⟨some x, T ++ [x], S2, _, _, _, (S2.length : Int) - 1,by rw [HST.out]; simp,by have := HK.out; simp at this; omega,by omega,rfl,rfl, Z3.out, m5.spine hs6, (kp.trans hs5.2 (by simp)).trans hs6.2 (by simp), (kq.trans hs5.2 (by simp)).trans hs6.2 (by simp)⟩
end
def tieV (A B C : Nat → Option Nat) (i : Nat) : List Value := [.int .i64 (oZ (A i)), .int .i64 (oZ (B i)), .int .i64 (oZ (C i))]
structure TieAt (w : World) (g n : Nat) (A B C : Nat → Option Nat) : Prop where
  arr : Arr w 218 3 n g (tieV A B C)
  wf : ∀ x y, A x = some y ∨ B x = some y ∨ C x = some y → y < n
section
variable {w w' : World} {g n : Nat} {A B C : Nat → Option Nat} {S : List Nat}
theorem TieAt.keep (h : TieAt w g n A B C) (k : Keeps S w w') (h2 : g ∉ S) : TieAt w' g n A B C := ⟨h.arr.keep k h2, h.wf⟩
theorem TieAt.a (h : TieAt w g n A B C) {x : Nat} (hx : x < n) : w.cell? ⟨g, x * 3, none⟩ = some (.int .i64 (oZ (A x))) := by
  have := h.arr.cell hx (j := 0) (by omega)
  simpa [tieV] using this
theorem TieAt.b (h : TieAt w g n A B C) {x : Nat} (hx : x < n) : w.cell? ⟨g, x * 3 + 1, none⟩ = some (.int .i64 (oZ (B x))) := by
  have := h.arr.cell hx (j := 1) (by omega)
  simpa [tieV] using this
theorem TieAt.c (h : TieAt w g n A B C) {x : Nat} (hx : x < n) : w.cell? ⟨g, x * 3 + 2, none⟩ = some (.int .i64 (oZ (C x))) := by
  have := h.arr.cell hx (j := 2) (by omega)
  simpa [tieV] using this
theorem TieAt.frozen (h : TieAt w g n A B C) (i : Nat) : w.frozen? ⟨g,i,none⟩ = false := h.arr.frozen i
theorem TieAt.setA (h : TieAt w g n A B C) {x : Nat} (hx : x < n) {o : Option Nat} (ho : ∀ y, o = some y → y < n) : TieAt (w.setCell ⟨g, x * 3, none⟩ (.int .i64 (oZ o))) g n (upd A x o) B C := by
  refine ⟨(h.arr.set hx (j := 0) (by omega) (.int .i64 (oZ o))).congr fun i _ => ?_,?_⟩
  · by_cases c : i = x
    · subst c; rw [upd_same]; simp [tieV, upd_same]
    · rw [upd_other _ _ c]; simp [tieV, upd_other _ _ c]
  · intro a b c
    by_cases e : a = x
    · subst e
      rw [upd_same] at c
      rcases c with c | c | c
      · exact ho b c
      · exact h.wf a b (.inr (.inl c))
      · exact h.wf a b (.inr (.inr c))
    · rw [upd_other _ _ e] at c; exact h.wf a b c
theorem TieAt.setB (h : TieAt w g n A B C) {x : Nat} (hx : x < n) {o : Option Nat} (ho : ∀ y, o = some y → y < n) : TieAt (w.setCell ⟨g, x * 3 + 1, none⟩ (.int .i64 (oZ o))) g n A (upd B x o) C := by
  refine ⟨(h.arr.set hx (j := 1) (by omega) (.int .i64 (oZ o))).congr fun i _ => ?_,?_⟩
  · by_cases c : i = x
    · subst c; rw [upd_same]; simp [tieV, upd_same]
    · rw [upd_other _ _ c]; simp [tieV, upd_other _ _ c]
  · intro a b c
    by_cases e : a = x
    · subst e
      rw [upd_same] at c
      rcases c with c | c | c
      · exact h.wf a b (.inl c)
      · exact ho b c
      · exact h.wf a b (.inr (.inr c))
    · rw [upd_other _ _ e] at c; exact h.wf a b c
theorem TieAt.setC (h : TieAt w g n A B C) {x : Nat} (hx : x < n) {o : Option Nat} (ho : ∀ y, o = some y → y < n) : TieAt (w.setCell ⟨g, x * 3 + 2, none⟩ (.int .i64 (oZ o))) g n A B (upd C x o) := by
  refine ⟨(h.arr.set hx (j := 2) (by omega) (.int .i64 (oZ o))).congr fun i _ => ?_,?_⟩
  · by_cases c : i = x
    · subst c; rw [upd_same]; simp [tieV, upd_same]
    · rw [upd_other _ _ c]; simp [tieV, upd_other _ _ c]
  · intro a b c
    by_cases e : a = x
    · subst e
      rw [upd_same] at c
      rcases c with c | c | c
      · exact h.wf a b (.inl c)
      · exact h.wf a b (.inr (.inl c))
      · exact ho b c
    · rw [upd_other _ _ e] at c; exact h.wf a b c
end
structure PairMid (w : World) (p pc gt : Nat) (vT : Value) (Fc : List Nat) (cap hs : Nat) (E : Ent) (A B C : Nat → Option Nat) : Prop where
  nd : (p :: gt :: Fc).Nodup
  blk : w.heap[p]? = some (.cells #[.pointer (some ⟨pc,0,none⟩), .slice (some ⟨gt,0,none⟩) cap cap, vT] 216 (0,0))
  ce : CellsAt w Fc pc cap hs E
  ti : TieAt w gt cap A B C
section
variable {w w' : World} {p pc gt cap hs : Nat} {vT : Value} {Fc S : List Nat} {E E' : Ent} {A B C A' B' C' : Nat → Option Nat}
theorem PairMid.ne (m : PairMid w p pc gt vT Fc cap hs E A B C) : (p ≠ gt ∧ p ∉ Fc) ∧ gt ∉ Fc := by
  have := m.nd
  simp only [List.nodup_cons, List.mem_cons, not_or] at this
  exact ⟨this.1, this.2.1⟩
theorem PairMid.keep (m : PairMid w p pc gt vT Fc cap hs E A B C) (k : Keeps S w w') (hS : ∀ b ∈ p :: gt :: Fc, b ∉ S) : PairMid w' p pc gt vT Fc cap hs E A B C :=
  ⟨m.nd, k.blk m.blk (hS p (by simp)), m.ce.keep k (fun b hb => hS b (by simp [hb])), m.ti.keep k (hS gt (by simp))⟩
theorem PairMid.below (m : PairMid w p pc gt vT Fc cap hs E A B C) (k : Below w.heap.size w w') : PairMid w' p pc gt vT Fc cap hs E A B C := m.keep (Below.keeps k (Nat.le_refl _) []) (by simp)
theorem PairMid.drewN (m : PairMid w p pc gt vT Fc cap hs E A B C) (n : Nat) : PairMid (w.drewN n) p pc gt vT Fc cap hs E A B C := m.keep (S := []) ⟨rfl,rfl,rfl, Nat.le_refl _,fun _ _ _ => rfl⟩ (by simp)
theorem PairMid.cells (m : PairMid w p pc gt vT Fc cap hs E A B C) (c : CellsAt w' Fc pc cap hs E') (k : Keeps Fc w w') : PairMid w' p pc gt vT Fc cap hs E' A B C :=
  ⟨m.nd, k.blk m.blk m.ne.1.2, c, m.ti.keep k m.ne.2⟩
theorem PairMid.ties (m : PairMid w p pc gt vT Fc cap hs E A B C) (t : TieAt w' gt cap A' B' C') (k : Keeps [gt] w w') : PairMid w' p pc gt vT Fc cap hs E A' B' C' :=
  ⟨m.nd, k.blk m.blk (by simpa using m.ne.1.1), m.ce.keep k (fun b hb e => by simp at e; subst e; exact m.ne.2 hb), t⟩
theorem PairMid.lt (m : PairMid w p pc gt vT Fc cap hs E A B C) : p < w.heap.size ∧ gt < w.heap.size ∧ ∀ b ∈ Fc, b < w.heap.size := ⟨lt_of_block m.blk, m.ti.arr.lt, m.ce.lt⟩
theorem PairMid.c0 (m : PairMid w p pc gt vT Fc cap hs E A B C) : w.cell? ⟨p,0,none⟩ = some (.pointer (some ⟨pc,0,none⟩)) := by rw [cell_of_blk m.blk]; rfl
theorem PairMid.c1 (m : PairMid w p pc gt vT Fc cap hs E A B C) : w.cell? ⟨p,1,none⟩ = some (.slice (some ⟨gt,0,none⟩) cap cap) := by rw [cell_of_blk m.blk]; rfl
theorem PairMid.c2 (m : PairMid w p pc gt vT Fc cap hs E A B C) : w.cell? ⟨p,2,none⟩ = some vT := by rw [cell_of_blk m.blk]; rfl
end
def PairL (w : World) (p pc gt : Nat) (vT : Value) (Fc : List Nat) (cap hs : Nat) (E : Ent) (h : Nat) (top : Nat → Option Nat) (Z l : List Nat) : Prop :=
  ∃ (K : Nat → List Nat) (kid next back U : Nat → Option Nat), PairMid w p pc gt vT Fc cap hs E kid next back ∧ Pair E K kid next back U h l top ∧ ∀ z ∈ Z, K z = []
section
variable (w : World) (p pc gt : Nat) (vT : Value) (Fc : List Nat) (cap hs : Nat) (E : Ent) (h : Nat) (top : Nat → Option Nat) (Z l : List Nat)
theorem link_none (b : Int) : Calls Tryz.prog 378 #[.pointer (some ⟨p,0,none⟩), .int .i64 (-1), .int .i64 b] w fun e w' => e = .returned (.int .i64 b) ∧ w = w' := by
  go_enter Tryz.func378, Tryz.ntmps378
  go_wp2
  go_ret
  exact ⟨rfl,rfl⟩
theorem link_one (a : Nat) : Calls Tryz.prog 378 #[.pointer (some ⟨p,0,none⟩), .int .i64 a, .int .i64 (-1)] w fun e w' => e = .returned (.int .i64 a) ∧ w = w' := by
  have ha : ((a : Int) == -1) = false := by rw [beq_eq_false_iff_ne]; omega
  go_enter Tryz.func378, Tryz.ntmps378
  go_wp2
  go_ret
  exact ⟨rfl,rfl⟩
def Linked (a b : Nat) (e : Ending) (w' : World) : Prop :=
  ∃ c d : Nat, e = .returned (.int .i64 c) ∧ ((c = a ∧ d = b) ∨ (c = b ∧ d = a)) ∧ (∀ l', l'.Nodup → (∀ y, y ∈ l' ↔ y ∈ l ∧ y ≠ d) → PairL w' p pc gt vT Fc cap hs E h top Z l') ∧ Keeps (gt :: Fc) w w'
theorem link_two (s : PairL w p pc gt vT Fc cap hs E h top Z l) (a b : Nat) (ha : a ∈ l) (hb : b ∈ l) (hne : a ≠ b) (hza : a ∉ Z) (hzb : b ∉ Z) :
    Calls Tryz.prog 378 #[.pointer (some ⟨p,0,none⟩), .int .i64 a, .int .i64 b] w (Linked w p pc gt vT Fc cap hs E h top Z l a b) := by
  obtain ⟨K, kid, next, back, U, m, z, hZ⟩ := s
  have hea := ((z.here a).1 ha).1
  have heb := ((z.here b).1 hb).1
  have hac := m.ce.ok.lt a hea.some
  have hbc := m.ce.ok.lt b heb.some
  have hal := cells_ahead w Fc pc cap hs E m.ce b a heb.some hea.some
  have c0 := m.c0
  have hna : ((a : Int) == -1) = false := by rw [beq_eq_false_iff_ne]; omega
  have hnb : ((b : Int) == -1) = false := by rw [beq_eq_false_iff_ne]; omega
  have hmain : ∀ (u v : Nat) (w1 : World), u ∈ l → v ∈ l → u < cap → v < cap → u ∉ Z → u ≠ v → ahead E u v = true → CellsAt w1 Fc pc cap hs E → Keeps Fc w w1 →
      PairMid w1 p pc gt vT Fc cap hs E kid next back ∧ ∀ w2, TieAt w2 gt cap (upd kid u (some v)) (upd next v (kid u)) (backOf kid back u v) → Keeps [gt] w1 w2 →
        (∀ l', l'.Nodup → (∀ y, y ∈ l' ↔ y ∈ l ∧ y ≠ v) → PairL w2 p pc gt vT Fc cap hs E h top Z l') ∧ Keeps (gt :: Fc) w w2 := by
    intro u v w1 hu hv huc hvc hzu huv hah hc1 hk1
    have m1 := m.cells hc1 hk1
    refine ⟨m1,fun w2 t2 k2 => ⟨fun l' hn hl' => ⟨_, _, _, _, _, m1.ties t2 k2, z.link hu hv hah hl' hn,fun z' hz' => ?_⟩, (hk1.mono (T := gt :: Fc) fun b hb => .inl (by simp [hb])).trans k2 (by simp)⟩⟩
    have : z' ≠ u := by rintro rfl; exact hzu hz'
    rw [upd_other K _ this]; exact hZ z' hz'
  have HM := Lib.hid hmain
  have HTOT := Lib.hid (ahead_tot hea.some heb.some hne)
  have HAL := Lib.hid hal
  clear hmain hal z m hZ hea heb
  cases hbb : ahead E b a with
  | true =>
    have hal := HAL.out
    rw [hbb] at hal
    obtain ⟨u,rfl⟩ : ∃ u, u = b := ⟨b,rfl⟩
    obtain ⟨v,rfl⟩ : ∃ v, v = a := ⟨a,rfl⟩
    have HB := Lib.hid hbb
    clear hbb
    go_enter Tryz.func378, Tryz.ntmps378
    go_upto_region 7 with (go_at_call 339; refine hal.mono ?_; rintro e w1 ⟨rfl, hc1, hk1⟩)
    obtain ⟨m1, hfin⟩ := HM.out u v w1 hb ha hbc hac hzb (fun e => hne e.symm) HB.out hc1 hk1
    clear hal
    have d1 := m1.c1
    have D1 := Lib.hid d1
    have t1 := m1.ti
    have hpg : p ≠ gt := m1.ne.1.1
    have e0 := t1.a (x := u) (by assumption)
    have e1 := t1.b (x := v) (by assumption)
    have e2 := t1.c (x := v) (by assumption)
    have f1 := t1.frozen (v * 3 + 1)
    have f2 := t1.frozen (v * 3 + 2)
    have hu3 : (u : Int) < (cap : Int) := by omega
    have hv3 : (v : Int) < (cap : Int) := by omega
    have hvn : v < cap := by assumption
    have hun : u < cap := by assumption
    have hup : u < cap := by assumption
    have hb1 := hc1.lt
    have hpl : p < w1.heap.size := m1.lt.1
    cases hk : kid u with
    | none =>
      rw [hk] at e0
      simp only [oZ_none] at e0
      have t2 := ((t1.setB hvn (o := none) (by simp)).setC hvn (o := some u) (by rintro y e; cases e; exact hun)).keep (S := []) (w' := (((w1.setCell ⟨gt, v * 3 + 1, none⟩ (.int .i64 (-1))).setCell ⟨gt, v * 3 + 2, none⟩ (.int .i64 (u : Int))).drew)) ⟨rfl,rfl,rfl, Nat.le_refl _,fun _ _ _ => rfl⟩ (by simp)
      have k2 : Keeps [gt] w1 (((w1.setCell ⟨gt, v * 3 + 1, none⟩ (.int .i64 (-1))).setCell ⟨gt, v * 3 + 2, none⟩ (.int .i64 (u : Int))).drew) := (((Keeps.refl _ _).setCell (.inl (by simp)) _).setCell (.inl (by simp)) _).drew
      go_upto_region 8 with fail
      go_region
      all_goals
        generalize (((w1.setCell ⟨gt, v * 3 + 1, none⟩ (.int .i64 (-1))).setCell ⟨gt, v * 3 + 2, none⟩ (.int .i64 (u : Int))).drew) = w2 at *
        have d2 : w2.cell? ⟨p,1,none⟩ = some (.slice (some ⟨gt,0,none⟩) cap cap) := (World.cell?_of_block (a := ⟨p,1,none⟩) (k2.block p hpl (by simpa using hpg))).trans d1
        have g0 := t2.a (x := u) hun
        have h0 := t2.frozen (u * 3)
        have t3 := t2.setA hun (o := some v) (by rintro y e; cases e; exact hvn)
        have k3 : Keeps [gt] w1 (w2.setCell ⟨gt, u * 3, none⟩ (.int .i64 (v : Int))) := k2.setCell (.inl (by simp)) _
        rw [← backOf_none hk] at t3
        have hfi := hfin _ (by rw [hk]; exact t3) k3
        have HFI := Lib.hid hfi
        clear hfin hfi t3 k3 d1 e0 e1 e2 f1 f2 t1 m1 k2 t2 hk
        go_wp2_with fail
        go_ret
        exact ⟨u, v,rfl, .inr ⟨rfl,rfl⟩, HFI.out.1, HFI.out.2⟩
    | some z =>
      have hzn := t1.wf u z (.inl hk)
      have hz3 : (z : Int) < (cap : Int) := by omega
      have hzb : ((z : Int) != -1) = true := by rw [bne_iff_ne]; omega
      rw [hk] at e0
      simp only [oZ_some] at e0
      have t2 := ((t1.setB hvn (o := some z) (by rintro y e; cases e; exact hzn)).setC hvn (o := some u) (by rintro y e; cases e; exact hun)).keep (S := []) (w' := (((w1.setCell ⟨gt, v * 3 + 1, none⟩ (.int .i64 (z : Int))).setCell ⟨gt, v * 3 + 2, none⟩ (.int .i64 (u : Int))).drew)) ⟨rfl,rfl,rfl, Nat.le_refl _,fun _ _ _ => rfl⟩ (by simp)
      have k2 : Keeps [gt] w1 (((w1.setCell ⟨gt, v * 3 + 1, none⟩ (.int .i64 (z : Int))).setCell ⟨gt, v * 3 + 2, none⟩ (.int .i64 (u : Int))).drew) := (((Keeps.refl _ _).setCell (.inl (by simp)) _).setCell (.inl (by simp)) _).drew
      go_upto_region 8 with fail
      go_region
      all_goals
        generalize (((w1.setCell ⟨gt, v * 3 + 1, none⟩ (.int .i64 (z : Int))).setCell ⟨gt, v * 3 + 2, none⟩ (.int .i64 (u : Int))).drew) = w2 at *
        have d2 : w2.cell? ⟨p,1,none⟩ = some (.slice (some ⟨gt,0,none⟩) cap cap) := (World.cell?_of_block (a := ⟨p,1,none⟩) (k2.block p hpl (by simpa using hpg))).trans d1
        have g0 := t2.c (x := z) hzn
        have h0 := t2.frozen (z * 3 + 2)
        have t3 := t2.setC hzn (o := some v) (by rintro y e; cases e; exact hvn)
        rw [oZ_some] at t3
        have k3 : Keeps [gt] w1 (w2.setCell ⟨gt, z * 3 + 2, none⟩ (.int .i64 (v : Int))) := k2.setCell (.inl (by simp)) _
        clear d1 e0 e1 e2 f1 f2 t1 m1 t2 k2
        go_upto_region 11 with fail
        clear g0 h0 d2
        generalize w2.setCell ⟨gt, z * 3 + 2, none⟩ (.int .i64 (v : Int)) = w3 at *
        have d2 : w3.cell? ⟨p,1,none⟩ = some (.slice (some ⟨gt,0,none⟩) cap cap) := (World.cell?_of_block (a := ⟨p,1,none⟩) (k3.block p hpl (by simpa using hpg))).trans D1.out
        have g0 := t3.a (x := u) hun
        have h0 := t3.frozen (u * 3)
        have t4 := t3.setA hun (o := some v) (by rintro y e; cases e; exact hvn)
        have k4 : Keeps [gt] w1 (w3.setCell ⟨gt, u * 3, none⟩ (.int .i64 (v : Int))) := k3.setCell (.inl (by simp)) _
        rw [← backOf_some hk] at t4
        have hfi := hfin _ (by rw [hk]; exact t4) k4
        have HFI := Lib.hid hfi
        clear hfin hfi t4 k4 t3 k3 hk
        go_wp2_with fail
        go_ret
        exact ⟨u, v,rfl, .inr ⟨rfl,rfl⟩, HFI.out.1, HFI.out.2⟩
  | false =>
    have hal := HAL.out
    rw [hbb] at hal
    have hab : ahead E a b = true := by
      rcases HTOT.out with c | c
      · exact c
      · rw [hbb] at c; cases c
    obtain ⟨u,rfl⟩ : ∃ u, u = a := ⟨a,rfl⟩
    obtain ⟨v,rfl⟩ : ∃ v, v = b := ⟨b,rfl⟩
    have HB := Lib.hid hab
    clear hbb hab
    go_enter Tryz.func378, Tryz.ntmps378
    go_upto_region 7 with (go_at_call 339; refine hal.mono ?_; rintro e w1 ⟨rfl, hc1, hk1⟩)
    obtain ⟨m1, hfin⟩ := HM.out u v w1 ha hb hac hbc hza hne HB.out hc1 hk1
    clear hal
    have d1 := m1.c1
    have D1 := Lib.hid d1
    have t1 := m1.ti
    have hpg : p ≠ gt := m1.ne.1.1
    have e0 := t1.a (x := u) (by assumption)
    have e1 := t1.b (x := v) (by assumption)
    have e2 := t1.c (x := v) (by assumption)
    have f1 := t1.frozen (v * 3 + 1)
    have f2 := t1.frozen (v * 3 + 2)
    have hu3 : (u : Int) < (cap : Int) := by omega
    have hv3 : (v : Int) < (cap : Int) := by omega
    have hvn : v < cap := by assumption
    have hun : u < cap := by assumption
    have hup : u < cap := by assumption
    have hb1 := hc1.lt
    have hpl : p < w1.heap.size := m1.lt.1
    cases hk : kid u with
    | none =>
      rw [hk] at e0
      simp only [oZ_none] at e0
      have t2 := ((t1.setB hvn (o := none) (by simp)).setC hvn (o := some u) (by rintro y e; cases e; exact hun)).keep (S := []) (w' := (((w1.setCell ⟨gt, v * 3 + 1, none⟩ (.int .i64 (-1))).setCell ⟨gt, v * 3 + 2, none⟩ (.int .i64 (u : Int))).drew)) ⟨rfl,rfl,rfl, Nat.le_refl _,fun _ _ _ => rfl⟩ (by simp)
      have k2 : Keeps [gt] w1 (((w1.setCell ⟨gt, v * 3 + 1, none⟩ (.int .i64 (-1))).setCell ⟨gt, v * 3 + 2, none⟩ (.int .i64 (u : Int))).drew) := (((Keeps.refl _ _).setCell (.inl (by simp)) _).setCell (.inl (by simp)) _).drew
      go_upto_region 8 with fail
      go_region
      all_goals
        generalize (((w1.setCell ⟨gt, v * 3 + 1, none⟩ (.int .i64 (-1))).setCell ⟨gt, v * 3 + 2, none⟩ (.int .i64 (u : Int))).drew) = w2 at *
        have d2 : w2.cell? ⟨p,1,none⟩ = some (.slice (some ⟨gt,0,none⟩) cap cap) := (World.cell?_of_block (a := ⟨p,1,none⟩) (k2.block p hpl (by simpa using hpg))).trans d1
        have g0 := t2.a (x := u) hun
        have h0 := t2.frozen (u * 3)
        have t3 := t2.setA hun (o := some v) (by rintro y e; cases e; exact hvn)
        have k3 : Keeps [gt] w1 (w2.setCell ⟨gt, u * 3, none⟩ (.int .i64 (v : Int))) := k2.setCell (.inl (by simp)) _
        rw [← backOf_none hk] at t3
        have hfi := hfin _ (by rw [hk]; exact t3) k3
        have HFI := Lib.hid hfi
        clear hfin hfi t3 k3 d1 e0 e1 e2 f1 f2 t1 m1 k2 t2 hk
        go_wp2_with fail
        go_ret
        exact ⟨u, v,rfl, .inl ⟨rfl,rfl⟩, HFI.out.1, HFI.out.2⟩
    | some z =>
      have hzn := t1.wf u z (.inl hk)
      have hz3 : (z : Int) < (cap : Int) := by omega
      have hzb : ((z : Int) != -1) = true := by rw [bne_iff_ne]; omega
      rw [hk] at e0
      simp only [oZ_some] at e0
      have t2 := ((t1.setB hvn (o := some z) (by rintro y e; cases e; exact hzn)).setC hvn (o := some u) (by rintro y e; cases e; exact hun)).keep (S := []) (w' := (((w1.setCell ⟨gt, v * 3 + 1, none⟩ (.int .i64 (z : Int))).setCell ⟨gt, v * 3 + 2, none⟩ (.int .i64 (u : Int))).drew)) ⟨rfl,rfl,rfl, Nat.le_refl _,fun _ _ _ => rfl⟩ (by simp)
      have k2 : Keeps [gt] w1 (((w1.setCell ⟨gt, v * 3 + 1, none⟩ (.int .i64 (z : Int))).setCell ⟨gt, v * 3 + 2, none⟩ (.int .i64 (u : Int))).drew) := (((Keeps.refl _ _).setCell (.inl (by simp)) _).setCell (.inl (by simp)) _).drew
      go_upto_region 8 with fail
      go_region
      all_goals
        generalize (((w1.setCell ⟨gt, v * 3 + 1, none⟩ (.int .i64 (z : Int))).setCell ⟨gt, v * 3 + 2, none⟩ (.int .i64 (u : Int))).drew) = w2 at *
        have d2 : w2.cell? ⟨p,1,none⟩ = some (.slice (some ⟨gt,0,none⟩) cap cap) := (World.cell?_of_block (a := ⟨p,1,none⟩) (k2.block p hpl (by simpa using hpg))).trans d1
        have g0 := t2.c (x := z) hzn
        have h0 := t2.frozen (z * 3 + 2)
        have t3 := t2.setC hzn (o := some v) (by rintro y e; cases e; exact hvn)
        rw [oZ_some] at t3
        have k3 : Keeps [gt] w1 (w2.setCell ⟨gt, z * 3 + 2, none⟩ (.int .i64 (v : Int))) := k2.setCell (.inl (by simp)) _
        clear d1 e0 e1 e2 f1 f2 t1 m1 t2 k2
        go_upto_region 11 with fail
        clear g0 h0 d2
        generalize w2.setCell ⟨gt, z * 3 + 2, none⟩ (.int .i64 (v : Int)) = w3 at *
        have d2 : w3.cell? ⟨p,1,none⟩ = some (.slice (some ⟨gt,0,none⟩) cap cap) := (World.cell?_of_block (a := ⟨p,1,none⟩) (k3.block p hpl (by simpa using hpg))).trans D1.out
        have g0 := t3.a (x := u) hun
        have h0 := t3.frozen (u * 3)
        have t4 := t3.setA hun (o := some v) (by rintro y e; cases e; exact hvn)
        have k4 : Keeps [gt] w1 (w3.setCell ⟨gt, u * 3, none⟩ (.int .i64 (v : Int))) := k3.setCell (.inl (by simp)) _
        rw [← backOf_some hk] at t4
        have hfi := hfin _ (by rw [hk]; exact t4) k4
        have HFI := Lib.hid hfi
        clear hfin hfi t4 k4 t3 k3 hk
        go_wp2_with fail
        go_ret
        exact ⟨u, v,rfl, .inl ⟨rfl,rfl⟩, HFI.out.1, HFI.out.2⟩
end
section
variable {P : Program}
theorem step_push {ops : Array Oper} {o : Oper} {a : Act} {K : Act → World → Prop} {Q : Exit → Act → World → Prop} {E : Prop} (hgd : o.guard = none) (s x : Operand) (t e : TypeId)
    (ho : o.op = .call { callee := .builtin .append, args := #[s, x], argTypes := #[t, t] })
    (z : Value) (ht : P.underlying t = some (.slice e)) (hi : (P.info? e).map (fun i => (i.zero, i.size, i.bytes)) = some (some z, 1,8)) (hzs : z.cells.size = 1)
    (B : Nat) (w W : World) (y : Value) (hy : y.oneCell' = true) (c : Nat × Nat) (hB : B ≤ w.heap.size) (hW : W.heap = (w.alloc (.cells #[y] e c)).heap) (hW1 : W.os = w.os) (hW2 : W.tape = w.tape) (hW3 : W.output = w.output)
    (v : Value) (n : Nat) (xs : List Value) (hs : a.eval s = v) (hown : w.ownsRow B e 1 v n xs) (hx : a.eval x = .slice (some ⟨w.heap.size,0,none⟩) 1 1)
    (h63 : n + 1 ≤ maxLen) (hbytes : (n + 1) * 8 ≤ 140737488355328)
    (h : ∀ v' w', w'.ownsRow B e 1 v' (n + 1) (xs ++ [y]) → Keeps v.ownBlock.toList w w' → K (a.put o.dst v') w') :
    if Region.wanted o (yielded ops a.tmps) = true then Oper.wp P o a W K Q else E := by
  obtain ⟨i, hi, hz, hsize, hby⟩ := info_parts hi
  have hw : Region.wanted o (yielded ops a.tmps) = true := by simp [Region.wanted, hgd]
  rw [if_pos hw]
  have hownW : W.ownsRow B e 1 v n xs := by
    have := hown.alloc (.cells #[y] e c)
    refine ⟨this.1,?_⟩
    rw [hW]; exact this.2
  have hcell : ∀ j u, ([y] : List Value)[j]? = some u → W.cell? ((⟨w.heap.size,0,none⟩ : Addr).add j) = some u := by
    intro j u hj
    match j, hj with
    | 0, hj =>
      simp at hj; subst hj
      have : W.heap[w.heap.size]? = some (.cells #[y] e c) := by rw [hW]; exact blk_alloc_new _
      show W.cell? ⟨w.heap.size,0,none⟩ = _
      rw [cell_of_blk this]; rfl
  have hBW : B ≤ W.heap.size := by rw [hW]; simp; omega
  obtain ⟨v', w', hr, h2, h3, _, h5⟩ := run_append_own_at (P := P) W B t o.type e i z 1 8 ht hi hz hsize hby hzs (by decide) v n xs hownW ⟨w.heap.size,0,none⟩ 1 1 [y] rfl hcell (by intro u hu; simp at hu; subst hu; exact hy) h63 hbytes hBW
  have k1 : Keeps [] w W := by
    have k : Keeps [] w (w.alloc (.cells #[y] e c)) := (Keeps.refl _ _).alloc _
    exact ⟨hW1.trans k.os, hW2.trans k.tape, hW3.trans k.output,by rw [hW]; exact k.size,by rw [hW]; exact k.block⟩
  have k2 : Keeps v.ownBlock.toList W w' := (Keeps.refl _ _).grown h3 (fun k e => .inl (by simp [e]))
  have hfin := h v' w' h2 ((k1.mono (T := v.ownBlock.toList) (by simp)).trans k2 fun _ hb => .inl hb)
  unfold Oper.wp execOp
  simp only [ho, resolve, invoke, builtin, Sem.run_bind, Sem.run_pure, Result.andThen_ok, List.map_toArray, List.map_cons, List.map_nil, hs, hx, hr]
  exact hfin
end
theorem ir_of {B : Nat} {w : World} {v : Value} {L : List Nat} {x : Nat} (h : w.ownsRow B 3 1 v (L.length + 1) (Rg.nCells L ++ [.int .i64 (x : Int)])) : Rg.IR B w v (L ++ [x]) := by
  unfold Rg.IR
  rw [List.length_append, List.length_singleton, Rg.nCells_append]
  simpa [Rg.nCells] using h
section
variable (w : World) (p pc gt : Nat) (vT : Value) (Fc : List Nat) (cap hs : Nat) (E : Ent) (h : Nat) (top : Nat → Option Nat)
def KidsDone (l : List Nat) (e : Ending) (w' : World) : Prop := ∃ v, e = .returned v ∧ Rg.IR w.heap.size w' v l ∧ Below w.heap.size w w'
theorem kids_calls (K : Nat → List Nat) (kid next back U : Nat → Option Nat) (m : PairMid w p pc gt vT Fc cap hs E kid next back) (t : Ties K kid next back U) (x : Nat) (hx : isIn E h x) :
    Calls Tryz.prog 380 #[.pointer (some ⟨p,0,none⟩), .int .i64 x] w (KidsDone w (K x)) := by
  have hxc := m.ce.ok.lt x hx.some
  have hbc := m.ce.ok.bc
  have hhome := cells_home w Fc pc cap hs E m.ce x h hx
  have c0 := m.c0
  have hkc : ∀ y ∈ K x, y < cap := by
    intro y hy
    obtain ⟨i, hi, e⟩ := List.mem_iff_getElem.1 hy
    cases i with
    | zero => exact m.ti.wf x y (.inl (by rw [t.kid, List.getElem?_eq_getElem hi, e]))
    | succ i =>
      have hi' : i < (K x).length := by omega
      have hn := t.nx x i _ (List.getElem?_eq_getElem hi')
      exact m.ti.wf _ y (.inr (.inl (by rw [hn, List.getElem?_eq_getElem hi, e])))
  have hlen : (K x).length ≤ cap := nodup_len (t.nd x) hkc
  have hk0 := t.kid x
  have hnx := t.nx x
  have hA : ∀ u, Below w.heap.size w u → u.cell? ⟨p,1,none⟩ = some (.slice (some ⟨gt,0,none⟩) cap cap) ∧ (∀ y, y < cap → u.cell? ⟨gt, y * 3, none⟩ = some (.int .i64 (oZ (kid y)))) ∧ (∀ y, y < cap → u.cell? ⟨gt, y * 3 + 1, none⟩ = some (.int .i64 (oZ (next y)))) := fun u hb =>
    have m' := m.below hb
    ⟨m'.c1,fun y hy => m'.ti.a hy,fun y hy => m'.ti.b hy⟩
  obtain ⟨l, hl⟩ : ∃ l, K x = l := ⟨_,rfl⟩
  rw [hl] at hkc hlen hk0 hnx ⊢
  have HA := Lib.hid hA
  have HNX := Lib.hid hnx
  have HK0 := Lib.hid hk0
  have HKC := Lib.hid hkc
  clear hA hnx hk0 hkc hl t m
  have hx3 : (x : Int) < (cap : Int) := by omega
  go_enter Tryz.func380, Tryz.ntmps380
  go_upto_region 5 with (go_at_call 302; refine hhome.mono ?_; rintro e w1 ⟨rfl, n1,rfl⟩)
  have hb0 : Below w.heap.size w (w.drewN n1) := ⟨rfl,rfl,rfl, Nat.le_refl _,fun _ _ => rfl⟩
  obtain ⟨d1, d2, _⟩ := HA.out _ hb0
  have d3 := d2 x hxc
  rw [HK0.out] at d3
  clear d2
  generalize w.drewN n1 = w0 at *
  go_wp2_with fail
  go_loopg [7,8] (l.length + 1) (fun m s t wr => ∃ (i : Nat) (ao : Option Addr) (ca : Nat), m + i = l.length + 1 ∧ i ≤ l.length ∧ s = .slice ao i ca ∧ t = .int .i64 (oZ (l[i]?)) ∧ Rg.IR w.heap.size wr s (l.take i) ∧ Below w.heap.size w wr)
  case atStart => exact ⟨0, none, 0,by omega,by omega,rfl,rfl, Rg.IR.nil _ _, hb0⟩
  case round =>
    clear hb0 d1 d3
    obtain ⟨i, ao, ca, hk, hi,rfl,rfl, hir, hb⟩ := hrel
    have HK := Lib.hid hk
    clear hk
    rcases Nat.lt_or_ge i l.length with hlt | hge
    · obtain ⟨y, hy⟩ : ∃ y, l[i]? = some y := ⟨_, List.getElem?_eq_getElem hlt⟩
      have hyc := HKC.out y (List.mem_of_getElem? hy)
      have hnext := HNX.out i y hy
      have hyb : ((y : Int) != -1) = true := by rw [bne_iff_ne]; omega
      have htk : l.take (i + 1) = l.take i ++ [y] := by
        rw [List.take_add_one, hy]; rfl
      have hlt2 : (l.take i).length = i := by simp; omega
      have HY := Lib.hid hy
      rw [hy]
      simp only [oZ_some]
      clear hy
      have hrow : wr.ownsRow 0 3 1 (.slice ao i ca) i (Rg.nCells (l.take i)) := by
        have := hir.lo (Nat.zero_le _)
        unfold Rg.IR at this
        rwa [hlt2] at this
      have hsz := hb.size
      have HTK := Lib.hid htk
      have HNEXT := Lib.hid hnext
      clear htk hnext
      go_upto_region 7 with (at_builtin; refine wpList_push _ 3 (.int .i64 (y : Int)) (0,0) rfl (.tmp 38) (.tmp 40) 28 rfl (.int .i64 0) 8 Tryz.underlying28 Rg.Tryz.infoInt rfl rfl _ i (Rg.nCells (l.take i)) (by simp [Act.eval]) hrow (by simp [Act.eval]) (by unfold maxLen; omega) (by omega) ?_; intro g' cap' w4 hr4 hk4 hf4)
      have hown : ∀ b ∈ (Value.slice ao i ca).ownBlock.toList, w.heap.size ≤ b := fun b hb => (hir.own b (by simpa using hb)).1
      have hg' : w.heap.size ≤ g' := by
        rcases hf4 with h1 | h1
        · exact hown g' (by simpa using h1)
        · omega
      have hir4 : Rg.IR w.heap.size w4 (.slice (some ⟨g',0,none⟩) (i + 1) cap') (l.take (i + 1)) := by
        rw [HTK.out]
        have := Rg.IR.pushed (B := w.heap.size) (L := l.take i) (x := y) (by rw [hlt2]; exact hr4) hg'
        rwa [hlt2] at this
      have hb4 := hb.trans (hk4.below hsz hown)
      obtain ⟨d1, _, d2⟩ := HA.out _ hb4
      have d3 := d2 y hyc
      rw [HNEXT.out] at d3
      have hy3 : (y : Int) < (cap : Int) := by omega
      clear d2 hr4 hk4 hf4 hown hrow hir hb
      go_wp2_with fail
      go_roundg (gk - 1)
      case measure => have := HK.out; omega
      case rel => exact ⟨i + 1, _, _,by have := HK.out; omega,by omega,rfl,rfl, hir4, hb4⟩
    · obtain rfl : i = l.length := by omega
      rw [show l[l.length]? = none from List.getElem?_eq_none (Nat.le_refl _), List.take_length] at *
      simp only [oZ_none]
      go_wp2_with fail
      go_ret
      exact ⟨_,rfl, hir, hb⟩
end
section
variable {P : Program}
theorem wpList_app_at (w : World) (B : Nat) {ops : Array Oper} {rest : List Oper} {o : Oper} {a : Act} {Q : Exit → Act → World → Prop} (hgd : o.guard = none) (s x : Operand) (t : TypeId)
    (ho : o.op = .call { callee := .builtin .append, args := #[s, x], argTypes := #[t, t] })
    (e : TypeId) (z : Value) (bytes : Nat) (ht : P.underlying t = some (.slice e)) (hi : (P.info? e).map (fun i => (i.zero, i.size, i.bytes)) = some (some z, 1, bytes)) (hzs : z.cells.size = 1)
    (v : Value) (n : Nat) (xs : List Value) (hs : a.eval s = v) (hown : w.ownsRow B e 1 v n xs)
    (ad : Addr) (m c : Nat) (news : List Value) (hx : a.eval x = .slice (some ad) m c) (hl : news.length = m) (hnews : ∀ j u, news[j]? = some u → w.cell? (ad.add j) = some u) (h1 : ∀ u ∈ news, u.oneCell' = true)
    (h63 : n + m ≤ maxLen) (hbytes : (n + m) * bytes ≤ 140737488355328) (hB : B ≤ w.heap.size)
    (h : ∀ v' w', w'.ownsRow B e 1 v' (n + m) (xs ++ news) → Keeps v.ownBlock.toList w w' → wpList P ops Q rest (a.put o.dst v') w') : wpList P ops Q (o :: rest) a w := by
  obtain ⟨i, hi, hz, hsize, hby⟩ := info_parts hi
  refine wpList_plain hgd fun K hK => ?_
  obtain ⟨v', w', hr, h2, h3, _, _⟩ := run_append_own_at (P := P) w B t o.type e i z 1 bytes ht hi hz hsize hby hzs (by decide) v n xs hown ad m c news (by rw [hl]; omega) hnews h1 h63 hbytes hB
  unfold Oper.wp execOp
  simp only [ho, resolve, invoke, builtin, Sem.run_bind, Sem.run_pure, Result.andThen_ok, List.map_toArray, List.map_cons, List.map_nil, hs, hx, hr]
  exact hK _ _ (h v' w' h2 ((Keeps.refl _ _).grown h3 (fun k e => .inl (by simp [e]))))
end
def CloneDone (w : World) (L : List Nat) (e : Ending) (w' : World) : Prop := ∃ v, e = .returned v ∧ Rg.IR w.heap.size w' v L ∧ Keeps [] w w'
theorem clone_ints (w : World) (ao : Option Addr) (ca : Nat) (L : List Nat) (h : Rg.IR 0 w (.slice ao L.length ca) L) (hl : L.length ≤ 65536) :
    Calls Tryz.prog 252 #[.slice ao L.length ca] w (CloneDone w L) := by
  have qT : ∀ (w : World) (a : Option Addr) (n c n' c' : Nat), (binOp .eql 28 (.slice a n c) (.slice none n' c')).run Tryz.prog w = .ok (.bool a.isNone) w := fun w a n c n' c' => Lib.run_eql_slice_nil w _ _ a n c n' c' Tryz.underlying28
  cases ao with
  | none =>
    have hL : L = [] := by
      rcases h.2 with ⟨_, h1⟩ | ⟨g, cap', cur, e, _⟩
      · exact List.length_eq_zero_iff.1 h1
      · simp at e
    subst hL
    clear h
    go_enter Tryz.func252, Tryz.ntmps252
    go_wp2_with fail
    go_ret
    exact ⟨_,rfl, Rg.IR.nil _ _, Keeps.refl _ _⟩
  | some ad =>
    have h0 : ∀ o, Rg.IR 0 (w.alloc o) (.slice (some ad) L.length ca) L := fun o => ir_keep h ((Keeps.refl [] _).alloc o) (by simp)
    have hcell : ∀ o j u, (Rg.nCells L)[j]? = some u → (w.alloc o).cell? (ad.add j) = some u := by
      intro o j u hj
      have hjl : j < L.length := by
        have := (List.getElem?_eq_some_iff.1 hj).1
        simpa [Rg.nCells] using this
      obtain ⟨g, e, _, _, c⟩ := (h0 o).at j hjl
      cases e
      rw [Addr.add_lit, Nat.zero_add, c]
      rw [← hj]
      simp [Rg.nCells, Rg.fn, List.getD, hjl]
    have hone : ∀ u ∈ Rg.nCells L, u.oneCell' = true := by
      intro u hu
      simp only [Rg.nCells, List.mem_map] at hu
      obtain ⟨x, _,rfl⟩ := hu
      rfl
    have hown : (w.alloc (.cells #[] 3 (0,0))).ownsRow w.heap.size 3 1 (.slice (some ⟨w.heap.size,0,none⟩) 0 0) 0 [] :=
      ⟨by simp, .inr ⟨w.heap.size, 0, #[],rfl, Nat.le_refl _, blk_alloc_new _, Nat.le_refl _,by decide,by simp,by simp⟩⟩
    have hfin : ∀ v' w', w'.ownsRow w.heap.size 3 1 v' (0 + L.length) ([] ++ Rg.nCells L) → Keeps (Value.slice (some ⟨w.heap.size,0,none⟩) 0 0).ownBlock.toList (w.alloc (.cells #[] 3 (0,0))) w' → CloneDone w L (.returned v') w' := by
      intro v' w' hr hk
      refine ⟨v',rfl,by unfold Rg.IR; simpa using hr,?_⟩
      exact ((Keeps.refl [] w).alloc _).trans hk (fun b hb => by simp [Value.ownBlock] at hb; subst hb; exact .inr (Nat.le_refl _))
    have HF := Lib.hid hfin
    have HC := Lib.hid hcell
    have H1 := Lib.hid hone
    clear hfin hcell hone h0 h
    have hnl : (Rg.nCells L).length = L.length := by simp [Rg.nCells]
    have HNL := Lib.hid hnl
    clear hnl
    go_enter Tryz.func252, Tryz.ntmps252
    go_wp2_with (at_builtin; refine wpList_app_at _ w.heap.size rfl (.tmp 5) (.tmp 6) 28 rfl 3 (.int .i64 0) 8 Tryz.underlying28 Rg.Tryz.infoInt rfl _ 0 [] (by simp [Act.eval]) hown ad L.length ca (Rg.nCells L) (by simp [Act.eval]) HNL.out (HC.out _) H1.out (by unfold maxLen; omega) (by omega) (by simp) ?_; intro v' w' hr hk; have hz := HF.out v' w' hr hk; have HZ := Lib.hid hz; clear hr hk hz)
    go_ret
    exact HZ.out
def SkewAt (w : World) (F : List Nat) (p cap hs : Nat) (E : Ent) : Prop :=
  ∃ (pc pt gt mb : Nat) (Fc : List Nat) (L R U top : Nat → Option Nat), F = p :: pt :: gt :: mb :: Fc ∧ SkewMid w p pc pt gt mb Fc cap hs E L R U ∧ IMap Tryz.prog 3 w mb (topN top hs) (topF top) ∧ Tops E L R U top
section
variable {w w' : World} {F S : List Nat} {p cap hs : Nat} {E : Ent}
theorem SkewAt.lt (h : SkewAt w F p cap hs E) : ∀ b ∈ F, b < w.heap.size := by
  obtain ⟨pc, pt, gt, mb, Fc, L, R, U, top,rfl, m, im, t⟩ := h
  obtain ⟨l1, l2, l3, l4⟩ := m.lt
  intro b hb
  simp only [List.mem_cons] at hb
  rcases hb with rfl | rfl | rfl | rfl | hb
  · exact l1
  · exact l2
  · exact l3
  · exact im.lt
  · exact l4 b hb
theorem SkewAt.mem (h : SkewAt w F p cap hs E) : p ∈ F := by
  obtain ⟨pc, pt, gt, mb, Fc, L, R, U, top,rfl, m, im, t⟩ := h
  simp
theorem SkewAt.keep (h : SkewAt w F p cap hs E) (k : Keeps S w w') (hS : ∀ b ∈ F, b ∉ S) : SkewAt w' F p cap hs E := by
  obtain ⟨pc, pt, gt, mb, Fc, L, R, U, top,rfl, m, im, t⟩ := h
  exact ⟨pc, pt, gt, mb, Fc, L, R, U, top,rfl, m.keep k (fun b hb => hS b (by simp only [List.mem_cons] at hb ⊢; rcases hb with c | c | c | c <;> simp [c])), im.keep k (hS mb (by simp)), t⟩
theorem SkewAt.ok (h : SkewAt w F p cap hs E) : EntOk E cap hs := by
  obtain ⟨pc, pt, gt, mb, Fc, L, R, U, top,rfl, m, im, t⟩ := h
  exact m.ce.ok
end
section
variable (w : World) (p pc pt gt mb : Nat) (Fc : List Nat) (cap hs : Nat) (E : Ent) (L R U top : Nat → Option Nat)
theorem skew_first (m : SkewMid w p pc pt gt mb Fc cap hs E L R U) (im : IMap Tryz.prog 3 w mb (topN top hs) (topF top)) (h : Nat) (hh : h ≤ 65536) :
    Calls Tryz.prog 431 #[.pointer (some ⟨p,0,none⟩), .int .i64 h] w fun e w' => e = .returned (.int .i64 (oZ (top h))) ∧ w = w' := by
  have c2 := m.c2
  have HM := Lib.hid im
  clear m im
  cases e : top h with
  | none =>
    have HT := Lib.hid (show topF top (h : Int) = none by rw [topF_at, e]; rfl)
    clear e
    go_enter Tryz.func431, Tryz.ntmps431
    go_wp2_with (at_lookup; refine wpList_imap_look_ok rfl _ _ rfl mapTy mb _ _ rfl HM.out (h : Int) rfl (WalkArith.wf_i64 (by omega)) ?_; rw [HT.out])
    go_ret
    exact ⟨rfl,rfl⟩
  | some x =>
    have HT := Lib.hid (show topF top (h : Int) = some (x : Int) by rw [topF_at, e]; rfl)
    clear e
    go_enter Tryz.func431, Tryz.ntmps431
    go_wp2_with (at_lookup; refine wpList_imap_look_ok rfl _ _ rfl mapTy mb _ _ rfl HM.out (h : Int) rfl (WalkArith.wf_i64 (by omega)) ?_; rw [HT.out])
    go_ret
    exact ⟨rfl,rfl⟩
def Crowned (h : Nat) (o : Option Nat) (e : Ending) (w' : World) : Prop := e = .returned (.tuple #[]) ∧ IMap Tryz.prog 3 w' mb (topN (upd top h o) hs) (topF (upd top h o)) ∧ Keeps [mb] w w'
theorem skew_crown (m : SkewMid w p pc pt gt mb Fc cap hs E L R U) (im : IMap Tryz.prog 3 w mb (topN top hs) (topF top)) (h : Nat) (h2 : h ≤ hs) (o : Option Nat) (ho : ∀ x, o = some x → x < cap) :
    Calls Tryz.prog 429 #[.pointer (some ⟨p,0,none⟩), .int .i64 h, .int .i64 (oZ o)] w (Crowned w mb hs top h o) := by
  have c2 := m.c2
  have hok := m.ce.ok
  have hbh := hok.bh
  have hbc := hok.bc
  have HM := Lib.hid im
  have HC : topN top hs < maxLen := by have := topN_le top hs; unfold maxLen; omega
  have HC2 := Lib.hid HC
  clear m im hok HC
  cases o with
  | none =>
    simp only [oZ_none]
    go_enter Tryz.func429, Tryz.ntmps429
    go_wp2_with (at_delete; go_loud (refine wpList_imap_del rfl _ _ rfl mapTy mb _ _ rfl HM.out (h : Int) rfl (WalkArith.wf_i64 (by omega)) ?_; intro w5 hm5 hg5; have HM5 := Lib.hid hm5; have HG5 := Lib.hid hg5; clear hm5 hg5))
    go_end0
    exact ⟨rfl,by rw [topN_del top hs h h2, topF_del]; exact HM5.out, (Keeps.refl _ _).grown HG5.out (by simp)⟩
  | some x =>
    simp only [oZ_some]
    have hx := ho x rfl
    have hxn : ((x : Int) == -1) = false := by rw [beq_eq_false_iff_ne]; omega
    clear ho
    go_enter Tryz.func429, Tryz.ntmps429
    go_wp2_with (at_mapUpdate; refine wpList_imap_put rfl _ _ _ rfl mapTy mb _ _ rfl HM.out HC2.out (h : Int) (x : Int) rfl rfl (WalkArith.wf_i64 (by omega)) (WalkArith.wf_i64 (by omega)) ?_; intro w5 hm5 hg5; have HM5 := Lib.hid hm5; have HG5 := Lib.hid hg5; clear hm5 hg5)
    go_end0
    exact ⟨rfl,by rw [topN_put top hs h x h2, topF_put]; exact HM5.out, (Keeps.refl _ _).grown HG5.out (by simp)⟩
end
section
variable (w : World) (F : List Nat) (p cap hs : Nat) (E : Ent)
theorem skew_min_yes (c : SkewAt w F p cap hs E) (h : Nat) (hh : h ≤ 65536) (hi : ∃ y, isIn E h y) :
    Calls Tryz.prog 428 #[.pointer (some ⟨p,0,none⟩), .int .i64 h] w fun e w' => (∃ x : Nat, e = .returned (.tuple #[.int .i64 x, .bool true]) ∧ least E h x) ∧ w = w' := by
  obtain ⟨pc, pt, gt, mb, Fc, L, R, U, top,rfl, m, im, t⟩ := c
  have hf := skew_first w p pc pt gt mb Fc cap hs E L R U top m im h hh
  have hn := fun y (hy : (E y).isSome) => m.ce.ok.lt y hy
  cases e : top h with
  | none =>
    obtain ⟨y, hy⟩ := hi
    exact absurd hy (t.none_of hn e y)
  | some x =>
    have hl := t.first hn e
    rw [e] at hf
    simp only [oZ_some] at hf
    have hxn : ((x : Int) == -1) = false := by rw [beq_eq_false_iff_ne]; omega
    have HL := Lib.hid hl
    clear hl e t m im hn hi
    go_enter Tryz.func428, Tryz.ntmps428
    go_wp2_with (go_at_call 431; refine hf.mono ?_; rintro e w' ⟨rfl,rfl⟩)
    go_ret2
    exact ⟨⟨x,rfl, HL.out⟩,rfl⟩
theorem skew_min_no (c : SkewAt w F p cap hs E) (h : Nat) (hh : h ≤ 65536) (hi : ∀ y, ¬ isIn E h y) :
    Calls Tryz.prog 428 #[.pointer (some ⟨p,0,none⟩), .int .i64 h] w fun e w' => e = .returned (.tuple #[.int .i64 0, .bool false]) ∧ w = w' := by
  obtain ⟨pc, pt, gt, mb, Fc, L, R, U, top,rfl, m, im, t⟩ := c
  have hf := skew_first w p pc pt gt mb Fc cap hs E L R U top m im h hh
  cases e : top h with
  | some x => exact absurd (t.mine h x e) (hi x)
  | none =>
    rw [e] at hf
    simp only [oZ_none] at hf
    clear e t m im hi
    go_enter Tryz.func428, Tryz.ntmps428
    go_wp2_with (go_at_call 431; refine hf.mono ?_; rintro e w' ⟨rfl,rfl⟩)
    go_ret2
    exact ⟨rfl,rfl⟩
def SkewIn (w : World) (F : List Nat) (p cap hs : Nat) (E' : Ent) (e : Ending) (w' : World) : Prop := e = .returned (.bool true) ∧ SkewAt w' F p cap hs E' ∧ Keeps F w w'
theorem skew_insert (c : SkewAt w F p cap hs E) (h x q : Nat) (k : Int) (h1 : 1 ≤ h) (h2 : h ≤ hs) (hx : x < cap) (he : E x = none) (hk : (Lit.int .i64 k).wf = true) (hq : (Lit.int .u64 (q : Int)).wf = true) :
    Calls Tryz.prog 426 #[.pointer (some ⟨p,0,none⟩), .int .i64 h, .int .i64 x, .agg #[.int .i64 k, .int .u64 (q : Int)]] w (SkewIn w F p cap hs (put E x (some (h, k, q)))) := by
  obtain ⟨pc, pt, gt, mb, Fc, L, R, U, top,rfl, m, im, t⟩ := c
  obtain ⟨l1, l2, l3, l4⟩ := m.lt
  have hbh := m.ce.ok.bh
  have hne := m.ne
  have hb0 : Below w.heap.size w (w.alloc (.cells #[.int .i64 k, .int .u64 (q : Int)] 104)) := (Below.refl _ w).alloc (Nat.le_refl _) _
  have e0 : (w.alloc (.cells #[.int .i64 k, .int .u64 (q : Int)] 104)).cell? ⟨w.heap.size,0,none⟩ = some (.int .i64 k) := by rw [cell_of_blk (blk_alloc_new _)]; rfl
  have e1 : (w.alloc (.cells #[.int .i64 k, .int .u64 (q : Int)] 104)).cell? ⟨w.heap.size,1,none⟩ = some (.int .u64 (q : Int)) := by rw [cell_of_blk (blk_alloc_new _)]; rfl
  have m0 := m.below hb0
  have im0 : IMap Tryz.prog 3 (w.alloc (.cells #[.int .i64 k, .int .u64 (q : Int)] 104)) mb (topN top hs) (topF top) := im.keep (Below.keeps hb0 (Nat.le_refl _) []) (by simp)
  have hz := t.insert he (k, q) (h := h)
  have HZ := Lib.hid hz
  have HT := Lib.hid t
  have HE := Lib.hid he
  have HN := Lib.hid hne
  have HI := Lib.hid im
  clear hz t m im he hne
  go_enter Tryz.func426, Tryz.ntmps426
  go_upto_region 1 with fail
  have hw0 : w.heap.size < (w.alloc (.cells #[.int .i64 k, .int .u64 (q : Int)] 104)).heap.size := by simp
  generalize w.alloc (.cells #[.int .i64 k, .int .u64 (q : Int)] 104) = w0 at *
  have d0 := m0.c0
  have hS : ∀ u, Keeps Fc w0 u → u.cell? ⟨p,0,none⟩ = some (.pointer (some ⟨pc,0,none⟩)) ∧ u.cell? ⟨w.heap.size,0,none⟩ = some (.int .i64 k) ∧ u.cell? ⟨w.heap.size,1,none⟩ = some (.int .u64 (q : Int)) := fun u kk =>
    have hz : w.heap.size ∉ Fc := fun e => Nat.lt_irrefl _ (l4 _ e)
    ⟨(World.cell?_of_block (a := ⟨p,0,none⟩) (kk.block p m0.lt.1 HN.out.1.2.2.2)).trans d0, (World.cell?_of_block (a := ⟨_,0,none⟩) (kk.block _ hw0 hz)).trans e0, (World.cell?_of_block (a := ⟨_,1,none⟩) (kk.block _ hw0 hz)).trans e1⟩
  have hput := fun u (hu : CellsAt u Fc pc cap hs E) => cells_put u Fc pc cap hs E hu h x q k h1 h2 hx HE.out hk hq
  go_region_held3 (fun w' => w'.cell? ⟨p,0,none⟩ = some (.pointer (some ⟨pc,0,none⟩)) ∧ w'.cell? ⟨w.heap.size,0,none⟩ = some (.int .i64 k) ∧ w'.cell? ⟨w.heap.size,1,none⟩ = some (.int .u64 (q : Int))) (first | exact ⟨d0, e0, e1⟩ | exact q1)
    (first
      | (go_at_call 316; refine (hput _ (m0.drewN 1).ce).mono ?_; rintro e w1 ⟨rfl, hc1, hk1⟩; have q1 := hS w1 hk1.ofDrew))
  all_goals
    obtain ⟨⟨a1, a2, a3, a4⟩, ⟨b1, b2, b3⟩, ⟨c1, c2⟩, cd⟩ := HN.out
    have k1 : Keeps Fc w0 w1 := hk1.ofDrew
    have m1 := m0.cells hc1 k1
    have im1 := im0.keep k1 cd
    have hf := skew_first w1 p pc pt gt mb Fc cap hs _ L R U top m1 im1 h (by omega)
    have hmg := skew_merge w1 p pc pt gt mb Fc cap hs _ L R U _ L R h (top h) (some x) m1 HZ.out
    rw [oZ_some] at hmg
    have kw : Keeps (gt :: Fc) w w1 := (Below.keeps hb0 (Nat.le_refl _) _).trans k1 (fun b hb => .inl (by simp [hb]))
    have d1 := m1.c0
    clear d0 e0 e1 m0 im0 hput hk1 hc1 k1 hS q1
    go_upto_region 3 with fail
    go_wp2_with (first
      | (go_at_call 431; refine hf.mono ?_; rintro e w' ⟨rfl,rfl⟩)
      | (go_at_call 430; refine hmg.mono ?_; rintro e w2 ⟨C, L', R', U',rfl, m2, z2, k2⟩; have im2 := im1.keep k2 (by simp; exact ⟨fun e => c1 e.symm, cd⟩); have hcr := skew_crown w2 p pc pt gt mb Fc cap hs _ L' R' U' top m2 im2 h h2 C (fun y e => m2.ce.ok.lt y (z2.na y e).2.2.some))
      | (go_at_call 429; refine hcr.mono ?_; rintro e w3 ⟨rfl, im3, k3⟩))
    go_ret
    have ht : Tops (put E x (some (h, k, q))) L' R' U' (upd top h C) := Tops.merged z2 (fun y => Iff.rfl) (fun g t' hg e => by
      have h1 := HT.out.mine g t' e
      have hne : t' ≠ x := by rintro rfl; have := h1.some; rw [HE.out] at this; cases this
      exact (isIn_put_other hne).2 h1)
    exact ⟨rfl, ⟨pc, pt, gt, mb, Fc, L', R', U', upd top h C,rfl, m2.keep k3 (by simp; exact ⟨a3, b2, c1,fun b hb e => cd (e ▸ hb)⟩), im3, ht⟩, (kw.mono (fun b hb => .inl (by simp only [List.mem_cons] at hb ⊢; rcases hb with c | c <;> simp [c]))).trans ((k2.mono (T := p :: pt :: gt :: mb :: Fc) (fun b hb => .inl (by simp only [List.mem_cons] at hb ⊢; rcases hb with c | c <;> simp [c]))).trans k3 (by simp)) (fun b hb => .inl hb)⟩
end
def halfU (U : Nat → Option Nat) (a b : Option Nat) (i j : Bool) : Nat → Option Nat := fun y => if (i = true ∧ a = some y) ∨ (j = true ∧ b = some y) then none else U y
theorem halfU_none (U : Nat → Option Nat) (a b : Option Nat) : halfU U a b false false = U := by funext y; simp [halfU]
theorem halfU_left (U : Nat → Option Nat) (a b : Option Nat) (j : Bool) : offU (halfU U a b false j) a = halfU U a b true j := by
  funext y
  cases a with
  | none => simp [offU, halfU]
  | some z =>
    by_cases c : y = z
    · subst c; simp [offU, upd_same, halfU]
    · simp [offU, upd_other _ _ c, halfU, show z ≠ y from fun e => c e.symm]
theorem halfU_right (U : Nat → Option Nat) (a b : Option Nat) (i : Bool) : offU (halfU U a b i false) b = halfU U a b i true := by
  funext y
  cases b with
  | none => simp [offU, halfU]
  | some z =>
    by_cases c : y = z
    · subst c; simp [offU, upd_same, halfU]
    · simp [offU, upd_other _ _ c, halfU, show z ≠ y from fun e => c e.symm]
theorem halfU_all (U : Nat → Option Nat) (a b : Option Nat) : halfU U a b true true = offU (offU U a) b := by
  rw [← halfU_right, ← halfU_left, halfU_none]
section
variable (w : World) (p pc pt gt mb : Nat) (Fc : List Nat) (cap hs : Nat) (E : Ent) (L R U : Nat → Option Nat) (x : Nat)
def HalfCut (i j : Bool) (w' : World) : Prop :=
  SkewMid w' p pc pt gt mb Fc cap hs E (if i then upd L x none else L) (if j then upd R x none else R) (halfU U (L x) (R x) i j) ∧ Keeps (gt :: Fc) w w'
variable {w p pc pt gt mb Fc cap hs E L R U x} {w1 : World} {i j : Bool}
theorem HalfCut.c1 (h : HalfCut w p pc pt gt mb Fc cap hs E L R U x i j w1) : w1.cell? ⟨p,1,none⟩ = some (.pointer (some ⟨pt,0,none⟩)) := SkewMid.c1 h.1
theorem HalfCut.drewN (h : HalfCut w p pc pt gt mb Fc cap hs E L R U x i j w1) (n : Nat) : HalfCut w p pc pt gt mb Fc cap hs E L R U x i j (w1.drewN n) := ⟨SkewMid.drewN h.1 n, h.2.drewN n⟩
theorem HalfCut.keeps (h : HalfCut w p pc pt gt mb Fc cap hs E L R U x i j w1) : Keeps (gt :: Fc) w w1 := h.2
theorem hc_left (h : HalfCut w p pc pt gt mb Fc cap hs E L R U x false j w1) (hx : x < cap) :
    Calls Tryz.prog 411 #[.pointer (some ⟨pt,0,none⟩), .int .i64 x] w1 fun e w' => e = .returned (.tuple #[.int .i64 (((L x).getD 0 : Nat) : Int), .bool (L x).isSome]) ∧ HalfCut w p pc pt gt mb Fc cap hs E L R U x false j w' :=
  (sp_Left w1 pt gt cap _ _ _ h.1.sp x hx).mono fun e w' ⟨h1, m, h2⟩ => ⟨h1,by rw [h2]; exact h.drewN m⟩
theorem hc_right (h : HalfCut w p pc pt gt mb Fc cap hs E L R U x i false w1) (hx : x < cap) :
    Calls Tryz.prog 412 #[.pointer (some ⟨pt,0,none⟩), .int .i64 x] w1 fun e w' => e = .returned (.tuple #[.int .i64 (((R x).getD 0 : Nat) : Int), .bool (R x).isSome]) ∧ HalfCut w p pc pt gt mb Fc cap hs E L R U x i false w' :=
  (sp_Right w1 pt gt cap _ _ _ h.1.sp x hx).mono fun e w' ⟨h1, m, h2⟩ => ⟨h1,by rw [h2]; exact h.drewN m⟩
theorem hc_looseL (h : HalfCut w p pc pt gt mb Fc cap hs E L R U x false j w1) {T : Nat → Prop} (hb : Bin E L R U T) :
    Calls Tryz.prog 432 #[.pointer (some ⟨p,0,none⟩), .int .i64 (((L x).getD 0 : Nat) : Int), .bool (L x).isSome] w1 fun e w' => e = .returned (.int .i64 (oZ (L x))) ∧ HalfCut w p pc pt gt mb Fc cap hs E L R U x true j w' := by
  have hl := loose_L w1 p pc pt gt mb Fc cap hs E _ _ _ h.1 x (by
    intro z e
    simp only [Bool.false_eq_true, if_false] at e
    have h1 := hb.left x z e
    have h2 := hb.lr x z e
    refine ⟨?_,?_⟩
    · unfold halfU
      rw [if_neg (by rintro (⟨c, _⟩ | ⟨_, c⟩); cases c; exact h2 c)]
      exact h1.1
    · cases j with
      | true => simp [upd_same]
      | false => simpa using h2)
  simp only [Bool.false_eq_true, if_false] at hl
  refine hl.mono fun e w' ⟨h1, h2⟩ => ⟨h1,?_, h.2.trans h2.2 (by simp)⟩
  rw [halfU_left] at h2
  exact SkewMid.spine h.1 h2
theorem hc_looseR (h : HalfCut w p pc pt gt mb Fc cap hs E L R U x i false w1) {T : Nat → Prop} (hb : Bin E L R U T) :
    Calls Tryz.prog 432 #[.pointer (some ⟨p,0,none⟩), .int .i64 (((R x).getD 0 : Nat) : Int), .bool (R x).isSome] w1 fun e w' => e = .returned (.int .i64 (oZ (R x))) ∧ HalfCut w p pc pt gt mb Fc cap hs E L R U x i true w' := by
  have hl := loose_R w1 p pc pt gt mb Fc cap hs E _ _ _ h.1 x (by
    intro z e
    simp only [Bool.false_eq_true, if_false] at e
    have h1 := hb.right x z e
    have h2 := fun c => hb.lr x z c e
    unfold halfU
    rw [if_neg (by rintro (⟨_, c⟩ | ⟨c, _⟩); exact h2 c; cases c)]
    exact h1.1)
  simp only [Bool.false_eq_true, if_false] at hl
  refine hl.mono fun e w' ⟨h1, h2⟩ => ⟨h1,?_, h.2.trans h2.2 (by simp)⟩
  rw [halfU_right] at h2
  exact SkewMid.spine h.1 h2
theorem HalfCut.full (h : HalfCut w p pc pt gt mb Fc cap hs E L R U x true true w1) : SkewMid w1 p pc pt gt mb Fc cap hs E (upd L x none) (upd R x none) (offU (offU U (L x)) (R x)) := by
  have := h.1
  rw [halfU_all] at this
  simpa using this
end
section
variable (w : World) (F : List Nat) (p cap hs : Nat) (E : Ent)
def SkewOut (w : World) (F : List Nat) (p cap hs : Nat) (E' : Ent) (e : Ending) (w' : World) : Prop := e = .returned (.bool true) ∧ SkewAt w' F p cap hs E' ∧ Keeps F w w'
def SkewRest (w : World) (p pc pt gt mb : Nat) (Fc : List Nat) (cap hs : Nat) (E : Ent) (top Lc Rc : Nat → Option Nat) (h : Nat) (s : Value) (w' : World) : Prop :=
  ∃ (C : Option Nat) (L' R' U' : Nat → Option Nat), s = .int .i64 (oZ C) ∧ SkewMid w' p pc pt gt mb Fc cap hs E L' R' U' ∧ Zip E L' R' U' (fun y => ∃ g, top g = some y) Lc Rc h [] C none ∧ Keeps (gt :: Fc) w w'
theorem skew_delete (c : SkewAt w F p cap hs E) (h x : Nat) (hl : least E h x) :
    Calls Tryz.prog 424 #[.pointer (some ⟨p,0,none⟩), .int .i64 x] w (SkewOut w F p cap hs (put E x none)) := by
  obtain ⟨pc, pt, gt, mb, Fc, L, R, U, top,rfl, m, im, t⟩ := c
  have hn := fun y (hy : (E y).isSome) => m.ce.ok.lt y hy
  have hx := hn x hl.1.some
  have htop : top h = some x := by
    cases e : top h with
    | none => exact absurd hl.1 (t.none_of hn e x)
    | some y => rw [(t.first hn e).one hl]
  have hh := m.ce.ok.heap x h
  have hhome := cells_home w Fc pc cap hs E m.ce x h hl.1
  have hcut := t.cut htop
  have hstart : ∀ n, HalfCut w p pc pt gt mb Fc cap hs E L R U x false false (w.drewN n) := fun n => ⟨by rw [halfU_none]; simpa using m.drewN n, (Keeps.refl _ _).drewN n⟩
  have d0 := m.c0
  have d1 := m.c1
  have hne := m.ne
  obtain ⟨hk0, hk1⟩ := hl.1
  have hhs := (m.ce.ok.heap x h _ hk1).2
  have hout : ∀ (w3 w4 w5 : World) (C : Option Nat) (L' R' U' : Nat → Option Nat), SkewMid w3 p pc pt gt mb Fc cap hs E L' R' U' → Zip E L' R' U' (fun y => ∃ g, top g = some y) (upd L x none) (upd R x none) h [] C none → Keeps (gt :: Fc) w w3 →
      IMap Tryz.prog 3 w4 mb (topN (upd top h C) hs) (topF (upd top h C)) → Keeps [mb] w3 w4 → CellsAt w5 Fc pc cap hs (put E x none) → Keeps Fc w4 w5 → SkewOut w (p :: pt :: gt :: mb :: Fc) p cap hs (put E x none) (.returned (.bool true)) w5 := by
    intro w3 w4 w5 C L' R' U' m3 z3 k3 im4 k4 c5 k5
    obtain ⟨⟨a1, a2, a3, a4⟩, ⟨b1, b2, b3⟩, ⟨c1, c2⟩, cd⟩ := hne
    have m4 := m3.keep k4 (by simp; exact ⟨a3, b2, c1,fun b hb e => cd (e ▸ hb)⟩)
    refine ⟨rfl, ⟨pc, pt, gt, mb, Fc, L', R', U', upd top h C,rfl, m4.cells c5 k5, im4.keep k5 cd, Tops.dropped z3 htop t.mine (upd_same _ _ _) (upd_same _ _ _)⟩,?_⟩
    exact ((k3.mono (T := p :: pt :: gt :: mb :: Fc) (fun b hb => .inl (by simp only [List.mem_cons] at hb ⊢; rcases hb with c | c <;> simp [c]))).trans k4 (by simp)).trans k5 (fun b hb => .inl (by simp [hb]))
  have hC : ∀ (w3 : World) (C : Option Nat) (L' R' U' : Nat → Option Nat), SkewMid w3 p pc pt gt mb Fc cap hs E L' R' U' → Zip E L' R' U' (fun y => ∃ g, top g = some y) (upd L x none) (upd R x none) h [] C none → Keeps (gt :: Fc) w w3 →
      U' x = none ∧ (∀ y, C = some y → y < cap) ∧ IMap Tryz.prog 3 w3 mb (topN top hs) (topF top) := fun w3 C L' R' U' m3 z3 k3 =>
    ⟨(z3.bin.top x (.inl ⟨h, htop⟩)).2,fun y e => m3.ce.ok.lt y (z3.na y e).2.2.some, im.keep k3 (by simp; exact ⟨fun e => hne.2.2.1.1 e.symm, hne.2.2.2⟩)⟩
  have hdrop := fun u (hu : CellsAt u Fc pc cap hs E) => cells_drop u Fc pc cap hs E hu x h hl.1
  have HN := Lib.hid hne
  have HB := Lib.hid t.bin
  have HCUT := Lib.hid hcut
  have HOUT := Lib.hid hout
  have HC := Lib.hid hC
  have HSTART := Lib.hid hstart
  have HDROP := Lib.hid hdrop
  clear hcut hout hC hstart t im m hne htop hn hh hk1 hdrop
  go_enter Tryz.func424, Tryz.ntmps424
  go_upto_region 4 with (go_at_call 302; refine hhome.mono ?_; rintro e w1 ⟨rfl, n1,rfl⟩)
  go_cut [7] (fun s wc => SkewRest w p pc pt gt mb Fc cap hs E top (upd L x none) (upd R x none) h s wc)
  case first =>
    have q0 := HSTART.out (n1 + 1)
    go_region_held3 (fun u => u.cell? ⟨p,1,none⟩ = some (.pointer (some ⟨pt,0,none⟩))) (first | exact HalfCut.c1 (by assumption) | exact SkewMid.c1 (by assumption))
      (first
        | (go_at_call 411; (with_reducible refine (hc_left (by assumption) hx).mono ?_); rintro e w2 ⟨rfl, q⟩)
        | (go_at_call 412; (with_reducible refine (hc_right (by assumption) hx).mono ?_); rintro e w2 ⟨rfl, q⟩)
        | (go_at_call 432; (with_reducible refine (hc_looseL (by assumption) HB.out).mono ?_); rintro e w2 ⟨rfl, q⟩)
        | (go_at_call 432; (with_reducible refine (hc_looseR (by assumption) HB.out).mono ?_); rintro e w2 ⟨rfl, q⟩)
        | (go_at_call 430; (with_reducible refine (skew_merge _ p pc pt gt mb Fc cap hs E _ _ _ _ _ _ h _ _ (HalfCut.full (by assumption)) HCUT.out).mono ?_); rintro e w2 ⟨C, L', R', U',rfl, m2, z2, k2⟩))
    all_goals
      go_wp2_with fail
      go_meet
      case rel => exact ⟨C, L', R', U',rfl, m2, z2, (HalfCut.keeps (by assumption)).trans k2 (fun b hb => .inl hb)⟩
  case rest =>
    obtain ⟨C, L', R', U',rfl, m3, z3, k3⟩ := hcut
    obtain ⟨hu, hCb, im3⟩ := HC.out wc C L' R' U' m3 z3 k3
    have hup := sp_Up wc pt gt cap L' R' U' m3.sp x hx
    rw [hu] at hup
    simp only [Option.getD_none, Option.isSome_none] at hup
    have hcr := skew_crown wc p pc pt gt mb Fc cap hs E L' R' U' top m3 im3 h hhs C hCb
    have e1 := m3.c1
    have e0 := m3.c0
    have M3 := Lib.hid m3
    have Z3 := Lib.hid z3
    clear hu hCb im3 z3 d0 d1
    go_wp2_with (first
      | (go_at_call 413; refine hup.mono ?_; rintro e w' ⟨rfl,rfl⟩)
      | (go_at_call 429; refine hcr.mono ?_; rintro e w4 ⟨rfl, im4, k4⟩; have c4 := M3.out.ce.keep k4 (fun b hb e => HN.out.2.2.2 (by simp at e; exact e ▸ hb)); have e4 := (World.cell?_of_block (a := ⟨p,0,none⟩) (k4.block p M3.out.lt.1 (by simpa using HN.out.1.2.2.1))).trans e0)
      | (go_at_call 312; refine (HDROP.out _ c4).mono ?_; rintro e w5 ⟨rfl, c5, k5⟩))
    go_ret
    exact HOUT.out wc w4 w5 C L' R' U' M3.out Z3.out k3 im4 k4 c5 k5
def SkewExt (w : World) (F : List Nat) (p cap hs : Nat) (E : Ent) (h : Nat) (e : Ending) (w' : World) : Prop :=
  ∃ x : Nat, e = .returned (.tuple #[.int .i64 x, .bool true]) ∧ least E h x ∧ SkewAt w' F p cap hs (put E x none) ∧ Keeps F w w'
theorem skew_extract (c : SkewAt w F p cap hs E) (h : Nat) (hh : h ≤ 65536) (hi : ∃ y, isIn E h y) :
    Calls Tryz.prog 425 #[.pointer (some ⟨p,0,none⟩), .int .i64 h] w (SkewExt w F p cap hs E h) := by
  have hm := skew_min_yes w F p cap hs E c h hh hi
  have hd := fun x hl => skew_delete w F p cap hs E c h x hl
  clear c hi
  go_enter Tryz.func425, Tryz.ntmps425
  go_wp2_with (first
    | (go_at_call 428; refine hm.mono ?_; rintro e w1 ⟨⟨x,rfl, hl⟩,rfl⟩)
    | (go_at_call 424; refine (hd _ hl).mono ?_; rintro e w2 ⟨rfl, c2, k2⟩))
  go_ret2
  exact ⟨x,rfl, hl, c2, k2⟩
end
end Go.Proofs.YtkdbjelhkfdfjaaGreatDoor


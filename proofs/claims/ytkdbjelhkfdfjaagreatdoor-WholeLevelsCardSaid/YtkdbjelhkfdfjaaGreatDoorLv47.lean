/-
  Contracts that the law rests on. Conditions: none.
-/
import Derived.Test.YtkdbjelhkfdfjaaGreatDoorLv46
set_option linter.unusedVariables false
set_option maxRecDepth 100000
set_option maxHeartbeats 32000000
namespace Go.Proofs.YtkdbjelhkfdfjaaGreatDoor
open Go.RowKit
theorem Tryz.infoEdge : (Tryz.prog.info? 58).map (fun i => (i.zero, i.size, i.bytes)) = some (some (.agg #[.int .i64 0,.int .i64 0,.int .i64 0]), 3,24) := by kernel_rfl
theorem wholeLevels_calls (w : World) (a b nn : Int) (ao : Option Addr) (ca : Nat) (es : List E3) (hE : EIn w (.slice ao es.length ca) es) (ss : Int) :
    Calls Tryz.prog 4 #[.agg #[.int .i64 a,.int .i64 b],.agg #[.int .i64 nn,.slice ao es.length ca],.int .i64 ss] w fun e w' => e = .returned (.bool true) ∧ Keeps [] w w' := by
  obtain ⟨w1, hw1⟩ : ∃ w1, w1 = w.alloc (.cells #[.int .i64 a,.int .i64 b] 23 (0,0)) := ⟨_,rfl⟩
  obtain ⟨w0, hw0⟩ : ∃ w0, w0 = w1.alloc (.cells #[.int .i64 nn,.slice ao es.length ca] 55 (0,0)) := ⟨_,rfl⟩
  have s1 : w1.heap.size = w.heap.size + 1 := by rw [hw1]; simp
  have s0 : w0.heap.size = w.heap.size + 2 := by rw [hw0]; simp [s1]
  have j1 : Keeps [] w w1 := by rw [hw1]; exact (Keeps.refl _ _).alloc _
  have j2 : Keeps [] w1 w0 := by rw [hw0]; exact (Keeps.refl _ _).alloc _
  have k0 : Keeps [] w w0 := j1.trans j2 (by simp)
  have b0 : w0.heap[w.heap.size]? = some (.cells #[.int .i64 a,.int .i64 b] 23 (0,0)) := j2.blk (by rw [hw1]; exact blk_alloc_new _) (by simp)
  have b1 : w0.heap[w.heap.size + 1]? = some (.cells #[.int .i64 nn,.slice ao es.length ca] 55 (0,0)) := by
    rw [<- s1, hw0]; exact blk_alloc_new _
  have hcell : ∀ u, Keeps [] w0 u -> u.cell? ⟨w.heap.size,0,none⟩ = some (.int .i64 a) ∧ u.cell? ⟨w.heap.size,1,none⟩ = some (.int .i64 b) ∧ u.cell? ⟨w.heap.size + 1,0,none⟩ = some (.int .i64 nn) ∧ u.cell? ⟨w.heap.size + 1,1,none⟩ = some (.slice ao es.length ca) := fun u k => by
    have h0 := k.blk b0 (by simp)
    have h1 := k.blk b1 (by simp)
    exact ⟨by rw [cell_of_blk h0]; rfl,by rw [cell_of_blk h0]; rfl,by rw [cell_of_blk h1]; rfl,by rw [cell_of_blk h1]; rfl⟩
  have HC := Lib.hid hcell
  have HE := Lib.hid (hE.keep k0 (by simp))
  have K0 := Lib.hid k0
  have hal := alive_calls w0
  have hck := fun u a b => ref_check_calls u a b
  have hri := fun u (k : Keeps [] w0 u) (hl : es.length <= 60) => right_calls u nn (.slice ao es.length ca) es (HE.out.keep k (by simp)) (by omega)
  clear hcell hE k0 b0 b1 j1 j2 s1 s0
  go_enter Tryz.func4, Tryz.ntmps4
  go_upto_region 1 with fail
  rw [<- hw1, <- hw0]
  clear hw1 hw0
  go_upto_region 3 with (go_at_call 7; refine hal.mono ?_; rintro e u1 ⟨rfl, k1⟩; have C1 := Lib.hid k1; obtain ⟨x0, x1, x2, x3⟩ := HC.out u1 k1; clear k1)
  clear hal
  by_cases hlen : es.length <= 60
  case neg =>
    have hl : (60 : Int) < (es.length : Int) := by omega
    go_wp2_with fail
    go_ret
    exact ⟨rfl, K0.out.trans C1.out (by simp)⟩
  have hl : ¬ (60 : Int) < (es.length : Int) := by omega
  by_cases hn40 : nn <= 40
  case neg =>
    have hn : 40 < nn := by omega
    go_wp2_with fail
    go_ret
    exact ⟨rfl, K0.out.trans C1.out (by simp)⟩
  have hn : ¬ 40 < nn := by omega
  by_cases h0 : okC a b
  case neg =>
    go_wp2_with (go_at_call 8; refine (hck _ a b).mono ?_; rintro e w2 ⟨⟨r,rfl, hr⟩, k2⟩; have hr0 : ¬ r = 0 := fun c => h0 (hr.1 c); have K2 := Lib.hid ((K0.out.trans C1.out (by simp)).trans k2 (by simp)); clear k2 hr)
    go_ret
    exact ⟨rfl, K2.out⟩
  by_cases hR : 0 <= nn ∧ nn <= 4096 ∧ ∀ x ∈ es, inG nn x
  case neg =>
    go_wp2_with (first
      | (go_at_call 8; refine (hck _ a b).mono ?_; rintro e u2 ⟨⟨r,rfl, hr⟩, k2⟩; obtain rfl : r = 0 := hr.2 h0; obtain ⟨y0, y1, y2, y3⟩ := HC.out u2 (C1.out.trans k2 (by simp)); have C2 := Lib.hid (C1.out.trans k2 (by simp)); clear k2 hr x0 x1 x2 x3)
      | (go_at_call 16; refine (hri _ C2.out hlen).mono ?_; rintro e u3 ⟨⟨r,rfl, hr⟩, k3⟩; obtain rfl : r = false := (by cases r with | false => rfl | true => exact absurd (hr.1 rfl) hR); have C3 := Lib.hid (C2.out.trans k3 (by simp)); clear k3 hr))
    go_ret
    exact ⟨rfl, K0.out.trans C3.out (by simp)⟩
  obtain ⟨hR0, hR1, hR2⟩ := hR
  obtain ⟨n,rfl⟩ : ∃ n : Nat, nn = (n : Int) := ⟨nn.toNat,by omega⟩
  have HR := Lib.hid hR2
  have hR3 : 0 <= (n : Int) ∧ (n : Int) <= 4096 ∧ ∀ x ∈ es, inG (n : Int) x := ⟨hR0, hR1, hR2⟩
  have HR3 := Lib.hid hR3
  clear hR2 hR3
  by_cases hs0 : ss < 0
  case pos =>
    go_wp2_with (first
      | (go_at_call 8; refine (hck _ a b).mono ?_; rintro e u2 ⟨⟨r,rfl, hr⟩, k2⟩; obtain rfl : r = 0 := hr.2 h0; obtain ⟨y0, y1, y2, y3⟩ := HC.out u2 (C1.out.trans k2 (by simp)); have C2 := Lib.hid (C1.out.trans k2 (by simp)); clear k2 hr x0 x1 x2 x3)
      | (go_at_call 16; refine (hri _ C2.out hlen).mono ?_; rintro e u3 ⟨⟨r,rfl, hr⟩, k3⟩; obtain rfl : r = true := hr.2 HR3.out; obtain ⟨z0, z1, z2, z3⟩ := HC.out u3 (C2.out.trans k3 (by simp)); have C3 := Lib.hid (C2.out.trans k3 (by simp)); clear k3 hr y0 y1 y2 y3))
    go_ret
    exact ⟨rfl, K0.out.trans C3.out (by simp)⟩
  obtain ⟨s,rfl⟩ : ∃ s : Nat, ss = (s : Int) := ⟨ss.toNat,by omega⟩
  by_cases hs1 : (n : Int) <= (s : Int)
  case pos =>
    go_wp2_with (first
      | (go_at_call 8; refine (hck _ a b).mono ?_; rintro e u2 ⟨⟨r,rfl, hr⟩, k2⟩; obtain rfl : r = 0 := hr.2 h0; obtain ⟨y0, y1, y2, y3⟩ := HC.out u2 (C1.out.trans k2 (by simp)); have C2 := Lib.hid (C1.out.trans k2 (by simp)); clear k2 hr x0 x1 x2 x3)
      | (go_at_call 16; refine (hri _ C2.out hlen).mono ?_; rintro e u3 ⟨⟨r,rfl, hr⟩, k3⟩; obtain rfl : r = true := hr.2 HR3.out; obtain ⟨z0, z1, z2, z3⟩ := HC.out u3 (C2.out.trans k3 (by simp)); have C3 := Lib.hid (C2.out.trans k3 (by simp)); clear k3 hr y0 y1 y2 y3))
    go_ret
    exact ⟨rfl, K0.out.trans C3.out (by simp)⟩
  have hs2 : ¬ n <= s := by omega
  have hsn : s < n := by omega
  have hs3 : decide ((s : Int) < 0) = false := by rw [decide_eq_false_iff_not]; omega
  go_upto_region 5 with (first
      | (go_at_call 8; refine (hck _ a b).mono ?_; rintro e u2 ⟨⟨r,rfl, hr⟩, k2⟩; obtain rfl : r = 0 := hr.2 h0; obtain ⟨y0, y1, y2, y3⟩ := HC.out u2 (C1.out.trans k2 (by simp)); have C2 := Lib.hid (C1.out.trans k2 (by simp)); clear k2 hr x0 x1 x2 x3)
      | (go_at_call 16; refine (hri _ C2.out hlen).mono ?_; rintro e u3 ⟨⟨r,rfl, hr⟩, k3⟩; obtain rfl : r = true := hr.2 HR3.out; obtain ⟨z0, z1, z2, z3⟩ := HC.out u3 (C2.out.trans k3 (by simp)); have C3 := Lib.hid (C2.out.trans k3 (by simp)); clear k3 hr y0 y1 y2 y3))
  clear hck hri HR3
  have hnb : n <= 40 := by omega
  have KW := Lib.hid (K0.out.trans C3.out (by simp))
  obtain ⟨u4, hu4⟩ : ∃ u4, u4 = u3.alloc (.cells #[.int .i64 (n : Int),.slice none 0 0] 55 (0,0)) := ⟨_,rfl⟩
  obtain ⟨h, hh⟩ : ∃ h, h = u3.heap.size := ⟨_,rfl⟩
  have hst : HEdges u3 h n (ones (es.take 0)) (.slice none 0 0) u4 := by
    rw [hu4, hh]
    exact ⟨blk_alloc_new _,⟨rfl,.inl ⟨rfl,rfl⟩⟩,(fun b e => by cases e), Nat.le_refl _,(Keeps.refl _ _).alloc _⟩
  have HS := Lib.hid hst
  obtain ⟨_, _, _, v3⟩ := HC.out u4 (C3.out.trans hst.kp (by simp))
  clear hst
  go_upto_region 6 with fail
  rw [<- hu4, <- hh]
  clear hu4 hh z0 z1 z2 z3
  go_wp2_with fail
  go_loopg [55] (es.length + 1) (fun j t wr => ∃ (i : Nat) (vE : Value), j + i = es.length + 1 ∧ i <= es.length ∧ t = .int .i64 (i : Int) ∧ HEdges u3 h n (ones (es.take i)) vE wr)
  case atStart => exact ⟨0, _,by omega,by omega,rfl, HS.out⟩
  case round =>
    clear HS v3
    obtain ⟨i, vE, hj, hin,rfl, hq⟩ := hrel
    have HJ := Lib.hid hj
    clear hj
    by_cases hi : i < es.length
    · have hi3 : (i : Int) < (es.length : Int) := by omega
      obtain ⟨x, hx⟩ : ∃ x, es[i]? = some x := ⟨_, List.getElem?_eq_getElem hi⟩
      obtain ⟨gx, off, ca', hv, c1, c2, c3⟩ := (HE.out.keep (C3.out.trans hq.kp (by simp)) (by simp)).2 i x hx
      obtain ⟨x1, x2, x3⟩ := x
      cases hv
      simp only at c1 c2 c3
      obtain ⟨wA, hwA⟩ : ∃ wA, wA = wr.alloc (.cells #[.int .i64 x1,.int .i64 x2,.int .i64 x3] 58 (0,0)) := ⟨_,rfl⟩
      obtain ⟨d, hd⟩ : ∃ d, d = wr.heap.size := ⟨_,rfl⟩
      have kA : Keeps [] wr wA := by rw [hwA]; exact (Keeps.refl _ _).alloc _
      have bA : wA.heap[d]? = some (.cells #[.int .i64 x1,.int .i64 x2,.int .i64 x3] 58 (0,0)) := by rw [hwA, hd]; exact blk_alloc_new _
      have d0 : wA.cell? ⟨d,0,none⟩ = some (.int .i64 x1) := by rw [cell_of_blk bA]; rfl
      have d1 : wA.cell? ⟨d,1,none⟩ = some (.int .i64 x2) := by rw [cell_of_blk bA]; rfl
      have hqA := hq.keep kA (by simp)
      obtain ⟨aE, cE,rfl⟩ := hqA.form
      have hol : (ones (es.take i)).length = i := by rw [ones_len, List.length_take]; omega
      have htk : ones (es.take (i + 1)) = ones (es.take i) ++ [(x1, x2,1)] := by rw [List.take_add_one, hx]; simp [ones]
      rw [hol] at hqA
      have d2 := hqA.c1
      have hrow := hqA.row
      rw [hol] at hrow
      have HF : Hid (∀ g' c' w4, w4.ownsRow 0 58 3 (.slice (some ⟨g',0,none⟩) (i + 1) c') (i + 1) (eV (ones (es.take i)) ++ [.int .i64 x1,.int .i64 x2,.int .i64 1]) -> Keeps (Value.slice aE i cE).ownBlock.toList wA w4 -> ((Value.slice aE i cE).ownBlock = some g' ∨ wA.heap.size <= g') ->
          w4.cell? ⟨h,1,none⟩ = some (.slice aE i cE) ∧ w4.frozen? ⟨h,1,none⟩ = false ∧ Hid (HEdges u3 h n (ones (es.take (i + 1))) (.slice (some ⟨g',0,none⟩) (i + 1) c') (w4.setCell ⟨h,1,none⟩ (.slice (some ⟨g',0,none⟩) (i + 1) c')))) :=
        Lib.hid fun g' c' w4 h4 k4 f4 => by rw [htk]; exact hqA.step (x1, x2,1) hol.symm h4 k4 f4
      clear hq hqA kA bA htk hx hol
      go_upto_region 9 with fail
      rw [<- hwA, <- hd]
      clear hwA hd c1 c2 c3
      go_wp2_with (at_builtin; refine wpList_push_agg _ 58 #[.int .i64 x1,.int .i64 x2,.int .i64 1] (0,0) rfl (.tmp 60) (.tmp 66) 53 rfl (.agg #[.int .i64 0,.int .i64 0,.int .i64 0]) 3 24 Tryz.underlying53 Tryz.infoEdge rfl (by decide) rfl (by simp [Value.oneCell']) (.slice aE i cE) i (eV (ones (es.take i))) (by simp [Act.eval]) hrow (by simp [Act.eval]) (by unfold maxLen; omega) (by omega) ?_; intro g' cap' w9 hr9 hk9 hf9; obtain ⟨y1, y2, y3⟩ := HF.out g' cap' w9 hr9 hk9 hf9; clear hr9 hk9 hf9)
      go_roundg (gk - 1)
      case measure => have := HJ.out; omega
      case rel => exact ⟨i + 1, _,by have := HJ.out; omega,by omega,by go_num, y3.out⟩
    · obtain rfl : es.length = i := by omega
      rw [List.take_length] at hq
      obtain ⟨aE, cE,rfl⟩ := hq.form
      rw [ones_len] at hq
      have hin1 : ∀ u, Keeps [] wr u -> EIn u (.slice aE (ones es).length cE) (ones es) := fun u k => by
        have h1 := hq.row
        have h2 : wr.ownsRow 0 58 3 (.slice aE (ones es).length cE) (ones es).length (eV (ones es)) := by rw [ones_len] at h1 ⊢; exact h1
        exact (EIn.own h2).keep k (by simp)
      have hcc : ∀ u, Keeps [] wr u -> u.cell? ⟨h,0,none⟩ = some (.int .i64 (n : Int)) ∧ u.cell? ⟨h,1,none⟩ = some (.slice aE es.length cE) ∧ u.cell? ⟨w.heap.size,0,none⟩ = some (.int .i64 a) ∧ u.cell? ⟨w.heap.size,1,none⟩ = some (.int .i64 b) := fun u k => by
        have h1 := hq.keep k (by simp)
        obtain ⟨z0, z1, _, _⟩ := HC.out u ((C3.out.trans hq.kp (by simp)).trans k (by simp))
        exact ⟨h1.c0, h1.c1, z0, z1⟩
      have KR := Lib.hid (KW.out.trans hq.kp (by simp))
      have HI := Lib.hid hin1
      have HCC := Lib.hid hcc
      obtain ⟨c0, c1, _, _⟩ := hcc wr (Keeps.refl _ _)
      have hmk := fun (u : World) => run_make_row' (P := Tryz.prog) 25 2 (.int .i64 0) 8 Tryz.underlying25 Tryz.infoInt64 rfl .i64 .i64 n (by omega) (by omega) u
      clear hq hin1 hcc HE HC C1 C2 C3 K0 KW HJ
      generalize hwb : wr = wB at *
      clear hwb
      obtain ⟨wC, hwC⟩ : ∃ wC, wC = wB.alloc (.cells (madeCells #[.int .i64 0] n) 2 (0,0)) := ⟨_,rfl⟩
      obtain ⟨g, hg⟩ : ∃ g, g = wB.heap.size := ⟨_,rfl⟩
      have kC : Keeps [] wB wC := by rw [hwC]; exact (Keeps.refl _ _).alloc _
      have hl0 : LRow wC g ((List.range n).map fun _ => 0) := by
        unfold LRow
        rw [hwC, hg, madeL, List.map_map]
        exact blk_alloc_new _
      have HL0 := Lib.hid (show ∃ l, LRow wC g l ∧ l.length = n ∧ ∀ j, j < 0 -> l[j]? = some 9223372036854775807 from ⟨_, hl0,by simp,fun j hj => by omega⟩)
      have KC := Lib.hid kC
      have hgS : wB.heap.size <= g := by omega
      go_upto_region 12 with fail
      rw [<- hwC, <- hg]
      clear hwC hg hmk kC hl0 c0 c1
      go_wp2_with fail
      go_loopg [75] (n + 1) (fun j t wr => ∃ i : Nat, j + i = n + 1 ∧ i <= n ∧ t = .int .i64 (i : Int) ∧ (∃ l, LRow wr g l ∧ l.length = n ∧ ∀ j, j < i -> l[j]? = some 9223372036854775807) ∧ Keeps [] wB wr)
      case atStart => exact ⟨0,by omega,by omega,rfl, HL0.out, KC.out⟩
      case round =>
        clear HL0 KC
        obtain ⟨i, hj, hin,rfl,⟨l, hl, hll, hlj⟩, kp⟩ := hrel
        have HJ := Lib.hid hj
        clear hj
        by_cases hi : i < n
        · have hi3 : (i : Int) < (n : Int) := by omega
          obtain ⟨y, hy⟩ : ∃ y, l[i]? = some y := ⟨_, List.getElem?_eq_getElem (by omega)⟩
          have c0 := hl.at hy
          have f0 := hl.frozen i
          have HZ : Hid ((∃ l, LRow (wr.setCell ⟨g,i,none⟩ (.int .i64 9223372036854775807)) g l ∧ l.length = n ∧ ∀ j, j < i + 1 -> l[j]? = some 9223372036854775807) ∧ Keeps [] wB (wr.setCell ⟨g,i,none⟩ (.int .i64 9223372036854775807))) := by
            refine Lib.hid ⟨⟨_, hl.set i 9223372036854775807,by simp [hll],fun j hj => ?_⟩, kp.setCell (p := ⟨g,i,none⟩) (.inr hgS) _⟩
            by_cases c : j = i
            · subst c; rw [List.getElem?_set_self (by omega)]
            · rw [List.getElem?_set_ne (Ne.symm c)]; exact hlj j (by omega)
          clear hl hll hlj kp hy
          go_wp2_with fail
          go_roundg (gk - 1)
          case measure => have := HJ.out; omega
          case rel => exact ⟨i + 1,by have := HJ.out; omega,by omega,by go_num, HZ.out.1, HZ.out.2⟩
        · obtain rfl : i = n := by omega
          rw [filled_none hll hlj] at hl
          have c0 := hl.at (dvL_at _ hsn)
          have f0 := hl.frozen s
          have hl2 := hl.set s ((0 : Nat) : Int)
          rw [dvL_set _ hsn] at hl2
          have hs3 : (s : Int) < (i : Int) := by omega
          obtain ⟨wD, hwD⟩ : ∃ wD, wD = wr.setCell ⟨g,s,none⟩ (.int .i64 0) := ⟨_,rfl⟩
          have hl3 : LRow wD g (dvL (upd (fun _ => none) s (some 0)) i) := by rw [hwD]; exact hl2
          have kD : Keeps [] wB wD := by rw [hwD]; exact kp.setCell (p := ⟨g,s,none⟩) (.inr hgS) _
          have HL3 := Lib.hid hl3
          have KD := Lib.hid kD
          clear hl hll hlj kp hl2 hl3 kD HJ
          go_upto_region 18 with fail
          rw [<- hwD]
          clear hwD c0 f0
          go_wp2_with fail
          go_loopg [12] (i + 1) (fun j t wr => ∃ (k : Nat) (D : Nat -> Option Nat), j + k = i + 1 ∧ k <= i ∧ t = .int .i64 (k : Int) ∧ LRow wr g (dvL D i) ∧ Lvl (prs (ones es)) s i k 0 D ∧ Keeps [] wB wr)
          case atStart => exact ⟨0, _,by omega,by omega,rfl, HL3.out, Lvl.start hsn, KD.out⟩
          case round =>
            clear HL3 KD
            obtain ⟨k, D, hj, hin,rfl, hl, hlv, kp⟩ := hrel
            have HJ := Lib.hid hj
            clear hj
            obtain ⟨gout,rfl⟩ : ∃ u, u = gk := ⟨gk,rfl⟩
            by_cases hk : k < i
            · have hk3 : (k : Int) < (i : Int) := by omega
              obtain ⟨c0, c1, _, _⟩ := HCC.out wr kp
              have HS := Lib.hid (show LRow wr g (dvL D i) ∧ Lvl (prs (ones es)) s i k 0 D ∧ Keeps [] wB wr from ⟨hl, hlv, kp⟩)
              clear hl hlv kp
              have hwrap : IntKind.i64.wrap ((k : Int) + 1) = ((k + 1 : Nat) : Int) := by rw [IntKind.wrap_i64]; omega
              go_wp2_with fail
              go_loopg [94] (es.length + 1) (fun j t wr => ∃ (q : Nat) (D : Nat -> Option Nat), j + q = es.length + 1 ∧ q <= es.length ∧ t = .int .i64 (q : Int) ∧ LRow wr g (dvL D i) ∧ Lvl (prs (ones es)) s i k q D ∧ Keeps [] wB wr)
              case atStart => exact ⟨0, _,by omega,by omega,rfl, HS.out.1, HS.out.2.1, HS.out.2.2⟩
              case round =>
                clear HS c0 c1
                obtain ⟨q, D, hj, hqn,rfl, hl, hlv, kp⟩ := hrel
                have HQ := Lib.hid hj
                clear hj
                by_cases hq : q < es.length
                · have hq3 : (q : Int) < (es.length : Int) := by omega
                  obtain ⟨x, hx⟩ : ∃ x,(ones es)[q]? = some x := ⟨_, List.getElem?_eq_getElem (by rw [ones_len]; exact hq)⟩
                  obtain ⟨gx, off, ca', hv, c1, c2, c3⟩ := (HI.out wr kp).2 q x hx
                  have hgx := ones_in HR.out x (List.mem_of_getElem? hx)
                  have hw1 := ones_w x (List.mem_of_getElem? hx)
                  obtain ⟨x1, x2, x3⟩ := x
                  obtain ⟨p1, p2, p3, p4⟩ := hgx
                  simp only at p1 p2 p3 p4 hw1 c1 c2 c3
                  subst hw1
                  obtain ⟨u,rfl⟩ : ∃ u : Nat, x1 = (u : Int) := ⟨x1.toNat,by omega⟩
                  obtain ⟨v,rfl⟩ : ∃ v : Nat, x2 = (v : Int) := ⟨x2.toNat,by omega⟩
                  have hui : u < i := by omega
                  have hvi : v < i := by omega
                  have hps := prs_at hx
                  cases hv
                  obtain ⟨wA, hwA⟩ : ∃ wA, wA = wr.alloc (.cells #[.int .i64 (u : Int),.int .i64 (v : Int),.int .i64 1] 58 (0,0)) := ⟨_,rfl⟩
                  obtain ⟨d, hd⟩ : ∃ d, d = wr.heap.size := ⟨_,rfl⟩
                  have kA : Keeps [] wr wA := by rw [hwA]; exact (Keeps.refl _ _).alloc _
                  have bA : wA.heap[d]? = some (.cells #[.int .i64 (u : Int),.int .i64 (v : Int),.int .i64 1] 58 (0,0)) := by rw [hwA, hd]; exact blk_alloc_new _
                  have d0 : wA.cell? ⟨d,0,none⟩ = some (.int .i64 (u : Int)) := by rw [cell_of_blk bA]; rfl
                  have d1 : wA.cell? ⟨d,1,none⟩ = some (.int .i64 (v : Int)) := by rw [cell_of_blk bA]; rfl
                  have hlA := hl.keep kA (by simp)
                  have kpA := kp.trans kA (by simp)
                  have d2 := hlA.at (dvL_at D hui)
                  have d3 := hlA.at (dvL_at D hvi)
                  have f3 := hlA.frozen v
                  clear hl kp kA bA hx
                  go_upto_region 24 with fail
                  rw [<- hwA, <- hd]
                  clear hwA hd c1 c2 c3
                  by_cases hDu : D u = some k
                  · have e2 : dv (D u) = (k : Int) := by rw [hDu]; rfl
                    rw [e2] at d2
                    cases hDv : D v with
                    | none =>
                      have e3 : dv (D v) = 9223372036854775807 := by rw [hDv]; rfl
                      rw [e3] at d3
                      have hgt : ((k + 1 : Nat) : Int) < 9223372036854775807 := by omega
                      have hgt2 : (k : Int) + 1 < 9223372036854775807 := by omega
                      have HZ : Hid (LRow (wA.setCell ⟨g,v,none⟩ (.int .i64 ((k + 1 : Nat) : Int))) g (dvL (upd D v (some (k + 1))) i) ∧ Lvl (prs (ones es)) s i k (q + 1) (upd D v (some (k + 1))) ∧ Keeps [] wB (wA.setCell ⟨g,v,none⟩ (.int .i64 ((k + 1 : Nat) : Int)))) := by
                        have h1 := hlA.set v ((k + 1 : Nat) : Int)
                        rw [dvL_set D hvi] at h1
                        exact Lib.hid ⟨h1, hlv.reach hps hvi hDu hDv, kpA.setCell (p := ⟨g,v,none⟩) (.inr hgS) _⟩
                      clear hlA kpA hlv e2 e3 hps hDu hDv
                      go_wp2_with fail
                      go_roundg (gk - 1)
                      case measure => have := HQ.out; omega
                      case rel => exact ⟨q + 1, _,by have := HQ.out; omega,by omega,by go_num, HZ.out.1, HZ.out.2.1, HZ.out.2.2⟩
                    | some j' =>
                      have e3 : dv (D v) = (j' : Int) := by rw [hDv]; rfl
                      rw [e3] at d3
                      have hle := hlv.top v j' hDv
                      have hgt : ¬ ((k + 1 : Nat) : Int) < (j' : Int) := by omega
                      have hgt2 : ¬ (k : Int) + 1 < (j' : Int) := by omega
                      have HZ := Lib.hid (show LRow wA g (dvL D i) ∧ Lvl (prs (ones es)) s i k (q + 1) D ∧ Keeps [] wB wA from ⟨hlA, hlv.pass hps (fun _ => ⟨j', hDv⟩), kpA⟩)
                      clear hlA kpA hlv e2 e3 hps hDu hDv hle
                      go_wp2_with fail
                      go_roundg (gk - 1)
                      case measure => have := HQ.out; omega
                      case rel => exact ⟨q + 1, _,by have := HQ.out; omega,by omega,by go_num, HZ.out.1, HZ.out.2.1, HZ.out.2.2⟩
                  · have hne : ¬ dv (D u) = (k : Int) := fun e => hDu (by
                      cases hc : D u with
                      | none => rw [hc, dv_none] at e; omega
                      | some j' => rw [hc, dv_some] at e; congr 1; omega)
                    have HZ := Lib.hid (show LRow wA g (dvL D i) ∧ Lvl (prs (ones es)) s i k (q + 1) D ∧ Keeps [] wB wA from ⟨hlA, hlv.pass hps (fun e => absurd e hDu), kpA⟩)
                    generalize dv (D u) = du at *
                    have hne2 : (du == (k : Int)) = false := by simpa using hne
                    clear hlA kpA hlv hps hDu
                    go_wp2_with fail
                    go_roundg (gk - 1)
                    case measure => have := HQ.out; omega
                    case rel => exact ⟨q + 1, _,by have := HQ.out; omega,by omega,by go_num, HZ.out.1, HZ.out.2.1, HZ.out.2.2⟩
                · obtain rfl : q = es.length := by omega
                  have hpl : (prs (ones es)).length = es.length := by rw [prs_len, ones_len]
                  rw [<- hpl] at hlv
                  have HZ := Lib.hid (show LRow wr g (dvL D i) ∧ Lvl (prs (ones es)) s i (k + 1) 0 D ∧ Keeps [] wB wr from ⟨hl, hlv.round, kp⟩)
                  clear hl hlv kp hpl HQ
                  go_wp2_with fail
                  go_roundg (gout - 1)
                  case measure => have := HJ.out; omega
                  case rel => exact ⟨k + 1, D,by have := HJ.out; omega,by omega,by go_num, HZ.out.1, HZ.out.2.1, HZ.out.2.2⟩
            · obtain rfl : k = i := by omega
              have hdn := hlv.done
              obtain ⟨c0, c1, c2, c3⟩ := HCC.out wr kp
              have hfr := from_calls wr a b h0 k (.slice aE (ones es).length cE) (ones es) (HI.out wr kp) (ones_in HR.out) ones_w (by rw [ones_len]; omega) (by omega) s hsn
              rw [ones_len] at hfr
              have HL := Lib.hid hl
              have HD := Lib.hid hdn
              have KP := Lib.hid (KR.out.trans kp (by simp))
              have KB := Lib.hid kp
              clear hl hlv kp hdn HJ
              go_upto_region 28 with (go_at_call 17; refine hfr.mono ?_; rintro e w7 ⟨D2, vd, vb,rfl, hd2, hrow,⟨va2, vl2, vc2,rfl⟩, k7⟩; obtain rfl : D2 = D := hd2.one HD.out; obtain ⟨ad, cd,rfl⟩ := hrow.form; rw [dvL_len] at hrow; have HR7 := Lib.hid hrow; have K7 := Lib.hid k7; clear hd2 hrow k7)
              clear hfr c0 c1 c2 c3
              obtain ⟨wT, hwT⟩ : ∃ wT, wT = w7.alloc (.cells #[.slice ad k cd,.slice va2 vl2 vc2] 60 (0,0)) := ⟨_,rfl⟩
              obtain ⟨d, hd⟩ : ∃ d, d = w7.heap.size := ⟨_,rfl⟩
              have kT : Keeps [] w7 wT := by rw [hwT]; exact (Keeps.refl _ _).alloc _
              have bT : wT.heap[d]? = some (.cells #[.slice ad k cd,.slice va2 vl2 vc2] 60 (0,0)) := by rw [hwT, hd]; exact blk_alloc_new _
              have t0 : wT.cell? ⟨d,0,none⟩ = some (.slice ad k cd) := by rw [cell_of_blk bT]; rfl
              have kwT : Keeps [] wr wT := K7.out.trans kT (by simp)
              have h8 : wT.cell? ⟨h,0,none⟩ = some (.int .i64 (k : Int)) := kwT.cell' (HCC.out wr KB.out).1
              have hlT := HL.out.keep kwT (by simp)
              have hrT : KRow wr.heap.size wT (.slice ad k cd) (dvL D2 k) := HR7.out.keep kT (by simp)
              have KF := Lib.hid (KP.out.trans kwT (by simp))
              have HT := Lib.hid (show wT.cell? ⟨d,0,none⟩ = some (.slice ad k cd) ∧ LRow wT g (dvL D2 k) ∧ KRow wr.heap.size wT (.slice ad k cd) (dvL D2 k) from ⟨t0, hlT, hrT⟩)
              rw [dvL_len, <- hwT, <- hd]
              clear hwT hd kT bT kwT hlT hrT HL HR7 K7 KB KP HCC HI KR HD
              go_wp2_with fail
              go_loopg [141] (k + 1) (fun j t wx => ∃ i : Nat, j + i = k + 1 ∧ i <= k ∧ t = .int .i64 (i : Int) ∧ Keeps [] wT wx)
              case atStart => exact ⟨0,by omega,by omega,rfl, Keeps.refl _ _⟩
              case round =>
                clear t0 h8
                obtain ⟨i, hj, hin,rfl, kp⟩ := hrel
                have HJ := Lib.hid hj
                clear hj
                by_cases hi : i < k
                · have hi3 : (i : Int) < (k : Int) := by omega
                  obtain ⟨q1, q2, q3⟩ := HT.out
                  have c0 := kp.cell' q1
                  have c2 := (q2.keep kp (by simp)).at (dvL_at D2 hi)
                  obtain ⟨gd,rfl, _, c1⟩ := (q3.keep kp (by simp)).at (dvL_at D2 hi)
                  have KX := Lib.hid kp
                  clear q1 q2 q3 kp
                  generalize dv (D2 i) = dd at *
                  go_upto_region 33 with fail
                  go_quiet (fail)
                  all_goals
                    go_wp2_with fail
                    go_roundg (gk - 1)
                    case measure => have := HJ.out; omega
                    case rel => exact ⟨i + 1,by have := HJ.out; omega,by omega,by go_num, KX.out.drewN _⟩
                · obtain rfl : i = k := by omega
                  have KX := Lib.hid (KF.out.trans kp (by simp))
                  clear kp
                  go_wp2_with fail
                  go_ret
                  exact ⟨rfl, KX.out⟩
end Go.Proofs.YtkdbjelhkfdfjaaGreatDoor


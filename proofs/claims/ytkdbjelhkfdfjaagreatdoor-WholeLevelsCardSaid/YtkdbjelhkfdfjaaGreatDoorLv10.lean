/-
  Contracts that the law rests on. Conditions: none.
-/
import Derived.Test.YtkdbjelhkfdfjaaGreatDoorLv02
import Derived.ChangeKeysEq
import Derived.Deep.AppendLies
import Derived.Deep.Cut
import Derived.Deep.CutBlock
import Derived.Deep.DeepCutAuto
import Derived.Deep.LoopGhost
import Derived.Deep.RegionHeld3
import Derived.Deep.RegionLaw
import Derived.DeepKeys4
import Derived.IntWalk
import Derived.Laws.Entries
import Derived.Laws.IdiomStrings
import Derived.Laws.ResultCell
import Derived.Laws.Rows
import Derived.Laws.StructEq
import Derived.Lib.SliceRun
set_option linter.unusedVariables false
set_option maxRecDepth 100000
set_option maxHeartbeats 32000000
namespace Go.Proofs.YtkdbjelhkfdfjaaGreatDoor
open Go.RowKit
abbrev E3 := Int × Int × Int
def EIn (w : World) (v : Value) (es : List E3) : Prop :=
  (∃ ao ca, v = .slice ao es.length ca) ∧ ∀ (i : Nat) e, es[i]? = some e -> ∃ g off ca, v = .slice (some ⟨g,off,none⟩) es.length ca ∧
    w.cell? ⟨g, off + i * 3, none⟩ = some (.int .i64 e.1) ∧ w.cell? ⟨g, off + i * 3 + 1, none⟩ = some (.int .i64 e.2.1) ∧ w.cell? ⟨g, off + i * 3 + 2, none⟩ = some (.int .i64 e.2.2)
theorem EIn.keep {w w' : World} {v : Value} {es : List E3} {S : List Nat} (h : EIn w v es) (k : Keeps S w w') (hS : ∀ b ∈ S, w.heap.size <= b) : EIn w' v es := by
  have hc : ∀ (b j : Nat) u, w.cell? ⟨b,j,none⟩ = some u -> w'.cell? ⟨b,j,none⟩ = some u := fun b j u e => by
    have hb := World.block_lt_of_cell? w _ e
    rw [World.cell?_of_block (a := ⟨b,j,none⟩) (k.block b hb (fun e => by have := hS b e; simp at hb; omega))]; exact e
  refine ⟨h.1,fun i e hx => ?_⟩
  obtain ⟨g, off, ca, h1, h2, h3, h4⟩ := h.2 i e hx
  exact ⟨g, off, ca, h1, hc _ _ _ h2, hc _ _ _ h3, hc _ _ _ h4⟩
def inG (n : Int) (e : E3) : Prop := 0 <= e.1 ∧ e.1 < n ∧ 0 <= e.2.1 ∧ e.2.1 < n
def RightDone (w : World) (n : Int) (es : List E3) (e : Ending) (w' : World) : Prop :=
  (∃ b : Bool, e = .returned (.bool b) ∧ (b = true ↔ 0 <= n ∧ n <= 4096 ∧ ∀ x ∈ es, inG n x)) ∧ Keeps [] w w'
section
variable (w : World) (n : Int) (v : Value) (es : List E3)
theorem right_calls (h : EIn w v es) (hl : es.length <= 65536) :
    Calls Tryz.prog 16 #[.agg #[.int .i64 n, v]] w (RightDone w n es) := by
  obtain ⟨ao, ca,rfl⟩ := h.1
  obtain ⟨w0, hw0⟩ : ∃ w0, w0 = w.alloc (.cells #[.int .i64 n,.slice ao es.length ca] 55 (0,0)) := ⟨_,rfl⟩
  obtain ⟨b, hb⟩ : ∃ b, b = w.heap.size := ⟨_,rfl⟩
  have k0 : Keeps [] w w0 := by rw [hw0]; exact (Keeps.refl _ _).alloc _
  have hb0 : w0.heap[b]? = some (.cells #[.int .i64 n,.slice ao es.length ca] 55 (0,0)) := by rw [hw0, hb]; exact blk_alloc_new _
  have hc : ∀ u, Keeps [] w0 u -> u.cell? ⟨b,0,none⟩ = some (.int .i64 n) ∧ u.cell? ⟨b,1,none⟩ = some (.slice ao es.length ca) := fun u k => by
    have := k.blk hb0 (by simp)
    exact ⟨by rw [cell_of_blk this]; rfl,by rw [cell_of_blk this]; rfl⟩
  have HC := Lib.hid hc
  have K0 := Lib.hid k0
  have HE := Lib.hid (h.keep k0 (by simp))
  obtain ⟨e0, e1⟩ := hc w0 (Keeps.refl _ _)
  clear h hc k0 hb0
  go_enter Tryz.func16, Tryz.ntmps16
  go_upto_region 1 with fail
  rw [<- hw0, <- hb]
  clear hw0 hb
  go_wp2_with fail
  go_loopg [8] (es.length + 1) (fun k t wr => ∃ i : Nat, k + i = es.length + 1 ∧ i <= es.length ∧ t = .int .i64 i ∧ Keeps [] w0 wr ∧ ∀ x ∈ es.take i, inG n x)
  case atStart => exact ⟨0,by omega,by omega,rfl, Keeps.refl _ _,by simp⟩
  case round =>
    clear e0 e1
    obtain ⟨i, hk, hin,rfl, kp, hg⟩ := hrel
    have HK := Lib.hid hk
    clear hk
    by_cases hi : i < es.length
    · have hi3 : (i : Int) < (es.length : Int) := by omega
      obtain ⟨x, hx⟩ : ∃ x, es[i]? = some x := ⟨_, List.getElem?_eq_getElem hi⟩
      obtain ⟨g, off, ca', hv, c1, c2, c3⟩ := (HE.out.keep kp (by simp)).2 i x hx
      obtain ⟨x1, x2, x3⟩ := x
      cases hv
      have kA : Keeps [] w0 (wr.alloc (.cells #[.int .i64 x1,.int .i64 x2,.int .i64 x3] 58 (0,0))) := kp.alloc _
      obtain ⟨n1, _⟩ := HC.out _ kA
      have htk : es.take (i + 1) = es.take i ++ [(x1, x2, x3)] := by rw [List.take_add_one, hx]; rfl
      have KA := Lib.hid kA
      have HG := Lib.hid hg
      have HT := Lib.hid htk
      have HM := Lib.hid (List.mem_of_getElem? hx)
      clear kA kp hg hx htk
      simp only at c1 c2 c3
      by_cases q1 : x1 < 0
      · go_wp2_with fail
        go_ret
        exact ⟨⟨_,rfl,⟨by simp,fun h => absurd (h.2.2 _ HM.out) (fun g => by simp only [inG] at g; omega)⟩⟩, K0.out.trans KA.out (by simp)⟩
      by_cases q2 : n <= x1
      · go_wp2_with fail
        go_ret
        exact ⟨⟨_,rfl,⟨by simp,fun h => absurd (h.2.2 _ HM.out) (fun g => by simp only [inG] at g; omega)⟩⟩, K0.out.trans KA.out (by simp)⟩
      by_cases q3 : x2 < 0
      · go_wp2_with fail
        go_ret
        exact ⟨⟨_,rfl,⟨by simp,fun h => absurd (h.2.2 _ HM.out) (fun g => by simp only [inG] at g; omega)⟩⟩, K0.out.trans KA.out (by simp)⟩
      by_cases q4 : n <= x2
      · go_wp2_with fail
        go_ret
        exact ⟨⟨_,rfl,⟨by simp,fun h => absurd (h.2.2 _ HM.out) (fun g => by simp only [inG] at g; omega)⟩⟩, K0.out.trans KA.out (by simp)⟩
      go_wp2_with fail
      go_roundg (gk - 1)
      case measure => have := HK.out; omega
      case rel => exact ⟨i + 1,by have := HK.out; omega,by omega,by go_num, KA.out, by
        rw [HT.out]
        intro x hx
        rcases List.mem_append.1 hx with hx | hx
        · exact HG.out x hx
        · simp at hx; subst hx; exact ⟨by omega,by omega,by omega,by omega⟩⟩
    · obtain rfl : i = es.length := by omega
      rw [List.take_length] at hg
      have HG := Lib.hid hg
      obtain ⟨n0, n1⟩ := HC.out _ kp
      have KP := Lib.hid (K0.out.trans kp (by simp))
      clear hg kp
      have q3 : (es.length : Int) <= 65536 := by omega
      by_cases q1 : 0 <= n
      · by_cases q2 : n <= 4096
        · go_wp2_with fail
          go_ret
          exact ⟨⟨true,rfl,⟨fun _ => ⟨q1, q2, HG.out⟩,fun _ => rfl⟩⟩, KP.out⟩
        · go_wp2_with fail
          go_ret
          exact ⟨⟨_,rfl,⟨by simp,fun h => absurd h.2.1 (by omega)⟩⟩, KP.out⟩
      · go_wp2_with fail
        go_ret
        exact ⟨⟨_,rfl,⟨by simp,fun h => absurd h.1 (by omega)⟩⟩, KP.out⟩
end
section
variable (w : World) (n : Int) (v : Value) (es : List E3)
theorem vertex_calls (x : Int) (h0 : 0 <= x) (h1 : x < n) : Calls Tryz.prog 95 #[.agg #[.int .i64 n, v],.int .i64 x] w fun e w' => e = .returned (.bool true) ∧ Keeps [] w w' := by
  have K := Lib.hid (show Keeps [] w (w.alloc (.cells #[.int .i64 n, v] 55 (0,0))) from (Keeps.refl _ _).alloc _)
  have c0 : (w.alloc (.cells #[.int .i64 n, v] 55 (0,0))).cell? ⟨w.heap.size,0,none⟩ = some (.int .i64 n) := by rw [cell_of_blk (blk_alloc_new _)]; rfl
  go_enter Tryz.func95, Tryz.ntmps95
  go_wp2_with fail
  go_ret
  exact ⟨rfl, K.out⟩
theorem outside_calls (b : Nat) (hb : w.heap[b]? = some (.cells #[.int .i64 n, v] 55 (0,0))) (x1 x2 x3 : Int) (hx : inG n (x1, x2, x3)) (hv : ∃ ao m ca, v = .slice ao m ca) :
    Calls Tryz.prog 94 #[.agg #[.int .i64 x1,.int .i64 x2,.int .i64 x3],.pointer (some ⟨b,0,none⟩)] w fun e w' => e = .returned (.bool false) ∧ Keeps [] w w' := by
  obtain ⟨ao, m, ca,rfl⟩ := hv
  obtain ⟨w0, hw0⟩ : ∃ w0, w0 = w.alloc (.cells #[.int .i64 x1,.int .i64 x2,.int .i64 x3] 58 (0,0)) := ⟨_,rfl⟩
  obtain ⟨d, hd⟩ : ∃ d, d = w.heap.size := ⟨_,rfl⟩
  have k0 : Keeps [] w w0 := by rw [hw0]; exact (Keeps.refl _ _).alloc _
  have hd0 : w0.heap[d]? = some (.cells #[.int .i64 x1,.int .i64 x2,.int .i64 x3] 58 (0,0)) := by rw [hw0, hd]; exact blk_alloc_new _
  have hb0 := k0.blk hb (by simp)
  have hc : ∀ u, Keeps [] w0 u -> u.cell? ⟨b,0,none⟩ = some (.int .i64 n) ∧ u.cell? ⟨b,1,none⟩ = some (.slice ao m ca) ∧ u.cell? ⟨d,0,none⟩ = some (.int .i64 x1) ∧ u.cell? ⟨d,1,none⟩ = some (.int .i64 x2) := fun u k => by
    have h1 := k.blk hb0 (by simp)
    have h2 := k.blk hd0 (by simp)
    exact ⟨by rw [cell_of_blk h1]; rfl,by rw [cell_of_blk h1]; rfl,by rw [cell_of_blk h2]; rfl,by rw [cell_of_blk h2]; rfl⟩
  have HC := Lib.hid hc
  have K0 := Lib.hid k0
  obtain ⟨e0, e1, e2, e3⟩ := hc w0 (Keeps.refl _ _)
  have hvx := fun u (x : Int) (h0 : 0 <= x) (h1 : x < n) => vertex_calls u n (.slice ao m ca) x h0 h1
  obtain ⟨p1, p2, p3, p4⟩ := hx
  simp only at p1 p2 p3 p4
  clear hc k0 hb0 hb hd0
  go_enter Tryz.func94, Tryz.ntmps94
  go_upto_region 1 with fail
  rw [<- hw0, <- hd]
  clear hw0 hd
  go_wp2_with (go_at_call 95; refine (hvx _ _ (by assumption) (by assumption)).mono ?_; rintro e u ⟨rfl, k⟩; first
    | (obtain ⟨y0, y1, y2, y3⟩ := HC.out u k; have K1 := Lib.hid k; clear k e0 e1 e2 e3)
    | (have K2 := Lib.hid (K1.out.trans k (by simp)); clear k))
  go_ret
  exact ⟨rfl, K0.out.trans K2.out (by simp)⟩
theorem edges_index (b : Nat) (hb : w.heap[b]? = some (.cells #[.int .i64 n, v] 55 (0,0))) (h : EIn w v es) (hg : ∀ x ∈ es, inG n x) (hl : es.length <= 65536) :
    Calls Tryz.prog 119 #[v,.func (.func 94) #[] #[.pointer (some ⟨b,0,none⟩)]] w fun e w' => e = .returned (.int .i64 (-1)) ∧ Keeps [] w w' := by
  obtain ⟨ao, ca,rfl⟩ := h.1
  have HE := Lib.hid h
  have HB := Lib.hid hb
  have HG := Lib.hid hg
  clear h hb hg
  go_enter Tryz.func119, Tryz.ntmps119
  go_wp2_with fail
  go_loopg [8] (es.length + 1) (fun k t wr => ∃ i : Nat, k + i = es.length + 1 ∧ i <= es.length ∧ t = .int .i64 (i : Int) ∧ Keeps [] w wr)
  case atStart => exact ⟨0,by omega,by omega,rfl, Keeps.refl _ _⟩
  case round =>
    obtain ⟨i, hk, hin,rfl, kp⟩ := hrel
    have HK := Lib.hid hk
    clear hk
    by_cases hi : i < es.length
    · have hi3 : (i : Int) < (es.length : Int) := by omega
      obtain ⟨x, hx⟩ : ∃ x, es[i]? = some x := ⟨_, List.getElem?_eq_getElem hi⟩
      obtain ⟨g, off, ca', hv, c1, c2, c3⟩ := (HE.out.keep kp (by simp)).2 i x hx
      obtain ⟨x1, x2, x3⟩ := x
      have hout := outside_calls wr n (.slice ao es.length ca) b (kp.blk HB.out (by simp)) x1 x2 x3 (HG.out _ (List.mem_of_getElem? hx)) ⟨_, _, _,rfl⟩
      cases hv
      have KP := Lib.hid kp
      clear kp hx
      simp only at c1 c2 c3
      go_wp2_with (go_at_call 94; refine hout.mono ?_; rintro e w' ⟨rfl, k1⟩; have K1 := Lib.hid (KP.out.trans k1 (by simp)); clear k1)
      go_roundg (gk - 1)
      case measure => have := HK.out; omega
      case rel => exact ⟨i + 1,by have := HK.out; omega,by omega,by go_num, K1.out⟩
    · obtain rfl : es.length = i := by omega
      have hi3 : ¬ (es.length : Int) < (es.length : Int) := by omega
      have KP := Lib.hid kp
      clear kp
      go_wp2_with fail
      go_ret
      exact ⟨rfl, KP.out⟩
theorem edges_none (b : Nat) (hb : w.heap[b]? = some (.cells #[.int .i64 n, v] 55 (0,0))) (h : EIn w v es) (hg : ∀ x ∈ es, inG n x) (hl : es.length <= 65536) :
    Calls Tryz.prog 93 #[v,.func (.func 94) #[] #[.pointer (some ⟨b,0,none⟩)]] w fun e w' => e = .returned (.bool false) ∧ Keeps [] w w' := by
  have hs := edges_index w n v es b hb h hg hl
  clear h hb hg
  go_enter Tryz.func93, Tryz.ntmps93
  go_wp2_with (go_at_call 119; refine hs.mono ?_; rintro e w' ⟨rfl, k⟩; have K := Lib.hid k; clear k)
  go_ret
  exact ⟨rfl, K.out⟩
theorem gcheck_calls (h : EIn w v es) (hg : ∀ x ∈ es, inG n x) (hl : es.length <= 65536) (h0 : 0 <= n) (h1 : n <= 4096) :
    Calls Tryz.prog 72 #[.agg #[.int .i64 n, v]] w fun e w' => e = .returned (.int .i64 0) ∧ Keeps [] w w' := by
  obtain ⟨ao, ca,rfl⟩ := h.1
  obtain ⟨w0, hw0⟩ : ∃ w0, w0 = w.alloc (.cells #[.int .i64 n,.slice ao es.length ca] 55 (0,0)) := ⟨_,rfl⟩
  obtain ⟨b, hb⟩ : ∃ b, b = w.heap.size := ⟨_,rfl⟩
  have k0 : Keeps [] w w0 := by rw [hw0]; exact (Keeps.refl _ _).alloc _
  have hb0 : w0.heap[b]? = some (.cells #[.int .i64 n,.slice ao es.length ca] 55 (0,0)) := by rw [hw0, hb]; exact blk_alloc_new _
  have e0 : w0.cell? ⟨b,0,none⟩ = some (.int .i64 n) := by rw [cell_of_blk hb0]; rfl
  have e1 : w0.cell? ⟨b,1,none⟩ = some (.slice ao es.length ca) := by rw [cell_of_blk hb0]; rfl
  have hno := edges_none w0 n (.slice ao es.length ca) es b hb0 (h.keep k0 (by simp)) hg hl
  have hmf : ∀ (fn : Fn) (first cap : Array Value) (w : World),(Instr.makeFunc fn first cap).run Tryz.prog w = .ok (.func fn first cap) w := fun _ _ _ _ => rfl
  have q1 : ¬ n < 0 := by omega
  have q2 : ¬ 4096 < n := by omega
  have q3 : ¬ 65536 < (es.length : Int) := by omega
  have K0 := Lib.hid k0
  clear h hg hb0 k0 h0 h1
  go_enter Tryz.func72, Tryz.ntmps72
  go_upto_region 1 with fail
  rw [<- hw0, <- hb]
  clear hw0 hb
  go_wp2_with (go_at_call 93; refine hno.mono ?_; rintro e w' ⟨rfl, k⟩; have K := Lib.hid k; clear k)
  go_ret
  exact ⟨rfl, K0.out.trans K.out (by simp)⟩
end
def okC (a b : Int) : Prop := (1 <= a ∧ a <= 8) ∧ ((a = 2 ∧ 2 <= b ∧ b <= 16) ∨ (a ≠ 2 ∧ b = 0))
instance (a b : Int) : Decidable (okC a b) := by unfold okC; infer_instance
section
variable (w : World) (a b : Int)
theorem check_calls : Calls Tryz.prog 33 #[.agg #[.int .i64 a,.int .i64 b]] w fun e w' => (∃ r : Int, e = .returned (.int .i64 r) ∧ (r = 0 ↔ okC a b)) ∧ Keeps [] w w' := by
  have hk : Keeps [] w (w.alloc (.cells #[.int .i64 a,.int .i64 b] 23 (0,0))) := (Keeps.refl _ _).alloc _
  obtain ⟨w0, hw0⟩ : ∃ w0, w0 = w.alloc (.cells #[.int .i64 a,.int .i64 b] 23 (0,0)) := ⟨_,rfl⟩
  have e0 : w0.cell? ⟨w.heap.size,0,none⟩ = some (.int .i64 a) := by rw [hw0, cell_of_blk (blk_alloc_new _)]; rfl
  have e1 : w0.cell? ⟨w.heap.size,1,none⟩ = some (.int .i64 b) := by rw [hw0, cell_of_blk (blk_alloc_new _)]; rfl
  rw [<- hw0] at hk
  have HK := Lib.hid hk
  clear hk
  go_enter Tryz.func33, Tryz.ntmps33
  go_upto_region 1 with fail
  rw [<- hw0]
  clear hw0
  by_cases h1 : a < 1
  · go_wp2_with fail
    go_ret
    exact ⟨⟨_,rfl,by unfold okC; constructor <;> intro h <;> omega⟩, HK.out⟩
  · by_cases h2 : 8 < a
    · go_wp2_with fail
      go_ret
      exact ⟨⟨_,rfl,by unfold okC; constructor <;> intro h <;> omega⟩, HK.out⟩
    · by_cases h3 : a = 2
      · subst h3
        by_cases h4 : b < 2
        · go_wp2_with fail
          go_ret
          exact ⟨⟨_,rfl,by unfold okC; constructor <;> intro h <;> omega⟩, HK.out⟩
        · by_cases h5 : 16 < b
          · go_wp2_with fail
            go_ret
            exact ⟨⟨_,rfl,by unfold okC; constructor <;> intro h <;> omega⟩, HK.out⟩
          · go_wp2_with fail
            go_ret
            exact ⟨⟨_,rfl,by unfold okC; constructor <;> intro h <;> omega⟩, HK.out⟩
      · have h6 : (a == 2) = false := by rw [beq_eq_false_iff_ne]; exact h3
        have h7 : (a != 2) = true := by rw [bne_iff_ne]; exact h3
        have H3 := Lib.hid h3
        clear h3
        by_cases h4 : b = 0
        · subst h4
          go_wp2_with fail
          go_ret
          exact ⟨⟨_,rfl,by have := H3.out; unfold okC; constructor <;> intro h <;> omega⟩, HK.out⟩
        · have h8 : (b != 0) = true := by rw [bne_iff_ne]; exact h4
          have H4 := Lib.hid h4
          clear h4
          go_wp2_with fail
          go_ret
          exact ⟨⟨_,rfl,by have := H3.out; have := H4.out; unfold okC; constructor <;> intro h <;> omega⟩, HK.out⟩
theorem ref_check_calls : Calls Tryz.prog 8 #[.agg #[.int .i64 a,.int .i64 b]] w fun e w' => (∃ r : Int, e = .returned (.int .i64 r) ∧ (r = 0 ↔ okC a b)) ∧ Keeps [] w w' := by
  have hk : Keeps [] w (w.alloc (.cells #[.int .i64 a,.int .i64 b] 23 (0,0))) := (Keeps.refl _ _).alloc _
  obtain ⟨w0, hw0⟩ : ∃ w0, w0 = w.alloc (.cells #[.int .i64 a,.int .i64 b] 23 (0,0)) := ⟨_,rfl⟩
  have e0 : w0.cell? ⟨w.heap.size,0,none⟩ = some (.int .i64 a) := by rw [hw0, cell_of_blk (blk_alloc_new _)]; rfl
  have e1 : w0.cell? ⟨w.heap.size,1,none⟩ = some (.int .i64 b) := by rw [hw0, cell_of_blk (blk_alloc_new _)]; rfl
  rw [<- hw0] at hk
  have HK := Lib.hid hk
  clear hk
  go_enter Tryz.func8, Tryz.ntmps8
  go_upto_region 1 with fail
  rw [<- hw0]
  clear hw0
  by_cases h1 : a < 1
  · go_wp2_with fail
    go_ret
    exact ⟨⟨_,rfl,by unfold okC; constructor <;> intro h <;> omega⟩, HK.out⟩
  · by_cases h2 : 8 < a
    · go_wp2_with fail
      go_ret
      exact ⟨⟨_,rfl,by unfold okC; constructor <;> intro h <;> omega⟩, HK.out⟩
    · by_cases h3 : a = 2
      · subst h3
        by_cases h4 : 2 <= b
        · by_cases h5 : b <= 16
          · go_wp2_with fail
            go_ret
            exact ⟨⟨_,rfl,by unfold okC; constructor <;> intro h <;> omega⟩, HK.out⟩
          · go_wp2_with fail
            go_ret
            exact ⟨⟨_,rfl,by unfold okC; constructor <;> intro h <;> omega⟩, HK.out⟩
        · go_wp2_with fail
          go_ret
          exact ⟨⟨_,rfl,by unfold okC; constructor <;> intro h <;> omega⟩, HK.out⟩
      · have h6 : (a == 2) = false := by rw [beq_eq_false_iff_ne]; exact h3
        have h7 : (a != 2) = true := by rw [bne_iff_ne]; exact h3
        have H3 := Lib.hid h3
        clear h3
        by_cases h4 : b = 0
        · subst h4
          go_wp2_with fail
          go_ret
          exact ⟨⟨_,rfl,by have := H3.out; unfold okC; constructor <;> intro h <;> omega⟩, HK.out⟩
        · have h8 : (b == 0) = false := by rw [beq_eq_false_iff_ne]; exact h4
          have H4 := Lib.hid h4
          clear h4
          go_wp2_with fail
          go_ret
          exact ⟨⟨_,rfl,by have := H3.out; have := H4.out; unfold okC; constructor <;> intro h <;> omega⟩, HK.out⟩
theorem check_ok (h : okC a b) : Calls Tryz.prog 33 #[.agg #[.int .i64 a,.int .i64 b]] w fun e w' => e = .returned (.int .i64 0) ∧ Keeps [] w w' := by
  refine (check_calls w a b).mono ?_
  rintro e w' ⟨⟨r,rfl, hr⟩, k⟩
  rw [hr.2 h]
  exact ⟨rfl, k⟩
theorem arity_calls (h : okC a b) (ha : a = 1 ∨ a = 2) : Calls Tryz.prog 58 #[.agg #[.int .i64 a,.int .i64 b]] w fun e w' => (∃ d : Nat, e = .returned (.int .i64 d) ∧ 2 <= d ∧ d <= 16) ∧ Keeps [] w w' := by
  obtain ⟨w0, hw0⟩ : ∃ w0, w0 = w.alloc (.cells #[.int .i64 a,.int .i64 b] 23 (0,0)) := ⟨_,rfl⟩
  have hk : Keeps [] w w0 := by rw [hw0]; exact (Keeps.refl _ _).alloc _
  have hb0 : w0.heap[w.heap.size]? = some (.cells #[.int .i64 a,.int .i64 b] 23 (0,0)) := by rw [hw0]; exact blk_alloc_new _
  have e0 : w0.cell? ⟨w.heap.size,0,none⟩ = some (.int .i64 a) := by rw [cell_of_blk hb0]; rfl
  have e1 : w0.cell? ⟨w.heap.size,1,none⟩ = some (.int .i64 b) := by rw [cell_of_blk hb0]; rfl
  have hc := check_ok w0 a b h
  have hstep : ∀ w1, Keeps [] w0 w1 -> w1.cell? ⟨w.heap.size,0,none⟩ = some (.int .i64 a) ∧ w1.cell? ⟨w.heap.size,1,none⟩ = some (.int .i64 b) ∧ Hid (Keeps [] w w1) := fun w1 k => by
    have := k.blk hb0 (by simp)
    exact ⟨by rw [cell_of_blk this]; rfl,by rw [cell_of_blk this]; rfl, hk.trans k (by simp)⟩
  have HS := Lib.hid hstep
  have HO := Lib.hid h
  clear hstep hk hb0 h
  go_enter Tryz.func58, Tryz.ntmps58
  go_upto_region 1 with fail
  rw [<- hw0]
  clear hw0
  rcases ha with rfl | rfl
  · go_wp2_with (go_at_call 33; refine hc.mono ?_; rintro e w1 ⟨rfl, k1⟩; obtain ⟨z0, z1, z2⟩ := HS.out w1 k1; clear k1)
    go_ret
    exact ⟨⟨2,rfl,by omega,by omega⟩, z2.out⟩
  · obtain ⟨d,rfl⟩ : ∃ d : Nat, b = d := ⟨b.toNat,by have := HO.out; unfold okC at this; omega⟩
    go_wp2_with (go_at_call 33; refine hc.mono ?_; rintro e w1 ⟨rfl, k1⟩; obtain ⟨z0, z1, z2⟩ := HS.out w1 k1; clear k1)
    go_ret
    exact ⟨⟨d,rfl,by have := HO.out; unfold okC at this; omega,by have := HO.out; unfold okC at this; omega⟩, z2.out⟩
end
theorem Tryz.infoCfg : (Tryz.prog.info? 23).map (fun i => (i.zero, i.size, i.bytes)) = some (some (.agg #[.int .i64 0,.int .i64 0]), 2,16) := by kernel_rfl
def baseK (k : Nat) : Nat := if k <= 2 then k - 1 else k + 13
def cntK (k d : Nat) : Nat := baseK k + (if k = 2 then d - 2 else if d = 0 then 0 else 1)
theorem cntK_yes {k d : Nat} (h : okC k d) : cntK k (d + 1) = cntK k d + 1 := by
  unfold okC at h; unfold cntK
  obtain ⟨h1, h2 | h2⟩ := h
  · have : k = 2 := by omega
    subst this; simp; omega
  · have h3 : ¬ k = 2 := by omega
    have h4 : d = 0 := by omega
    subst h4; simp [h3]
theorem cntK_no {k d : Nat} (h1 : 1 <= k) (h8 : k <= 8) (hd : d <= 16) (h : ¬ okC k d) : cntK k (d + 1) = cntK k d := by
  unfold okC at h; unfold cntK
  by_cases h2 : k = 2
  · subst h2; simp; omega
  · by_cases h0 : d = 0
    · exact absurd ⟨⟨by omega,by omega⟩,.inr ⟨by omega,by omega⟩⟩ h
    · simp [h2, h0]
theorem cntK_last {k : Nat} (h1 : 1 <= k) : cntK k 17 = baseK (k + 1) := by
  unfold cntK baseK
  by_cases h2 : k = 2
  · subst h2; rfl
  · by_cases h3 : k <= 2
    · have : k = 1 := by omega
      subst this; rfl
    · simp [h2, show ¬ k + 1 <= 2 by omega, h3]
theorem cntK_zero (k : Nat) : cntK k 0 = baseK k := by unfold cntK; by_cases h : k = 2 <;> simp [h]
theorem cntK_le {k d : Nat} (h8 : k <= 8) (hd : d <= 17) : cntK k d <= 60 := by
  unfold cntK baseK; split <;> split <;> (try split) <;> omega
def GRow (w0 w : World) (v : Value) (n : Nat) : Prop := (∃ xs, w.ownsRow 0 23 2 v n xs) ∧ (∀ b, v.ownBlock = some b -> w0.heap.size <= b) ∧ Keeps [] w0 w
theorem GRow.form {w0 w : World} {v : Value} {n : Nat} (h : GRow w0 w v n) : ∃ ao ca, v = .slice ao n ca := by
  obtain ⟨⟨xs, h⟩, _⟩ := h
  rcases h.2 with ⟨rfl,rfl⟩ | ⟨g, cap, cur,rfl, _⟩
  · exact ⟨_, _,rfl⟩
  · exact ⟨_, _,rfl⟩
theorem kinds_calls (w : World) : Calls Tryz.prog 21 #[] w fun e w' => ∃ ao ca, e = .returned (.slice ao 22 ca) ∧ Keeps [] w w' := by
  have HS := Lib.hid (show GRow w w (.slice none 0 0) (baseK 1) from ⟨⟨[],rfl,.inl ⟨rfl,rfl⟩⟩,by simp [Value.ownBlock], Keeps.refl _ _⟩)
  go_enter Tryz.func21, Tryz.ntmps21
  go_wp2_with fail
  go_loopg [1,2] 8 (fun j v t wr => ∃ k : Nat, j + k = 9 ∧ 1 <= k ∧ k <= 9 ∧ t = .int .i64 k ∧ GRow w wr v (baseK k))
  case atStart => exact ⟨1,by omega,by omega,by omega,rfl, HS.out⟩
  case round =>
    clear HS
    obtain ⟨k, hj, hk1, hk9,rfl, hcr⟩ := hrel
    have HJ := Lib.hid hj
    clear hj
    by_cases hk8 : k <= 8
    · have hk8' : (k : Int) <= 8 := by omega
      have HS := Lib.hid (show GRow w wr _ (cntK k 0) by rw [cntK_zero]; exact hcr)
      clear hcr
      go_wp2_with fail
      go_loopg [1,9] 17 (fun j v t wr => ∃ d : Nat, j + d = 17 ∧ d <= 17 ∧ t = .int .i64 d ∧ GRow w wr v (cntK k d))
      case atStart => exact ⟨0,by omega,by omega,rfl, HS.out⟩
      case round =>
        clear HS
        obtain ⟨d, hi, hd,rfl, hcr⟩ := hrel
        have HI := Lib.hid hi
        clear hi
        by_cases hd16 : d < 17
        · have hd16' : (d : Int) < 17 := by omega
          obtain ⟨ao, ca,rfl⟩ := hcr.form
          obtain ⟨⟨xs, hr⟩, hob, kp⟩ := hcr
          have hcnt := cntK_le (k := k) (d := d) hk8 (by omega)
          have hc := check_calls (wr.alloc (.cells #[.int .i64 (k : Int),.int .i64 (d : Int)] 23 (0,0))) k d
          have hfin : ∀ w1, Keeps [] (wr.alloc (.cells #[.int .i64 (k : Int),.int .i64 (d : Int)] 23 (0,0))) w1 -> w1.cell? ⟨wr.heap.size,0,none⟩ = some (.int .i64 k) ∧ w1.cell? ⟨wr.heap.size,1,none⟩ = some (.int .i64 d) ∧
              w1.ownsRow 0 23 2 (.slice ao (cntK k d) ca) (cntK k d) xs ∧
              Hid ((¬ okC k d -> GRow w w1 (.slice ao (cntK k d) ca) (cntK k (d + 1))) ∧
                ∀ g' c' w2, okC k d -> w2.ownsRow 0 23 2 (.slice (some ⟨g',0,none⟩) (cntK k d + 1) c') (cntK k d + 1) (xs ++ [.int .i64 k,.int .i64 d]) -> Keeps (Value.slice ao (cntK k d) ca).ownBlock.toList w1 w2 -> ((Value.slice ao (cntK k d) ca).ownBlock = some g' ∨ w1.heap.size <= g') ->
                  GRow w w2 (.slice (some ⟨g',0,none⟩) (cntK k d + 1) c') (cntK k (d + 1))) := by
            intro w1 k1
            have kk : Keeps [] wr w1 := ((Keeps.refl [] wr).alloc _).trans k1 (by simp)
            have hb := k1.blk (blk_alloc_new (w := wr) (.cells #[.int .i64 (k : Int),.int .i64 (d : Int)] 23 (0,0))) (by simp)
            have hr1 : w1.ownsRow 0 23 2 (.slice ao (cntK k d) ca) (cntK k d) xs := by
              refine ⟨hr.1,?_⟩
              rcases hr.2 with c | ⟨g, cap, cur, e, hb', hg, r⟩
              · exact .inl c
              · exact .inr ⟨g, cap, cur, e, hb', kk.blk hg (by simp), r⟩
            refine ⟨by rw [cell_of_blk hb]; rfl,by rw [cell_of_blk hb]; rfl, hr1,fun hno => ?_,fun g' c' w2 hok h2 k2 hg => ⟨⟨xs ++ [.int .i64 (k : Int),.int .i64 (d : Int)],?_⟩,fun b e => ?_,?_⟩⟩
            · rw [cntK_no hk1 hk8 (by omega) hno]
              exact ⟨⟨_, hr1⟩, hob, kp.trans kk (by simp)⟩
            · rw [cntK_yes hok]; exact h2
            · cases e
              rcases hg with e | e
              · exact hob _ e
              · have := kp.size; have := kk.size; show w.heap.size <= g'; omega
            · exact (kp.trans kk (by simp)).trans k2 (fun b hb => .inr (hob b (by simpa [Option.mem_toList] using hb)))
          have HF := Lib.hid hfin
          clear hfin hr hob kp
          by_cases hok : okC k d
          · go_wp2_with (first
              | (go_at_call 33; refine hc.mono ?_; rintro e w1 ⟨⟨r,rfl, hr⟩, k1⟩; obtain rfl : r = 0 := hr.2 hok; obtain ⟨c0, c1, hro, z1⟩ := HF.out w1 k1; clear hr k1)
              | (at_builtin; refine wpList_push_agg _ 23 #[.int .i64 (k : Int),.int .i64 (d : Int)] (0,0) rfl (.tmp 18) (.tmp 20) 72 rfl (.agg #[.int .i64 0,.int .i64 0]) 2 16 Tryz.underlying72 Tryz.infoCfg rfl (by decide) rfl (by simp [Value.oneCell']) (.slice ao (cntK k d) ca) (cntK k d) xs (by simp [Act.eval]) hro (by simp [Act.eval]) (by unfold maxLen; omega) (by omega) ?_; intro g' cap' w9 hr9 hk9 hf9; have z9 := Lib.hid (z1.out.2 g' cap' w9 hok hr9 hk9 hf9); clear hr9 hk9 hf9))
            go_roundg (gk - 1)
            case measure => have := HI.out; omega
            case rel => exact ⟨d + 1,by have := HI.out; omega,by omega,by go_num, z9.out⟩
          · go_wp2_with (go_at_call 33; refine hc.mono ?_; rintro e w1 ⟨⟨r,rfl, hr⟩, k1⟩; have hr0 : ¬ r = 0 := fun c => hok (hr.1 c); obtain ⟨c0, c1, hro, z1⟩ := HF.out w1 k1; clear hr k1)
            go_roundg (gk - 1)
            case measure => have := HI.out; omega
            case rel => exact ⟨d + 1,by have := HI.out; omega,by omega,by go_num, z1.out.1 hok⟩
        · obtain rfl : d = 17 := by omega
          have HS := Lib.hid hcr
          clear hcr
          go_wp2_with fail
          go_roundg (8 - k)
          case measure => have := HJ.out; omega
          case rel => exact ⟨k + 1,by have := HJ.out; omega,by omega,by omega,by go_num,by rw [<- cntK_last hk1]; exact HS.out⟩
    · obtain rfl : k = 9 := by omega
      obtain ⟨ao, ca,rfl⟩ := hcr.form
      have HS := Lib.hid hcr.2.2
      clear hcr
      go_wp2_with fail
      go_ret
      exact ⟨_, _,rfl, HS.out⟩
end Go.Proofs.YtkdbjelhkfdfjaaGreatDoor


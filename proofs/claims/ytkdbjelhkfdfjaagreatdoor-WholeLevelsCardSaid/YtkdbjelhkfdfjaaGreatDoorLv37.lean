/-
  Contracts that the law rests on. Conditions: none.
-/
import Derived.Test.YtkdbjelhkfdfjaaGreatDoorLv27
import Derived.Test.YtkdbjelhkfdfjaaGreatDoorLv36
set_option linter.unusedVariables false
set_option maxRecDepth 100000
set_option maxHeartbeats 32000000
namespace Go.Proofs.YtkdbjelhkfdfjaaGreatDoor
open Go.RowKit
theorem HeapAt.cong {d n i : Nat} {r : Nat -> Nat -> Bool} {v v' : Nat -> Nat} (h : HeapAt d r v n i) (hd : 2 <= d) (hi : i < n) (hv : ∀ j, j < n -> v' j = v j) : HeapAt d r v' n i := by
  refine ⟨fun j hj hn hne hp => ?_,fun j hj hn hp h0 => ?_⟩
  · have := par_lt hd hj
    rw [hv j hn, hv _ (by omega)]; exact h.1 j hj hn hne hp
  · have := par_lt hd h0
    rw [hv j hn, hv _ (by omega)]; exact h.2 j hj hn hp h0
theorem pile_m3 (fuel : Nat) (a : Addr) (w : World) : (method (fuel + 1) 478 (.pointer (some a)) "Len").run Tryz.prog w = .ok (443,.pointer (some a)) w := by kernel_rfl
theorem pile_m4 (fuel : Nat) (a : Addr) (w : World) : (method (fuel + 1) 478 (.pointer (some a)) "Push").run Tryz.prog w = .ok (454,.pointer (some a)) w := by kernel_rfl
theorem pile_m5 (fuel : Nat) (a : Addr) (w : World) : (method (fuel + 1) 478 (.pointer (some a)) "Pop").run Tryz.prog w = .ok (453,.pointer (some a)) w := by kernel_rfl
section
variable (w : World) (p pc ga q : Nat) (ao : Option Addr) (ca : Nat) (vP : Value) (Fc : List Nat) (cap hs : Nat) (E : Ent) (n : Nat) (v : Nat -> Nat) (f : Nat -> Int)
def HAdd (x : Nat) (e : Ending) (w' : World) : Prop :=
  ∃ ao' ca' v' f', e = .returned (.tuple #[]) ∧ PileOk w' p pc ga q ao' ca' vP Fc cap hs E (n + 1) v' f' ∧ (∀ z,(∃ j, j < n + 1 ∧ v' j = z) ↔ z = x ∨ ∃ j, j < n ∧ v j = z) ∧ Heap' 2 (ahead E) v' (n + 1) ∧
    Keeps (ga :: (pfp q ao ++ Fc)) w w' ∧ (∀ b ∈ pfp q ao', b ∈ pfp q ao ∨ w.heap.size <= b) ∧ (∀ y, y ≠ x -> (∀ k, k < n -> v k ≠ y) -> f' y = f y)
theorem heap_push (h : PileOk w p pc ga q ao ca vP Fc cap hs E n v f) (x : Nat) (hx : ∀ j, j < n -> v j ≠ x) (hE : ∀ j, j < n -> (E (v j)).isSome) (hEx : (E x).isSome) (hn : n + 1 <= 65536) (hh : Heap' 2 (ahead E) v n) :
    Calls Tryz.prog 442 #[.iface 478 (.pointer (some ⟨q,0,none⟩)),.iface 3 (.int .i64 x)] w (HAdd w p pc ga q ao vP Fc cap hs E n v f x) := by
  have hc := h.ce.ok.lt x hEx
  have hpu := pile_push w p pc ga q ao ca vP Fc cap hs E n v f h x hx hc hn
  have hE' : ∀ j, j < n + 1 -> (E ((fun k => if k = n then x else v k) j)).isSome := by
    intro j hj
    by_cases e : j = n
    · simp only [if_pos e]; exact hEx
    · simp only [if_neg e]; exact hE j (by omega)
  have hat := hh.at_end (by decide) x
  have hup := fun u ao' ca' (hu : PileOk u p pc ga q ao' ca' vP Fc cap hs E (n + 1) (fun k => if k = n then x else v k) (upd f x (n : Int))) => pile_up u p pc ga q ao' ca' vP Fc cap hs E (n + 1) (n + 1) _ _ hu n (by omega) (Nat.le_refl _) hE' hn hat
  have hle := fun u ao' ca' (hu : PileOk u p pc ga q ao' ca' vP Fc cap hs E (n + 1) (fun k => if k = n then x else v k) (upd f x (n : Int))) => pile_len u p pc ga q ao' ca' vP Fc cap hs E (n + 1) _ _ hu
  have hfin : ∀ ao' (w1 w2 : World) e ca',(∀ b ∈ pfp q ao', b ∈ pfp q ao ∨ w.heap.size <= b) -> Keeps (ga :: pfp q ao) w w1 -> PUp w1 p pc ga q ao' ca' vP Fc cap hs E (n + 1) (n + 1) (fun k => if k = n then x else v k) (upd f x (n : Int)) n e w2 -> HAdd w p pc ga q ao vP Fc cap hs E n v f x e w2 := by
    rintro ao' w1 w2 e ca' fp k1 ⟨v', f',rfl, hp, hm, k2, hres⟩
    have hd6 : Ord (ahead E) v' (n + 1) := ordOf hp.inj (fun j hj => by obtain ⟨k, hk, e⟩ := hm.range (Nat.le_refl _) hj; rw [e]; exact hE' k hk)
    refine ⟨ao', ca', v', f',rfl, hp,fun z => ?_,?_,(k1.mono fun b hb => .inl (by simp at hb ⊢; rcases hb with rfl | hb; exact .inl rfl; exact .inr (.inl hb))).trans k2 (fun b hb => ?_), fp,fun y hy hk => ?_⟩
    · rw [hm.same z]
      constructor
      · rintro ⟨j, hj, e⟩
        simp only at e
        by_cases c : j = n
        · rw [if_pos c] at e; exact .inl e.symm
        · rw [if_neg c] at e; exact .inr ⟨j,by omega, e⟩
      · rintro (rfl | ⟨j, hj, e⟩)
        · exact ⟨n,by omega,by simp⟩
        · exact ⟨j,by omega,by simp only [if_neg (show j ≠ n by omega)]; exact e⟩
    · rcases hres with ⟨rfl, hst⟩ | hh
      · refine (hat.down (by decide) hd6 (by omega) ?_).last (by decide) (by omega)
        simpa using hst
      · exact hh
    · simp only [List.mem_cons, List.mem_append] at hb ⊢
      rcases hb with rfl | hb | hb
      · exact .inl (.inl rfl)
      · rcases fp b hb with c | c
        · exact .inl (.inr (.inl c))
        · exact .inr c
      · exact .inl (.inr (.inr hb))
    · rw [hm.off y (fun k hk' e => ?_), upd_other _ _ hy]
      by_cases c : k = n
      · simp only [if_pos c] at e; exact hy e.symm
      · simp only [if_neg c] at e; exact hk k (by omega) e
  have HF := Lib.hid hfin
  have hm3 := fun (u : World) => pile_m3 587 ⟨q,0,none⟩ u
  have hm4 := fun (u : World) => pile_m4 587 ⟨q,0,none⟩ u
  clear hfin hat hE' hh h hx hE
  go_enter Tryz.func442, Tryz.ntmps442
  go_wp2_with (first
    | (go_at_call 454; refine hpu.mono ?_; rintro e w1 ⟨ao', ca',rfl, hp1, hk1, fp1⟩)
    | (go_at_call 443; refine (hle _ _ _ hp1).mono ?_; rintro e w1' ⟨rfl,rfl⟩)
    | (go_at_call 445; refine (hup _ _ _ hp1).mono ?_; intro e w2 hu2; have hup2 := HF.out _ _ _ _ _ fp1 hk1 hu2; obtain ⟨ao2, ca2, v2, f2,rfl, hr2⟩ := hup2))
  go_end0
  exact ⟨ao2, ca2, v2, f2,rfl, hr2⟩
def HRem (i : Nat) (e : Ending) (w' : World) : Prop :=
  ∃ v' f', e = .returned (.iface 3 (.int .i64 (v i : Nat))) ∧ PileOk w' p pc ga q ao ca vP Fc cap hs E n v' f' ∧ (∀ z,(∃ j, j < n ∧ v' j = z) ↔ z ≠ v i ∧ ∃ j, j < n + 1 ∧ v j = z) ∧ Heap' 2 (ahead E) v' n ∧
    Keeps (ga :: (pfp q ao ++ Fc)) w w' ∧ (∀ y,(∀ k, k < n + 1 -> v k ≠ y) -> f' y = f y)
theorem heap_remove (h : PileOk w p pc ga q ao ca vP Fc cap hs E (n + 1) v f) (i : Nat) (hi : i < n + 1) (hE : ∀ j, j < n + 1 -> (E (v j)).isSome) (hn : n + 1 <= 65536) (hh : Heap' 2 (ahead E) v (n + 1)) :
    Calls Tryz.prog 441 #[.iface 478 (.pointer (some ⟨q,0,none⟩)),.int .i64 i] w (HRem w p pc ga q ao ca vP Fc cap hs E n v f i) := by
  have hle := pile_len w p pc ga q ao ca vP Fc cap hs E (n + 1) v f h
  have hpo := fun u v2 f2 (hu : PileOk u p pc ga q ao ca vP Fc cap hs E (n + 1) v2 f2) => pile_pop u p pc ga q ao ca vP Fc cap hs E n v2 f2 hu hn
  have hm1 := fun (u : World) => pile_m3 587 ⟨q,0,none⟩ u
  have hm2 := fun (u : World) => pile_m2 587 ⟨q,0,none⟩ u
  have hm5 := fun (u : World) => pile_m5 587 ⟨q,0,none⟩ u
  by_cases hin : i = n
  · subst hin
    go_enter Tryz.func441, Tryz.ntmps441
    go_wp2_with (first
      | (go_at_call 443; refine hle.mono ?_; rintro e w1' ⟨rfl,rfl⟩)
      | (go_at_call 453; refine (hpo _ _ _ h).mono ?_; rintro e w2 ⟨rfl, hp2, hk2⟩))
    go_ret
    refine ⟨v, f,rfl, hp2,fun z => ?_,fun j h0 hj => hh j h0 (by omega), hk2.mono (fun b hb => .inl (by simp at hb; subst hb; simp [pfp])),fun y hy => rfl⟩
    constructor
    · rintro ⟨j, hj,rfl⟩
      exact ⟨fun e => by have := h.inj j i (by omega) (by omega) e; omega, j,by omega,rfl⟩
    · rintro ⟨hz, j, hj,rfl⟩
      refine ⟨j,?_,rfl⟩
      rcases Nat.lt_or_ge j i with c | c
      · exact c
      · obtain rfl : j = i := by omega
        exact absurd rfl hz
  · have hin2 : i < n := by omega
    have hord : Ord (ahead E) v (n + 1) := ordOf h.inj hE
    have hswp := pile_swap w p pc ga q ao ca vP Fc cap hs E (n + 1) v f h i n hi (by omega) hin
    have hat : HeapAt 2 (ahead E) (sw v i n) n i := (hh.refill (by decide) hord hin2).cong (by decide) hin2 (fun j hj => by
      by_cases c : j = i
      · subst c; rw [sw_left]; simp
      · rw [sw_other _ _ _ _ c (by omega)]; simp [c])
    have hE2 : ∀ j, j < n + 1 -> (E (sw v i n j)).isSome := by
      intro j hj
      obtain ⟨m, m1, m2, m3, m4⟩ := sw_idx v i n j
      rw [m1]
      refine hE m ?_
      by_cases b : j = i
      · rw [m2 b]; omega
      · by_cases a : j = n
        · rw [m3 a b]; omega
        · rw [m4 b a]; exact hj
    have hinj2 : Inj (sw v i n) (n + 1) := h.inj.sw hi (by omega)
    have hord2 : Ord (ahead E) (sw v i n) n := ordOf (fun a b ha hb e => hinj2 a b (by omega) (by omega) e) (fun j hj => hE2 j (by omega))
    have hset : ∀ z,(∃ j, j < n ∧ sw v i n j = z) ↔ z ≠ v i ∧ ∃ j, j < n + 1 ∧ v j = z := by
      intro z
      have hvn : v n ≠ v i := fun e => hin (h.inj n i (by omega) (by omega) e).symm
      constructor
      · rintro ⟨j, hj, e⟩
        by_cases c : j = i
        · subst c; rw [sw_left] at e; subst e; exact ⟨hvn, n,by omega,rfl⟩
        · rw [sw_other _ _ _ _ c (by omega)] at e; subst e; exact ⟨fun e => c (h.inj j i (by omega) (by omega) e), j,by omega,rfl⟩
      · rintro ⟨hz, j, hj,rfl⟩
        rcases Nat.lt_or_ge j n with c | c
        · exact ⟨j, c, sw_other _ _ _ _ (fun e => hz (by rw [e])) (by omega)⟩
        · obtain rfl : j = n := by omega
          exact ⟨i, hin2, sw_left _ _ _⟩
    have hhd : HeapDown 2 (ahead E) (sw v i n) n i ∨ HeapUp 2 (ahead E) (sw v i n) n i := by
      by_cases h0 : i = 0
      · exact .inl (hat.down (by decide) hord2 hin2 (.inl h0))
      · cases hb : ahead E (sw v i n i) (sw v i n (par 2 i)) with
        | false => exact .inl (hat.down (by decide) hord2 hin2 (.inr hb))
        | true => exact .inr (hat.up (by decide) hord2 hin2 (by omega) hb)
    have hgo : i = 0 ∨ ahead E (sw v i n i) (sw v i n (par 2 i)) = false -> HeapDown 2 (ahead E) (sw v i n) n i := fun c => hat.down (by decide) hord2 hin2 c
    have hdn := fun u f2 (hu : PileOk u p pc ga q ao ca vP Fc cap hs E (n + 1) (sw v i n) f2) => pile_down u p pc ga q ao ca vP Fc cap hs E (n + 1) n _ _ hu i hin2 (by omega) hE2 hn hhd
    have hup := fun u f2 (hu : PileOk u p pc ga q ao ca vP Fc cap hs E (n + 1) (sw v i n) f2) => pile_up u p pc ga q ao ca vP Fc cap hs E (n + 1) n _ _ hu i hin2 (by omega) hE2 hn hat
    have hfin : ∀ f2 v3 f3 w1 w4 w5,(∀ x,(∀ k, k < n + 1 -> v k ≠ x) -> f2 x = f x) -> Keeps (ga :: (pfp q ao ++ Fc)) w w1 -> PMoved (n + 1) n (sw v i n) f2 v3 f3 -> Keeps (ga :: (pfp q ao ++ Fc)) w1 w4 -> Heap' 2 (ahead E) v3 n -> PopDone w4 p pc ga q ao ca vP Fc cap hs E n v3 f3 (.returned (.iface 3 (.int .i64 (v3 n : Nat)))) w5 -> HRem w p pc ga q ao ca vP Fc cap hs E n v f i (.returned (.iface 3 (.int .i64 (v3 n : Nat)))) w5 := by
      rintro f2 v3 f3 w1 w4 w5 h2 k1 hm k2 hh3 ⟨_, hp5, k5⟩
      have hvn : v3 n = v i := by rw [hm.rest n (Nat.le_refl _), sw_right]
      refine ⟨v3, f3,by rw [hvn], hp5,fun z => (hm.same z).trans (hset z), hh3,(k1.trans k2 (fun b hb => .inl hb)).trans k5 (fun b hb => .inl (by simp at hb; subst hb; simp [pfp])),fun y hy => ?_⟩
      rw [hm.off y (fun k hk e => ?_)]
      · exact h2 y hy
      · obtain ⟨m, m1, m2, m3, m4⟩ := sw_idx v i n k
        rw [m1] at e
        refine hy m ?_ e
        by_cases b : k = i
        · rw [m2 b]; omega
        · by_cases a : k = n
          · rw [m3 a b]; omega
          · rw [m4 b a]; exact hk
    have b1 : ((n : Int) == (i : Int)) = false := by rw [beq_eq_false_iff_ne]; omega
    have HF := Lib.hid hfin
    have HGO := Lib.hid hgo
    have HAT := Lib.hid hat
    have HO := Lib.hid hord2
    clear hfin hset hat hord hh hE hE2 hinj2 hord2 hhd hin hgo
    go_enter Tryz.func441, Tryz.ntmps441
    go_upto_region 4 with (first
      | (go_at_call 443; refine hle.mono ?_; rintro e w1' ⟨rfl,rfl⟩)
      | (go_at_call 455; refine hswp.mono ?_; rintro e w1 ⟨f2,rfl, hp1, hk1, ho1⟩))
    have k1 : Keeps (ga :: (pfp q ao ++ Fc)) w w1 := hk1.mono (fun b hb => .inl (by simp at hb ⊢; rcases hb with rfl | hb; exact .inl rfl; exact .inr (.inl hb)))
    have HO1 := Lib.hid ho1
    clear ho1 hk1
    go_upto_if 20 with (go_at_call 444; refine (hdn _ _ hp1).mono ?_; rintro e w2 ⟨v2, f3, bb,rfl, hp2, hm2', hk2, ht2, hf2⟩)
    cases bb with
    | true =>
      have hh2 := ht2 rfl
      clear ht2 hf2
      have HM := Lib.hid hm2'
      have HH := Lib.hid hh2
      clear hm2' hh2
      go_wp2_with (go_at_call 453; refine (hpo _ _ _ hp2).mono ?_; intro e w5 hd5; obtain rfl := hd5.1; have HD := Lib.hid hd5; clear hd5)
      go_ret
      exact HF.out _ _ _ _ _ _ HO1.out k1 HM.out hk2 HH.out HD.out
    | false =>
      obtain ⟨rfl, hh2⟩ := hf2 rfl
      have HH := Lib.hid hh2
      have HM := Lib.hid hm2'
      clear ht2 hf2 hh2 hm2'
      go_wp2_with (first
        | (go_at_call 445; refine (hup _ _ hp2).mono ?_; rintro e w4 ⟨v4, f4,rfl, hp4, hm4, hk4, hr4⟩; have HM4 := Lib.hid hm4; have HR4 := Lib.hid hr4; clear hm4 hr4)
        | (go_at_call 453; refine (hpo _ _ _ hp4).mono ?_; intro e w5 hd5; obtain rfl := hd5.1; have HD := Lib.hid hd5; clear hd5))
      go_ret
      refine HF.out _ _ _ _ _ _ HO1.out k1 (HM.out.trans HM4.out (by omega)) (hk2.trans hk4 (fun b hb => .inl hb)) ?_ HD.out
      rcases HR4.out with ⟨rfl, hst⟩ | hh4
      · exact HH.out (HGO.out hst)
      · exact hh4
end
end Go.Proofs.YtkdbjelhkfdfjaaGreatDoor
namespace Go.Proofs.YtkdbjelhkfdfjaaGreatDoor
open Go.RowKit Go.Maps
theorem Tryz.rowHandle : (45 : TypeId) < Tryz.prog.types.size := of_decide_eq_true (by kernel_rfl)
theorem Tryz.laidOut : laidOutB Tryz.prog = true := by kernel_rfl
theorem Tryz.deepHandle : Tryz.prog.keyTypeAt 3 45 = true := by kernel_rfl
theorem Tryz.lawHandle : WideMaps.KeyLaw Tryz.prog 45 := deep_law_laid Tryz.laidOut (m := 3) (by omega) Tryz.rowHandle Tryz.deepHandle (by rw [Tryz.underlying45])
theorem Tryz.keyedHandle : Keyed Tryz.prog 45 := Keyed.of_law Tryz.lawHandle
def hV (x g : Nat) : Value := .agg #[.int .i64 (x : Int),.int .u32 (g : Int)]
def hK (x g : Nat) : Lit := .string (keyBytes [.int .i64 (x : Int),.int .u32 (g : Int)])
def okH (x g : Nat) : Prop := x <= 65536 ∧ g <= 4294967295
theorem i64_wf (n : Nat) (h : n <= 65536) : (Lit.int .i64 (n : Int)).wf = true := by
  have e1 : IntKind.i64.min = -9223372036854775808 := rfl
  have e2 : IntKind.i64.max = 9223372036854775807 := rfl
  simp only [Lit.wf, e1, e2, Bool.and_eq_true, decide_eq_true_eq]
  omega
theorem u32_wf (n : Nat) (h : n <= 4294967295) : (Lit.int .u32 (n : Int)).wf = true := by
  have e1 : IntKind.u32.min = 0 := rfl
  have e2 : IntKind.u32.max = 4294967295 := rfl
  simp only [Lit.wf, e1, e2, Bool.and_eq_true, decide_eq_true_eq]
  omega
theorem hkey (x g : Nat) (h : okH x g) : keyOf Tryz.prog 45 (hV x g) = some (hK x g) := by
  have h1 := i64_wf x h.1
  have h2 := u32_wf g h.2
  obtain ⟨d, hd⟩ : ∃ d, Tryz.prog.types.size = d + 1 := ⟨_,(by kernel_rfl : Tryz.prog.types.size = 487 + 1)⟩
  have hk : Tryz.prog.keyType 45 = true := by kernel_rfl
  have hc : Tryz.prog.cellsOf 45 = 2 := by kernel_rfl
  have hc1 : Tryz.prog.cellsOf 3 = 1 := by kernel_rfl
  have hc2 : Tryz.prog.cellsOf 41 = 1 := by kernel_rfl
  unfold keyOf hV hK
  rw [Tryz.underlying45, hd]
  simp [hk, Value.formed, Tryz.underlying45, hc, Value.cells, Program.keyLits, hc1, hc2, Tryz.underlying3, Tryz.underlying41, h1, h2]
theorem hK_lit (x g : Nat) : WideAt.IsKeyLit (hK x g) := by simp [WideAt.IsKeyLit, hK]
theorem hK_inj {x g x' g' : Nat} (h : okH x g) (h' : okH x' g') (e : hK x g = hK x' g') : x = x' ∧ g = g' := by
  have h1 := hkey x g h
  have h2 := hkey x' g' h'
  rw [<- e] at h2
  have h3 := Tryz.keyedHandle.inj h1 h2
  simp only [hV, Value.agg.injEq] at h3
  injection h3 with h3
  simp only [List.cons.injEq, Value.int.injEq] at h3
  omega
structure Elm (α : Type) (e : TypeId) where
  val : α -> Value
  dat : α -> DataW Unit
  R : Value -> Option (DataW Unit × List MemPlace)
  ok : α -> Prop
  zero : α
  hR : ∀ a, ok a -> R (val a) = some (dat a, [])
  inv : ∀ v a ps, R v = some (dat a, ps) -> v = val a
  hz : ∀ w,(zeroValue e).run Tryz.prog w = .ok (val zero) w
  zok : ok zero
def HMap {α : Type} {e : TypeId} (E : Elm α e) (w : World) (b c : Nat) (f : Nat -> Nat -> Option α) : Prop :=
  ∃ D : DataW Unit, w.ownsMap Tryz.prog 45 E.R b c D ∧ Maps.size D = c ∧
    ∀ x g : Nat, okH x g -> Maps.has D (hK x g) = (f x g).isSome ∧ ∀ z, D.atKey (hK x g) z = match f x g with | some a => E.dat a | none => z
section
variable {α : Type} {e t : TypeId} {E : Elm α e} {w w' : World} {b c : Nat} {f : Nat -> Nat -> Option α}
theorem HMap.made (E : Elm α e) (w : World) : HMap E (w.alloc (.map #[] 0)) w.heap.size 0 (fun _ _ => none) :=
  ⟨.map [], World.ownsMap_made w Tryz.prog _ _,rfl,fun x g _ => ⟨rfl,fun _ => rfl⟩⟩
theorem HMap.lt (h : HMap E w b c f) : b < w.heap.size := by obtain ⟨D, h1, _⟩ := h; exact h1.lt
theorem HMap.blk (h : HMap E w b c f) (e : w'.heap[b]? = w.heap[b]?) : HMap E w' b c f := by
  obtain ⟨D,⟨es, clock, hb, r⟩, h2⟩ := h
  exact ⟨D,⟨es, clock, e.trans hb, r⟩, h2⟩
theorem HMap.keep {S : List Nat} (h : HMap E w b c f) (hk : Keeps S w w') (hb : b ∉ S) : HMap E w' b c f := h.blk (hk.block b h.lt hb)
theorem HMap.put (hok : ∀ x g, f x g ≠ none -> okH x g) {x g : Nat} (hx : okH x g) {y : α} (D : DataW Unit)
    (hD : Maps.size D = c ∧ ∀ x g : Nat, okH x g -> Maps.has D (hK x g) = (f x g).isSome ∧ ∀ z, D.atKey (hK x g) z = match f x g with | some a => E.dat a | none => z)
    (h0 : w.ownsMap Tryz.prog 45 E.R b c D) (h1 : w'.ownsMap Tryz.prog 45 E.R b (c + 1) (D.put (hK x g) (E.dat y))) :
    HMap E w' b (if (f x g).isSome then c else c + 1) (fun u v => if u = x ∧ v = g then some y else f u v) := by
  have ht := h0.tidy Tryz.keyedHandle
  have hs := size_put (k := hK x g) ht (E.dat y)
  rw [(hD.2 x g hx).1, hD.1] at hs
  have h2 := ownsMap_tight h1
  rw [hs] at h2
  refine ⟨_, h2, hs,fun u v huv => ?_⟩
  by_cases e : u = x ∧ v = g
  · obtain ⟨rfl,rfl⟩ := e
    simp only [and_self, if_true]
    exact ⟨has_put_same h0.isMap (hK_lit u v) _,fun z => atKey_put_same h0.isMap (hK_lit u v) _ _⟩
  · have e' : hK u v ≠ hK x g := fun c => e (hK_inj huv hx c)
    simp only [e, if_false]
    rw [has_put_other e']
    refine ⟨(hD.2 u v huv).1,fun z => ?_⟩
    rw [atKey_put_other e']
    exact (hD.2 u v huv).2 z
theorem wpList_hmap_put {ops : Array Oper} {rest : List Oper} {o : Oper} {a : Act} {Q : Exit -> Act -> World -> Prop}
    (hg : o.guard = none) (mo xo vo : Operand) (hop : o.op = Op.mapUpdate t mo xo vo) (ht : Tryz.prog.underlying t = some (.map 45 e)) (b c : Nat) (f : Nat -> Nat -> Option α)
    (hm : a.eval mo = .map (some b)) (h : HMap E w b c f) (hok : ∀ x g, f x g ≠ none -> okH x g) (hc : c < maxLen) (x g : Nat) (hx : a.eval xo = hV x g) (hxg : okH x g) (y : α) (hv : a.eval vo = E.val y) (hy : E.ok y)
    (hK : ∀ w', HMap E w' b (if (f x g).isSome then c else c + 1) (fun u v => if u = x ∧ v = g then some y else f u v) -> w.grownBy w' (some b) -> wpList Tryz.prog ops Q rest (a.put o.dst undef) w') :
    wpList Tryz.prog ops Q (o :: rest) a w := by
  have h' := h
  obtain ⟨D, h1, h2⟩ := h'
  refine wpList_mapUpdate_own w hg mo xo vo t hop _ e Tryz.keyedHandle ht E.R b c D hm h1 hc _ _ _ hx hv (hkey x g hxg) _ [] (E.hR y hy) ?_
  intro w' hown hgrow
  exact hK w' (HMap.put hok hxg D h2 h1 hown) hgrow
theorem wpList_hmap_look {ops : Array Oper} {rest : List Oper} {o : Oper} {a : Act} {Q : Exit -> Act -> World -> Prop}
    (hg : o.guard = none) (mo xo : Operand) (hop : o.op = Op.lookup t mo xo false) (ht : Tryz.prog.underlying t = some (.map 45 e)) (b c : Nat) (f : Nat -> Nat -> Option α)
    (hm : a.eval mo = .map (some b)) (h : HMap E w b c f) (x g : Nat) (hx : a.eval xo = hV x g) (hxg : okH x g)
    (hK : wpList Tryz.prog ops Q rest (a.put o.dst (E.val ((f x g).getD E.zero))) w) :
    wpList Tryz.prog ops Q (o :: rest) a w := by
  obtain ⟨D, h1, h2, h3⟩ := h
  refine wpList_plain hg fun K' hK' => ?_
  obtain ⟨v, ps, hrun, hv⟩ := h1.lookup Tryz.keyedHandle ht (E.hz w) (E.hR E.zero E.zok) (hkey x g hxg)
  have hv' : v = E.val ((f x g).getD E.zero) := by
    rw [(h3 x g hxg).2] at hv
    cases hf : f x g with
    | none => rw [hf] at hv; exact E.inv _ _ _ hv
    | some y => rw [hf] at hv; exact E.inv _ _ _ hv
  subst hv'
  unfold Oper.wp
  simp [execOp, hop, hm, hx, hrun, Result.andThen]
  exact hK' _ _ hK
end
noncomputable def elmInt : Elm Nat 3 where
  val n := .int .i64 (n : Int)
  dat n := .lit (.int .i64 (n : Int))
  R := plainElem Tryz.prog 3
  ok n := n <= 65536
  zero := 0
  hR a h := plainElem_int Tryz.underlying3 (i64_wf a h)
  inv v a ps h := by
    obtain ⟨c,rfl, hc, _⟩ := plainElem_int_inv Tryz.underlying3 h
    simp only [Prod.mk.injEq, DataW.lit.injEq, Lit.int.injEq, true_and] at hc
    rw [hc.1]
  hz w := by kernel_rfl
  zok := Nat.zero_le _
section
variable {t : TypeId} {w : World} {b c : Nat}
theorem wpList_hmap_look_int {f : Nat -> Nat -> Option Nat} {ops : Array Oper} {rest : List Oper} {o : Oper} {a : Act} {Q : Exit -> Act -> World -> Prop}
    (hg : o.guard = none) (mo xo : Operand) (hop : o.op = Op.lookup t mo xo false) (ht : Tryz.prog.underlying t = some (.map 45 3))
    (hm : a.eval mo = .map (some b)) (h : HMap elmInt w b c f) (x g : Nat) (hx : a.eval xo = hV x g) (hxg : okH x g) (n : Nat) (hf : f x g = some n)
    (hK : wpList Tryz.prog ops Q rest (a.put o.dst (.int .i64 (n : Int))) w) :
    wpList Tryz.prog ops Q (o :: rest) a w :=
  wpList_hmap_look hg mo xo hop ht b c f hm h x g hx hxg (by rw [hf]; exact hK)
end
end Go.Proofs.YtkdbjelhkfdfjaaGreatDoor


/-
  The statement: the given card of this law, whatever the input. Conditions: none.
-/
import Derived.Test.YtkdbjelhkfdfjaaGreatDoorQs39
import Derived.Test.YtkdbjelhkfdfjaaGreatDoorQs51
import Derived.Test.YtkdbjelhkfdfjaaGreatDoorQs52
import Derived.Test.YtkdbjelhkfdfjaaGreatDoorQt17
import Derived.Test.YtkdbjelhkfdfjaaGreatDoorCards
import Derived.Test.YtkdbjelhkfdfjaaGreatDoorTie
import Derived.ChangeSame
import Derived.Lay
set_option linter.unusedVariables false
set_option maxRecDepth 100000
set_option maxHeartbeats 16000000
namespace Go.Proofs.YtkdbjelhkfdfjaaGreatDoor
open Go.RowKit Go.WideShapes Go.ChangeShapes Go.Deep
section
variable {H : Type} {enc : TypeId × Value -> H} {w : World} {base : Nat} {spare : Nat -> Bool} {held : Bool}
def KeyCells (cs : List Value) : Prop := ∃ x : Int, cs = [.int .i64 x] ∧ (Lit.int .i64 x).wf = true
theorem key_cells {n : Nat} {cs : List Value} {y : DataW H × List MemPlace} (h : DataW.trod enc Tryz.prog w base spare held n 2 cs = some y) : KeyCells cs := by
  obtain ⟨x, e, _, wf⟩ := Go.DataW.trod_int Tryz.underlying2 h
  exact ⟨x, e, wf⟩
theorem keys_in {a : Option Addr} {len cap : Nat} {C : Nat -> List Value} (hE : ∀ i, i < len -> KeyCells (C i)) (hr : IsRows w 1 a len C) : ∃ keys : List Int, keys.length = len ∧ KIn w (.slice a len cap) keys := by
  obtain ⟨f, hf⟩ := choose_lt (α := Int) (n := len) (p := fun i x => C i = [.int .i64 x] ∧ (Lit.int .i64 x).wf = true) (fun i hi => hE i hi)
  refine ⟨(List.range len).map f,by simp,⟨a, cap,by simp⟩,fun i x hx => ?_⟩
  have hi : i < len := by have := (List.getElem?_eq_some_iff.1 hx).1; simpa using this
  have hxf : x = f i := by simp [hi] at hx; exact hx.symm
  subst hxf
  refine ⟨(hf i hi).2,?_⟩
  rcases hr with e | ⟨b, off,rfl, hb, hc⟩
  · omega
  · refine ⟨b, off, cap,by simp,?_⟩
    have := hc i hi 0 (by omega)
    rw [(hf i hi).1] at this
    simpa using this
theorem config_cells {n : Nat} {cs : List Value} {y : DataW H × List MemPlace} (h : DataW.trod enc Tryz.prog w base spare held n 23 cs = some y) :
    ∃ a b : Int, cs = [.int .i64 a,.int .i64 b] ∧ (Lit.int .i64 a).wf = true ∧ (Lit.int .i64 b).wf = true := by
  obtain ⟨y0, y1, m, _, hl, h0, h1⟩ := trod_struct2 Tryz.underlying23 h
  have hc : Tryz.prog.cellsOf 23 = 2 := by kernel_rfl
  have hc1 : Tryz.prog.cellsOf 3 = 1 := by kernel_rfl
  rw [hc] at hl
  match cs, hl with
  | [c0, c1], _ =>
    simp only [hc1, List.drop_zero, List.take_succ_cons, List.take_zero, List.drop_succ_cons] at h0 h1
    obtain ⟨x0, e0, _, w0⟩ := Go.DataW.trod_int Tryz.underlying3 h0
    obtain ⟨x1, e1, _, w1⟩ := Go.DataW.trod_int Tryz.underlying3 h1
    simp only [List.cons.injEq, and_true] at e0 e1
    subst e0 e1
    exact ⟨x0, x1,rfl, w0, w1⟩
theorem open_configs {r : Reach} {b0 : Nat} {v : Value} {d : DataW H} {p : List MemPlace} (hv : Value.okWide Tryz.prog w r b0 24 v) (h : DataW.Trod enc Tryz.prog w base spare held 24 v d p) :
    ∃ a b a' b' : Int, v = .agg #[.int .i64 a,.int .i64 b,.int .i64 a',.int .i64 b'] := by
  simp only [Value.okWide, Tryz.underlying24] at hv
  obtain ⟨cs,rfl, hsz, _⟩ := hv
  have hc : Tryz.prog.cellsOf 24 = 4 := by kernel_rfl
  have hc2 : Tryz.prog.cellsOf 23 = 2 := by kernel_rfl
  rw [hc] at hsz
  obtain ⟨l⟩ := cs
  obtain ⟨fuel, hf⟩ := h
  have hf' : DataW.trod enc Tryz.prog w base spare held fuel 24 l = some (d, p) := by simpa [Value.cells] using hf
  obtain ⟨xs, m, _, hx, hl, hn, hel⟩ := DataW.trod_array Tryz.underlying24 hf'
  match l, hsz, xs, hn with
  | [c0, c1, c2, c3], _, [x0, x1], _ =>
    have h0 := hel 0 (by decide)
    have h1 := hel 1 (by decide)
    simp only [hc2, List.getElem?_cons_zero, List.getElem?_cons_succ] at h0 h1
    obtain ⟨a, b, e0, _⟩ := config_cells h0
    obtain ⟨a', b', e1, _⟩ := config_cells h1
    simp at e0 e1
    obtain ⟨rfl,rfl⟩ := e0
    obtain ⟨rfl,rfl⟩ := e1
    exact ⟨a, b, a', b',rfl⟩
end
end Go.Proofs.YtkdbjelhkfdfjaaGreatDoor
namespace Go.Proofs.YtkdbjelhkfdfjaaGreatDoor.wholeSorts
open Go.ChangeShapes Go.WideShapes Go.ChangeAt Go.RowKit
theorem own : ownKnob Tryz.prog.godebug = none := by kernel_rfl
theorem laidOut : laidOutB Tryz.prog = true := by kernel_rfl
theorem lifted (os : Os) (started : os.Started) (H : Type) (enc : TypeId × Value -> H) :
    ReturnsInHanded {} Tryz.checked os 3 .any (fun w args => (Rows.wholeSortsSpec.pre enc Tryz.prog Tryz.f3 [] false w args ∧ laidMetH Tryz.prog Rows.wholeSortsRow.laid w) ∧ sizedMet enc Tryz.prog Tryz.f3 (OpenSpec.ofChange Rows.wholeSortsSpec) false w args)
      (Rows.wholeSortsSpec.post enc Tryz.prog Tryz.f3 false true false false) := by
  refine returnsInHanded_of_change_and (C := Tryz.checked) (X := fun w _ => laidMetH Tryz.prog Rows.wholeSortsRow.laid w) (fun _ _ _ hh h => h.of_heap hh) own started (by kernel_rfl) Tryz.func3
    (ChangeSpec.witness_shaped (enc := enc) (C := Tryz.checked) (os := os) (X := fun w _ => laidMetH Tryz.prog Rows.wholeSortsRow.laid w) false (World.laidAll Tryz.prog os Rows.wholeSortsRow.laid) #[.agg #[.int .i64 0,.int .i64 0,.int .i64 0,.int .i64 0],.slice none 0 0] 8 (World.laidAll_os _ _ _)
      (World.shaped_of_ZipB (by kernel_rfl) (by kernel_rfl)) (by kernel_rfl) (by kernel_rfl) (by kernel_rfl)
      (by rw [MakeChecks.laidMetH_plain _ _ _ (by kernel_rfl)]; exact laidMet_laidAll _ (by kernel_rfl) (by kernel_rfl))) ?_
  intro W base args ds gs before hval0 hW _ _ hL _
  have hval : ∀ (j : Nat) t v, Tryz.f3.params[j]? = some t -> args[j]? = some v -> Value.okWide Tryz.prog W .any base t v := hval0
  have hW' := hW
  obtain ⟨p, q, hA0, hV,rfl, hfz, hnd⟩ := hW
  have hA : DataW.TrodAll enc Tryz.prog W 0 (fun _ => true) true Tryz.f3.params.toList args.toList ds p := hA0
  rw [Tryz.params3] at hA hval
  obtain ⟨v0, vs0, d0, ds0, p0, q0, hargs,rfl,rfl, h0, r0⟩ := trodAll_cons hA
  obtain ⟨v1, vs1, d1, ds1, p1, q1,rfl,rfl,rfl, h1, r1⟩ := trodAll_cons r0
  obtain ⟨rfl,rfl,rfl⟩ := trodAll_nil r1
  obtain rfl : args = #[v0, v1] := by cases args; simp_all
  obtain ⟨rfl,rfl⟩ := trodVars_none hV
  obtain ⟨a0, b0, a1, b1,rfl⟩ := open_configs (hval 0 24 v0 rfl rfl) h0
  have k0 := h0
  have lt0 : ∀ x ∈ p0, x.block < W.heap.size := by obtain ⟨m, hm⟩ := k0; exact DataW.trod_lt m _ _ _ hm
  have k1 := h1
  have lt1 : ∀ x ∈ p1, x.block < W.heap.size := by obtain ⟨m, hm⟩ := k1; exact DataW.trod_lt m _ _ _ hm
  obtain ⟨ad1, len1, cap1, C1,rfl, hl1, hm1, hE1, hr1⟩ : ∃ a len cap C, v1 = .slice a len cap ∧ len <= cap ∧ cap <= maxLen ∧ (∀ i, i < len -> KeyCells (C i)) ∧ IsRows W 1 a len C := by
    obtain ⟨a, len, cap,rfl⟩ := okWide_slice Tryz.underlying25 (hval 1 25 v1 rfl rfl)
    obtain ⟨fuel, hf⟩ := h1
    exact open_rows KeyCells Tryz.underlying25 (by kernel_rfl) (by decide) (fun n cs y h => key_cells h) (by simpa [Value.cells] using hf)
  obtain ⟨keys,rfl, hk⟩ := keys_in (cap := cap1) hE1 hr1
  clear hA0 hval0
  refine (wholeSorts_calls W a0 b0 a1 b1 ad1 cap1 keys hk).mono fun e W' ⟨he, bel⟩ => ?_
  subst he
  have bel : Below W.heap.size W W' := bel.below (Nat.le_refl _) (fun _ h => by cases h)
  exact ⟨_,rfl, _, _, _, [], _, [], hW', trodAll_mk1 (shut_bool Tryz.underlying4 _), trodAll_cons_mk (Below.trod laidOut (by kernel_rfl) (of_decide_eq_true (by kernel_rfl)) k0 bel lt0) (trodAll_cons_mk (Below.trod laidOut (by kernel_rfl) (of_decide_eq_true (by kernel_rfl)) k1 bel lt1) (trodAll_mk0)),rfl, bel.frame _,fun h => by cases h⟩
theorem c_looks : true = Tryz.pinned.checked.prog.looks [] := by kernel_rfl
theorem over : Rows.wholeSortsRow.holds Tryz.pinned (OpenSpec.ofChange Rows.wholeSortsSpec) :=
  OpenClaim.holds_of_wide 3 Tryz.f3 rfl rfl rfl rfl rfl rfl rfl ⟨rfl,rfl,rfl,rfl,rfl⟩ rfl rfl rfl rfl rfl c_named Tryz.func3 facts
    c_inst c_wrap
    (fun os started H enc _ => lifted os started H enc)
theorem proved : Rows.WholeSortsCardSaid :=
  Claim7.holds_tied_plain_at .later [] [.data,.data,.data,.data,.sentinel,.sentinel,.pinned] true (true, "d470e6cf01acc4469e69859f3a47ae2163f2e46302223d341c5752ab236b23b9") true
    over (fun _ h => by cases h) c_wf (fun _ h => by cases h) wholeSorts_row_tie rfl ⟨rfl,rfl⟩ c_main rfl
    (fun f fn hf hfn => by
      obtain rfl : f = 3 := Option.some.inj (c_named.symm.trans hf) |>.symm
      obtain rfl : fn = Tryz.f3 := (Option.some.inj (Tryz.func3.symm.trans hfn)).symm
      exact ⟨c_looks,fun j t ht => by
        rw [Tryz.params3] at ht
        have hm : t ∈ [24,25] := by simpa using Array.mem_of_getElem? ht
        simpa using List.all_eq_true.1 c_stand t hm⟩)
    c_goes
#print axioms proved
end Go.Proofs.YtkdbjelhkfdfjaaGreatDoor.wholeSorts


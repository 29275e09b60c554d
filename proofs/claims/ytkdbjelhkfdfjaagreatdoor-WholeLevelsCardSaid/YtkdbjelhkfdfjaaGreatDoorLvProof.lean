/-
  The statement: the given card of this law, whatever the input. Conditions: none.
-/
import Derived.Test.YtkdbjelhkfdfjaaGreatDoorLv47
import Derived.Test.YtkdbjelhkfdfjaaGreatDoorLv48
import Derived.Test.YtkdbjelhkfdfjaaGreatDoorLv49
import Derived.Test.YtkdbjelhkfdfjaaGreatDoorCards
import Derived.Test.YtkdbjelhkfdfjaaGreatDoorTie
import Derived.Lay
set_option linter.unusedVariables false
set_option maxRecDepth 100000
set_option maxHeartbeats 32000000
namespace Go.Proofs.YtkdbjelhkfdfjaaGreatDoor.wholeLevels
open Go.ChangeShapes Go.WideShapes Go.ChangeAt Go.RowKit
theorem own : ownKnob Tryz.prog.godebug = none := by kernel_rfl
theorem laidOut : laidOutB Tryz.prog = true := by kernel_rfl
theorem lifted (os : Os) (started : os.Started) (H : Type) (enc : TypeId × Value -> H) :
    ReturnsInHanded {} Tryz.checked os 4 .any (fun w args => (Rows.wholeLevelsSpec.pre enc Tryz.prog Tryz.f4 [] false w args ∧ laidMetH Tryz.prog Rows.wholeLevelsRow.laid w) ∧ sizedMet enc Tryz.prog Tryz.f4 (OpenSpec.ofChange Rows.wholeLevelsSpec) false w args)
      (Rows.wholeLevelsSpec.post enc Tryz.prog Tryz.f4 false true false false) := by
  refine returnsInHanded_of_change_and (C := Tryz.checked) (X := fun w _ => laidMetH Tryz.prog Rows.wholeLevelsRow.laid w) (fun _ _ _ hh h => h.of_heap hh) own started (by kernel_rfl) Tryz.func4
    (ChangeSpec.witness_shaped (enc := enc) (C := Tryz.checked) (os := os) (X := fun w _ => laidMetH Tryz.prog Rows.wholeLevelsRow.laid w) false (World.laidAll Tryz.prog os Rows.wholeLevelsRow.laid) #[.agg #[.int .i64 0,.int .i64 0],.agg #[.int .i64 0,.slice none 0 0],.int .i64 0] 8 (World.laidAll_os _ _ _)
      (World.shaped_of_ZipB (by kernel_rfl) (by kernel_rfl)) (by kernel_rfl) (by kernel_rfl) (by kernel_rfl)
      (by rw [MakeChecks.laidMetH_plain _ _ _ (by kernel_rfl)]; exact laidMet_laidAll _ (by kernel_rfl) (by kernel_rfl))) ?_
  intro W base args ds gs before hval0 hW _ _ hL _
  have hval : ∀ (j : Nat) t v, Tryz.f4.params[j]? = some t -> args[j]? = some v -> Value.okWide Tryz.prog W .any base t v := hval0
  have hW' := hW
  obtain ⟨p, q, hA0, hV,rfl, hfz, hnd⟩ := hW
  have hA : DataW.TrodAll enc Tryz.prog W 0 (fun _ => true) true Tryz.f4.params.toList args.toList ds p := hA0
  rw [Tryz.params4] at hA hval
  obtain ⟨v0, vs0, d0, ds0, p0, q0, hargs,rfl,rfl, h0, r0⟩ := trodAll_cons hA
  obtain ⟨v1, vs1, d1, ds1, p1, q1,rfl,rfl,rfl, h1, r1⟩ := trodAll_cons r0
  obtain ⟨v2, vs2, d2, ds2, p2, q2,rfl,rfl,rfl, h2, r2⟩ := trodAll_cons r1
  obtain ⟨rfl,rfl,rfl⟩ := trodAll_nil r2
  obtain rfl : args = #[v0, v1, v2] := by cases args; simp_all
  obtain ⟨rfl,rfl⟩ := trodVars_none hV
  obtain ⟨a0, b0,rfl, _, _⟩ := open_config (hval 0 23 v0 rfl rfl) h0
  have k0 := h0
  have lt0 : ∀ x ∈ p0, x.block < W.heap.size := by obtain ⟨m, hm⟩ := k0; exact DataW.trod_lt m _ _ _ hm
  have k1 := h1
  have lt1 : ∀ x ∈ p1, x.block < W.heap.size := by obtain ⟨m, hm⟩ := k1; exact DataW.trod_lt m _ _ _ hm
  obtain ⟨n1, es1, ad1, cap1,rfl, hE1⟩ := open_graph (hval 1 55 v1 rfl rfl) h1
  obtain ⟨a2,rfl,rfl,rfl, w2⟩ := open_int Tryz.underlying3 (hval 2 3 v2 rfl rfl) h2
  clear hA0 hval0
  refine (wholeLevels_calls W a0 b0 n1 ad1 cap1 es1 hE1 a2).mono fun e W' ⟨he, bel⟩ => ?_
  subst he
  have bel : Below W.heap.size W W' := bel.below (Nat.le_refl _) (fun _ h => by cases h)
  exact ⟨_,rfl, _, _, _, [], _, [], hW', trodAll_mk1 (shut_bool Tryz.underlying4 _), trodAll_cons_mk (Below.trod laidOut (by kernel_rfl) (of_decide_eq_true (by kernel_rfl)) k0 bel lt0) (trodAll_cons_mk (Below.trod laidOut (by kernel_rfl) (of_decide_eq_true (by kernel_rfl)) k1 bel lt1) (trodAll_cons_mk (shut_int Tryz.underlying3 w2) (trodAll_mk0))),rfl, bel.frame _,fun h => by cases h⟩
theorem over : Rows.wholeLevelsRow.holds Tryz.pinned (OpenSpec.ofChange Rows.wholeLevelsSpec) :=
  OpenClaim.holds_of_wide 4 Tryz.f4 rfl rfl rfl rfl rfl rfl rfl ⟨rfl,rfl,rfl,rfl,rfl⟩ rfl rfl rfl rfl rfl c_named Tryz.func4 facts
    c_inst c_wrap
    (fun os started H enc _ => lifted os started H enc)
theorem proved : Rows.WholeLevelsCardSaid :=
  Claim7.holds_tied_plain_at .later [] [.data,.data,.data,.data,.sentinel,.sentinel,.pinned] true (true, "d470e6cf01acc4469e69859f3a47ae2163f2e46302223d341c5752ab236b23b9") true
    over (fun _ h => by cases h) c_wf (fun _ h => by cases h) wholeLevels_row_tie rfl ⟨rfl,rfl⟩ c_main rfl
    (fun f fn hf hfn => by
      obtain rfl : f = 4 := Option.some.inj (c_named.symm.trans hf) |>.symm
      obtain rfl : fn = Tryz.f4 := (Option.some.inj (Tryz.func4.symm.trans hfn)).symm
      exact ⟨c_looks,fun j t ht => by
        rw [Tryz.params4] at ht
        have hm : t ∈ [23,55,3] := by simpa using Array.mem_of_getElem? ht
        simpa using List.all_eq_true.1 c_stand t hm⟩)
    c_goes
#print axioms proved
end Go.Proofs.YtkdbjelhkfdfjaaGreatDoor.wholeLevels


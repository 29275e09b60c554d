/-
  'int(x) % m' of a byte x: a number below m.
-/
import Derived.WalkKit
namespace Go.Proofs.Ytnpglgkpdikcjaa
open Go.RowKit

theorem rem_u8 {x : Int} (h : (Lit.int .u8 x).wf = true) (m : Int) (hm : 0 < m) : ∃ n : Nat, (wrap64 x).tmod m = n ∧ (n : Int) < m := by
  have hx : 0 ≤ x ∧ x ≤ 255 := by simp [Lit.wf, IntKind.min, IntKind.max, IntKind.signed, IntKind.bits] at h; omega
  have hw : wrap64 x = x := by unfold wrap64; omega
  rw [hw, Int.tmod_eq_emod_of_nonneg hx.1]
  have h1 := Int.emod_nonneg x (b := m) (by omega)
  have h2 := Int.emod_lt_of_pos x (b := m) (by omega)
  exact ⟨(x % m).toNat, by omega, by omega⟩

end Go.Proofs.Ytnpglgkpdikcjaa

/-
  Contracts that the law rests on. Conditions: none.
-/
import Derived.Test.YtkdbjelhkfdfjaaGreatDoorRows
import Derived.WalkKit
import Derived.ProofKit
import Derived.OpenShut
import Derived.ShutString
import Derived.ChangeOld
import Derived.Below
import Derived.Deep.Slices
import Derived.Deep.Strs
set_option linter.unusedVariables false
set_option maxRecDepth 100000
set_option maxHeartbeats 16000000
namespace Go.Proofs.YtkdbjelhkfdfjaaGreatDoor
open Go.Deep Go.RowKit
def IsRows (w : World) (k : Nat) (a : Option Addr) (len : Nat) (C : Nat → List Value) : Prop :=
  len = 0 ∨ ∃ b off, a = some ⟨b,off,none⟩ ∧ b < w.heap.size ∧ ∀ i, i < len → ∀ j, j < k → w.cell? ⟨b, off + (i * k + j), none⟩ = (C i)[j]?
section
variable {H : Type} {enc : TypeId × Value → H} {P : Program} {w : World} {base : Nat} {spare : Nat → Bool} {held : Bool}
theorem open_rows {t e fuel k : Nat} {v : Value} {x : DataW H × List MemPlace} (E : List Value → Prop) (ht : P.underlying t = some (.slice e)) (hk : P.cellsOf e = k) (hk0 : 0 < k)
    (hE : ∀ n cs y, DataW.trod enc P w base spare held n e cs = some y → E cs) (h : DataW.trod enc P w base spare held fuel t [v] = some x) :
    ∃ a len cap C, v = .slice a len cap ∧ len ≤ cap ∧ cap ≤ maxLen ∧ (∀ i, i < len → E (C i)) ∧ IsRows w k a len C := by
  rcases open_slice ht h with ⟨h0, _⟩ | ⟨a, len, cap, m, n, D, Pl, h0, _, hl, hm, hmm, _, hx⟩
  · simp only [List.cons.injEq, and_true] at h0
    subst h0
    exact ⟨none, 0,0,fun _ => [],rfl, Nat.le_refl _, Nat.zero_le _,fun i hi => by omega, .inl rfl⟩
  · simp only [List.cons.injEq, and_true] at h0
    subst h0
    have hlm : len ≤ m := by rw [hmm]; split <;> omega
    obtain ⟨C, hC⟩ := choose_lt (α := List Value) (n := len) (p := fun i cs' => w.cells? base (a.add (i * P.cellsOf e)) (P.cellsOf e) = some cs' ∧ DataW.trod enc P w base spare held n e cs' = some (D i, Pl i)) (fun i hi => hx i (by omega))
    refine ⟨some a, len, cap, C,rfl, hl, hm,fun i hi => hE _ _ _ (hC i hi).2,?_⟩
    by_cases h0 : len = 0
    · exact .inl h0
    · right
      have hcell : ∀ i, i < len → ∀ j, j < k → w.cell? (a.add (i * k + j)) = (C i)[j]? ∧ ((C i)[j]?).isSome = true := by
        intro i hi j hj
        obtain ⟨h1, _⟩ := hC i hi
        obtain ⟨_, hlen, hget⟩ := World.cells?_some h1
        rw [hk] at hlen
        have := hget j (by omega)
        rw [hk, add_add] at this
        exact ⟨this,by simp; omega⟩
      have h00 := hcell 0 (by omega) 0 hk0
      obtain ⟨u, hu⟩ := Option.isSome_iff_exists.1 h00.2
      have hspot := World.cell?_spot (h00.1.trans hu)
      obtain ⟨b, off, spot⟩ := a
      simp [Addr.add] at hspot
      subst hspot
      have hb := World.block_lt_of_cell? w _ (h00.1.trans hu)
      refine ⟨b, off,rfl,?_,fun i hi j hj => ?_⟩
      · simpa [Addr.add] using hb
      · have := (hcell i hi j hj).1
        rwa [Addr.add_lit] at this
end
end Go.Proofs.YtkdbjelhkfdfjaaGreatDoor


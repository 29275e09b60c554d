/-
  ArenaRuns, whatever comes in.
-/
import Derived.Test.YtoifnljlnpkodaaArenaRunsLaw
namespace Go.Proofs.Ytoifnljlnpkodaa
open Go.RowKit
set_option linter.unusedVariables false

theorem arenaRuns_calls (w : World) (cap : Int) (hcap : (Lit.int .i64 cap).wf = true) (most : Int) (hmost : (Lit.int .u32 most).wf = true) (ad : Option Addr) (len acap : Nat) (C : Nat → List Value) (_hl : len ≤ acap) (_hm : acap ≤ maxLen)
    (hE : ∀ i, i < len → HandleCells (C i)) (hr : IsRows w 3 ad len C) :
    Calls Try.prog 7 #[.int .i64 cap, .int .u32 most, .slice ad len acap] w fun e w' => e = .returned (.bool true) ∧ Below w.heap.size w w' := by
  have hm : 0 ≤ most ∧ most ≤ 4294967295 := by simp [Lit.wf, IntKind.min, IntKind.max, IntKind.signed, IntKind.bits] at hmost; omega
  by_cases h60 : 60 < len
  · exact arenaRuns_long w cap most ad len acap h60
  · by_cases h1 : 40 < cap ∧ cap ≤ 65536
    · exact arenaRuns_mid w cap most ad len acap (by omega) h1
    · by_cases h2 : cap < 0 ∨ 65536 < cap ∨ cap ≤ 40 ∧ most = 0
      · exact arenaRuns_no w cap most ad len acap (by omega) h2
      · obtain ⟨n, rfl⟩ := Int.eq_ofNat_of_zero_le (show 0 ≤ cap by omega)
        exact arenaRuns_yes w n most ad len acap C (by omega) (by omega) (by omega) (by omega) hE hr

end Go.Proofs.Ytoifnljlnpkodaa

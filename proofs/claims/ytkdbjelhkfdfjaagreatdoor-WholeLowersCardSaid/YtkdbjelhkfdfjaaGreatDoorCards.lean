/-
  DERIVED. GIVEN WITH THE SEED: THE CARDS: each row of YtkdbjelhkfdfjaaGreatDoorRows.lean that lists a variable, with what it lists TIED to the program's text (the seventh form; the later family's looks); each row that meets fmt, with fmt's text TOLD by the authors' own Lean function (tested against real Go, not proved from fmt's source: count such statements apart). THE CARD IS WHAT COUNTS. Prove the row's statement (the work); the ties are given (YtkdbjelhkfdfjaaGreatDoorTie.lean); close each card by the builder's one call (the guide's Derived/Test/ToyasCard.lean, 'card_holds'). Laid BY PROGRAM, IN A SANDBOX (cutbox-door.mjs). By AI agents, Wed Nov 11 2026. No macro, syntax, notation, axiom, sorry.
-/
import Derived.Test.YtkdbjelhkfdfjaaGreatDoorRows
import GoSem.ClaimSeven
namespace Go.Proofs.YtkdbjelhkfdfjaaGreatDoor
namespace Rows

/-- THE TIED CARD OF 'haycocktop.WholeSorts'. -/
def wholeSortsCard : Claim7 := { stood := { row := wholeSortsRow, standIns := [], harness := (true, "d470e6cf01acc4469e69859f3a47ae2163f2e46302223d341c5752ab236b23b9"), looks := true }, kinds := [], alts := [], laidByText := true, laidKinds := [.data, .data, .data, .data, .sentinel, .sentinel, .pinned], laidTests := true, laidLooks := .later }
def WholeSortsCardSaid : Prop := Claim7.holds Tryz.pinned (.plain (OpenSpec.ofChange wholeSortsSpec)) wholeSortsCard

/-- THE TIED CARD OF 'haycocktop.WholeLevels'. -/
def wholeLevelsCard : Claim7 := { stood := { row := wholeLevelsRow, standIns := [], harness := (true, "d470e6cf01acc4469e69859f3a47ae2163f2e46302223d341c5752ab236b23b9"), looks := true }, kinds := [], alts := [], laidByText := true, laidKinds := [.data, .data, .data, .data, .sentinel, .sentinel, .pinned], laidTests := true, laidLooks := .later }
def WholeLevelsCardSaid : Prop := Claim7.holds Tryz.pinned (.plain (OpenSpec.ofChange wholeLevelsSpec)) wholeLevelsCard

/-- THE TIED CARD OF 'haycocktop.WholeReports'. -/
def wholeReportsCard : Claim7 := { stood := { row := wholeReportsRow, standIns := [], harness := (true, "d470e6cf01acc4469e69859f3a47ae2163f2e46302223d341c5752ab236b23b9"), looks := true }, kinds := [], alts := [], laidByText := true, laidKinds := [.data, .data, .data, .data, .sentinel, .sentinel, .pinned], laidTests := true, laidLooks := .later }
def WholeReportsCardSaid : Prop := Claim7.holds Tryz.pinned (.plain (OpenSpec.ofChange wholeReportsSpec)) wholeReportsCard

/-- THE TIED CARD OF 'haycocktop.WholeLowers'. -/
def wholeLowersCard : Claim7 := { stood := { row := wholeLowersRow, standIns := [], harness := (true, "d470e6cf01acc4469e69859f3a47ae2163f2e46302223d341c5752ab236b23b9"), looks := true }, kinds := [], alts := [], laidByText := true, laidKinds := [.data, .data, .data, .data, .sentinel, .sentinel, .pinned], laidTests := true, laidLooks := .later }
def WholeLowersCardSaid : Prop := Claim7.holds Tryz.pinned (.plain (OpenSpec.ofChange wholeLowersSpec)) wholeLowersCard

/-- THE SECOND FORM's CARD OF 'haycocktop.WholeSorts'. -/
def wholeSortsUptoCard : Claim7 := { stood := { row := wholeSortsUptoRow, standIns := [], harness := (true, "d470e6cf01acc4469e69859f3a47ae2163f2e46302223d341c5752ab236b23b9"), looks := true }, kinds := [], alts := [], laidByText := true, laidKinds := [.data, .data, .data, .data, .sentinel, .sentinel, .pinned], laidTests := true, laidLooks := .later }
def WholeSortsUptoCardSaid : Prop := Claim7.holds Tryz.pinned (.plain (OpenSpec.upto wholeSortsSpec)) wholeSortsUptoCard

/-- THE SECOND FORM's CARD OF 'haycocktop.WholeLevels'. -/
def wholeLevelsUptoCard : Claim7 := { stood := { row := wholeLevelsUptoRow, standIns := [], harness := (true, "d470e6cf01acc4469e69859f3a47ae2163f2e46302223d341c5752ab236b23b9"), looks := true }, kinds := [], alts := [], laidByText := true, laidKinds := [.data, .data, .data, .data, .sentinel, .sentinel, .pinned], laidTests := true, laidLooks := .later }
def WholeLevelsUptoCardSaid : Prop := Claim7.holds Tryz.pinned (.plain (OpenSpec.upto wholeLevelsSpec)) wholeLevelsUptoCard

/-- THE SECOND FORM's CARD OF 'haycocktop.WholeReports'. -/
def wholeReportsUptoCard : Claim7 := { stood := { row := wholeReportsUptoRow, standIns := [], harness := (true, "d470e6cf01acc4469e69859f3a47ae2163f2e46302223d341c5752ab236b23b9"), looks := true }, kinds := [], alts := [], laidByText := true, laidKinds := [.data, .data, .data, .data, .sentinel, .sentinel, .pinned], laidTests := true, laidLooks := .later }
def WholeReportsUptoCardSaid : Prop := Claim7.holds Tryz.pinned (.plain (OpenSpec.upto wholeReportsSpec)) wholeReportsUptoCard

/-- THE SECOND FORM's CARD OF 'haycocktop.WholeLowers'. -/
def wholeLowersUptoCard : Claim7 := { stood := { row := wholeLowersUptoRow, standIns := [], harness := (true, "d470e6cf01acc4469e69859f3a47ae2163f2e46302223d341c5752ab236b23b9"), looks := true }, kinds := [], alts := [], laidByText := true, laidKinds := [.data, .data, .data, .data, .sentinel, .sentinel, .pinned], laidTests := true, laidLooks := .later }
def WholeLowersUptoCardSaid : Prop := Claim7.holds Tryz.pinned (.plain (OpenSpec.upto wholeLowersSpec)) wholeLowersUptoCard
end Rows
end Go.Proofs.YtkdbjelhkfdfjaaGreatDoor

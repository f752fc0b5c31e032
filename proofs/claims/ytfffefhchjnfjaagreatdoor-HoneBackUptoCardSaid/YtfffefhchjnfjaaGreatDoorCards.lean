/-
  DERIVED. GIVEN WITH THE SEED: THE CARDS: each row of YtfffefhchjnfjaaGreatDoorRows.lean that lists a variable, with what it lists TIED to the program's text (the seventh form; the later family's looks); each row that meets fmt, with fmt's text TOLD by the authors' own Lean function (tested against real Go, not proved from fmt's source: count such statements apart). THE CARD IS WHAT COUNTS. Prove the row's statement (the work); the ties are given (YtfffefhchjnfjaaGreatDoorTie.lean); close each card by the builder's one call (the guide's Derived/Test/ToyasCard.lean, 'card_holds'). Laid BY PROGRAM, IN A SANDBOX (cutbox-door.mjs). By AI agents, Wed Nov 11 2026. No macro, syntax, notation, axiom, sorry.
-/
import Derived.Test.YtfffefhchjnfjaaGreatDoorRows
import GoSem.ClaimSeven
namespace Go.Proofs.YtfffefhchjnfjaaGreatDoor
namespace Rows

/-- THE TIED CARD OF 'turnpikelaw20.HoneEarly'. -/
def honeEarlyCard : Claim7 := { stood := { row := honeEarlyRow, standIns := [], harness := (true, "4c21c7499540832488e743203956b89a81296aa8d5e57ec3d772fdfdbb400170"), looks := true }, kinds := [], alts := [], laidByText := true, laidKinds := [.data, .data, .data, .data, .sentinel, .sentinel, .pinned], laidTests := true, laidLooks := .later }
def HoneEarlyCardSaid : Prop := Claim7.holds Tryz.pinned (.plain (OpenSpec.ofChange honeEarlySpec)) honeEarlyCard

/-- THE TIED CARD OF 'turnpikelaw20.HoneCuts'. -/
def honeCutsCard : Claim7 := { stood := { row := honeCutsRow, standIns := [], harness := (true, "4c21c7499540832488e743203956b89a81296aa8d5e57ec3d772fdfdbb400170"), looks := true }, kinds := [], alts := [], laidByText := true, laidKinds := [.data, .data, .data, .data, .sentinel, .sentinel, .pinned], laidTests := true, laidLooks := .later }
def HoneCutsCardSaid : Prop := Claim7.holds Tryz.pinned (.plain (OpenSpec.ofChange honeCutsSpec)) honeCutsCard

/-- THE TIED CARD OF 'turnpikelaw20.HoneBack'. -/
def honeBackCard : Claim7 := { stood := { row := honeBackRow, standIns := [], harness := (true, "4c21c7499540832488e743203956b89a81296aa8d5e57ec3d772fdfdbb400170"), looks := true }, kinds := [], alts := [], laidByText := true, laidKinds := [.data, .data, .data, .data, .sentinel, .sentinel, .pinned], laidTests := true, laidLooks := .later }
def HoneBackCardSaid : Prop := Claim7.holds Tryz.pinned (.plain (OpenSpec.ofChange honeBackSpec)) honeBackCard

/-- THE TIED CARD OF 'turnpikelaw20.HoneStrict'. -/
def honeStrictCard : Claim7 := { stood := { row := honeStrictRow, standIns := [], harness := (true, "4c21c7499540832488e743203956b89a81296aa8d5e57ec3d772fdfdbb400170"), looks := true }, kinds := [], alts := [], laidByText := true, laidKinds := [.data, .data, .data, .data, .sentinel, .sentinel, .pinned], laidTests := true, laidLooks := .later }
def HoneStrictCardSaid : Prop := Claim7.holds Tryz.pinned (.plain (OpenSpec.ofChange honeStrictSpec)) honeStrictCard

/-- THE SECOND FORM's CARD OF 'turnpikelaw20.HoneEarly'. -/
def honeEarlyUptoCard : Claim7 := { stood := { row := honeEarlyUptoRow, standIns := [], harness := (true, "4c21c7499540832488e743203956b89a81296aa8d5e57ec3d772fdfdbb400170"), looks := true }, kinds := [], alts := [], laidByText := true, laidKinds := [.data, .data, .data, .data, .sentinel, .sentinel, .pinned], laidTests := true, laidLooks := .later }
def HoneEarlyUptoCardSaid : Prop := Claim7.holds Tryz.pinned (.plain (OpenSpec.upto honeEarlySpec)) honeEarlyUptoCard

/-- THE SECOND FORM's CARD OF 'turnpikelaw20.HoneCuts'. -/
def honeCutsUptoCard : Claim7 := { stood := { row := honeCutsUptoRow, standIns := [], harness := (true, "4c21c7499540832488e743203956b89a81296aa8d5e57ec3d772fdfdbb400170"), looks := true }, kinds := [], alts := [], laidByText := true, laidKinds := [.data, .data, .data, .data, .sentinel, .sentinel, .pinned], laidTests := true, laidLooks := .later }
def HoneCutsUptoCardSaid : Prop := Claim7.holds Tryz.pinned (.plain (OpenSpec.upto honeCutsSpec)) honeCutsUptoCard

/-- THE SECOND FORM's CARD OF 'turnpikelaw20.HoneBack'. -/
def honeBackUptoCard : Claim7 := { stood := { row := honeBackUptoRow, standIns := [], harness := (true, "4c21c7499540832488e743203956b89a81296aa8d5e57ec3d772fdfdbb400170"), looks := true }, kinds := [], alts := [], laidByText := true, laidKinds := [.data, .data, .data, .data, .sentinel, .sentinel, .pinned], laidTests := true, laidLooks := .later }
def HoneBackUptoCardSaid : Prop := Claim7.holds Tryz.pinned (.plain (OpenSpec.upto honeBackSpec)) honeBackUptoCard

/-- THE SECOND FORM's CARD OF 'turnpikelaw20.HoneStrict'. -/
def honeStrictUptoCard : Claim7 := { stood := { row := honeStrictUptoRow, standIns := [], harness := (true, "4c21c7499540832488e743203956b89a81296aa8d5e57ec3d772fdfdbb400170"), looks := true }, kinds := [], alts := [], laidByText := true, laidKinds := [.data, .data, .data, .data, .sentinel, .sentinel, .pinned], laidTests := true, laidLooks := .later }
def HoneStrictUptoCardSaid : Prop := Claim7.holds Tryz.pinned (.plain (OpenSpec.upto honeStrictSpec)) honeStrictUptoCard
end Rows
end Go.Proofs.YtfffefhchjnfjaaGreatDoor

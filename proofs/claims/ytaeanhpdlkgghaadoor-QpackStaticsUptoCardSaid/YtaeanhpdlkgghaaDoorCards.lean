/-
  DERIVED. GIVEN WITH THE SEED: THE CARDS: each row of YtaeanhpdlkgghaaDoorRows.lean that lists a variable, with what it lists TIED to the program's text (the seventh form; the later family's looks); each row that meets fmt, with fmt's text TOLD by the authors' own Lean function (tested against real Go, not proved from fmt's source: count such statements apart). THE CARD IS WHAT COUNTS. Prove the row's statement (the work); the ties are given (YtaeanhpdlkgghaaDoorTie.lean); close each card by the builder's one call (the guide's Derived/Test/ToyasCard.lean, 'card_holds'). Laid BY PROGRAM, IN A SANDBOX (cutbox-door.mjs). By AI agents, Wed Nov 11 2026. No macro, syntax, notation, axiom, sorry.
-/
import Derived.Test.YtaeanhpdlkgghaaDoorRows
import GoSem.ClaimSeven
namespace Go.Proofs.YtaeanhpdlkgghaaDoor
namespace Rows

/-- THE TIED CARD OF 'turnpikelaw16.QpackStatics'. -/
def qpackStaticsCard : Claim7 := { stood := { row := qpackStaticsRow, standIns := [], harness := (true, "bba454f46f30343b35109b8ec4027daaa982d4a19c1cab2d993f85cc01e440dd"), looks := true }, kinds := [], alts := [], laidByText := true, laidKinds := [.data, .pinned], laidTests := true, laidLooks := .later }
def QpackStaticsCardSaid : Prop := Claim7.holds Tryd.pinned (.plain (OpenSpec.ofChange qpackStaticsSpec)) qpackStaticsCard

/-- THE TIED CARD OF 'turnpikelaw16.QpackCuts'. -/
def qpackCutsCard : Claim7 := { stood := { row := qpackCutsRow, standIns := [], harness := (true, "bba454f46f30343b35109b8ec4027daaa982d4a19c1cab2d993f85cc01e440dd"), looks := true }, kinds := [], alts := [], laidByText := true, laidKinds := [.data, .pinned], laidTests := true, laidLooks := .later }
def QpackCutsCardSaid : Prop := Claim7.holds Tryd.pinned (.plain (OpenSpec.ofChange qpackCutsSpec)) qpackCutsCard

/-- THE TIED CARD OF 'turnpikelaw16.QpackMeets'. -/
def qpackMeetsCard : Claim7 := { stood := { row := qpackMeetsRow, standIns := [], harness := (true, "bba454f46f30343b35109b8ec4027daaa982d4a19c1cab2d993f85cc01e440dd"), looks := true }, kinds := [], alts := [], laidByText := true, laidKinds := [.data, .pinned], laidTests := true, laidLooks := .later }
def QpackMeetsCardSaid : Prop := Claim7.holds Tryd.pinned (.plain (OpenSpec.ofChange qpackMeetsSpec)) qpackMeetsCard

/-- THE TIED CARD OF 'turnpikelaw16.QpackWaits'. -/
def qpackWaitsCard : Claim7 := { stood := { row := qpackWaitsRow, standIns := [], harness := (true, "bba454f46f30343b35109b8ec4027daaa982d4a19c1cab2d993f85cc01e440dd"), looks := true }, kinds := [], alts := [], laidByText := true, laidKinds := [.data, .pinned], laidTests := true, laidLooks := .later }
def QpackWaitsCardSaid : Prop := Claim7.holds Tryd.pinned (.plain (OpenSpec.ofChange qpackWaitsSpec)) qpackWaitsCard

/-- THE SECOND FORM's CARD OF 'turnpikelaw16.QpackStatics'. -/
def qpackStaticsUptoCard : Claim7 := { stood := { row := qpackStaticsUptoRow, standIns := [], harness := (true, "bba454f46f30343b35109b8ec4027daaa982d4a19c1cab2d993f85cc01e440dd"), looks := true }, kinds := [], alts := [], laidByText := true, laidKinds := [.data, .pinned], laidTests := true, laidLooks := .later }
def QpackStaticsUptoCardSaid : Prop := Claim7.holds Tryd.pinned (.plain (OpenSpec.upto qpackStaticsSpec)) qpackStaticsUptoCard

/-- THE SECOND FORM's CARD OF 'turnpikelaw16.QpackCuts'. -/
def qpackCutsUptoCard : Claim7 := { stood := { row := qpackCutsUptoRow, standIns := [], harness := (true, "bba454f46f30343b35109b8ec4027daaa982d4a19c1cab2d993f85cc01e440dd"), looks := true }, kinds := [], alts := [], laidByText := true, laidKinds := [.data, .pinned], laidTests := true, laidLooks := .later }
def QpackCutsUptoCardSaid : Prop := Claim7.holds Tryd.pinned (.plain (OpenSpec.upto qpackCutsSpec)) qpackCutsUptoCard

/-- THE SECOND FORM's CARD OF 'turnpikelaw16.QpackMeets'. -/
def qpackMeetsUptoCard : Claim7 := { stood := { row := qpackMeetsUptoRow, standIns := [], harness := (true, "bba454f46f30343b35109b8ec4027daaa982d4a19c1cab2d993f85cc01e440dd"), looks := true }, kinds := [], alts := [], laidByText := true, laidKinds := [.data, .pinned], laidTests := true, laidLooks := .later }
def QpackMeetsUptoCardSaid : Prop := Claim7.holds Tryd.pinned (.plain (OpenSpec.upto qpackMeetsSpec)) qpackMeetsUptoCard

/-- THE SECOND FORM's CARD OF 'turnpikelaw16.QpackWaits'. -/
def qpackWaitsUptoCard : Claim7 := { stood := { row := qpackWaitsUptoRow, standIns := [], harness := (true, "bba454f46f30343b35109b8ec4027daaa982d4a19c1cab2d993f85cc01e440dd"), looks := true }, kinds := [], alts := [], laidByText := true, laidKinds := [.data, .pinned], laidTests := true, laidLooks := .later }
def QpackWaitsUptoCardSaid : Prop := Claim7.holds Tryd.pinned (.plain (OpenSpec.upto qpackWaitsSpec)) qpackWaitsUptoCard
end Rows
end Go.Proofs.YtaeanhpdlkgghaaDoor

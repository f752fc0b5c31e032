/-
  DERIVED. GIVEN WITH THE SEED: THE CARDS: each row of YtohinaohcndndaaDoorRows.lean that lists a variable, with what it lists TIED to the program's text (the seventh form; the later family's looks); each row that meets fmt, with fmt's text TOLD by the authors' own Lean function (tested against real Go, not proved from fmt's source: count such statements apart). THE CARD IS WHAT COUNTS. Prove the row's statement (the work); the ties are given (YtohinaohcndndaaDoorTie.lean); close each card by the builder's one call (the guide's Derived/Test/ToyasCard.lean, 'card_holds'). Laid BY PROGRAM, IN A SANDBOX (cutbox-door.mjs). By AI agents, Wed Nov 11 2026. No macro, syntax, notation, axiom, sorry.
-/
import Derived.Test.YtohinaohcndndaaDoorRows
import GoSem.ClaimSeven
namespace Go.Proofs.YtohinaohcndndaaDoor
namespace Rows

/-- THE TIED CARD OF 'turnpikelaw19.NormHeads'. -/
def normHeadsCard : Claim7 := { stood := { row := normHeadsRow, standIns := [], harness := (true, "d29111798d129ea02dd61d55b750faa39ba4f6f6fc0b20c8c616d25c7fa46e12"), looks := false }, kinds := [], alts := [], laidByText := true, laidKinds := [.data, .data, .data, .sentinel], laidTests := true, laidLooks := .later }
def NormHeadsCardSaid : Prop := Claim7.holds Tryd.pinned (.plain (OpenSpec.ofChange normHeadsSpec)) normHeadsCard

/-- THE TIED CARD OF 'turnpikelaw19.NormBegins'. -/
def normBeginsCard : Claim7 := { stood := { row := normBeginsRow, standIns := [], harness := (true, "d29111798d129ea02dd61d55b750faa39ba4f6f6fc0b20c8c616d25c7fa46e12"), looks := false }, kinds := [], alts := [], laidByText := true, laidKinds := [.data, .data, .data, .sentinel], laidTests := true, laidLooks := .later }
def NormBeginsCardSaid : Prop := Claim7.holds Tryd.pinned (.plain (OpenSpec.ofChange normBeginsSpec)) normBeginsCard

/-- THE TIED CARD OF 'turnpikelaw19.NormChunks'. -/
def normChunksCard : Claim7 := { stood := { row := normChunksRow, standIns := [], harness := (true, "d29111798d129ea02dd61d55b750faa39ba4f6f6fc0b20c8c616d25c7fa46e12"), looks := false }, kinds := [], alts := [], laidByText := true, laidKinds := [.data, .data, .data, .sentinel], laidTests := true, laidLooks := .later }
def NormChunksCardSaid : Prop := Claim7.holds Tryd.pinned (.plain (OpenSpec.ofChange normChunksSpec)) normChunksCard

/-- THE TIED CARD OF 'turnpikelaw19.NormFactors'. -/
def normFactorsCard : Claim7 := { stood := { row := normFactorsRow, standIns := [], harness := (true, "d29111798d129ea02dd61d55b750faa39ba4f6f6fc0b20c8c616d25c7fa46e12"), looks := false }, kinds := [], alts := [], laidByText := true, laidKinds := [.data, .data, .data, .sentinel], laidTests := true, laidLooks := .later }
def NormFactorsCardSaid : Prop := Claim7.holds Tryd.pinned (.plain (OpenSpec.ofChange normFactorsSpec)) normFactorsCard

/-- THE TIED CARD OF 'turnpikelaw19.NormHides'. -/
def normHidesCard : Claim7 := { stood := { row := normHidesRow, standIns := [], harness := (true, "d29111798d129ea02dd61d55b750faa39ba4f6f6fc0b20c8c616d25c7fa46e12"), looks := false }, kinds := [], alts := [], laidByText := true, laidKinds := [.data, .data, .data, .data, .sentinel, .pinned], laidTests := true, laidLooks := .later }
def NormHidesCardSaid : Prop := Claim7.holds Tryd.pinned (.plain (OpenSpec.ofChange normHidesSpec)) normHidesCard

/-- THE TIED CARD OF 'turnpikelaw19.NormResponses'. -/
def normResponsesCard : Claim7 := { stood := { row := normResponsesRow, standIns := [], harness := (true, "d29111798d129ea02dd61d55b750faa39ba4f6f6fc0b20c8c616d25c7fa46e12"), looks := false }, kinds := [], alts := [], laidByText := true, laidKinds := [.data, .data, .data, .data, .sentinel, .pinned], laidTests := true, laidLooks := .later }
def NormResponsesCardSaid : Prop := Claim7.holds Tryd.pinned (.plain (OpenSpec.ofChange normResponsesSpec)) normResponsesCard

/-- THE SECOND FORM's CARD OF 'turnpikelaw19.NormHeads'. -/
def normHeadsUptoCard : Claim7 := { stood := { row := normHeadsUptoRow, standIns := [], harness := (true, "d29111798d129ea02dd61d55b750faa39ba4f6f6fc0b20c8c616d25c7fa46e12"), looks := false }, kinds := [], alts := [], laidByText := true, laidKinds := [.data, .data, .data, .sentinel], laidTests := true, laidLooks := .later }
def NormHeadsUptoCardSaid : Prop := Claim7.holds Tryd.pinned (.plain (OpenSpec.upto normHeadsSpec)) normHeadsUptoCard

/-- THE SECOND FORM's CARD OF 'turnpikelaw19.NormBegins'. -/
def normBeginsUptoCard : Claim7 := { stood := { row := normBeginsUptoRow, standIns := [], harness := (true, "d29111798d129ea02dd61d55b750faa39ba4f6f6fc0b20c8c616d25c7fa46e12"), looks := false }, kinds := [], alts := [], laidByText := true, laidKinds := [.data, .data, .data, .sentinel], laidTests := true, laidLooks := .later }
def NormBeginsUptoCardSaid : Prop := Claim7.holds Tryd.pinned (.plain (OpenSpec.upto normBeginsSpec)) normBeginsUptoCard

/-- THE SECOND FORM's CARD OF 'turnpikelaw19.NormChunks'. -/
def normChunksUptoCard : Claim7 := { stood := { row := normChunksUptoRow, standIns := [], harness := (true, "d29111798d129ea02dd61d55b750faa39ba4f6f6fc0b20c8c616d25c7fa46e12"), looks := false }, kinds := [], alts := [], laidByText := true, laidKinds := [.data, .data, .data, .sentinel], laidTests := true, laidLooks := .later }
def NormChunksUptoCardSaid : Prop := Claim7.holds Tryd.pinned (.plain (OpenSpec.upto normChunksSpec)) normChunksUptoCard

/-- THE SECOND FORM's CARD OF 'turnpikelaw19.NormFactors'. -/
def normFactorsUptoCard : Claim7 := { stood := { row := normFactorsUptoRow, standIns := [], harness := (true, "d29111798d129ea02dd61d55b750faa39ba4f6f6fc0b20c8c616d25c7fa46e12"), looks := false }, kinds := [], alts := [], laidByText := true, laidKinds := [.data, .data, .data, .sentinel], laidTests := true, laidLooks := .later }
def NormFactorsUptoCardSaid : Prop := Claim7.holds Tryd.pinned (.plain (OpenSpec.upto normFactorsSpec)) normFactorsUptoCard

/-- THE SECOND FORM's CARD OF 'turnpikelaw19.NormHides'. -/
def normHidesUptoCard : Claim7 := { stood := { row := normHidesUptoRow, standIns := [], harness := (true, "d29111798d129ea02dd61d55b750faa39ba4f6f6fc0b20c8c616d25c7fa46e12"), looks := false }, kinds := [], alts := [], laidByText := true, laidKinds := [.data, .data, .data, .data, .sentinel, .pinned], laidTests := true, laidLooks := .later }
def NormHidesUptoCardSaid : Prop := Claim7.holds Tryd.pinned (.plain (OpenSpec.upto normHidesSpec)) normHidesUptoCard

/-- THE SECOND FORM's CARD OF 'turnpikelaw19.NormResponses'. -/
def normResponsesUptoCard : Claim7 := { stood := { row := normResponsesUptoRow, standIns := [], harness := (true, "d29111798d129ea02dd61d55b750faa39ba4f6f6fc0b20c8c616d25c7fa46e12"), looks := false }, kinds := [], alts := [], laidByText := true, laidKinds := [.data, .data, .data, .data, .sentinel, .pinned], laidTests := true, laidLooks := .later }
def NormResponsesUptoCardSaid : Prop := Claim7.holds Tryd.pinned (.plain (OpenSpec.upto normResponsesSpec)) normResponsesUptoCard
end Rows
end Go.Proofs.YtohinaohcndndaaDoor

/-
  No cell of these rows narrows 'for every input' (looked for: loops, veiled, ifaces, maps, wideKeys, modest, calm, conditions, laid).
  DERIVED. THE GIVEN ROWS OF THIS SEAT. 4 by the template 'for every input the law returns true; each argument reads behind the call as it read before'; 0 by the template 'total and deterministic' (their statements: YtbplmnmkgkgkhaaTotals.lean).
  GIVEN WITH THE SEED: the statements are not yours to turn. If you find one false, say at which input.
  Laid BY PROGRAM, IN A SANDBOX (cutbox-rows.mjs): the forced cells as the released guide's own fill.sh prints them over the translation 056c1ec6c1510d68… (all of the seat's roots in one cut). By AI agents, Wed Nov 11 2026. No macro, syntax, notation, axiom, sorry.
-/
import Derived.Test.YtbplmnmkgkgkhaaChecked
import GoSem.Claim
import GoSem.ClaimJoined
import GoSem.ClaimMapViews
import Derived.JoinedTies
import Derived.KernelRfl
namespace Go.Proofs.Ytbplmnmkgkgkhaa
/- THE CELL 'sum', in the pinned program and in every row, IS THE sha256 OF THE DUMP (.gsa) THAT YtbplmnmkgkgkhaaProg.lean LOADS. Nothing in Lean hashes anything: it is a label: what it is worth is what the hold of that sum in a sandbox is worth. -/
noncomputable def Try.pinned : Pinned := { name := "ytbplmnmkgkgkhaa", sum := "056c1ec6c1510d6820a532b4415bfd40629c765ae918d98bfadfa4a601bebf93", checked := Try.checked }
namespace Rows
def none {H : Type} : Left H := { results := [], args := [] }

/-- 'turnpikelaw17.HframeCuts': WHATEVER THE INPUT: true; the input reads as it did. -/
def hframeCutsSpec : ChangeSpec := { name := "hframeCuts", fn := fun _ => fun
  | [d1, d2, d3] => { results := [.lit (.bool true)], args := [d1, d2, d3] }
  | _ => none }
def hframeCutsRow : OpenClaim := { program := "ytbplmnmkgkgkhaa", sum := "056c1ec6c1510d6820a532b4415bfd40629c765ae918d98bfadfa4a601bebf93", func := "turnpike/turnpikelaw17.HframeCuts", spec := "hframeCuts", apart := false }
def HframeCutsSaid : Prop := hframeCutsRow.holds Try.pinned (OpenSpec.ofChange hframeCutsSpec)

/-- ITS FALSE NEIGHBOUR: 'it returns false'. Refute it at one input. -/
def hframeCutsWrong : ChangeSpec := { name := "hframeCuts", fn := fun _ => fun
  | [d1, d2, d3] => { results := [.lit (.bool false)], args := [d1, d2, d3] }
  | _ => none }
def HframeCutsWrongFalsely : Prop := hframeCutsRow.holds Try.pinned (OpenSpec.ofChange hframeCutsWrong)

/-- 'turnpikelaw17.HframeBack': WHATEVER THE INPUT: true; the input reads as it did. -/
def hframeBackSpec : ChangeSpec := { name := "hframeBack", fn := fun _ => fun
  | [d] => { results := [.lit (.bool true)], args := [d] }
  | _ => none }
def hframeBackRow : OpenClaim := { program := "ytbplmnmkgkgkhaa", sum := "056c1ec6c1510d6820a532b4415bfd40629c765ae918d98bfadfa4a601bebf93", func := "turnpike/turnpikelaw17.HframeBack", spec := "hframeBack", unfollowed := true, recurses := true, apart := false }
def HframeBackSaid : Prop := hframeBackRow.holds Try.pinned (OpenSpec.ofChange hframeBackSpec)

/-- ITS FALSE NEIGHBOUR: 'it returns false'. Refute it at one input. -/
def hframeBackWrong : ChangeSpec := { name := "hframeBack", fn := fun _ => fun
  | [d] => { results := [.lit (.bool false)], args := [d] }
  | _ => none }
def HframeBackWrongFalsely : Prop := hframeBackRow.holds Try.pinned (OpenSpec.ofChange hframeBackWrong)

/-- 'turnpikelaw17.HframePuts': WHATEVER THE INPUT: true; the input reads as it did. -/
def hframePutsSpec : ChangeSpec := { name := "hframePuts", fn := fun _ => fun
  | [d1, d2, d3] => { results := [.lit (.bool true)], args := [d1, d2, d3] }
  | _ => none }
def hframePutsRow : OpenClaim := { program := "ytbplmnmkgkgkhaa", sum := "056c1ec6c1510d6820a532b4415bfd40629c765ae918d98bfadfa4a601bebf93", func := "turnpike/turnpikelaw17.HframePuts", spec := "hframePuts", unfollowed := true, recurses := true, apart := false }
def HframePutsSaid : Prop := hframePutsRow.holds Try.pinned (OpenSpec.ofChange hframePutsSpec)

/-- ITS FALSE NEIGHBOUR: 'it returns false'. Refute it at one input. -/
def hframePutsWrong : ChangeSpec := { name := "hframePuts", fn := fun _ => fun
  | [d1, d2, d3] => { results := [.lit (.bool false)], args := [d1, d2, d3] }
  | _ => none }
def HframePutsWrongFalsely : Prop := hframePutsRow.holds Try.pinned (OpenSpec.ofChange hframePutsWrong)

/-- 'turnpikelaw17.HframeSettles': WHATEVER THE INPUT: true; the input reads as it did. -/
def hframeSettlesSpec : ChangeSpec := { name := "hframeSettles", fn := fun _ => fun
  | [d1, d2] => { results := [.lit (.bool true)], args := [d1, d2] }
  | _ => none }
def hframeSettlesRow : OpenClaim := { program := "ytbplmnmkgkgkhaa", sum := "056c1ec6c1510d6820a532b4415bfd40629c765ae918d98bfadfa4a601bebf93", func := "turnpike/turnpikelaw17.HframeSettles", spec := "hframeSettles", unfollowed := true, recurses := true, apart := false }
def HframeSettlesSaid : Prop := hframeSettlesRow.holds Try.pinned (OpenSpec.ofChange hframeSettlesSpec)

/-- ITS FALSE NEIGHBOUR: 'it returns false'. Refute it at one input. -/
def hframeSettlesWrong : ChangeSpec := { name := "hframeSettles", fn := fun _ => fun
  | [d1, d2] => { results := [.lit (.bool false)], args := [d1, d2] }
  | _ => none }
def HframeSettlesWrongFalsely : Prop := hframeSettlesRow.holds Try.pinned (OpenSpec.ofChange hframeSettlesWrong)

/- THE SECOND FORM. 'bulk': how many values and letters a reading holds, each counted each time it is reached (what is shared counts as often as it is met; a slice's spare places count too). A statement '..UptoSaid' is the law's where the arguments, and the package variables that the reading takes, are together of bulk at most 1048576: NARROWER than '..Said'. Prove '..Said' where nothing that the law and all that it calls make is longer than what came in: it says more and counts as full. Else prove '..UptoSaid'. A law counts once. -/
mutual
def uptoBulk {H : Type} : DataW H → Nat
  | .lit (.string bytes) => bytes.length + 1
  | .lit _ => 1
  | .nil => 1
  | .ptr d => uptoBulk d + 1
  | .slice elems spare => uptoBulkAll elems + uptoBulkAll spare + 1
  | .agg parts => uptoBulkAll parts + 1
  | .iface _ d => uptoBulk d + 1
  | .map entries => uptoBulkEntries entries + 1
  | .held _ => 1
def uptoBulkAll {H : Type} : List (DataW H) → Nat
  | [] => 0
  | d :: r => uptoBulk d + uptoBulkAll r
def uptoBulkEntries {H : Type} : List (Lit × DataW H) → Nat
  | [] => 0
  | x :: r => uptoBulkEntry x + uptoBulkEntries r
def uptoBulkEntry {H : Type} : Lit × DataW H → Nat
  | (.string bytes, d) => bytes.length + uptoBulk d + 1
  | (_, d) => uptoBulk d + 1
 end
def uptoSmall : (H : Type) → List (DataW H) → Bool := fun _ ds => decide (uptoBulkAll ds ≤ 1048576)
def OpenSpec.upto (s : _root_.Go.ChangeSpec) : _root_.Go.OpenSpec := { _root_.Go.OpenSpec.ofChange s with cond := some uptoSmall }

/-- 'turnpikelaw17.HframeCuts', WHERE WHAT IT READS IS OF BULK AT MOST 1048576: true; the input reads as it did. -/
def hframeCutsUptoRow : OpenClaim := { program := "ytbplmnmkgkgkhaa", sum := "056c1ec6c1510d6820a532b4415bfd40629c765ae918d98bfadfa4a601bebf93", func := "turnpike/turnpikelaw17.HframeCuts", spec := "hframeCuts", apart := false, narrowed := true }
def HframeCutsUptoSaid : Prop := hframeCutsUptoRow.holds Try.pinned (OpenSpec.upto hframeCutsSpec)

/-- 'turnpikelaw17.HframeBack', WHERE WHAT IT READS IS OF BULK AT MOST 1048576: true; the input reads as it did. -/
def hframeBackUptoRow : OpenClaim := { program := "ytbplmnmkgkgkhaa", sum := "056c1ec6c1510d6820a532b4415bfd40629c765ae918d98bfadfa4a601bebf93", func := "turnpike/turnpikelaw17.HframeBack", spec := "hframeBack", unfollowed := true, recurses := true, apart := false, narrowed := true }
def HframeBackUptoSaid : Prop := hframeBackUptoRow.holds Try.pinned (OpenSpec.upto hframeBackSpec)

/-- 'turnpikelaw17.HframePuts', WHERE WHAT IT READS IS OF BULK AT MOST 1048576: true; the input reads as it did. -/
def hframePutsUptoRow : OpenClaim := { program := "ytbplmnmkgkgkhaa", sum := "056c1ec6c1510d6820a532b4415bfd40629c765ae918d98bfadfa4a601bebf93", func := "turnpike/turnpikelaw17.HframePuts", spec := "hframePuts", unfollowed := true, recurses := true, apart := false, narrowed := true }
def HframePutsUptoSaid : Prop := hframePutsUptoRow.holds Try.pinned (OpenSpec.upto hframePutsSpec)

/-- 'turnpikelaw17.HframeSettles', WHERE WHAT IT READS IS OF BULK AT MOST 1048576: true; the input reads as it did. -/
def hframeSettlesUptoRow : OpenClaim := { program := "ytbplmnmkgkgkhaa", sum := "056c1ec6c1510d6820a532b4415bfd40629c765ae918d98bfadfa4a601bebf93", func := "turnpike/turnpikelaw17.HframeSettles", spec := "hframeSettles", unfollowed := true, recurses := true, apart := false, narrowed := true }
def HframeSettlesUptoSaid : Prop := hframeSettlesUptoRow.holds Try.pinned (OpenSpec.upto hframeSettlesSpec)

end Rows
end Go.Proofs.Ytbplmnmkgkgkhaa

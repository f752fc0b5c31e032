/-
  No cell of these rows narrows 'for every input' (looked for: loops, veiled, ifaces, maps, wideKeys, modest, calm, conditions, laid).
  DERIVED. THE GIVEN ROWS OF THIS SEAT. 5 by the template 'for every input the law returns true; each argument reads behind the call as it read before'; 0 by the template 'total and deterministic' (their statements: YtkjclgpecppokaaTotals.lean).
  GIVEN WITH THE SEED: the statements are not yours to turn. If you find one false, say at which input.
  Laid BY PROGRAM, IN A SANDBOX (cutbox-rows.mjs): the forced cells as the released guide's own fill.sh prints them over the translation 9b3446813185cede… (all of the seat's roots in one cut). By AI agents, Wed Nov 11 2026. No macro, syntax, notation, axiom, sorry.
-/
import Derived.Test.YtkjclgpecppokaaChecked
import GoSem.Claim
import GoSem.ClaimJoined
import GoSem.ClaimMapViews
import Derived.JoinedTies
import Derived.KernelRfl
namespace Go.Proofs.Ytkjclgpecppokaa
/- THE CELL 'sum', in the pinned program and in every row, IS THE sha256 OF THE DUMP (.gsa) THAT YtkjclgpecppokaaProg.lean LOADS. Nothing in Lean hashes anything: it is a label: what it is worth is what the hold of that sum in a sandbox is worth. -/
noncomputable def Try.pinned : Pinned := { name := "ytkjclgpecppokaa", sum := "9b3446813185cedefeaaec6a4722975e43858521e3d3e2578033efafd37f12ff", checked := Try.checked }
namespace Rows
def none {H : Type} : Left H := { results := [], args := [] }

/-- 'turnpikelaw04.SendqNews': WHATEVER THE INPUT: true; the input reads as it did. -/
def sendqNewsSpec : ChangeSpec := { name := "sendqNews", fn := fun _ => fun
  | [d] => { results := [.lit (.bool true)], args := [d] }
  | _ => none }
def sendqNewsRow : OpenClaim := { program := "ytkjclgpecppokaa", sum := "9b3446813185cedefeaaec6a4722975e43858521e3d3e2578033efafd37f12ff", func := "turnpike/turnpikelaw04.SendqNews", spec := "sendqNews", inPlace := ["internal/bytealg.IndexByte"], apart := false }
def SendqNewsSaid : Prop := sendqNewsRow.holds Try.pinned (OpenSpec.ofChange sendqNewsSpec)

/-- ITS FALSE NEIGHBOUR: 'it returns false'. Refute it at one input. -/
def sendqNewsWrong : ChangeSpec := { name := "sendqNews", fn := fun _ => fun
  | [d] => { results := [.lit (.bool false)], args := [d] }
  | _ => none }
def SendqNewsWrongFalsely : Prop := sendqNewsRow.holds Try.pinned (OpenSpec.ofChange sendqNewsWrong)

/-- 'turnpikelaw04.SendqLimits': WHATEVER THE INPUT: true; the input reads as it did. -/
def sendqLimitsSpec : ChangeSpec := { name := "sendqLimits", fn := fun _ => fun
  | [d1, d2] => { results := [.lit (.bool true)], args := [d1, d2] }
  | _ => none }
def sendqLimitsRow : OpenClaim := { program := "ytkjclgpecppokaa", sum := "9b3446813185cedefeaaec6a4722975e43858521e3d3e2578033efafd37f12ff", func := "turnpike/turnpikelaw04.SendqLimits", spec := "sendqLimits", inPlace := ["internal/bytealg.IndexByte"], unfollowed := true, recurses := true, apart := false }
def SendqLimitsSaid : Prop := sendqLimitsRow.holds Try.pinned (OpenSpec.ofChange sendqLimitsSpec)

/-- ITS FALSE NEIGHBOUR: 'it returns false'. Refute it at one input. -/
def sendqLimitsWrong : ChangeSpec := { name := "sendqLimits", fn := fun _ => fun
  | [d1, d2] => { results := [.lit (.bool false)], args := [d1, d2] }
  | _ => none }
def SendqLimitsWrongFalsely : Prop := sendqLimitsRow.holds Try.pinned (OpenSpec.ofChange sendqLimitsWrong)

/-- 'turnpikelaw04.SendqKeeps': WHATEVER THE INPUT: true; the input reads as it did. -/
def sendqKeepsSpec : ChangeSpec := { name := "sendqKeeps", fn := fun _ => fun
  | [d1, d2] => { results := [.lit (.bool true)], args := [d1, d2] }
  | _ => none }
def sendqKeepsRow : OpenClaim := { program := "ytkjclgpecppokaa", sum := "9b3446813185cedefeaaec6a4722975e43858521e3d3e2578033efafd37f12ff", func := "turnpike/turnpikelaw04.SendqKeeps", spec := "sendqKeeps", inPlace := ["internal/bytealg.IndexByte"], unfollowed := true, recurses := true, apart := false }
def SendqKeepsSaid : Prop := sendqKeepsRow.holds Try.pinned (OpenSpec.ofChange sendqKeepsSpec)

/-- ITS FALSE NEIGHBOUR: 'it returns false'. Refute it at one input. -/
def sendqKeepsWrong : ChangeSpec := { name := "sendqKeeps", fn := fun _ => fun
  | [d1, d2] => { results := [.lit (.bool false)], args := [d1, d2] }
  | _ => none }
def SendqKeepsWrongFalsely : Prop := sendqKeepsRow.holds Try.pinned (OpenSpec.ofChange sendqKeepsWrong)

/-- 'turnpikelaw04.SendqArrives': WHATEVER THE INPUT: true; the input reads as it did. -/
def sendqArrivesSpec : ChangeSpec := { name := "sendqArrives", fn := fun _ => fun
  | [d1, d2, d3] => { results := [.lit (.bool true)], args := [d1, d2, d3] }
  | _ => none }
def sendqArrivesRow : OpenClaim := { program := "ytkjclgpecppokaa", sum := "9b3446813185cedefeaaec6a4722975e43858521e3d3e2578033efafd37f12ff", func := "turnpike/turnpikelaw04.SendqArrives", spec := "sendqArrives", inPlace := ["internal/bytealg.IndexByte"], unfollowed := true, recurses := true, apart := false }
def SendqArrivesSaid : Prop := sendqArrivesRow.holds Try.pinned (OpenSpec.ofChange sendqArrivesSpec)

/-- ITS FALSE NEIGHBOUR: 'it returns false'. Refute it at one input. -/
def sendqArrivesWrong : ChangeSpec := { name := "sendqArrives", fn := fun _ => fun
  | [d1, d2, d3] => { results := [.lit (.bool false)], args := [d1, d2, d3] }
  | _ => none }
def SendqArrivesWrongFalsely : Prop := sendqArrivesRow.holds Try.pinned (OpenSpec.ofChange sendqArrivesWrong)

/-- 'turnpikelaw04.SendqPlays': WHATEVER THE INPUT: true; the input reads as it did. -/
def sendqPlaysSpec : ChangeSpec := { name := "sendqPlays", fn := fun _ => fun
  | [d1, d2] => { results := [.lit (.bool true)], args := [d1, d2] }
  | _ => none }
def sendqPlaysRow : OpenClaim := { program := "ytkjclgpecppokaa", sum := "9b3446813185cedefeaaec6a4722975e43858521e3d3e2578033efafd37f12ff", func := "turnpike/turnpikelaw04.SendqPlays", spec := "sendqPlays", inPlace := ["internal/bytealg.IndexByte"], unfollowed := true, recurses := true, apart := false }
def SendqPlaysSaid : Prop := sendqPlaysRow.holds Try.pinned (OpenSpec.ofChange sendqPlaysSpec)

/-- ITS FALSE NEIGHBOUR: 'it returns false'. Refute it at one input. -/
def sendqPlaysWrong : ChangeSpec := { name := "sendqPlays", fn := fun _ => fun
  | [d1, d2] => { results := [.lit (.bool false)], args := [d1, d2] }
  | _ => none }
def SendqPlaysWrongFalsely : Prop := sendqPlaysRow.holds Try.pinned (OpenSpec.ofChange sendqPlaysWrong)

/- THE SECOND FORM. 'bulk': how many values and letters a reading holds, each counted each time it is reached (what is shared counts as often as it is met; a slice's spare places count too). A statement '..UptoSaid' is the law's where the arguments, and the package variables that the reading takes, are together of bulk at most 1048576: NARROWER than '..Said'. Prove '..Said' where nothing that the law and all that it calls make is longer than what came in: it says more and counts as full. Else prove '..UptoSaid'. A law counts once. -/
mutual
def uptoBulk {H : Type} : DataW H → Nat
  | .lit (.string bytes) => bytes.length + 1
  | .lit _ => 1
  | .nil => 1
  | .ptr d => uptoBulk d + 1
  | .slice elems spare => uptoBulkAll elems + uptoBulkAll spare + 1
  | .agg parts => uptoBulkAll parts + 1
  | .iface _ d => uptoBulk d + 1
  | .map entries => uptoBulkEntries entries + 1
  | .held _ => 1
def uptoBulkAll {H : Type} : List (DataW H) → Nat
  | [] => 0
  | d :: r => uptoBulk d + uptoBulkAll r
def uptoBulkEntries {H : Type} : List (Lit × DataW H) → Nat
  | [] => 0
  | x :: r => uptoBulkEntry x + uptoBulkEntries r
def uptoBulkEntry {H : Type} : Lit × DataW H → Nat
  | (.string bytes, d) => bytes.length + uptoBulk d + 1
  | (_, d) => uptoBulk d + 1
 end
def uptoSmall : (H : Type) → List (DataW H) → Bool := fun _ ds => decide (uptoBulkAll ds ≤ 1048576)
def OpenSpec.upto (s : _root_.Go.ChangeSpec) : _root_.Go.OpenSpec := { _root_.Go.OpenSpec.ofChange s with cond := some uptoSmall }

/-- 'turnpikelaw04.SendqNews', WHERE WHAT IT READS IS OF BULK AT MOST 1048576: true; the input reads as it did. -/
def sendqNewsUptoRow : OpenClaim := { program := "ytkjclgpecppokaa", sum := "9b3446813185cedefeaaec6a4722975e43858521e3d3e2578033efafd37f12ff", func := "turnpike/turnpikelaw04.SendqNews", spec := "sendqNews", inPlace := ["internal/bytealg.IndexByte"], apart := false, narrowed := true }
def SendqNewsUptoSaid : Prop := sendqNewsUptoRow.holds Try.pinned (OpenSpec.upto sendqNewsSpec)

/-- 'turnpikelaw04.SendqLimits', WHERE WHAT IT READS IS OF BULK AT MOST 1048576: true; the input reads as it did. -/
def sendqLimitsUptoRow : OpenClaim := { program := "ytkjclgpecppokaa", sum := "9b3446813185cedefeaaec6a4722975e43858521e3d3e2578033efafd37f12ff", func := "turnpike/turnpikelaw04.SendqLimits", spec := "sendqLimits", inPlace := ["internal/bytealg.IndexByte"], unfollowed := true, recurses := true, apart := false, narrowed := true }
def SendqLimitsUptoSaid : Prop := sendqLimitsUptoRow.holds Try.pinned (OpenSpec.upto sendqLimitsSpec)

/-- 'turnpikelaw04.SendqKeeps', WHERE WHAT IT READS IS OF BULK AT MOST 1048576: true; the input reads as it did. -/
def sendqKeepsUptoRow : OpenClaim := { program := "ytkjclgpecppokaa", sum := "9b3446813185cedefeaaec6a4722975e43858521e3d3e2578033efafd37f12ff", func := "turnpike/turnpikelaw04.SendqKeeps", spec := "sendqKeeps", inPlace := ["internal/bytealg.IndexByte"], unfollowed := true, recurses := true, apart := false, narrowed := true }
def SendqKeepsUptoSaid : Prop := sendqKeepsUptoRow.holds Try.pinned (OpenSpec.upto sendqKeepsSpec)

/-- 'turnpikelaw04.SendqArrives', WHERE WHAT IT READS IS OF BULK AT MOST 1048576: true; the input reads as it did. -/
def sendqArrivesUptoRow : OpenClaim := { program := "ytkjclgpecppokaa", sum := "9b3446813185cedefeaaec6a4722975e43858521e3d3e2578033efafd37f12ff", func := "turnpike/turnpikelaw04.SendqArrives", spec := "sendqArrives", inPlace := ["internal/bytealg.IndexByte"], unfollowed := true, recurses := true, apart := false, narrowed := true }
def SendqArrivesUptoSaid : Prop := sendqArrivesUptoRow.holds Try.pinned (OpenSpec.upto sendqArrivesSpec)

/-- 'turnpikelaw04.SendqPlays', WHERE WHAT IT READS IS OF BULK AT MOST 1048576: true; the input reads as it did. -/
def sendqPlaysUptoRow : OpenClaim := { program := "ytkjclgpecppokaa", sum := "9b3446813185cedefeaaec6a4722975e43858521e3d3e2578033efafd37f12ff", func := "turnpike/turnpikelaw04.SendqPlays", spec := "sendqPlays", inPlace := ["internal/bytealg.IndexByte"], unfollowed := true, recurses := true, apart := false, narrowed := true }
def SendqPlaysUptoSaid : Prop := sendqPlaysUptoRow.holds Try.pinned (OpenSpec.upto sendqPlaysSpec)

end Rows
end Go.Proofs.Ytkjclgpecppokaa

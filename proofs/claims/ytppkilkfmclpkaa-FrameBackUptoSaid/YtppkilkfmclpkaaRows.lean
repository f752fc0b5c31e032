/-
  No cell of these rows narrows 'for every input' (looked for: loops, veiled, ifaces, maps, wideKeys, modest, calm, conditions, laid).
  DERIVED. THE GIVEN ROWS OF THIS SEAT. 7 by the template 'for every input the law returns true; each argument reads behind the call as it read before'; 0 by the template 'total and deterministic' (their statements: YtppkilkfmclpkaaTotals.lean).
  GIVEN WITH THE SEED: the statements are not yours to turn. If you find one false, say at which input.
  Laid BY PROGRAM, IN A SANDBOX (cutbox-rows.mjs): the forced cells as the released guide's own fill.sh prints them over the translation ecdd663ba6719f4d… (all of the seat's roots in one cut). By AI agents, Wed Nov 11 2026. No macro, syntax, notation, axiom, sorry.
-/
import Derived.Test.YtppkilkfmclpkaaChecked
import GoSem.Claim
import GoSem.ClaimJoined
import GoSem.ClaimMapViews
import Derived.JoinedTies
import Derived.KernelRfl
namespace Go.Proofs.Ytppkilkfmclpkaa
/- THE CELL 'sum', in the pinned program and in every row, IS THE sha256 OF THE DUMP (.gsa) THAT YtppkilkfmclpkaaProg.lean LOADS. Nothing in Lean hashes anything: it is a label: what it is worth is what the hold of that sum in a sandbox is worth. -/
noncomputable def Try.pinned : Pinned := { name := "ytppkilkfmclpkaa", sum := "ecdd663ba6719f4d5fc80f937798133f06d9a9827d96b56bdce4417b2e502d27", checked := Try.checked }
namespace Rows
def none {H : Type} : Left H := { results := [], args := [] }

/-- 'turnpikelaw05.FrameEncodes': WHATEVER THE INPUT: true; the input reads as it did. -/
def frameEncodesSpec : ChangeSpec := { name := "frameEncodes", fn := fun _ => fun
  | [d] => { results := [.lit (.bool true)], args := [d] }
  | _ => none }
def frameEncodesRow : OpenClaim := { program := "ytppkilkfmclpkaa", sum := "ecdd663ba6719f4d5fc80f937798133f06d9a9827d96b56bdce4417b2e502d27", func := "turnpike/turnpikelaw05.FrameEncodes", spec := "frameEncodes", unfollowed := true, recurses := true, apart := false }
def FrameEncodesSaid : Prop := frameEncodesRow.holds Try.pinned (OpenSpec.ofChange frameEncodesSpec)

/-- ITS FALSE NEIGHBOUR: 'it returns false'. Refute it at one input. -/
def frameEncodesWrong : ChangeSpec := { name := "frameEncodes", fn := fun _ => fun
  | [d] => { results := [.lit (.bool false)], args := [d] }
  | _ => none }
def FrameEncodesWrongFalsely : Prop := frameEncodesRow.holds Try.pinned (OpenSpec.ofChange frameEncodesWrong)

/-- 'turnpikelaw05.FrameDecodes': WHATEVER THE INPUT: true; the input reads as it did. -/
def frameDecodesSpec : ChangeSpec := { name := "frameDecodes", fn := fun _ => fun
  | [d] => { results := [.lit (.bool true)], args := [d] }
  | _ => none }
def frameDecodesRow : OpenClaim := { program := "ytppkilkfmclpkaa", sum := "ecdd663ba6719f4d5fc80f937798133f06d9a9827d96b56bdce4417b2e502d27", func := "turnpike/turnpikelaw05.FrameDecodes", spec := "frameDecodes", unfollowed := true, recurses := true, apart := false }
def FrameDecodesSaid : Prop := frameDecodesRow.holds Try.pinned (OpenSpec.ofChange frameDecodesSpec)

/-- ITS FALSE NEIGHBOUR: 'it returns false'. Refute it at one input. -/
def frameDecodesWrong : ChangeSpec := { name := "frameDecodes", fn := fun _ => fun
  | [d] => { results := [.lit (.bool false)], args := [d] }
  | _ => none }
def FrameDecodesWrongFalsely : Prop := frameDecodesRow.holds Try.pinned (OpenSpec.ofChange frameDecodesWrong)

/-- 'turnpikelaw05.FrameBack': WHATEVER THE INPUT: true; the input reads as it did. -/
def frameBackSpec : ChangeSpec := { name := "frameBack", fn := fun _ => fun
  | [d] => { results := [.lit (.bool true)], args := [d] }
  | _ => none }
def frameBackRow : OpenClaim := { program := "ytppkilkfmclpkaa", sum := "ecdd663ba6719f4d5fc80f937798133f06d9a9827d96b56bdce4417b2e502d27", func := "turnpike/turnpikelaw05.FrameBack", spec := "frameBack", unfollowed := true, recurses := true, apart := false }
def FrameBackSaid : Prop := frameBackRow.holds Try.pinned (OpenSpec.ofChange frameBackSpec)

/-- ITS FALSE NEIGHBOUR: 'it returns false'. Refute it at one input. -/
def frameBackWrong : ChangeSpec := { name := "frameBack", fn := fun _ => fun
  | [d] => { results := [.lit (.bool false)], args := [d] }
  | _ => none }
def FrameBackWrongFalsely : Prop := frameBackRow.holds Try.pinned (OpenSpec.ofChange frameBackWrong)

/-- 'turnpikelaw05.FrameOnce': WHATEVER THE INPUT: true; the input reads as it did. -/
def frameOnceSpec : ChangeSpec := { name := "frameOnce", fn := fun _ => fun
  | [d] => { results := [.lit (.bool true)], args := [d] }
  | _ => none }
def frameOnceRow : OpenClaim := { program := "ytppkilkfmclpkaa", sum := "ecdd663ba6719f4d5fc80f937798133f06d9a9827d96b56bdce4417b2e502d27", func := "turnpike/turnpikelaw05.FrameOnce", spec := "frameOnce", unfollowed := true, recurses := true, apart := false }
def FrameOnceSaid : Prop := frameOnceRow.holds Try.pinned (OpenSpec.ofChange frameOnceSpec)

/-- ITS FALSE NEIGHBOUR: 'it returns false'. Refute it at one input. -/
def frameOnceWrong : ChangeSpec := { name := "frameOnce", fn := fun _ => fun
  | [d] => { results := [.lit (.bool false)], args := [d] }
  | _ => none }
def FrameOnceWrongFalsely : Prop := frameOnceRow.holds Try.pinned (OpenSpec.ofChange frameOnceWrong)

/-- 'turnpikelaw05.FrameAhead': WHATEVER THE INPUT: true; the input reads as it did. -/
def frameAheadSpec : ChangeSpec := { name := "frameAhead", fn := fun _ => fun
  | [d] => { results := [.lit (.bool true)], args := [d] }
  | _ => none }
def frameAheadRow : OpenClaim := { program := "ytppkilkfmclpkaa", sum := "ecdd663ba6719f4d5fc80f937798133f06d9a9827d96b56bdce4417b2e502d27", func := "turnpike/turnpikelaw05.FrameAhead", spec := "frameAhead", unfollowed := true, recurses := true, apart := false }
def FrameAheadSaid : Prop := frameAheadRow.holds Try.pinned (OpenSpec.ofChange frameAheadSpec)

/-- ITS FALSE NEIGHBOUR: 'it returns false'. Refute it at one input. -/
def frameAheadWrong : ChangeSpec := { name := "frameAhead", fn := fun _ => fun
  | [d] => { results := [.lit (.bool false)], args := [d] }
  | _ => none }
def FrameAheadWrongFalsely : Prop := frameAheadRow.holds Try.pinned (OpenSpec.ofChange frameAheadWrong)

/-- 'turnpikelaw05.FrameMemory': WHATEVER THE INPUT: true; the input reads as it did. -/
def frameMemorySpec : ChangeSpec := { name := "frameMemory", fn := fun _ => fun
  | [d] => { results := [.lit (.bool true)], args := [d] }
  | _ => none }
def frameMemoryRow : OpenClaim := { program := "ytppkilkfmclpkaa", sum := "ecdd663ba6719f4d5fc80f937798133f06d9a9827d96b56bdce4417b2e502d27", func := "turnpike/turnpikelaw05.FrameMemory", spec := "frameMemory", unfollowed := true, recurses := true, apart := false }
def FrameMemorySaid : Prop := frameMemoryRow.holds Try.pinned (OpenSpec.ofChange frameMemorySpec)

/-- ITS FALSE NEIGHBOUR: 'it returns false'. Refute it at one input. -/
def frameMemoryWrong : ChangeSpec := { name := "frameMemory", fn := fun _ => fun
  | [d] => { results := [.lit (.bool false)], args := [d] }
  | _ => none }
def FrameMemoryWrongFalsely : Prop := frameMemoryRow.holds Try.pinned (OpenSpec.ofChange frameMemoryWrong)

/-- 'turnpikelaw05.FrameElicits': WHATEVER THE INPUT: true; the input reads as it did. -/
def frameElicitsSpec : ChangeSpec := { name := "frameElicits", fn := fun _ => fun
  | [d] => { results := [.lit (.bool true)], args := [d] }
  | _ => none }
def frameElicitsRow : OpenClaim := { program := "ytppkilkfmclpkaa", sum := "ecdd663ba6719f4d5fc80f937798133f06d9a9827d96b56bdce4417b2e502d27", func := "turnpike/turnpikelaw05.FrameElicits", spec := "frameElicits", unfollowed := true, recurses := true, apart := false }
def FrameElicitsSaid : Prop := frameElicitsRow.holds Try.pinned (OpenSpec.ofChange frameElicitsSpec)

/-- ITS FALSE NEIGHBOUR: 'it returns false'. Refute it at one input. -/
def frameElicitsWrong : ChangeSpec := { name := "frameElicits", fn := fun _ => fun
  | [d] => { results := [.lit (.bool false)], args := [d] }
  | _ => none }
def FrameElicitsWrongFalsely : Prop := frameElicitsRow.holds Try.pinned (OpenSpec.ofChange frameElicitsWrong)

/- THE SECOND FORM. 'bulk': how many values and letters a reading holds, each counted each time it is reached (what is shared counts as often as it is met; a slice's spare places count too). A statement '..UptoSaid' is the law's where the arguments, and the package variables that the reading takes, are together of bulk at most 1048576: NARROWER than '..Said'. Prove '..Said' where nothing that the law and all that it calls make is longer than what came in: it says more and counts as full. Else prove '..UptoSaid'. A law counts once. -/
mutual
def uptoBulk {H : Type} : DataW H → Nat
  | .lit (.string bytes) => bytes.length + 1
  | .lit _ => 1
  | .nil => 1
  | .ptr d => uptoBulk d + 1
  | .slice elems spare => uptoBulkAll elems + uptoBulkAll spare + 1
  | .agg parts => uptoBulkAll parts + 1
  | .iface _ d => uptoBulk d + 1
  | .map entries => uptoBulkEntries entries + 1
  | .held _ => 1
def uptoBulkAll {H : Type} : List (DataW H) → Nat
  | [] => 0
  | d :: r => uptoBulk d + uptoBulkAll r
def uptoBulkEntries {H : Type} : List (Lit × DataW H) → Nat
  | [] => 0
  | x :: r => uptoBulkEntry x + uptoBulkEntries r
def uptoBulkEntry {H : Type} : Lit × DataW H → Nat
  | (.string bytes, d) => bytes.length + uptoBulk d + 1
  | (_, d) => uptoBulk d + 1
 end
def uptoSmall : (H : Type) → List (DataW H) → Bool := fun _ ds => decide (uptoBulkAll ds ≤ 1048576)
def OpenSpec.upto (s : _root_.Go.ChangeSpec) : _root_.Go.OpenSpec := { _root_.Go.OpenSpec.ofChange s with cond := some uptoSmall }

/-- 'turnpikelaw05.FrameEncodes', WHERE WHAT IT READS IS OF BULK AT MOST 1048576: true; the input reads as it did. -/
def frameEncodesUptoRow : OpenClaim := { program := "ytppkilkfmclpkaa", sum := "ecdd663ba6719f4d5fc80f937798133f06d9a9827d96b56bdce4417b2e502d27", func := "turnpike/turnpikelaw05.FrameEncodes", spec := "frameEncodes", unfollowed := true, recurses := true, apart := false, narrowed := true }
def FrameEncodesUptoSaid : Prop := frameEncodesUptoRow.holds Try.pinned (OpenSpec.upto frameEncodesSpec)

/-- 'turnpikelaw05.FrameDecodes', WHERE WHAT IT READS IS OF BULK AT MOST 1048576: true; the input reads as it did. -/
def frameDecodesUptoRow : OpenClaim := { program := "ytppkilkfmclpkaa", sum := "ecdd663ba6719f4d5fc80f937798133f06d9a9827d96b56bdce4417b2e502d27", func := "turnpike/turnpikelaw05.FrameDecodes", spec := "frameDecodes", unfollowed := true, recurses := true, apart := false, narrowed := true }
def FrameDecodesUptoSaid : Prop := frameDecodesUptoRow.holds Try.pinned (OpenSpec.upto frameDecodesSpec)

/-- 'turnpikelaw05.FrameBack', WHERE WHAT IT READS IS OF BULK AT MOST 1048576: true; the input reads as it did. -/
def frameBackUptoRow : OpenClaim := { program := "ytppkilkfmclpkaa", sum := "ecdd663ba6719f4d5fc80f937798133f06d9a9827d96b56bdce4417b2e502d27", func := "turnpike/turnpikelaw05.FrameBack", spec := "frameBack", unfollowed := true, recurses := true, apart := false, narrowed := true }
def FrameBackUptoSaid : Prop := frameBackUptoRow.holds Try.pinned (OpenSpec.upto frameBackSpec)

/-- 'turnpikelaw05.FrameOnce', WHERE WHAT IT READS IS OF BULK AT MOST 1048576: true; the input reads as it did. -/
def frameOnceUptoRow : OpenClaim := { program := "ytppkilkfmclpkaa", sum := "ecdd663ba6719f4d5fc80f937798133f06d9a9827d96b56bdce4417b2e502d27", func := "turnpike/turnpikelaw05.FrameOnce", spec := "frameOnce", unfollowed := true, recurses := true, apart := false, narrowed := true }
def FrameOnceUptoSaid : Prop := frameOnceUptoRow.holds Try.pinned (OpenSpec.upto frameOnceSpec)

/-- 'turnpikelaw05.FrameAhead', WHERE WHAT IT READS IS OF BULK AT MOST 1048576: true; the input reads as it did. -/
def frameAheadUptoRow : OpenClaim := { program := "ytppkilkfmclpkaa", sum := "ecdd663ba6719f4d5fc80f937798133f06d9a9827d96b56bdce4417b2e502d27", func := "turnpike/turnpikelaw05.FrameAhead", spec := "frameAhead", unfollowed := true, recurses := true, apart := false, narrowed := true }
def FrameAheadUptoSaid : Prop := frameAheadUptoRow.holds Try.pinned (OpenSpec.upto frameAheadSpec)

/-- 'turnpikelaw05.FrameMemory', WHERE WHAT IT READS IS OF BULK AT MOST 1048576: true; the input reads as it did. -/
def frameMemoryUptoRow : OpenClaim := { program := "ytppkilkfmclpkaa", sum := "ecdd663ba6719f4d5fc80f937798133f06d9a9827d96b56bdce4417b2e502d27", func := "turnpike/turnpikelaw05.FrameMemory", spec := "frameMemory", unfollowed := true, recurses := true, apart := false, narrowed := true }
def FrameMemoryUptoSaid : Prop := frameMemoryUptoRow.holds Try.pinned (OpenSpec.upto frameMemorySpec)

/-- 'turnpikelaw05.FrameElicits', WHERE WHAT IT READS IS OF BULK AT MOST 1048576: true; the input reads as it did. -/
def frameElicitsUptoRow : OpenClaim := { program := "ytppkilkfmclpkaa", sum := "ecdd663ba6719f4d5fc80f937798133f06d9a9827d96b56bdce4417b2e502d27", func := "turnpike/turnpikelaw05.FrameElicits", spec := "frameElicits", unfollowed := true, recurses := true, apart := false, narrowed := true }
def FrameElicitsUptoSaid : Prop := frameElicitsUptoRow.holds Try.pinned (OpenSpec.upto frameElicitsSpec)

end Rows
end Go.Proofs.Ytppkilkfmclpkaa

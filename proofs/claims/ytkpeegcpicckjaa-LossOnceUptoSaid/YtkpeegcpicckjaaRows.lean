/-
  No cell of these rows narrows 'for every input' (looked for: loops, veiled, ifaces, maps, wideKeys, modest, calm, conditions, laid).
  DERIVED. THE GIVEN ROWS OF THIS SEAT. 4 by the template 'for every input the law returns true; each argument reads behind the call as it read before'; 0 by the template 'total and deterministic' (their statements: YtkpeegcpicckjaaTotals.lean).
  GIVEN WITH THE SEED: the statements are not yours to turn. If you find one false, say at which input.
  Laid BY PROGRAM, IN A SANDBOX (cutbox-rows.mjs): the forced cells as the released guide's own fill.sh prints them over the translation c47c194741046ebf… (all of the seat's roots in one cut). By AI agents, Wed Nov 11 2026. No macro, syntax, notation, axiom, sorry.
-/
import Derived.Test.YtkpeegcpicckjaaChecked
import GoSem.Claim
import GoSem.ClaimJoined
import GoSem.ClaimMapViews
import Derived.JoinedTies
import Derived.KernelRfl
namespace Go.Proofs.Ytkpeegcpicckjaa
/- THE CELL 'sum', in the pinned program and in every row, IS THE sha256 OF THE DUMP (.gsa) THAT YtkpeegcpicckjaaProg.lean LOADS. Nothing in Lean hashes anything: it is a label: what it is worth is what the hold of that sum in a sandbox is worth. -/
noncomputable def Try.pinned : Pinned := { name := "ytkpeegcpicckjaa", sum := "c47c194741046ebf16dc8953717ec3dbfc49b58a6bd4dd728a82ae2c0d81f2dc", checked := Try.checked }
namespace Rows
def none {H : Type} : Left H := { results := [], args := [] }

/-- 'turnpikelaw11.LossNews': WHATEVER THE INPUT: true; the input reads as it did. -/
def lossNewsSpec : ChangeSpec := { name := "lossNews", fn := fun _ => fun
  | [d] => { results := [.lit (.bool true)], args := [d] }
  | _ => none }
def lossNewsRow : OpenClaim := { program := "ytkpeegcpicckjaa", sum := "c47c194741046ebf16dc8953717ec3dbfc49b58a6bd4dd728a82ae2c0d81f2dc", func := "turnpike/turnpikelaw11.LossNews", spec := "lossNews", unfollowed := true, recurses := true, apart := false }
def LossNewsSaid : Prop := lossNewsRow.holds Try.pinned (OpenSpec.ofChange lossNewsSpec)

/-- ITS FALSE NEIGHBOUR: 'it returns false'. Refute it at one input. -/
def lossNewsWrong : ChangeSpec := { name := "lossNews", fn := fun _ => fun
  | [d] => { results := [.lit (.bool false)], args := [d] }
  | _ => none }
def LossNewsWrongFalsely : Prop := lossNewsRow.holds Try.pinned (OpenSpec.ofChange lossNewsWrong)

/-- 'turnpikelaw11.LossProbes': WHATEVER THE INPUT: true; the input reads as it did. -/
def lossProbesSpec : ChangeSpec := { name := "lossProbes", fn := fun _ => fun
  | [d1, d2, d3] => { results := [.lit (.bool true)], args := [d1, d2, d3] }
  | _ => none }
def lossProbesRow : OpenClaim := { program := "ytkpeegcpicckjaa", sum := "c47c194741046ebf16dc8953717ec3dbfc49b58a6bd4dd728a82ae2c0d81f2dc", func := "turnpike/turnpikelaw11.LossProbes", spec := "lossProbes", unfollowed := true, recurses := true, apart := false }
def LossProbesSaid : Prop := lossProbesRow.holds Try.pinned (OpenSpec.ofChange lossProbesSpec)

/-- ITS FALSE NEIGHBOUR: 'it returns false'. Refute it at one input. -/
def lossProbesWrong : ChangeSpec := { name := "lossProbes", fn := fun _ => fun
  | [d1, d2, d3] => { results := [.lit (.bool false)], args := [d1, d2, d3] }
  | _ => none }
def LossProbesWrongFalsely : Prop := lossProbesRow.holds Try.pinned (OpenSpec.ofChange lossProbesWrong)

/-- 'turnpikelaw11.LossBounds': WHATEVER THE INPUT: true; the input reads as it did. -/
def lossBoundsSpec : ChangeSpec := { name := "lossBounds", fn := fun _ => fun
  | [d] => { results := [.lit (.bool true)], args := [d] }
  | _ => none }
def lossBoundsRow : OpenClaim := { program := "ytkpeegcpicckjaa", sum := "c47c194741046ebf16dc8953717ec3dbfc49b58a6bd4dd728a82ae2c0d81f2dc", func := "turnpike/turnpikelaw11.LossBounds", spec := "lossBounds", unfollowed := true, recurses := true, apart := false }
def LossBoundsSaid : Prop := lossBoundsRow.holds Try.pinned (OpenSpec.ofChange lossBoundsSpec)

/-- ITS FALSE NEIGHBOUR: 'it returns false'. Refute it at one input. -/
def lossBoundsWrong : ChangeSpec := { name := "lossBounds", fn := fun _ => fun
  | [d] => { results := [.lit (.bool false)], args := [d] }
  | _ => none }
def LossBoundsWrongFalsely : Prop := lossBoundsRow.holds Try.pinned (OpenSpec.ofChange lossBoundsWrong)

/-- 'turnpikelaw11.LossOnce': WHATEVER THE INPUT: true; the input reads as it did. -/
def lossOnceSpec : ChangeSpec := { name := "lossOnce", fn := fun _ => fun
  | [d] => { results := [.lit (.bool true)], args := [d] }
  | _ => none }
def lossOnceRow : OpenClaim := { program := "ytkpeegcpicckjaa", sum := "c47c194741046ebf16dc8953717ec3dbfc49b58a6bd4dd728a82ae2c0d81f2dc", func := "turnpike/turnpikelaw11.LossOnce", spec := "lossOnce", unfollowed := true, recurses := true, apart := false }
def LossOnceSaid : Prop := lossOnceRow.holds Try.pinned (OpenSpec.ofChange lossOnceSpec)

/-- ITS FALSE NEIGHBOUR: 'it returns false'. Refute it at one input. -/
def lossOnceWrong : ChangeSpec := { name := "lossOnce", fn := fun _ => fun
  | [d] => { results := [.lit (.bool false)], args := [d] }
  | _ => none }
def LossOnceWrongFalsely : Prop := lossOnceRow.holds Try.pinned (OpenSpec.ofChange lossOnceWrong)

/- THE SECOND FORM. 'bulk': how many values and letters a reading holds, each counted each time it is reached (what is shared counts as often as it is met; a slice's spare places count too). A statement '..UptoSaid' is the law's where the arguments, and the package variables that the reading takes, are together of bulk at most 1048576: NARROWER than '..Said'. Prove '..Said' where nothing that the law and all that it calls make is longer than what came in: it says more and counts as full. Else prove '..UptoSaid'. A law counts once. -/
mutual
def uptoBulk {H : Type} : DataW H → Nat
  | .lit (.string bytes) => bytes.length + 1
  | .lit _ => 1
  | .nil => 1
  | .ptr d => uptoBulk d + 1
  | .slice elems spare => uptoBulkAll elems + uptoBulkAll spare + 1
  | .agg parts => uptoBulkAll parts + 1
  | .iface _ d => uptoBulk d + 1
  | .map entries => uptoBulkEntries entries + 1
  | .held _ => 1
def uptoBulkAll {H : Type} : List (DataW H) → Nat
  | [] => 0
  | d :: r => uptoBulk d + uptoBulkAll r
def uptoBulkEntries {H : Type} : List (Lit × DataW H) → Nat
  | [] => 0
  | x :: r => uptoBulkEntry x + uptoBulkEntries r
def uptoBulkEntry {H : Type} : Lit × DataW H → Nat
  | (.string bytes, d) => bytes.length + uptoBulk d + 1
  | (_, d) => uptoBulk d + 1
 end
def uptoSmall : (H : Type) → List (DataW H) → Bool := fun _ ds => decide (uptoBulkAll ds ≤ 1048576)
def OpenSpec.upto (s : _root_.Go.ChangeSpec) : _root_.Go.OpenSpec := { _root_.Go.OpenSpec.ofChange s with cond := some uptoSmall }

/-- 'turnpikelaw11.LossNews', WHERE WHAT IT READS IS OF BULK AT MOST 1048576: true; the input reads as it did. -/
def lossNewsUptoRow : OpenClaim := { program := "ytkpeegcpicckjaa", sum := "c47c194741046ebf16dc8953717ec3dbfc49b58a6bd4dd728a82ae2c0d81f2dc", func := "turnpike/turnpikelaw11.LossNews", spec := "lossNews", unfollowed := true, recurses := true, apart := false, narrowed := true }
def LossNewsUptoSaid : Prop := lossNewsUptoRow.holds Try.pinned (OpenSpec.upto lossNewsSpec)

/-- 'turnpikelaw11.LossProbes', WHERE WHAT IT READS IS OF BULK AT MOST 1048576: true; the input reads as it did. -/
def lossProbesUptoRow : OpenClaim := { program := "ytkpeegcpicckjaa", sum := "c47c194741046ebf16dc8953717ec3dbfc49b58a6bd4dd728a82ae2c0d81f2dc", func := "turnpike/turnpikelaw11.LossProbes", spec := "lossProbes", unfollowed := true, recurses := true, apart := false, narrowed := true }
def LossProbesUptoSaid : Prop := lossProbesUptoRow.holds Try.pinned (OpenSpec.upto lossProbesSpec)

/-- 'turnpikelaw11.LossBounds', WHERE WHAT IT READS IS OF BULK AT MOST 1048576: true; the input reads as it did. -/
def lossBoundsUptoRow : OpenClaim := { program := "ytkpeegcpicckjaa", sum := "c47c194741046ebf16dc8953717ec3dbfc49b58a6bd4dd728a82ae2c0d81f2dc", func := "turnpike/turnpikelaw11.LossBounds", spec := "lossBounds", unfollowed := true, recurses := true, apart := false, narrowed := true }
def LossBoundsUptoSaid : Prop := lossBoundsUptoRow.holds Try.pinned (OpenSpec.upto lossBoundsSpec)

/-- 'turnpikelaw11.LossOnce', WHERE WHAT IT READS IS OF BULK AT MOST 1048576: true; the input reads as it did. -/
def lossOnceUptoRow : OpenClaim := { program := "ytkpeegcpicckjaa", sum := "c47c194741046ebf16dc8953717ec3dbfc49b58a6bd4dd728a82ae2c0d81f2dc", func := "turnpike/turnpikelaw11.LossOnce", spec := "lossOnce", unfollowed := true, recurses := true, apart := false, narrowed := true }
def LossOnceUptoSaid : Prop := lossOnceUptoRow.holds Try.pinned (OpenSpec.upto lossOnceSpec)

end Rows
end Go.Proofs.Ytkpeegcpicckjaa

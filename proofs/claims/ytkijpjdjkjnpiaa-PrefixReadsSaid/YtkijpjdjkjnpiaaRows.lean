/-
  No cell of these rows narrows 'for every input' (looked for: loops, veiled, ifaces, maps, wideKeys, modest, calm, conditions, laid).
  DERIVED. THE GIVEN ROWS OF THIS SEAT. 11 by the template 'for every input the law returns true; each argument reads behind the call as it read before'; 0 by the template 'total and deterministic' (their statements: YtkijpjdjkjnpiaaTotals.lean).
  GIVEN WITH THE SEED: the statements are not yours to turn. If you find one false, say at which input.
  Laid BY PROGRAM, IN A SANDBOX (cutbox-rows.mjs): the forced cells as the released guide's own fill.sh prints them over the translation 9ad37bb1ed8bd121… (all of the seat's roots in one cut). By AI agents, Wed Nov 11 2026. No macro, syntax, notation, axiom, sorry.
-/
import Derived.Test.YtkijpjdjkjnpiaaChecked
import GoSem.Claim
import GoSem.ClaimJoined
import GoSem.ClaimMapViews
import Derived.JoinedTies
import Derived.KernelRfl
namespace Go.Proofs.Ytkijpjdjkjnpiaa
/- THE CELL 'sum', in the pinned program and in every row, IS THE sha256 OF THE DUMP (.gsa) THAT YtkijpjdjkjnpiaaProg.lean LOADS. Nothing in Lean hashes anything: it is a label: what it is worth is what the hold of that sum in a sandbox is worth. -/
noncomputable def Try.pinned : Pinned := { name := "ytkijpjdjkjnpiaa", sum := "9ad37bb1ed8bd121d682b4a072bb2bda4a291fdc13d1fe6f2a199b95d8338b28", checked := Try.checked }
namespace Rows
def none {H : Type} : Left H := { results := [], args := [] }

/-- 'turnpikelaw15.PrefixPuts': WHATEVER THE INPUT: true; the input reads as it did. -/
def prefixPutsSpec : ChangeSpec := { name := "prefixPuts", fn := fun _ => fun
  | [d1, d2, d3] => { results := [.lit (.bool true)], args := [d1, d2, d3] }
  | _ => none }
def prefixPutsRow : OpenClaim := { program := "ytkijpjdjkjnpiaa", sum := "9ad37bb1ed8bd121d682b4a072bb2bda4a291fdc13d1fe6f2a199b95d8338b28", func := "turnpike/turnpikelaw15.PrefixPuts", spec := "prefixPuts", apart := false }
def PrefixPutsSaid : Prop := prefixPutsRow.holds Try.pinned (OpenSpec.ofChange prefixPutsSpec)

/-- ITS FALSE NEIGHBOUR: 'it returns false'. Refute it at one input. -/
def prefixPutsWrong : ChangeSpec := { name := "prefixPuts", fn := fun _ => fun
  | [d1, d2, d3] => { results := [.lit (.bool false)], args := [d1, d2, d3] }
  | _ => none }
def PrefixPutsWrongFalsely : Prop := prefixPutsRow.holds Try.pinned (OpenSpec.ofChange prefixPutsWrong)

/-- 'turnpikelaw15.PrefixGets': WHATEVER THE INPUT: true; the input reads as it did. -/
def prefixGetsSpec : ChangeSpec := { name := "prefixGets", fn := fun _ => fun
  | [d1, d2, d3] => { results := [.lit (.bool true)], args := [d1, d2, d3] }
  | _ => none }
def prefixGetsRow : OpenClaim := { program := "ytkijpjdjkjnpiaa", sum := "9ad37bb1ed8bd121d682b4a072bb2bda4a291fdc13d1fe6f2a199b95d8338b28", func := "turnpike/turnpikelaw15.PrefixGets", spec := "prefixGets", apart := false }
def PrefixGetsSaid : Prop := prefixGetsRow.holds Try.pinned (OpenSpec.ofChange prefixGetsSpec)

/-- ITS FALSE NEIGHBOUR: 'it returns false'. Refute it at one input. -/
def prefixGetsWrong : ChangeSpec := { name := "prefixGets", fn := fun _ => fun
  | [d1, d2, d3] => { results := [.lit (.bool false)], args := [d1, d2, d3] }
  | _ => none }
def PrefixGetsWrongFalsely : Prop := prefixGetsRow.holds Try.pinned (OpenSpec.ofChange prefixGetsWrong)

/-- 'turnpikelaw15.PrefixLeast': WHATEVER THE INPUT: true; the input reads as it did. -/
def prefixLeastSpec : ChangeSpec := { name := "prefixLeast", fn := fun _ => fun
  | [d1, d2] => { results := [.lit (.bool true)], args := [d1, d2] }
  | _ => none }
def prefixLeastRow : OpenClaim := { program := "ytkijpjdjkjnpiaa", sum := "9ad37bb1ed8bd121d682b4a072bb2bda4a291fdc13d1fe6f2a199b95d8338b28", func := "turnpike/turnpikelaw15.PrefixLeast", spec := "prefixLeast", apart := false }
def PrefixLeastSaid : Prop := prefixLeastRow.holds Try.pinned (OpenSpec.ofChange prefixLeastSpec)

/-- ITS FALSE NEIGHBOUR: 'it returns false'. Refute it at one input. -/
def prefixLeastWrong : ChangeSpec := { name := "prefixLeast", fn := fun _ => fun
  | [d1, d2] => { results := [.lit (.bool false)], args := [d1, d2] }
  | _ => none }
def PrefixLeastWrongFalsely : Prop := prefixLeastRow.holds Try.pinned (OpenSpec.ofChange prefixLeastWrong)

/-- 'turnpikelaw14.HuffEncodes': WHATEVER THE INPUT: true; the input reads as it did. -/
def huffEncodesSpec : ChangeSpec := { name := "huffEncodes", fn := fun _ => fun
  | [d] => { results := [.lit (.bool true)], args := [d] }
  | _ => none }
def huffEncodesRow : OpenClaim := { program := "ytkijpjdjkjnpiaa", sum := "9ad37bb1ed8bd121d682b4a072bb2bda4a291fdc13d1fe6f2a199b95d8338b28", func := "turnpike/turnpikelaw14.HuffEncodes", spec := "huffEncodes", inPlace := ["internal/bytealg.IndexByteString"], apart := false }
def HuffEncodesSaid : Prop := huffEncodesRow.holds Try.pinned (OpenSpec.ofChange huffEncodesSpec)

/-- ITS FALSE NEIGHBOUR: 'it returns false'. Refute it at one input. -/
def huffEncodesWrong : ChangeSpec := { name := "huffEncodes", fn := fun _ => fun
  | [d] => { results := [.lit (.bool false)], args := [d] }
  | _ => none }
def HuffEncodesWrongFalsely : Prop := huffEncodesRow.holds Try.pinned (OpenSpec.ofChange huffEncodesWrong)

/-- 'turnpikelaw14.HuffSizes': WHATEVER THE INPUT: true; the input reads as it did. -/
def huffSizesSpec : ChangeSpec := { name := "huffSizes", fn := fun _ => fun
  | [d1, d2] => { results := [.lit (.bool true)], args := [d1, d2] }
  | _ => none }
def huffSizesRow : OpenClaim := { program := "ytkijpjdjkjnpiaa", sum := "9ad37bb1ed8bd121d682b4a072bb2bda4a291fdc13d1fe6f2a199b95d8338b28", func := "turnpike/turnpikelaw14.HuffSizes", spec := "huffSizes", inPlace := ["internal/bytealg.IndexByteString"], apart := false }
def HuffSizesSaid : Prop := huffSizesRow.holds Try.pinned (OpenSpec.ofChange huffSizesSpec)

/-- ITS FALSE NEIGHBOUR: 'it returns false'. Refute it at one input. -/
def huffSizesWrong : ChangeSpec := { name := "huffSizes", fn := fun _ => fun
  | [d1, d2] => { results := [.lit (.bool false)], args := [d1, d2] }
  | _ => none }
def HuffSizesWrongFalsely : Prop := huffSizesRow.holds Try.pinned (OpenSpec.ofChange huffSizesWrong)

/-- 'turnpikelaw14.HuffBegins': WHATEVER THE INPUT: true; the input reads as it did. -/
def huffBeginsSpec : ChangeSpec := { name := "huffBegins", fn := fun _ => fun
  | [d1, d2] => { results := [.lit (.bool true)], args := [d1, d2] }
  | _ => none }
def huffBeginsRow : OpenClaim := { program := "ytkijpjdjkjnpiaa", sum := "9ad37bb1ed8bd121d682b4a072bb2bda4a291fdc13d1fe6f2a199b95d8338b28", func := "turnpike/turnpikelaw14.HuffBegins", spec := "huffBegins", inPlace := ["internal/bytealg.IndexByteString"], apart := false }
def HuffBeginsSaid : Prop := huffBeginsRow.holds Try.pinned (OpenSpec.ofChange huffBeginsSpec)

/-- ITS FALSE NEIGHBOUR: 'it returns false'. Refute it at one input. -/
def huffBeginsWrong : ChangeSpec := { name := "huffBegins", fn := fun _ => fun
  | [d1, d2] => { results := [.lit (.bool false)], args := [d1, d2] }
  | _ => none }
def HuffBeginsWrongFalsely : Prop := huffBeginsRow.holds Try.pinned (OpenSpec.ofChange huffBeginsWrong)

/-- 'turnpikelaw14.HuffDecodes': WHATEVER THE INPUT: true; the input reads as it did. -/
def huffDecodesSpec : ChangeSpec := { name := "huffDecodes", fn := fun _ => fun
  | [d] => { results := [.lit (.bool true)], args := [d] }
  | _ => none }
def huffDecodesRow : OpenClaim := { program := "ytkijpjdjkjnpiaa", sum := "9ad37bb1ed8bd121d682b4a072bb2bda4a291fdc13d1fe6f2a199b95d8338b28", func := "turnpike/turnpikelaw14.HuffDecodes", spec := "huffDecodes", inPlace := ["internal/bytealg.IndexByteString"], apart := false }
def HuffDecodesSaid : Prop := huffDecodesRow.holds Try.pinned (OpenSpec.ofChange huffDecodesSpec)

/-- ITS FALSE NEIGHBOUR: 'it returns false'. Refute it at one input. -/
def huffDecodesWrong : ChangeSpec := { name := "huffDecodes", fn := fun _ => fun
  | [d] => { results := [.lit (.bool false)], args := [d] }
  | _ => none }
def HuffDecodesWrongFalsely : Prop := huffDecodesRow.holds Try.pinned (OpenSpec.ofChange huffDecodesWrong)

/-- 'turnpikelaw14.HuffBack': WHATEVER THE INPUT: true; the input reads as it did. -/
def huffBackSpec : ChangeSpec := { name := "huffBack", fn := fun _ => fun
  | [d] => { results := [.lit (.bool true)], args := [d] }
  | _ => none }
def huffBackRow : OpenClaim := { program := "ytkijpjdjkjnpiaa", sum := "9ad37bb1ed8bd121d682b4a072bb2bda4a291fdc13d1fe6f2a199b95d8338b28", func := "turnpike/turnpikelaw14.HuffBack", spec := "huffBack", inPlace := ["internal/bytealg.IndexByteString"], apart := false }
def HuffBackSaid : Prop := huffBackRow.holds Try.pinned (OpenSpec.ofChange huffBackSpec)

/-- ITS FALSE NEIGHBOUR: 'it returns false'. Refute it at one input. -/
def huffBackWrong : ChangeSpec := { name := "huffBack", fn := fun _ => fun
  | [d] => { results := [.lit (.bool false)], args := [d] }
  | _ => none }
def HuffBackWrongFalsely : Prop := huffBackRow.holds Try.pinned (OpenSpec.ofChange huffBackWrong)

/-- 'turnpikelaw14.HuffOnce': WHATEVER THE INPUT: true; the input reads as it did. -/
def huffOnceSpec : ChangeSpec := { name := "huffOnce", fn := fun _ => fun
  | [d] => { results := [.lit (.bool true)], args := [d] }
  | _ => none }
def huffOnceRow : OpenClaim := { program := "ytkijpjdjkjnpiaa", sum := "9ad37bb1ed8bd121d682b4a072bb2bda4a291fdc13d1fe6f2a199b95d8338b28", func := "turnpike/turnpikelaw14.HuffOnce", spec := "huffOnce", inPlace := ["internal/bytealg.IndexByteString"], apart := false }
def HuffOnceSaid : Prop := huffOnceRow.holds Try.pinned (OpenSpec.ofChange huffOnceSpec)

/-- ITS FALSE NEIGHBOUR: 'it returns false'. Refute it at one input. -/
def huffOnceWrong : ChangeSpec := { name := "huffOnce", fn := fun _ => fun
  | [d] => { results := [.lit (.bool false)], args := [d] }
  | _ => none }
def HuffOnceWrongFalsely : Prop := huffOnceRow.holds Try.pinned (OpenSpec.ofChange huffOnceWrong)

/-- 'turnpikelaw15.PrefixTexts': WHATEVER THE INPUT: true; the input reads as it did. -/
def prefixTextsSpec : ChangeSpec := { name := "prefixTexts", fn := fun _ => fun
  | [d1, d2, d3] => { results := [.lit (.bool true)], args := [d1, d2, d3] }
  | _ => none }
def prefixTextsRow : OpenClaim := { program := "ytkijpjdjkjnpiaa", sum := "9ad37bb1ed8bd121d682b4a072bb2bda4a291fdc13d1fe6f2a199b95d8338b28", func := "turnpike/turnpikelaw15.PrefixTexts", spec := "prefixTexts", inPlace := ["internal/bytealg.IndexByteString"], apart := false }
def PrefixTextsSaid : Prop := prefixTextsRow.holds Try.pinned (OpenSpec.ofChange prefixTextsSpec)

/-- ITS FALSE NEIGHBOUR: 'it returns false'. Refute it at one input. -/
def prefixTextsWrong : ChangeSpec := { name := "prefixTexts", fn := fun _ => fun
  | [d1, d2, d3] => { results := [.lit (.bool false)], args := [d1, d2, d3] }
  | _ => none }
def PrefixTextsWrongFalsely : Prop := prefixTextsRow.holds Try.pinned (OpenSpec.ofChange prefixTextsWrong)

/-- 'turnpikelaw15.PrefixReads': WHATEVER THE INPUT: true; the input reads as it did. -/
def prefixReadsSpec : ChangeSpec := { name := "prefixReads", fn := fun _ => fun
  | [d1, d2, d3] => { results := [.lit (.bool true)], args := [d1, d2, d3] }
  | _ => none }
def prefixReadsRow : OpenClaim := { program := "ytkijpjdjkjnpiaa", sum := "9ad37bb1ed8bd121d682b4a072bb2bda4a291fdc13d1fe6f2a199b95d8338b28", func := "turnpike/turnpikelaw15.PrefixReads", spec := "prefixReads", inPlace := ["internal/bytealg.IndexByteString"], apart := false }
def PrefixReadsSaid : Prop := prefixReadsRow.holds Try.pinned (OpenSpec.ofChange prefixReadsSpec)

/-- ITS FALSE NEIGHBOUR: 'it returns false'. Refute it at one input. -/
def prefixReadsWrong : ChangeSpec := { name := "prefixReads", fn := fun _ => fun
  | [d1, d2, d3] => { results := [.lit (.bool false)], args := [d1, d2, d3] }
  | _ => none }
def PrefixReadsWrongFalsely : Prop := prefixReadsRow.holds Try.pinned (OpenSpec.ofChange prefixReadsWrong)

/- THE SECOND FORM. 'bulk': how many values and letters a reading holds, each counted each time it is reached (what is shared counts as often as it is met; a slice's spare places count too). A statement '..UptoSaid' is the law's where the arguments, and the package variables that the reading takes, are together of bulk at most 1048576: NARROWER than '..Said'. Prove '..Said' where nothing that the law and all that it calls make is longer than what came in: it says more and counts as full. Else prove '..UptoSaid'. A law counts once. -/
mutual
def uptoBulk {H : Type} : DataW H → Nat
  | .lit (.string bytes) => bytes.length + 1
  | .lit _ => 1
  | .nil => 1
  | .ptr d => uptoBulk d + 1
  | .slice elems spare => uptoBulkAll elems + uptoBulkAll spare + 1
  | .agg parts => uptoBulkAll parts + 1
  | .iface _ d => uptoBulk d + 1
  | .map entries => uptoBulkEntries entries + 1
  | .held _ => 1
def uptoBulkAll {H : Type} : List (DataW H) → Nat
  | [] => 0
  | d :: r => uptoBulk d + uptoBulkAll r
def uptoBulkEntries {H : Type} : List (Lit × DataW H) → Nat
  | [] => 0
  | x :: r => uptoBulkEntry x + uptoBulkEntries r
def uptoBulkEntry {H : Type} : Lit × DataW H → Nat
  | (.string bytes, d) => bytes.length + uptoBulk d + 1
  | (_, d) => uptoBulk d + 1
 end
def uptoSmall : (H : Type) → List (DataW H) → Bool := fun _ ds => decide (uptoBulkAll ds ≤ 1048576)
def OpenSpec.upto (s : _root_.Go.ChangeSpec) : _root_.Go.OpenSpec := { _root_.Go.OpenSpec.ofChange s with cond := some uptoSmall }

/-- 'turnpikelaw15.PrefixPuts', WHERE WHAT IT READS IS OF BULK AT MOST 1048576: true; the input reads as it did. -/
def prefixPutsUptoRow : OpenClaim := { program := "ytkijpjdjkjnpiaa", sum := "9ad37bb1ed8bd121d682b4a072bb2bda4a291fdc13d1fe6f2a199b95d8338b28", func := "turnpike/turnpikelaw15.PrefixPuts", spec := "prefixPuts", apart := false, narrowed := true }
def PrefixPutsUptoSaid : Prop := prefixPutsUptoRow.holds Try.pinned (OpenSpec.upto prefixPutsSpec)

/-- 'turnpikelaw15.PrefixGets', WHERE WHAT IT READS IS OF BULK AT MOST 1048576: true; the input reads as it did. -/
def prefixGetsUptoRow : OpenClaim := { program := "ytkijpjdjkjnpiaa", sum := "9ad37bb1ed8bd121d682b4a072bb2bda4a291fdc13d1fe6f2a199b95d8338b28", func := "turnpike/turnpikelaw15.PrefixGets", spec := "prefixGets", apart := false, narrowed := true }
def PrefixGetsUptoSaid : Prop := prefixGetsUptoRow.holds Try.pinned (OpenSpec.upto prefixGetsSpec)

/-- 'turnpikelaw15.PrefixLeast', WHERE WHAT IT READS IS OF BULK AT MOST 1048576: true; the input reads as it did. -/
def prefixLeastUptoRow : OpenClaim := { program := "ytkijpjdjkjnpiaa", sum := "9ad37bb1ed8bd121d682b4a072bb2bda4a291fdc13d1fe6f2a199b95d8338b28", func := "turnpike/turnpikelaw15.PrefixLeast", spec := "prefixLeast", apart := false, narrowed := true }
def PrefixLeastUptoSaid : Prop := prefixLeastUptoRow.holds Try.pinned (OpenSpec.upto prefixLeastSpec)

/-- 'turnpikelaw14.HuffEncodes', WHERE WHAT IT READS IS OF BULK AT MOST 1048576: true; the input reads as it did. -/
def huffEncodesUptoRow : OpenClaim := { program := "ytkijpjdjkjnpiaa", sum := "9ad37bb1ed8bd121d682b4a072bb2bda4a291fdc13d1fe6f2a199b95d8338b28", func := "turnpike/turnpikelaw14.HuffEncodes", spec := "huffEncodes", inPlace := ["internal/bytealg.IndexByteString"], apart := false, narrowed := true }
def HuffEncodesUptoSaid : Prop := huffEncodesUptoRow.holds Try.pinned (OpenSpec.upto huffEncodesSpec)

/-- 'turnpikelaw14.HuffSizes', WHERE WHAT IT READS IS OF BULK AT MOST 1048576: true; the input reads as it did. -/
def huffSizesUptoRow : OpenClaim := { program := "ytkijpjdjkjnpiaa", sum := "9ad37bb1ed8bd121d682b4a072bb2bda4a291fdc13d1fe6f2a199b95d8338b28", func := "turnpike/turnpikelaw14.HuffSizes", spec := "huffSizes", inPlace := ["internal/bytealg.IndexByteString"], apart := false, narrowed := true }
def HuffSizesUptoSaid : Prop := huffSizesUptoRow.holds Try.pinned (OpenSpec.upto huffSizesSpec)

/-- 'turnpikelaw14.HuffBegins', WHERE WHAT IT READS IS OF BULK AT MOST 1048576: true; the input reads as it did. -/
def huffBeginsUptoRow : OpenClaim := { program := "ytkijpjdjkjnpiaa", sum := "9ad37bb1ed8bd121d682b4a072bb2bda4a291fdc13d1fe6f2a199b95d8338b28", func := "turnpike/turnpikelaw14.HuffBegins", spec := "huffBegins", inPlace := ["internal/bytealg.IndexByteString"], apart := false, narrowed := true }
def HuffBeginsUptoSaid : Prop := huffBeginsUptoRow.holds Try.pinned (OpenSpec.upto huffBeginsSpec)

/-- 'turnpikelaw14.HuffDecodes', WHERE WHAT IT READS IS OF BULK AT MOST 1048576: true; the input reads as it did. -/
def huffDecodesUptoRow : OpenClaim := { program := "ytkijpjdjkjnpiaa", sum := "9ad37bb1ed8bd121d682b4a072bb2bda4a291fdc13d1fe6f2a199b95d8338b28", func := "turnpike/turnpikelaw14.HuffDecodes", spec := "huffDecodes", inPlace := ["internal/bytealg.IndexByteString"], apart := false, narrowed := true }
def HuffDecodesUptoSaid : Prop := huffDecodesUptoRow.holds Try.pinned (OpenSpec.upto huffDecodesSpec)

/-- 'turnpikelaw14.HuffBack', WHERE WHAT IT READS IS OF BULK AT MOST 1048576: true; the input reads as it did. -/
def huffBackUptoRow : OpenClaim := { program := "ytkijpjdjkjnpiaa", sum := "9ad37bb1ed8bd121d682b4a072bb2bda4a291fdc13d1fe6f2a199b95d8338b28", func := "turnpike/turnpikelaw14.HuffBack", spec := "huffBack", inPlace := ["internal/bytealg.IndexByteString"], apart := false, narrowed := true }
def HuffBackUptoSaid : Prop := huffBackUptoRow.holds Try.pinned (OpenSpec.upto huffBackSpec)

/-- 'turnpikelaw14.HuffOnce', WHERE WHAT IT READS IS OF BULK AT MOST 1048576: true; the input reads as it did. -/
def huffOnceUptoRow : OpenClaim := { program := "ytkijpjdjkjnpiaa", sum := "9ad37bb1ed8bd121d682b4a072bb2bda4a291fdc13d1fe6f2a199b95d8338b28", func := "turnpike/turnpikelaw14.HuffOnce", spec := "huffOnce", inPlace := ["internal/bytealg.IndexByteString"], apart := false, narrowed := true }
def HuffOnceUptoSaid : Prop := huffOnceUptoRow.holds Try.pinned (OpenSpec.upto huffOnceSpec)

/-- 'turnpikelaw15.PrefixTexts', WHERE WHAT IT READS IS OF BULK AT MOST 1048576: true; the input reads as it did. -/
def prefixTextsUptoRow : OpenClaim := { program := "ytkijpjdjkjnpiaa", sum := "9ad37bb1ed8bd121d682b4a072bb2bda4a291fdc13d1fe6f2a199b95d8338b28", func := "turnpike/turnpikelaw15.PrefixTexts", spec := "prefixTexts", inPlace := ["internal/bytealg.IndexByteString"], apart := false, narrowed := true }
def PrefixTextsUptoSaid : Prop := prefixTextsUptoRow.holds Try.pinned (OpenSpec.upto prefixTextsSpec)

/-- 'turnpikelaw15.PrefixReads', WHERE WHAT IT READS IS OF BULK AT MOST 1048576: true; the input reads as it did. -/
def prefixReadsUptoRow : OpenClaim := { program := "ytkijpjdjkjnpiaa", sum := "9ad37bb1ed8bd121d682b4a072bb2bda4a291fdc13d1fe6f2a199b95d8338b28", func := "turnpike/turnpikelaw15.PrefixReads", spec := "prefixReads", inPlace := ["internal/bytealg.IndexByteString"], apart := false, narrowed := true }
def PrefixReadsUptoSaid : Prop := prefixReadsUptoRow.holds Try.pinned (OpenSpec.upto prefixReadsSpec)

end Rows
end Go.Proofs.Ytkijpjdjkjnpiaa

/- The witness world of layer 16: it holds what the rows list; the walks need nothing of it. -/
import Derived.Test.YtaeanhpdlkgghaaDoorQAw
import Derived.Test.YtaeanhpdlkgghaaDoorRows
import Derived.Deep.DeepHandedRow
import Derived.Deep.DeepWitnessRowRef
import Derived.Lib.LaidIn
import Derived.Lib.LaidTab
import Derived.Lib.LaidU8T
import Derived.LaidLaws
namespace Go.Proofs.YtaeanhpdlkgghaaDoor
open Go.RowKit

/-- the cells of a table as a row lists it -/
def flat1 : DataW Unit → List Value
  | .lit (.int k n) => [.int k n]
  | .agg l => l.map fun | .lit (.int k n) => .int k n | _ => undef
  | _ => []
def flat2 : DataW Unit → List Value
  | .agg l => l.flatMap flat1
  | _ => []
noncomputable def laidWorld (os : Os) : World :=
  let w0 := World.holding Tryd.prog os ⟨#[], #[], []⟩
  let put (h : Array Obj) (g : Nat) (cs : Array Value) : Array Obj := h.modify g fun
    | .cells _ t frozen => .cells cs t frozen
    | o => o
  let h6 := put w0.heap 1 (flat1 Rows.laid_unicode_utf8_first).toArray
  let h7 := put h6 2 (flat2 Rows.laid_unicode_utf8_acceptRanges).toArray
  { w0 with heap := h7 }
theorem laid2 (os : Os) (args : Array Value) : LaidIn Tryd.prog ((laidWorld os).forCall (fun _ _ => 0) ⟨#[], args, []⟩).memory [("unicode/utf8.acceptRanges", Rows.laid_unicode_utf8_acceptRanges), ("unicode/utf8.first", Rows.laid_unicode_utf8_first)] [1, 2] :=
  LaidIn.of_run _ 8 (by kernel_rfl) (by kernel_rfl) (by kernel_rfl) (by kernel_rfl)
theorem tabs2 {W : World} (_ : laidMet Tryd.prog [("unicode/utf8.acceptRanges", Rows.laid_unicode_utf8_acceptRanges), ("unicode/utf8.first", Rows.laid_unicode_utf8_first)] W) : True := trivial
end Go.Proofs.YtaeanhpdlkgghaaDoor

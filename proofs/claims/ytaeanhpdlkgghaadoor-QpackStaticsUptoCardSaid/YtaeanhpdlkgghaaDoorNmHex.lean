/- Texts put together. Plain. -/
import Derived.Test.YtaeanhpdlkgghaaDoorFldSame
namespace Go.Proofs.YtaeanhpdlkgghaaDoor
open Go.RowKit

theorem strB_append (a b : List UInt8) : strB a ++ strB b = strB (a ++ b) := by
  apply ByteArray.ext
  simp [strB]
def StrOf (w : World) (l : List UInt8) (e : Ending) (w' : World) : Prop := e = .returned (.string (strB l)) ∧ Below w.heap.size w w'
end Go.Proofs.YtaeanhpdlkgghaaDoor

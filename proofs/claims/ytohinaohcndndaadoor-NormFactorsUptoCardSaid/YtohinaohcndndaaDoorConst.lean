/- The bytes of a constant text, laid in memory. No condition on the program but its table of types. -/
import Derived.Test.YtohinaohcndndaaDoorRef01
import Derived.Lib.SlBytesConst
namespace Go.Proofs.YtohinaohcndndaaDoor
open Go.RowKit

/-- the world with the bytes of a constant text laid in it -/
def constW (w : World) (l : List UInt8) : World := w.alloc (.cells (bv l).toArray 5 (l.length, l.length + 1))
theorem constW_below {B : Nat} {w0 w : World} (h : Below B w0 w) (hB : B ≤ w.heap.size) (l : List UInt8) : Below B w0 (constW w l) := h.alloc hB _
theorem constW_size (w : World) (l : List UInt8) : (constW w l).heap.size = w.heap.size + 1 := by simp [constW]
theorem sl_const (w : World) (l : List UInt8) (h : l.length ≤ 1000000) : Sl (constW w l) (some ⟨w.heap.size, 0, none⟩) l.length l.length (bv l) := by
  refine ⟨bv_length l, Nat.le_refl _, by unfold maxLen; omega, by simp, fun _ => ⟨_, 0, rfl, fun i hi => ?_⟩⟩
  have hh : (constW w l).heap[w.heap.size]? = some (.cells (bv l).toArray 5 (l.length, l.length + 1)) := heap_alloc_new w _
  simp [World.cell?, hh]
theorem conv_const (w : World) (C : Array Value) (n c : Nat) : (convert 28 28 (.slice (some ⟨w.heap.size, 0, none⟩) n c)).run Tryd.prog (w.alloc (.cells C 5)) =
    .ok (.slice (some ⟨w.heap.size, 0, none⟩) n c) (w.alloc (.cells C 5 (C.size, C.size + 1))) :=
  Lib.run_convert_bytes_const (P := Tryd.prog) w 28 5 C n c Tryd.underlying28 Tryd.underlying5
end Go.Proofs.YtohinaohcndndaaDoor

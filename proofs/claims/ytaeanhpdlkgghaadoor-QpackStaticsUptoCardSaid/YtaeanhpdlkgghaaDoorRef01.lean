/- Contracts of turnpikeref01: Same, Copy. No condition but sizes. -/
import Derived.Test.YtaeanhpdlkgghaaDoorMem
namespace Go.Proofs.YtaeanhpdlkgghaaDoor
open Go.RowKit

theorem infoU8 : (Tryd.prog.info? 5).map (fun i => (i.zero, i.size, i.bytes)) = some (some (.int .u8 0), 1, 1) := by kernel_rfl
theorem tyU8 : ETy Tryd.prog 30 5 (.int .u8 0) 1 := by
  obtain ⟨i, hi, h1, h2, h3⟩ := info_parts infoU8
  exact ⟨Tryd.underlying30, ⟨i, hi, h1, h2, h3⟩, rfl⟩

theorem take_snoc (l : List UInt8) (k : Nat) (h : k < l.length) : l.take (k + 1) = l.take k ++ [l[k]] := by
  rw [List.take_succ_eq_append_getElem h]
end Go.Proofs.YtaeanhpdlkgghaaDoor

/- The witness world of layer 19: it holds the tables that the rows list; what the list gives the walks. -/
import Derived.Test.YtohinaohcndndaaDoorNmAwk
import Derived.Deep.DeepHandedRow
import Derived.Deep.DeepWitnessRowRef
import Derived.Lib.LaidIn
import Derived.Lib.LaidTab
import Derived.Lib.LaidU8T
namespace Go.Proofs.YtohinaohcndndaaDoor
open Go.RowKit

/-- the cells of a table as a row lists it -/
def flat1 : DataW Unit → List Value
  | .lit (.int k n) => [.int k n]
  | .agg l => l.map fun | .lit (.int k n) => .int k n | _ => undef
  | _ => []
def flat2 : DataW Unit → List Value
  | .agg l => l.flatMap flat1
  | _ => []
noncomputable def laidWorld (os : Os) : World :=
  let N := (World.settled Tryd.prog os).heap.size
  let w0 := World.holding Tryd.prog os ⟨#[.cells #[.string (strB [98, 121, 116, 101, 115, 46, 66, 117, 102, 102, 101, 114, 58, 32, 116, 111, 111, 32, 108, 97, 114, 103, 101])] 182], #[], []⟩
  let put (h : Array Obj) (g : Nat) (cs : Array Value) : Array Obj := h.modify g fun
    | .cells _ t frozen => .cells cs t frozen
    | o => o
  let h1 := put w0.heap 5 (flat1 Rows.laid_math_bits_deBruijn32tab).toArray
  let h2 := put h1 6 (flat1 Rows.laid_math_bits_deBruijn64tab).toArray
  let h3 := put h2 1 (flat1 Rows.laid_internal_strconv_uint64pow10).toArray
  let h4 := put h3 0 #[.iface 168 (.pointer (some ⟨N, 0, none⟩))]
  let h5 := put h4 2 (flat1 Rows.laid_unicode_utf8_first).toArray
  let h6 := put h5 3 (flat2 Rows.laid_unicode_utf8_acceptRanges).toArray
  { w0 with heap := h6 }
noncomputable abbrev N0 : Nat := (World.settled Tryd.prog default).heap.size
theorem laid4 (os : Os) (args : Array Value) : LaidIn Tryd.prog ((laidWorld os).forCall (fun _ _ => 0) ⟨#[], args, []⟩).memory [("math/bits.deBruijn32tab", Rows.laid_math_bits_deBruijn32tab), ("math/bits.deBruijn64tab", Rows.laid_math_bits_deBruijn64tab), ("internal/strconv.uint64pow10", Rows.laid_internal_strconv_uint64pow10), ("bytes.ErrTooLarge", Rows.laid_bytes_ErrTooLarge)] [5, 6, 1, 0, N0] :=
  LaidIn.of_run _ 8 (by kernel_rfl) (by kernel_rfl) (by kernel_rfl) (by kernel_rfl)
theorem gPow : Tryd.prog.globalNamed "internal/strconv.uint64pow10" = some 1 := by kernel_rfl
theorem gTz : Tryd.prog.globalNamed "math/bits.deBruijn64tab" = some 6 := by kernel_rfl
theorem tab_of {W : World} {nm : String} {k : IntKind} {zs : List Int} {t e : TypeId} {n g : Nat} (hg : Tryd.prog.globalNamed nm = some g) (hty : (Tryd.prog.globals[g]?).map (·.type) = some t) (ht : Tryd.prog.underlying t = some (.array n e)) (he : Tryd.prog.underlying e = some (.int k)) (hce : Tryd.prog.cellsOf e = 1) (hct : Tryd.prog.cellsOf t = n)
    (h : Lib.VarReads Tryd.prog W nm (Lib.tabData k zs)) : Lib.TabIs Tryd.prog W nm k zs := by
  obtain ⟨g', t', cs, fuel, p, hg', ht', hv, hd⟩ := h
  obtain rfl := Option.some.inj (hg.symm.trans hg')
  obtain rfl := Option.some.inj (hty.symm.trans ht')
  unfold Lib.TabIs
  rw [hv, ← Lib.cells_of_tab ht he hce hct hd]
theorem tz_of {W : World} {zs : List Int} (h : Lib.TabIs Tryd.prog W "math/bits.deBruijn64tab" .u8 zs) (hz : zs[15]? = some 4) : Tz W := by
  have hl : 15 < zs.length := (List.getElem?_eq_some_iff.1 hz).1
  have := h.cell gTz 15 hl
  rw [show zs.getD 15 0 = 4 by simp [List.getD, hz]] at this
  exact this
set_option maxRecDepth 100000 in
theorem tabs_of {W : World} (h2 : Lib.VarReads Tryd.prog W "math/bits.deBruijn64tab" Rows.laid_math_bits_deBruijn64tab) (h3 : Lib.VarReads Tryd.prog W "internal/strconv.uint64pow10" Rows.laid_internal_strconv_uint64pow10) : Tabs W :=
  ⟨tab_of (t := 147) (e := 134) gPow (by kernel_rfl) Tryd.underlying147 Tryd.underlying134 (by kernel_rfl) (by kernel_rfl) h3,
   tz_of (tab_of (t := 165) (e := 5) (k := .u8) (zs := (flat1 Rows.laid_math_bits_deBruijn64tab).map intOf) gTz (by kernel_rfl) Tryd.underlying165 Tryd.underlying5 (by kernel_rfl) (by kernel_rfl) h2) (by kernel_rfl)⟩
theorem tabs4 {W : World} (h : laidMet Tryd.prog [("math/bits.deBruijn32tab", Rows.laid_math_bits_deBruijn32tab), ("math/bits.deBruijn64tab", Rows.laid_math_bits_deBruijn64tab), ("internal/strconv.uint64pow10", Rows.laid_internal_strconv_uint64pow10), ("bytes.ErrTooLarge", Rows.laid_bytes_ErrTooLarge)] W) : Tabs W :=
  tabs_of (Lib.laidMet.reads h (.tail _ (.head _))) (Lib.laidMet.reads h (.tail _ (.tail _ (.head _))))
theorem laid6 (os : Os) (args : Array Value) : LaidIn Tryd.prog ((laidWorld os).forCall (fun _ _ => 0) ⟨#[], args, []⟩).memory [("math/bits.deBruijn32tab", Rows.laid_math_bits_deBruijn32tab), ("math/bits.deBruijn64tab", Rows.laid_math_bits_deBruijn64tab), ("internal/strconv.uint64pow10", Rows.laid_internal_strconv_uint64pow10), ("unicode/utf8.acceptRanges", Rows.laid_unicode_utf8_acceptRanges), ("bytes.ErrTooLarge", Rows.laid_bytes_ErrTooLarge), ("unicode/utf8.first", Rows.laid_unicode_utf8_first)] [5, 6, 1, 0, N0, 2, 3] :=
  LaidIn.of_run _ 8 (by kernel_rfl) (by kernel_rfl) (by kernel_rfl) (by kernel_rfl)
theorem tabs6 {W : World} (h : laidMet Tryd.prog [("math/bits.deBruijn32tab", Rows.laid_math_bits_deBruijn32tab), ("math/bits.deBruijn64tab", Rows.laid_math_bits_deBruijn64tab), ("internal/strconv.uint64pow10", Rows.laid_internal_strconv_uint64pow10), ("unicode/utf8.acceptRanges", Rows.laid_unicode_utf8_acceptRanges), ("bytes.ErrTooLarge", Rows.laid_bytes_ErrTooLarge), ("unicode/utf8.first", Rows.laid_unicode_utf8_first)] W) : Tabs W :=
  tabs_of (Lib.laidMet.reads h (.tail _ (.head _))) (Lib.laidMet.reads h (.tail _ (.tail _ (.head _))))
end Go.Proofs.YtohinaohcndndaaDoor

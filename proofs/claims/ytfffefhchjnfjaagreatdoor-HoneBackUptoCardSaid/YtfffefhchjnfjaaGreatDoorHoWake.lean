/- The law's awake; the witness world of layer 20. -/
import Derived.Test.YtfffefhchjnfjaaGreatDoorHoPlay
import Derived.Test.YtfffefhchjnfjaaGreatDoorFldOpen
import Derived.Deep.DeepHandedRow
import Derived.Deep.DeepWitnessRowRef
import Derived.Lib.LaidIn
import Derived.Lib.LaidTab
import Derived.Lib.LaidU8T
import Derived.LaidLaws
namespace Go.Proofs.YtfffefhchjnfjaaGreatDoor
open Go.RowKit

def awkL : List UInt8 := [72, 84, 84, 80, 47, 49, 46, 49, 32, 50, 48, 48, 32, 79, 75, 13, 10, 67, 111, 110, 116, 101, 110, 116, 45, 76, 101, 110, 103, 116, 104, 58, 32, 50, 13, 10, 13, 10, 104, 105]
def awkS : HSt := { s0 with b := awkL }
def awkN : HSt := ⟨[104, 105], false, 0, .length, false, false, 1, 2⟩
def awkF : List Fd := [⟨strB [99, 111, 110, 116, 101, 110, 116, 45, 108, 101, 110, 103, 116, 104], strB [50]⟩]
theorem awk_next : nextV false 100 awkS = (awkN, .ev (.head 200 awkF 1)) := by kernel_rfl
set_option maxRecDepth 100000 in
theorem awk_sl (w : World) : Sl (w.alloc (.cells #[.int .u8 72, .int .u8 84, .int .u8 84, .int .u8 80, .int .u8 47, .int .u8 49, .int .u8 46, .int .u8 49, .int .u8 32, .int .u8 50, .int .u8 48, .int .u8 48, .int .u8 32, .int .u8 79, .int .u8 75, .int .u8 13, .int .u8 10, .int .u8 67, .int .u8 111, .int .u8 110, .int .u8 116, .int .u8 101, .int .u8 110, .int .u8 116, .int .u8 45, .int .u8 76, .int .u8 101, .int .u8 110, .int .u8 103, .int .u8 116, .int .u8 104, .int .u8 58, .int .u8 32, .int .u8 50, .int .u8 13, .int .u8 10, .int .u8 13, .int .u8 10, .int .u8 104, .int .u8 105] 5 (40, 41))) (some ⟨w.heap.size, 0, none⟩) 40 40 (bv awkL) := by
  refine ⟨rfl, Nat.le_refl _, by decide, by simp, fun _ => ⟨w.heap.size, 0, rfl, fun i hi => ?_⟩⟩
  rw [Nat.zero_add, cell_of_row _ w.heap.size i _ 5 (40, 41) (heap_alloc_new w _)]
  have e : (#[.int .u8 72, .int .u8 84, .int .u8 84, .int .u8 80, .int .u8 47, .int .u8 49, .int .u8 46, .int .u8 49, .int .u8 32, .int .u8 50, .int .u8 48, .int .u8 48, .int .u8 32, .int .u8 79, .int .u8 75, .int .u8 13, .int .u8 10, .int .u8 67, .int .u8 111, .int .u8 110, .int .u8 116, .int .u8 101, .int .u8 110, .int .u8 116, .int .u8 45, .int .u8 76, .int .u8 101, .int .u8 110, .int .u8 103, .int .u8 116, .int .u8 104, .int .u8 58, .int .u8 32, .int .u8 50, .int .u8 13, .int .u8 10, .int .u8 13, .int .u8 10, .int .u8 104, .int .u8 105] : Array Value).toList = bv awkL := by kernel_rfl
  rw [← e]
  simp
set_option maxRecDepth 100000 in
theorem awk_kc (w : World) : (convert 23 23 (.slice (some ⟨w.heap.size, 0, none⟩) 40 40)).run Tryz.prog (w.alloc (.cells #[.int .u8 72, .int .u8 84, .int .u8 84, .int .u8 80, .int .u8 47, .int .u8 49, .int .u8 46, .int .u8 49, .int .u8 32, .int .u8 50, .int .u8 48, .int .u8 48, .int .u8 32, .int .u8 79, .int .u8 75, .int .u8 13, .int .u8 10, .int .u8 67, .int .u8 111, .int .u8 110, .int .u8 116, .int .u8 101, .int .u8 110, .int .u8 116, .int .u8 45, .int .u8 76, .int .u8 101, .int .u8 110, .int .u8 103, .int .u8 116, .int .u8 104, .int .u8 58, .int .u8 32, .int .u8 50, .int .u8 13, .int .u8 10, .int .u8 13, .int .u8 10, .int .u8 104, .int .u8 105] 5)) = .ok (.slice (some ⟨w.heap.size, 0, none⟩) 40 40) (w.alloc (.cells #[.int .u8 72, .int .u8 84, .int .u8 84, .int .u8 80, .int .u8 47, .int .u8 49, .int .u8 46, .int .u8 49, .int .u8 32, .int .u8 50, .int .u8 48, .int .u8 48, .int .u8 32, .int .u8 79, .int .u8 75, .int .u8 13, .int .u8 10, .int .u8 67, .int .u8 111, .int .u8 110, .int .u8 116, .int .u8 101, .int .u8 110, .int .u8 116, .int .u8 45, .int .u8 76, .int .u8 101, .int .u8 110, .int .u8 103, .int .u8 116, .int .u8 104, .int .u8 58, .int .u8 32, .int .u8 50, .int .u8 13, .int .u8 10, .int .u8 13, .int .u8 10, .int .u8 104, .int .u8 105] 5 (40, 41))) := by
  have h := Lib.run_convert_bytes_const (P := Tryz.prog) w 23 5 #[.int .u8 72, .int .u8 84, .int .u8 84, .int .u8 80, .int .u8 47, .int .u8 49, .int .u8 46, .int .u8 49, .int .u8 32, .int .u8 50, .int .u8 48, .int .u8 48, .int .u8 32, .int .u8 79, .int .u8 75, .int .u8 13, .int .u8 10, .int .u8 67, .int .u8 111, .int .u8 110, .int .u8 116, .int .u8 101, .int .u8 110, .int .u8 116, .int .u8 45, .int .u8 76, .int .u8 101, .int .u8 110, .int .u8 103, .int .u8 116, .int .u8 104, .int .u8 58, .int .u8 32, .int .u8 50, .int .u8 13, .int .u8 10, .int .u8 13, .int .u8 10, .int .u8 104, .int .u8 105] 40 40 Tryz.underlying23 Tryz.underlying5
  rw [show (#[.int .u8 72, .int .u8 84, .int .u8 84, .int .u8 80, .int .u8 47, .int .u8 49, .int .u8 46, .int .u8 49, .int .u8 32, .int .u8 50, .int .u8 48, .int .u8 48, .int .u8 32, .int .u8 79, .int .u8 75, .int .u8 13, .int .u8 10, .int .u8 67, .int .u8 111, .int .u8 110, .int .u8 116, .int .u8 101, .int .u8 110, .int .u8 116, .int .u8 45, .int .u8 76, .int .u8 101, .int .u8 110, .int .u8 103, .int .u8 116, .int .u8 104, .int .u8 58, .int .u8 32, .int .u8 50, .int .u8 13, .int .u8 10, .int .u8 13, .int .u8 10, .int .u8 104, .int .u8 105] : Array Value).size = 40 from by kernel_rfl] at h
  exact h
set_option maxRecDepth 100000 in
set_option maxHeartbeats 4000000 in
theorem awake20_any (w : World) (ht : Tab w) : Calls Tryz.prog 7 #[] w (BoolOf w true) := by
  have HT := Lib.hid ht
  have HNew := Lib.hid (new_any w false 100 (by decide))
  clear ht
  go_enter Tryz.func7, Tryz.ntmps7
  go_wp2_with fail
  refine HNew.out.mono ?_
  rintro e w1 ⟨g, hg1, rfl, hr1, hb1⟩
  have HG1 := Lib.hid hg1
  have kc := awk_kc w1
  obtain ⟨w2, hw2⟩ : ∃ w2, w2 = w1.alloc (.cells #[.int .u8 72, .int .u8 84, .int .u8 84, .int .u8 80, .int .u8 47, .int .u8 49, .int .u8 46, .int .u8 49, .int .u8 32, .int .u8 50, .int .u8 48, .int .u8 48, .int .u8 32, .int .u8 79, .int .u8 75, .int .u8 13, .int .u8 10, .int .u8 67, .int .u8 111, .int .u8 110, .int .u8 116, .int .u8 101, .int .u8 110, .int .u8 116, .int .u8 45, .int .u8 76, .int .u8 101, .int .u8 110, .int .u8 103, .int .u8 116, .int .u8 104, .int .u8 58, .int .u8 32, .int .u8 50, .int .u8 13, .int .u8 10, .int .u8 13, .int .u8 10, .int .u8 104, .int .u8 105] 5 (40, 41)) := ⟨_, rfl⟩
  obtain ⟨g2, hg2⟩ : ∃ g2, g2 = w1.heap.size := ⟨_, rfl⟩
  have hb2 : Below w1.heap.size w1 w2 := by rw [hw2]; exact (Below.refl _ w1).alloc (Nat.le_refl _) _
  have hs2 : Sl w2 (some ⟨g2, 0, none⟩) 40 40 (bv awkL) := by rw [hw2, hg2]; exact awk_sl w1
  have HFe := Lib.hid (feed_any w2 (hr1.below hb2) rfl hs2 (by decide))
  have HB2 : Hid (Below w.heap.size w w2) := Lib.hid (hb1.trans (hb2.mono hb1.size))
  have HR2 := Lib.hid (hr1.below hb2)
  clear hr1 hb1 hb2 hs2 hg1
  go_wp2_with fail
  rw [← hw2, ← hg2]
  clear hw2 hg2 kc
  refine HFe.out.mono ?_
  rintro e w3 ⟨rfl, bk3, hr3, hk3, hbk3⟩
  have HB3 : Hid (Below w.heap.size w w3) := Lib.hid (HB2.out.trans (hk3.below HB2.out.size (fun k e => e.elim (fun e => by rw [e]; exact HG1.out) (fun e => by cases e))))
  have hr3' : RdS w3 g false 100 bk3 awkS := hr3
  have hnx := next_any w3 (HT.out.below HB3.out) (tabG_of HT.out HG1.out) hr3' (by decide) (by decide)
  rw [awk_next] at hnx
  have HNx := Lib.hid hnx
  clear hnx hr3 hr3' hk3 hbk3
  go_wp2_with fail
  refine HNx.out.mono ?_
  rintro e w4 ⟨ex, he, hr4, hk4, hok4⟩
  obtain ⟨hex, _⟩ := hok4
  obtain ⟨fa, hfa⟩ : ∃ fa, fa = ex.fa := ⟨_, rfl⟩
  obtain ⟨fc, hfc⟩ : ∃ fc, fc = ex.fc := ⟨_, rfl⟩
  obtain ⟨fn, hfn⟩ : ∃ fn, fn = awkF.length := ⟨_, rfl⟩
  rw [← hfa, ← hfc, ← hfn] at hex
  clear hfa hfc hfn
  subst hex
  dsimp only [An.v] at he
  subst he
  have HB4 : Hid (Below w.heap.size w w4) := Lib.hid (HB3.out.trans (hk4.below HB3.out.size (fun k e => by rw [e]; exact HG1.out)))
  clear hr4 hk4
  obtain ⟨w5, hw5⟩ : ∃ w5, w5 = w4.alloc (.cells #[.int .i64 1, .int .i64 200, .slice fa fn fc, .int .i64 1, .slice none 0 0] 33) := ⟨_, rfl⟩
  obtain ⟨g5, hg5⟩ : ∃ g5, g5 = w4.heap.size := ⟨_, rfl⟩
  have hh5 : Has w5 g5 33 [.int .i64 1, .int .i64 200, .slice fa fn fc, .int .i64 1, .slice none 0 0] := by rw [hw5, hg5]; exact Has.new w4 33 _
  have HB5 : Hid (Below w.heap.size w w5) := Lib.hid (by rw [hw5]; exact HB4.out.alloc HB4.out.size _)
  have e0 := hh5.cell 0 rfl
  have e1 := hh5.cell 1 rfl
  have e3 := hh5.cell 3 rfl
  clear hh5
  go_upto_region 5 with fail
  rw [← hw5, ← hg5]
  clear hw5 hg5
  go_wp2
  go_ret
  exact ⟨rfl, HB5.out⟩
end Go.Proofs.YtfffefhchjnfjaaGreatDoor

namespace Go.Proofs.YtfffefhchjnfjaaGreatDoor
open Go.RowKit

/-- the cells of a table as a row lists it -/
def flat1 : DataW Unit → List Value
  | .lit (.int k n) => [.int k n]
  | .agg l => l.map fun | .lit (.int k n) => .int k n | _ => undef
  | _ => []
def flat2 : DataW Unit → List Value
  | .agg l => l.flatMap flat1
  | _ => []
noncomputable def laidWorld (os : Os) : World :=
  let N := (World.settled Tryz.prog os).heap.size
  let w0 := World.holding Tryz.prog os ⟨#[.cells #[.string (strB [118, 97, 108, 117, 101, 32, 111, 117, 116, 32, 111, 102, 32, 114, 97, 110, 103, 101])] 147, .cells #[.string (strB [105, 110, 118, 97, 108, 105, 100, 32, 115, 121, 110, 116, 97, 120])] 147], #[], []⟩
  let put (h : Array Obj) (g : Nat) (cs : Array Value) : Array Obj := h.modify g fun
    | .cells _ t frozen => .cells cs t frozen
    | o => o
  let h1 := put w0.heap 6 (flat1 Rows.laid_math_bits_deBruijn32tab).toArray
  let h2 := put h1 7 (flat1 Rows.laid_math_bits_deBruijn64tab).toArray
  let h3 := put h2 5 (flat1 Rows.laid_internal_strconv_uint64pow10).toArray
  let h4 := put h3 2 #[.iface 145 (.pointer (some ⟨N, 0, none⟩))]
  let h5 := put h4 1 #[.iface 145 (.pointer (some ⟨N + 1, 0, none⟩))]
  let h6 := put h5 3 (flat1 Rows.laid_unicode_utf8_first).toArray
  let h7 := put h6 4 (flat2 Rows.laid_unicode_utf8_acceptRanges).toArray
  { w0 with heap := h7 }
noncomputable abbrev N0 : Nat := (World.settled Tryz.prog default).heap.size
theorem laid7 (os : Os) (args : Array Value) : LaidIn Tryz.prog ((laidWorld os).forCall (fun _ _ => 0) ⟨#[], args, []⟩).memory [("math/bits.deBruijn32tab", Rows.laid_math_bits_deBruijn32tab), ("math/bits.deBruijn64tab", Rows.laid_math_bits_deBruijn64tab), ("internal/strconv.uint64pow10", Rows.laid_internal_strconv_uint64pow10), ("unicode/utf8.acceptRanges", Rows.laid_unicode_utf8_acceptRanges), ("strconv.ErrRange", Rows.laid_strconv_ErrRange), ("strconv.ErrSyntax", Rows.laid_strconv_ErrSyntax), ("unicode/utf8.first", Rows.laid_unicode_utf8_first)] [6, 7, 5, 2, N0, 1, N0 + 1, 3, 4] :=
  LaidIn.of_run _ 8 (by kernel_rfl) (by kernel_rfl) (by kernel_rfl) (by kernel_rfl)
theorem gEs : Tryz.prog.globalNamed "strconv.ErrSyntax" = some 1 := by kernel_rfl
theorem tabs7 {W : World} (h : laidMet Tryz.prog [("math/bits.deBruijn32tab", Rows.laid_math_bits_deBruijn32tab), ("math/bits.deBruijn64tab", Rows.laid_math_bits_deBruijn64tab), ("internal/strconv.uint64pow10", Rows.laid_internal_strconv_uint64pow10), ("unicode/utf8.acceptRanges", Rows.laid_unicode_utf8_acceptRanges), ("strconv.ErrRange", Rows.laid_strconv_ErrRange), ("strconv.ErrSyntax", Rows.laid_strconv_ErrSyntax), ("unicode/utf8.first", Rows.laid_unicode_utf8_first)] W) (hsh : W.ShapedOpen Tryz.prog) : Tab W := by
  refine ⟨Tryz.laysM185.s1_3 W hsh, ?_⟩
  obtain ⟨g, t, cs, fuel, p, hg, ht, hv, hd⟩ := Lib.laidMet.reads h (.tail _ (.tail _ (.tail _ (.tail _ (.tail _ (.head _))))))
  obtain rfl := Option.some.inj (gEs.symm.trans hg)
  have ht' : (Tryz.prog.globals[1]?).map (·.type) = some 97 := by kernel_rfl
  obtain rfl := Option.some.inj (ht'.symm.trans ht)
  obtain ⟨f1, u, v, hcs, _, _⟩ := iface_of_trod Tryz.underlying97 (show DataW.trod (fun _ => ()) Tryz.prog W 0 (fun _ => true) false fuel 97 cs.toList = some (.iface _ _, p) from hd)
  have hc := World.var?_cell gEs hv 0
  have e : cs = #[.iface u v] := by cases cs; simp at hcs; rw [hcs]
  rw [e] at hc
  exact ⟨.iface u v, by simpa using hc, .inr ⟨u, v, rfl⟩⟩
end Go.Proofs.YtfffefhchjnfjaaGreatDoor

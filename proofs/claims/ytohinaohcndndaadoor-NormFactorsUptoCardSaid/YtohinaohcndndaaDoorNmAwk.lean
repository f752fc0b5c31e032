/- The awake of layer 19 answers true. Premises: the table of powers of ten, one cell of deBruijn64tab. -/
import Derived.Test.YtohinaohcndndaaDoorNmHead
import Derived.Test.YtohinaohcndndaaDoorConst
namespace Go.Proofs.YtohinaohcndndaaDoor
open Go.RowKit

/-- the tables that the walks of layer 19 read -/
structure Tabs (w : World) : Prop where
  pow : Lib.TabIs Tryd.prog w "internal/strconv.uint64pow10" .u64 Lib.pow10Tab
  tz : Tz w
theorem Tabs.below {w w' : World} (h : Tabs w) (hb : Below w.heap.size w w') : Tabs w' := ⟨tab_below h.pow hb, h.tz.below hb⟩
def awR : Rq := ⟨strB [71, 69, 84], strB [], strB [97, 46, 98], strB [47, 120], [], -1⟩
def awH : List UInt8 := [71, 69, 84, 32, 47, 120, 32, 72, 84, 84, 80, 47, 49, 46, 49, 13, 10, 104, 111, 115, 116, 58, 32, 97, 46, 98, 13, 10, 118, 105, 97, 58, 32, 51, 32, 116, 117, 114, 110, 112, 105, 107, 101, 13, 10, 13, 10]
theorem awHead : headL awR false = (awH, 0) := by decide +kernel
theorem awChunk : chunkL [104, 101, 108, 108, 111] = ([53, 13, 10, 104, 101, 108, 108, 111, 13, 10], 0) := by decide +kernel
set_option maxRecDepth 100000 in
theorem awake19_any (w : World) (ht : Tabs w) : Calls Tryd.prog 10 #[] w (BoolOf w true) := by
  have HT := Lib.hid ht
  have HH := Lib.hid (head_any w awR (a := none) (c := 0) ⟨rfl, Nat.le_refl _, Nat.zero_le _, fun h => absurd h (Nat.lt_irrefl _)⟩ false (by decide) (by decide) (by decide) (by rw [awHead]; decide) ht.pow)
  rw [awHead] at HH
  clear ht
  go_enter Tryd.func10, Tryd.ntmps10
  go_wp2_with fail
  refine HH.out.mono ?_
  rintro e w2 ⟨a2, c2, rfl, ho2, hb2⟩
  have HS2 := Lib.hid (own_sl ho2)
  have HB2 := Lib.hid hb2
  have HT2 := Lib.hid (HT.out.below hb2)
  clear ho2 hb2
  have hcv := conv_const
  have hc1 : Below w2.heap.size w2 (constW w2 [104, 101, 108, 108, 111]) := constW_below (Below.refl _ _) (Nat.le_refl _) _
  have HC := Lib.hid (chunk_any (constW w2 [104, 101, 108, 108, 111]) (sl_const w2 [104, 101, 108, 108, 111] (by decide)) (HT2.out.below hc1).tz)
  rw [awChunk] at HC
  have HB3 : Hid (Below w.heap.size w (constW w2 [104, 101, 108, 108, 111])) := Lib.hid (HB2.out.trans (hc1.mono HB2.out.size))
  have HS3 := Lib.hid (HS2.out.below hc1)
  clear hc1
  go_wp2_with fail
  refine HC.out.mono ?_
  rintro e w4 ⟨a4, c4, rfl, ho4, hb4⟩
  have HS4 := Lib.hid (own_sl ho4)
  have HS24 := Lib.hid (HS3.out.below hb4)
  have HB4 : Hid (Below w.heap.size w w4) := Lib.hid (HB3.out.trans (hb4.mono HB3.out.size))
  clear ho4 hb4
  have k1 := run_str (P := Tryd.prog) HS24.out 28 5 9 Tryd.underlying28 Tryd.underlying5 Tryd.underlying9
  have k2 : (convert 28 9 (.slice a4 10 c4)).run Tryd.prog w4 = .ok (.string (strB [53, 13, 10, 104, 101, 108, 108, 111, 13, 10])) w4 := run_str (P := Tryd.prog) HS4.out 28 5 9 Tryd.underlying28 Tryd.underlying5 Tryd.underlying9
  have e1 : (strB awH).toList = [71, 69, 84, 32, 47, 120, 32, 72, 84, 84, 80, 47, 49, 46, 49, 13, 10, 104, 111, 115, 116, 58, 32, 97, 46, 98, 13, 10, 118, 105, 97, 58, 32, 51, 32, 116, 117, 114, 110, 112, 105, 107, 101, 13, 10, 13, 10] := by rw [ByteArray.toList_eq]; exact strB_toList awH
  have e2 : (strB [53, 13, 10, 104, 101, 108, 108, 111, 13, 10]).toList = [53, 13, 10, 104, 101, 108, 108, 111, 13, 10] := by rw [ByteArray.toList_eq]; exact strB_toList _
  go_wp2
  go_ret
  exact ⟨rfl, HB4.out⟩
end Go.Proofs.YtohinaohcndndaaDoor

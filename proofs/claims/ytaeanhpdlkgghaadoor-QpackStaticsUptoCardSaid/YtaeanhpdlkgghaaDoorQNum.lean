/- qpack.num, text, size. Premises: the sizes. -/
import Derived.Test.YtaeanhpdlkgghaaDoorPfxText
import Derived.Test.YtaeanhpdlkgghaaDoorFldOpen
import Derived.Test.YtaeanhpdlkgghaaDoorNmHex
namespace Go.Proofs.YtaeanhpdlkgghaaDoor
open Go.RowKit

/-- bytes of one's own, returned -/
def RetO (w : World) (l : List UInt8) (e : Ending) (w' : World) : Prop := ∃ a c, e = .returned (.slice a l.length c) ∧ w'.ownsRow w.heap.size 5 1 (.slice a l.length c) l.length (bv l) ∧ Below w.heap.size w w'
def IntOf (w : World) (z : Int) (e : Ending) (w' : World) : Prop := e = .returned (.int .i64 z) ∧ Below w.heap.size w w'
set_option maxRecDepth 100000 in
theorem num_any (w : World) (n bits first : Int) (f1 : 0 ≤ first) (f2 : first ≤ 255) : Calls Tryd.prog 29 #[.int .i64 n, .int .i64 bits, .int .u8 first] w (RetO w (putR n bits first).1) := by
  have HP := Lib.hid (put_any n bits first w f1 f2)
  go_enter Tryd.func29, Tryd.ntmps29
  clear f1 f2
  go_wp2_with fail
  refine HP.out.mono ?_
  rintro e w2 ⟨a, c, rfl, ho, hb⟩
  have HO := Lib.hid ho
  have HB := Lib.hid hb
  clear ho hb
  go_wp2
  go_ret
  exact ⟨a, c, rfl, HO.out, HB.out⟩
set_option maxRecDepth 100000 in
theorem text_any (w : World) (l : List UInt8) (bits first : Int) (f1 : 0 ≤ first) (f2 : first ≤ 255) : Calls Tryd.prog 36 #[.string (strB l), .int .i64 bits, .int .u8 first] w (RetO w (putTextR l bits first).1) := by
  have HP := Lib.hid (ptext_any w l bits first f1 f2)
  clear f1 f2
  go_enter Tryd.func36, Tryd.ntmps36
  go_wp2_with fail
  refine HP.out.mono ?_
  rintro e w2 ⟨a, c, rfl, ho, hb⟩
  have HO := Lib.hid ho
  have HB := Lib.hid hb
  clear ho hb
  go_wp2
  go_ret
  exact ⟨a, c, rfl, HO.out, HB.out⟩
/-- an entry's size -/
def fz (f : Fd) : Nat := 32 + f.nm.size + f.va.size
theorem szj {a b : Nat} (h : a + b ≤ 1099511627776) : RowKit.wrap64 (32 + (a : Int)) = 32 + (a : Int) ∧ IntKind.i64.wrap (32 + (a : Int)) = 32 + (a : Int) ∧ RowKit.wrap64 (32 + (a : Int) + (b : Int)) = ((32 + a + b : Nat) : Int) ∧ IntKind.i64.wrap (32 + (a : Int) + (b : Int)) = ((32 + a + b : Nat) : Int) := by
  simp only [IntKind.wrap_i64]; unfold RowKit.wrap64; omega
set_option maxRecDepth 100000 in
theorem size1_any (w : World) (nm va : ByteArray) (h : nm.size + va.size ≤ 1099511627776) : Calls Tryd.prog 31 #[.agg #[.string nm, .string va]] w (IntOf w ((fz ⟨nm, va⟩ : Nat) : Int)) := by
  obtain ⟨w1, hw1⟩ : ∃ w1, w1 = w.alloc (.cells #[.string nm, .string va] 23) := ⟨_, rfl⟩
  obtain ⟨g1, hg1⟩ : ∃ g1, g1 = w.heap.size := ⟨_, rfl⟩
  have hh : Has w1 g1 23 [.string nm, .string va] := by rw [hw1, hg1]; exact Has.new w 23 _
  have HB : Hid (Below w.heap.size w w1) := Lib.hid (by rw [hw1]; exact (Below.refl _ w).alloc (Nat.le_refl _) _)
  have c0 := hh.cell 0 rfl
  have c1 := hh.cell 1 rfl
  obtain ⟨a, ha⟩ : ∃ a, a = nm.size := ⟨_, rfl⟩
  obtain ⟨b, hb⟩ : ∃ b, b = va.size := ⟨_, rfl⟩
  have HE : Hid (fz ⟨nm, va⟩ = 32 + a + b) := Lib.hid (by unfold fz; rw [ha, hb])
  rw [← ha, ← hb] at h
  obtain ⟨z1, z2, z3, z4⟩ := szj h
  have s1 := ha.symm
  have s2 := hb.symm
  clear ha hb h hh
  go_enter Tryd.func31, Tryd.ntmps31
  go_upto_region 1 with fail
  rw [← hw1, ← hg1]
  clear hw1 hg1
  go_wp2
  go_ret
  rw [HE.out]
  exact ⟨rfl, HB.out⟩
end Go.Proofs.YtaeanhpdlkgghaaDoor

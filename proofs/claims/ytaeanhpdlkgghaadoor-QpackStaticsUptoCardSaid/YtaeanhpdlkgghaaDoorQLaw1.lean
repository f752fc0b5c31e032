/- QpackStatics answers true. No condition. -/
import Derived.Test.YtaeanhpdlkgghaaDoorQAw
namespace Go.Proofs.YtaeanhpdlkgghaaDoor
open Go.RowKit

set_option maxRecDepth 100000 in
theorem statics_any (w : World) (n : Int) (hlo : -9223372036854775808 ≤ n) (hhi : n ≤ 9223372036854775807) : Calls Tryd.prog 3 #[.int .i64 n] w (BoolOf w true) := by
  have HS := Lib.hid (static_any w n hlo hhi)
  have HR := Lib.hid (fun w' => rstatic_any w' n)
  rcases hv : staticV n with ⟨⟨A, B⟩, ok⟩
  rw [hv] at HS HR
  clear hlo hhi hv
  go_enter Tryd.func3, Tryd.ntmps3
  go_wp2_with fail
  refine HS.out.mono ?_
  rintro e w1 ⟨rfl, hb1⟩
  obtain ⟨w2, hw2⟩ : ∃ w2, w2 = w1.alloc (.cells #[.string A, .string B] 23) := ⟨_, rfl⟩
  obtain ⟨g2, hg2⟩ : ∃ g2, g2 = w1.heap.size := ⟨_, rfl⟩
  have hb2 : Below w1.heap.size w1 w2 := by rw [hw2]; exact (Below.refl _ w1).alloc (Nat.le_refl _) _
  have HH2 : Hid (Has w2 g2 23 [.string A, .string B]) := Lib.hid (by rw [hw2, hg2]; exact Has.new w1 23 _)
  have HB2 : Hid (Below w.heap.size w w2) := Lib.hid (hb1.trans (hb2.mono hb1.size))
  clear hb1 hb2 HS
  go_upto_region 2 with fail
  rw [← hw2, ← hg2]
  clear hw2 hg2
  go_wp2_with fail
  refine (HR.out w2).mono ?_
  rintro e w3 ⟨rfl, hb3⟩
  obtain ⟨w4, hw4⟩ : ∃ w4, w4 = w3.alloc (.cells #[.string A, .string B] 23) := ⟨_, rfl⟩
  obtain ⟨g4, hg4⟩ : ∃ g4, g4 = w3.heap.size := ⟨_, rfl⟩
  have hb4 : Below w3.heap.size w3 w4 := by rw [hw4]; exact (Below.refl _ w3).alloc (Nat.le_refl _) _
  have hh4 : Has w4 g4 23 [.string A, .string B] := by rw [hw4, hg4]; exact Has.new w3 23 _
  have hb24 : Below w2.heap.size w2 w4 := hb3.trans (hb4.mono hb3.size)
  have hh2 : Has w4 g2 23 [.string A, .string B] := HH2.out.kept (Kept.of_below (X := none') hb24) (fun h => h)
  have HB4 : Hid (Below w.heap.size w w4) := Lib.hid (HB2.out.trans (hb24.mono HB2.out.size))
  have c0 := hh2.cell 0 rfl
  have c1 := hh2.cell 1 rfl
  have d0 := hh4.cell 0 rfl
  have d1 := hh4.cell 1 rfl
  have HA := Lib.hid (awake16_any w4)
  clear hb3 hb4 hh4 hb24 hh2 HR
  go_upto_region 3 with fail
  rw [← hw4, ← hg4]
  clear hw4 hg4
  go_wp2_with fail
  refine HA.out.mono ?_
  rintro e w5 ⟨rfl, hb5⟩
  have HB5 : Hid (Below w.heap.size w w5) := Lib.hid (HB4.out.trans (hb5.mono HB4.out.size))
  clear hb5
  go_wp2
  go_ret
  exact ⟨ret_bool (by simp), HB5.out⟩
theorem statics_go (w : World) (_ : True) (n : Int) (hlo : -9223372036854775808 ≤ n) (hhi : n ≤ 9223372036854775807) : Calls Tryd.prog 3 #[.int .i64 n] w (BoolOf w true) := statics_any w n hlo hhi
end Go.Proofs.YtaeanhpdlkgghaaDoor

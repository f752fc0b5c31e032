/- PrefixTexts answers true. -/
import Derived.Test.YtkijpjdjkjnpiaaPfxRefText
import Derived.Test.YtkijpjdjkjnpiaaPfxLaw1
namespace Go.Proofs.Ytkijpjdjkjnpiaa
open Go.RowKit

set_option maxRecDepth 100000 in
set_option maxHeartbeats 1000000 in
theorem texts_any (w : World) (s : ByteArray) (_ : s.size ≤ 140737488351232) (bits : Int) (_ : -9223372036854775808 ≤ bits) (_ : bits ≤ 9223372036854775807) (first : Int) (f1 : 0 ≤ first) (f2 : first ≤ 255) :
    Calls Try.prog 12 #[.string s, .int .i64 bits, .int .u8 first] w fun e w' => e = .returned (.bool true) ∧ Below w.heap.size w w' := by
  obtain ⟨l, rfl⟩ : ∃ l, s = strB l := ⟨s.data.toList, (strB_of s).symm⟩
  have HP := Lib.hid (fun w => ptext_any w l bits first f1 f2)
  have HQ := Lib.hid (fun w => rtext_any w l bits first f1 f2)
  generalize putTextR l bits first = r at HP HQ
  go_enter Try.func12, Try.ntmps12
  go_wp2_with fail
  refine (HP.out w).mono ?_
  rintro e w1 ⟨a1, c1, rfl, ho1, hb1⟩
  go_wp2_with fail
  refine (HQ.out w1).mono ?_
  rintro e w2 ⟨a2, c2, rfl, ho2, hb2⟩
  go_wp2_with fail
  refine (awake15_any _).mono ?_
  rintro e w3 ⟨rfl, hb3⟩
  have s1 := ((own_sl ho1).below hb2).below hb3
  have s2 := (own_sl ho2).below hb3
  go_wp2_with fail
  refine (same_any _ s1 s2).mono ?_
  rintro e w4 ⟨rfl, hb4⟩
  have hd : decide (r.1 = r.1) = true := by simp
  go_wp2
  go_ret
  have z1 := hb1.size
  have z2 := hb2.size
  have z3 := hb3.size
  exact ⟨rfl, ((hb1.trans (hb2.mono z1)).trans (hb3.mono (by omega))).trans (hb4.mono (by omega))⟩
end Go.Proofs.Ytkijpjdjkjnpiaa

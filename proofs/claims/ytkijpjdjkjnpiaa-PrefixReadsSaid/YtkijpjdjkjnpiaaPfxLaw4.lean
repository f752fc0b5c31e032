/- PrefixReads answers true. -/
import Derived.Test.YtkijpjdjkjnpiaaPfxRefRead
import Derived.Test.YtkijpjdjkjnpiaaPfxLaw1
namespace Go.Proofs.Ytkijpjdjkjnpiaa
open Go.RowKit

set_option maxRecDepth 100000 in
set_option maxHeartbeats 1000000 in
theorem reads_any (w : World) {a : Option Addr} {n c : Nat} {l : List UInt8} (h : Sl w a n c (bv l)) (hn : n * 1 ≤ 140737488351232) (at_ : Int) (_ : -9223372036854775808 ≤ at_) (_ : at_ ≤ 9223372036854775807) (bits : Int) (_ : -9223372036854775808 ≤ bits) (_ : bits ≤ 9223372036854775807) :
    Calls Try.prog 13 #[.slice a n c, .int .i64 at_, .int .i64 bits] w fun e w' => e = .returned (.bool true) ∧ Below w.heap.size w w' := by
  have HP := Lib.hid (fun (w' : World) (a' : Option Addr) (c' : Nat) (h' : Sl w' a' l.length c' (bv l)) => gtext_any w' h' at_ bits)
  have HQ := Lib.hid (fun (w' : World) (hb : Below w.heap.size w w') => rgtext_any w' (h.below hb) at_ bits)
  generalize textR l at_ bits = r at HP HQ
  obtain ⟨t, y, z⟩ := r
  go_enter Try.func13, Try.ntmps13
  go_wp2_with fail
  refine (copy_any w h (by omega)).mono ?_
  rintro e w1 ⟨b1, c1, rfl, ho1, hb1⟩
  have s1 := own_sl ho1
  go_wp2_with fail
  refine (HP.out w1 b1 c1 s1).mono ?_
  rintro e w2 ⟨rfl, hb2⟩
  have B2 : Below w.heap.size w w2 := hb1.trans (hb2.mono hb1.size)
  go_wp2_with fail
  refine (HQ.out w2 B2).mono ?_
  rintro e w3 ⟨rfl, hb3⟩
  have B3 := B2.trans (hb3.mono B2.size)
  go_wp2_with fail
  refine (awake15_any w3).mono ?_
  rintro e w4 ⟨rfl, hb4⟩
  have B4 := B3.trans (hb4.mono B3.size)
  have t1 := ((s1.below hb2).below hb3).below hb4
  go_wp2_with fail
  refine (same_any _ t1 (h.below B4)).mono ?_
  rintro e w5 ⟨rfl, hb5⟩
  have hd : decide (l = l) = true := by simp
  go_wp2
  go_ret
  exact ⟨rfl, B4.trans (hb5.mono B4.size)⟩
end Go.Proofs.Ytkijpjdjkjnpiaa

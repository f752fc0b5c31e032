/- HuffDecodes answers true. -/
import Derived.Test.YtkijpjdjkjnpiaaHuffRefDec2
import Derived.Test.YtkijpjdjkjnpiaaHuffLaw1
namespace Go.Proofs.Ytkijpjdjkjnpiaa
open Go.RowKit

set_option maxRecDepth 100000 in
set_option maxHeartbeats 1000000 in
theorem decodes_any (w : World) {a : Option Addr} {n c : Nat} {l : List UInt8} (h : Sl w a n c (bv l)) (hn : n * 1 ≤ 140737488351232) :
    Calls Try.prog 9 #[.slice a n c] w fun e w' => e = .returned (.bool true) ∧ Below w.heap.size w w' := by
  have HA := Lib.hid (awake14_any)
  have HD := Lib.hid (fun (w' : World) (a' : Option Addr) (c' : Nat) (h' : Sl w' a' l.length c' (bv l)) => decode_any w' h')
  have HQ := Lib.hid (fun (w' : World) (hb : Below w.heap.size w w') => rdecode_any w' (h.below hb))
  generalize decR l = r at HD HQ
  go_enter Try.func9, Try.ntmps9
  go_wp2_with fail
  refine (copy_any w h (by omega)).mono ?_
  rintro e w1 ⟨b1, c1, rfl, ho1, hb1⟩
  have s1 := own_sl ho1
  go_wp2_with fail
  refine (HD.out w1 b1 c1 s1).mono ?_
  rintro e w2 ⟨b2, c2, rfl, ho2, hb2⟩
  have B2 : Below w.heap.size w w2 := hb1.trans (hb2.mono hb1.size)
  go_wp2_with fail
  refine (HQ.out w2 B2).mono ?_
  rintro e w3 ⟨b3, c3, rfl, ho3, hb3⟩
  have B3 := B2.trans (hb3.mono B2.size)
  go_wp2_with fail
  refine (HA.out w3).mono ?_
  rintro e w4 ⟨rfl, hb4⟩
  have B4 := B3.trans (hb4.mono B3.size)
  have t2 := ((own_sl ho2).below hb3).below hb4
  have t3 := (own_sl ho3).below hb4
  have t1 := ((s1.below hb2).below hb3).below hb4
  go_wp2_with fail
  refine (same_any _ t2 t3).mono ?_
  rintro e w5 ⟨rfl, hb5⟩
  have B5 := B4.trans (hb5.mono B4.size)
  have hd : decide (r.1 = r.1) = true := by simp
  rw [hd]
  go_wp2_with fail
  refine (same_any _ (t1.below hb5) (h.below B5)).mono ?_
  rintro e w6 ⟨rfl, hb6⟩
  have hd2 : decide (l = l) = true := by simp
  go_wp2
  go_ret
  exact ⟨rfl, B5.trans (hb6.mono B5.size)⟩
end Go.Proofs.Ytkijpjdjkjnpiaa

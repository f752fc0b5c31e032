/- turnpikelaw15.awake answers true; PrefixPuts answers true. -/
import Derived.Test.YtkijpjdjkjnpiaaPfxRefPut
import Derived.Test.YtkijpjdjkjnpiaaPfxGet
namespace Go.Proofs.Ytkijpjdjkjnpiaa
open Go.RowKit

theorem awake_put : putR 1337 5 224 = ([255, 154, 10], 0) := by
  have e : putL 1337 5 224 = [255, 154, 10] := by
    rw [putL_ge (by decide), show 1337 - (2 ^ 5 - 1) = 1306 from rfl, tailL_ge (by decide), tailL_lt (by decide)]
    decide
  unfold putR
  rw [if_neg (by decide), if_neg (by decide)]
  exact congrArg (fun l => (l, (0 : Int))) e
theorem awake_get : getR [255, 154, 10] 0 5 = (1337, 3, 0) := by decide +kernel

set_option maxRecDepth 100000 in
set_option maxHeartbeats 1000000 in
theorem awake15_any (w : World) : Calls Try.prog 16 #[] w fun e w' => e = .returned (.bool true) ∧ Below w.heap.size w w' := by
  go_enter Try.func16, Try.ntmps16
  go_wp2_with fail
  refine (put_any 1337 5 224 _ (by omega) (by omega)).mono ?_
  rw [awake_put]
  rintro e w1 ⟨a, c, rfl, ho, hb1⟩
  simp only [List.length_cons, List.length_nil] at ho ⊢
  have hs := own_sl ho
  go_wp2_with fail
  refine (get_any _ hs 0 5).mono ?_
  rw [awake_get]
  rintro e w2 ⟨rfl, hb2⟩
  have hstr := run_str (P := Try.prog) (hs.below hb2) 22 5 9 Try.underlying22 Try.underlying5 Try.underlying9
  have hst := strB_bytes [255, 154, 10]
  go_wp2
  go_ret
  exact ⟨rfl, hb1.trans (hb2.mono hb1.size)⟩

set_option maxRecDepth 100000 in
set_option maxHeartbeats 1000000 in
theorem puts_any (w : World) (n : Int) (_ : -9223372036854775808 ≤ n) (_ : n ≤ 9223372036854775807) (bits : Int) (_ : -9223372036854775808 ≤ bits) (_ : bits ≤ 9223372036854775807) (first : Int) (f1 : 0 ≤ first) (f2 : first ≤ 255) :
    Calls Try.prog 3 #[.int .i64 n, .int .i64 bits, .int .u8 first] w fun e w' => e = .returned (.bool true) ∧ Below w.heap.size w w' := by
  go_enter Try.func3, Try.ntmps3
  go_wp2_with fail
  refine (put_any n bits first _ f1 f2).mono ?_
  have HR := rput_any n bits first
  generalize putR n bits first = r at HR ⊢
  have HR' := Lib.hid HR
  clear HR
  rintro e w1 ⟨a1, c1, rfl, ho1, hb1⟩
  go_wp2_with fail
  refine (HR'.out _ f1 f2).mono ?_
  rintro e w2 ⟨a2, c2, rfl, ho2, hb2⟩
  go_wp2_with fail
  refine (awake15_any _).mono ?_
  rintro e w3 ⟨rfl, hb3⟩
  have s1 := ((own_sl ho1).below hb2).below hb3
  have s2 := (own_sl ho2).below hb3
  go_wp2_with fail
  refine (same_any _ s1 s2).mono ?_
  rintro e w4 ⟨rfl, hb4⟩
  have hd : decide (r.1 = r.1) = true := by simp
  go_wp2
  go_ret
  have z1 := hb1.size
  have z2 := hb2.size
  have z3 := hb3.size
  exact ⟨rfl, ((hb1.trans (hb2.mono z1)).trans (hb3.mono (by omega))).trans (hb4.mono (by omega))⟩
end Go.Proofs.Ytkijpjdjkjnpiaa

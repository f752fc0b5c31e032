/- Contracts of the book's end and of huff.Decode. -/
import Derived.Test.YtkijpjdjkjnpiaaHuffNext
import Derived.Test.YtkijpjdjkjnpiaaHuffEnc
import Derived.Test.YtkijpjdjkjnpiaaHuffOpen
import Derived.Test.YtkijpjdjkjnpiaaPfxPut
namespace Go.Proofs.Ytkijpjdjkjnpiaa
open Go.RowKit

theorem and_low' (g m : Nat) (hg : g < 9223372036854775808) (hm : m ≤ 22) : Go.bits .and .i64 (g : Int) (2 ^ m - 1) = ((g % 2 ^ m : Nat) : Int) := by
  have h1 : 2 ^ m ≤ 2 ^ 22 := Nat.pow_le_pow_right (by decide) hm
  have h0 : 1 ≤ 2 ^ m := Nat.one_le_two_pow
  have e : (2 ^ m - 1 : Int) = ((2 ^ m - 1 : Nat) : Int) := by have := two_pow_cast m; omega
  rw [e, i64_and_nat _ _ hg (by omega), Nat.and_two_pow_sub_one_eq_mod]
theorem or_byte (h b : Nat) (hh : h < 4194304) (hb : b < 256) : Go.bits .or .i64 ((h : Int) * 256) (b : Int) = ((h * 256 + b : Nat) : Int) := by
  have e : ((h : Int) * 256) = ((h * 256 : Nat) : Int) := by rw [Int.natCast_mul]; rfl
  rw [e, i64_or_nat _ _ (by omega) (by omega), nat_join 8 _ b (by rw [show (2 : Nat) ^ 8 = 256 from rfl]; exact Nat.mul_mod_left _ _) hb]

/-- the answer of end -/
def endV (a : Option Addr) (n c : Nat) (hold held : Nat) : Value :=
  if held ≤ 7 ∧ hold + 1 = 2 ^ held then .tuple #[.slice a n c, .int .i64 0] else if held < 15 then .tuple #[.slice none 0 0, .int .i64 141] else .tuple #[.slice none 0 0, .int .i64 140]
set_option maxRecDepth 100000 in
theorem end_any (w : World) (p : Value) (a : Option Addr) (n c hold held : Nat) (hh : held ≤ 22) :
    Calls Try.prog 40 #[p, .slice a n c, .int .i64 (hold : Int), .int .i64 (held : Int)] w fun e w' => e = .returned (endV a n c hold held) ∧ w = w' := by
  by_cases h1 : held ≤ 7
  · have h1' : (held : Int) ≤ 7 := by omega
    have hp1 : 2 ^ held ≤ 2 ^ 7 := Nat.pow_le_pow_right (by decide) h1
    have hp0 : 1 ≤ 2 ^ held := Nat.one_le_two_pow
    have hpc := two_pow_cast held
    have q1 : (1 : Int) ≤ 2 ^ held := by omega
    have q2 : (2 : Int) ^ held ≤ 128 := by have : (2 : Nat) ^ 7 = 128 := rfl; omega
    by_cases h2 : hold + 1 = 2 ^ held
    · have hd : ((hold : Int) == 2 ^ held - 1) = true := by rw [beq_iff_eq]; omega
      have HE : Hid (endV a n c hold held = .tuple #[.slice a n c, .int .i64 0]) := Lib.hid (by unfold endV; rw [if_pos ⟨h1, h2⟩])
      clear h2 hpc hp0 hp1
      go_enter Try.func40, Try.ntmps40
      go_wp2
      go_ret2
      exact ⟨by rw [HE.out]; rfl, rfl⟩
    · have hd : ((hold : Int) == 2 ^ held - 1) = false := by rw [beq_eq_false_iff_ne]; omega
      have HE : Hid (endV a n c hold held = .tuple #[.slice none 0 0, .int .i64 141]) := Lib.hid (by unfold endV; rw [if_neg (fun h => h2 h.2), if_pos (by omega)])
      clear h2 hpc hp0 hp1
      go_enter Try.func40, Try.ntmps40
      go_wp2
      go_ret2
      exact ⟨by rw [HE.out]; rfl, rfl⟩
  · by_cases h3 : held < 15
    · have HE : Hid (endV a n c hold held = .tuple #[.slice none 0 0, .int .i64 141]) := Lib.hid (by unfold endV; rw [if_neg (fun h => h1 h.1), if_pos h3])
      have h1' : ¬ (held : Int) ≤ 7 := by omega
      have h3' : (held : Int) < 15 := by omega
      go_enter Try.func40, Try.ntmps40
      go_wp2
      go_ret2
      exact ⟨by rw [HE.out]; rfl, rfl⟩
    · have HE : Hid (endV a n c hold held = .tuple #[.slice none 0 0, .int .i64 140]) := Lib.hid (by unfold endV; rw [if_neg (fun h => h1 h.1), if_neg h3])
      have h1' : ¬ (held : Int) ≤ 7 := by omega
      have h3' : ¬ (held : Int) < 15 := by omega
      go_enter Try.func40, Try.ntmps40
      go_wp2
      go_ret2
      exact ⟨by rw [HE.out]; rfl, rfl⟩
end Go.Proofs.Ytkijpjdjkjnpiaa

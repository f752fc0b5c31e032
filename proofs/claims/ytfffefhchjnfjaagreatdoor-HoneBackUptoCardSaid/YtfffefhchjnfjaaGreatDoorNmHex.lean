/- turnpikeref19.Hex: a number's hexadecimal digits. No condition but the sizes. -/
import Derived.Test.YtfffefhchjnfjaaGreatDoorFldSame
namespace Go.Proofs.YtfffefhchjnfjaaGreatDoor
open Go.RowKit

theorem strB_append (a b : List UInt8) : strB a ++ strB b = strB (a ++ b) := by
  apply ByteArray.ext
  simp [strB]
/-- one digit -/
def hexD (k : Nat) : UInt8 := if k < 10 then UInt8.ofNat (48 + k) else UInt8.ofNat (87 + k)
/-- the digits of m ahead of acc -/
def hexGo : Nat → Nat → List UInt8 → List UInt8
  | 0, _, acc => acc
  | fuel + 1, m, acc => if m / 16 = 0 then hexD (m % 16) :: acc else hexGo fuel (m / 16) (hexD (m % 16) :: acc)
def hexL (n : Nat) : List UInt8 := hexGo (n + 1) n []
theorem hex_ext : ∀ k : Nat, k < 16 → (ByteArray.mk #[48, 49, 50, 51, 52, 53, 54, 55, 56, 57, 97, 98, 99, 100, 101, 102]).extract k (k + 1) = strB [hexD k] := by decide +kernel
theorem hxj1 (m : Nat) (h : m < 4611686018427387904) : (m : Int).tmod 16 = ((m % 16 : Nat) : Int) ∧ (m : Int).tdiv 16 = ((m / 16 : Nat) : Int) ∧ RowKit.wrap64 ((m : Int).tdiv 16) = ((m / 16 : Nat) : Int) ∧ IntKind.i64.wrap ((m : Int).tdiv 16) = ((m / 16 : Nat) : Int) := by
  have e1 : (m : Int).tmod 16 = ((m % 16 : Nat) : Int) := by rw [Int.tmod_eq_emod_of_nonneg (by omega)]; omega
  have e2 : (m : Int).tdiv 16 = ((m / 16 : Nat) : Int) := by rw [Int.tdiv_eq_ediv_of_nonneg (by omega)]; omega
  refine ⟨e1, e2, ?_, ?_⟩
  · rw [e2]; unfold RowKit.wrap64; omega
  · rw [e2, IntKind.wrap_i64]; omega
theorem hxj3 {m m2 : Nat} (h : m2 < m) : (intOf (Value.int .i64 (m2 : Int))).toNat < (intOf (Value.int .i64 (m : Int))).toNat := by simp only [intOf]; omega
theorem hxj4 {k a n m : Nat} (h : a + m ≤ n) (hn : n < 4611686018427387904) : ¬ 9223372036854775807 < min (k + 1) 16 - k + a := by omega
theorem hxj5 {m : Nat} (h : m < 4611686018427387904) : RowKit.wrap64 (m : Int) = (m : Int) ∧ IntKind.i64.wrap (m : Int) = (m : Int) := by rw [IntKind.wrap_i64]; unfold RowKit.wrap64; omega
theorem hxj6 {m m2 k fuel a n : Nat} (hm : m < 4611686018427387904) (hf : m < fuel + 1) (ha : a + m ≤ n) (h2 : m2 = m / 16) (hk : k = m % 16) : k < 16 ∧ m2 < 4611686018427387904 ∧ (¬ m2 = 0 → m2 < fuel ∧ m2 < m ∧ a + 1 + m2 ≤ n) := by omega
theorem hxj2 {k : Nat} (h : k < 16) : IntKind.i64.wrap ((k : Int) + 1) = ((k + 1 : Nat) : Int) ∧ RowKit.wrap64 ((k : Int) + 1) = ((k + 1 : Nat) : Int) ∧ 0 ≤ (k : Int) ∧ (k : Int) ≤ ((k + 1 : Nat) : Int) ∧ ((k + 1 : Nat) : Int) ≤ 16 := by
  rw [IntKind.wrap_i64]; unfold RowKit.wrap64; omega
def StrOf (w : World) (l : List UInt8) (e : Ending) (w' : World) : Prop := e = .returned (.string (strB l)) ∧ Below w.heap.size w w'
set_option maxRecDepth 100000 in
theorem hex_any (w : World) (n : Nat) (h : n < 4611686018427387904) : Calls Tryz.prog 21 #[.int .i64 (n : Int)] w (StrOf w (hexL n)) := by
  obtain ⟨R, hR⟩ : ∃ R, R = hexL n := ⟨_, rfl⟩
  rw [← hR]
  have HR := Lib.hid hR
  clear hR
  go_enter Tryz.func21, Tryz.ntmps21
  go_wp2_with fail
  go_loopw [0, 3] (fun v sv wr => ∃ (m fuel : Nat) (acc : List UInt8), v = .int .i64 (m : Int) ∧ sv = .string (strB acc) ∧ m < 4611686018427387904 ∧ m < fuel ∧ acc.length + m ≤ n ∧ Hid (R = hexGo fuel m acc) ∧ wr = w) (fun v _ _ => (intOf v).toNat)
  case atStart => exact ⟨n, n + 1, [], rfl, rfl, h, Nat.lt_succ_self n, Nat.le_of_eq (Nat.zero_add n), HR, rfl⟩
  case round =>
    obtain ⟨m, fuel, acc, rfl, rfl, hm, hf, hal, HG, rfl⟩ := hrel
    obtain ⟨fuel, rfl⟩ : ∃ q, fuel = q + 1 := ⟨fuel - 1, by omega⟩
    obtain ⟨e1, e2, e3, e4⟩ := hxj1 m hm
    obtain ⟨k, hk⟩ : ∃ k, k = m % 16 := ⟨_, rfl⟩
    obtain ⟨m2, hm2⟩ : ∃ m2, m2 = m / 16 := ⟨_, rfl⟩
    rw [← hk] at e1
    rw [← hm2] at e2 e3 e4
    obtain ⟨hk16, hb1, hb2⟩ := hxj6 hm hf hal hm2 hk
    obtain ⟨f1, f2, f3, f4, f5⟩ := hxj2 hk16
    have HX := Lib.hid (hex_ext k hk16)
    have HM := Lib.hid (And.intro hk hm2)
    obtain ⟨y00, y01⟩ := hxj5 hb1
    have y0 : ¬ 9223372036854775807 < min (k + 1) 16 - k + (strB acc).size := by rw [strB_size]; exact hxj4 hal h
    have HB := Lib.hid (And.intro hb1 hb2)
    have HCat : Hid ((ByteArray.mk #[48, 49, 50, 51, 52, 53, 54, 55, 56, 57, 97, 98, 99, 100, 101, 102]).extract k (k + 1) ++ strB acc = strB (hexD k :: acc)) := Lib.hid (by rw [HX.out, strB_append]; rfl)
    clear hm hf hk hm2 hk16 hal hb1 hb2
    by_cases h0 : m2 = 0
    · have y1 : ((m2 : Int) == 0) = true := by simp [h0]
      have HE : Hid (R = hexD k :: acc) := Lib.hid (by rw [HG.out, hexGo, ← HM.out.1, ← HM.out.2, if_pos h0])
      clear h0
      go_wp2_with fail
      go_ret
      rw [HE.out]
      exact ⟨by rw [← HCat.out]; rfl, Below.refl _ _⟩
    · have y1 : ((m2 : Int) == 0) = false := by simpa using h0
      have HE : Hid (R = hexGo fuel m2 (hexD k :: acc)) := Lib.hid (by rw [HG.out, hexGo, ← HM.out.1, ← HM.out.2, if_neg h0])
      have H0 := Lib.hid h0
      clear h0
      go_wp2_with fail
      go_roundw
      case rel => exact ⟨m2, fuel, hexD k :: acc, rfl, by rw [← HCat.out], HB.out.1, (HB.out.2 H0.out).1, (HB.out.2 H0.out).2.2, HE, by trivial⟩
      case measure => exact hxj3 (HB.out.2 H0.out).2.1
end Go.Proofs.YtfffefhchjnfjaaGreatDoor

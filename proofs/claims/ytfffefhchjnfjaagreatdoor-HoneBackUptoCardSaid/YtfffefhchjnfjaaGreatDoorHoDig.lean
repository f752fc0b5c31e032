/- turnpikeref19.Digits: a number's decimal digits. Condition: below 2^62. -/
import Derived.Test.YtfffefhchjnfjaaGreatDoorHoTok
import Derived.Lib.ItoaNum
namespace Go.Proofs.YtfffefhchjnfjaaGreatDoor
open Go.RowKit

theorem dgj1 (m : Nat) (h : m < 4611686018427387904) : (m : Int).tmod 10 = ((m % 10 : Nat) : Int) ∧ (m : Int).tdiv 10 = ((m / 10 : Nat) : Int) ∧ RowKit.wrap64 ((m : Int).tdiv 10) = ((m / 10 : Nat) : Int) ∧ IntKind.i64.wrap ((m : Int).tdiv 10) = ((m / 10 : Nat) : Int) := by
  have e1 : (m : Int).tmod 10 = ((m % 10 : Nat) : Int) := by rw [Int.tmod_eq_emod_of_nonneg (by omega)]; omega
  have e2 : (m : Int).tdiv 10 = ((m / 10 : Nat) : Int) := by rw [Int.tdiv_eq_ediv_of_nonneg (by omega)]; omega
  refine ⟨e1, e2, ?_, ?_⟩
  · rw [e2]; unfold RowKit.wrap64; omega
  · rw [e2, IntKind.wrap_i64]; omega
theorem dgj2 (k : Nat) (h : k < 10) : RowKit.wrap64 (48 + (k : Int)) = 48 + (k : Int) ∧ IntKind.i64.wrap (48 + (k : Int)) = 48 + (k : Int) ∧ IntKind.u8.wrap (48 + (k : Int)) = 48 + (k : Int) ∧ (48 : Int) + (k : Int) = ((UInt8.ofNat (48 + k)).toNat : Int) := by
  refine ⟨by unfold RowKit.wrap64; omega, by rw [IntKind.wrap_i64]; omega, by rw [IntKind.wrap_u8]; omega, ?_⟩
  simp [UInt8.toNat_ofNat']; omega
theorem dgj3 (m : Nat) (h : m < 4611686018427387904) : RowKit.wrap64 (m : Int) = (m : Int) ∧ IntKind.i64.wrap (m : Int) = (m : Int) := by rw [IntKind.wrap_i64]; unfold RowKit.wrap64; omega
theorem dgj4 {m m2 a n : Nat} (hm : m < 4611686018427387904) (h10 : 10 ≤ m) (ha : a + m ≤ n) (h2 : m2 = m / 10) : m2 < 4611686018427387904 ∧ a + 1 + m2 ≤ n ∧ m2 < m ∧ ((10 : Int) ≤ (m : Int)) = True := ⟨by omega, by omega, by omega, eq_true (by omega)⟩
theorem dgj5 {m a n : Nat} (ha : a + m ≤ n) (h : n < 4611686018427387904) : ¬ 9223372036854775807 < 1 + a := by omega
theorem dgj6 {m : Nat} (h : ¬ 10 ≤ m) : m < 10 ∧ ((10 : Int) ≤ (m : Int)) = False := ⟨by omega, eq_false (by omega)⟩
theorem dgj7 {m m2 : Nat} (h : m2 < m) : (intOf (Value.int .i64 (m2 : Int))).toNat < (intOf (Value.int .i64 (m : Int))).toNat := by simp only [intOf]; omega
theorem dig_big {m : Nat} (h : 10 ≤ m) : Lib.decDigits m = Lib.decDigits (m / 10) ++ [UInt8.ofNat (48 + m % 10)] := by
  rw [Lib.decDigits, dif_neg (by omega)]
theorem dig_small {m : Nat} (h : m < 10) : Lib.decDigits m = [UInt8.ofNat (48 + m)] := Lib.decDigits_one h
theorem conv_new1 (w : World) (d : UInt8) : (convert 23 9 (.slice (some ⟨w.heap.size, 0, none⟩) 1 1)).run Tryz.prog (w.alloc (.cells #[.int .u8 (d.toNat : Int)] 5)) = .ok (.string (strB [d])) (w.alloc (.cells #[.int .u8 (d.toNat : Int)] 5)) := by
  have h := run_convert_bytes_back (P := Tryz.prog) (w.alloc (.cells #[.int .u8 (d.toNat : Int)] 5)) 23 9 5 ⟨w.heap.size, 0, none⟩ 1 [d] Tryz.underlying23 Tryz.underlying5 Tryz.underlying9 (fun j hj => by
    have e : j = 0 := by simp at hj; omega
    subst e
    rw [addr_add]
    have hh := Has.new w 5 #[.int .u8 (d.toNat : Int)]
    exact hh.cell 0 rfl)
  exact h
set_option maxRecDepth 100000 in
theorem digits_any (w : World) (n : Nat) (h : n < 4611686018427387904) : Calls Tryz.prog 8 #[.int .i64 (n : Int)] w (StrOf w (Lib.decDigits n)) := by
  obtain ⟨R, hR⟩ : ∃ R, R = Lib.decDigits n := ⟨_, rfl⟩
  rw [← hR]
  have HR := Lib.hid hR
  have hn0 : ((n : Int) < 0) = False := eq_false (by omega)
  clear hR
  go_enter Tryz.func8, Tryz.ntmps8
  go_wp2_with fail
  go_loopw [0, 3] (fun v sv wr => ∃ (m : Nat) (acc : List UInt8), v = .int .i64 (m : Int) ∧ sv = .string (strB acc) ∧ m < 4611686018427387904 ∧ acc.length + m ≤ n ∧ Hid (R = Lib.decDigits m ++ acc) ∧ Below w.heap.size w wr) (fun v _ _ => (intOf v).toNat)
  case atStart => exact ⟨n, [], rfl, rfl, h, Nat.le_of_eq (Nat.zero_add n), Lib.hid (by rw [HR.out, List.append_nil]), Below.refl _ _⟩
  case round =>
    obtain ⟨m, acc, rfl, rfl, hm, hal, HG, hbw⟩ := hrel
    have HBw := Lib.hid hbw
    clear hbw
    by_cases h10 : 10 ≤ m
    · obtain ⟨e1, e2, e3, e4⟩ := dgj1 m hm
      obtain ⟨k, hk⟩ : ∃ k, k = m % 10 := ⟨_, rfl⟩
      obtain ⟨m2, hm2⟩ : ∃ m2, m2 = m / 10 := ⟨_, rfl⟩
      rw [← hk] at e1
      rw [← hm2] at e2 e3 e4
      have hk10 : k < 10 := by rw [hk]; exact Nat.mod_lt _ (by decide)
      obtain ⟨d, hd⟩ : ∃ d, d = UInt8.ofNat (48 + k) := ⟨_, rfl⟩
      obtain ⟨f1, f2, f3, f4⟩ := dgj2 k hk10
      rw [← hd] at f4
      rw [f4] at f1 f2 f3
      obtain ⟨q1, q2, q3, z1⟩ := dgj4 hm h10 hal hm2
      obtain ⟨g1, g2⟩ := dgj3 m2 q1
      have hcv := fun w => conv_new1 w d
      have y0 : ¬ 9223372036854775807 < (strB [d]).size + (strB acc).size := by
        rw [strB_size, strB_size]
        exact dgj5 hal h
      have hap : strB [d] ++ strB acc = strB (d :: acc) := by rw [strB_append]; rfl
      have HQ : Hid (m2 < 4611686018427387904 ∧ (d :: acc).length + m2 ≤ n ∧ m2 < m) := Lib.hid ⟨q1, q2, q3⟩
      have HE : Hid (R = Lib.decDigits m2 ++ d :: acc) := Lib.hid (by rw [HG.out, dig_big h10, ← hm2, ← hk, ← hd, List.append_assoc]; rfl)
      clear hm hal h10 hk hm2 hk10 hd q1 q2 q3
      go_wp2_with fail
      go_roundw
      case rel => exact ⟨m2, d :: acc, rfl, rfl, HQ.out.1, HQ.out.2.1, HE, HBw.out.alloc HBw.out.size _⟩
      case measure => exact dgj7 HQ.out.2.2
    · obtain ⟨d, hd⟩ : ∃ d, d = UInt8.ofNat (48 + m) := ⟨_, rfl⟩
      obtain ⟨q1, z1⟩ := dgj6 h10
      obtain ⟨f1, f2, f3, f4⟩ := dgj2 m q1
      rw [← hd] at f4
      rw [f4] at f1 f2 f3
      have hcv := fun w => conv_new1 w d
      have y0 : ¬ 9223372036854775807 < (strB [d]).size + (strB acc).size := by
        rw [strB_size, strB_size]
        exact dgj5 hal h
      have hap : strB [d] ++ strB acc = strB (d :: acc) := by rw [strB_append]; rfl
      have HE : Hid (R = d :: acc) := Lib.hid (by rw [HG.out, dig_small q1, ← hd]; rfl)
      clear hm hal h10 hd q1
      go_wp2
      go_ret
      rw [HE.out]
      exact ⟨rfl, HBw.out.alloc HBw.out.size _⟩
end Go.Proofs.YtfffefhchjnfjaaGreatDoor

/- Numbers in one, two, four or eight bytes (varint), in plain lists. No condition. -/
import Derived.Test.YtppkilkfmclpkaaMem
namespace Go.Proofs.Ytppkilkfmclpkaa
open Go.RowKit

/-- the last k digits to the base 256 -/
def bd : Nat → Nat → List UInt8
  | 0, _ => []
  | k + 1, n => UInt8.ofNat (n / 256 ^ k % 256) :: bd k n
theorem bd_length : ∀ (k n : Nat), (bd k n).length = k
  | 0, _ => rfl
  | k + 1, n => by simp [bd, bd_length k n]
theorem bd_add : ∀ (k n t j : Nat), k ≤ j → bd k (n + t * 256 ^ j) = bd k n
  | 0, _, _, _, _ => rfl
  | k + 1, n, t, j, h => by
    have e : t * 256 ^ j = 256 ^ k * (256 * (t * 256 ^ (j - k - 1))) := by
      have : 256 ^ j = 256 ^ k * (256 * 256 ^ (j - k - 1)) := by
        rw [← Nat.pow_succ', ← Nat.pow_add]; congr 1; omega
      rw [this]
      simp only [Nat.mul_left_comm]
    simp only [bd]
    rw [bd_add k n t j (by omega), e, Nat.add_mul_div_left _ _ (Nat.pow_pos (by decide)), Nat.add_mul_mod_self_left]
def szN (n : Nat) : Nat := if n < 64 then 1 else if n < 16384 then 2 else if n < 1073741824 then 4 else 8
def clN (n : Nat) : Nat := if n < 64 then 0 else if n < 16384 then 1 else if n < 1073741824 then 2 else 3
theorem szN_cl (n : Nat) : szN n = 2 ^ clN n := by unfold szN clN; split <;> (try split) <;> (try split) <;> rfl
/-- a number's bytes -/
def vl (n : Nat) : List UInt8 := bd (szN n) (n + clN n * 64 * 256 ^ (szN n - 1))
theorem szN_cs (n : Nat) : (n < 64 ∧ szN n = 1 ∧ clN n = 0) ∨ (64 ≤ n ∧ n < 16384 ∧ szN n = 2 ∧ clN n = 1) ∨ (16384 ≤ n ∧ n < 1073741824 ∧ szN n = 4 ∧ clN n = 2) ∨ (1073741824 ≤ n ∧ szN n = 8 ∧ clN n = 3) := by
  unfold szN clN
  split
  · exact .inl ⟨by assumption, rfl, rfl⟩
  · split
    · exact .inr (.inl ⟨by omega, by assumption, rfl, rfl⟩)
    · split
      · exact .inr (.inr (.inl ⟨by omega, by assumption, rfl, rfl⟩))
      · exact .inr (.inr (.inr ⟨by omega, rfl, rfl⟩))
theorem szN_pos (n : Nat) : 1 ≤ szN n ∧ szN n ≤ 8 := by rcases szN_cs n with h | h | h | h <;> omega
theorem vl_length (n : Nat) : (vl n).length = szN n := bd_length _ _
/-- the first byte's six low bits, and the others -/
theorem vl_eq {n : Nat} (h : n < 4611686018427387904) : vl n = UInt8.ofNat (n / 256 ^ (szN n - 1) % 256 + clN n * 64) :: bd (szN n - 1) n := by
  obtain ⟨k, hk⟩ : ∃ k, szN n = k + 1 := ⟨szN n - 1, by have := (szN_pos n).1; omega⟩
  have hlt : n / 256 ^ k < 64 := by
    rw [Nat.div_lt_iff_lt_mul (Nat.pow_pos (by decide))]
    rcases szN_cs n with ⟨a, b, _⟩ | ⟨_, a, b, _⟩ | ⟨_, a, b, _⟩ | ⟨_, b, _⟩
    · obtain rfl : k = 0 := by omega
      omega
    · obtain rfl : k = 1 := by omega
      omega
    · obtain rfl : k = 3 := by omega
      omega
    · obtain rfl : k = 7 := by omega
      omega
  have hc : clN n ≤ 3 := by rcases szN_cs n with h | h | h | h <;> omega
  unfold vl
  rw [hk]
  simp only [bd, Nat.add_sub_cancel]
  rw [bd_add k n _ k (Nat.le_refl _), Nat.add_mul_div_right _ _ (Nat.pow_pos (by decide))]
  generalize n / 256 ^ k = x at hlt
  congr 2
  omega
theorem first_lt {n : Nat} (h : n < 4611686018427387904) : n / 256 ^ (szN n - 1) < 64 := by
  rw [Nat.div_lt_iff_lt_mul (Nat.pow_pos (by decide))]
  rcases szN_cs n with ⟨a, b, _⟩ | ⟨_, a, b, _⟩ | ⟨_, a, b, _⟩ | ⟨_, b, _⟩ <;> rw [b] <;> omega
theorem bd_get : ∀ (k n i : Nat), i < k → (bd k n)[i]? = some (UInt8.ofNat (n / 256 ^ (k - 1 - i) % 256))
  | k + 1, n, 0, _ => by simp [bd]
  | k + 1, n, i + 1, h => by
    simp only [bd, List.getElem?_cons_succ]
    rw [bd_get k n i (by omega)]
    have e : k + 1 - 1 - (i + 1) = k - 1 - i := by omega
    rw [e]
theorem bd_set (s k n : Nat) (h : k < s) : (bv (List.replicate (s - k) 0 ++ bd k n)).set (s - 1 - k) (.int .u8 ((n / 256 ^ k % 256 : Nat) : Int)) = bv (List.replicate (s - (k + 1)) 0 ++ bd (k + 1) n) := by
  obtain ⟨m, rfl⟩ : ∃ m, s = m + k + 1 := ⟨s - k - 1, by omega⟩
  have e1 : m + k + 1 - k = m + 1 := by omega
  have e2 : m + k + 1 - (k + 1) = m := by omega
  have e3 : m + k + 1 - 1 - k = m := by omega
  rw [e1, e2, e3, List.replicate_succ', List.append_assoc]
  simp only [bv, List.map_append, List.map_replicate, List.map_cons, List.map_nil, bd]
  rw [List.set_append_right _ _ (by simp)]
  simp
end Go.Proofs.Ytppkilkfmclpkaa

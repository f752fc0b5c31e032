/- What was written as a number is read back: getV of vl. Plain. -/
import Derived.Test.YtppkilkfmclpkaaVnGet
namespace Go.Proofs.Ytppkilkfmclpkaa
open Go.RowKit

theorem gvN_bd : ∀ (k n f : Nat), gvN f (bd k n) = f * 256 ^ k + n % 256 ^ k
  | 0, n, f => by simp [gvN, bd, Nat.mod_one]
  | k + 1, n, f => by
    have e : gvN f (bd (k + 1) n) = gvN (f * 256 + n / 256 ^ k % 256) (bd k n) := by
      simp only [bd, gvN, List.foldl_cons]
      congr 2
      rw [UInt8.toNat_ofNat']
      omega
    rw [e, gvN_bd k n, Nat.mod_pow_succ, Nat.pow_succ, Nat.add_mul, Nat.mul_assoc, Nat.mul_comm 256, Nat.mul_comm (n / 256 ^ k % 256)]
    omega
/-- a number read at its place -/
theorem getV_vl (a m : List UInt8) {k : Nat} (hk : k < 4611686018427387904) {l : List UInt8} (hl : l = a ++ (vl k ++ m)) {t : Nat} (ht : t = a.length) : getV l t = (k, t + (vl k).length, 0) := by
  subst hl ht
  have h1 := first_lt hk
  have hcl : clN k ≤ 3 := by rcases szN_cs k with h | h | h | h <;> omega
  have hpos := szN_pos k
  unfold getV
  rw [if_neg (by rw [List.length_append]; omega), List.drop_left, vl_length]
  rw [vl_eq hk]
  obtain ⟨f, hf⟩ : ∃ f, f = k / 256 ^ (szN k - 1) := ⟨_, rfl⟩
  rw [← hf] at h1 ⊢
  have hx : (UInt8.ofNat (f % 256 + clN k * 64)).toNat = f + clN k * 64 := by rw [UInt8.toNat_ofNat']; omega
  have hs : szB (UInt8.ofNat (f % 256 + clN k * 64)) = szN k := by
    unfold szB
    rw [hx, szN_cl, show (f + clN k * 64) / 64 = clN k by omega]
  simp only [List.cons_append]
  rw [hs, if_neg (by rw [List.length_append, bd_length]; omega), hx]
  have e1 : (bd (szN k - 1) k ++ m).take (szN k - 1) = bd (szN k - 1) k := by
    rw [List.take_append_of_le_length (by rw [bd_length]; omega), List.take_of_length_le (by rw [bd_length]; omega)]
  rw [e1, gvN_bd, show (f + clN k * 64) % 64 = f by omega, hf]
  have : k / 256 ^ (szN k - 1) * 256 ^ (szN k - 1) + k % 256 ^ (szN k - 1) = k := by
    rw [Nat.mul_comm]; exact Nat.div_add_mod _ _
  rw [this]
end Go.Proofs.Ytppkilkfmclpkaa

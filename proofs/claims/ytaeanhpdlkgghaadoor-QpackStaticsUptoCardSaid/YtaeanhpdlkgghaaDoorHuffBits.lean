/- Plain facts on texts of bits: numbers as bits, bits packed into bytes, the coded text. No program in sight. -/
import Derived.Test.YtaeanhpdlkgghaaDoorHuffSize
namespace Go.Proofs.YtaeanhpdlkgghaaDoor

/-- the low k bits of n, the greatest first -/
def tb (n : Nat) : Nat → List Bool
  | 0 => []
  | k + 1 => tb (n / 2) k ++ [n % 2 == 1]
def val (bs : List Bool) : Nat := bs.foldl (fun n b => 2 * n + b.toNat) 0

theorem tb_len (k : Nat) : ∀ n, (tb n k).length = k := by
  induction k with
  | zero => intro n; rfl
  | succ k ih => intro n; simp [tb, ih]
theorem val_snoc (bs : List Bool) (b : Bool) : val (bs ++ [b]) = 2 * val bs + b.toNat := by simp [val]
theorem val_tb (k : Nat) : ∀ n, val (tb n k) = n % 2 ^ k := by
  induction k with
  | zero => intro n; simp [tb, val, Nat.mod_one]
  | succ k ih =>
    intro n
    rw [tb, val_snoc, ih]
    have h1 : n % 2 ^ (k + 1) = 2 * (n / 2 % 2 ^ k) + n % 2 := by
      rw [Nat.pow_succ, Nat.mul_comm (2 ^ k) 2, Nat.mod_mul]
      omega
    rw [h1]
    rcases Nat.mod_two_eq_zero_or_one n with h | h <;> simp [h]
theorem tb_append (b : Nat) : ∀ (h k c : Nat), c < 2 ^ b → tb (h * 2 ^ b + c) (k + b) = tb h k ++ tb c b := by
  induction b with
  | zero => intro h k c hc; have : c = 0 := by simpa using hc
            subst this; simp [tb]
  | succ b ih =>
    intro h k c hc
    have e1 : (h * 2 ^ (b + 1) + c) / 2 = h * 2 ^ b + c / 2 := by rw [Nat.pow_succ, ← Nat.mul_assoc]; omega
    have e2 : (h * 2 ^ (b + 1) + c) % 2 = c % 2 := by rw [Nat.pow_succ, ← Nat.mul_assoc]; omega
    rw [← Nat.add_assoc, tb, e1, e2, ih h k (c / 2) (by rw [Nat.pow_succ] at hc; omega), tb, List.append_assoc]
theorem tb_mod (k : Nat) : ∀ n, tb (n % 2 ^ k) k = tb n k := by
  induction k with
  | zero => intro n; rfl
  | succ k ih =>
    intro n
    have e1 : n % 2 ^ (k + 1) / 2 = n / 2 % 2 ^ k := by
      rw [Nat.pow_succ, Nat.mul_comm (2 ^ k) 2, Nat.mod_mul]; omega
    have e2 : n % 2 ^ (k + 1) % 2 = n % 2 := by
      rw [Nat.pow_succ, Nat.mul_comm (2 ^ k) 2, Nat.mod_mul]; omega
    rw [tb, tb, e1, e2, ih]
theorem tb_split (n j k : Nat) : tb n (j + k) = tb (n / 2 ^ k) j ++ tb n k := by
  have h := tb_append k (n / 2 ^ k) j (n % 2 ^ k) (Nat.mod_lt _ (Nat.two_pow_pos k))
  rw [tb_mod, Nat.mul_comm, Nat.div_add_mod] at h
  exact h
/-- full bytes -/
def packF (bs : List Bool) : List UInt8 :=
  if 8 ≤ bs.length then UInt8.ofNat (val (bs.take 8)) :: packF (bs.drop 8) else []
termination_by bs.length
decreasing_by simp; omega
/-- what is left behind the full bytes -/
def restB (bs : List Bool) : List Bool :=
  if 8 ≤ bs.length then restB (bs.drop 8) else bs
termination_by bs.length
decreasing_by simp; omega
theorem packF_lt {bs : List Bool} (h : bs.length < 8) : packF bs = [] := by rw [packF, if_neg (by omega)]
theorem restB_lt {bs : List Bool} (h : bs.length < 8) : restB bs = bs := by rw [restB, if_neg (by omega)]
theorem packF_8 {x r : List Bool} (h : x.length = 8) : packF (x ++ r) = UInt8.ofNat (val x) :: packF r := by
  rw [packF, if_pos (by simp; omega), List.take_left' h, List.drop_left' h]
theorem restB_8 {x r : List Bool} (h : x.length = 8) : restB (x ++ r) = restB r := by
  rw [restB, if_pos (by simp; omega), List.drop_left' h]
theorem bits_ind {p : List Bool → Prop} (h1 : ∀ bs, bs.length < 8 → p bs) (h2 : ∀ x r, x.length = 8 → p r → p (x ++ r)) : ∀ (n : Nat) (bs : List Bool), bs.length ≤ n → p bs := by
  intro n
  induction n with
  | zero => intro bs h; exact h1 bs (by omega)
  | succ n ih =>
    intro bs h
    by_cases h8 : bs.length < 8
    · exact h1 bs h8
    · rw [← List.take_append_drop 8 bs]
      exact h2 _ _ (by simp; omega) (ih _ (by simp; omega))
theorem pack_app (A C : List Bool) : packF (A ++ C) = packF A ++ packF (restB A ++ C) ∧ restB (A ++ C) = restB (restB A ++ C) := by
  refine bits_ind (p := fun A => packF (A ++ C) = packF A ++ packF (restB A ++ C) ∧ restB (A ++ C) = restB (restB A ++ C)) ?_ ?_ A.length A (Nat.le_refl _)
  · intro bs h; rw [packF_lt h, restB_lt h]; simp
  · intro x r h ih
    rw [List.append_assoc, packF_8 h, packF_8 h, restB_8 h, restB_8 h, ih.1, ih.2]
    simp
theorem restB_len (A : List Bool) : (restB A).length < 8 := by
  refine bits_ind (p := fun A => (restB A).length < 8) ?_ ?_ A.length A (Nat.le_refl _)
  · intro bs h; rw [restB_lt h]; exact h
  · intro x r h ih; rw [restB_8 h]; exact ih
theorem pack_len (A : List Bool) : 8 * (packF A).length + (restB A).length = A.length := by
  refine bits_ind (p := fun A => 8 * (packF A).length + (restB A).length = A.length) ?_ ?_ A.length A (Nat.le_refl _)
  · intro bs h; rw [restB_lt h, packF_lt h]; simp
  · intro x r h ih; rw [restB_8 h, packF_8 h]; simp; omega

/-- the code's bits of a text -/
def encB : List UInt8 → List Bool
  | [] => []
  | x :: l => tb (codeN x) (bitsN x) ++ encB l
theorem encB_append (l m : List UInt8) : encB (l ++ m) = encB l ++ encB m := by
  induction l with
  | nil => rfl
  | cons x l ih => simp only [List.cons_append, encB, ih, List.append_assoc]
theorem encB_len (l : List UInt8) : (encB l).length = bitSum l := by
  induction l with
  | nil => rfl
  | cons x l ih => simp only [encB, bitSum, List.length_append, tb_len, ih]
theorem encB_take (l : List UInt8) (k : Nat) (h : k < l.length) : encB (l.take (k + 1)) = encB (l.take k) ++ tb (codeN l[k]) (bitsN l[k]) := by
  rw [take_snoc l k h, encB_append]; simp [encB]
/-- the last byte, filled with ones -/
def lastB (bs : List Bool) : List UInt8 := if bs = [] then [] else [UInt8.ofNat (val (bs ++ List.replicate (8 - bs.length) true))]
/-- the coded text -/
def packL (bs : List Bool) : List UInt8 := packF bs ++ lastB (restB bs)
def encL (l : List UInt8) : List UInt8 := packL (encB l)
theorem packL_len (bs : List Bool) : (packL bs).length = (bs.length + 7) / 8 := by
  have h1 := pack_len bs
  have h2 := restB_len bs
  unfold packL lastB
  rw [List.length_append]
  split
  · rename_i h; rw [h] at h1; simp at h1 ⊢; omega
  · rename_i h
    have : 0 < (restB bs).length := List.length_pos_iff.2 h
    simp; omega
theorem encL_len (l : List UInt8) : (encL l).length = sizeL l := by unfold encL sizeL; rw [packL_len, encB_len]
theorem val_ones (bs : List Bool) (j : Nat) : val (bs ++ List.replicate j true) = val bs * 2 ^ j + (2 ^ j - 1) := by
  induction j with
  | zero => simp
  | succ j ih =>
    rw [List.replicate_succ', ← List.append_assoc, val_snoc, ih, Nat.pow_succ]
    have := Nat.one_le_two_pow (n := j)
    have e : val bs * (2 ^ j * 2) = 2 * (val bs * 2 ^ j) := by rw [← Nat.mul_assoc]; omega
    rw [e]
    simp
    omega
end Go.Proofs.YtaeanhpdlkgghaaDoor

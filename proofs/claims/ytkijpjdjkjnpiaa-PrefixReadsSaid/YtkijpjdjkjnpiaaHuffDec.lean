/- What decoding makes of bits: plain definitions and laws. -/
import Derived.Test.YtkijpjdjkjnpiaaHuffNth
import Derived.Test.YtkijpjdjkjnpiaaHuffRefEnc
namespace Go.Proofs.Ytkijpjdjkjnpiaa

/-- the code that stands first in held bits, from class c on, f classes -/
def nextAt (hold held : Nat) : Nat → Nat → Option (UInt8 × Nat)
  | 0, _ => none
  | f + 1, c => if held < lenN c then none
    else if firstN c ≤ hold / 2 ^ (held - lenN c) ∧ hold / 2 ^ (held - lenN c) - firstN c < (clsN c).length then some ((clsN c).getD (hold / 2 ^ (held - lenN c) - firstN c) 0, lenN c)
    else nextAt hold held f (c + 1)
def nextN (hold held : Nat) : Option (UInt8 × Nat) := nextAt hold held 5 0
/-- the bits of bytes -/
def bitsOf (l : List UInt8) : List Bool := l.flatMap fun b => tb b.toNat 8
theorem bitsOf_len (l : List UInt8) : (bitsOf l).length = 8 * l.length := by
  induction l with
  | nil => rfl
  | cons x r ih => simp only [bitsOf, List.flatMap_cons, List.length_append, tb_len, List.length_cons] at ih ⊢; omega
theorem bitsOf_append (l m : List UInt8) : bitsOf (l ++ m) = bitsOf l ++ bitsOf m := by simp [bitsOf]
theorem bitsOf_take (l : List UInt8) (k : Nat) (h : k < l.length) : bitsOf (l.take (k + 1)) = bitsOf (l.take k) ++ tb l[k].toNat 8 := by
  rw [List.take_succ_eq_append_getElem h, bitsOf_append]; simp [bitsOf]

/-- the code that stands first -/
def dec1 (bs : List Bool) : Option (UInt8 × Nat) := nextN (val bs) bs.length
/-- all codes, one behind the other: the text and what is left -/
def decF : Nat → List Bool → List UInt8 × List Bool
  | 0, bs => ([], bs)
  | f + 1, bs => match dec1 bs with
    | none => ([], bs)
    | some (x, l) => (x :: (decF f (bs.drop l)).1, (decF f (bs.drop l)).2)
def endE (rest : List Bool) : Int := if rest.length ≤ 7 ∧ rest = List.replicate rest.length true then 0 else if rest.length < 15 then 141 else 140
/-- what Decode answers -/
def decR (l : List UInt8) : List UInt8 × Int :=
  if 16384 < l.length then ([], 52)
  else if endE (decF (bitsOf l).length (bitsOf l)).2 = 0 then ((decF (bitsOf l).length (bitsOf l)).1, 0) else ([], endE (decF (bitsOf l).length (bitsOf l)).2)

theorem val_from (b : List Bool) : ∀ n : Nat, b.foldl (fun n b => 2 * n + b.toNat) n = n * 2 ^ b.length + val b := by
  induction b with
  | nil => intro n; simp [val]
  | cons x r ih =>
    intro n
    have h1 := ih (2 * n + x.toNat)
    have h2 := ih (2 * 0 + x.toNat)
    have e : val (x :: r) = r.foldl (fun n b => 2 * n + b.toNat) (2 * 0 + x.toNat) := rfl
    rw [List.foldl_cons, h1, e, h2, List.length_cons, Nat.pow_succ]
    rw [Nat.add_mul, Nat.mul_zero, Nat.zero_add, Nat.mul_comm 2 n, Nat.mul_assoc n 2, Nat.mul_comm 2 (2 ^ r.length)]
    omega
theorem val_append (a b : List Bool) : val (a ++ b) = val a * 2 ^ b.length + val b := by
  rw [← val_from b (val a)]
  unfold val
  rw [List.foldl_append]
theorem val_take (bs : List Bool) (l : Nat) (_ : l ≤ bs.length) : val (bs.take l) = val bs / 2 ^ (bs.length - l) := by
  have h1 : bs = bs.take l ++ bs.drop l := (List.take_append_drop l bs).symm
  have h2 := val_append (bs.take l) (bs.drop l)
  rw [← h1, List.length_drop] at h2
  have h3 := val_lt (bs.drop l)
  rw [List.length_drop] at h3
  rw [h2, Nat.mul_comm, Nat.mul_add_div (Nat.two_pow_pos _), Nat.div_eq_of_lt h3, Nat.add_zero]
theorem val_drop (bs : List Bool) (l : Nat) (_ : l ≤ bs.length) : val (bs.drop l) = val bs % 2 ^ (bs.length - l) := by
  have h1 : bs = bs.take l ++ bs.drop l := (List.take_append_drop l bs).symm
  have h2 := val_append (bs.take l) (bs.drop l)
  rw [← h1, List.length_drop] at h2
  have h3 := val_lt (bs.drop l)
  rw [List.length_drop] at h3
  rw [h2, Nat.mul_comm, Nat.mul_add_mod, Nat.mod_eq_of_lt h3]
theorem tb_val (bs : List Bool) : tb (val bs) bs.length = bs := by
  induction bs with
  | nil => rfl
  | cons x r ih =>
    have h1 := val_append [x] r
    have e : val [x] = x.toNat := by cases x <;> rfl
    rw [List.singleton_append, e] at h1
    rw [h1, List.length_cons, Nat.add_comm r.length 1, tb_append r.length x.toNat 1 (val r) (val_lt r), ih]
    cases x <;> rfl

/-- what stands behind the first code makes no difference -/
theorem nextAt_more (bs r : List Bool) : ∀ (f c : Nat) (x : UInt8) (l : Nat), nextAt (val bs) bs.length f c = some (x, l) → nextAt (val (bs ++ r)) (bs ++ r).length f c = some (x, l)
  | 0, _, _, _, h => by simp [nextAt] at h
  | f + 1, c, x, l, h => by
    unfold nextAt at h ⊢
    split at h
    · cases h
    · rename_i hl
      have hl' : lenN c ≤ bs.length := by omega
      rw [if_neg (by simp; omega)]
      have e : val (bs ++ r) / 2 ^ ((bs ++ r).length - lenN c) = val bs / 2 ^ (bs.length - lenN c) := by
        rw [← val_take _ _ hl', ← val_take _ _ (by simp; omega), List.take_append_of_le_length hl']
      rw [e]
      split at h
      · rename_i h2; rw [if_pos h2]; exact h
      · rename_i h2; rw [if_neg h2]; exact nextAt_more bs r f (c + 1) x l h
theorem dec1_more {bs : List Bool} {x : UInt8} {l : Nat} (r : List Bool) (h : dec1 bs = some (x, l)) : dec1 (bs ++ r) = some (x, l) := nextAt_more bs r 5 0 x l h
/-- ... where fifteen bits are at hand -/
theorem nextAt_same (bs r : List Bool) (hl : 15 ≤ bs.length) : ∀ (f c : Nat), nextAt (val (bs ++ r)) (bs ++ r).length f c = nextAt (val bs) bs.length f c
  | 0, _ => rfl
  | f + 1, c => by
    have h15 : lenN c ≤ 15 := by unfold lenN; split <;> omega
    have hA : ¬ (bs ++ r).length < lenN c := by simp; omega
    have hB : ¬ bs.length < lenN c := by omega
    have e : val (bs ++ r) / 2 ^ ((bs ++ r).length - lenN c) = val bs / 2 ^ (bs.length - lenN c) := by
      rw [← val_take _ _ (by omega), ← val_take _ _ (by omega), List.take_append_of_le_length (by omega)]
    simp only [nextAt, if_neg hA, if_neg hB, e, nextAt_same bs r hl f (c + 1)]
theorem dec1_same (bs r : List Bool) (hl : 15 ≤ bs.length) : dec1 (bs ++ r) = dec1 bs := nextAt_same bs r hl 5 0
/-- a code has five bits at least, and they are at hand -/
theorem nextAt_len (h n : Nat) : ∀ (f c : Nat) (x : UInt8) (l : Nat), nextAt h n f c = some (x, l) → 5 ≤ l ∧ l ≤ 15 ∧ l ≤ n
  | 0, _, _, _, h => by simp [nextAt] at h
  | f + 1, c, x, l, h => by
    have h15 : lenN c ≤ 15 := by unfold lenN; split <;> omega
    have h5 : 5 ≤ lenN c := by unfold lenN; split <;> omega
    unfold nextAt at h
    split at h
    · cases h
    · split at h
      · cases h; omega
      · exact nextAt_len _ _ f (c + 1) x l h
theorem dec1_len {bs : List Bool} {x : UInt8} {l : Nat} (h : dec1 bs = some (x, l)) : 5 ≤ l ∧ l ≤ 15 ∧ l ≤ bs.length := nextAt_len _ _ 5 0 x l h
/-- more fuel makes no difference -/
theorem decF_fuel : ∀ (f : Nat) (bs : List Bool) (k : Nat), bs.length ≤ f → decF (f + k) bs = decF f bs
  | 0, bs, k, h => by
    have : bs = [] := List.eq_nil_of_length_eq_zero (by omega)
    subst this
    cases k with
    | zero => rfl
    | succ k => rw [Nat.zero_add]; rfl
  | f + 1, bs, k, h => by
    rw [show f + 1 + k = (f + k) + 1 by omega]
    unfold decF
    cases hd : dec1 bs with
    | none => rfl
    | some p =>
      obtain ⟨x, l⟩ := p
      have := dec1_len hd
      simp only []
      rw [decF_fuel f (bs.drop l) k (by simp; omega)]
def decL (bs : List Bool) : List UInt8 × List Bool := decF bs.length bs
theorem decL_none {bs : List Bool} (h : dec1 bs = none) : decL bs = ([], bs) := by
  unfold decL
  cases hn : bs.length with
  | zero => rfl
  | succ n => unfold decF; rw [h]
theorem decL_some {bs : List Bool} {x : UInt8} {l : Nat} (h : dec1 bs = some (x, l)) : decL bs = (x :: (decL (bs.drop l)).1, (decL (bs.drop l)).2) := by
  have hl := dec1_len h
  unfold decL
  obtain ⟨n, hn⟩ : ∃ n, bs.length = n + 1 := ⟨bs.length - 1, by omega⟩
  rw [hn]
  conv => lhs; unfold decF
  rw [h]
  simp only []
  have e : n = (bs.drop l).length + (n - (bs.drop l).length) := by simp; omega
  rw [e, decF_fuel _ _ _ (Nat.le_refl _)]

/-! ### codes and their bytes -/
theorem code_dec (x : UInt8) : dec1 (tb (codeN x) (bitsN x)) = some (x, bitsN x) :=
  u8_all (p := fun x => dec1 (tb (codeN x) (bitsN x)) = some (x, bitsN x)) (by decide +kernel) x
theorem dec_enc (l : List UInt8) (r : List Bool) (hr : dec1 r = none) : decL (encB l ++ r) = (l, r) := by
  induction l with
  | nil => exact decL_none hr
  | cons x t ih =>
    have h1 := dec1_more (encB t ++ r) (code_dec x)
    have e : encB (x :: t) ++ r = tb (codeN x) (bitsN x) ++ (encB t ++ r) := by simp [encB]
    rw [e, decL_some h1]
    have e2 : (tb (codeN x) (bitsN x) ++ (encB t ++ r)).drop (bitsN x) = encB t ++ r := by rw [List.drop_left' (tb_len _ _)]
    rw [e2, ih]
theorem ones_none : ∀ j : Nat, j < 8 → dec1 (List.replicate j true) = none := by decide +kernel
theorem class_code : ∀ c : Nat, c < 5 → ∀ k : Nat, k < (clsN c).length → codeN ((clsN c).getD k 0) = firstN c + k ∧ bitsN ((clsN c).getD k 0) = lenN c := by decide +kernel
theorem nextAt_code (h n : Nat) : ∀ (f c : Nat) (x : UInt8) (l : Nat), f + c = 5 → nextAt h n f c = some (x, l) → l = bitsN x ∧ codeN x = h / 2 ^ (n - l)
  | 0, _, _, _, _, h => by simp [nextAt] at h
  | f + 1, c, x, l, hc, h => by
    unfold nextAt at h
    split at h
    · cases h
    · split at h
      · rename_i h2
        have h3 := class_code c (by omega) _ h2.2
        cases h
        exact ⟨h3.2.symm, by rw [h3.1]; omega⟩
      · exact nextAt_code _ _ f (c + 1) x l (by omega) h
theorem dec1_code {bs : List Bool} {x : UInt8} {l : Nat} (h : dec1 bs = some (x, l)) : bs = tb (codeN x) (bitsN x) ++ bs.drop l ∧ l = bitsN x := by
  have hl := dec1_len h
  obtain ⟨h1, h2⟩ := nextAt_code _ _ 5 0 x l rfl h
  refine ⟨?_, h1⟩
  rw [← h1, h2, ← val_take _ _ hl.2.2]
  have := tb_val (bs.take l)
  rw [List.length_take, Nat.min_eq_left hl.2.2] at this
  rw [this, List.take_append_drop]
theorem enc_dec : ∀ (n : Nat) (bs : List Bool), bs.length ≤ n → bs = encB (decL bs).1 ++ (decL bs).2 ∧ dec1 (decL bs).2 = none := by
  intro n
  induction n with
  | zero =>
    intro bs h
    obtain rfl : bs = [] := List.eq_nil_of_length_eq_zero (by omega)
    exact ⟨rfl, by decide +kernel⟩
  | succ n ih =>
    intro bs h
    cases hd : dec1 bs with
    | none => rw [decL_none hd]; exact ⟨rfl, hd⟩
    | some p =>
      obtain ⟨x, l⟩ := p
      have hl := dec1_len hd
      obtain ⟨h1, h2⟩ := ih (bs.drop l) (by simp; omega)
      rw [decL_some hd]
      refine ⟨?_, h2⟩
      simp only [encB, List.append_assoc]
      rw [← h1]
      exact (dec1_code hd).1
end Go.Proofs.Ytkijpjdjkjnpiaa

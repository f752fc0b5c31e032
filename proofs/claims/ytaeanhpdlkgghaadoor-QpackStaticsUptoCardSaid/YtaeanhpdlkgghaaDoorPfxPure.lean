/- Plain facts on the numbers behind bits: what is written, what is read. No program in sight. -/
import Derived.Test.YtaeanhpdlkgghaaDoorMem
namespace Go.Proofs.YtaeanhpdlkgghaaDoor

/-- the bytes behind full bits -/
def tailL (m : Nat) : List UInt8 := if m < 128 then [UInt8.ofNat m] else UInt8.ofNat (128 + m % 128) :: tailL (m / 128)
termination_by m
decreasing_by omega

theorem tailL_lt {m : Nat} (h : m < 128) : tailL m = [UInt8.ofNat m] := by rw [tailL, if_pos h]
theorem tailL_ge {m : Nat} (h : 128 ≤ m) : tailL m = UInt8.ofNat (128 + m % 128) :: tailL (m / 128) := by rw [tailL, if_neg (by omega)]

theorem tailL_len : ∀ (k m : Nat), m < 128 ^ (k + 1) → (tailL m).length ≤ k + 1 := by
  intro k
  induction k with
  | zero => intro m h; rw [tailL_lt (by simpa using h)]; simp
  | succ k ih =>
    intro m h
    by_cases hm : m < 128
    · rw [tailL_lt hm]; simp
    · rw [tailL_ge (by omega)]
      have := ih (m / 128) (by rw [Nat.pow_succ] at h; omega)
      simp only [List.length_cons]
      omega

/-- a number behind its bits -/
def putL (n bits first : Nat) : List UInt8 :=
  if n < 2 ^ bits - 1 then [UInt8.ofNat (first / 2 ^ bits * 2 ^ bits + n)]
  else UInt8.ofNat (first / 2 ^ bits * 2 ^ bits + (2 ^ bits - 1)) :: tailL (n - (2 ^ bits - 1))

theorem putL_len (n bits first : Nat) (h : n < 4611686018427387904) : (putL n bits first).length ≤ 10 := by
  unfold putL
  split
  · simp
  · have := tailL_len 8 (n - (2 ^ bits - 1)) (by omega)
    simp only [List.length_cons]
    omega

/-- what Put answers: the bytes, the error's number -/
def putR (n bits first : Int) : List UInt8 × Int :=
  if bits < 1 ∨ 8 < bits then ([], 150) else if n < 0 ∨ 4611686018427387903 < n then ([], 10) else (putL n.toNat bits.toNat first.toNat, 0)

theorem or_ofNat (a b : Nat) (ha : a < 256) (hb : b < 256) : Go.bits .or .u8 (a : Int) (b : Int) = ((a ||| b : Nat) : Int) := u8_or_nat a b ha hb

theorem pow_le_256 (k : Nat) (h : k ≤ 8) : 2 ^ k ≤ 256 := Nat.pow_le_pow_right (n := 2) (by decide) h
theorem two_le_pow (k : Nat) (h : 1 ≤ k) : 2 ≤ 2 ^ k := (by have := Nat.pow_le_pow_right (n := 2) (by decide) h; simpa using this)

/-- first with its last k bits struck -/
theorem andNot_low (x k : Nat) (hx : x < 256) (hk : k ≤ 8) : x &&& (255 - (2 ^ k - 1)) = x / 2 ^ k * 2 ^ k := by
  have hk' : k = 0 ∨ k = 1 ∨ k = 2 ∨ k = 3 ∨ k = 4 ∨ k = 5 ∨ k = 6 ∨ k = 7 ∨ k = 8 := by omega
  have key : ∀ k : Fin 9, ∀ x : Fin 256, x.val &&& (255 - (2 ^ k.val - 1)) = x.val / 2 ^ k.val * 2 ^ k.val := by decide +kernel
  exact key ⟨k, by omega⟩ ⟨x, hx⟩

theorem u8_or_low (h k n : Nat) (hk : k ≤ 8) (hh : h % 2 ^ k = 0) (hh' : h < 256) (hn : n < 2 ^ k) : Go.bits .or .u8 (h : Int) (n : Int) = ((h + n : Nat) : Int) := by
  have hp := pow_le_256 k hk
  rw [u8_or_nat h n hh' (by omega), nat_join k h n hh hn]

/-- the high bits of first -/
def highN (first bits : Nat) : Nat := first / 2 ^ bits * 2 ^ bits
theorem highN_mod (f b : Nat) : highN f b % 2 ^ b = 0 := Nat.mul_mod_left _ _
theorem highN_le (f b : Nat) : highN f b ≤ f := Nat.div_mul_le_self _ _
theorem highN_add (f b : Nat) (hb : b ≤ 8) (hf : f < 256) : highN f b + (2 ^ b - 1) < 256 := by
  have key : ∀ k : Fin 9, ∀ x : Fin 256, x.val / 2 ^ k.val * 2 ^ k.val + (2 ^ k.val - 1) < 256 := by decide +kernel
  exact key ⟨b, by omega⟩ ⟨f, hf⟩

theorem bits_andNot (first bits : Nat) (hf : first < 256) (hb : bits ≤ 8) : Go.bits .andNot .u8 (first : Int) (2 ^ bits - 1 : Int) = (highN first bits : Int) := by
  have hp := pow_le_256 bits hb
  have h1 : 1 ≤ 2 ^ bits := Nat.one_le_two_pow
  have e : (2 ^ bits - 1 : Int) = ((2 ^ bits - 1 : Nat) : Int) := by rw [Int.ofNat_sub h1]; simp
  rw [e, u8_andNot_nat first _ hf (by omega), andNot_low first bits hf hb]
  rfl
theorem bits_or (first bits n : Nat) (hf : first < 256) (hb : bits ≤ 8) (hn : n < 2 ^ bits) : Go.bits .or .u8 (highN first bits : Int) (n : Int) = ((highN first bits + n : Nat) : Int) :=
  u8_or_low _ _ _ hb (highN_mod _ _) (by have := highN_le first bits; omega) hn
theorem bits_or128 (n : Nat) (hn : n < 128) : Go.bits .or .u8 (n : Int) 128 = ((128 + n : Nat) : Int) := by
  have := u8_or_nat n 128 (by omega) (by omega)
  rw [show ((128 : Nat) : Int) = 128 from rfl] at this
  rw [this, Nat.or_comm, nat_join 7 128 n (by decide) (by omega)]
theorem or128 (r : Nat) (h : r < 256) : r ||| 128 = 128 + r % 128 := by
  have key : ∀ x : Fin 256, x.val ||| 128 = 128 + x.val % 128 := by decide +kernel
  exact key ⟨r, h⟩
theorem bits_or128m (m : Nat) : Go.bits .or .u8 ((m : Int) % 256) 128 = ((128 + m % 128 : Nat) : Int) := by
  have e : (m : Int) % 256 = ((m % 256 : Nat) : Int) := by omega
  have := u8_or_nat (m % 256) 128 (by omega) (by omega)
  rw [show ((128 : Nat) : Int) = 128 from rfl] at this
  rw [e, this, or128 _ (by omega)]
  omega
theorem toNat_ofNat {k : Nat} (h : k < 256) : (UInt8.ofNat k).toNat = k := by simp; omega
/-- a byte laid as a cell -/
theorem bv_snoc (l : List UInt8) (k : Nat) (h : k < 256) : bv l ++ [Value.int .u8 (k : Int)] = bv (l ++ [UInt8.ofNat k]) := by
  rw [bv_append]; simp [bv]; omega
theorem bv_single {k : Nat} (h : k < 256) : bv [UInt8.ofNat k] = [Value.int .u8 (k : Int)] := by simp [bv]; omega
theorem putL_ge {n bits first : Nat} (h : 2 ^ bits - 1 ≤ n) : putL n bits first = UInt8.ofNat (highN first bits + (2 ^ bits - 1)) :: tailL (n - (2 ^ bits - 1)) := by
  unfold putL highN; rw [if_neg (by omega)]
theorem putL_lt {n bits first : Nat} (h : n < 2 ^ bits - 1) : putL n bits first = [UInt8.ofNat (highN first bits + n)] := by
  unfold putL highN; rw [if_pos h]

/-- a number that goes on behind its bits: the bytes that are left, how many were read, the number so far, the place -/
def getT : List UInt8 → Nat → Nat → Nat → Int × Int × Int
  | [], _, _, _ => (0, 0, 12)
  | x :: r, i, n, pos =>
    if (4611686018427387903 - n) / 2 ^ (7 * i) < x.toNat % 128 then (0, 0, 151)
    else if x.toNat < 128 then (((n + x.toNat % 128 * 2 ^ (7 * i) : Nat) : Int), ((pos + 1 : Nat) : Int), 0)
    else if i = 9 then (0, 0, 151)
    else getT r (i + 1) (n + x.toNat % 128 * 2 ^ (7 * i)) (pos + 1)
def getR (l : List UInt8) (at_ bits : Int) : Int × Int × Int :=
  if bits < 1 ∨ 8 < bits then (0, 0, 150) else if at_ < 0 ∨ (l.length : Int) < at_ then (0, 0, 11) else if at_ = l.length then (0, 0, 12)
  else if (l[at_.toNat]?.getD 0).toNat % 2 ^ bits.toNat < 2 ^ bits.toNat - 1 then ((((l[at_.toNat]?.getD 0).toNat % 2 ^ bits.toNat : Nat) : Int), at_ + 1, 0)
  else getT (l.drop (at_.toNat + 1)) 0 (2 ^ bits.toNat - 1) (at_.toNat + 1)
theorem getR_bits {l : List UInt8} {at_ bits : Int} (h : bits < 1 ∨ 8 < bits) : getR l at_ bits = (0, 0, 150) := by unfold getR; rw [if_pos h]
theorem getR_at {l : List UInt8} {at_ bits : Int} (h : 1 ≤ bits) (h' : bits ≤ 8) (ha : at_ < 0 ∨ (l.length : Int) < at_) : getR l at_ bits = (0, 0, 11) := by
  unfold getR; rw [if_neg (by omega), if_pos ha]
theorem getR_end {l : List UInt8} {bits : Int} (h : 1 ≤ bits) (h' : bits ≤ 8) : getR l (l.length : Int) bits = (0, 0, 12) := by
  unfold getR; rw [if_neg (by omega), if_neg (by omega), if_pos rfl]
theorem getR_lt {l : List UInt8} {k b : Nat} (h : 1 ≤ b) (h' : b ≤ 8) (hk : k < l.length) (hx : l[k].toNat % 2 ^ b < 2 ^ b - 1) :
    getR l (k : Int) (b : Int) = (((l[k].toNat % 2 ^ b : Nat) : Int), (k : Int) + 1, 0) := by
  unfold getR; rw [if_neg (by omega), if_neg (by omega), if_neg (by omega)]; simp only [Int.toNat_natCast, List.getElem?_eq_getElem hk, Option.getD_some]; rw [if_pos hx]
theorem getR_ge {l : List UInt8} {k b : Nat} (h : 1 ≤ b) (h' : b ≤ 8) (hk : k < l.length) (hx : ¬ l[k].toNat % 2 ^ b < 2 ^ b - 1) :
    getR l (k : Int) (b : Int) = getT (l.drop (k + 1)) 0 (2 ^ b - 1) (k + 1) := by
  unfold getR; rw [if_neg (by omega), if_neg (by omega), if_neg (by omega)]; simp only [Int.toNat_natCast, List.getElem?_eq_getElem hk, Option.getD_some]; rw [if_neg hx]
theorem getT_step {l : List UInt8} {p : Nat} (hp : p < l.length) (i n : Nat) : getT (l.drop p) i n p =
    if (4611686018427387903 - n) / 2 ^ (7 * i) < l[p].toNat % 128 then (0, 0, 151)
    else if l[p].toNat < 128 then (((n + l[p].toNat % 128 * 2 ^ (7 * i) : Nat) : Int), ((p + 1 : Nat) : Int), 0)
    else if i = 9 then (0, 0, 151)
    else getT (l.drop (p + 1)) (i + 1) (n + l[p].toNat % 128 * 2 ^ (7 * i)) (p + 1) := by
  rw [List.drop_eq_getElem_cons hp, getT]
theorem getT_nil {l : List UInt8} {p : Nat} (hp : l.length ≤ p) (i n : Nat) : getT (l.drop p) i n p = (0, 0, 12) := by rw [List.drop_of_length_le hp, getT]
theorem and127 (x : Nat) : x &&& 127 = x % 128 := Nat.and_two_pow_sub_one_eq_mod x 7
theorem part_fits {n p q : Nat} (h : ¬ (4611686018427387903 - n) / q < p) (hn : n ≤ 4611686018427387903) : n + p * q ≤ 4611686018427387903 := by
  have h1 : p ≤ (4611686018427387903 - n) / q := by omega
  rcases Nat.eq_zero_or_pos q with rfl | hq
  · simp; omega
  · have := (Nat.le_div_iff_mul_le hq).1 h1
    omega
theorem div_cast (n i : Nat) (hn : n ≤ 4611686018427387903) : ((4611686018427387903 : Int) - n) / 2 ^ (7 * i) = (((4611686018427387903 - n) / 2 ^ (7 * i) : Nat) : Int) := by
  rw [← two_pow_cast, show (4611686018427387903 : Int) - n = ((4611686018427387903 - n : Nat) : Int) by omega]
  exact (Int.natCast_ediv _ _).symm

/-- what is read behind full bits is written in no more bytes -/
theorem getT_tail : ∀ (l : List UInt8) (i n pos : Nat) (m e : Int), getT l i n pos = (m, e, 0) → n ≤ 4611686018427387903 →
    ∃ v j : Nat, m = ((n + v * 2 ^ (7 * i) : Nat) : Int) ∧ e = ((pos + j : Nat) : Int) ∧ 1 ≤ j ∧ j ≤ l.length ∧ (tailL v).length ≤ j ∧ ((tailL v).length = j → tailL v = l.take j) ∧ m ≤ 4611686018427387903 := by
  intro l
  induction l with
  | nil => intro i n pos m e h; simp [getT] at h
  | cons x r ih =>
    intro i n pos m e h hn
    rw [getT] at h
    have hx := x.toNat_lt
    split at h
    · simp at h
    · rename_i hb
      have hfit := part_fits hb hn
      split at h
      · rename_i hx128
        simp only [Prod.mk.injEq, and_true] at h
        obtain ⟨rfl, rfl⟩ := h
        refine ⟨x.toNat % 128, 1, rfl, rfl, Nat.le_refl _, by simp, ?_, ?_, by omega⟩
        · rw [tailL_lt (by omega)]; simp
        · intro _
          rw [tailL_lt (by omega), Nat.mod_eq_of_lt hx128]; simp
      · rename_i hx128
        split at h
        · simp at h
        · obtain ⟨v, j, rfl, rfl, h1, h2, h3, h4, h5⟩ := ih (i + 1) _ (pos + 1) m e h hfit
          have e1 : n + x.toNat % 128 * 2 ^ (7 * i) + v * 2 ^ (7 * (i + 1)) = n + (x.toNat % 128 + 128 * v) * 2 ^ (7 * i) := by
            rw [Nat.mul_add, Nat.pow_add, Nat.add_mul, Nat.add_assoc]
            congr 2
            rw [show 2 ^ (7 * 1) = 128 from rfl, Nat.mul_comm 128 v, Nat.mul_assoc, Nat.mul_comm 128 (2 ^ (7 * i))]
          refine ⟨x.toNat % 128 + 128 * v, j + 1, by rw [e1], by omega, by omega, by simpa using h2, ?_, ?_, h5⟩
          · by_cases hv : v = 0
            · subst hv; rw [tailL_lt (by omega)]; simp
            · rw [tailL_ge (by omega), show (x.toNat % 128 + 128 * v) / 128 = v by omega]; simpa using h3
          · intro hl
            by_cases hv : v = 0
            · subst hv; rw [tailL_lt (by omega)] at hl; simp at hl; omega
            · rw [tailL_ge (by omega), show (x.toNat % 128 + 128 * v) / 128 = v by omega] at hl ⊢
              simp only [List.length_cons, Nat.add_right_cancel_iff] at hl
              rw [List.take_succ_cons, h4 hl, show 128 + (x.toNat % 128 + 128 * v) % 128 = x.toNat by omega]
              simp
/-- what Get reads, Put writes in no more bytes -/
theorem getR_least {l : List UInt8} {bits N E : Int} (h : getR l 0 bits = (N, E, 0)) :
    0 ≤ N ∧ N ≤ 4611686018427387903 ∧ 1 ≤ bits ∧ bits ≤ 8 ∧ (∃ hp : 0 < l.length, ∃ j : Nat, E = (j : Int) ∧ j ≤ l.length ∧ (putL N.toNat bits.toNat l[0].toNat).length ≤ j ∧ ((putL N.toNat bits.toNat l[0].toNat).length = j → putL N.toNat bits.toNat l[0].toNat = l.take j)) := by
  unfold getR at h
  split at h
  · simp at h
  · rename_i hb
    split at h
    · simp at h
    · split at h
      · simp at h
      · rename_i h1 h2
        have hp : 0 < l.length := by omega
        obtain ⟨b, rfl⟩ := Int.eq_ofNat_of_zero_le (show 0 ≤ bits by omega)
        have P1 := two_le_pow b (by omega)
        have P2 := pow_le_256 b (by omega)
        have hx := l[0].toNat_lt
        have hhigh : l[0].toNat / 2 ^ b * 2 ^ b + l[0].toNat % 2 ^ b = l[0].toNat := by rw [Nat.mul_comm]; exact Nat.div_add_mod _ _
        have hmod := Nat.mod_lt l[0].toNat (show 0 < 2 ^ b by omega)
        simp only [Int.toNat_natCast, Int.toNat_zero, List.getElem?_eq_getElem hp, Option.getD_some, Nat.zero_add] at h
        split at h
        · rename_i hlt
          simp only [Prod.mk.injEq, and_true] at h
          obtain ⟨rfl, rfl⟩ := h
          refine ⟨by omega, by omega, by omega, by omega, hp, 1, rfl, by omega, ?_, fun _ => ?_⟩
          · rw [Int.toNat_natCast, putL_lt (by simpa using hlt)]; simp
          · rw [Int.toNat_natCast, putL_lt (by simpa using hlt)]
            simp only [Int.toNat_natCast]
            unfold highN
            rw [hhigh]
            cases l with
            | nil => simp at hp
            | cons x r => simp
        · rename_i hge
          obtain ⟨v, j, rfl, rfl, g1, g2, g3, g4, g5⟩ := getT_tail _ _ _ _ _ _ h (by omega)
          have hx1 : l[0].toNat % 2 ^ b = 2 ^ b - 1 := by omega
          have hN : ((2 ^ b - 1 + v * 2 ^ (7 * 0) : Nat) : Int).toNat = 2 ^ b - 1 + v := by simp only [Nat.mul_zero, Nat.pow_zero, Nat.mul_one, Int.toNat_natCast]
          have hput : putL (2 ^ b - 1 + v) b l[0].toNat = l[0] :: tailL v := by
            rw [putL_ge (by omega), show 2 ^ b - 1 + v - (2 ^ b - 1) = v by omega]
            unfold highN
            rw [show l[0].toNat / 2 ^ b * 2 ^ b + (2 ^ b - 1) = l[0].toNat by omega]
            simp
          refine ⟨by omega, g5, by omega, by omega, hp, 1 + j, by omega, ?_, ?_, ?_⟩
          · simp at g2; omega
          · rw [hN, Int.toNat_natCast, hput]; simp; omega
          · rw [hN, Int.toNat_natCast, hput]
            intro hl
            rw [g4 (by simp at hl; omega)]
            cases l with
            | nil => simp at hp
            | cons x r => simp [Nat.add_comm 1 j]
theorem getR_none {l : List UInt8} {at_ bits N E F : Int} (h : getR l at_ bits = (N, E, F)) (hF : F ≠ 0) : N = 0 ∧ E = 0 := by
  have key : ∀ (l : List UInt8) (i n pos : Nat) (N E F : Int), getT l i n pos = (N, E, F) → F ≠ 0 → N = 0 ∧ E = 0 := by
    intro l
    induction l with
    | nil => intro i n pos N E F h _; simp [getT] at h; omega
    | cons x r ih =>
      intro i n pos N E F h hF
      rw [getT] at h
      split at h
      · simp at h; omega
      · split at h
        · simp at h; omega
        · split at h
          · simp at h; omega
          · exact ih _ _ _ _ _ _ h hF
  unfold getR at h
  split at h
  · simp at h; omega
  · split at h
    · simp at h; omega
    · split at h
      · simp at h; omega
      · split at h
        · simp at h; omega
        · exact key _ _ _ _ _ _ _ h hF
end Go.Proofs.YtaeanhpdlkgghaaDoor

/- HuffBack and HuffOnce answer true. -/
import Derived.Test.YtkijpjdjkjnpiaaHuffDecode2
import Derived.Test.YtkijpjdjkjnpiaaHuffLaw1
namespace Go.Proofs.Ytkijpjdjkjnpiaa
open Go.RowKit

theorem bitsOf_pack : ∀ (n : Nat) (bs : List Bool), bs.length ≤ n → bitsOf (packF bs) ++ restB bs = bs := by
  intro n
  induction n using Nat.strongRecOn with
  | ind n ih =>
    intro bs hn
    by_cases h : bs.length < 8
    · rw [packF_lt h, restB_lt h]; rfl
    · have e : bs = bs.take 8 ++ bs.drop 8 := (List.take_append_drop 8 bs).symm
      have h8 : (bs.take 8).length = 8 := by simp; omega
      rw [e, packF_8 h8, restB_8 h8]
      have hv := val_lt8 (bs.take 8) (by omega)
      have ih' := ih (bs.length - 8) (by omega) (bs.drop 8) (by simp)
      have hb : bitsOf (UInt8.ofNat (val (bs.take 8)) :: packF (bs.drop 8)) = bs.take 8 ++ bitsOf (packF (bs.drop 8)) := by
        simp only [bitsOf, List.flatMap_cons]
        congr 1
        have := tb_val (bs.take 8)
        rw [h8] at this
        conv => rhs; rw [← this]
        congr 1
        simp
        omega
      rw [hb, List.append_assoc, ih']
/-- a coded text's bits: the codes, then ones -/
theorem bitsOf_enc (l : List UInt8) : ∃ j, j < 8 ∧ bitsOf (encL l) = encB l ++ List.replicate j true := by
  have h1 := bitsOf_pack _ (encB l) (Nat.le_refl _)
  have h2 := restB_len (encB l)
  unfold encL packL lastB
  by_cases h : restB (encB l) = []
  · refine ⟨0, by decide, ?_⟩
    rw [if_pos h, List.append_nil]
    rw [h, List.append_nil] at h1
    simpa using h1
  · refine ⟨8 - (restB (encB l)).length, by have : 0 < (restB (encB l)).length := List.length_pos_iff.2 h; omega, ?_⟩
    rw [if_neg h, bitsOf_append]
    have hl : (restB (encB l) ++ List.replicate (8 - (restB (encB l)).length) true).length = 8 := by simp; omega
    have hb : bitsOf [UInt8.ofNat (val (restB (encB l) ++ List.replicate (8 - (restB (encB l)).length) true))] = restB (encB l) ++ List.replicate (8 - (restB (encB l)).length) true := by
      have hv := val_lt8 _ (Nat.le_of_eq hl)
      have := tb_val (restB (encB l) ++ List.replicate (8 - (restB (encB l)).length) true)
      rw [hl] at this
      simp only [bitsOf, List.flatMap_cons, List.flatMap_nil, List.append_nil]
      conv => rhs; rw [← this]
      congr 1
      simp
      omega
    rw [hb, ← List.append_assoc, h1]
theorem ones_end (j : Nat) (h : j < 8) : endE (List.replicate j true) = 0 := by
  unfold endE
  rw [if_pos ⟨by simp; omega, by simp⟩]
theorem back (l : List UInt8) (h : (encL l).length ≤ 16384) : decR (encL l) = (l, 0) := by
  obtain ⟨j, hj, hb⟩ := bitsOf_enc l
  have h1 := dec_enc l (List.replicate j true) (ones_none j hj)
  rw [decR_ok h, hb, h1]
  rw [if_pos (ones_end j hj)]
theorem back_big (l : List UInt8) (h : ¬ (encL l).length ≤ 16384) : decR (encL l) = ([], 52) := by
  unfold decR; rw [if_pos (by omega)]
theorem bitsOf_inj : ∀ (a b : List UInt8), bitsOf a = bitsOf b → a = b
  | [], [], _ => rfl
  | [], y :: b, h => by have := congrArg List.length h; rw [bitsOf_len, bitsOf_len] at this; simp at this
  | x :: a, [], h => by have := congrArg List.length h; rw [bitsOf_len, bitsOf_len] at this; simp at this
  | x :: a, y :: b, h => by
    simp only [bitsOf, List.flatMap_cons] at h
    have h1 := List.append_inj h (by rw [tb_len, tb_len])
    have h2 := congrArg val h1.1
    rw [val_tb, val_tb] at h2
    have hx := x.toNat_lt
    have hy := y.toNat_lt
    have e : x = y := UInt8.toNat_inj.1 (by omega)
    rw [e, bitsOf_inj a b h1.2]
theorem once (b : List UInt8) (h : (decR b).2 = 0) : encL (decR b).1 = b := by
  by_cases hb : b.length ≤ 16384
  · rw [decR_ok hb] at h ⊢
    split at h
    · rename_i h0
      rw [if_pos h0]
      obtain ⟨h1, h2⟩ := enc_dec _ (bitsOf b) (Nat.le_refl _)
      have h3 : (decL (bitsOf b)).2.length ≤ 7 ∧ (decL (bitsOf b)).2 = List.replicate (decL (bitsOf b)).2.length true := by
        unfold endE at h0
        split at h0
        · assumption
        · split at h0 <;> cases h0
      obtain ⟨j, hj, hb2⟩ := bitsOf_enc (decL (bitsOf b)).1
      refine bitsOf_inj _ _ ?_
      rw [hb2]
      conv => rhs; rw [h1, h3.2]
      have l1 := congrArg List.length hb2
      have l2 := congrArg List.length h1
      rw [bitsOf_len] at l1 l2
      simp only [List.length_append, List.length_replicate] at l1 l2
      have : j = (decL (bitsOf b)).2.length := by omega
      rw [this]
    · rename_i h0
      exact absurd h h0
  · unfold decR at h
    rw [if_pos (by omega)] at h
    cases h
end Go.Proofs.Ytkijpjdjkjnpiaa

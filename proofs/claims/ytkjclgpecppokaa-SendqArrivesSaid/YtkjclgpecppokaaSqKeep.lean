/- A queue that loses nothing and is told at once: what it answers. Plain lemmas. -/
import Derived.Test.YtkjclgpecppokaaSqAck
namespace Go.Proofs.Ytkjclgpecppokaa
open Go.RowKit

/-- all that is kept is fresh -/
def idle (room base : Nat) (data : List UInt8) : Qu := ⟨room, base, base, data, List.replicate data.length 0, false, 0⟩
theorem idle_ok {room base : Nat} {data : List UInt8} (h1 : 1 ≤ room) (h2 : room ≤ 65536) (h3 : data.length ≤ room) (h4 : base + data.length ≤ 1152921504606846976) : (idle room base data).Ok :=
  ⟨by simp [idle], h1, h2, h3, Nat.le_refl _, by simp [idle], h4⟩
theorem idle_new (room : Nat) : Qu.new room = idle room 0 [] := rfl
theorem idle_took (room base : Nat) (data l : List UInt8) : (idle room base data).took l = min l.length (room - data.length) := by simp [Qu.took, idle]
theorem idle_write (room base : Nat) (data l : List UInt8) : (idle room base data).write l = idle room base (data ++ l.take (min l.length (room - data.length))) := by
  unfold Qu.write
  rw [idle_took]
  simp only [idle, List.length_append, List.length_take, List.replicate_append_replicate]
  congr 2
  omega
theorem ib_no {l : List UInt8} {x : UInt8} (h : ∀ y ∈ l, y ≠ x) : Lib.indexByte l x < 0 := by
  refine Int.not_le.1 fun h0 => ?_
  obtain ⟨m, hm⟩ := Int.eq_ofNat_of_zero_le h0
  have := (Lib.indexByte_some hm).1
  exact h x (List.mem_of_getElem? this) rfl
theorem ib_head {l : List UInt8} {x : UInt8} (h : l[0]? = some x) : Lib.indexByte l x = 0 := by
  have h1 := Lib.indexByte_ge l x
  rcases Int.lt_or_le (Lib.indexByte l x) 0 with h2 | h2
  · have h4 : Lib.indexByte l x = -1 := by omega
    exact absurd h (Lib.indexByte_none h4 0)
  · obtain ⟨m, hm⟩ := Int.eq_ofNat_of_zero_le h2
    obtain ⟨g1, g2⟩ := Lib.indexByte_some hm
    rcases Nat.eq_zero_or_pos m with rfl | hp
    · exact hm
    · exact absurd h (g2 0 hp)
/-- Next of such a queue: nothing, or a piece of its head -/
theorem idle_next (room base : Nat) (data : List UInt8) (most limit : Int) :
    ((idle room base data).out most limit = ⟨0, [], false, false⟩ ∧ (idle room base data).next most limit = idle room base data) ∨
    ∃ n, 0 < n ∧ n ≤ data.length ∧ (idle room base data).out most limit = ⟨base, data.take n, false, true⟩ ∧
      (idle room base data).next most limit = ⟨room, base, base + n, data, turned (List.replicate data.length 0) 0 n 1, false, 0⟩ := by
  have hno2 : Lib.indexByte (idle room base data).st 2 < 0 := ib_no (fun y hy => by simp only [idle, List.mem_replicate] at hy; rw [hy.2]; decide)
  have hop : (idle room base data).opens = false := rfl
  by_cases hn : ((idle room base data).pick most limit).2 = 0
  · refine .inl ⟨?_, ?_⟩
    · unfold Qu.out; rw [if_pos ⟨hn, .inl hop⟩]
    · unfold Qu.next; rw [if_pos ⟨hn, .inl hop⟩]
  · have hno : ¬ (idle room base data).none most limit := fun h => hn h.1
    have hp : ((idle room base data).pick most limit).1 = 0 := by
      unfold Qu.pick at hn ⊢
      rw [if_neg (by omega)] at hn ⊢
      split
      · rename_i h
        have hl := ib_lt h.1
        rw [ib_head]
        · rfl
        · simp only [idle, List.getElem?_replicate, List.length_replicate] at hl ⊢
          rw [if_pos (by omega)]
      · rfl
    have hle := (idle room base data).pick_le most limit
    have hst : (idle room base data).start most limit = 0 := by unfold Qu.start; rw [if_neg hn, hp]
    have he : (idle room base data).ends most limit = false := by unfold Qu.ends; rw [hop]; rfl
    refine .inr ⟨((idle room base data).pick most limit).2, by omega, by simp only [idle, List.length_replicate] at hle ⊢; omega, ?_, ?_⟩
    · unfold Qu.out; rw [if_neg hno, hst, he]; rfl
    · unfold Qu.next; rw [if_neg hno, hst, he]
      simp only [idle, Nat.add_zero, Bool.false_eq_true, if_false]
      congr 1
      omega
/-- the piece is told -/
theorem idle_ack (room base : Nat) (data : List UInt8) (n : Nat) (h0 : 0 < n) (hn : n ≤ data.length) :
    ∀ p : Qu, p = ⟨room, base, base + n, data, turned (List.replicate data.length 0) 0 n 1, false, 0⟩ → p.ack (base : Int) (n : Int) false = idle room (base + n) (data.drop n) ∧ p.terr (base : Int) (n : Int) false = 0 := by
  intro p hp
  have hr : p.right (base : Int) (n : Int) false = true := by
    unfold Qu.right
    rw [hp]
    simp only [Bool.not_false, Bool.true_or, Bool.and_true, decide_eq_true_eq]
    omega
  have hlen : (turned (List.replicate data.length (0 : UInt8)) 0 n 1).length = data.length := by rw [turned_len _ _ _ _ (by simp; omega)]; simp
  have hm : mapped (turned (List.replicate data.length 0) 0 n 1) 0 n turnAck = List.replicate n 3 ++ List.replicate (data.length - n) 0 := by
    apply List.ext_getElem?
    intro i
    rw [mapped_get, turned_get _ _ _ _ _ (by simp; omega), List.getElem?_append, List.getElem?_replicate, List.getElem?_replicate, List.getElem?_replicate]
    simp only [List.length_replicate]
    by_cases h1 : i < n
    · rw [if_pos ⟨Nat.zero_le _, h1⟩, if_pos (by omega), if_pos h1, if_pos h1]; rfl
    · rw [if_neg (by omega), if_neg (by omega), if_neg h1]
      by_cases h2 : i < data.length
      · rw [if_pos h2, if_pos (by omega)]
      · rw [if_neg h2, if_neg (by omega)]
  have hk : p.kept (base : Int) (n : Int) = n := by
    unfold Qu.kept
    rw [hp]
    simp only [Int.toNat_natCast, Nat.sub_self, Nat.add_sub_cancel_left, hm, hlen]
    refine runL_is 3 _ _ n hn (fun j hj => ?_) ?_
    · rw [List.getElem?_append_left (by simp; omega), List.getElem?_replicate, if_pos hj]
    · by_cases h2 : n = data.length
      · exact .inl h2
      · refine .inr ?_
        rw [List.getElem?_append_right (by simp), List.getElem?_replicate]
        simp only [List.length_replicate, Nat.sub_self]
        rw [if_pos (by omega)]
        decide
  refine ⟨?_, by unfold Qu.terr; rw [if_pos hr]⟩
  unfold Qu.ack
  rw [if_pos hr, hk, hp]
  simp only [Int.toNat_natCast, Nat.sub_self, Nat.add_sub_cancel_left, hm, idle, List.length_drop, Bool.false_eq_true, if_false]
  congr 1
  rw [List.drop_left' (by simp)]
end Go.Proofs.Ytkjclgpecppokaa

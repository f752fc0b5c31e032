/- Contracts of the reference's value, Size and Encode. -/
import Derived.Test.YtkijpjdjkjnpiaaHuffRefCode
namespace Go.Proofs.Ytkijpjdjkjnpiaa
open Go.RowKit

theorem val_lt (bs : List Bool) : val bs < 2 ^ bs.length := by
  have key : ∀ (bs : List Bool) (n : Nat), bs.foldl (fun n b => 2 * n + b.toNat) n < (n + 1) * 2 ^ bs.length := by
    intro bs
    induction bs with
    | nil => intro n; simp
    | cons b bs ih =>
      intro n
      have h := ih (2 * n + b.toNat)
      have hb : b.toNat ≤ 1 := by cases b <;> decide
      have h2 : (2 * n + b.toNat + 1) * 2 ^ bs.length ≤ ((n + 1) * 2) * 2 ^ bs.length := Nat.mul_le_mul_right _ (by omega)
      rw [List.foldl_cons, List.length_cons, Nat.pow_succ, Nat.mul_comm (2 ^ bs.length) 2, ← Nat.mul_assoc]
      omega
  have := key bs 0
  unfold val
  simpa using this
theorem val_lt8 (bs : List Bool) (h : bs.length ≤ 8) : val bs < 256 := by
  have h1 := val_lt bs
  have h2 : 2 ^ bs.length ≤ 2 ^ 8 := Nat.pow_le_pow_right (by decide) h
  omega
theorem bitsS_get (bs : List Bool) (k : Nat) (h : k < (strB (bitsS bs)).size) : ∃ hk : k < bs.length, (strB (bitsS bs))[k].toNat = if bs[k] then 49 else 48 := by
  have hk : k < bs.length := by rw [strB_size, bitsS_len] at h; exact h
  refine ⟨hk, ?_⟩
  have h1 := strB_get _ k h
  rw [List.getElem?_eq_getElem (by rw [bitsS_len]; exact hk)] at h1
  rw [← Option.some.inj h1]
  simp only [bitsS, List.getElem_map]
  split <;> rfl

set_option maxRecDepth 100000 in
set_option maxHeartbeats 1000000 in
theorem value_any (bs : List Bool) (hb : bs.length ≤ 8) (w : World) : Calls Try.prog 37 #[.string (strB (bitsS bs))] w fun e w' => e = .returned (.int .u8 (val bs : Int)) ∧ w = w' := by
  have hs : (strB (bitsS bs)).size ≤ 8 := by rw [strB_size, bitsS_len]; exact hb
  go_enter Try.func37, Try.ntmps37
  go_wp2
  go_loopw [3, 4] (fun n i wr => ∃ k m : Nat, k ≤ (strB (bitsS bs)).size ∧ i = .int .i64 k ∧ n = .int .i64 m ∧ (m : Int) ≤ 255 ∧ m = val (bs.take k) ∧ w = wr) (fun _ i _ => (strB (bitsS bs)).size - (intOf i).toNat)
  case atStart => exact ⟨0, 0, by omega, rfl, rfl, by omega, rfl, rfl⟩
  case round =>
    obtain ⟨k, m, hk, rfl, rfl, hm, hme, rfl⟩ := hrel
    have HM := Lib.hid hme
    clear hme
    by_cases hlt : k < (strB (bitsS bs)).size
    · obtain ⟨hkl, hget⟩ := bitsS_get bs k hlt
      have hv := val_lt8 (bs.take (k + 1)) (by rw [List.length_take]; omega)
      have hsn : val (bs.take (k + 1)) = 2 * m + (bs[k]).toNat := by
        rw [List.take_succ_eq_append_getElem hkl, val_snoc, HM.out]
      by_cases hbk : bs[k] = true
      · rw [if_pos hbk] at hget
        rw [hbk] at hsn
        have HS := Lib.hid hsn
        have hm2 : (m : Int) * 2 + 1 ≤ 255 := by simp at hsn; omega
        clear hsn hv hbk
        go_wp2
        go_roundw
        case rel => exact ⟨k + 1, m * 2 + 1, by omega, by go_num, by go_num, by omega, by rw [HS.out]; simp; omega, by trivial⟩
        case measure => simp [intOf]; omega
      · rw [if_neg hbk] at hget
        rw [show bs[k] = false by simpa using hbk] at hsn
        have HS := Lib.hid hsn
        have hm2 : (m : Int) * 2 ≤ 255 := by simp at hsn; omega
        clear hsn hv hbk
        go_wp2
        go_roundw
        case rel => exact ⟨k + 1, m * 2, by omega, by go_num, by go_num, by omega, by rw [HS.out]; simp; omega, by trivial⟩
        case measure => simp [intOf]; omega
    · have HE : Hid (m = val bs) := by
        show _ = _; rw [HM.out, List.take_of_length_le]; rw [strB_size, bitsS_len] at hlt; omega
      go_wp2
      go_ret
      exact ⟨ret_int (by rw [HE.out]), rfl⟩

set_option maxRecDepth 100000 in
set_option maxHeartbeats 1000000 in
theorem rsize_any (w : World) {a : Option Addr} {n c : Nat} {l : List UInt8} (h : Sl w a n c (bv l)) (hn : n ≤ 140737488351232) :
    Calls Try.prog 25 #[.slice a n c] w fun e w' => e = .returned (.int .i64 (sizeL l : Int)) ∧ Below w.heap.size w w' := by
  have hl1 : l.length ≤ n := by have := h.byte; omega
  have hl2 : n ≤ l.length := by have := h.byte; omega
  go_enter Try.func25, Try.ntmps25
  go_wp2_with fail
  go_loopw [3, 4] (fun s i wr => ∃ k : Nat, k ≤ n ∧ i = .int .i64 k ∧ s = .int .i64 (bitSum (l.take k) : Int) ∧ Below w.heap.size w wr) (fun _ i _ => n - (intOf i).toNat)
  case atStart => exact ⟨0, by omega, rfl, rfl, Below.refl _ _⟩
  case round =>
    obtain ⟨k, hk, rfl, rfl, hb⟩ := hrel
    have hs1 := bitSum_le (l.take k)
    rw [List.length_take] at hs1
    have hm : min k l.length ≤ n := by omega
    by_cases hlt : k < n
    · have hkl : k < l.length := by omega
      have HS := Lib.hid (bitSum_take l k hkl)
      obtain ⟨b, off, rfl, hc⟩ := h.cells (by omega)
      have g1 := hc k hlt
      rw [bv_get l k hkl] at g1
      have q1 : wr.cell? ⟨b, off + k, none⟩ = some (.int .u8 (l[k].toNat : Int)) := by rw [hb.cell (World.block_lt_of_cell? w _ g1)]; exact g1
      clear g1 hc
      have kk : (k : Int) < (n : Int) := by omega
      have hbl := bits_le l[k]
      have hbs := hb.size
      generalize hsum : bitSum (l.take k) = s at hs1 HS ⊢
      clear hsum
      have hs2 : s ≤ 15 * 140737488351232 := by omega
      go_wp2_with fail
      refine (length_any l[k] wr).mono ?_
      rintro e w2 ⟨rfl, rfl⟩
      go_wp2_with fail
      go_roundw
      case rel => exact ⟨k + 1, by omega, by go_num, by rw [HS.out]; go_num, hb⟩
      case measure => simp [intOf]; omega
    · have hke : k = n := by omega
      have HE : Hid (bitSum (l.take k) = bitSum l) := by show _ = _; rw [List.take_of_length_le (by omega)]
      generalize hsum : bitSum (l.take k) = s at hs1 HE ⊢
      clear hsum hke
      have hs2 : s ≤ 15 * 140737488351232 := by omega
      go_wp2
      go_ret
      refine ⟨ret_int ?_, hb⟩
      unfold sizeL; rw [← HE.out]; simp
end Go.Proofs.Ytkijpjdjkjnpiaa

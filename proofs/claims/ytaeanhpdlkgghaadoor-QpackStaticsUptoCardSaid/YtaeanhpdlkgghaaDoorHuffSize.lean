/- Contract of huff.Size: the length of the coded text. -/
import Derived.Test.YtaeanhpdlkgghaaDoorHuffOpen
import Derived.Test.YtaeanhpdlkgghaaDoorHuffCode
namespace Go.Proofs.YtaeanhpdlkgghaaDoor
open Go.RowKit

/-- how many bits a text's code has -/
def bitSum : List UInt8 → Nat
  | [] => 0
  | x :: l => bitsN x + bitSum l
theorem bitSum_append (l m : List UInt8) : bitSum (l ++ m) = bitSum l + bitSum m := by
  induction l with
  | nil => simp [bitSum]
  | cons x l ih => simp only [List.cons_append, bitSum, ih]; omega
theorem bitSum_le (l : List UInt8) : bitSum l ≤ 15 * l.length := by
  induction l with
  | nil => simp [bitSum]
  | cons x l ih => have := bits_le x; simp only [bitSum, List.length_cons]; omega
theorem bitSum_ge (l : List UInt8) : 5 * l.length ≤ bitSum l := by
  induction l with
  | nil => simp [bitSum]
  | cons x l ih => have := bits_ge x; simp only [bitSum, List.length_cons]; omega
theorem bitSum_take (l : List UInt8) (k : Nat) (h : k < l.length) : bitSum (l.take (k + 1)) = bitSum (l.take k) + bitsN l[k] := by
  rw [take_snoc l k h, bitSum_append]; simp [bitSum]
def sizeL (l : List UInt8) : Nat := (bitSum l + 7) / 8

set_option maxRecDepth 100000 in
set_option maxHeartbeats 2000000 in
theorem size_any (w : World) {a : Option Addr} {n c : Nat} {l : List UInt8} (h : Sl w a n c (bv l)) (hn : n ≤ 140737488351232) :
    Calls Tryd.prog 72 #[.slice a n c] w fun e w' => e = .returned (.int .i64 (sizeL l : Int)) ∧ Below w.heap.size w w' := by
  have hl1 : l.length ≤ n := by have := h.byte; omega
  have hl2 : n ≤ l.length := by have := h.byte; omega
  go_enter Tryd.func72, Tryd.ntmps72
  go_wp2_with fail
  refine (open_any w).mono ?_
  rintro e w1 ⟨p, a1, c1, rfl, hbk, hr, hp, hb1⟩
  have z1 := hb1.size
  go_wp2_with fail
  go_loopw [4, 12] (fun s i wr => ∃ k : Nat, k ≤ n ∧ i = .int .i64 k ∧ s = .int .i64 (bitSum (l.take k) : Int) ∧ Below w.heap.size w wr ∧ Below w1.heap.size w1 wr) (fun _ i _ => n - (intOf i).toNat)
  case atStart => exact ⟨0, by omega, rfl, rfl, hb1, Below.refl _ _⟩
  case round =>
    obtain ⟨k, hk, rfl, rfl, hb, hb'⟩ := hrel
    have hs1 := bitSum_le (l.take k)
    rw [List.length_take] at hs1
    by_cases hlt : k < n
    · have hkl : k < l.length := by omega
      have HS := Lib.hid (bitSum_take l k hkl)
      obtain ⟨b, off, rfl, hc⟩ := h.cells (by omega)
      have g1 := hc k hlt
      rw [bv_get l k hkl] at g1
      have q1 : wr.cell? ⟨b, off + k, none⟩ = some (.int .u8 (l[k].toNat : Int)) := by rw [hb.cell (World.block_lt_of_cell? w _ g1)]; exact g1
      clear g1 hc
      have kk : (k : Int) < (n : Int) := by omega
      have hbl := bits_le l[k]
      have hbs := hb.size
      go_wp2_with fail
      refine (code_any wr p a1 c1 (hbk.below hb') (hr.below hb') l[k]).mono ?_
      rintro e w2 ⟨rfl, hb2⟩
      have hm : min k l.length ≤ n := by omega
      generalize hsum : bitSum (l.take k) = s at hs1 HS ⊢
      clear hsum
      have hs2 : s ≤ 15 * 140737488351232 := by omega
      go_wp2
      go_roundw
      case rel => exact ⟨k + 1, by omega, by go_num, by rw [HS.out]; go_num, hb.trans (hb2.mono hbs), hb'.trans (hb2.mono hb'.size)⟩
      case measure => simp [intOf]; omega
    · have hke : k = n := by omega
      have HE : Hid (bitSum (l.take k) = bitSum l) := by show _ = _; rw [List.take_of_length_le (by omega)]
      have hm : min k l.length ≤ n := by omega
      generalize hsum : bitSum (l.take k) = s at hs1 HE ⊢
      clear hsum hke
      have hs2 : s ≤ 15 * 140737488351232 := by omega
      go_wp2
      go_ret
      refine ⟨ret_int ?_, hb⟩
      unfold sizeL; rw [← HE.out]; simp
end Go.Proofs.YtaeanhpdlkgghaaDoor

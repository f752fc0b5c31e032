/- The walks of HuffBack and HuffOnce. -/
import Derived.Test.YtkijpjdjkjnpiaaHuffLaw4
namespace Go.Proofs.Ytkijpjdjkjnpiaa
open Go.RowKit

theorem decR_err (l : List UInt8) (h : (decR l).2 ≠ 0) : (decR l).1 = [] := by
  unfold decR at h ⊢
  split
  · rfl
  · rename_i h1
    rw [if_neg h1] at h
    split at h
    · exact absurd rfl h
    · rename_i h2; rw [if_neg h2]

set_option maxRecDepth 100000 in
set_option maxHeartbeats 1000000 in
theorem back_any (w : World) {a : Option Addr} {n c : Nat} {l : List UInt8} (h : Sl w a n c (bv l)) (hn : n ≤ 1048576) :
    Calls Try.prog 10 #[.slice a n c] w fun e w' => e = .returned (.bool true) ∧ Below w.heap.size w w' := by
  have hl1 : l.length ≤ n := by have := h.byte; omega
  have e1 := bitSum_le l
  have hel : (encL l).length = sizeL l := encL_len l
  have hsz : sizeL l = (bitSum l + 7) / 8 := rfl
  have hle : (encL l).length ≤ 4194304 := by omega
  have HEL := Lib.hid hel
  have HA := Lib.hid (awake14_any)
  by_cases hb : (encL l).length ≤ 16384
  · have hB := Lib.hid (back l hb)
    have hb' : ¬ (16384 : Int) < ((encL l).length : Int) := by omega
    clear hel hsz e1 hb
    go_enter Try.func10, Try.ntmps10
    go_wp2_with fail
    refine (copy_any w h (by omega)).mono ?_
    rintro e w1 ⟨b1, c1, rfl, ho1, hb1⟩
    have z1 := hb1.size
    go_wp2_with fail
    refine (encode_any w1 (own_sl ho1) (by omega)).mono ?_
    rintro e w2 ⟨b2, c2, rfl, ho2, hb2⟩
    have z2 := hb2.size
    have B2 : Below w.heap.size w w2 := hb1.trans (hb2.mono z1)
    have s2 := own_sl ho2
    have hD := decode_any w2 s2
    rw [hB.out] at hD
    have HD := Lib.hid hD
    clear hD
    go_wp2_with fail
    refine HD.out.mono ?_
    rintro e w3 ⟨b3, c3, rfl, ho3, hb3⟩
    have z3 := hb3.size
    have B3 := B2.trans (hb3.mono B2.size)
    have s3 : Sl w3 b3 l.length c3 (bv l) := own_sl ho3
    go_wp2_with fail
    refine (same_any w3 s3 (h.below B3)).mono ?_
    rintro e w4 ⟨rfl, hb4⟩
    have z4 := hb4.size
    have B4 := B3.trans (hb4.mono B3.size)
    have hd : decide (l = l) = true := by simp
    have HC4 := Lib.hid (copy_any w4 (h.below B4) (by omega))
    rw [hd]
    go_wp2_with fail
    refine HC4.out.mono ?_
    rintro e w5 ⟨b5, c5, rfl, ho5, hb5⟩
    have B5 := B4.trans (hb5.mono B4.size)
    go_wp2_with fail
    have HS5 : Hid (Calls Try.prog 24 #[.slice b5 l.length c5] w5 fun e w' => e = .returned (.int .i64 ((encL l).length : Int)) ∧ Below w5.heap.size w5 w') := Lib.hid (by rw [HEL.out]; exact size_any w5 (own_sl ho5) (by omega))
    refine HS5.out.mono ?_
    rintro e w6 ⟨rfl, hb6⟩
    have B6 := B5.trans (hb6.mono B5.size)
    go_wp2_with fail
    refine (HA.out w6).mono ?_
    rintro e w7 ⟨rfl, hb7⟩
    go_wp2
    go_ret
    exact ⟨rfl, B6.trans (hb7.mono B6.size)⟩
  · have hB := Lib.hid (back_big l hb)
    have hb' : (16384 : Int) < ((encL l).length : Int) := by omega
    clear hel hsz e1 hb
    go_enter Try.func10, Try.ntmps10
    go_wp2_with fail
    refine (copy_any w h (by omega)).mono ?_
    rintro e w1 ⟨b1, c1, rfl, ho1, hb1⟩
    have z1 := hb1.size
    go_wp2_with fail
    refine (encode_any w1 (own_sl ho1) (by omega)).mono ?_
    rintro e w2 ⟨b2, c2, rfl, ho2, hb2⟩
    have z2 := hb2.size
    have B2 : Below w.heap.size w w2 := hb1.trans (hb2.mono z1)
    have s2 := own_sl ho2
    have hD := decode_any w2 s2
    rw [hB.out] at hD
    have HD := Lib.hid hD
    clear hD
    go_wp2_with fail
    refine HD.out.mono ?_
    rintro e w3 ⟨b3, c3, rfl, ho3, hb3⟩
    have z3 := hb3.size
    have B3 := B2.trans (hb3.mono B2.size)
    go_wp2_with fail
    refine (HA.out w3).mono ?_
    rintro e w7 ⟨rfl, hb7⟩
    go_wp2
    go_ret
    exact ⟨rfl, B3.trans (hb7.mono B3.size)⟩

set_option maxRecDepth 100000 in
set_option maxHeartbeats 1000000 in
theorem once_any (w : World) {a : Option Addr} {n c : Nat} {l : List UInt8} (h : Sl w a n c (bv l)) (hn : n ≤ 1048576) :
    Calls Try.prog 11 #[.slice a n c] w fun e w' => e = .returned (.bool true) ∧ Below w.heap.size w w' := by
  have hl1 : l.length ≤ n := by have := h.byte; omega
  have HA := Lib.hid (awake14_any)
  have HDc := Lib.hid (fun (w' : World) (a' : Option Addr) (c' : Nat) (h' : Sl w' a' l.length c' (bv l)) => decode_any w' h')
  by_cases h0 : (decR l).2 = 0
  · have hO := once l h0
    obtain ⟨D, hDl⟩ : ∃ D, decR l = (D, 0) := ⟨(decR l).1, by rw [← h0]⟩
    rw [hDl] at hO HDc
    simp only [] at hO
    have hel : (encL D).length = sizeL D := encL_len D
    have hsz : sizeL D = (bitSum D + 7) / 8 := rfl
    have hge := bitSum_ge D
    have hoL := congrArg List.length hO
    have hDn : D.length ≤ 4194304 := by omega
    have HO := Lib.hid hO
    clear hel hsz hge hoL hO hDl h0
    go_enter Try.func11, Try.ntmps11
    go_wp2_with fail
    refine (copy_any w h (by omega)).mono ?_
    rintro e w1 ⟨b1, c1, rfl, ho1, hb1⟩
    have z1 := hb1.size
    go_wp2_with fail
    refine (HDc.out w1 b1 c1 (own_sl ho1)).mono ?_
    rintro e w2 ⟨b2, c2, rfl, ho2, hb2⟩
    have B2 : Below w.heap.size w w2 := hb1.trans (hb2.mono z1)
    have s2 : Sl w2 b2 D.length c2 (bv D) := own_sl ho2
    go_wp2_with fail
    refine (encode_any w2 s2 (by omega)).mono ?_
    rintro e w3 ⟨b3, c3, rfl, ho3, hb3⟩
    have B3 := B2.trans (hb3.mono B2.size)
    have s3 := own_sl ho3
    rw [HO.out] at s3 ⊢
    go_wp2_with fail
    refine (same_any w3 s3 (h.below B3)).mono ?_
    rintro e w4 ⟨rfl, hb4⟩
    have B4 := B3.trans (hb4.mono B3.size)
    have hd : decide (l = l) = true := by simp
    rw [hd]
    go_wp2_with fail
    refine (HA.out w4).mono ?_
    rintro e w7 ⟨rfl, hb7⟩
    go_wp2
    go_ret
    exact ⟨rfl, B4.trans (hb7.mono B4.size)⟩
  · have hE := decR_err l h0
    obtain ⟨z, hDl⟩ : ∃ z, decR l = ([], z) := ⟨(decR l).2, by rw [← hE]⟩
    rw [hDl] at h0 HDc
    have hz : (z == 0) = false := by rw [beq_eq_false_iff_ne]; exact h0
    have hz2 : (z != 0) = true := by rw [bne_iff_ne]; exact h0
    clear hE hDl h0
    go_enter Try.func11, Try.ntmps11
    go_wp2_with fail
    refine (copy_any w h (by omega)).mono ?_
    rintro e w1 ⟨b1, c1, rfl, ho1, hb1⟩
    have z1 := hb1.size
    go_wp2_with fail
    refine (HDc.out w1 b1 c1 (own_sl ho1)).mono ?_
    rintro e w2 ⟨b2, c2, rfl, ho2, hb2⟩
    have B2 : Below w.heap.size w w2 := hb1.trans (hb2.mono z1)
    go_wp2_with fail
    refine (HA.out w2).mono ?_
    rintro e w7 ⟨rfl, hb7⟩
    go_wp2
    go_ret
    exact ⟨rfl, B2.trans (hb7.mono B2.size)⟩
end Go.Proofs.Ytkijpjdjkjnpiaa

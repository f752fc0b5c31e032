/- The document's PutText answers putTextR, for any arguments. -/
import Derived.Test.YtkijpjdjkjnpiaaPfxText
namespace Go.Proofs.Ytkijpjdjkjnpiaa
open Go.RowKit

set_option maxRecDepth 100000 in
set_option maxHeartbeats 1000000 in
theorem rtext_any (w : World) (l : List UInt8) (bits first : Int) (f1 : 0 ≤ first) (f2 : first ≤ 255) :
    Calls Try.prog 30 #[.string (strB l), .int .i64 bits, .int .u8 first] w (RetBE w.heap.size w (putTextR l bits first)) := by
  have hsz := strB_size l
  by_cases h1 : 1 ≤ bits
  · by_cases h2 : bits ≤ 7
    · by_cases h3 : l.length ≤ 16384
      · obtain ⟨b, rfl⟩ := Int.eq_ofNat_of_zero_le (show 0 ≤ bits by omega)
        obtain ⟨f, rfl⟩ := Int.eq_ofNat_of_zero_le f1
        have HR : Hid (putTextR l (b : Int) (f : Int) = (putL (textD l).length b (textF l b f) ++ textD l, 0)) := by
          show _ = _; unfold putTextR; rw [if_neg (by omega), if_neg (by omega)]; rfl
        have hcv := fun w => conv_bytes w l
        have hpw : (2 ^ b : Nat) ≤ 128 := by
          have h4 : 2 ^ b ≤ 2 ^ 7 := Nat.pow_le_pow_right (by decide) (by omega)
          have h7 : (2 : Nat) ^ 7 = 128 := rfl
          rw [h7] at h4; exact h4
        have hp0 : 0 < 2 ^ b := Nat.two_pow_pos b
        have HPw := Lib.hid (fun w => power_any b (by omega) w)
        obtain ⟨p, hpp⟩ : ∃ p : Nat, p = 2 ^ b := ⟨_, rfl⟩
        rw [← hpp] at hpw hp0
        have HPp := Lib.hid hpp
        have hhi : highN f (b + 1) = f / (2 * p) * (2 * p) := by unfold highN; rw [hpp, Nat.pow_succ, Nat.mul_comm (2 ^ b) 2]
        have g1 : IntKind.i64.wrap (2 * (p : Int)) = 2 * (p : Int) := by rw [IntKind.wrap_i64]; omega
        have g0 : (2 * (p : Int) == 0) = false := by rw [beq_eq_false_iff_ne]; omega
        obtain ⟨cf, hcf⟩ : ∃ cf : Nat, cf = f / (2 * p) * (2 * p) := ⟨_, rfl⟩
        have hcle : cf ≤ f := by rw [hcf]; exact Nat.div_mul_le_self _ _
        obtain ⟨d, hd⟩ : ∃ d : Nat, d = f / (2 * p) := ⟨_, rfl⟩
        have hdf : d ≤ f := by rw [hd]; exact Nat.div_le_self _ _
        have hdc : cf = d * (2 * p) := by rw [hcf, hd]
        have g2 : IntKind.i64.wrap ((f : Int) / (2 * (p : Int))) = (d : Int) := by
          have : ((f : Int) / (2 * (p : Int))) = (d : Int) := by rw [hd]; push_cast; rfl
          rw [this, IntKind.wrap_i64]; omega
        have g3 : IntKind.i64.wrap ((d : Int) * (2 * (p : Int))) = (cf : Int) := by
          have : ((d : Int) * (2 * (p : Int))) = (cf : Int) := by rw [hdc]; push_cast; rfl
          rw [this, IntKind.wrap_i64]; omega
        have hh : highN cf b = highN (highN f (b + 1)) b ∧ highN (cf + p) b = highN (highN f (b + 1) + 2 ^ b) b := by rw [hhi, ← hcf, hpp]; exact ⟨rfl, rfl⟩
        have hcp : cf + p < 256 := by
          have h1 : (2 * p) ∣ 256 := by
            have : b = 1 ∨ b = 2 ∨ b = 3 ∨ b = 4 ∨ b = 5 ∨ b = 6 ∨ b = 7 := by omega
            rcases this with rfl | rfl | rfl | rfl | rfl | rfl | rfl <;> (rw [hpp]; decide)
          obtain ⟨m, hm⟩ := h1
          have h2 : f / (2 * p) < m := Nat.div_lt_of_lt_mul (by omega)
          have h3 : (f / (2 * p) + 1) * (2 * p) ≤ m * (2 * p) := Nat.mul_le_mul_right _ h2
          rw [Nat.add_mul, ← hcf, Nat.mul_comm m] at h3
          omega
        have hc256 : cf < 256 := by omega
        obtain ⟨co, hco⟩ : ∃ co : Nat, co = cf + p := ⟨_, rfl⟩
        rw [← hco] at hh hcp
        have g4 : IntKind.i64.wrap ((cf : Int) + (p : Int)) = (co : Int) := by rw [IntKind.wrap_i64]; omega
        have g5 : IntKind.u8.wrap (co : Int) = (co : Int) := by rw [IntKind.wrap_u8]; omega
        have g6 : IntKind.u8.wrap (cf : Int) = (cf : Int) := by rw [IntKind.wrap_u8]; omega
        have hlt := hcp
        have HH := Lib.hid hh
        clear hco hh hcf hhi hpp hd hdc
        have hw1 := bytesW_below w l
        have hs1 := bytesW_sl w l (by omega)
        have z1 := hw1.size
        have hsb := sizeL_le' l
        by_cases hc : sizeL l < l.length
        · have hc' : (sizeL l : Int) < (l.length : Int) := by omega
          have hcd : coded l = true := by simp [coded, hc]
          have HD : Hid (textD l = encL l) := Lib.hid (by unfold textD; rw [hcd]; rfl)
          have HF : Hid (highN co b = highN (textF l b f) b) := Lib.hid (by unfold textF; rw [hcd]; exact HH.out.2)
          have hel : (encL l).length = sizeL l := encL_len l
          have hle : (encL l).length ≤ 16384 := by omega
          clear hcd hel hc
          go_enter Try.func30, Try.ntmps30
          go_wp2_with fail
          refine (HPw.out w).mono ?_
          rintro e w0 ⟨rfl, rfl⟩
          rw [← HPp.out]
          go_wp2_with fail
          refine (rsize_any _ hs1 (by omega)).mono ?_
          rintro e w2 ⟨rfl, hb2⟩
          have z2 := hb2.size
          go_wp2_with fail
          refine (rencode_any w2 (hs1.below hb2) (by omega)).mono ?_
          rintro e w3 ⟨a3, c3, rfl, ho3, hb3⟩
          have z3 := hb3.size
          have hP := rput_any (((encL l).length : Nat) : Int) (b : Int) (co : Int) w3 (by omega) (by omega)
          rw [show putR (((encL l).length : Nat) : Int) (b : Int) (co : Int) = (putL (encL l).length b co, 0) by unfold putR; rw [if_neg (by omega), if_neg (by omega)]; simp, putL_high _ _ _ _ HF.out] at hP
          have hpl := putL_len (encL l).length b (textF l b f) (by omega)
          have HP := Lib.hid hP
          clear hP
          go_wp2_with fail
          refine HP.out.mono ?_
          rintro e w4 ⟨a4, c4, rfl, ho4, hb4⟩
          have B4 : Below w.heap.size w w4 := ((hw1.trans (hb2.mono z1)).trans (hb3.mono (by omega))).trans (hb4.mono (by omega))
          have ho4' := own_mono ho4 (show w.heap.size ≤ _ by omega)
          have hs4 := (own_sl ho3).below hb4
          obtain ⟨P, hPd⟩ : ∃ P, P = putL (encL l).length b (textF l b f) := ⟨_, rfl⟩
          rw [← hPd] at ho4' hpl ⊢
          have HPd := Lib.hid hPd
          clear hPd ho4
          go_wp2_with (at_builtin; refine wpL_app tyU8 rfl _ _ rfl rfl rfl ho4' hs4 (bv_one _) (by omega) (by unfold maxLen; omega) B4 (Nat.le_refl _) B4.size ?_; intro a5 c5 w5 ho5 hb5 _)
          go_ret2
          refine RetBE.mk (r := putTextR l b f) (n := P.length + (encL l).length) (k := 0) (xs := bv P ++ bv (encL l)) rfl ?_ ho5 ?_ hb5
          · rw [HR.out]
          · rw [HR.out, HD.out, bv_append, HPd.out]
        · have hc' : ¬ (sizeL l : Int) < (l.length : Int) := by omega
          have hcd : coded l = false := by simp [coded]; omega
          have HD : Hid (textD l = l) := Lib.hid (by unfold textD; rw [hcd]; rfl)
          have HF : Hid (highN cf b = highN (textF l b f) b) := Lib.hid (by unfold textF; rw [hcd]; exact HH.out.1)
          have hP := fun w => rput_any ((l.length : Nat) : Int) (b : Int) (cf : Int) w (by omega) (by omega)
          rw [show putR ((l.length : Nat) : Int) (b : Int) (cf : Int) = (putL l.length b cf, 0) by unfold putR; rw [if_neg (by omega), if_neg (by omega)]; simp, putL_high _ _ _ _ HF.out] at hP
          have hpl := putL_len l.length b (textF l b f) (by omega)
          have HP := Lib.hid hP
          clear hP hcd hc
          go_enter Try.func30, Try.ntmps30
          go_wp2_with fail
          refine (HPw.out w).mono ?_
          rintro e w0 ⟨rfl, rfl⟩
          rw [← HPp.out]
          go_wp2_with fail
          refine (rsize_any _ hs1 (by omega)).mono ?_
          rintro e w2 ⟨rfl, hb2⟩
          have z2 := hb2.size
          go_wp2_with fail
          refine (HP.out w2).mono ?_
          rintro e w4 ⟨a4, c4, rfl, ho4, hb4⟩
          have B4 : Below w.heap.size w w4 := (hw1.trans (hb2.mono z1)).trans (hb4.mono (by omega))
          have ho4' := own_mono ho4 (show w.heap.size ≤ _ by omega)
          have hs4 := (hs1.below hb2).below hb4
          obtain ⟨P, hPd⟩ : ∃ P, P = putL l.length b (textF l b f) := ⟨_, rfl⟩
          rw [← hPd] at ho4' hpl ⊢
          have HPd := Lib.hid hPd
          clear hPd ho4
          go_wp2_with (at_builtin; refine wpL_app tyU8 rfl _ _ rfl rfl rfl ho4' hs4 (bv_one _) (by omega) (by unfold maxLen; omega) B4 (Nat.le_refl _) B4.size ?_; intro a5 c5 w5 ho5 hb5 _)
          go_ret2
          refine RetBE.mk (r := putTextR l b f) (n := P.length + l.length) (k := 0) (xs := bv P ++ bv l) rfl ?_ ho5 ?_ hb5
          · rw [HR.out]
          · rw [HR.out, HD.out, bv_append, HPd.out]
      · have HR : Hid (putTextR l bits first = ([], 52)) := by
          show _ = _; unfold putTextR; rw [if_neg (by omega), if_pos (by omega)]
        go_enter Try.func30, Try.ntmps30
        go_wp2
        go_ret2
        rw [HR.out]
        exact RetBE.nil w 52 _ rfl
    · have HR : Hid (putTextR l bits first = ([], 150)) := by
        show _ = _; unfold putTextR; rw [if_pos (by omega)]
      go_enter Try.func30, Try.ntmps30
      go_wp2
      go_ret2
      rw [HR.out]
      exact RetBE.nil w 150 _ rfl
  · have HR : Hid (putTextR l bits first = ([], 150)) := by
      show _ = _; unfold putTextR; rw [if_pos (by omega)]
    go_enter Try.func30, Try.ntmps30
    go_wp2
    go_ret2
    rw [HR.out]
    exact RetBE.nil w 150 _ rfl
end Go.Proofs.Ytkijpjdjkjnpiaa

/- turnpikeref15.Get answers getR, for any slice and any numbers. -/
import Derived.Test.YtkijpjdjkjnpiaaPfxRefPut
namespace Go.Proofs.Ytkijpjdjkjnpiaa
open Go.RowKit

/-- the reference's unit at its round k -/
def unitL (k : Nat) : Nat := 2 ^ (7 * min k 8)
theorem unitL_le (k : Nat) : unitL k ≤ 72057594037927936 := by
  unfold unitL
  have : 2 ^ (7 * min k 8) ≤ 2 ^ 56 := Nat.pow_le_pow_right (by decide) (by omega)
  simpa using this
theorem unitL_le7 {k : Nat} (h : k < 8) : unitL k ≤ 562949953421312 := by
  unfold unitL
  have : 2 ^ (7 * min k 8) ≤ 2 ^ 49 := Nat.pow_le_pow_right (by decide) (by omega)
  simpa using this
theorem unitL_pos (k : Nat) : 1 ≤ unitL k := Nat.one_le_two_pow
theorem unitL_eq {k : Nat} (h : k ≤ 8) : unitL k = 2 ^ (7 * k) := by unfold unitL; rw [Nat.min_eq_left h]
theorem unitL_succ {k : Nat} (h : k < 8) : unitL (k + 1) = unitL k * 128 := by rw [unitL_eq (by omega), unitL_eq (by omega), Nat.mul_add, Nat.pow_add]
theorem unitL_stay {k : Nat} (h : 8 ≤ k) : unitL (k + 1) = unitL k := by unfold unitL; rw [Nat.min_eq_right h, Nat.min_eq_right (by omega)]

set_option maxRecDepth 100000 in
set_option maxHeartbeats 2000000 in
theorem rget_any (w : World) {a : Option Addr} {n c : Nat} {l : List UInt8} (h : Sl w a n c (bv l)) (at_ bits : Int) :
    Calls Try.prog 20 #[.slice a n c, .int .i64 at_, .int .i64 bits] w (Ret3 w (getR l at_ bits)) := by
  have hlen := h.byte
  have hnc := h.cap_le
  have hcm : c ≤ 9223372036854775807 := by have := h.cap_max; unfold maxLen at this; omega
  by_cases h1 : 1 ≤ bits
  · by_cases h2 : bits ≤ 8
    · by_cases k1 : 0 ≤ at_
      · obtain ⟨at_, rfl⟩ := Int.eq_ofNat_of_zero_le k1
        obtain ⟨bits, rfl⟩ := Int.eq_ofNat_of_zero_le (show 0 ≤ bits by omega)
        by_cases k2 : at_ ≤ n
        · by_cases k3 : at_ = n
          · have H0 : Hid (getR l (at_ : Int) (bits : Int) = (0, 0, 12)) := by show _ = _; rw [k3, ← hlen]; exact getR_end (by omega) (by omega)
            have hne : ((at_ : Int) == (n : Int)) = true := by simp [k3]
            clear k3
            go_enter Try.func20, Try.ntmps20
            go_wp2
            go_ret3
            exact Ret3.mk rfl H0.out (Below.refl _ _)
          · have hne : ((at_ : Int) == (n : Int)) = false := by simp; omega
            have hlt : at_ < l.length := by omega
            have P1 := two_le_pow bits (by omega)
            have P2 := pow_le_256 bits (by omega)
            obtain ⟨b, off, rfl, hc⟩ := h.cells (by omega)
            have hca := hc at_ (by omega)
            rw [bv_get l at_ hlt] at hca
            have hx256 : l[at_].toNat < 256 := l[at_].toNat_lt
            have HPow := Lib.hid (power_any bits (by omega))
            obtain ⟨q, hq⟩ : ∃ q : Nat, q = 2 ^ bits := ⟨_, rfl⟩
            rw [← hq] at P1 P2 HPow
            have HQ0 := Lib.hid hq
            clear hq
            obtain ⟨Y, hY, hYlt⟩ : ∃ Y : Nat, Y = l[at_].toNat % q ∧ Y < q := ⟨_, rfl, Nat.mod_lt _ (by omega)⟩
            have HY := Lib.hid hY
            clear hY
            have hmod : (l[at_].toNat : Int) % (q : Int) = (Y : Int) := by rw [HY.out]; simp
            have HM := Lib.hid hmod
            have hE0 : 0 ≤ (l[at_].toNat : Int) % (q : Int) := by rw [hmod]; omega
            have hE1 : (l[at_].toNat : Int) % (q : Int) ≤ 255 := by rw [hmod]; omega
            clear hmod
            by_cases kx : Y < q - 1
            · have H0 : Hid (getR l (at_ : Int) (bits : Int) = ((Y : Int), (at_ : Int) + 1, 0)) := by
                show _ = _; rw [HY.out, HQ0.out]; exact getR_lt (by omega) (by omega) hlt (by rw [← HQ0.out, ← HY.out]; exact kx)
              have kx' : (l[at_].toNat : Int) % (q : Int) < (q : Int) - 1 := by rw [HM.out]; omega
              go_enter Try.func20, Try.ntmps20
              go_wp2_with fail
              refine (HPow.out _).mono ?_
              rintro e w' ⟨rfl, rfl⟩
              go_wp2
              go_ret3
              exact Ret3.mk rfl (H0.out.trans (by rw [HM.out])) (Below.refl _ _)
            · have H0 : Hid (getR l (at_ : Int) (bits : Int) = getT (l.drop (at_ + 1)) 0 (2 ^ bits - 1) (at_ + 1)) := getR_ge (by omega) (by omega) hlt (by rw [← HQ0.out, ← HY.out]; exact kx)
              have kx' : (q : Int) - 1 ≤ (l[at_].toNat : Int) % (q : Int) := by rw [HM.out]; omega
              have YE : Hid (Y = 2 ^ bits - 1) := by show _ = _; rw [← HQ0.out]; omega
              go_enter Try.func20, Try.ntmps20
              go_wp2_with fail
              refine (HPow.out _).mono ?_
              rintro e w' ⟨rfl, rfl⟩
              go_wp2
              go_loopw [10, 11, 12] (fun x u i wr => ∃ (m k v : Nat), x = .int .i64 m ∧ u = .int .i64 v ∧ i = .int .i64 ((k + 1 : Nat) : Int) ∧ (m : Int) ≤ 4611686018427387903 ∧ k ≤ 9 ∧ k ≤ n - (at_ + 1) ∧ w = wr ∧
                v = unitL k ∧ getT (l.drop (at_ + 1)) 0 (2 ^ bits - 1) (at_ + 1) = getT (l.drop (at_ + 1 + k)) k m (at_ + 1 + k)) (fun _ _ i _ => n + 1 - (intOf i).toNat)
              case atStart => exact ⟨Y, 0, 1, by rw [HM.out], rfl, rfl, by omega, by omega, by omega, rfl, rfl, by rw [YE.out]⟩
              case round =>
                obtain ⟨m, k, v, rfl, rfl, rfl, hm, hk9, hk, rfl, hv, heq⟩ := hrel
                have HE := Lib.hid (H0.out.trans heq)
                have hvle := unitL_le k
                have hv1 := unitL_pos k
                rw [← hv] at hvle hv1
                have HV := Lib.hid hv
                clear heq hv
                by_cases hlt2 : k < n - (at_ + 1)
                · have hp : at_ + 1 + k < l.length := by omega
                  have hck := hc (at_ + 1 + k) (by omega)
                  rw [bv_get l (at_ + 1 + k) hp] at hck
                  have hck' : w.cell? ⟨b, off + (at_ + (k + 1)), none⟩ = some (.int .u8 (l[at_ + 1 + k].toNat : Int)) := by rw [← hck]; simp only [Nat.add_assoc, Nat.add_comm 1 k]
                  clear hck
                  have HS := Lib.hid (getT_step hp k m)
                  have hxk : l[at_ + 1 + k].toNat < 256 := l[at_ + 1 + k].toNat_lt
                  obtain ⟨x, hx⟩ : ∃ x : Nat, x = l[at_ + 1 + k].toNat := ⟨_, rfl⟩
                  rw [← hx] at hck' hxk
                  have HXX := Lib.hid hx
                  clear hx
                  obtain ⟨p, hp2⟩ : ∃ p : Nat, p = x % 128 := ⟨_, rfl⟩
                  have hand4 : (x : Int) % 128 = (p : Int) := by omega
                  have hp127 : p ≤ 127 := by omega
                  have HP := Lib.hid hp2
                  clear hp2
                  by_cases hp0 : p = 0
                  · have hp0' : ¬ (0 : Int) < (p : Int) := by omega
                    have HB : Hid (¬ (4611686018427387903 - m) / 2 ^ (7 * k) < l[at_ + 1 + k].toNat % 128) := by show ¬ _; rw [← HXX.out, ← HP.out, hp0]; exact Nat.not_lt_zero _
                    have HQ2 : Hid (m + l[at_ + 1 + k].toNat % 128 * 2 ^ (7 * k) = m) := by show _ = _; rw [← HXX.out, ← HP.out, hp0]; omega
                    have hp00 : ((0 : Int) < (p : Int)) = False := by simp [hp0]
                    clear hp0
                    by_cases hx128 : x < 128
                    · have HF : Hid (getR l (at_ : Int) (bits : Int) = ((m : Int), ((at_ + 1 + k + 1 : Nat) : Int), 0)) := by
                        show _ = _; rw [HE.out, HS.out, if_neg HB.out, if_pos (by rw [← HXX.out]; exact hx128), HQ2.out]
                      go_wp2
                      all_goals go_ret3
                      all_goals exact Ret3.mk rfl (HF.out.trans (by congr 2 <;> omega)) (Below.refl _ _)
                    · by_cases hk9' : k = 9
                      · have HF : Hid (getR l (at_ : Int) (bits : Int) = (0, 0, 151)) := by
                          show _ = _; rw [HE.out, HS.out, if_neg HB.out, if_neg (by rw [← HXX.out]; exact hx128), if_pos hk9']
                        have hk9b : ((k : Int) + 1 == 10) = true := by simp; omega
                        clear hk9'
                        go_wp2
                        all_goals go_ret3
                        all_goals exact Ret3.mk rfl HF.out (Below.refl _ _)
                      · have HF : Hid (getR l (at_ : Int) (bits : Int) = getT (l.drop (at_ + 1 + k + 1)) (k + 1) m (at_ + 1 + k + 1)) := by
                          show _ = _; rw [HE.out, HS.out, if_neg HB.out, if_neg (by rw [← HXX.out]; exact hx128), if_neg hk9', HQ2.out]
                        have hk9b : ((k : Int) + 1 == 10) = false := by simp; omega
                        by_cases hk8 : k < 8
                        · have hv7 := unitL_le7 hk8
                          rw [← HV.out] at hv7
                          go_wp2
                          go_roundw
                          case rel =>
                            refine ⟨m, k + 1, v * 128, by go_num, by go_num, by go_num, by omega, by omega, by omega, by trivial, ?_, ?_⟩
                            · rw [unitL_succ hk8, HV.out]
                            · rw [← H0.out, HF.out]; rfl
                          case measure => simp [intOf]; omega
                        · go_wp2
                          go_roundw
                          case rel =>
                            refine ⟨m, k + 1, v, by go_num, by go_num, by go_num, by omega, by omega, by omega, by trivial, ?_, ?_⟩
                            · rw [unitL_stay (by omega), HV.out]
                            · rw [← H0.out, HF.out]; rfl
                          case measure => simp [intOf]; omega
                  · have hp0' : (0 : Int) < (p : Int) := by omega
                    by_cases hk9' : k = 9
                    · have HF : Hid (getR l (at_ : Int) (bits : Int) = (0, 0, 151)) := by
                        show _ = _; rw [HE.out, HS.out, if_pos]; rw [← HXX.out, ← HP.out, hk9']; omega
                      have hk9b : (9 : Int) < (k : Int) + 1 := by omega
                      clear hk9'
                      go_wp2
                      all_goals go_ret3
                      all_goals exact Ret3.mk rfl HF.out (Below.refl _ _)
                    · have hk9b : ¬ (9 : Int) < (k : Int) + 1 := by omega
                      have hu := unitL_eq (show k ≤ 8 by omega)
                      rw [← HV.out] at hu
                      have HU := Lib.hid hu
                      clear hu
                      have HD : Hid (((4611686018427387903 : Int) - m) / (v : Int) = (((4611686018427387903 - m) / v : Nat) : Int)) := by
                        show _ = _; rw [show (4611686018427387903 : Int) - m = ((4611686018427387903 - m : Nat) : Int) by omega]; exact (Int.natCast_ediv _ _).symm
                      by_cases hbig : (4611686018427387903 - m) / v < p
                      · have hbig' : ((4611686018427387903 : Int) - m) / (v : Int) < p := by rw [HD.out]; omega
                        have HF : Hid (getR l (at_ : Int) (bits : Int) = (0, 0, 151)) := by
                          show _ = _; rw [HE.out, HS.out, if_pos]; rw [← HXX.out, ← HP.out, ← HU.out]; exact hbig
                        go_wp2
                        all_goals go_ret3
                        all_goals exact Ret3.mk rfl HF.out (Below.refl _ _)
                      · have hbig' : (p : Int) ≤ ((4611686018427387903 : Int) - m) / (v : Int) := by rw [HD.out]; omega
                        have hfit := part_fits hbig (by omega)
                        obtain ⟨z, hz⟩ : ∃ z : Nat, z = p * v := ⟨_, rfl⟩
                        have hpq : (p : Int) * (v : Int) = (z : Int) := by rw [hz, Int.natCast_mul]
                        have hq2 : (m : Int) + z ≤ 4611686018427387903 := by omega
                        have HZ := Lib.hid hz
                        clear hz
                        have HQ2 : Hid (m + l[at_ + 1 + k].toNat % 128 * 2 ^ (7 * k) = m + z) := by show _ = _; rw [HZ.out, HP.out, HXX.out, HU.out]
                        have HB : Hid (¬ (4611686018427387903 - m) / 2 ^ (7 * k) < l[at_ + 1 + k].toNat % 128) := by show ¬ _; rw [← HXX.out, ← HP.out, ← HU.out]; exact hbig
                        by_cases hx128 : x < 128
                        · have HF : Hid (getR l (at_ : Int) (bits : Int) = (((m + z : Nat) : Int), ((at_ + 1 + k + 1 : Nat) : Int), 0)) := by
                            show _ = _; rw [HE.out, HS.out, if_neg HB.out, if_pos (by rw [← HXX.out]; exact hx128), HQ2.out]
                          go_wp2
                          all_goals go_ret3
                          all_goals exact Ret3.mk rfl (HF.out.trans (by congr 2 <;> omega)) (Below.refl _ _)
                        · have HF : Hid (getR l (at_ : Int) (bits : Int) = getT (l.drop (at_ + 1 + k + 1)) (k + 1) (m + z) (at_ + 1 + k + 1)) := by
                            show _ = _; rw [HE.out, HS.out, if_neg HB.out, if_neg (by rw [← HXX.out]; exact hx128), if_neg hk9', HQ2.out]
                          have hk9c : ((k : Int) + 1 == 10) = false := by simp; omega
                          by_cases hk8 : k < 8
                          · have hv7 := unitL_le7 hk8
                            rw [← HV.out] at hv7
                            go_wp2
                            go_roundw
                            case rel =>
                              refine ⟨m + z, k + 1, v * 128, by go_num, by go_num, by go_num, by omega, by omega, by omega, by trivial, ?_, ?_⟩
                              · rw [unitL_succ hk8, HV.out]
                              · rw [← H0.out, HF.out]; rfl
                            case measure => simp [intOf]; omega
                          · go_wp2
                            go_roundw
                            case rel =>
                              refine ⟨m + z, k + 1, v, by go_num, by go_num, by go_num, by omega, by omega, by omega, by trivial, ?_, ?_⟩
                              · rw [unitL_stay (by omega), HV.out]
                              · rw [← H0.out, HF.out]; rfl
                            case measure => simp [intOf]; omega
                · have HF : Hid (getR l (at_ : Int) (bits : Int) = (0, 0, 12)) := by
                    show _ = _; rw [HE.out, getT_nil (by omega)]
                  go_wp2
                  go_ret3
                  exact Ret3.mk rfl HF.out (Below.refl _ _)
        · have H0 : Hid (getR l (at_ : Int) (bits : Int) = (0, 0, 11)) := getR_at (by omega) (by omega) (.inr (by omega))
          go_enter Try.func20, Try.ntmps20
          go_wp2
          go_ret3
          exact Ret3.mk rfl H0.out (Below.refl _ _)
      · have H0 : Hid (getR l at_ bits = (0, 0, 11)) := getR_at (by omega) (by omega) (.inl (by omega))
        go_enter Try.func20, Try.ntmps20
        go_wp2
        go_ret3
        exact Ret3.mk rfl H0.out (Below.refl _ _)
    · have H0 : Hid (getR l at_ bits = (0, 0, 150)) := getR_bits (.inr (by omega))
      go_enter Try.func20, Try.ntmps20
      go_wp2
      go_ret3
      exact Ret3.mk rfl H0.out (Below.refl _ _)
  · have H0 : Hid (getR l at_ bits = (0, 0, 150)) := getR_bits (.inl (by omega))
    go_enter Try.func20, Try.ntmps20
    go_wp2
    go_ret3
    exact Ret3.mk rfl H0.out (Below.refl _ _)
end Go.Proofs.Ytkijpjdjkjnpiaa

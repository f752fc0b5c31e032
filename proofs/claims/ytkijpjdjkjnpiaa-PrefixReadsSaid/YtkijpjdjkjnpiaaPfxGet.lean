/- Get answers getR, for any slice and any numbers. -/
import Derived.Test.YtkijpjdjkjnpiaaPfxPure
import Derived.Test.YtkijpjdjkjnpiaaRef01
namespace Go.Proofs.Ytkijpjdjkjnpiaa
open Go.RowKit

set_option maxRecDepth 100000 in
set_option maxHeartbeats 1000000 in
theorem get_any (w : World) {a : Option Addr} {n c : Nat} {l : List UInt8} (h : Sl w a n c (bv l)) (at_ bits : Int) :
    Calls Try.prog 19 #[.slice a n c, .int .i64 at_, .int .i64 bits] w (Ret3 w (getR l at_ bits)) := by
  have hlen := h.byte
  have hnc := h.cap_le
  have hcm : c ≤ 9223372036854775807 := by have := h.cap_max; unfold maxLen at this; omega
  by_cases h1 : 1 ≤ bits
  · by_cases h2 : bits ≤ 8
    · by_cases k1 : 0 ≤ at_
      · obtain ⟨at_, rfl⟩ := Int.eq_ofNat_of_zero_le k1
        obtain ⟨bits, rfl⟩ := Int.eq_ofNat_of_zero_le (show 0 ≤ bits by omega)
        by_cases k2 : at_ ≤ n
        · by_cases k3 : at_ = n
          · have H0 : Hid (getR l (at_ : Int) (bits : Int) = (0, 0, 12)) := by show _ = _; rw [k3, ← hlen]; exact getR_end (by omega) (by omega)
            have hne : ((at_ : Int) == (n : Int)) = true := by simp [k3]
            clear k3
            go_enter Try.func19, Try.ntmps19
            go_wp2
            go_ret3
            exact Ret3.mk rfl H0.out (Below.refl _ _)
          · have hne : ((at_ : Int) == (n : Int)) = false := by simp; omega
            have hlt : at_ < l.length := by omega
            have P1 := two_le_pow bits (by omega)
            have P2 := pow_le_256 bits (by omega)
            have q1 : (2 : Int) ≤ 2 ^ bits := by have := two_pow_cast bits; omega
            have q2 : (2 : Int) ^ bits ≤ 256 := by have := two_pow_cast bits; omega
            obtain ⟨b, off, rfl, hc⟩ := h.cells (by omega)
            have hca := hc at_ (by omega)
            rw [bv_get l at_ hlt] at hca
            have hx256 : l[at_].toNat < 256 := l[at_].toNat_lt
            have HX : Hid (Go.bits .and .i64 (l[at_].toNat : Int) (2 ^ bits - 1) = ((l[at_].toNat % 2 ^ bits : Nat) : Int)) := by
              show _ = _
              have e : (2 ^ bits - 1 : Int) = ((2 ^ bits - 1 : Nat) : Int) := by have := two_pow_cast bits; omega
              rw [e, i64_and_nat _ _ (by omega) (by omega), Nat.and_two_pow_sub_one_eq_mod]
            have hY : ∃ Y : Nat, Hid (Y = l[at_].toNat % 2 ^ bits) ∧ Y < 2 ^ bits := ⟨_, rfl, Nat.mod_lt _ (by omega)⟩
            obtain ⟨Y, HY, hYlt⟩ := hY
            have hand : Go.bits .and .i64 (l[at_].toNat : Int) (2 ^ bits - 1) = (Y : Int) := by rw [HX.out, HY.out]
            by_cases kx : Y < 2 ^ bits - 1
            · have H0 : Hid (getR l (at_ : Int) (bits : Int) = ((Y : Int), (at_ : Int) + 1, 0)) := by
                show _ = _; rw [HY.out]; exact getR_lt (by omega) (by omega) hlt (by rw [← HY.out]; exact kx)
              have kx' : (Y : Int) < 2 ^ bits - 1 := by have := two_pow_cast bits; omega
              go_enter Try.func19, Try.ntmps19
              go_wp2
              go_ret3
              exact Ret3.mk rfl H0.out (Below.refl _ _)
            · have H0 : Hid (getR l (at_ : Int) (bits : Int) = getT (l.drop (at_ + 1)) 0 (2 ^ bits - 1) (at_ + 1)) := getR_ge (by omega) (by omega) hlt (by rw [← HY.out]; exact kx)
              have kx' : (2 : Int) ^ bits - 1 ≤ (Y : Int) := by have := two_pow_cast bits; omega
              have YE : Hid (Y = 2 ^ bits - 1) := by show _ = _; omega
              by_cases kc : c = at_ + 1
              · have hn1 : n = at_ + 1 := by omega
                have H1 : Hid (getR l (at_ : Int) (bits : Int) = (0, 0, 12)) := by show _ = _; rw [H0.out, getT_nil (by omega)]
                subst kc
                subst hn1
                go_enter Try.func19, Try.ntmps19
                go_wp2
                refine wp_loop_once ?_
                go_wp2
                go_ret3
                exact Ret3.mk rfl H1.out (Below.refl _ _)
              · go_enter Try.func19, Try.ntmps19
                go_wp2
                go_loopw [6, 56] (fun x i wr => ∃ (m k : Nat), x = .int .i64 m ∧ i = .int .i64 k ∧ (m : Int) ≤ 4611686018427387903 ∧ k ≤ 9 ∧ k ≤ n - (at_ + 1) ∧ w = wr ∧
                  getT (l.drop (at_ + 1)) 0 (2 ^ bits - 1) (at_ + 1) = getT (l.drop (at_ + 1 + k)) k m (at_ + 1 + k)) (fun _ i _ => n - (intOf i).toNat)
                case atStart => exact ⟨Y, 0, rfl, rfl, by omega, by omega, by omega, rfl, by rw [YE.out]⟩
                case round =>
                  obtain ⟨m, k, rfl, rfl, hm, hk9, hk, rfl, heq⟩ := hrel
                  have HE := Lib.hid (H0.out.trans heq)
                  clear heq
                  by_cases hlt2 : k < n - (at_ + 1)
                  · have hp : at_ + 1 + k < l.length := by omega
                    have hck := hc (at_ + 1 + k) (by omega)
                    rw [bv_get l (at_ + 1 + k) hp] at hck
                    have hck' : w.cell? ⟨b, off + (at_ + 1) + k, none⟩ = some (.int .u8 (l[at_ + 1 + k].toNat : Int)) := by rw [← hck]; simp only [Nat.add_assoc]
                    clear hck
                    have HS := Lib.hid (getT_step hp k m)
                    have hxk : l[at_ + 1 + k].toNat < 256 := l[at_ + 1 + k].toNat_lt
                    obtain ⟨x, hx⟩ : ∃ x : Nat, x = l[at_ + 1 + k].toNat := ⟨_, rfl⟩
                    rw [← hx] at hck' hxk
                    have HXX := Lib.hid hx
                    clear hx
                    have hand2 : Go.bits .and .u8 (x : Int) 127 = ((x % 128 : Nat) : Int) := by
                      rw [show (127 : Int) = ((127 : Nat) : Int) from rfl, u8_and_nat _ _ hxk (by omega), and127]
                    have hand3 : Hid (Go.bits .and .u8 (x : Int) 127 = ((x % 128 : Nat) : Int)) := hand2
                    clear hand2
                    obtain ⟨p, hp2⟩ : ∃ p : Nat, p = x % 128 := ⟨_, rfl⟩
                    have hand4 : Go.bits .and .u8 (x : Int) 127 = (p : Int) := by rw [hand3.out, hp2]
                    have hp127 : p ≤ 127 := by omega
                    have HP := Lib.hid hp2
                    clear hp2 hand3
                    have HD := Lib.hid (div_cast m k (by omega))
                    by_cases hbig : (4611686018427387903 - m) / 2 ^ (7 * k) < p
                    · have hbig' : ((4611686018427387903 : Int) - m) / 2 ^ (7 * k) < p := by rw [HD.out]; omega
                      have HF : Hid (getR l (at_ : Int) (bits : Int) = (0, 0, 151)) := by
                        show _ = _; rw [HE.out, HS.out, if_pos]; rw [← HXX.out, ← HP.out]; exact hbig
                      go_wp2
                      go_ret3
                      exact Ret3.mk rfl HF.out (Below.refl _ _)
                    · have hbig' : (p : Int) ≤ ((4611686018427387903 : Int) - m) / 2 ^ (7 * k) := by rw [HD.out]; omega
                      have hfit := part_fits hbig (by omega)
                      obtain ⟨q, hq⟩ : ∃ q : Nat, q = p * 2 ^ (7 * k) := ⟨_, rfl⟩
                      have hpq : (p : Int) * 2 ^ (7 * k) = (q : Int) := by rw [hq, Int.natCast_mul, two_pow_cast]
                      have hq2 : (m : Int) + q ≤ 4611686018427387903 := by omega
                      have HQ := Lib.hid hq
                      clear hq
                      have HQ2 : Hid (m + l[at_ + 1 + k].toNat % 128 * 2 ^ (7 * k) = m + q) := by show _ = _; rw [HQ.out, HP.out, HXX.out]
                      have HB : Hid (¬ (4611686018427387903 - m) / 2 ^ (7 * k) < l[at_ + 1 + k].toNat % 128) := by show ¬ _; rw [← HXX.out, ← HP.out]; exact hbig
                      by_cases hx128 : x < 128
                      · have HF : Hid (getR l (at_ : Int) (bits : Int) = (((m + q : Nat) : Int), ((at_ + 1 + k + 1 : Nat) : Int), 0)) := by
                          show _ = _; rw [HE.out, HS.out, if_neg HB.out, if_pos (by rw [← HXX.out]; exact hx128), HQ2.out]
                        go_wp2
                        go_ret3
                        exact Ret3.mk rfl (HF.out.trans (by congr 2 <;> omega)) (Below.refl _ _)
                      · by_cases hk9' : k = 9
                        · have HF : Hid (getR l (at_ : Int) (bits : Int) = (0, 0, 151)) := by
                            show _ = _; rw [HE.out, HS.out, if_neg HB.out, if_neg (by rw [← HXX.out]; exact hx128), if_pos hk9']
                          have hk9b : ((k : Int) == 9) = true := by simp; omega
                          clear hk9'
                          go_wp2
                          go_ret3
                          exact Ret3.mk rfl HF.out (Below.refl _ _)
                        · have HF : Hid (getR l (at_ : Int) (bits : Int) = getT (l.drop (at_ + 1 + k + 1)) (k + 1) (m + q) (at_ + 1 + k + 1)) := by
                            show _ = _; rw [HE.out, HS.out, if_neg HB.out, if_neg (by rw [← HXX.out]; exact hx128), if_neg hk9', HQ2.out]
                          have hk9b : ((k : Int) == 9) = false := by simp; omega
                          go_wp2
                          go_roundw
                          case rel =>
                            refine ⟨m + q, k + 1, by go_num, by go_num, by omega, by omega, by omega, by trivial, ?_⟩
                            rw [← H0.out, HF.out]; rfl
                          case measure => simp [intOf]; omega
                  · have hke : k = n - (at_ + 1) := by omega
                    have HF : Hid (getR l (at_ : Int) (bits : Int) = (0, 0, 12)) := by
                      show _ = _; rw [HE.out, getT_nil (by omega)]
                    clear hke
                    go_wp2
                    go_ret3
                    exact Ret3.mk rfl HF.out (Below.refl _ _)
        · have H0 : Hid (getR l (at_ : Int) (bits : Int) = (0, 0, 11)) := getR_at (by omega) (by omega) (.inr (by omega))
          go_enter Try.func19, Try.ntmps19
          go_wp2
          go_ret3
          exact Ret3.mk rfl H0.out (Below.refl _ _)
      · have H0 : Hid (getR l at_ bits = (0, 0, 11)) := getR_at (by omega) (by omega) (.inl (by omega))
        go_enter Try.func19, Try.ntmps19
        go_wp2
        go_ret3
        exact Ret3.mk rfl H0.out (Below.refl _ _)
    · have H0 : Hid (getR l at_ bits = (0, 0, 150)) := getR_bits (.inr (by omega))
      go_enter Try.func19, Try.ntmps19
      go_wp2
      go_ret3
      exact Ret3.mk rfl H0.out (Below.refl _ _)
  · have H0 : Hid (getR l at_ bits = (0, 0, 150)) := getR_bits (.inl (by omega))
    go_enter Try.func19, Try.ntmps19
    go_wp2
    go_ret3
    exact Ret3.mk rfl H0.out (Below.refl _ _)
end Go.Proofs.Ytkijpjdjkjnpiaa

/- turnpikeref15.power and Put: the reference's answers are putR's. -/
import Derived.Test.YtkijpjdjkjnpiaaPfxPut
namespace Go.Proofs.Ytkijpjdjkjnpiaa
open Go.RowKit

set_option maxRecDepth 100000 in
set_option maxHeartbeats 1000000 in
theorem power_any (k : Nat) (hk : k ≤ 8) (w : World) : Calls Try.prog 33 #[.int .i64 k] w fun e w' => e = .returned (.int .i64 ((2 ^ k : Nat) : Int)) ∧ w = w' := by
  go_enter Try.func33, Try.ntmps33
  go_wp2
  go_loopw [3, 4] (fun n i wr => ∃ j m : Nat, j ≤ k ∧ i = .int .i64 j ∧ n = .int .i64 m ∧ m ≤ 256 ∧ w = wr ∧ m = 2 ^ j) (fun _ i _ => k - (intOf i).toNat)
  case atStart => exact ⟨0, 1, by omega, rfl, rfl, by omega, rfl, rfl⟩
  case round =>
    obtain ⟨j, m, hj, rfl, rfl, hm, rfl, he⟩ := hrel
    have HE := Lib.hid he
    clear he
    by_cases hlt : j < k
    · go_wp2
      go_roundw
      case rel =>
        have h8 := pow_le_256 (j + 1) (by omega)
        have e : 2 ^ (j + 1) = m * 2 := by rw [HE.out, Nat.pow_succ]
        exact ⟨j + 1, m * 2, by omega, by go_num, by go_num, by omega, by trivial, by omega⟩
      case measure => simp [intOf]; omega
    · have : j = k := by omega
      subst this
      go_wp2
      go_ret
      exact ⟨ret_int (by rw [HE.out]), rfl⟩

set_option maxRecDepth 100000 in
set_option maxHeartbeats 1000000 in
theorem rput_any (n bits first : Int) (w : World) (f1 : 0 ≤ first) (f2 : first ≤ 255) :
    Calls Try.prog 15 #[.int .i64 n, .int .i64 bits, .int .u8 first] w (RetBE w.heap.size w (putR n bits first)) := by
  by_cases h1 : 1 ≤ bits
  · by_cases h2 : bits ≤ 8
    · by_cases k1 : 0 ≤ n
      · by_cases k2 : n ≤ 4611686018427387903
        · obtain ⟨n, rfl⟩ := Int.eq_ofNat_of_zero_le k1
          obtain ⟨bits, rfl⟩ := Int.eq_ofNat_of_zero_le (show 0 ≤ bits by omega)
          obtain ⟨first, rfl⟩ := Int.eq_ofNat_of_zero_le f1
          have H0 : Hid (putR (n : Int) (bits : Int) (first : Int) = (putL n bits first, 0)) := by
            show _ = _; unfold putR; rw [if_neg (by omega), if_neg (by omega)]; rfl
          have P1 := two_le_pow bits (by omega)
          have P2 := pow_le_256 bits (by omega)
          have hlt256 := highN_add first bits (by omega) (by omega)
          have HH : Hid (highN first bits = first / 2 ^ bits * 2 ^ bits) := rfl
          have HPow := power_any bits (by omega)
          have HPL : Hid (putL n bits first = putL n bits first) := rfl
          have HLt := fun (h : n < 2 ^ bits - 1) => putL_lt (first := first) h
          have HGe := fun (h : 2 ^ bits - 1 ≤ n) => putL_ge (first := first) h
          have LL := putL_len n bits first (by omega)
          obtain ⟨q, hq⟩ : ∃ q : Nat, q = 2 ^ bits := ⟨_, rfl⟩
          rw [← hq] at P1 P2 hlt256 HH HPow HLt HGe
          obtain ⟨g, hg⟩ : ∃ g : Nat, g = highN first bits := ⟨_, rfl⟩
          have hgq : first / q * q = g := by rw [hg, HH.out]
          obtain ⟨d, hd⟩ : ∃ d : Nat, d = first / q := ⟨_, rfl⟩
          have hd255 : d ≤ 255 := by have := Nat.div_le_self first q; omega
          rw [← hd] at hgq
          have hdI : (first : Int) / (q : Int) = (d : Int) := by rw [hd]; simp
          have hgI : (d : Int) * (q : Int) = (g : Int) := by rw [← hgq]; simp
          rw [← hg] at hlt256 HLt HGe
          clear hq hgq HH hg hd
          have HG := Lib.hid (And.intro hdI hgI)
          clear hdI
          have HL := Lib.hid HLt
          have HE := Lib.hid HGe
          have HP := Lib.hid HPow
          clear hgI HLt HGe HPow
          by_cases kn : q - 1 ≤ n
          · go_enter Try.func15, Try.ntmps15
            go_wp2_with fail
            refine (HP.out _).mono ?_
            rintro e w' ⟨rfl, rfl⟩
            obtain ⟨hdI, hgI⟩ := HG.out
            go_wp2
            clear hgI hdI
            go_loopw [0, 10] (fun x b wr => ∃ (m : Nat) (l : List UInt8) (a : Option Addr) (c : Nat), x = .int .i64 m ∧ b = .slice a l.length c ∧ (m : Int) ≤ 4611686018427387903 ∧ l ++ tailL m = putL n bits first ∧
              wr.ownsRow w.heap.size 5 1 (.slice a l.length c) l.length (bv l) ∧ Below w.heap.size w wr) (fun x _ _ => (intOf x).toNat)
            case atStart =>
              refine ⟨n - (q - 1), [UInt8.ofNat (g + (q - 1))], some ⟨w.heap.size, 0, none⟩, 1, ?_, rfl, by omega, ?_, ?_, ?_⟩
              · congr 1; omega
              · rw [HE.out kn]; rfl
              · rw [bv_single hlt256, show (((g + (q - 1) : Nat)) : Int) = (g : Int) + q - 1 by omega]
                exact World.ownsRow_lit w _ 1 (Nat.le_refl _) (by decide) rfl
              · exact (Below.refl _ _).alloc (Nat.le_refl _) _
            case round =>
              obtain ⟨m, l, a, c, rfl, rfl, hm, heq, ho, hb⟩ := hrel
              have HE := Lib.hid heq
              clear heq
              have hl9 : l.length ≤ 9 := by
                have := congrArg List.length HE.out; simp at this
                have : 0 < (tailL m).length := by rw [tailL]; split <;> simp
                omega
              have hsz := hb.size
              by_cases hlt : 128 ≤ m
              · go_wp2_with (at_builtin; refine wpL_app1 tyU8 rfl _ _ rfl rfl rfl ho rfl (by omega) (by unfold maxLen; omega) hb (Nat.le_refl _) hsz ?_; intro a' c' w' ho' hb' _)
                go_roundw
                case rel =>
                  refine ⟨m / 128, l ++ [UInt8.ofNat (128 + m % 128)], a', c', ?_, ?_, ?_, ?_, ?_, hb'⟩
                  · go_num
                  · simp
                  · omega
                  · rw [List.append_assoc, ← HE.out, tailL_ge hlt]; rfl
                  · rw [← bv_snoc _ _ (by omega)]
                    simpa using ho'
                case measure => simp [intOf]; omega
              · go_wp2_with (at_builtin; refine wpL_app1 tyU8 rfl _ _ rfl rfl rfl ho rfl (by omega) (by unfold maxLen; omega) hb (Nat.le_refl _) hsz ?_; intro a' c' w' ho' hb' _)
                go_ret2
                rw [H0.out]
                refine RetBE.mk rfl rfl ho' ?_ hb'
                rw [← HE.out, tailL_lt (by omega), ← bv_snoc _ _ (by omega)]
          · go_enter Try.func15, Try.ntmps15
            go_wp2_with fail
            refine (HP.out _).mono ?_
            rintro e w' ⟨rfl, rfl⟩
            obtain ⟨hdI, hgI⟩ := HG.out
            go_wp2
            go_ret2
            rw [H0.out]
            refine RetBE.mk rfl rfl (World.ownsRow_lit w _ 1 (Nat.le_refl _) (by decide) rfl) ?_ ((Below.refl _ _).alloc (Nat.le_refl _) _)
            rw [HL.out (by omega), bv_single (by omega)]
            simp
        · have H0 : Hid (putR n bits first = ([], 10)) := by show _ = _; unfold putR; rw [if_neg (by omega), if_pos (by omega)]
          go_enter Try.func15, Try.ntmps15
          go_wp2
          go_ret2
          rw [H0.out]
          exact RetBE.nil _ _ _ rfl
      · have H0 : Hid (putR n bits first = ([], 10)) := by show _ = _; unfold putR; rw [if_neg (by omega), if_pos (by omega)]
        go_enter Try.func15, Try.ntmps15
        go_wp2
        go_ret2
        rw [H0.out]
        exact RetBE.nil _ _ _ rfl
    · have H0 : Hid (putR n bits first = ([], 150)) := by show _ = _; unfold putR; rw [if_pos (by omega)]
      go_enter Try.func15, Try.ntmps15
      go_wp2
      go_ret2
      rw [H0.out]
      exact RetBE.nil _ _ _ rfl
  · have H0 : Hid (putR n bits first = ([], 150)) := by show _ = _; unfold putR; rw [if_pos (by omega)]
    go_enter Try.func15, Try.ntmps15
    go_wp2
    go_ret2
    rw [H0.out]
    exact RetBE.nil _ _ _ rfl
end Go.Proofs.Ytkijpjdjkjnpiaa

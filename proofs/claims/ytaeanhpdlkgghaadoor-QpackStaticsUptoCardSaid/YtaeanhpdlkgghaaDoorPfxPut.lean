/- Put answers putR, for any arguments. -/
import Derived.Test.YtaeanhpdlkgghaaDoorPfxPure
import Derived.Test.YtaeanhpdlkgghaaDoorRef01
namespace Go.Proofs.YtaeanhpdlkgghaaDoor
open Go.RowKit

/-- the answer '(bytes, error number)' in fresh memory -/
def RetBE (B : Nat) (w : World) (r : List UInt8 × Int) (e : Ending) (w' : World) : Prop :=
  ∃ a c, e = .returned (.tuple #[.slice a r.1.length c, .int .i64 r.2]) ∧ w'.ownsRow B 5 1 (.slice a r.1.length c) r.1.length (bv r.1) ∧ Below w.heap.size w w'

theorem RetBE.nil (w : World) (k : Int) (e : Ending) (h : e = .returned (.tuple #[.slice none 0 0, .int .i64 k])) : RetBE w.heap.size w ([], k) e w :=
  ⟨none, 0, h, World.ownsRow_nil _ _ _ _, Below.refl _ _⟩

theorem RetBE.mk {w w' : World} {r : List UInt8 × Int} {a : Option Addr} {c n : Nat} {k : Int} {xs : List Value} {e : Ending} (h : e = .returned (.tuple #[.slice a n c, .int .i64 k])) (hk : r.2 = k)
    (ho : w'.ownsRow w.heap.size 5 1 (.slice a n c) n xs) (hx : bv r.1 = xs) (hb : Below w.heap.size w w') : RetBE w.heap.size w r e w' := by
  have hn : r.1.length = n := by have := ho.1; rw [← hx, bv_length] at this; omega
  subst hk; subst hx; subst hn
  exact ⟨a, c, h, ho, hb⟩

set_option maxRecDepth 100000 in
set_option maxHeartbeats 1000000 in
theorem put_any (n bits first : Int) (w : World) (f1 : 0 ≤ first) (f2 : first ≤ 255) :
    Calls Tryd.prog 57 #[.int .i64 n, .int .i64 bits, .int .u8 first] w (RetBE w.heap.size w (putR n bits first)) := by
  by_cases h1 : 1 ≤ bits
  · by_cases h2 : bits ≤ 8
    · by_cases k1 : 0 ≤ n
      · by_cases k2 : n ≤ 4611686018427387903
        · obtain ⟨n, rfl⟩ := Int.eq_ofNat_of_zero_le k1
          obtain ⟨bits, rfl⟩ := Int.eq_ofNat_of_zero_le (show 0 ≤ bits by omega)
          obtain ⟨first, rfl⟩ := Int.eq_ofNat_of_zero_le f1
          have H0 : Hid (putR (n : Int) (bits : Int) (first : Int) = (putL n bits first, 0)) := by
            show _ = _; unfold putR; rw [if_neg (by omega), if_neg (by omega)]; rfl
          have P1 := two_le_pow bits (by omega)
          have P2 := pow_le_256 bits (by omega)
          have q1 : (2 : Int) ≤ 2 ^ bits := by have : ((2 ^ bits : Nat) : Int) = 2 ^ bits := by simp
                                               omega
          have q2 : (2 : Int) ^ bits ≤ 256 := by have : ((2 ^ bits : Nat) : Int) = 2 ^ bits := by simp
                                                 omega
          have HA := Lib.hid (bits_andNot first bits (by omega) (by omega))
          by_cases kn : 2 ^ bits - 1 ≤ n
          · have kn' : (2 : Int) ^ bits - 1 ≤ (n : Int) := by have : ((2 ^ bits : Nat) : Int) = 2 ^ bits := by simp
                                                              omega
            have HL := Lib.hid (putL_ge (first := first) kn)
            have LL := putL_len n bits first (by omega)
            have ho2 := bits_or first bits (2 ^ bits - 1) (by omega) (by omega) (by omega)
            have HO : Hid (Go.bits .or .u8 (highN first bits : Int) (2 ^ bits - 1) = ((highN first bits + (2 ^ bits - 1) : Nat) : Int)) := by
              show _ = _; rw [← ho2]; congr 1; have : ((2 ^ bits : Nat) : Int) = 2 ^ bits := by simp
              omega
            have hlt256 := highN_add first bits (by omega) (by omega)
            clear ho2
            go_enter Tryd.func57, Tryd.ntmps57
            go_wp2
            go_loopw [0, 9] (fun x b wr => ∃ (m : Nat) (l : List UInt8) (a : Option Addr) (c : Nat), x = .int .i64 m ∧ b = .slice a l.length c ∧ (m : Int) ≤ 4611686018427387903 ∧ l ++ tailL m = putL n bits first ∧
              wr.ownsRow w.heap.size 5 1 (.slice a l.length c) l.length (bv l) ∧ Below w.heap.size w wr) (fun x _ _ => (intOf x).toNat)
            case atStart =>
              refine ⟨n - (2 ^ bits - 1), [UInt8.ofNat (highN first bits + (2 ^ bits - 1))], some ⟨w.heap.size, 0, none⟩, 1, ?_, rfl, by omega, ?_, ?_, ?_⟩
              · have : ((2 ^ bits : Nat) : Int) = 2 ^ bits := by simp
                congr 1; omega
              · rw [HL.out]; rfl
              · rw [HA.out, HO.out, bv_single hlt256]
                exact World.ownsRow_lit w _ 1 (Nat.le_refl _) (by decide) rfl
              · exact (Below.refl _ _).alloc (Nat.le_refl _) _
            case round =>
              obtain ⟨m, l, a, c, rfl, rfl, hm, heq, ho, hb⟩ := hrel
              have HE := Lib.hid heq
              clear heq
              have hl10 : l.length ≤ 10 := by have := congrArg List.length HE.out; simp at this; omega
              have hl9 : l.length ≤ 9 := by
                have := congrArg List.length HE.out; simp at this
                have : 0 < (tailL m).length := by rw [tailL]; split <;> simp
                omega
              have hsz := hb.size
              by_cases hlt : 128 ≤ m
              · go_wp2_with (at_builtin; refine wpL_app1 tyU8 rfl _ _ rfl rfl rfl ho rfl (by omega) (by unfold maxLen; omega) hb (Nat.le_refl _) hsz ?_; intro a' c' w' ho' hb' _)
                go_roundw
                case rel =>
                  rw [bits_or128m, bv_snoc _ _ (by omega)] at ho'
                  refine ⟨m / 128, l ++ [UInt8.ofNat (128 + m % 128)], a', c', ?_, ?_, ?_, ?_, ?_, hb'⟩
                  · go_num
                  · simp
                  · omega
                  · rw [List.append_assoc, ← HE.out, tailL_ge hlt]; rfl
                  · simpa using ho'
                case measure => simp [intOf]; omega
              · go_wp2_with (at_builtin; refine wpL_app1 tyU8 rfl _ _ rfl rfl rfl ho rfl (by omega) (by unfold maxLen; omega) hb (Nat.le_refl _) hsz ?_; intro a' c' w' ho' hb' _)
                go_ret2
                rw [H0.out]
                refine RetBE.mk rfl rfl ho' ?_ hb'
                rw [← HE.out, tailL_lt (by omega), bv_append]
                simp [bv]
                omega
          · have kn' : (n : Int) < (2 : Int) ^ bits - 1 := by have : ((2 ^ bits : Nat) : Int) = 2 ^ bits := by simp
                                                              omega
            have HL := Lib.hid (putL_lt (first := first) (Nat.lt_of_not_le kn))
            have HO := Lib.hid (bits_or first bits n (by omega) (by omega) (by omega))
            have hlt256 := highN_add first bits (by omega) (by omega)
            go_enter Tryd.func57, Tryd.ntmps57
            go_wp2
            go_ret2
            rw [H0.out]
            refine RetBE.mk rfl rfl (World.ownsRow_lit w _ 1 (Nat.le_refl _) (by decide) rfl) ?_ ((Below.refl _ _).alloc (Nat.le_refl _) _)
            rw [HL.out, HA.out, HO.out, bv_single (by omega)]
        · have H0 : Hid (putR n bits first = ([], 10)) := by show _ = _; unfold putR; rw [if_neg (by omega), if_pos (by omega)]
          go_enter Tryd.func57, Tryd.ntmps57
          go_wp2
          go_ret2
          rw [H0.out]
          exact RetBE.nil _ _ _ rfl
      · have H0 : Hid (putR n bits first = ([], 10)) := by show _ = _; unfold putR; rw [if_neg (by omega), if_pos (by omega)]
        go_enter Tryd.func57, Tryd.ntmps57
        go_wp2
        go_ret2
        rw [H0.out]
        exact RetBE.nil _ _ _ rfl
    · have H0 : Hid (putR n bits first = ([], 150)) := by show _ = _; unfold putR; rw [if_pos (by omega)]
      go_enter Tryd.func57, Tryd.ntmps57
      go_wp2
      go_ret2
      rw [H0.out]
      exact RetBE.nil _ _ _ rfl
  · have H0 : Hid (putR n bits first = ([], 150)) := by show _ = _; unfold putR; rw [if_pos (by omega)]
    go_enter Tryd.func57, Tryd.ntmps57
    go_wp2
    go_ret2
    rw [H0.out]
    exact RetBE.nil _ _ _ rfl
end Go.Proofs.YtaeanhpdlkgghaaDoor

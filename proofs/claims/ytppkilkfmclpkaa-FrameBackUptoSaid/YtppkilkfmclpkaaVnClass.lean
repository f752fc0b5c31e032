/- Contracts of turnpikeref01.Size and varint.class. No condition. -/
import Derived.Test.YtppkilkfmclpkaaVnPure
import Derived.Test.YtppkilkfmclpkaaShelf
import Derived.Test.YtppkilkfmclpkaaWalk
namespace Go.Proofs.Ytppkilkfmclpkaa
open Go.RowKit

def IntOf (w : World) (z : Int) (e : Ending) (w' : World) : Prop := e = .returned (.int .i64 z) ∧ Below w.heap.size w w'
def BoolOf (w : World) (b : Bool) (e : Ending) (w' : World) : Prop := e = .returned (.bool b) ∧ Below w.heap.size w w'

set_option maxRecDepth 100000 in
theorem size_any (w : World) (n : Nat) (h : n < 4611686018427387904) : Calls Try.prog 48 #[.int .i64 (n : Int)] w (IntOf w (szN n : Int)) := by
  have h0 : ¬ (n : Int) < 0 := by omega
  have h1 : ¬ (4611686018427387903 : Int) < (n : Int) := by omega
  by_cases c1 : n < 64
  · have d1 : (n : Int) < 64 := by omega
    have e : szN n = 1 := by simp [szN, c1]
    rw [e]
    go_enter Try.func48, Try.ntmps48
    go_wp2
    go_ret
    exact ⟨rfl, Below.refl _ _⟩
  · have d1 : ¬ (n : Int) < 64 := by omega
    by_cases c2 : n < 16384
    · have d2 : (n : Int) < 16384 := by omega
      have e : szN n = 2 := by simp [szN, c1, c2]
      rw [e]
      go_enter Try.func48, Try.ntmps48
      go_wp2
      go_ret
      exact ⟨rfl, Below.refl _ _⟩
    · have d2 : ¬ (n : Int) < 16384 := by omega
      by_cases c3 : n < 1073741824
      · have d3 : (n : Int) < 1073741824 := by omega
        have e : szN n = 4 := by simp [szN, c1, c2, c3]
        rw [e]
        go_enter Try.func48, Try.ntmps48
        go_wp2
        go_ret
        exact ⟨rfl, Below.refl _ _⟩
      · have d3 : ¬ (n : Int) < 1073741824 := by omega
        have e : szN n = 8 := by simp [szN, c1, c2, c3]
        rw [e]
        go_enter Try.func48, Try.ntmps48
        go_wp2
        go_ret
        exact ⟨rfl, Below.refl _ _⟩
set_option maxRecDepth 100000 in
theorem size_none (w : World) (n : Int) (h : n < 0 ∨ 4611686018427387903 < n) : Calls Try.prog 48 #[.int .i64 n] w (IntOf w 0) := by
  have hc : n < 0 ∨ (¬ n < 0 ∧ 4611686018427387903 < n) := by omega
  rcases hc with h1 | ⟨h1, h2⟩
  all_goals
    go_enter Try.func48, Try.ntmps48
    go_wp2
    go_ret
    exact ⟨rfl, Below.refl _ _⟩
theorem bitLen_gt (k x : Nat) (h : 2 ^ k ≤ x) (hx : x < 2 ^ 64) : k < Lib.bitLen x := by
  rw [Lib.bitLen_shift k x h hx]
  have h1 : 1 ≤ x / 2 ^ k := (Nat.le_div_iff_mul_le (Nat.pow_pos (by decide))).2 (by omega)
  have h2 : x / 2 ^ k < 2 ^ 64 := Nat.lt_of_le_of_lt (Nat.div_le_self _ _) hx
  have := Lib.bitLen_half (x / 2 ^ k) (by omega) h2
  omega
theorem bitLen_lt (k x : Nat) (hk : k ≤ 64) (h : x < 2 ^ k) : ¬ (k : Int) < (Lib.bitLen x : Int) := by
  have := Lib.bitLen_le x k hk h
  omega
theorem bitLen_gt' (k x : Nat) (h : 2 ^ k ≤ x) (hx : x < 2 ^ 64) : (k : Int) < (Lib.bitLen x : Int) := by
  have := bitLen_gt k x h hx
  omega

set_option maxRecDepth 100000 in
set_option maxHeartbeats 1000000 in
theorem class_any (w : World) (n : Nat) (h : n < 4611686018427387904) : Calls Try.prog 59 #[.int .i64 (n : Int)] w (IntOf w (clN n : Int)) := by
  have h0 : ¬ (n : Int) < 0 := by omega
  have h1 : ¬ (4611686018427387903 : Int) < (n : Int) := by omega
  have hu : IntKind.u64.wrap (n : Int) = (n : Int) := by rw [IntKind.wrap_u64]; omega
  have HL : Hid (∀ w', Calls Try.prog 71 #[.int .u64 (n : Int)] w' fun e w'' => e = .returned (.int .i64 (Lib.bitLen n)) ∧ w'' = w') := Lib.hid (fun w' => by
    have := Try.bits_Len (n : Int) w' (by omega) (by omega)
    rwa [Int.toNat_natCast] at this)
  have h64 : n < 2 ^ 64 := by omega
  have hb : ∀ k, k ≤ clN n → (k < clN n ∧ ((8 * 2 ^ k - 2 : Nat) : Int) < (Lib.bitLen n : Int)) ∨ (k = clN n ∧ ¬ ((8 * 2 ^ k - 2 : Nat) : Int) < (Lib.bitLen n : Int)) := by
    intro k hk
    by_cases hkc : k < clN n
    · refine .inl ⟨hkc, bitLen_gt' _ _ ?_ h64⟩
      rcases szN_cs n with ⟨a, _, b⟩ | ⟨a, _, _, b⟩ | ⟨a, _, _, b⟩ | ⟨a, _, b⟩
      · omega
      · obtain rfl : k = 0 := by omega
        exact a
      · have : k = 0 ∨ k = 1 := by omega
        rcases this with rfl | rfl <;> show _ ≤ n <;> omega
      · have : k = 0 ∨ k = 1 ∨ k = 2 := by omega
        rcases this with rfl | rfl | rfl <;> show _ ≤ n <;> omega
    · obtain rfl : k = clN n := by omega
      refine .inr ⟨rfl, bitLen_lt _ _ ?_ ?_⟩
      · rcases szN_cs n with ⟨a, _, b⟩ | ⟨a, _, _, b⟩ | ⟨a, _, _, b⟩ | ⟨a, _, b⟩ <;> rw [b] <;> decide
      · rcases szN_cs n with ⟨a, _, b⟩ | ⟨_, a, _, b⟩ | ⟨_, a, _, b⟩ | ⟨_, _, b⟩ <;> rw [b] <;> show n < _ <;> omega
  have hc3 : clN n ≤ 3 := by rcases szN_cs n with h | h | h | h <;> omega
  have HB := Lib.hid hb
  clear hb h64
  go_enter Try.func59, Try.ntmps59
  go_wp2_with fail
  go_loopw [3] (fun v wr => ∃ k : Nat, v = .int .i64 (k : Int) ∧ k ≤ clN n ∧ Below w.heap.size w wr) (fun v _ => clN n - (intOf v).toNat)
  case atStart => exact ⟨0, rfl, Nat.zero_le _, Below.refl _ _⟩
  case round =>
    obtain ⟨k, rfl, hk, hB⟩ := hrel
    have hc := HB.out k hk
    have hk4 : k = 0 ∨ k = 1 ∨ k = 2 ∨ k = 3 := by omega
    rcases hk4 with rfl | rfl | rfl | rfl
    all_goals
      rcases hc with ⟨hlt, hc⟩ | ⟨heq, hc⟩
      · have HC := Lib.hid hlt
        clear hlt
        simp at hc
        go_wp2_with fail
        refine Mx.region [] (fun _ => True) (by kernel_rfl) (by kernel_rfl) trivial ?_
        repeat ((first | (refine Mx.skips (by kernel_rfl) ?_; go_big_quiet_skip) | (refine Mx.quietly rfl ?_; go_big_quiet_want; go_big_quiet_op; go_big_quiet_on)); refine Mx.done ?_)
        refine Mx.loudly (by kernel_rfl) (by kernel_rfl) ?_
        go_wp2_with fail
        refine (HL.out _).mono ?_
        rintro e w2 ⟨rfl, rfl⟩
        go_wp2_with fail
        repeat ((first | (refine Mx.skips (by kernel_rfl) ?_; go_big_quiet_skip) | (refine Mx.quietly rfl ?_; go_big_quiet_want; go_big_quiet_op; go_big_quiet_on)); refine Mx.done ?_)
        refine Mx.nil ?_
        go_wp2_with fail
        go_roundw
        case rel => exact ⟨_, by push_cast; rfl, HC.out, hB.trans (below_drewN (Below.refl _ _) 1 |>.mono hB.size)⟩
        case measure => have := HC.out; simp [intOf]; omega
      · have HE := Lib.hid heq
        clear heq
        simp at hc
        go_wp2_with fail
        refine Mx.region [] (fun _ => True) (by kernel_rfl) (by kernel_rfl) trivial ?_
        repeat ((first | (refine Mx.skips (by kernel_rfl) ?_; go_big_quiet_skip) | (refine Mx.quietly rfl ?_; go_big_quiet_want; go_big_quiet_op; go_big_quiet_on)); refine Mx.done ?_)
        refine Mx.loudly (by kernel_rfl) (by kernel_rfl) ?_
        go_wp2_with fail
        refine (HL.out _).mono ?_
        rintro e w2 ⟨rfl, rfl⟩
        go_wp2_with fail
        repeat ((first | (refine Mx.skips (by kernel_rfl) ?_; go_big_quiet_skip) | (refine Mx.quietly rfl ?_; go_big_quiet_want; go_big_quiet_op; go_big_quiet_on)); refine Mx.done ?_)
        refine Mx.nil ?_
        go_wp2_with fail
        go_ret
        exact ⟨by rw [← HE.out]; rfl, hB.trans (below_drewN (Below.refl _ _) 1 |>.mono hB.size)⟩
end Go.Proofs.Ytppkilkfmclpkaa

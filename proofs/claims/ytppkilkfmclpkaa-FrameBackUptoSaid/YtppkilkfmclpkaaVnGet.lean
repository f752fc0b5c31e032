/- Contract of varint.Get. No condition. -/
import Derived.Test.YtppkilkfmclpkaaVnRef
import Derived.Deep.DeepCutAuto
namespace Go.Proofs.Ytppkilkfmclpkaa
open Go.RowKit

/-- a number out of its bytes -/
def gvN (n : Nat) (l : List UInt8) : Nat := l.foldl (fun n y => n * 256 + y.toNat) n
theorem gvN_snoc (n : Nat) (l : List UInt8) (y : UInt8) : gvN n (l ++ [y]) = gvN n l * 256 + y.toNat := by simp [gvN]
theorem gvN_lt : ∀ (l : List UInt8) (n : Nat), n < 64 → gvN n l < 64 * 256 ^ l.length := by
  have key : ∀ (l : List UInt8) (n m : Nat), n < m → gvN n l < m * 256 ^ l.length := by
    intro l
    induction l with
    | nil => intro n m h; simpa [gvN] using h
    | cons y r ih =>
      intro n m h
      have h1 := ih (n * 256 + y.toNat) (m * 256) (by have := y.toNat_lt; omega)
      simp only [List.length_cons, Nat.pow_succ]
      have e : m * 256 * 256 ^ r.length = m * (256 ^ r.length * 256) := by rw [Nat.mul_assoc, Nat.mul_comm 256]
      rw [← e]
      exact h1
  exact fun l n h => key l n 64 h
/-- how many bytes the number has that begins so -/
def szB (x : UInt8) : Nat := 2 ^ (x.toNat / 64)
/-- the number at a place, the place behind it, the error's number -/
def getV (l : List UInt8) (at_ : Nat) : Nat × Nat × Int :=
  if l.length < at_ then (0, 0, 11) else match l.drop at_ with
    | [] => (0, 0, 12)
    | x :: r => if r.length + 1 < szB x then (0, 0, 12) else (gvN (x.toNat % 64) (r.take (szB x - 1)), at_ + szB x, 0)
theorem szB_cs (x : UInt8) : (x.toNat / 64 = 0 ∧ szB x = 1) ∨ (x.toNat / 64 = 1 ∧ szB x = 2) ∨ (x.toNat / 64 = 2 ∧ szB x = 4) ∨ (x.toNat / 64 = 3 ∧ szB x = 8) := by
  have := x.toNat_lt
  have h : x.toNat / 64 = 0 ∨ x.toNat / 64 = 1 ∨ x.toNat / 64 = 2 ∨ x.toNat / 64 = 3 := by omega
  unfold szB
  rcases h with h | h | h | h <;> rw [h] <;> simp
/-- three numbers, nothing changed -/
def Ret3N (w : World) (r : Nat × Nat × Int) (e : Ending) (w' : World) : Prop :=
  e = .returned (.tuple #[.int .i64 (r.1 : Int), .int .i64 (r.2.1 : Int), .int .i64 r.2.2]) ∧ Below w.heap.size w w'
theorem sl_end {w : World} {a : Option Addr} {n c k m : Nat} {xs : List Value} (h : Sl w a n c xs) (hk : n ≤ k) (hm : m = 0) : Sl w a m (c - k) (xs.drop k) := by
  subst hm
  have : xs.drop k = [] := List.drop_of_length_le (by rw [h.len]; exact hk)
  rw [this]
  exact ⟨rfl, Nat.zero_le _, by have := h.cap_max; omega, fun e => by rw [h.nil e, Nat.zero_sub], fun h0 => absurd h0 (Nat.lt_irrefl _)⟩
theorem sl_in {w : World} {a : Option Addr} {n c k : Nat} {xs : List Value} (h : Sl w a n c xs) (hk : k ≤ n) : Sl w (Option.map (fun x => x.add k) a) (n - k) (c - k) (xs.drop k) := by
  refine ⟨by rw [List.length_drop, h.len], by have := h.cap_le; omega, by have := h.cap_max; omega, fun e => ?_, fun h0 => ?_⟩
  · cases a with
    | none => rw [h.nil rfl, Nat.zero_sub]
    | some ad => cases e
  · obtain ⟨b, off, rfl, hc⟩ := h.cells (by omega)
    refine ⟨b, off + k, by rw [Option.map_some, addr_add], fun i hi => ?_⟩
    rw [Nat.add_assoc, hc (k + i) (by omega), List.getElem?_drop]

set_option maxRecDepth 100000 in
set_option maxHeartbeats 1000000 in
theorem get_any (w : World) {a : Option Addr} {n c : Nat} {l : List UInt8} (h : Sl w a n c (bv l)) (at_ : Nat) (ha : at_ < 9223372036854775808) :
    Calls Try.prog 73 #[.slice a n c, .int .i64 (at_ : Int)] w (Ret3N w (getV l at_)) := by
  have hl := h.byte
  subst hl
  have a0 : ¬ (at_ : Int) < 0 := by omega
  have hcap := h.cap_le
  have hcm : (c : Int) ≤ 9223372036854775807 := by have := h.cap_max; unfold maxLen at this; omega
  by_cases h1 : l.length < at_
  · have a1 : (l.length : Int) < (at_ : Int) := by omega
    have e : getV l at_ = (0, 0, 11) := if_pos h1
    rw [e]
    clear e
    go_enter Try.func73, Try.ntmps73
    go_wp2
    go_ret3
    exact ⟨rfl, Below.refl _ _⟩
  · have a1 : ¬ (l.length : Int) < (at_ : Int) := by omega
    cases hd : l.drop at_ with
    | nil =>
      have e : getV l at_ = (0, 0, 12) := by unfold getV; rw [if_neg h1, hd]
      have hle : l.length ≤ at_ := by
        have := congrArg List.length hd
        rw [List.length_drop, List.length_nil] at this
        omega
      rw [e]
      have hm : l.length - at_ = 0 := by omega
      clear e hd h
      go_enter Try.func73, Try.ntmps73
      go_wp2
      all_goals go_ret3
      all_goals exact ⟨rfl, Below.refl _ _⟩
    | cons x r =>
      have hlt : at_ < l.length := by
        have := congrArg List.length hd
        rw [List.length_drop, List.length_cons] at this
        omega
      have hrl : l.length - at_ = r.length + 1 := by
        have := congrArg List.length hd
        rw [List.length_drop, List.length_cons] at this
        omega
      have hS := sl_in h (k := at_) (by omega)
      rw [← bv_drop, hd] at hS
      have hca : ¬ c = at_ := by omega
      have hS0 := h
      obtain ⟨b, off, rfl, hjunk⟩ := h.cells (by omega)
      clear hjunk
      rw [Option.map_some, addr_add, hrl] at hS
      obtain ⟨b', off', hbo, hcell⟩ := hS.cells (by omega)
      simp only [Option.some.injEq, Addr.mk.injEq, and_true] at hbo
      obtain ⟨rfl, rfl⟩ := hbo
      have x0 := hcell 0 (by omega)
      rw [Nat.add_zero] at x0
      have x0' : w.cell? ⟨b, off + at_, none⟩ = some (.int .u8 (x.toNat : Int)) := by rw [x0]; simp [bv]
      have e : getV l at_ = if r.length + 1 < szB x then (0, 0, 12) else (gvN (x.toNat % 64) (r.take (szB x - 1)), at_ + szB x, 0) := by unfold getV; rw [if_neg h1, hd]
      have HS := Lib.hid hS
      have HE := Lib.hid e
      have hx8 := x.toNat_lt
      have HX := szB_cs x
      have hcap' := hS.cap_le
      obtain ⟨xn, hxn⟩ : ∃ xn, xn = x.toNat := ⟨_, rfl⟩
      rw [← hxn] at x0' hx8 HX
      have HXn := Lib.hid hxn
      clear hxn
      obtain ⟨m, hm⟩ : ∃ m, m = r.length + 1 := ⟨_, rfl⟩
      rw [← hm] at hrl hcap' HS
      have HM := Lib.hid hm
      have hm0 : ((m : Int) == 0) = false := by rw [beq_eq_false_iff_ne]; omega
      have hmp : (0 : Int) < (m : Int) := by omega
      have hmi : (m : Int) ≤ ((c - at_ : Nat) : Int) := by omega
      have fand : Go.bits .and .u8 (xn : Int) 63 = ((xn % 64 : Nat) : Int) := by
        have h1 := u8_and_nat xn 63 (by omega) (by decide)
        rw [show xn &&& 63 = xn % 64 from Nat.and_two_pow_sub_one_eq_mod xn 6] at h1
        exact_mod_cast h1
      clear e hd h hS hS0 hcell x0 h1 hm
      rcases HX with ⟨hq, hsz⟩ | ⟨hq, hsz⟩ | ⟨hq, hsz⟩ | ⟨hq, hsz⟩
      · have HSz := Lib.hid hsz
        clear hsz
        have fw : RowKit.wrap64 1 = 1 := by unfold RowKit.wrap64; omega
        have hms' : ¬ (m : Int) < 1 := by omega
        rw [HE.out, if_neg (by have := HM.out; rw [HSz.out]; omega)]
        have fa : IntKind.i64.wrap ((at_ : Int) + 1) = (at_ : Int) + 1 := by rw [IntKind.wrap_i64]; omega
        go_enter Try.func73, Try.ntmps73
        go_wp2_with fail
        all_goals
          go_loopw [4, 49] (fun nv iv wr => nv = .int .i64 ((xn % 64 : Nat) : Int) ∧ iv = .int .i64 0 ∧ wr = w) (fun _ _ _ => 0)
          case atStart => exact ⟨by push_cast; rfl, rfl, rfl⟩
          case round =>
            obtain ⟨rfl, rfl, rfl⟩ := hrel
            go_wp2
            go_ret3
            refine ⟨?_, Below.refl _ _⟩
            rw [HSz.out, ← HXn.out]
            simp [gvN]
      · have HSz := Lib.hid hsz
        clear hsz
        have fw : RowKit.wrap64 2 = 2 := by unfold RowKit.wrap64; omega
        by_cases hms : m < 2
        · have hms' : (m : Int) < 2 := by omega
          rw [HE.out, if_pos (by have := HM.out; rw [HSz.out]; omega)]
          go_enter Try.func73, Try.ntmps73
          go_wp2
          go_ret3
          exact ⟨rfl, Below.refl _ _⟩
        · have hms' : ¬ (m : Int) < 2 := by omega
          rw [HE.out, if_neg (by have := HM.out; rw [HSz.out]; omega)]
          have hc1 : ¬ c - at_ = 1 := by omega
          have fa : IntKind.i64.wrap ((at_ : Int) + 2) = (at_ : Int) + 2 := by rw [IntKind.wrap_i64]; omega
          go_enter Try.func73, Try.ntmps73
          go_wp2_with fail
          go_loopw [4, 49] (fun nv iv wr => ∃ q : Nat, nv = .int .i64 ((gvN (xn % 64) (r.take q) : Nat) : Int) ∧ iv = .int .i64 (q : Int) ∧ q ≤ 1 ∧ wr = w) (fun _ iv _ => 1 - (intOf iv).toNat)
          case atStart => exact ⟨0, by simp [gvN], rfl, Nat.zero_le _, rfl⟩
          case round =>
            obtain ⟨q, rfl, rfl, hq1, rfl⟩ := hrel
            by_cases hqs : q < 1
            · have hqs' : (q : Int) < 1 := by omega
              have fq : IntKind.i64.wrap ((q : Int) + 1) = (q : Int) + 1 := by rw [IntKind.wrap_i64]; omega
              have hqr : q < r.length := by have := HM.out; omega
              obtain ⟨b', off', hbo, hcell⟩ := HS.out.cells (by omega)
              simp only [Option.some.injEq, Addr.mk.injEq, and_true] at hbo
              obtain ⟨rfl, rfl⟩ := hbo
              have y0 := hcell (q + 1) (by omega)
              have HT := Lib.hid (List.take_succ_eq_append_getElem hqr)
              have y1 : (bv (x :: r))[q + 1]? = some (.int .u8 (r[q].toNat : Int)) := by simp [bv, hqr]
              rw [y1] at y0
              have hlt := gvN_lt (r.take q) (xn % 64) (by omega)
              have hql : (r.take q).length = q := by rw [List.length_take]; omega
              rw [hql] at hlt
              have hlt2 : 64 * 256 ^ q ≤ 64 * 256 ^ 6 := Nat.mul_le_mul_left _ (Nat.pow_le_pow_right (by decide) (by omega))
              have hlt3 : gvN (xn % 64) (r.take q) < 64 * 256 ^ 6 := by omega
              have y8 := r[q].toNat_lt
              have HSn : Hid (gvN (xn % 64) (r.take (q + 1)) = gvN (xn % 64) (r.take q) * 256 + r[q].toNat) := Lib.hid (by rw [HT.out, gvN_snoc])
              generalize r[q].toNat = y at y0 y8 HSn
              generalize gvN (xn % 64) (r.take q) = N at hlt3 HSn
              have fsh : IntKind.i64.wrap ((N : Int) * 256) = (N : Int) * 256 := by rw [IntKind.wrap_i64]; omega
              have fsh2 : RowKit.wrap64 ((N : Int) * 256) = (N : Int) * 256 := by unfold RowKit.wrap64; omega
              have for_ : Go.bits .or .i64 ((N : Int) * 256) (y : Int) = (N : Int) * 256 + y := by
                have h1 := i64_or_nat (N * 256) y (by omega) (by omega)
                have h2 := Nat.two_pow_add_eq_or_of_lt (i := 8) (b := y) (by omega) N
                rw [show N * 256 = 2 ^ 8 * N by omega, ← h2] at h1
                rw [show (2 ^ 8 * N : Nat) = N * 256 by omega] at h1
                push_cast at h1
                exact h1
              have y0a : wr.cell? ⟨b, off + at_ + (q + 1), none⟩ = some (.int .u8 (y : Int)) := y0
              have y0b : wr.cell? ⟨b, off + at_ + 1 + q, none⟩ = some (.int .u8 (y : Int)) := by rw [show off + at_ + 1 + q = off + at_ + (q + 1) by omega]; exact y0
              clear hcell y0 y1 hlt hlt2 hql x0'
              go_wp2
              go_roundw
              case rel => exact ⟨q + 1, by rw [HSn.out]; push_cast; rfl, by push_cast; rfl, by omega, trivial⟩
              case measure => simp [intOf]; omega
            · obtain rfl : q = 1 := by omega
              go_wp2
              go_ret3
              refine ⟨?_, Below.refl _ _⟩
              rw [HSz.out, ← HXn.out]
              rfl
      · have HSz := Lib.hid hsz
        clear hsz
        have fw : RowKit.wrap64 4 = 4 := by unfold RowKit.wrap64; omega
        by_cases hms : m < 4
        · have hms' : (m : Int) < 4 := by omega
          rw [HE.out, if_pos (by have := HM.out; rw [HSz.out]; omega)]
          go_enter Try.func73, Try.ntmps73
          go_wp2
          go_ret3
          exact ⟨rfl, Below.refl _ _⟩
        · have hms' : ¬ (m : Int) < 4 := by omega
          rw [HE.out, if_neg (by have := HM.out; rw [HSz.out]; omega)]
          have hc1 : ¬ c - at_ = 1 := by omega
          have fa : IntKind.i64.wrap ((at_ : Int) + 4) = (at_ : Int) + 4 := by rw [IntKind.wrap_i64]; omega
          go_enter Try.func73, Try.ntmps73
          go_wp2_with fail
          go_loopw [4, 49] (fun nv iv wr => ∃ q : Nat, nv = .int .i64 ((gvN (xn % 64) (r.take q) : Nat) : Int) ∧ iv = .int .i64 (q : Int) ∧ q ≤ 3 ∧ wr = w) (fun _ iv _ => 3 - (intOf iv).toNat)
          case atStart => exact ⟨0, by simp [gvN], rfl, Nat.zero_le _, rfl⟩
          case round =>
            obtain ⟨q, rfl, rfl, hq1, rfl⟩ := hrel
            by_cases hqs : q < 3
            · have hqs' : (q : Int) < 3 := by omega
              have fq : IntKind.i64.wrap ((q : Int) + 1) = (q : Int) + 1 := by rw [IntKind.wrap_i64]; omega
              have hqr : q < r.length := by have := HM.out; omega
              obtain ⟨b', off', hbo, hcell⟩ := HS.out.cells (by omega)
              simp only [Option.some.injEq, Addr.mk.injEq, and_true] at hbo
              obtain ⟨rfl, rfl⟩ := hbo
              have y0 := hcell (q + 1) (by omega)
              have HT := Lib.hid (List.take_succ_eq_append_getElem hqr)
              have y1 : (bv (x :: r))[q + 1]? = some (.int .u8 (r[q].toNat : Int)) := by simp [bv, hqr]
              rw [y1] at y0
              have hlt := gvN_lt (r.take q) (xn % 64) (by omega)
              have hql : (r.take q).length = q := by rw [List.length_take]; omega
              rw [hql] at hlt
              have hlt2 : 64 * 256 ^ q ≤ 64 * 256 ^ 6 := Nat.mul_le_mul_left _ (Nat.pow_le_pow_right (by decide) (by omega))
              have hlt3 : gvN (xn % 64) (r.take q) < 64 * 256 ^ 6 := by omega
              have y8 := r[q].toNat_lt
              have HSn : Hid (gvN (xn % 64) (r.take (q + 1)) = gvN (xn % 64) (r.take q) * 256 + r[q].toNat) := Lib.hid (by rw [HT.out, gvN_snoc])
              generalize r[q].toNat = y at y0 y8 HSn
              generalize gvN (xn % 64) (r.take q) = N at hlt3 HSn
              have fsh : IntKind.i64.wrap ((N : Int) * 256) = (N : Int) * 256 := by rw [IntKind.wrap_i64]; omega
              have fsh2 : RowKit.wrap64 ((N : Int) * 256) = (N : Int) * 256 := by unfold RowKit.wrap64; omega
              have for_ : Go.bits .or .i64 ((N : Int) * 256) (y : Int) = (N : Int) * 256 + y := by
                have h1 := i64_or_nat (N * 256) y (by omega) (by omega)
                have h2 := Nat.two_pow_add_eq_or_of_lt (i := 8) (b := y) (by omega) N
                rw [show N * 256 = 2 ^ 8 * N by omega, ← h2] at h1
                rw [show (2 ^ 8 * N : Nat) = N * 256 by omega] at h1
                push_cast at h1
                exact h1
              have y0a : wr.cell? ⟨b, off + at_ + (q + 1), none⟩ = some (.int .u8 (y : Int)) := y0
              have y0b : wr.cell? ⟨b, off + at_ + 1 + q, none⟩ = some (.int .u8 (y : Int)) := by rw [show off + at_ + 1 + q = off + at_ + (q + 1) by omega]; exact y0
              clear hcell y0 y1 hlt hlt2 hql x0'
              go_wp2
              go_roundw
              case rel => exact ⟨q + 1, by rw [HSn.out]; push_cast; rfl, by push_cast; rfl, by omega, trivial⟩
              case measure => simp [intOf]; omega
            · obtain rfl : q = 3 := by omega
              go_wp2
              go_ret3
              refine ⟨?_, Below.refl _ _⟩
              rw [HSz.out, ← HXn.out]
              rfl
      · have HSz := Lib.hid hsz
        clear hsz
        have fw : RowKit.wrap64 8 = 8 := by unfold RowKit.wrap64; omega
        by_cases hms : m < 8
        · have hms' : (m : Int) < 8 := by omega
          rw [HE.out, if_pos (by have := HM.out; rw [HSz.out]; omega)]
          go_enter Try.func73, Try.ntmps73
          go_wp2
          go_ret3
          exact ⟨rfl, Below.refl _ _⟩
        · have hms' : ¬ (m : Int) < 8 := by omega
          rw [HE.out, if_neg (by have := HM.out; rw [HSz.out]; omega)]
          have hc1 : ¬ c - at_ = 1 := by omega
          have fa : IntKind.i64.wrap ((at_ : Int) + 8) = (at_ : Int) + 8 := by rw [IntKind.wrap_i64]; omega
          go_enter Try.func73, Try.ntmps73
          go_wp2_with fail
          go_loopw [4, 49] (fun nv iv wr => ∃ q : Nat, nv = .int .i64 ((gvN (xn % 64) (r.take q) : Nat) : Int) ∧ iv = .int .i64 (q : Int) ∧ q ≤ 7 ∧ wr = w) (fun _ iv _ => 7 - (intOf iv).toNat)
          case atStart => exact ⟨0, by simp [gvN], rfl, Nat.zero_le _, rfl⟩
          case round =>
            obtain ⟨q, rfl, rfl, hq1, rfl⟩ := hrel
            by_cases hqs : q < 7
            · have hqs' : (q : Int) < 7 := by omega
              have fq : IntKind.i64.wrap ((q : Int) + 1) = (q : Int) + 1 := by rw [IntKind.wrap_i64]; omega
              have hqr : q < r.length := by have := HM.out; omega
              obtain ⟨b', off', hbo, hcell⟩ := HS.out.cells (by omega)
              simp only [Option.some.injEq, Addr.mk.injEq, and_true] at hbo
              obtain ⟨rfl, rfl⟩ := hbo
              have y0 := hcell (q + 1) (by omega)
              have HT := Lib.hid (List.take_succ_eq_append_getElem hqr)
              have y1 : (bv (x :: r))[q + 1]? = some (.int .u8 (r[q].toNat : Int)) := by simp [bv, hqr]
              rw [y1] at y0
              have hlt := gvN_lt (r.take q) (xn % 64) (by omega)
              have hql : (r.take q).length = q := by rw [List.length_take]; omega
              rw [hql] at hlt
              have hlt2 : 64 * 256 ^ q ≤ 64 * 256 ^ 6 := Nat.mul_le_mul_left _ (Nat.pow_le_pow_right (by decide) (by omega))
              have hlt3 : gvN (xn % 64) (r.take q) < 64 * 256 ^ 6 := by omega
              have y8 := r[q].toNat_lt
              have HSn : Hid (gvN (xn % 64) (r.take (q + 1)) = gvN (xn % 64) (r.take q) * 256 + r[q].toNat) := Lib.hid (by rw [HT.out, gvN_snoc])
              generalize r[q].toNat = y at y0 y8 HSn
              generalize gvN (xn % 64) (r.take q) = N at hlt3 HSn
              have fsh : IntKind.i64.wrap ((N : Int) * 256) = (N : Int) * 256 := by rw [IntKind.wrap_i64]; omega
              have fsh2 : RowKit.wrap64 ((N : Int) * 256) = (N : Int) * 256 := by unfold RowKit.wrap64; omega
              have for_ : Go.bits .or .i64 ((N : Int) * 256) (y : Int) = (N : Int) * 256 + y := by
                have h1 := i64_or_nat (N * 256) y (by omega) (by omega)
                have h2 := Nat.two_pow_add_eq_or_of_lt (i := 8) (b := y) (by omega) N
                rw [show N * 256 = 2 ^ 8 * N by omega, ← h2] at h1
                rw [show (2 ^ 8 * N : Nat) = N * 256 by omega] at h1
                push_cast at h1
                exact h1
              have y0a : wr.cell? ⟨b, off + at_ + (q + 1), none⟩ = some (.int .u8 (y : Int)) := y0
              have y0b : wr.cell? ⟨b, off + at_ + 1 + q, none⟩ = some (.int .u8 (y : Int)) := by rw [show off + at_ + 1 + q = off + at_ + (q + 1) by omega]; exact y0
              clear hcell y0 y1 hlt hlt2 hql x0'
              go_wp2
              go_roundw
              case rel => exact ⟨q + 1, by rw [HSn.out]; push_cast; rfl, by push_cast; rfl, by omega, trivial⟩
              case measure => simp [intOf]; omega
            · obtain rfl : q = 7 := by omega
              go_wp2
              go_ret3
              refine ⟨?_, Below.refl _ _⟩
              rw [HSz.out, ← HXn.out]
              rfl
end Go.Proofs.Ytppkilkfmclpkaa

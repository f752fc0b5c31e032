/- strconv.FormatInt at base 16, for the sizes of chunks. It reads one cell of math/bits.deBruijn64tab: a premise about that cell alone. -/
import Derived.Test.YtohinaohcndndaaDoorNmBuf
import Derived.Laws.Bits64b
namespace Go.Proofs.YtohinaohcndndaaDoor
open Go.RowKit

/-- the one cell of deBruijn64tab that TrailingZeros(16) reads -/
def Tz (w : World) : Prop := w.cell? ⟨6, 15, none⟩ = some (.int .u8 4)
theorem Tz.below {w w' : World} (h : Tz w) (hb : Below w.heap.size w w') : Tz w' := by
  unfold Tz at h ⊢
  rw [hb.cell (World.block_lt_of_cell? _ _ h)]
  exact h

set_option maxRecDepth 100000 in
theorem tz64_16 (w : World) (h : Tz w) : Calls Tryd.prog 114 #[.int .u64 16] w fun e w' => e = .returned (.int .i64 4) ∧ w' = w := by
  have c0 : w.cell? ⟨6, 15, none⟩ = some (.int .u8 4) := h
  have e1 : IntKind.u64.wrap (-16) = 18446744073709551600 := by decide
  have e2 : bits BinOp.and IntKind.u64 16 18446744073709551600 = 16 := by decide +kernel
  have e3 : IntKind.u64.wrap (16 * 285870213051353865) = 4573923408821661840 := by decide +kernel
  have e4 : IntKind.u64.wrap 4573923408821661840 = 4573923408821661840 := by decide +kernel
  clear h
  go_enter Tryd.func114, Tryd.ntmps114
  go_wp2
  go_ret
  exact ⟨rfl, rfl⟩
set_option maxRecDepth 100000 in
theorem tz_16 (w : World) (h : Tz w) : Calls Tryd.prog 105 #[.int .u64 16] w fun e w' => e = .returned (.int .i64 4) ∧ w' = w := by
  go_enter Tryd.func105, Tryd.ntmps105
  go_wp2_with fail
  refine (tz64_16 w h).mono ?_
  rintro e w2 ⟨rfl, rfl⟩
  go_wp2
  go_ret
  exact ⟨rfl, rfl⟩
set_option maxRecDepth 100000 in
theorem pow2_16 (w : World) : Calls Tryd.prog 104 #[.int .i64 16] w fun e w' => e = .returned (.bool true) ∧ w' = w := by
  go_enter Tryd.func104, Tryd.ntmps104
  have e1 : bits BinOp.and IntKind.i64 16 15 = 0 := by decide +kernel
  go_wp2
  go_ret
  exact ⟨rfl, rfl⟩
theorem fbj1 {m a : Nat} (h1 : 1 ≤ m) (h : m * 16 ^ a ≤ 16384) : a ≤ 3 := by
  apply Nat.le_of_not_lt
  intro h4
  have h5 : 16 ^ 4 ≤ 16 ^ a := Nat.pow_le_pow_right (by decide) h4
  have h6 : 1 * 16 ^ 4 ≤ m * 16 ^ a := Nat.mul_le_mul h1 h5
  omega
theorem fbj2 {j : Nat} (h : j < 65) : IntKind.i64.wrap (((j + 1 : Nat) : Int) - 1) = (j : Int) ∧ RowKit.wrap64 (((j + 1 : Nat) : Int) - 1) = (j : Int) ∧ 0 ≤ (j : Int) ∧ (j : Int) < 65 := by
  rw [IntKind.wrap_i64]; unfold RowKit.wrap64; omega
theorem u64_and15 (m : Nat) (h : m ≤ 16384) : bits BinOp.and IntKind.u64 (m : Int) 15 = ((m % 16 : Nat) : Int) := by
  have e : (m &&& 15 : Nat) = m % 16 := Nat.and_two_pow_sub_one_eq_mod m 4
  rw [← e]
  exact bits_and_u64_nat m 15 (by omega) (by decide)
def digs : ByteArray := ⟨#[48, 49, 50, 51, 52, 53, 54, 55, 56, 57, 97, 98, 99, 100, 101, 102, 103, 104, 105, 106, 107, 108, 109, 110, 111, 112, 113, 114, 115, 116, 117, 118, 119, 120, 121, 122]⟩
theorem dig_at : ∀ k : Nat, k < 16 → digs[k]? = some (hexD k) := by decide +kernel
theorem idx36 (w : World) (k : Nat) (hk : k < 16) : (Instr.index 9 (.string digs) (.int .u64 (k : Int))).run Tryd.prog w = .ok (.int .u8 ((hexD k).toNat : Int)) w := by
  simp [go_sem, Instr.index, dig_at k hk]
theorem fbj3 {m : Nat} (h : 16 ≤ m) (hm : m ≤ 16384) : (16 : Int) ≤ (m : Int) ∧ bits BinOp.and IntKind.u64 (m : Int) 15 = ((m % 16 : Nat) : Int) ∧ (m : Int) / 16 = ((m / 16 : Nat) : Int) ∧ 0 ≤ ((m % 16 : Nat) : Int) ∧ ((m % 16 : Nat) : Int) < 36 := by
  refine ⟨by omega, u64_and15 m hm, by omega, by omega, by omega⟩
theorem fbj4 {m : Nat} (h : ¬ 16 ≤ m) : ¬ (16 : Int) ≤ (m : Int) ∧ 0 ≤ (m : Int) ∧ (m : Int) < 36 := by omega
theorem fbj5 {m m2 ac fuel : Nat} (h2 : m2 = m / 16) (h : 16 ≤ m) (hm : m ≤ 16384) (hf : m < fuel + 1) (hal : m * 16 ^ ac ≤ 16384) : 1 ≤ m2 ∧ m2 ≤ 16384 ∧ m2 < fuel ∧ m2 * 16 ^ (ac + 1) ≤ 16384 := by
  refine ⟨by omega, by omega, by omega, ?_⟩
  have e : m2 * 16 ^ (ac + 1) = (m2 * 16) * 16 ^ ac := by rw [Nat.pow_succ, Nat.mul_comm (16 ^ ac) 16, Nat.mul_assoc]
  rw [e]
  exact Nat.le_trans (Nat.mul_le_mul_right _ (by omega)) hal
theorem fbj6 {j ac : Nat} (h : j + 1 + ac = 65) : (j : Int) ≤ 65 ∧ 0 ≤ (j : Int) ∧ ((j : Int) == 65) = false ∧ (65 : Int) - (j : Int) = ((ac + 1 : Nat) : Int) ∧ 65 - j = ac + 1 := by
  refine ⟨by omega, by omega, ?_, by omega, by omega⟩
  simp only [beq_eq_false_iff_ne]; omega
theorem set_last {pre : List Value} {acc : List UInt8} {d : UInt8} {j : Nat} (h : pre.length = j + 1) : (pre ++ bv acc).set j (.int .u8 (d.toNat : Int)) = pre.take j ++ bv (d :: acc) := by
  rw [List.set_append_left _ _ (by omega)]
  have e : pre.set j (.int .u8 (d.toNat : Int)) = pre.take j ++ [.int .u8 (d.toNat : Int)] := by
    rw [List.set_eq_take_append_cons_drop, if_pos (by omega), List.drop_of_length_le (by omega)]
  rw [e, List.append_assoc]
  rfl
set_option maxRecDepth 100000 in
theorem bits_16 (w : World) (n : Nat) (hn1 : 1 ≤ n) (hn : n ≤ 16384) (h : Tz w) : Calls Tryd.prog 89 #[.slice none 0 0, .int .u64 (n : Int), .int .i64 16, .bool false, .bool false] w fun e w' => e = .returned (.tuple #[.slice none 0 0, .string (strB (hexL n))]) ∧ Below w.heap.size w w' := by
  have HZ := Lib.hid h
  have HN := Lib.hid hn
  have HN1 := Lib.hid hn1
  clear h hn hn1
  go_enter Tryd.func89, Tryd.ntmps89
  go_wp2_with fail
  obtain ⟨w1, hw1⟩ : ∃ w1, w1 = w.alloc (.cells Tryd.zeroCells149 149) := ⟨_, rfl⟩
  have HA : Hid (Has w1 w.heap.size 149 (List.replicate 65 (.int .u8 0))) := Lib.hid (by rw [hw1]; exact Has.new w 149 Tryd.zeroCells149)
  have HB1 : Hid (Below w.heap.size w w1) := Lib.hid (by rw [hw1]; exact (Below.refl _ w).alloc (Nat.le_refl _) _)
  have HZ1 := Lib.hid (HZ.out.below HB1.out)
  rw [← hw1]
  clear hw1
  obtain ⟨g, hg⟩ : ∃ g, g = w.heap.size := ⟨_, rfl⟩
  have HG : Hid (g = w.heap.size) := Lib.hid hg
  rw [← hg] at HA
  rw [← hg]
  clear hg
  refine (pow2_16 w1).mono ?_
  rintro e w2 ⟨rfl, rfl⟩
  go_wp2_with fail
  refine (tz_16 w2 HZ1.out).mono ?_
  rintro e w3 ⟨rfl, rfl⟩
  have y1 : bits BinOp.and IntKind.u64 4 7 = 4 := by decide +kernel
  go_wp2_with fail
  go_loopw [1, 13] (fun v x wr => ∃ (m fuel i : Nat) (acc : List UInt8) (pre : List Value), v = .int .u64 (m : Int) ∧ x = .int .i64 (i : Int) ∧ 1 ≤ m ∧ m ≤ 16384 ∧ m < fuel ∧ m * 16 ^ acc.length ≤ 16384 ∧ i + acc.length = 65 ∧ pre.length = i ∧ Hid (hexL n = hexGo fuel m acc) ∧ Has wr g 149 (pre ++ bv acc) ∧ Below w.heap.size w wr) (fun v _ _ => (intOf v).toNat)
  case atStart => exact ⟨n, n + 1, 65, [], List.replicate 65 (.int .u8 0), rfl, rfl, HN1.out, HN.out, Nat.lt_succ_self n, by simpa using HN.out, rfl, List.length_replicate, Lib.hid rfl, by simpa [bv] using HA.out, HB1.out⟩
  case round =>
    obtain ⟨m, fuel, i, acc, pre, rfl, rfl, hm1, hm, hf, hal, hia, hpi, HX, ha, hb⟩ := hrel
    obtain ⟨fuel, rfl⟩ : ∃ q, fuel = q + 1 := ⟨fuel - 1, by omega⟩
    obtain ⟨ac, hac⟩ : ∃ ac, ac = acc.length := ⟨_, rfl⟩
    rw [← hac] at hal hia
    have h4 := fbj1 hm1 hal
    obtain ⟨j, rfl⟩ : ∃ j, i = j + 1 := ⟨i - 1, by omega⟩
    obtain ⟨z1, z2, z3, z4⟩ := fbj2 (j := j) (by omega)
    have HAc := Lib.hid hac
    have HPi := Lib.hid hpi
    have HA2 := Lib.hid ha
    have HB2 := Lib.hid hb
    have fr0 : wr.frozen? ⟨g, j, none⟩ = false := ha.free j
    have cl0 : wr.cell? ⟨g, j, none⟩ = some (pre[j]'(by omega)) := ha.cell j (by rw [List.getElem?_append_left (by omega)]; exact List.getElem?_eq_getElem _)
    obtain ⟨old, hold⟩ : ∃ old, old = pre[j]'(by omega) := ⟨_, rfl⟩
    rw [← hold] at cl0
    by_cases h16 : 16 ≤ m
    · obtain ⟨k, hk⟩ : ∃ k, k = m % 16 := ⟨_, rfl⟩
      obtain ⟨m2, hm2⟩ : ∃ m2, m2 = m / 16 := ⟨_, rfl⟩
      obtain ⟨y3, y4, y5, y6, y7⟩ := fbj3 h16 hm
      rw [← hk] at y4 y6 y7
      rw [← hm2] at y5
      have hk16 : k < 16 := by rw [hk]; exact Nat.mod_lt _ (by decide)
      obtain ⟨d, hd⟩ : ∃ d, d = hexD k := ⟨_, rfl⟩
      have y8 := fun w => idx36 w k hk16
      unfold digs at y8
      rw [← hd] at y8
      have HQ : Hid (m < fuel + 1 ∧ m * 16 ^ ac ≤ 16384 ∧ j + 1 + ac = 65 ∧ 16 ≤ m ∧ m ≤ 16384) := Lib.hid ⟨hf, hal, hia, h16, hm⟩
      have HM : Hid (k = m % 16 ∧ m2 = m / 16 ∧ d = hexD k) := Lib.hid ⟨hk, hm2, hd⟩
      clear hm1 hm hf hal hia hpi ha hb hac h16 hold h4 hk hm2 hk16 hd
      go_wp2_with fail
      go_roundw
      case rel =>
        obtain ⟨q1, q2, q3, q4, q5⟩ := HQ.out
        obtain ⟨r1, r2, r3⟩ := HM.out
        obtain ⟨t1, t2, t3, t4⟩ := fbj5 r2 q4 q5 q1 q2
        refine ⟨m2, fuel, j, d :: acc, pre.take j, rfl, rfl, t1, t2, t3, by rw [List.length_cons, ← HAc.out]; exact t4, by rw [List.length_cons, ← HAc.out]; omega, by rw [List.length_take, HPi.out]; omega, Lib.hid ?_, ?_, HB2.out.setCell (p := ⟨g, j, none⟩) (by rw [HG.out]; exact Nat.le_refl _) _⟩
        · rw [HX.out, hexGo, ← r1, ← r2, ← r3, if_neg (by omega)]
        · have h := HA2.out.set j (.int .u8 (d.toNat : Int))
          rw [set_last HPi.out] at h
          exact h
      case measure =>
        obtain ⟨q1, q2, q3, q4, q5⟩ := HQ.out
        obtain ⟨r1, r2, r3⟩ := HM.out
        simp only [intOf]
        omega
    · obtain ⟨y3, y4, y5⟩ := fbj4 h16
      obtain ⟨d, hd⟩ : ∃ d, d = hexD m := ⟨_, rfl⟩
      have y8 := fun w => idx36 w m (Nat.lt_of_not_le h16)
      unfold digs at y8
      rw [← hd] at y8
      have HE : Hid (hexL n = d :: acc) := Lib.hid (by rw [HX.out, hexGo, Nat.div_eq_of_lt (Nat.lt_of_not_le h16), Nat.mod_eq_of_lt (Nat.lt_of_not_le h16), if_pos rfl, hd])
      have HQ : Hid (j + 1 + ac = 65) := Lib.hid hia
      obtain ⟨w5, hw5⟩ : ∃ w5, w5 = wr.setCell ⟨g, j, none⟩ (.int .u8 (d.toNat : Int)) := ⟨_, rfl⟩
      have HA5 : Hid (Has w5 g 149 (pre.take j ++ bv (d :: acc))) := Lib.hid (by
        rw [hw5, ← set_last hpi]
        exact ha.set j _)
      have HB5 : Hid (Below w.heap.size w w5) := Lib.hid (by rw [hw5]; exact hb.setCell (p := ⟨g, j, none⟩) (by rw [HG.out]; exact Nat.le_refl _) _)
      have HW5 := Lib.hid hw5
      obtain ⟨v1, v2, v3, v4, v5⟩ := fbj6 hia
      clear hm1 hm hf hal hia hpi ha hb hac h16 hold h4 hd hw5
      have hsl : Sl w5 (some ⟨g, j, none⟩) (65 - j) (65 - j) (bv (d :: acc)) := by
        have hl : (d :: acc).length = 65 - j := by rw [List.length_cons, ← HAc.out]; have := HQ.out; omega
        refine ⟨by rw [bv_length]; exact hl, Nat.le_refl _, by unfold maxLen; omega, (fun h => by cases h), fun _ => ⟨g, j, rfl, fun i hi => ?_⟩⟩
        rw [← hl] at hi
        have hp : (pre.take j).length = j := by rw [List.length_take, HPi.out]; omega
        rw [bv_get _ i hi]
        exact HA5.out.cell (j + i) (by rw [List.getElem?_append_right (by omega), hp, Nat.add_sub_cancel_left]; exact bv_get _ i hi)
      have hcv := run_str (P := Tryd.prog) hsl 28 5 9 Tryd.underlying28 Tryd.underlying5 Tryd.underlying9
      clear hsl
      rw [v5] at hcv
      go_upto_region 30 with fail
      rw [← HW5.out]
      go_wp2
      go_ret2
      exact ⟨by rw [HE.out]; rfl, HB5.out⟩
set_option maxRecDepth 100000 in
theorem ifmt_16 (w : World) (n : Nat) (hn1 : 1 ≤ n) (hn : n ≤ 16384) (h : Tz w) : Calls Tryd.prog 68 #[.int .i64 (n : Int), .int .i64 16] w (StrOf w (hexL n)) := by
  have HN := Lib.hid hn
  have HN1 := Lib.hid hn1
  have y1 : ¬ (n : Int) < 0 := by omega
  have y2 : IntKind.u64.wrap (n : Int) = (n : Int) := by rw [IntKind.wrap_u64]; omega
  clear hn hn1
  go_enter Tryd.func68, Tryd.ntmps68
  go_wp2_with fail
  refine (bits_16 w n HN1.out HN.out h).mono ?_
  rintro e w2 ⟨rfl, hb⟩
  have HB := Lib.hid hb
  clear hb
  go_wp2
  go_ret
  exact ⟨rfl, HB.out⟩
set_option maxRecDepth 100000 in
theorem fmt_16 (w : World) (n : Nat) (hn1 : 1 ≤ n) (hn : n ≤ 16384) (h : Tz w) : Calls Tryd.prog 47 #[.int .i64 (n : Int), .int .i64 16] w (StrOf w (hexL n)) := by
  go_enter Tryd.func47, Tryd.ntmps47
  go_wp2_with fail
  refine (ifmt_16 w n hn1 hn h).mono ?_
  rintro e w2 ⟨rfl, hb⟩
  have HB := Lib.hid hb
  clear hb
  go_wp2
  go_ret
  exact ⟨rfl, HB.out⟩
end Go.Proofs.YtohinaohcndndaaDoor

/- Contract of the book's next. -/
import Derived.Test.YtkijpjdjkjnpiaaHuffNth
import Derived.Test.YtkijpjdjkjnpiaaHuffDec
import Derived.Test.YtkijpjdjkjnpiaaWalk
namespace Go.Proofs.Ytkijpjdjkjnpiaa
open Go.RowKit

/-- what next hands back -/
def nextV : Option (UInt8 × Nat) → Value
  | some (x, l) => .tuple #[.int .u8 (x.toNat : Int), .int .i64 (l : Int), .bool true]
  | none => .tuple #[.int .u8 0, .int .i64 0, .bool false]

theorem idx_0 (w : World) : (Instr.index 69 (.agg #[.int .i64 5, .string (strB cl5), .int .i64 0, .int .i64 6, .string (strB cl6), .int .i64 20, .int .i64 7, .string (strB cl7), .int .i64 92, .int .i64 8, .string (strB cl8), .int .i64 248, .int .i64 15, .string (strB []), .int .i64 32512]) (.int .i64 0)).run Try.prog w = .ok (.agg #[.int .i64 5, .string (strB cl5), .int .i64 0]) w := by
  simp [Instr.index, run_underlying Try.underlying69, asIntOf, Try.sizeOf68, part]
theorem idx_1 (w : World) : (Instr.index 69 (.agg #[.int .i64 5, .string (strB cl5), .int .i64 0, .int .i64 6, .string (strB cl6), .int .i64 20, .int .i64 7, .string (strB cl7), .int .i64 92, .int .i64 8, .string (strB cl8), .int .i64 248, .int .i64 15, .string (strB []), .int .i64 32512]) (.int .i64 1)).run Try.prog w = .ok (.agg #[.int .i64 6, .string (strB cl6), .int .i64 20]) w := by
  simp [Instr.index, run_underlying Try.underlying69, asIntOf, Try.sizeOf68, part]
theorem idx_2 (w : World) : (Instr.index 69 (.agg #[.int .i64 5, .string (strB cl5), .int .i64 0, .int .i64 6, .string (strB cl6), .int .i64 20, .int .i64 7, .string (strB cl7), .int .i64 92, .int .i64 8, .string (strB cl8), .int .i64 248, .int .i64 15, .string (strB []), .int .i64 32512]) (.int .i64 2)).run Try.prog w = .ok (.agg #[.int .i64 7, .string (strB cl7), .int .i64 92]) w := by
  simp [Instr.index, run_underlying Try.underlying69, asIntOf, Try.sizeOf68, part]
theorem idx_3 (w : World) : (Instr.index 69 (.agg #[.int .i64 5, .string (strB cl5), .int .i64 0, .int .i64 6, .string (strB cl6), .int .i64 20, .int .i64 7, .string (strB cl7), .int .i64 92, .int .i64 8, .string (strB cl8), .int .i64 248, .int .i64 15, .string (strB []), .int .i64 32512]) (.int .i64 3)).run Try.prog w = .ok (.agg #[.int .i64 8, .string (strB cl8), .int .i64 248]) w := by
  simp [Instr.index, run_underlying Try.underlying69, asIntOf, Try.sizeOf68, part]
theorem idx_4 (w : World) : (Instr.index 69 (.agg #[.int .i64 5, .string (strB cl5), .int .i64 0, .int .i64 6, .string (strB cl6), .int .i64 20, .int .i64 7, .string (strB cl7), .int .i64 92, .int .i64 8, .string (strB cl8), .int .i64 248, .int .i64 15, .string (strB []), .int .i64 32512]) (.int .i64 4)).run Try.prog w = .ok (.agg #[.int .i64 15, .string (strB []), .int .i64 32512]) w := by
  simp [Instr.index, run_underlying Try.underlying69, asIntOf, Try.sizeOf68, part]
set_option maxRecDepth 100000 in
set_option maxHeartbeats 20000000 in
theorem next_any (w : World) (p : Nat) (a : Option Addr) (cp : Nat) (h : Bk w p (.slice a 182 cp)) (hr : Sl w a 182 cp (bv restL)) (hold held : Nat) (hh : held ≤ 22) (hv : hold < 2 ^ held) :
    Calls Try.prog 39 #[.pointer (some ⟨p, 0, none⟩), .int .i64 (hold : Int), .int .i64 (held : Int)] w fun e w' => e = .returned (nextV (nextN hold held)) ∧ Below w.heap.size w w' := by
  have hp := h.lt
  have hv4 : hold < 4194304 := Nat.lt_of_lt_of_le hv (Nat.pow_le_pow_right (by decide) hh)
  clear hv
  have q0 := h.cell 0 rfl
  have q1 := h.cell 1 rfl
  have q2 := h.cell 2 rfl
  have q3 := h.cell 3 rfl
  have q4 := h.cell 4 rfl
  have q5 := h.cell 5 rfl
  have q6 := h.cell 6 rfl
  have q7 := h.cell 7 rfl
  have q8 := h.cell 8 rfl
  have q9 := h.cell 9 rfl
  have q10 := h.cell 10 rfl
  have q11 := h.cell 11 rfl
  have q12 := h.cell 12 rfl
  have q13 := h.cell 13 rfl
  have q14 := h.cell 14 rfl
  have HB := Lib.hid h
  have HR := Lib.hid hr
  clear hr
  go_enter Try.func39, Try.ntmps39
  go_wp2_with fail
  clear q0 q1 q2 q3 q4 q5 q6 q7 q8 q9 q10 q11 q12 q13 q14
  go_loopw [16] (fun v wr => ∃ c : Nat, v = .int .i64 (c : Int) ∧ c ≤ 5 ∧ nextN hold held = nextAt hold held (5 - c) c ∧ Below w.heap.size w wr) (fun v _ => 5 - (intOf v).toNat)
  case atStart => exact ⟨0, rfl, by omega, rfl, Below.refl _ _⟩
  case round =>
    obtain ⟨c, rfl, hc, heq, hb⟩ := hrel
    have hs := hb.size
    have hcc : c = 0 ∨ c = 1 ∨ c = 2 ∨ c = 3 ∨ c = 4 ∨ c = 5 := by omega
    rcases hcc with rfl | rfl | rfl | rfl | rfl | rfl
    rotate_right
    · have HQ : Hid (nextN hold held = none) := Lib.hid heq
      go_wp2
      go_ret3
      exact ⟨by rw [HQ.out]; rfl, hb⟩
    · have hidx := idx_0
      rw [nextAt] at heq
      simp only [lenN, firstN] at heq
      by_cases h1 : held < 5
      · have HQ : Hid (nextN hold held = none) := Lib.hid (by rw [heq, if_pos h1])
        have h1' : (held : Int) < 5 := by omega
        clear heq
        go_wp2
        go_ret3
        exact ⟨by rw [HQ.out]; rfl, hb.alloc (by omega) _⟩
      · rw [if_neg h1] at heq
        have h1' : ¬ (held : Int) < 5 := by omega
        obtain ⟨v, hvv⟩ : ∃ v : Nat, v = hold / 2 ^ (held - 5) := ⟨_, rfl⟩
        have hvle : v ≤ hold := by rw [hvv]; exact Nat.div_le_self _ _
        rw [← hvv] at heq
        have HV := Lib.hid hvv
        have hs1 : IntKind.i64.wrap ((held : Int) - 5) = (held : Int) - 5 := by rw [IntKind.wrap_i64]; omega
        have hdv : (hold : Int) / 2 ^ (held - 5) = (v : Int) := by rw [hvv]; push_cast; rfl
        have hv22 : v < 4194304 := by omega
        have hs2 : IntKind.i64.wrap ((hold : Int) / 2 ^ (held - 5)) = (v : Int) := by
          have e2 : (hold : Int) / 2 ^ (held - 5) = (v : Int) := by rw [hvv]; push_cast; rfl
          rw [e2, IntKind.wrap_i64]; omega
        clear hvv
        have hb1 := hb.alloc (show w.heap.size ≤ wr.heap.size by omega) (.cells #[.int .i64 5, .string (strB cl5), .int .i64 0] 68)
        by_cases h2 : v < 0
        · exact absurd h2 (Nat.not_lt_zero _)
        · obtain ⟨k, hk⟩ : ∃ k, v = 0 + k := ⟨v - 0, by omega⟩
          have hkv : (v : Int) - 0 = (k : Int) := by omega
          have HKV := Lib.hid hkv
          have hv1 : (0 : Int) ≤ (v : Int) := by omega
          clear hkv
          have hk22 : k < 4194304 := by omega
          have hvk : v - 0 = k := by omega
          rw [hvk] at heq
          obtain rfl : k = v := by omega
          clear hk hvk
          have hkp : (0 : Int) ≤ (k : Int) := by have := HKV.out; omega
          have HSz : Hid (∀ w', Below w.heap.size w w' → Calls Try.prog 47 #[.pointer (some ⟨p, 0, none⟩), .int .i64 0] w' fun e w'' => e = .returned (.int .i64 10) ∧ w' = w'') := Lib.hid (fun w' hb => sized_any w' p a cp (HB.out.below hb) 0 (by decide))
          by_cases h3 : k < 10
          · have hkc : k < (clsN 0).length := h3
            have HQ : Hid (nextN hold held = some ((clsN 0)[k]'hkc, 5)) := Lib.hid (by rw [heq, if_pos ⟨by omega, hkc⟩, List.getD_eq_getElem?_getD, List.getElem?_eq_getElem hkc, Option.getD_some])
            have h3' : (k : Int) < (10 : Int) := by have := HKV.out; omega
            have HN : Hid (∀ w', Below w.heap.size w w' → Calls Try.prog 48 #[.pointer (some ⟨p, 0, none⟩), .int .i64 0, .int .i64 (k : Int)] w' fun e w'' => e = .returned (.int .u8 (((clsN 0)[k]'hkc).toNat : Int)) ∧ w' = w'') := Lib.hid (fun w' hb => by exact nth_any w' p a cp (HB.out.below hb) (HR.out.below hb) 0 (by decide) k hkc)
            generalize (clsN 0)[k] = y at HQ HN
            clear heq h3 hkc
            go_wp2_with fail
            go_quiet (fail)
            have hb2 := below_drewN hb1 nq
            have hc0 : ((wr.alloc (.cells #[.int .i64 5, .string (strB cl5), .int .i64 0] 68)).drewN nq).cell? ⟨wr.heap.size, 0, none⟩ = some (.int .i64 5) := by simp
            generalize (wr.alloc (.cells #[.int .i64 5, .string (strB cl5), .int .i64 0] 68)).drewN nq = w2 at *
            go_wp2_with fail
            refine (HSz.out w2 hb2).mono ?_
            rintro e w' ⟨rfl, rfl⟩
            go_wp2_with fail
            have hdr : Below w.heap.size w w2.drew := hb2.trans ⟨rfl, rfl, rfl, Nat.le_refl _, fun _ _ => rfl⟩
            have hc0' : w2.drew.cell? ⟨wr.heap.size, 0, none⟩ = some (.int .i64 5) := hc0
            refine Mx.region [] (fun w' => w'.cell? ⟨wr.heap.size, 0, none⟩ = some (.int .i64 5)) (by kernel_rfl) (by kernel_rfl) hc0 ?_
            repeat ((first | (refine Mx.skips (by kernel_rfl) ?_; go_big_quiet_skip) | (refine Mx.quietly rfl ?_; go_big_quiet_want; go_big_quiet_op; go_big_quiet_on)); refine Mx.done ?_)
            refine Mx.loudly (by kernel_rfl) (by kernel_rfl) ?_
            go_wp2_with fail
            refine (HN.out w2.drew hdr).mono ?_
            rintro e w' ⟨rfl, rfl⟩
            go_wp2_with fail
            repeat ((first | (refine Mx.skips (by kernel_rfl) ?_; go_big_quiet_skip) | (refine Mx.quietly rfl ?_; go_big_quiet_want; go_big_quiet_op; go_big_quiet_on)); refine Mx.done ?_)
            refine Mx.cell ⟨wr.heap.size, 0, none⟩ (.int .i64 5) (by kernel_rfl) (by kernel_rfl) (by kernel_rfl) Try.isAgg3 (fun w' h => h) ?_
            go_big_quiet_want; go_big_quiet_op; go_big_quiet_on; refine Mx.done ?_
            repeat ((first | (refine Mx.skips (by kernel_rfl) ?_; go_big_quiet_skip) | (refine Mx.quietly rfl ?_; go_big_quiet_want; go_big_quiet_op; go_big_quiet_on)); refine Mx.done ?_)
            refine Mx.nil ?_
            go_wp2
            go_ret3
            exact ⟨by rw [HQ.out]; rfl, hdr⟩
          · rw [if_neg (fun h => h3 h.2)] at heq
            have HQ := Lib.hid heq
            have h3' : ¬ (k : Int) < (10 : Int) := by have := HKV.out; omega
            clear heq
            go_wp2_with fail
            go_quiet (fail)
            have hb2 := below_drewN hb1 nq
            generalize (wr.alloc (.cells #[.int .i64 5, .string (strB cl5), .int .i64 0] 68)).drewN nq = w2 at *
            go_wp2_with fail
            refine (HSz.out w2 hb2).mono ?_
            rintro e w' ⟨rfl, rfl⟩
            go_wp2
            go_roundw
            case rel => exact ⟨0 + 1, rfl, by omega, HQ.out, hb2⟩
            case measure => simp [intOf]
    · have hidx := idx_1
      rw [nextAt] at heq
      simp only [lenN, firstN] at heq
      by_cases h1 : held < 6
      · have HQ : Hid (nextN hold held = none) := Lib.hid (by rw [heq, if_pos h1])
        have h1' : (held : Int) < 6 := by omega
        clear heq
        go_wp2
        go_ret3
        exact ⟨by rw [HQ.out]; rfl, hb.alloc (by omega) _⟩
      · rw [if_neg h1] at heq
        have h1' : ¬ (held : Int) < 6 := by omega
        obtain ⟨v, hvv⟩ : ∃ v : Nat, v = hold / 2 ^ (held - 6) := ⟨_, rfl⟩
        have hvle : v ≤ hold := by rw [hvv]; exact Nat.div_le_self _ _
        rw [← hvv] at heq
        have HV := Lib.hid hvv
        have hs1 : IntKind.i64.wrap ((held : Int) - 6) = (held : Int) - 6 := by rw [IntKind.wrap_i64]; omega
        have hdv : (hold : Int) / 2 ^ (held - 6) = (v : Int) := by rw [hvv]; push_cast; rfl
        have hv22 : v < 4194304 := by omega
        have hs2 : IntKind.i64.wrap ((hold : Int) / 2 ^ (held - 6)) = (v : Int) := by
          have e2 : (hold : Int) / 2 ^ (held - 6) = (v : Int) := by rw [hvv]; push_cast; rfl
          rw [e2, IntKind.wrap_i64]; omega
        clear hvv
        have hb1 := hb.alloc (show w.heap.size ≤ wr.heap.size by omega) (.cells #[.int .i64 6, .string (strB cl6), .int .i64 20] 68)
        by_cases h2 : v < 20
        · have hs3 : IntKind.i64.wrap ((v : Int) - 20) = (v : Int) - 20 := by rw [IntKind.wrap_i64]; omega
          have h2c : (v : Int) - 20 < 0 := by omega
          rw [if_neg (by omega)] at heq
          have HQ := Lib.hid heq
          clear heq
          go_wp2_with fail
          go_quiet (fail)
          go_wp2
          go_roundw
          case rel => exact ⟨1 + 1, rfl, by omega, HQ.out, below_drewN hb1 _⟩
          case measure => simp [intOf]
        · obtain ⟨k, hk⟩ : ∃ k, v = 20 + k := ⟨v - 20, by omega⟩
          have hkv : (v : Int) - 20 = (k : Int) := by omega
          have HKV := Lib.hid hkv
          have hv1 : (20 : Int) ≤ (v : Int) := by omega
          clear hkv
          have hk22 : k < 4194304 := by omega
          have hvk : v - 20 = k := by omega
          rw [hvk] at heq
          clear hk hvk
          have hkp : (0 : Int) ≤ ((v : Int) - 20) := by have := HKV.out; omega
          have HSz : Hid (∀ w', Below w.heap.size w w' → Calls Try.prog 47 #[.pointer (some ⟨p, 0, none⟩), .int .i64 1] w' fun e w'' => e = .returned (.int .i64 26) ∧ w' = w'') := Lib.hid (fun w' hb => sized_any w' p a cp (HB.out.below hb) 1 (by decide))
          by_cases h3 : k < 26
          · have hkc : k < (clsN 1).length := h3
            have HQ : Hid (nextN hold held = some ((clsN 1)[k]'hkc, 6)) := Lib.hid (by rw [heq, if_pos ⟨by omega, hkc⟩, List.getD_eq_getElem?_getD, List.getElem?_eq_getElem hkc, Option.getD_some])
            have h3' : ((v : Int) - 20) < (26 : Int) := by have := HKV.out; omega
            have HN : Hid (∀ w', Below w.heap.size w w' → Calls Try.prog 48 #[.pointer (some ⟨p, 0, none⟩), .int .i64 1, .int .i64 ((v : Int) - 20)] w' fun e w'' => e = .returned (.int .u8 (((clsN 1)[k]'hkc).toNat : Int)) ∧ w' = w'') := Lib.hid (fun w' hb => by rw [HKV.out]; exact nth_any w' p a cp (HB.out.below hb) (HR.out.below hb) 1 (by decide) k hkc)
            generalize (clsN 1)[k] = y at HQ HN
            clear heq h3 hkc
            go_wp2_with fail
            go_quiet (fail)
            have hb2 := below_drewN hb1 nq
            have hc0 : ((wr.alloc (.cells #[.int .i64 6, .string (strB cl6), .int .i64 20] 68)).drewN nq).cell? ⟨wr.heap.size, 0, none⟩ = some (.int .i64 6) := by simp
            generalize (wr.alloc (.cells #[.int .i64 6, .string (strB cl6), .int .i64 20] 68)).drewN nq = w2 at *
            go_wp2_with fail
            refine (HSz.out w2 hb2).mono ?_
            rintro e w' ⟨rfl, rfl⟩
            go_wp2_with fail
            have hdr : Below w.heap.size w w2.drew := hb2.trans ⟨rfl, rfl, rfl, Nat.le_refl _, fun _ _ => rfl⟩
            have hc0' : w2.drew.cell? ⟨wr.heap.size, 0, none⟩ = some (.int .i64 6) := hc0
            refine Mx.region [] (fun w' => w'.cell? ⟨wr.heap.size, 0, none⟩ = some (.int .i64 6)) (by kernel_rfl) (by kernel_rfl) hc0 ?_
            repeat ((first | (refine Mx.skips (by kernel_rfl) ?_; go_big_quiet_skip) | (refine Mx.quietly rfl ?_; go_big_quiet_want; go_big_quiet_op; go_big_quiet_on)); refine Mx.done ?_)
            refine Mx.loudly (by kernel_rfl) (by kernel_rfl) ?_
            go_wp2_with fail
            refine (HN.out w2.drew hdr).mono ?_
            rintro e w' ⟨rfl, rfl⟩
            go_wp2_with fail
            repeat ((first | (refine Mx.skips (by kernel_rfl) ?_; go_big_quiet_skip) | (refine Mx.quietly rfl ?_; go_big_quiet_want; go_big_quiet_op; go_big_quiet_on)); refine Mx.done ?_)
            refine Mx.cell ⟨wr.heap.size, 0, none⟩ (.int .i64 6) (by kernel_rfl) (by kernel_rfl) (by kernel_rfl) Try.isAgg3 (fun w' h => h) ?_
            go_big_quiet_want; go_big_quiet_op; go_big_quiet_on; refine Mx.done ?_
            repeat ((first | (refine Mx.skips (by kernel_rfl) ?_; go_big_quiet_skip) | (refine Mx.quietly rfl ?_; go_big_quiet_want; go_big_quiet_op; go_big_quiet_on)); refine Mx.done ?_)
            refine Mx.nil ?_
            go_wp2
            go_ret3
            exact ⟨by rw [HQ.out]; rfl, hdr⟩
          · rw [if_neg (fun h => h3 h.2)] at heq
            have HQ := Lib.hid heq
            have h3' : ¬ ((v : Int) - 20) < (26 : Int) := by have := HKV.out; omega
            clear heq
            go_wp2_with fail
            go_quiet (fail)
            have hb2 := below_drewN hb1 nq
            generalize (wr.alloc (.cells #[.int .i64 6, .string (strB cl6), .int .i64 20] 68)).drewN nq = w2 at *
            go_wp2_with fail
            refine (HSz.out w2 hb2).mono ?_
            rintro e w' ⟨rfl, rfl⟩
            go_wp2
            go_roundw
            case rel => exact ⟨1 + 1, rfl, by omega, HQ.out, hb2⟩
            case measure => simp [intOf]
    · have hidx := idx_2
      rw [nextAt] at heq
      simp only [lenN, firstN] at heq
      by_cases h1 : held < 7
      · have HQ : Hid (nextN hold held = none) := Lib.hid (by rw [heq, if_pos h1])
        have h1' : (held : Int) < 7 := by omega
        clear heq
        go_wp2
        go_ret3
        exact ⟨by rw [HQ.out]; rfl, hb.alloc (by omega) _⟩
      · rw [if_neg h1] at heq
        have h1' : ¬ (held : Int) < 7 := by omega
        obtain ⟨v, hvv⟩ : ∃ v : Nat, v = hold / 2 ^ (held - 7) := ⟨_, rfl⟩
        have hvle : v ≤ hold := by rw [hvv]; exact Nat.div_le_self _ _
        rw [← hvv] at heq
        have HV := Lib.hid hvv
        have hs1 : IntKind.i64.wrap ((held : Int) - 7) = (held : Int) - 7 := by rw [IntKind.wrap_i64]; omega
        have hdv : (hold : Int) / 2 ^ (held - 7) = (v : Int) := by rw [hvv]; push_cast; rfl
        have hv22 : v < 4194304 := by omega
        have hs2 : IntKind.i64.wrap ((hold : Int) / 2 ^ (held - 7)) = (v : Int) := by
          have e2 : (hold : Int) / 2 ^ (held - 7) = (v : Int) := by rw [hvv]; push_cast; rfl
          rw [e2, IntKind.wrap_i64]; omega
        clear hvv
        have hb1 := hb.alloc (show w.heap.size ≤ wr.heap.size by omega) (.cells #[.int .i64 7, .string (strB cl7), .int .i64 92] 68)
        by_cases h2 : v < 92
        · have hs3 : IntKind.i64.wrap ((v : Int) - 92) = (v : Int) - 92 := by rw [IntKind.wrap_i64]; omega
          have h2c : (v : Int) - 92 < 0 := by omega
          rw [if_neg (by omega)] at heq
          have HQ := Lib.hid heq
          clear heq
          go_wp2_with fail
          go_quiet (fail)
          go_wp2
          go_roundw
          case rel => exact ⟨2 + 1, rfl, by omega, HQ.out, below_drewN hb1 _⟩
          case measure => simp [intOf]
        · obtain ⟨k, hk⟩ : ∃ k, v = 92 + k := ⟨v - 92, by omega⟩
          have hkv : (v : Int) - 92 = (k : Int) := by omega
          have HKV := Lib.hid hkv
          have hv1 : (92 : Int) ≤ (v : Int) := by omega
          clear hkv
          have hk22 : k < 4194304 := by omega
          have hvk : v - 92 = k := by omega
          rw [hvk] at heq
          clear hk hvk
          have hkp : (0 : Int) ≤ ((v : Int) - 92) := by have := HKV.out; omega
          have HSz : Hid (∀ w', Below w.heap.size w w' → Calls Try.prog 47 #[.pointer (some ⟨p, 0, none⟩), .int .i64 2] w' fun e w'' => e = .returned (.int .i64 32) ∧ w' = w'') := Lib.hid (fun w' hb => sized_any w' p a cp (HB.out.below hb) 2 (by decide))
          by_cases h3 : k < 32
          · have hkc : k < (clsN 2).length := h3
            have HQ : Hid (nextN hold held = some ((clsN 2)[k]'hkc, 7)) := Lib.hid (by rw [heq, if_pos ⟨by omega, hkc⟩, List.getD_eq_getElem?_getD, List.getElem?_eq_getElem hkc, Option.getD_some])
            have h3' : ((v : Int) - 92) < (32 : Int) := by have := HKV.out; omega
            have HN : Hid (∀ w', Below w.heap.size w w' → Calls Try.prog 48 #[.pointer (some ⟨p, 0, none⟩), .int .i64 2, .int .i64 ((v : Int) - 92)] w' fun e w'' => e = .returned (.int .u8 (((clsN 2)[k]'hkc).toNat : Int)) ∧ w' = w'') := Lib.hid (fun w' hb => by rw [HKV.out]; exact nth_any w' p a cp (HB.out.below hb) (HR.out.below hb) 2 (by decide) k hkc)
            generalize (clsN 2)[k] = y at HQ HN
            clear heq h3 hkc
            go_wp2_with fail
            go_quiet (fail)
            have hb2 := below_drewN hb1 nq
            have hc0 : ((wr.alloc (.cells #[.int .i64 7, .string (strB cl7), .int .i64 92] 68)).drewN nq).cell? ⟨wr.heap.size, 0, none⟩ = some (.int .i64 7) := by simp
            generalize (wr.alloc (.cells #[.int .i64 7, .string (strB cl7), .int .i64 92] 68)).drewN nq = w2 at *
            go_wp2_with fail
            refine (HSz.out w2 hb2).mono ?_
            rintro e w' ⟨rfl, rfl⟩
            go_wp2_with fail
            have hdr : Below w.heap.size w w2.drew := hb2.trans ⟨rfl, rfl, rfl, Nat.le_refl _, fun _ _ => rfl⟩
            have hc0' : w2.drew.cell? ⟨wr.heap.size, 0, none⟩ = some (.int .i64 7) := hc0
            refine Mx.region [] (fun w' => w'.cell? ⟨wr.heap.size, 0, none⟩ = some (.int .i64 7)) (by kernel_rfl) (by kernel_rfl) hc0 ?_
            repeat ((first | (refine Mx.skips (by kernel_rfl) ?_; go_big_quiet_skip) | (refine Mx.quietly rfl ?_; go_big_quiet_want; go_big_quiet_op; go_big_quiet_on)); refine Mx.done ?_)
            refine Mx.loudly (by kernel_rfl) (by kernel_rfl) ?_
            go_wp2_with fail
            refine (HN.out w2.drew hdr).mono ?_
            rintro e w' ⟨rfl, rfl⟩
            go_wp2_with fail
            repeat ((first | (refine Mx.skips (by kernel_rfl) ?_; go_big_quiet_skip) | (refine Mx.quietly rfl ?_; go_big_quiet_want; go_big_quiet_op; go_big_quiet_on)); refine Mx.done ?_)
            refine Mx.cell ⟨wr.heap.size, 0, none⟩ (.int .i64 7) (by kernel_rfl) (by kernel_rfl) (by kernel_rfl) Try.isAgg3 (fun w' h => h) ?_
            go_big_quiet_want; go_big_quiet_op; go_big_quiet_on; refine Mx.done ?_
            repeat ((first | (refine Mx.skips (by kernel_rfl) ?_; go_big_quiet_skip) | (refine Mx.quietly rfl ?_; go_big_quiet_want; go_big_quiet_op; go_big_quiet_on)); refine Mx.done ?_)
            refine Mx.nil ?_
            go_wp2
            go_ret3
            exact ⟨by rw [HQ.out]; rfl, hdr⟩
          · rw [if_neg (fun h => h3 h.2)] at heq
            have HQ := Lib.hid heq
            have h3' : ¬ ((v : Int) - 92) < (32 : Int) := by have := HKV.out; omega
            clear heq
            go_wp2_with fail
            go_quiet (fail)
            have hb2 := below_drewN hb1 nq
            generalize (wr.alloc (.cells #[.int .i64 7, .string (strB cl7), .int .i64 92] 68)).drewN nq = w2 at *
            go_wp2_with fail
            refine (HSz.out w2 hb2).mono ?_
            rintro e w' ⟨rfl, rfl⟩
            go_wp2
            go_roundw
            case rel => exact ⟨2 + 1, rfl, by omega, HQ.out, hb2⟩
            case measure => simp [intOf]
    · have hidx := idx_3
      rw [nextAt] at heq
      simp only [lenN, firstN] at heq
      by_cases h1 : held < 8
      · have HQ : Hid (nextN hold held = none) := Lib.hid (by rw [heq, if_pos h1])
        have h1' : (held : Int) < 8 := by omega
        clear heq
        go_wp2
        go_ret3
        exact ⟨by rw [HQ.out]; rfl, hb.alloc (by omega) _⟩
      · rw [if_neg h1] at heq
        have h1' : ¬ (held : Int) < 8 := by omega
        obtain ⟨v, hvv⟩ : ∃ v : Nat, v = hold / 2 ^ (held - 8) := ⟨_, rfl⟩
        have hvle : v ≤ hold := by rw [hvv]; exact Nat.div_le_self _ _
        rw [← hvv] at heq
        have HV := Lib.hid hvv
        have hs1 : IntKind.i64.wrap ((held : Int) - 8) = (held : Int) - 8 := by rw [IntKind.wrap_i64]; omega
        have hdv : (hold : Int) / 2 ^ (held - 8) = (v : Int) := by rw [hvv]; push_cast; rfl
        have hv22 : v < 4194304 := by omega
        have hs2 : IntKind.i64.wrap ((hold : Int) / 2 ^ (held - 8)) = (v : Int) := by
          have e2 : (hold : Int) / 2 ^ (held - 8) = (v : Int) := by rw [hvv]; push_cast; rfl
          rw [e2, IntKind.wrap_i64]; omega
        clear hvv
        have hb1 := hb.alloc (show w.heap.size ≤ wr.heap.size by omega) (.cells #[.int .i64 8, .string (strB cl8), .int .i64 248] 68)
        by_cases h2 : v < 248
        · have hs3 : IntKind.i64.wrap ((v : Int) - 248) = (v : Int) - 248 := by rw [IntKind.wrap_i64]; omega
          have h2c : (v : Int) - 248 < 0 := by omega
          rw [if_neg (by omega)] at heq
          have HQ := Lib.hid heq
          clear heq
          go_wp2_with fail
          go_quiet (fail)
          go_wp2
          go_roundw
          case rel => exact ⟨3 + 1, rfl, by omega, HQ.out, below_drewN hb1 _⟩
          case measure => simp [intOf]
        · obtain ⟨k, hk⟩ : ∃ k, v = 248 + k := ⟨v - 248, by omega⟩
          have hkv : (v : Int) - 248 = (k : Int) := by omega
          have HKV := Lib.hid hkv
          have hv1 : (248 : Int) ≤ (v : Int) := by omega
          clear hkv
          have hk22 : k < 4194304 := by omega
          have hvk : v - 248 = k := by omega
          rw [hvk] at heq
          clear hk hvk
          have hkp : (0 : Int) ≤ ((v : Int) - 248) := by have := HKV.out; omega
          have HSz : Hid (∀ w', Below w.heap.size w w' → Calls Try.prog 47 #[.pointer (some ⟨p, 0, none⟩), .int .i64 3] w' fun e w'' => e = .returned (.int .i64 6) ∧ w' = w'') := Lib.hid (fun w' hb => sized_any w' p a cp (HB.out.below hb) 3 (by decide))
          by_cases h3 : k < 6
          · have hkc : k < (clsN 3).length := h3
            have HQ : Hid (nextN hold held = some ((clsN 3)[k]'hkc, 8)) := Lib.hid (by rw [heq, if_pos ⟨by omega, hkc⟩, List.getD_eq_getElem?_getD, List.getElem?_eq_getElem hkc, Option.getD_some])
            have h3' : ((v : Int) - 248) < (6 : Int) := by have := HKV.out; omega
            have HN : Hid (∀ w', Below w.heap.size w w' → Calls Try.prog 48 #[.pointer (some ⟨p, 0, none⟩), .int .i64 3, .int .i64 ((v : Int) - 248)] w' fun e w'' => e = .returned (.int .u8 (((clsN 3)[k]'hkc).toNat : Int)) ∧ w' = w'') := Lib.hid (fun w' hb => by rw [HKV.out]; exact nth_any w' p a cp (HB.out.below hb) (HR.out.below hb) 3 (by decide) k hkc)
            generalize (clsN 3)[k] = y at HQ HN
            clear heq h3 hkc
            go_wp2_with fail
            go_quiet (fail)
            have hb2 := below_drewN hb1 nq
            have hc0 : ((wr.alloc (.cells #[.int .i64 8, .string (strB cl8), .int .i64 248] 68)).drewN nq).cell? ⟨wr.heap.size, 0, none⟩ = some (.int .i64 8) := by simp
            generalize (wr.alloc (.cells #[.int .i64 8, .string (strB cl8), .int .i64 248] 68)).drewN nq = w2 at *
            go_wp2_with fail
            refine (HSz.out w2 hb2).mono ?_
            rintro e w' ⟨rfl, rfl⟩
            go_wp2_with fail
            have hdr : Below w.heap.size w w2.drew := hb2.trans ⟨rfl, rfl, rfl, Nat.le_refl _, fun _ _ => rfl⟩
            have hc0' : w2.drew.cell? ⟨wr.heap.size, 0, none⟩ = some (.int .i64 8) := hc0
            refine Mx.region [] (fun w' => w'.cell? ⟨wr.heap.size, 0, none⟩ = some (.int .i64 8)) (by kernel_rfl) (by kernel_rfl) hc0 ?_
            repeat ((first | (refine Mx.skips (by kernel_rfl) ?_; go_big_quiet_skip) | (refine Mx.quietly rfl ?_; go_big_quiet_want; go_big_quiet_op; go_big_quiet_on)); refine Mx.done ?_)
            refine Mx.loudly (by kernel_rfl) (by kernel_rfl) ?_
            go_wp2_with fail
            refine (HN.out w2.drew hdr).mono ?_
            rintro e w' ⟨rfl, rfl⟩
            go_wp2_with fail
            repeat ((first | (refine Mx.skips (by kernel_rfl) ?_; go_big_quiet_skip) | (refine Mx.quietly rfl ?_; go_big_quiet_want; go_big_quiet_op; go_big_quiet_on)); refine Mx.done ?_)
            refine Mx.cell ⟨wr.heap.size, 0, none⟩ (.int .i64 8) (by kernel_rfl) (by kernel_rfl) (by kernel_rfl) Try.isAgg3 (fun w' h => h) ?_
            go_big_quiet_want; go_big_quiet_op; go_big_quiet_on; refine Mx.done ?_
            repeat ((first | (refine Mx.skips (by kernel_rfl) ?_; go_big_quiet_skip) | (refine Mx.quietly rfl ?_; go_big_quiet_want; go_big_quiet_op; go_big_quiet_on)); refine Mx.done ?_)
            refine Mx.nil ?_
            go_wp2
            go_ret3
            exact ⟨by rw [HQ.out]; rfl, hdr⟩
          · rw [if_neg (fun h => h3 h.2)] at heq
            have HQ := Lib.hid heq
            have h3' : ¬ ((v : Int) - 248) < (6 : Int) := by have := HKV.out; omega
            clear heq
            go_wp2_with fail
            go_quiet (fail)
            have hb2 := below_drewN hb1 nq
            generalize (wr.alloc (.cells #[.int .i64 8, .string (strB cl8), .int .i64 248] 68)).drewN nq = w2 at *
            go_wp2_with fail
            refine (HSz.out w2 hb2).mono ?_
            rintro e w' ⟨rfl, rfl⟩
            go_wp2
            go_roundw
            case rel => exact ⟨3 + 1, rfl, by omega, HQ.out, hb2⟩
            case measure => simp [intOf]
    · have hidx := idx_4
      rw [nextAt] at heq
      simp only [lenN, firstN] at heq
      by_cases h1 : held < 15
      · have HQ : Hid (nextN hold held = none) := Lib.hid (by rw [heq, if_pos h1])
        have h1' : (held : Int) < 15 := by omega
        clear heq
        go_wp2
        go_ret3
        exact ⟨by rw [HQ.out]; rfl, hb.alloc (by omega) _⟩
      · rw [if_neg h1] at heq
        have h1' : ¬ (held : Int) < 15 := by omega
        obtain ⟨v, hvv⟩ : ∃ v : Nat, v = hold / 2 ^ (held - 15) := ⟨_, rfl⟩
        have hvle : v ≤ hold := by rw [hvv]; exact Nat.div_le_self _ _
        rw [← hvv] at heq
        have HV := Lib.hid hvv
        have hs1 : IntKind.i64.wrap ((held : Int) - 15) = (held : Int) - 15 := by rw [IntKind.wrap_i64]; omega
        have hdv : (hold : Int) / 2 ^ (held - 15) = (v : Int) := by rw [hvv]; push_cast; rfl
        have hv22 : v < 4194304 := by omega
        have hs2 : IntKind.i64.wrap ((hold : Int) / 2 ^ (held - 15)) = (v : Int) := by
          have e2 : (hold : Int) / 2 ^ (held - 15) = (v : Int) := by rw [hvv]; push_cast; rfl
          rw [e2, IntKind.wrap_i64]; omega
        clear hvv
        have hb1 := hb.alloc (show w.heap.size ≤ wr.heap.size by omega) (.cells #[.int .i64 15, .string (strB []), .int .i64 32512] 68)
        by_cases h2 : v < 32512
        · have hs3 : IntKind.i64.wrap ((v : Int) - 32512) = (v : Int) - 32512 := by rw [IntKind.wrap_i64]; omega
          have h2c : (v : Int) - 32512 < 0 := by omega
          rw [if_neg (by omega)] at heq
          have HQ := Lib.hid heq
          clear heq
          go_wp2_with fail
          go_quiet (fail)
          go_wp2
          go_roundw
          case rel => exact ⟨4 + 1, rfl, by omega, HQ.out, below_drewN hb1 _⟩
          case measure => simp [intOf]
        · obtain ⟨k, hk⟩ : ∃ k, v = 32512 + k := ⟨v - 32512, by omega⟩
          have hkv : (v : Int) - 32512 = (k : Int) := by omega
          have HKV := Lib.hid hkv
          have hv1 : (32512 : Int) ≤ (v : Int) := by omega
          clear hkv
          have hk22 : k < 4194304 := by omega
          have hvk : v - 32512 = k := by omega
          rw [hvk] at heq
          clear hk hvk
          have hkp : (0 : Int) ≤ ((v : Int) - 32512) := by have := HKV.out; omega
          have HSz : Hid (∀ w', Below w.heap.size w w' → Calls Try.prog 47 #[.pointer (some ⟨p, 0, none⟩), .int .i64 4] w' fun e w'' => e = .returned (.int .i64 182) ∧ w' = w'') := Lib.hid (fun w' hb => by have h5 := sized_any w' p a cp (HB.out.below hb) 4 (by decide); rw [show (clsN 4).length = 182 from restL_len] at h5; exact h5)
          by_cases h3 : k < 182
          · have hkc : k < (clsN 4).length := by show k < restL.length; rw [restL_len]; exact h3
            have HQ : Hid (nextN hold held = some ((clsN 4)[k]'hkc, 15)) := Lib.hid (by rw [heq, if_pos ⟨by omega, hkc⟩, List.getD_eq_getElem?_getD, List.getElem?_eq_getElem hkc, Option.getD_some])
            have h3' : ((v : Int) - 32512) < (182 : Int) := by have := HKV.out; omega
            have HN : Hid (∀ w', Below w.heap.size w w' → Calls Try.prog 48 #[.pointer (some ⟨p, 0, none⟩), .int .i64 4, .int .i64 ((v : Int) - 32512)] w' fun e w'' => e = .returned (.int .u8 (((clsN 4)[k]'hkc).toNat : Int)) ∧ w' = w'') := Lib.hid (fun w' hb => by rw [HKV.out]; exact nth_any w' p a cp (HB.out.below hb) (HR.out.below hb) 4 (by decide) k hkc)
            generalize (clsN 4)[k] = y at HQ HN
            clear heq h3 hkc
            go_wp2_with fail
            go_quiet (fail)
            have hb2 := below_drewN hb1 nq
            have hc0 : ((wr.alloc (.cells #[.int .i64 15, .string (strB []), .int .i64 32512] 68)).drewN nq).cell? ⟨wr.heap.size, 0, none⟩ = some (.int .i64 15) := by simp
            generalize (wr.alloc (.cells #[.int .i64 15, .string (strB []), .int .i64 32512] 68)).drewN nq = w2 at *
            go_wp2_with fail
            refine (HSz.out w2 hb2).mono ?_
            rintro e w' ⟨rfl, rfl⟩
            go_wp2_with fail
            have hdr : Below w.heap.size w w2.drew := hb2.trans ⟨rfl, rfl, rfl, Nat.le_refl _, fun _ _ => rfl⟩
            have hc0' : w2.drew.cell? ⟨wr.heap.size, 0, none⟩ = some (.int .i64 15) := hc0
            refine Mx.region [] (fun w' => w'.cell? ⟨wr.heap.size, 0, none⟩ = some (.int .i64 15)) (by kernel_rfl) (by kernel_rfl) hc0 ?_
            repeat ((first | (refine Mx.skips (by kernel_rfl) ?_; go_big_quiet_skip) | (refine Mx.quietly rfl ?_; go_big_quiet_want; go_big_quiet_op; go_big_quiet_on)); refine Mx.done ?_)
            refine Mx.loudly (by kernel_rfl) (by kernel_rfl) ?_
            go_wp2_with fail
            refine (HN.out w2.drew hdr).mono ?_
            rintro e w' ⟨rfl, rfl⟩
            go_wp2_with fail
            repeat ((first | (refine Mx.skips (by kernel_rfl) ?_; go_big_quiet_skip) | (refine Mx.quietly rfl ?_; go_big_quiet_want; go_big_quiet_op; go_big_quiet_on)); refine Mx.done ?_)
            refine Mx.cell ⟨wr.heap.size, 0, none⟩ (.int .i64 15) (by kernel_rfl) (by kernel_rfl) (by kernel_rfl) Try.isAgg3 (fun w' h => h) ?_
            go_big_quiet_want; go_big_quiet_op; go_big_quiet_on; refine Mx.done ?_
            repeat ((first | (refine Mx.skips (by kernel_rfl) ?_; go_big_quiet_skip) | (refine Mx.quietly rfl ?_; go_big_quiet_want; go_big_quiet_op; go_big_quiet_on)); refine Mx.done ?_)
            refine Mx.nil ?_
            go_wp2
            go_ret3
            exact ⟨by rw [HQ.out]; rfl, hdr⟩
          · rw [if_neg (fun h => h3 (by have h5 : k < restL.length := h.2; rw [restL_len] at h5; exact h5))] at heq
            have HQ := Lib.hid heq
            have h3' : ¬ ((v : Int) - 32512) < (182 : Int) := by have := HKV.out; omega
            clear heq
            go_wp2_with fail
            go_quiet (fail)
            have hb2 := below_drewN hb1 nq
            generalize (wr.alloc (.cells #[.int .i64 15, .string (strB []), .int .i64 32512] 68)).drewN nq = w2 at *
            go_wp2_with fail
            refine (HSz.out w2 hb2).mono ?_
            rintro e w' ⟨rfl, rfl⟩
            go_wp2
            go_roundw
            case rel => exact ⟨4 + 1, rfl, by omega, HQ.out, hb2⟩
            case measure => simp [intOf]
end Go.Proofs.Ytkijpjdjkjnpiaa

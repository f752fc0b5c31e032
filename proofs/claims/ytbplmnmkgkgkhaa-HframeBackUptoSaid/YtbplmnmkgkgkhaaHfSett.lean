/- Contracts of hframe's PutSettings and of the document's Settings. No condition. -/
import Derived.Test.YtbplmnmkgkgkhaaHfSet
import Derived.Deep.DeepCutAuto
namespace Go.Proofs.Ytbplmnmkgkgkhaa
open Go.RowKit

/-- no such settings can be written -/
def badS (a b c : Int) : Bool := decide (a < 0 ∨ b < 0 ∨ c < -1 ∨ 4611686018427387903 < a ∨ 4611686018427387903 < b ∨ 4611686018427387903 < c)
theorem badS_t {a b c : Int} (h : a < 0 ∨ b < 0 ∨ c < -1 ∨ 4611686018427387903 < a ∨ 4611686018427387903 < b ∨ 4611686018427387903 < c) : Value.bool true = Value.bool (badS a b c) := by rw [show badS a b c = true from decide_eq_true h]
theorem badS_f {a b c : Int} (h : ¬ (a < 0 ∨ b < 0 ∨ c < -1 ∨ 4611686018427387903 < a ∨ 4611686018427387903 < b ∨ 4611686018427387903 < c)) : Value.bool false = Value.bool (badS a b c) := by rw [show badS a b c = false from decide_eq_false h]
def seg (t : Nat) (v : Int) : List UInt8 := vl t ++ vl v.toNat
def segA (a : Int) : List UInt8 := if a = 0 then [] else seg 1 a
def segB (b : Int) : List UInt8 := if b = 0 then [] else seg 7 b
def segC (c : Int) : List UInt8 := if c = -1 then [] else seg 6 c
theorem seg_len (t : Nat) (v : Int) : (seg t v).length ≤ 16 := by
  have h1 := vl_length t
  have h2 := vl_length v.toNat
  have h3 := (szN_pos t).2
  have h4 := (szN_pos v.toNat).2
  simp only [seg, List.length_append]; omega
theorem segA_len (a : Int) : (segA a).length ≤ 16 := by
  unfold segA; split
  · simp
  · exact seg_len _ _
theorem segB_len (a : Int) : (segB a).length ≤ 16 := by
  unfold segB; split
  · simp
  · exact seg_len _ _
theorem segC_len (a : Int) : (segC a).length ≤ 16 := by
  unfold segC; split
  · simp
  · exact seg_len _ _
/-- the settings' frame -/
def stB (a b c : Int) : List UInt8 × Int := if badS a b c = true then ([], 10) else frB 4 (segA a ++ (segB b ++ segC c))
theorem own_ne_has {w : World} {B e s sb : Nat} {t : TypeId} {a : Option Addr} {n c : Nat} {xs vs : List Value} (h : w.ownsRow B e s (.slice a n c) n xs) (hT : Has w sb t vs) (hne : e ≠ t) : ∀ k, Value.ownBlock (.slice a n c) = some k → k ≠ sb := by
  intro k hk hks
  rcases h.2 with ⟨hv, _⟩ | ⟨g, cap, cur, hv, _, hg, _⟩
  · rw [hv] at hk; cases hk
  · rw [hv] at hk
    simp only [Value.ownBlock, Option.some.injEq] at hk
    unfold Has at hT
    rw [← hks, ← hk, hg] at hT
    simp only [Option.some.injEq, Obj.cells.injEq] at hT
    exact hne hT.2.1
/-- bytes that are the call's own, in a world where the settings lie at sb -/
def HoldS (w : World) (sb : Nat) (t : TypeId) (a b c : Int) (l : List UInt8) (v : Value) (wc : World) : Prop :=
  ∃ (x : Option Addr) (n c' : Nat), v = .slice x n c' ∧ n = l.length ∧ wc.ownsRow w.heap.size 5 1 (.slice x n c') n (bv l) ∧ Has wc sb t [.int .i64 a, .int .i64 b, .int .i64 c] ∧ Below w.heap.size w wc

set_option maxRecDepth 100000 in
set_option maxHeartbeats 4000000 in
theorem putset_any (w : World) (a b c : Int) (_ : -9223372036854775808 ≤ a ∧ a ≤ 9223372036854775807) (_ : -9223372036854775808 ≤ b ∧ b ≤ 9223372036854775807) (_ : -9223372036854775808 ≤ c ∧ c ≤ 9223372036854775807) :
    Calls Try.prog 15 #[.agg #[.int .i64 a, .int .i64 b, .int .i64 c]] w (RetBE w.heap.size w (stB a b c)) := by
  obtain ⟨w1, hw1⟩ : ∃ w1, w1 = w.alloc (.cells #[.int .i64 a, .int .i64 b, .int .i64 c] 30) := ⟨_, rfl⟩
  obtain ⟨sb, hsb⟩ : ∃ sb, sb = w.heap.size := ⟨_, rfl⟩
  have hT : Has w1 sb 30 [.int .i64 a, .int .i64 b, .int .i64 c] := by rw [hw1, hsb]; exact Has.new _ _ _
  have hb1 : Below w.heap.size w w1 := by rw [hw1]; exact (Below.refl _ _).alloc (Nat.le_refl _) _
  have HSb := Lib.hid hsb
  clear hsb
  go_enter Try.func15, Try.ntmps15
  go_upto_region 1 with fail
  rw [← hw1, ← HSb.out]
  clear hw1
  go_cut [27] (fun v wc => v = .bool (badS a b c) ∧ Below w1.heap.size w1 wc)
  case first =>
    have t0 := hT.cell 0 rfl
    have t1 := hT.cell 1 rfl
    have t2 := hT.cell 2 rfl
    have HT := Lib.hid hT
    clear hT
    by_cases p1 : a < 0
    · go_wp2_with fail
      go_meet
      case rel => exact ⟨badS_t (by omega), Below.refl _ _⟩
    · by_cases p2 : b < 0
      · go_wp2_with fail
        go_meet
        case rel => exact ⟨badS_t (by omega), Below.refl _ _⟩
      · by_cases p3 : c < -1
        · go_wp2_with fail
          go_meet
          case rel => exact ⟨badS_t (by omega), Below.refl _ _⟩
        · by_cases q1 : a < b
          · by_cases q2 : b < c
            · by_cases q3 : 4611686018427387903 < c
              · go_wp2_with fail
                go_meet
                case rel => exact ⟨badS_t (by omega), Below.refl _ _⟩
              · go_wp2_with fail
                go_meet
                case rel => exact ⟨badS_f (by omega), Below.refl _ _⟩
            · by_cases q3 : 4611686018427387903 < b
              · go_wp2_with fail
                go_meet
                case rel => exact ⟨badS_t (by omega), Below.refl _ _⟩
              · go_wp2_with fail
                go_meet
                case rel => exact ⟨badS_f (by omega), Below.refl _ _⟩
          · by_cases q2 : a < c
            · by_cases q3 : 4611686018427387903 < c
              · go_wp2_with fail
                go_meet
                case rel => exact ⟨badS_t (by omega), Below.refl _ _⟩
              · go_wp2_with fail
                go_meet
                case rel => exact ⟨badS_f (by omega), Below.refl _ _⟩
            · by_cases q3 : 4611686018427387903 < a
              · go_wp2_with fail
                go_meet
                case rel => exact ⟨badS_t (by omega), Below.refl _ _⟩
              · go_wp2_with fail
                go_meet
                case rel => exact ⟨badS_f (by omega), Below.refl _ _⟩
  case rest =>
    obtain ⟨rfl, hbc⟩ := hcut
    have hT2 := hT.kept (Kept.of_below (X := none') hbc) (fun h => h)
    have hbw := hb1.trans (hbc.mono hb1.size)
    clear hT hb1 hbc
    cases hbad : badS a b c
    · have hnb := of_decide_eq_false hbad
      have HE : Hid (stB a b c = frB 4 (segA a ++ (segB b ++ segC c))) := Lib.hid (by unfold stB; rw [hbad]; rfl)
      clear hbad
      have HT := Lib.hid hT2
      have HB := Lib.hid hbw
      obtain ⟨wa, hwa⟩ : ∃ wa, wa = wc := ⟨_, rfl⟩
      rw [← hwa] at HT HB ⊢
      clear hT2 hbw hwa
      have t0 := HT.out.cell 0 rfl
      go_upto_if 30 with fail
      go_cut [4] (fun v wc => HoldS w sb 30 a b c (segA a) v wc)
      case first =>
        have HO : Hid (wa.ownsRow w.heap.size 5 1 (.slice none 0 0) 0 (bv [])) := Lib.hid (World.ownsRow_nil _ _ _ _)
        have HN : Hid (0 = ([] : List UInt8).length) := Lib.hid rfl
        by_cases hv : a = 0
        · have hvp : ¬ 0 < a := by omega
          have HEq : Hid (segA a = []) := Lib.hid (by simp [segA, hv])
          clear hv
          go_wp2_with fail
          go_meet
          case rel => exact ⟨none, 0, 0, rfl, by rw [HEq.out]; exact HN.out, by rw [HEq.out]; exact HO.out, HT.out, HB.out⟩
        · have hvp : 0 < a := by omega
          have HEq : Hid (segA a = [] ++ seg 1 a) := Lib.hid (by simp [segA, hv])
          have hlen : ([] : List UInt8).length ≤ 32 := by
            simp
          obtain ⟨m, rfl⟩ := Int.eq_ofNat_of_zero_le (show 0 ≤ a by omega)
          have HNu : Hid (∀ t, Calls Try.prog 24 #[.slice (some ⟨wa.heap.size, 0, none⟩) 2 2] (wa.alloc (.cells #[.int .i64 1, .int .i64 (m : Int)] t)) (RetB (wa.alloc (.cells #[.int .i64 1, .int .i64 (m : Int)] t)) (seg 1 (m : Int)))) := Lib.hid (fun t => by
            have := numbers_any (wa.alloc (.cells #[.int .i64 1, .int .i64 (m : Int)] t)) (l := [1, m]) sl_two (by simp) (by
              intro y hy
              simp only [List.mem_cons, List.not_mem_nil, or_false] at hy
              rcases hy with rfl | rfl <;> omega)
            rwa [numsB_two] at this)
          have hal : Below wa.heap.size wa (wa.alloc (.cells #[.int .i64 1, .int .i64 (m : Int)] 3)) := (Below.refl _ _).alloc (Nat.le_refl _) _
          have HAl := Lib.hid hal
          have hz := HB.out.size
          clear hv hal
          go_wp2_with fail
          refine (HNu.out _).mono ?_
          rintro e w2 ⟨na, nc, rfl, hno, hb2⟩
          have hb22 : Below wa.heap.size wa w2 := HAl.out.trans (hb2.mono (by simp))
          have hsl := own_sl hno
          obtain ⟨q, hq⟩ : ∃ q, q = (seg 1 (m : Int)).length := ⟨_, rfl⟩
          have hq16 : q ≤ 16 := by rw [hq]; exact seg_len _ _
          rw [← hq] at hsl ⊢
          have HQ := Lib.hid hq
          have HO2 := own_below HO.out hb22
          have HT2 := Lib.hid (HT.out.kept (Kept.of_below (X := none') hb22) (fun h => h))
          have hB2 := HB.out.trans (hb22.mono HB.out.size)
          have hz2 := hB2.size
          have hn32 : 0 ≤ 32 := by rw [HN.out]; exact hlen
          have hsb2 : sb < w2.heap.size := HT2.out.lt
          have hob := own_ne_has HO2 HT2.out (by decide)
          clear hb2 hno hb22 hq t0
          go_wp2_with (at_builtin; refine wpL_app tyU8 rfl _ _ rfl rfl rfl HO2 hsl (bv_one _) (by omega) (by unfold maxLen; omega) hB2 (Nat.le_refl _) hz2 ?_; intro a4 c4 w4 ho4 hb4 hg4)
          go_meet
          case rel =>
            refine ⟨a4, q, c4, rfl, by rw [HEq.out, List.length_append, ← HQ.out, ← HN.out]; omega, by rw [HEq.out, bv_append]; rw [Nat.zero_add] at ho4; exact ho4, HT2.out.kept (Kept.of_grown hg4) (fun e => hob sb e rfl), hb4⟩
      case rest =>
        obtain ⟨x, n, c', rfl, hn, ho, hT, hB⟩ := hcut
        have HN := Lib.hid hn
        have HO := Lib.hid ho
        have HT := Lib.hid hT
        have HB := Lib.hid hB
        clear hn ho hT hB t0
        obtain ⟨wa, hwa⟩ : ∃ wa, wa = wc := ⟨_, rfl⟩
        rw [← hwa] at HT HB HO ⊢
        clear hwa
        have t1 := HT.out.cell 1 rfl
        go_upto_if 39 with fail
        go_cut [4] (fun v wc => HoldS w sb 30 a b c (segA a ++ segB b) v wc)
        case first =>
          by_cases hv : b = 0
          · have hvp : ¬ 0 < b := by omega
            have HEq : Hid (segA a ++ segB b = segA a) := Lib.hid (by simp [segB, hv])
            clear hv
            go_wp2_with fail
            go_meet
            case rel => exact ⟨x, n, c', rfl, by rw [HEq.out]; exact HN.out, by rw [HEq.out]; exact HO.out, HT.out, HB.out⟩
          · have hvp : 0 < b := by omega
            have HEq : Hid (segA a ++ segB b = segA a ++ seg 7 b) := Lib.hid (by simp [segB, hv])
            have hlen : (segA a).length ≤ 32 := by
              exact Nat.le_trans (segA_len a) (by decide)
            obtain ⟨m, rfl⟩ := Int.eq_ofNat_of_zero_le (show 0 ≤ b by omega)
            have HNu : Hid (∀ t, Calls Try.prog 24 #[.slice (some ⟨wa.heap.size, 0, none⟩) 2 2] (wa.alloc (.cells #[.int .i64 7, .int .i64 (m : Int)] t)) (RetB (wa.alloc (.cells #[.int .i64 7, .int .i64 (m : Int)] t)) (seg 7 (m : Int)))) := Lib.hid (fun t => by
              have := numbers_any (wa.alloc (.cells #[.int .i64 7, .int .i64 (m : Int)] t)) (l := [7, m]) sl_two (by simp) (by
                intro y hy
                simp only [List.mem_cons, List.not_mem_nil, or_false] at hy
                rcases hy with rfl | rfl <;> omega)
              rwa [numsB_two] at this)
            have hal : Below wa.heap.size wa (wa.alloc (.cells #[.int .i64 7, .int .i64 (m : Int)] 3)) := (Below.refl _ _).alloc (Nat.le_refl _) _
            have HAl := Lib.hid hal
            have hz := HB.out.size
            clear hv hal
            go_wp2_with fail
            refine (HNu.out _).mono ?_
            rintro e w2 ⟨na, nc, rfl, hno, hb2⟩
            have hb22 : Below wa.heap.size wa w2 := HAl.out.trans (hb2.mono (by simp))
            have hsl := own_sl hno
            obtain ⟨q, hq⟩ : ∃ q, q = (seg 7 (m : Int)).length := ⟨_, rfl⟩
            have hq16 : q ≤ 16 := by rw [hq]; exact seg_len _ _
            rw [← hq] at hsl ⊢
            have HQ := Lib.hid hq
            have HO2 := own_below HO.out hb22
            have HT2 := Lib.hid (HT.out.kept (Kept.of_below (X := none') hb22) (fun h => h))
            have hB2 := HB.out.trans (hb22.mono HB.out.size)
            have hz2 := hB2.size
            have hn32 : n ≤ 32 := by rw [HN.out]; exact hlen
            have hsb2 : sb < w2.heap.size := HT2.out.lt
            have hob := own_ne_has HO2 HT2.out (by decide)
            clear hb2 hno hb22 hq t1
            go_wp2_with (at_builtin; refine wpL_app tyU8 rfl _ _ rfl rfl rfl HO2 hsl (bv_one _) (by omega) (by unfold maxLen; omega) hB2 (Nat.le_refl _) hz2 ?_; intro a4 c4 w4 ho4 hb4 hg4)
            go_meet
            case rel =>
              refine ⟨a4, n + q, c4, rfl, by rw [HEq.out, List.length_append, ← HQ.out, ← HN.out], by rw [HEq.out, bv_append]; exact ho4, HT2.out.kept (Kept.of_grown hg4) (fun e => hob sb e rfl), hb4⟩
        case rest =>
          clear HO HN
          obtain ⟨x, n, c', rfl, hn, ho, hT, hB⟩ := hcut
          have HN := Lib.hid hn
          have HO := Lib.hid ho
          have HT := Lib.hid hT
          have HB := Lib.hid hB
          clear hn ho hT hB t1
          obtain ⟨wa, hwa⟩ : ∃ wa, wa = wc := ⟨_, rfl⟩
          rw [← hwa] at HT HB HO ⊢
          clear hwa
          have t2 := HT.out.cell 2 rfl
          go_upto_if 48 with fail
          go_cut [4] (fun v wc => HoldS w sb 30 a b c (segA a ++ segB b ++ segC c) v wc)
          case first =>
            by_cases hv : c = -1
            · have hvp : ¬ 0 ≤ c := by omega
              have HEq : Hid (segA a ++ segB b ++ segC c = segA a ++ segB b) := Lib.hid (by simp [segC, hv])
              clear hv
              go_wp2_with fail
              go_meet
              case rel => exact ⟨x, n, c', rfl, by rw [HEq.out]; exact HN.out, by rw [HEq.out]; exact HO.out, HT.out, HB.out⟩
            · have hvp : 0 ≤ c := by omega
              have HEq : Hid (segA a ++ segB b ++ segC c = segA a ++ segB b ++ seg 6 c) := Lib.hid (by simp [segC, hv])
              have hlen : (segA a ++ segB b).length ≤ 32 := by
                rw [List.length_append]; have h3 := segA_len a; have h4 := segB_len b; omega
              obtain ⟨m, rfl⟩ := Int.eq_ofNat_of_zero_le (show 0 ≤ c by omega)
              have HNu : Hid (∀ t, Calls Try.prog 24 #[.slice (some ⟨wa.heap.size, 0, none⟩) 2 2] (wa.alloc (.cells #[.int .i64 6, .int .i64 (m : Int)] t)) (RetB (wa.alloc (.cells #[.int .i64 6, .int .i64 (m : Int)] t)) (seg 6 (m : Int)))) := Lib.hid (fun t => by
                have := numbers_any (wa.alloc (.cells #[.int .i64 6, .int .i64 (m : Int)] t)) (l := [6, m]) sl_two (by simp) (by
                  intro y hy
                  simp only [List.mem_cons, List.not_mem_nil, or_false] at hy
                  rcases hy with rfl | rfl <;> omega)
                rwa [numsB_two] at this)
              have hal : Below wa.heap.size wa (wa.alloc (.cells #[.int .i64 6, .int .i64 (m : Int)] 3)) := (Below.refl _ _).alloc (Nat.le_refl _) _
              have HAl := Lib.hid hal
              have hz := HB.out.size
              clear hv hal
              go_wp2_with fail
              refine (HNu.out _).mono ?_
              rintro e w2 ⟨na, nc, rfl, hno, hb2⟩
              have hb22 : Below wa.heap.size wa w2 := HAl.out.trans (hb2.mono (by simp))
              have hsl := own_sl hno
              obtain ⟨q, hq⟩ : ∃ q, q = (seg 6 (m : Int)).length := ⟨_, rfl⟩
              have hq16 : q ≤ 16 := by rw [hq]; exact seg_len _ _
              rw [← hq] at hsl ⊢
              have HQ := Lib.hid hq
              have HO2 := own_below HO.out hb22
              have HT2 := Lib.hid (HT.out.kept (Kept.of_below (X := none') hb22) (fun h => h))
              have hB2 := HB.out.trans (hb22.mono HB.out.size)
              have hz2 := hB2.size
              have hn32 : n ≤ 32 := by rw [HN.out]; exact hlen
              have hsb2 : sb < w2.heap.size := HT2.out.lt
              have hob := own_ne_has HO2 HT2.out (by decide)
              clear hb2 hno hb22 hq t2
              go_wp2_with (at_builtin; refine wpL_app tyU8 rfl _ _ rfl rfl rfl HO2 hsl (bv_one _) (by omega) (by unfold maxLen; omega) hB2 (Nat.le_refl _) hz2 ?_; intro a4 c4 w4 ho4 hb4 hg4)
              go_meet
              case rel =>
                refine ⟨a4, n + q, c4, rfl, by rw [HEq.out, List.length_append, ← HQ.out, ← HN.out], by rw [HEq.out, bv_append]; exact ho4, HT2.out.kept (Kept.of_grown hg4) (fun e => hob sb e rfl), hb4⟩
          case rest =>
            clear HO HN
            obtain ⟨x, n, c', rfl, hn, ho, hT, hB⟩ := hcut
            have hfr := frame_any wc 4 (own_sl ho)
            rw [List.append_assoc] at hfr
            have HF := Lib.hid hfr
            clear hfr
            have hz := hB.size
            have HB := Lib.hid hB
            clear ho hT t2 hn hB
            go_wp2_with fail
            refine HF.out.mono ?_
            rintro e w5 ⟨fa, fc, rfl, hfo, hb5⟩
            have hb55 := HB.out.trans (hb5.mono HB.out.size)
            go_wp2
            go_ret2
            exact RetBE.mk rfl (by rw [HE.out]) (own_mono hfo hz) (by rw [HE.out]) hb55
    · have HE : Hid (stB a b c = ([], 10)) := Lib.hid (by unfold stB; rw [hbad]; rfl)
      clear hbad
      go_wp2
      go_ret2
      rw [HE.out]
      exact RetBE.none' rfl hbw

set_option maxRecDepth 100000 in
set_option maxHeartbeats 4000000 in
theorem refset_any (w : World) (a b c : Int) (_ : -9223372036854775808 ≤ a ∧ a ≤ 9223372036854775807) (_ : -9223372036854775808 ≤ b ∧ b ≤ 9223372036854775807) (_ : -9223372036854775808 ≤ c ∧ c ≤ 9223372036854775807) :
    Calls Try.prog 16 #[.agg #[.int .i64 a, .int .i64 b, .int .i64 c]] w (RetBE w.heap.size w (stB a b c)) := by
  obtain ⟨w1, hw1⟩ : ∃ w1, w1 = w.alloc (.cells #[.int .i64 a, .int .i64 b, .int .i64 c] 48) := ⟨_, rfl⟩
  obtain ⟨sb, hsb⟩ : ∃ sb, sb = w.heap.size := ⟨_, rfl⟩
  have hT : Has w1 sb 48 [.int .i64 a, .int .i64 b, .int .i64 c] := by rw [hw1, hsb]; exact Has.new _ _ _
  have hb1 : Below w.heap.size w w1 := by rw [hw1]; exact (Below.refl _ _).alloc (Nat.le_refl _) _
  have HSb := Lib.hid hsb
  clear hsb
  go_enter Try.func16, Try.ntmps16
  go_upto_region 1 with fail
  rw [← hw1, ← HSb.out]
  clear hw1
  go_cut [32] (fun v wc => v = .bool (badS a b c) ∧ Below w1.heap.size w1 wc)
  case first =>
    have t0 := hT.cell 0 rfl
    have t1 := hT.cell 1 rfl
    have t2 := hT.cell 2 rfl
    have HT := Lib.hid hT
    clear hT
    by_cases p1 : a < 0
    · go_wp2_with fail
      go_meet
      case rel => exact ⟨badS_t (by omega), Below.refl _ _⟩
    · by_cases p2 : b < 0
      · go_wp2_with fail
        go_meet
        case rel => exact ⟨badS_t (by omega), Below.refl _ _⟩
      · by_cases p3 : c < -1
        · go_wp2_with fail
          go_meet
          case rel => exact ⟨badS_t (by omega), Below.refl _ _⟩
        · by_cases q1 : 4611686018427387903 < a
          · go_wp2_with fail
            go_meet
            case rel => exact ⟨badS_t (by omega), Below.refl _ _⟩
          · by_cases q2 : 4611686018427387903 < b
            · go_wp2_with fail
              go_meet
              case rel => exact ⟨badS_t (by omega), Below.refl _ _⟩
            · by_cases q3 : 4611686018427387903 < c
              · go_wp2_with fail
                go_meet
                case rel => exact ⟨badS_t (by omega), Below.refl _ _⟩
              · go_wp2_with fail
                go_meet
                case rel => exact ⟨badS_f (by omega), Below.refl _ _⟩
  case rest =>
    obtain ⟨rfl, hbc⟩ := hcut
    have hT2 := hT.kept (Kept.of_below (X := none') hbc) (fun h => h)
    have hbw := hb1.trans (hbc.mono hb1.size)
    clear hT hb1 hbc
    cases hbad : badS a b c
    · have hnb := of_decide_eq_false hbad
      have HE : Hid (stB a b c = frB 4 (segA a ++ (segB b ++ segC c))) := Lib.hid (by unfold stB; rw [hbad]; rfl)
      clear hbad
      have HT := Lib.hid hT2
      have HB := Lib.hid hbw
      obtain ⟨wa, hwa⟩ : ∃ wa, wa = wc := ⟨_, rfl⟩
      rw [← hwa] at HT HB ⊢
      clear hT2 hbw hwa
      have t0 := HT.out.cell 0 rfl
      go_upto_if 35 with fail
      go_cut [4] (fun v wc => HoldS w sb 48 a b c (segA a) v wc)
      case first =>
        have HO : Hid (wa.ownsRow w.heap.size 5 1 (.slice none 0 0) 0 (bv [])) := Lib.hid (World.ownsRow_nil _ _ _ _)
        have HN : Hid (0 = ([] : List UInt8).length) := Lib.hid rfl
        by_cases hv : a = 0
        · have hvb : (a == 0) = true := by rw [hv]; rfl
          have HEq : Hid (segA a = []) := Lib.hid (by simp [segA, hv])
          clear hv
          go_wp2_with fail
          go_meet
          case rel => exact ⟨none, 0, 0, rfl, by rw [HEq.out]; exact HN.out, by rw [HEq.out]; exact HO.out, HT.out, HB.out⟩
        · have hvb : (a == 0) = false := by rw [beq_eq_false_iff_ne]; exact hv
          have HEq : Hid (segA a = [] ++ seg 1 a) := Lib.hid (by simp [segA, hv])
          have hlen : ([] : List UInt8).length ≤ 32 := by
            simp
          obtain ⟨m, rfl⟩ := Int.eq_ofNat_of_zero_le (show 0 ≤ a by omega)
          obtain ⟨w2, hw2⟩ : ∃ w2, w2 = wa.alloc (.cells #[.int .u8 1] 5) := ⟨_, rfl⟩
          have hal : Below wa.heap.size wa w2 := by rw [hw2]; exact (Below.refl _ _).alloc (Nat.le_refl _) _
          have HT2 := HT.out.kept (Kept.of_below (X := none') hal) (fun h => h)
          have t9 := HT2.cell 0 rfl
          obtain ⟨ab, hab⟩ : ∃ ab, ab = wa.heap.size := ⟨_, rfl⟩
          have hS1 : Sl w2 (some ⟨ab, 0, none⟩) 1 1 (bv [UInt8.ofNat 1]) := by rw [hw2, hab]; exact sl_one
          have HPu := Lib.hid (refput_any w2 m (by omega))
          have HAl := Lib.hid hal
          have HS1 := Lib.hid hS1
          have HT2 := Lib.hid HT2
          have HW2 := Lib.hid hw2
          have HAb := Lib.hid hab
          rw [hw2] at t9
          clear hv hal hw2 hab hS1
          go_wp2_with fail
          rw [← HW2.out, ← HAb.out]
          refine HPu.out.mono ?_
          rintro e w3 ⟨pa, pc, rfl, hpo, hb3⟩
          obtain ⟨w4, hw4⟩ : ∃ w4, w4 = w3.alloc (.cells #[.slice none 0 0, .slice (some ⟨ab, 0, none⟩) 1 1, .slice pa (vl m).length pc] 22) := ⟨_, rfl⟩
          have hb13 : Below wa.heap.size wa w3 := HAl.out.trans (hb3.mono HAl.out.size)
          have hal4 : Below w3.heap.size w3 w4 := by rw [hw4]; exact (Below.refl _ _).alloc (Nat.le_refl _) _
          have HJ : Hid (Calls Try.prog 13 #[.slice (some ⟨w3.heap.size, 0, none⟩) 3 3] w4 (RetB w4 (segA (m : Int)))) := Lib.hid (by
            rw [hw4]
            have := join_any (w3.alloc (.cells #[.slice none 0 0, .slice (some ⟨ab, 0, none⟩) 1 1, .slice pa (vl m).length pc] 22)) (ps := [⟨none, 0, 0, ([] : List UInt8)⟩, ⟨some ⟨ab, 0, none⟩, 1, 1, [UInt8.ofNat 1]⟩, ⟨pa, (vl m).length, pc, vl m⟩]) sl_three (by
              intro q hq
              rw [← hw4]
              simp only [List.mem_cons, List.not_mem_nil, or_false] at hq
              rcases hq with rfl | rfl | rfl
              · exact (own_sl (own_below HO.out hb13)).below hal4
              · exact (HS1.out.below hb3).below hal4
              · exact (own_sl hpo).below hal4) (by
              have h1 := vl_length m
              have h2 := (szN_pos m).2
              simp [joined] at hlen ⊢; omega)
            have e : joined [⟨none, 0, 0, ([] : List UInt8)⟩, ⟨some ⟨ab, 0, none⟩, 1, 1, [UInt8.ofNat 1]⟩, ⟨pa, (vl m).length, pc, vl m⟩] = (segA (m : Int)) := by
              rw [HEq.out]
              have e1 : vl 1 = [UInt8.ofNat 1] := by decide
              simp [joined, seg, e1]
            rwa [e] at this)
          have HT4 := Lib.hid ((HT2.out.kept (Kept.of_below (X := none') hb3) (fun h => h)).kept (Kept.of_below (X := none') hal4) (fun h => h))
          have HB4 := Lib.hid ((HB.out.trans (hb13.mono HB.out.size)).trans (hal4.mono (by have := HB.out.size; have := hb13.size; omega)))
          have HW4 := Lib.hid hw4
          clear hpo hb3 hb13 hal4 hw4 t0 t9 hlen
          go_wp2_with fail
          rw [← HW4.out]
          refine HJ.out.mono ?_
          rintro e w5 ⟨ja, jc, rfl, hjo, hb5⟩
          have HT5 := Lib.hid (HT4.out.kept (Kept.of_below (X := none') hb5) (fun h => h))
          have HB5 := Lib.hid (HB4.out.trans (hb5.mono HB4.out.size))
          have hjo2 := own_mono hjo HB4.out.size
          obtain ⟨q, hq⟩ : ∃ q, q = ((segA (m : Int))).length := ⟨_, rfl⟩
          rw [← hq] at hjo2 ⊢
          have HQ := Lib.hid hq
          have HJo := Lib.hid hjo2
          clear hq hjo hjo2 hb5
          go_wp2_with fail
          go_meet
          case rel => exact ⟨ja, q, jc, rfl, HQ.out, HJo.out, HT5.out, HB5.out⟩
      case rest =>
        obtain ⟨x, n, c', rfl, hn, ho, hT, hB⟩ := hcut
        have HN := Lib.hid hn
        have HO := Lib.hid ho
        have HT := Lib.hid hT
        have HB := Lib.hid hB
        clear hn ho hT hB t0
        obtain ⟨wa, hwa⟩ : ∃ wa, wa = wc := ⟨_, rfl⟩
        rw [← hwa] at HT HB HO ⊢
        clear hwa
        have t1 := HT.out.cell 1 rfl
        go_upto_if 45 with fail
        go_cut [4] (fun v wc => HoldS w sb 48 a b c (segA a ++ segB b) v wc)
        case first =>
          by_cases hv : b = 0
          · have hvb : (b == 0) = true := by rw [hv]; rfl
            have HEq : Hid (segA a ++ segB b = segA a) := Lib.hid (by simp [segB, hv])
            clear hv
            go_wp2_with fail
            go_meet
            case rel => exact ⟨x, n, c', rfl, by rw [HEq.out]; exact HN.out, by rw [HEq.out]; exact HO.out, HT.out, HB.out⟩
          · have hvb : (b == 0) = false := by rw [beq_eq_false_iff_ne]; exact hv
            have HEq : Hid (segA a ++ segB b = segA a ++ seg 7 b) := Lib.hid (by simp [segB, hv])
            have hlen : (segA a).length ≤ 32 := by
              exact Nat.le_trans (segA_len a) (by decide)
            obtain ⟨m, rfl⟩ := Int.eq_ofNat_of_zero_le (show 0 ≤ b by omega)
            obtain ⟨w2, hw2⟩ : ∃ w2, w2 = wa.alloc (.cells #[.int .u8 7] 5) := ⟨_, rfl⟩
            have hal : Below wa.heap.size wa w2 := by rw [hw2]; exact (Below.refl _ _).alloc (Nat.le_refl _) _
            have HT2 := HT.out.kept (Kept.of_below (X := none') hal) (fun h => h)
            have t9 := HT2.cell 1 rfl
            obtain ⟨ab, hab⟩ : ∃ ab, ab = wa.heap.size := ⟨_, rfl⟩
            have hS1 : Sl w2 (some ⟨ab, 0, none⟩) 1 1 (bv [UInt8.ofNat 7]) := by rw [hw2, hab]; exact sl_one
            have HPu := Lib.hid (refput_any w2 m (by omega))
            have HAl := Lib.hid hal
            have HS1 := Lib.hid hS1
            have HT2 := Lib.hid HT2
            have HW2 := Lib.hid hw2
            have HAb := Lib.hid hab
            rw [hw2] at t9
            clear hv hal hw2 hab hS1
            go_wp2_with fail
            rw [← HW2.out, ← HAb.out]
            refine HPu.out.mono ?_
            rintro e w3 ⟨pa, pc, rfl, hpo, hb3⟩
            obtain ⟨w4, hw4⟩ : ∃ w4, w4 = w3.alloc (.cells #[.slice x n c', .slice (some ⟨ab, 0, none⟩) 1 1, .slice pa (vl m).length pc] 22) := ⟨_, rfl⟩
            have hb13 : Below wa.heap.size wa w3 := HAl.out.trans (hb3.mono HAl.out.size)
            have hal4 : Below w3.heap.size w3 w4 := by rw [hw4]; exact (Below.refl _ _).alloc (Nat.le_refl _) _
            have HJ : Hid (Calls Try.prog 13 #[.slice (some ⟨w3.heap.size, 0, none⟩) 3 3] w4 (RetB w4 (segA a ++ segB (m : Int)))) := Lib.hid (by
              rw [hw4]
              have := join_any (w3.alloc (.cells #[.slice x n c', .slice (some ⟨ab, 0, none⟩) 1 1, .slice pa (vl m).length pc] 22)) (ps := [⟨x, n, c', (segA a)⟩, ⟨some ⟨ab, 0, none⟩, 1, 1, [UInt8.ofNat 7]⟩, ⟨pa, (vl m).length, pc, vl m⟩]) sl_three (by
                intro q hq
                rw [← hw4]
                simp only [List.mem_cons, List.not_mem_nil, or_false] at hq
                rcases hq with rfl | rfl | rfl
                · exact (own_sl (own_below HO.out hb13)).below hal4
                · exact (HS1.out.below hb3).below hal4
                · exact (own_sl hpo).below hal4) (by
                have h1 := vl_length m
                have h2 := (szN_pos m).2
                simp [joined] at hlen ⊢; omega)
              have e : joined [⟨x, n, c', (segA a)⟩, ⟨some ⟨ab, 0, none⟩, 1, 1, [UInt8.ofNat 7]⟩, ⟨pa, (vl m).length, pc, vl m⟩] = (segA a ++ segB (m : Int)) := by
                rw [HEq.out]
                have e1 : vl 7 = [UInt8.ofNat 7] := by decide
                simp [joined, seg, e1]
              rwa [e] at this)
            have HT4 := Lib.hid ((HT2.out.kept (Kept.of_below (X := none') hb3) (fun h => h)).kept (Kept.of_below (X := none') hal4) (fun h => h))
            have HB4 := Lib.hid ((HB.out.trans (hb13.mono HB.out.size)).trans (hal4.mono (by have := HB.out.size; have := hb13.size; omega)))
            have HW4 := Lib.hid hw4
            clear hpo hb3 hb13 hal4 hw4 t1 t9 hlen
            go_wp2_with fail
            rw [← HW4.out]
            refine HJ.out.mono ?_
            rintro e w5 ⟨ja, jc, rfl, hjo, hb5⟩
            have HT5 := Lib.hid (HT4.out.kept (Kept.of_below (X := none') hb5) (fun h => h))
            have HB5 := Lib.hid (HB4.out.trans (hb5.mono HB4.out.size))
            have hjo2 := own_mono hjo HB4.out.size
            obtain ⟨q, hq⟩ : ∃ q, q = ((segA a ++ segB (m : Int))).length := ⟨_, rfl⟩
            rw [← hq] at hjo2 ⊢
            have HQ := Lib.hid hq
            have HJo := Lib.hid hjo2
            clear hq hjo hjo2 hb5
            go_wp2_with fail
            go_meet
            case rel => exact ⟨ja, q, jc, rfl, HQ.out, HJo.out, HT5.out, HB5.out⟩
        case rest =>
          clear HO HN
          obtain ⟨x, n, c', rfl, hn, ho, hT, hB⟩ := hcut
          have HN := Lib.hid hn
          have HO := Lib.hid ho
          have HT := Lib.hid hT
          have HB := Lib.hid hB
          clear hn ho hT hB t1
          obtain ⟨wa, hwa⟩ : ∃ wa, wa = wc := ⟨_, rfl⟩
          rw [← hwa] at HT HB HO ⊢
          clear hwa
          have t2 := HT.out.cell 2 rfl
          go_upto_if 55 with fail
          go_cut [4] (fun v wc => HoldS w sb 48 a b c (segA a ++ segB b ++ segC c) v wc)
          case first =>
            by_cases hv : c = -1
            · have hvb : (c == -1) = true := by rw [hv]; rfl
              have HEq : Hid (segA a ++ segB b ++ segC c = segA a ++ segB b) := Lib.hid (by simp [segC, hv])
              clear hv
              go_wp2_with fail
              go_meet
              case rel => exact ⟨x, n, c', rfl, by rw [HEq.out]; exact HN.out, by rw [HEq.out]; exact HO.out, HT.out, HB.out⟩
            · have hvb : (c == -1) = false := by rw [beq_eq_false_iff_ne]; exact hv
              have HEq : Hid (segA a ++ segB b ++ segC c = segA a ++ segB b ++ seg 6 c) := Lib.hid (by simp [segC, hv])
              have hlen : (segA a ++ segB b).length ≤ 32 := by
                rw [List.length_append]; have h3 := segA_len a; have h4 := segB_len b; omega
              obtain ⟨m, rfl⟩ := Int.eq_ofNat_of_zero_le (show 0 ≤ c by omega)
              obtain ⟨w2, hw2⟩ : ∃ w2, w2 = wa.alloc (.cells #[.int .u8 6] 5) := ⟨_, rfl⟩
              have hal : Below wa.heap.size wa w2 := by rw [hw2]; exact (Below.refl _ _).alloc (Nat.le_refl _) _
              have HT2 := HT.out.kept (Kept.of_below (X := none') hal) (fun h => h)
              have t9 := HT2.cell 2 rfl
              obtain ⟨ab, hab⟩ : ∃ ab, ab = wa.heap.size := ⟨_, rfl⟩
              have hS1 : Sl w2 (some ⟨ab, 0, none⟩) 1 1 (bv [UInt8.ofNat 6]) := by rw [hw2, hab]; exact sl_one
              have HPu := Lib.hid (refput_any w2 m (by omega))
              have HAl := Lib.hid hal
              have HS1 := Lib.hid hS1
              have HT2 := Lib.hid HT2
              have HW2 := Lib.hid hw2
              have HAb := Lib.hid hab
              rw [hw2] at t9
              clear hv hal hw2 hab hS1
              go_wp2_with fail
              rw [← HW2.out, ← HAb.out]
              refine HPu.out.mono ?_
              rintro e w3 ⟨pa, pc, rfl, hpo, hb3⟩
              obtain ⟨w4, hw4⟩ : ∃ w4, w4 = w3.alloc (.cells #[.slice x n c', .slice (some ⟨ab, 0, none⟩) 1 1, .slice pa (vl m).length pc] 22) := ⟨_, rfl⟩
              have hb13 : Below wa.heap.size wa w3 := HAl.out.trans (hb3.mono HAl.out.size)
              have hal4 : Below w3.heap.size w3 w4 := by rw [hw4]; exact (Below.refl _ _).alloc (Nat.le_refl _) _
              have HJ : Hid (Calls Try.prog 13 #[.slice (some ⟨w3.heap.size, 0, none⟩) 3 3] w4 (RetB w4 (segA a ++ segB b ++ segC (m : Int)))) := Lib.hid (by
                rw [hw4]
                have := join_any (w3.alloc (.cells #[.slice x n c', .slice (some ⟨ab, 0, none⟩) 1 1, .slice pa (vl m).length pc] 22)) (ps := [⟨x, n, c', (segA a ++ segB b)⟩, ⟨some ⟨ab, 0, none⟩, 1, 1, [UInt8.ofNat 6]⟩, ⟨pa, (vl m).length, pc, vl m⟩]) sl_three (by
                  intro q hq
                  rw [← hw4]
                  simp only [List.mem_cons, List.not_mem_nil, or_false] at hq
                  rcases hq with rfl | rfl | rfl
                  · exact (own_sl (own_below HO.out hb13)).below hal4
                  · exact (HS1.out.below hb3).below hal4
                  · exact (own_sl hpo).below hal4) (by
                  have h1 := vl_length m
                  have h2 := (szN_pos m).2
                  simp [joined] at hlen ⊢; omega)
                have e : joined [⟨x, n, c', (segA a ++ segB b)⟩, ⟨some ⟨ab, 0, none⟩, 1, 1, [UInt8.ofNat 6]⟩, ⟨pa, (vl m).length, pc, vl m⟩] = (segA a ++ segB b ++ segC (m : Int)) := by
                  rw [HEq.out]
                  have e1 : vl 6 = [UInt8.ofNat 6] := by decide
                  simp [joined, seg, e1]
                rwa [e] at this)
              have HT4 := Lib.hid ((HT2.out.kept (Kept.of_below (X := none') hb3) (fun h => h)).kept (Kept.of_below (X := none') hal4) (fun h => h))
              have HB4 := Lib.hid ((HB.out.trans (hb13.mono HB.out.size)).trans (hal4.mono (by have := HB.out.size; have := hb13.size; omega)))
              have HW4 := Lib.hid hw4
              clear hpo hb3 hb13 hal4 hw4 t2 t9 hlen
              go_wp2_with fail
              rw [← HW4.out]
              refine HJ.out.mono ?_
              rintro e w5 ⟨ja, jc, rfl, hjo, hb5⟩
              have HT5 := Lib.hid (HT4.out.kept (Kept.of_below (X := none') hb5) (fun h => h))
              have HB5 := Lib.hid (HB4.out.trans (hb5.mono HB4.out.size))
              have hjo2 := own_mono hjo HB4.out.size
              obtain ⟨q, hq⟩ : ∃ q, q = ((segA a ++ segB b ++ segC (m : Int))).length := ⟨_, rfl⟩
              rw [← hq] at hjo2 ⊢
              have HQ := Lib.hid hq
              have HJo := Lib.hid hjo2
              clear hq hjo hjo2 hb5
              go_wp2_with fail
              go_meet
              case rel => exact ⟨ja, q, jc, rfl, HQ.out, HJo.out, HT5.out, HB5.out⟩
          case rest =>
            clear HO HN
            obtain ⟨x, n, c', rfl, hn, ho, hT, hB⟩ := hcut
            have hfr := refframe_any wc 4 (own_sl ho) (by have h1 := segA_len a; have h2 := segB_len b; have h3 := segC_len c; simp only [List.length_append]; omega)
            rw [List.append_assoc] at hfr
            have HF := Lib.hid hfr
            clear hfr
            have hz := hB.size
            have HB := Lib.hid hB
            clear ho hT t2 hn hB
            go_wp2_with fail
            refine HF.out.mono ?_
            rintro e w5 ⟨fa, fc, rfl, hfo, hb5⟩
            have hb55 := HB.out.trans (hb5.mono HB.out.size)
            go_wp2
            go_ret2
            exact RetBE.mk rfl (by rw [HE.out]) (own_mono hfo hz) (by rw [HE.out]) hb55
    · have HE : Hid (stB a b c = ([], 10)) := Lib.hid (by unfold stB; rw [hbad]; rfl)
      clear hbad
      go_wp2
      go_ret2
      rw [HE.out]
      exact RetBE.none' rfl hbw
end Go.Proofs.Ytbplmnmkgkgkhaa

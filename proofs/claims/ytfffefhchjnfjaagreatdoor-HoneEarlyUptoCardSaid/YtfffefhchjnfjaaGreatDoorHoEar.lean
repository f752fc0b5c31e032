/- HoneEarly answers true. Premises: the library's variables, the sizes. -/
import Derived.Test.YtfffefhchjnfjaaGreatDoorHoSay
import Derived.Test.YtfffefhchjnfjaaGreatDoorHoRep
import Derived.Test.YtfffefhchjnfjaaGreatDoorHoDig
import Derived.Test.YtfffefhchjnfjaaGreatDoorNmRef
namespace Go.Proofs.YtfffefhchjnfjaaGreatDoor
open Go.RowKit

theorem erj1 {m k : Nat} (h1 : 1 ≤ k) (h2 : k ≤ m) (h3 : m ≤ 1000000) : IntKind.i64.wrap ((m : Int) - (k : Int)) = ((m - k : Nat) : Int) ∧ RowKit.wrap64 ((m : Int) - (k : Int)) = ((m - k : Nat) : Int) ∧ ((m : Int) < (k : Int)) = False ∧ (((m - k : Nat) : Int) ≤ (m : Int)) = True ∧ ((0 : Int) ≤ ((m - k : Nat) : Int)) = True := by
  refine ⟨by rw [IntKind.wrap_i64]; omega, by unfold RowKit.wrap64; omega, eq_false (by omega), eq_true (by omega), eq_true (by omega)⟩
theorem erj2 {dn bn : Nat} (h : dn ≤ 5) (h2 : bn ≤ 16384) : ¬ 9223372036854775807 < 16 + dn ∧ ¬ 9223372036854775807 < 16 + dn + 4 ∧ ¬ 9223372036854775807 < 16 + dn + 4 + bn ∧ ¬ 9223372036854775807 < 17 + (16 + dn + 4 + bn) := by omega
theorem erj3 {cl : Nat} (h : cl ≤ 20000) : ¬ 9223372036854775807 < 30 + cl ∧ ¬ 9223372036854775807 < 30 + cl + 5 ∧ ¬ 9223372036854775807 < 17 + (30 + cl + 5) := by omega
theorem lenT_len {b : List UInt8} (h : b.length ≤ 16384) : (lenT b).length ≤ 1000000 := by
  have hl : (Lib.decDigits b.length).length ≤ 5 := dec_lt 4 _ (by omega)
  simp [lenT, linesE, lenLn, lenP, okL]; omega
theorem chunkT_len {b : List UInt8} (h : b.length ≤ 16384) : (chunkT b).length ≤ 1000000 := by
  have hl := (hexL_props h).2.1
  simp only [chunkT, linesE, chkT, chkLn, okL, List.length_append, List.length_cons, List.length_nil]; omega
theorem lenT_str (b : List UInt8) : strB [72, 84, 84, 80, 47, 49, 46, 49, 32, 50, 48, 48, 32, 79, 75, 13, 10] ++ (strB [67, 111, 110, 116, 101, 110, 116, 45, 76, 101, 110, 103, 116, 104, 58, 32] ++ strB (Lib.decDigits b.length) ++ strB [13, 10, 13, 10] ++ strB b) = strB (lenT b) := by
  simp only [strB_append]
  congr 1
  simp [lenT, linesE, lenLn, lenP, okL]
theorem chunkT_str (b : List UInt8) : strB [72, 84, 84, 80, 47, 49, 46, 49, 32, 50, 48, 48, 32, 79, 75, 13, 10] ++ (strB [84, 114, 97, 110, 115, 102, 101, 114, 45, 69, 110, 99, 111, 100, 105, 110, 103, 58, 32, 99, 104, 117, 110, 107, 101, 100, 13, 10, 13, 10] ++ strB (hexL b.length ++ ([13, 10] ++ (b ++ [13, 10]))) ++ strB (lastL [])) = strB (chunkT b) := by
  simp only [strB_append]
  congr 1 <;> simp [chunkT, linesE, chkT, chkLn, okL, lastL, linesL]
theorem early_cut {b T : List UInt8} {n : Nat} (h0 : b ≠ []) (hb : b.length ≤ 16384) (hT : T = lenT b ∨ T = chunkT b) (hk : n < T.length) :
    (allV false (T.take n) [] true).1.fault = 204 ∧ (allV false (T.take n) [] true).1.done = false ∧ (allV false (T.take n) [] false).1.fault = 0 ∧ (allV false (T.take n) [] false).1.done = false := by
  refine early_plain (p := T.take n) (q := T.drop n) h0 hb (fun h => ?_) ?_
  · have := congrArg List.length h
    rw [List.length_drop] at this
    simp at this; omega
  · rw [List.take_append_drop]; exact hT
set_option maxRecDepth 100000 in
set_option maxHeartbeats 8000000 in
theorem early_any (w : World) (ht : Tab w) (st fr cut : Int) {fa : Option Addr} {fn fc : Nat} {fs : List Fd} {ba : Option Addr} {bn bc : Nat} {b : List UInt8} {ca : Option Addr} {cn cc : Nat} {zs : List Int} {ta : Option Addr} {tn tc : Nat} {ts : List Fd} {ha : Option Addr} {hn hc : Nat} {h : List UInt8} (hr : RepAt w fa fn fc fs ba bn bc b ca cn cc zs ta tn tc ts ha hn hc h) :
    Calls Tryz.prog 3 #[.agg #[.int .i64 st, .slice fa fn fc, .slice ba bn bc, .int .i64 fr, .slice ca cn cc, .slice ta tn tc, .slice ha hn hc], .int .i64 cut] w (BoolOf w true) := by
  obtain ⟨w1, hw1⟩ : ∃ w1, w1 = w.alloc (.cells #[.int .i64 st, .slice fa fn fc, .slice ba bn bc, .int .i64 fr, .slice ca cn cc, .slice ta tn tc, .slice ha hn hc] 26) := ⟨_, rfl⟩
  obtain ⟨g1, hg1⟩ : ∃ g1, g1 = w.heap.size := ⟨_, rfl⟩
  have hh1 : Has w1 g1 26 [.int .i64 st, .slice fa fn fc, .slice ba bn bc, .int .i64 fr, .slice ca cn cc, .slice ta tn tc, .slice ha hn hc] := by rw [hw1, hg1]; exact Has.new w 26 _
  have hb1 : Below w.heap.size w w1 := by rw [hw1]; exact (Below.refl _ w).alloc (Nat.le_refl _) _
  have HB1 := Lib.hid hb1
  have HB := Lib.hid (hr.sb.below hb1)
  have hbl : b.length = bn := hr.sb.byte
  have HBl := Lib.hid hbl
  have HT := Lib.hid ht
  have HAw : Hid (∀ w', Below w.heap.size w w' → Calls Tryz.prog 7 #[] w' (BoolOf w true)) := Lib.hid (fun w' (hb : Below w.heap.size w w') => (awake20_any w' (HT.out.below hb)).mono (by
    rintro e w7 ⟨h1, h2⟩
    exact ⟨h1, hb.trans (h2.mono hb.size)⟩))
  have p2 := hh1.cell 2 rfl
  have p3 := hh1.cell 3 rfl
  have HH1 := Lib.hid hh1
  clear hr ht hh1 hb1
  by_cases hfr : fr ≠ 1 ∧ fr ≠ 2
  · obtain ⟨y1, y2⟩ := hfr
    clear hbl HBl HB HT HH1
    go_enter Tryz.func3, Tryz.ntmps3
    go_upto_region 1 with fail
    rw [← hw1, ← hg1]
    clear hw1 hg1
    go_wp2_with fail
    refine (HAw.out w1 HB1.out).mono ?_
    rintro e w7 ⟨rfl, hb7⟩
    have HB7 := Lib.hid hb7
    clear hb7
    go_wp2
    go_ret
    exact ⟨ret_bool (by simp), HB7.out⟩
  have HFr : Hid (fr = 1 ∨ fr = 2) := Lib.hid (by
    rcases Classical.em (fr = 1) with h | h
    · exact .inl h
    · rcases Classical.em (fr = 2) with h2 | h2
      · exact .inr h2
      · exact absurd ⟨h, h2⟩ hfr)
  clear hfr
  by_cases hbn : bn = 0
  · subst hbn
    clear hbl HBl HB HT HH1
    rcases HFr.out with rfl | rfl
    · go_enter Tryz.func3, Tryz.ntmps3
      go_upto_region 1 with fail
      rw [← hw1, ← hg1]
      clear hw1 hg1
      go_wp2_with fail
      refine (HAw.out w1 HB1.out).mono ?_
      rintro e w7 ⟨rfl, hb7⟩
      have HB7 := Lib.hid hb7
      clear hb7
      go_wp2
      go_ret
      exact ⟨ret_bool (by simp), HB7.out⟩
    · go_enter Tryz.func3, Tryz.ntmps3
      go_upto_region 1 with fail
      rw [← hw1, ← hg1]
      clear hw1 hg1
      go_wp2_with fail
      refine (HAw.out w1 HB1.out).mono ?_
      rintro e w7 ⟨rfl, hb7⟩
      have HB7 := Lib.hid hb7
      clear hb7
      go_wp2
      go_ret
      exact ⟨ret_bool (by simp), HB7.out⟩
  by_cases hbig : 16384 < bn
  · have y1 : ((16384 : Int) < (bn : Int)) = True := eq_true (by omega)
    have y2 : ((bn : Int) == 0) = false := by simpa using hbn
    have y3 : ¬ (bn : Int) = 0 := by omega
    clear hbl HBl HB HT HH1 hbn hbig
    rcases HFr.out with rfl | rfl
    · go_enter Tryz.func3, Tryz.ntmps3
      go_upto_region 1 with fail
      rw [← hw1, ← hg1]
      clear hw1 hg1
      go_wp2_with fail
      refine (HAw.out w1 HB1.out).mono ?_
      rintro e w7 ⟨rfl, hb7⟩
      have HB7 := Lib.hid hb7
      clear hb7
      go_wp2
      go_ret
      exact ⟨ret_bool (by simp), HB7.out⟩
    · go_enter Tryz.func3, Tryz.ntmps3
      go_upto_region 1 with fail
      rw [← hw1, ← hg1]
      clear hw1 hg1
      go_wp2_with fail
      refine (HAw.out w1 HB1.out).mono ?_
      rintro e w7 ⟨rfl, hb7⟩
      have HB7 := Lib.hid hb7
      clear hb7
      go_wp2
      go_ret
      exact ⟨ret_bool (by simp), HB7.out⟩
  have y1 : ((16384 : Int) < (bn : Int)) = False := eq_false (by omega)
  have y2 : ((bn : Int) == 0) = false := by simpa using hbn
  have y3 : ¬ (bn : Int) = 0 := by omega
  by_cases hcut : cut < 1
  · have y4 : (cut < 1) = True := eq_true hcut
    clear hbl HBl HB HT HH1 hbn hbig hcut
    rcases HFr.out with rfl | rfl
    · go_enter Tryz.func3, Tryz.ntmps3
      go_upto_region 1 with fail
      rw [← hw1, ← hg1]
      clear hw1 hg1
      go_wp2_with fail
      refine (HAw.out w1 HB1.out).mono ?_
      rintro e w7 ⟨rfl, hb7⟩
      have HB7 := Lib.hid hb7
      clear hb7
      go_wp2
      go_ret
      exact ⟨ret_bool (by simp), HB7.out⟩
    · go_enter Tryz.func3, Tryz.ntmps3
      go_upto_region 1 with fail
      rw [← hw1, ← hg1]
      clear hw1 hg1
      go_wp2_with fail
      refine (HAw.out w1 HB1.out).mono ?_
      rintro e w7 ⟨rfl, hb7⟩
      have HB7 := Lib.hid hb7
      clear hb7
      go_wp2
      go_ret
      exact ⟨ret_bool (by simp), HB7.out⟩
  have y4 : (cut < 1) = False := eq_false hcut
  obtain ⟨k, rfl⟩ : ∃ k : Nat, cut = (k : Int) := ⟨cut.toNat, by omega⟩
  have HK : Hid (1 ≤ k) := Lib.hid (by omega)
  have HBig : Hid (bn ≤ 16384) := Lib.hid (by omega)
  have HBne : Hid (b ≠ []) := Lib.hid (by intro h; rw [h] at hbl; exact hbn (by rw [← hbl]; rfl))
  have HDg := Lib.hid (fun w' => digits_any w' bn (by omega))
  have HCk := Lib.hid (fun w' (hb : Below w1.heap.size w1 w') => rchunk_any w' (HB.out.below hb))
  have HEx : Hid (lenT b = lenT b ∧ chunkL b = (hexL bn ++ ([13, 10] ++ (b ++ [13, 10])), 0)) := Lib.hid ⟨rfl, by unfold chunkL; rw [if_neg (by omega), if_neg (by omega), hbl]⟩
  have HLs := Lib.hid (fun w' => rlast_any w' (a := none) (n := 0) (c := 0) (l := []) (sls_nil w' none) (by decide))
  obtain ⟨T, hT⟩ : ∃ T, T = if fr = 1 then lenT b else chunkT b := ⟨_, rfl⟩
  have hT2 : T = lenT b ∨ T = chunkT b := by rw [hT]; split <;> simp
  have hTl : T.length ≤ 1000000 := by
    rcases hT2 with h | h
    · rw [h]; exact lenT_len (by omega)
    · rw [h]; exact chunkT_len (by omega)
  have HEr := Lib.hid (fun n => early_cut (n := n) HBne.out (by omega) hT2)
  have HT1 := Lib.hid hT
  have HTl := Lib.hid hTl
  clear hbn hbig hcut hbl hT hT2 hTl
  go_enter Tryz.func3, Tryz.ntmps3
  go_upto_region 1 with fail
  rw [← hw1, ← hg1]
  clear hw1 hg1
  go_cut [34] (fun v wc => v = .bool false ∧ wc = w1)
  case first =>
    rcases HFr.out with rfl | rfl
    · go_wp2_with fail
      go_meet
      case rel => exact ⟨rfl, rfl⟩
    · go_wp2_with fail
      go_meet
      case rel => exact ⟨rfl, rfl⟩
  case rest =>
  obtain ⟨rfl, hwe⟩ := hcut
  obtain rfl : w1 = wc := hwe.symm
  go_upto_region 4 with fail
  go_upto_if 38 with fail
  go_cut [5] (fun v wc => v = .string (strB T) ∧ Below w.heap.size w wc)
  case first =>
    rcases HFr.out with rfl | rfl
    · have HTe : Hid (T = lenT b) := Lib.hid (by rw [HT1.out, if_pos rfl])
      have HBd : Hid (Below w.heap.size w w1.drew) := Lib.hid (HB1.out.trans ⟨rfl, rfl, rfl, Nat.le_refl _, fun _ _ => rfl⟩)
      have HS1 : Hid (Has w1.drew g1 26 [.int .i64 st, .slice fa fn fc, .slice ba bn bc, .int .i64 1, .slice ca cn cc, .slice ta tn tc, .slice ha hn hc] ∧ Sl w1.drew ba bn bc (bv b)) := Lib.hid ⟨HH1.out.kept (Kept.drew none' w1) (fun h => h), HB.out.below ⟨rfl, rfl, rfl, Nat.le_refl _, fun _ _ => rfl⟩⟩
      have s2 : (strB b).size = bn := by rw [strB_size]; exact HBl.out
      obtain ⟨dn, hdn⟩ : ∃ dn, dn = (Lib.decDigits bn).length := ⟨_, rfl⟩
      have s3 : (strB (Lib.decDigits bn)).size = dn := by rw [strB_size, hdn]
      obtain ⟨u1, u2, u3, u4⟩ := erj2 (dn := dn) (bn := bn) (by rw [hdn]; exact dec_lt 4 _ (by have := HBig.out; omega)) HBig.out
      clear hdn
      go_upto_region 5 with fail
      refine Mx.region [] (fun w' => Has w' g1 26 [.int .i64 st, .slice fa fn fc, .slice ba bn bc, .int .i64 1, .slice ca cn cc, .slice ta tn tc, .slice ha hn hc] ∧ Sl w' ba bn bc (bv b)) (by kernel_rfl) (by kernel_rfl) HS1.out ?_
      repeat ((first | (refine Mx.skips (by kernel_rfl) ?_; go_big_quiet_skip) | (refine Mx.quietly rfl ?_; go_big_quiet_want; go_big_quiet_op; go_big_quiet_on)); refine Mx.done ?_)
      refine Mx.cell ⟨g1, 2, none⟩ (.slice ba bn bc) (by kernel_rfl) (by kernel_rfl) (by kernel_rfl) Tryz.isAgg23 (fun w' h => h.1.cell 2 rfl) ?_
      go_big_quiet_want; go_big_quiet_op; go_big_quiet_on; refine Mx.done ?_
      repeat ((first | (refine Mx.skips (by kernel_rfl) ?_; go_big_quiet_skip) | (refine Mx.quietly rfl ?_; go_big_quiet_want; go_big_quiet_op; go_big_quiet_on)); refine Mx.done ?_)
      refine Mx.loudly (by kernel_rfl) (by kernel_rfl) ?_
      go_wp2_with fail
      refine (HDg.out w1.drew).mono ?_
      rintro e w2 ⟨rfl, hb2⟩
      have HB2 : Hid (Below w.heap.size w w2) := Lib.hid (HBd.out.trans (hb2.mono HBd.out.size))
      have HS2 : Hid (Has w2 g1 26 [.int .i64 st, .slice fa fn fc, .slice ba bn bc, .int .i64 1, .slice ca cn cc, .slice ta tn tc, .slice ha hn hc] ∧ Sl w2 ba bn bc (bv b)) := Lib.hid ⟨HS1.out.1.kept (Kept.of_below (X := none') hb2) (fun h => h), HS1.out.2.below hb2⟩
      clear hb2
      go_wp2_with fail
      refine ⟨HS2.out, ?_⟩
      repeat ((first | (refine Mx.skips (by kernel_rfl) ?_; go_big_quiet_skip) | (refine Mx.quietly rfl ?_; go_big_quiet_want; go_big_quiet_op; go_big_quiet_on)); refine Mx.done ?_)
      refine Mx.cell ⟨g1, 2, none⟩ (.slice ba bn bc) (by kernel_rfl) (by kernel_rfl) (by kernel_rfl) Tryz.isAgg23 (fun w' h => h.1.cell 2 rfl) ?_
      go_big_quiet_want; go_big_quiet_op; go_big_quiet_on; refine Mx.done ?_
      repeat ((first | (refine Mx.skips (by kernel_rfl) ?_; go_big_quiet_skip) | (refine Mx.quietly rfl ?_; go_big_quiet_want; go_big_quiet_op; go_big_quiet_on)); refine Mx.done ?_)
      refine Mx.conv (.string (strB b)) (by kernel_rfl) (by kernel_rfl) (by kernel_rfl) (fun w' h => run_str (P := Tryz.prog) h.2 23 5 9 Tryz.underlying23 Tryz.underlying5 Tryz.underlying9) ?_
      go_big_quiet_want; go_big_quiet_op; go_big_quiet_on; refine Mx.done ?_
      repeat ((first | (refine Mx.skips (by kernel_rfl) ?_; go_big_quiet_skip) | (refine Mx.quietly rfl ?_; go_big_quiet_want; go_big_quiet_op; go_big_quiet_on)); refine Mx.done ?_)
      refine Mx.nil ?_
      go_wp2_with fail
      go_meet
      case rel =>
        refine ⟨congrArg Value.string ?_, HB2.out⟩
        rw [HTe.out, ← lenT_str b, HBl.out]
        rfl
    · have HTe : Hid (T = chunkT b) := Lib.hid (by rw [HT1.out, if_neg (by decide)])
      obtain ⟨C, hC⟩ : ∃ C, C = hexL bn ++ ([13, 10] ++ (b ++ [13, 10])) := ⟨_, rfl⟩
      have hck := HCk.out w1 (Below.refl _ _)
      rw [HEx.out.2, ← hC] at hck
      have HCk2 := Lib.hid hck
      obtain ⟨cl, hcl⟩ : ∃ cl, cl = C.length := ⟨_, rfl⟩
      have s3 : (strB C).size = cl := by rw [strB_size, hcl]
      have s4 : (strB (lastL [])).size = 5 := rfl
      obtain ⟨u1, u2, u3⟩ := erj3 (cl := cl) (by
        have h4 := (hexL_props HBig.out).2.1
        have := HBig.out
        have := HBl.out
        rw [hcl, hC]
        simp only [List.length_append, List.length_cons, List.length_nil]
        omega)
      have HC := Lib.hid hC
      clear hck hcl hC
      go_wp2_with fail
      refine HCk2.out.mono ?_
      rintro e w2 ⟨rfl, hb2⟩
      have HB2 : Hid (Below w.heap.size w w2) := Lib.hid (HB1.out.trans (hb2.mono HB1.out.size))
      have HL2 := Lib.hid (HLs.out w2)
      clear hb2
      go_wp2_with fail
      refine HL2.out.mono ?_
      rintro e w3 ⟨rfl, hb3⟩
      have HB3 : Hid (Below w.heap.size w w3) := Lib.hid (HB2.out.trans (hb3.mono HB2.out.size))
      clear hb3
      go_wp2_with fail
      go_meet
      case rel =>
        refine ⟨congrArg Value.string ?_, HB3.out⟩
        rw [HTe.out, ← chunkT_str b, HBl.out, ← HC.out]
        rfl
  case rest =>
    obtain ⟨rfl, hbc⟩ := hcut
    have HBc := Lib.hid hbc
    clear hbc
    obtain ⟨m, hm⟩ : ∃ m, m = T.length := ⟨_, rfl⟩
    have s1 : (strB T).size = m := by rw [strB_size, hm]
    have HM : Hid (m = T.length ∧ m ≤ 1000000) := Lib.hid ⟨hm, by rw [hm]; exact HTl.out⟩
    clear hm
    by_cases hcm : m < k
    · have y5 : ((m : Int) < (k : Int)) = True := eq_true (by omega)
      have HAc := Lib.hid (HAw.out wc HBc.out)
      clear hcm
      go_wp2_with fail
      refine HAc.out.mono ?_
      rintro e w7 ⟨rfl, hb7⟩
      have HB7 := Lib.hid hb7
      clear hb7
      go_wp2
      go_ret
      exact ⟨ret_bool (by simp), HB7.out⟩
    obtain ⟨z1, z2, z3, z4, z5⟩ := erj1 HK.out (by omega : k ≤ m) HM.out.2
    obtain ⟨mk, hmk⟩ : ∃ mk, mk = m - k := ⟨_, rfl⟩
    have HMk : Hid (mk < T.length ∧ mk ≤ m) := Lib.hid (by have := HK.out; have := HM.out; omega)
    rw [← hmk] at z1 z2 z4 z5
    obtain ⟨e1, e2, e3, e4⟩ := HEr.out mk HMk.out.1
    obtain ⟨Q, hQ⟩ : ∃ Q, Q = T.take mk := ⟨_, rfl⟩
    have x1 : (strB T).extract 0 mk = strB Q := by rw [strB_md, hQ]; simp
    have HQl : Hid (Q.length ≤ 1000000) := Lib.hid (by rw [hQ, List.length_take]; have := HTl.out; omega)
    rw [← hQ] at e1 e2 e3 e4
    have HE := Lib.hid (And.intro e1 (And.intro e2 (And.intro e3 e4)))
    clear e1 e2 e3 e4 hQ hmk hcm
    have hcvs := fun w' => conv_bts2 w' Q (by have := HQl.out; unfold maxLen; omega)
    obtain ⟨c1, w2, hcv, hbt, ⟨hc1, hc2⟩, hb2⟩ := hcvs wc
    obtain ⟨g2, hg2⟩ : ∃ g2, g2 = wc.heap.size := ⟨_, rfl⟩
    rw [← hg2] at hcv hbt
    have HSl2 := Lib.hid (bts_sl hbt c1 hc1 hc2)
    have HB2 : Hid (Below w.heap.size w w2) := Lib.hid (HBc.out.trans (hb2.mono HBc.out.size))
    have HCv := Lib.hid hcvs
    have HA1 := Lib.hid (all_any w2 (HT.out.below HB2.out) false HSl2.out (by have := HQl.out; omega) (cuts := []) (ca := none) (cn := 0) (cc := 0) (Sl.empty w2) true)
    clear hbt hc1 hc2 hb2 hcvs hg2
    go_wp2_with fail
    refine HA1.out.mono ?_
    rintro e w3 ⟨x1', rfl, hb3, hok3, hf3, hd3, hl3⟩
    rw [HE.out.1] at hf3
    rw [HE.out.2.1] at hd3
    obtain ⟨w4, hw4⟩ : ∃ w4, w4 = w3.alloc (.cells #[.int .i64 x1'.k, .int .i64 x1'.st, .slice x1'.fa x1'.fn x1'.fc, .int .i64 x1'.fr, .slice none 0 0, .slice x1'.ba x1'.bn x1'.bc, .slice x1'.ta x1'.tn x1'.tc, .int .i64 x1'.ft, .bool x1'.dn, .int .i64 x1'.lf] 35) := ⟨_, rfl⟩
    obtain ⟨g4, hg4⟩ : ∃ g4, g4 = w3.heap.size := ⟨_, rfl⟩
    have hb4 : Below w3.heap.size w3 w4 := by rw [hw4]; exact (Below.refl _ w3).alloc (Nat.le_refl _) _
    have hh4 : Has w4 g4 35 x1'.cs := by rw [hw4, hg4]; exact Has.new w3 35 _
    have HB4 : Hid (Below w.heap.size w w4) := Lib.hid ((HB2.out.trans (hb3.mono HB2.out.size)).trans (hb4.mono (HB2.out.trans (hb3.mono HB2.out.size)).size))
    have p7 : w4.cell? ⟨g4, 7, none⟩ = some (.int .i64 204) := by rw [← hf3]; exact hh4.cell 7 rfl
    have p8 : w4.cell? ⟨g4, 8, none⟩ = some (.bool false) := by rw [← hd3]; exact hh4.cell 8 rfl
    clear hb3 hok3 hf3 hd3 hl3 hb4 HA1 hcv hh4
    simp only [Xr.cs]
    go_upto_region 11 with fail
    rw [← hw4, ← hg4]
    clear hw4 hg4
    obtain ⟨c5, w5, hcv, hbt, ⟨hc1, hc2⟩, hb5⟩ := HCv.out w4
    obtain ⟨g5, hg5⟩ : ∃ g5, g5 = w4.heap.size := ⟨_, rfl⟩
    rw [← hg5] at hcv hbt
    have HSl5 := Lib.hid (bts_sl hbt c5 hc1 hc2)
    have HB5 : Hid (Below w.heap.size w w5) := Lib.hid (HB4.out.trans (hb5.mono HB4.out.size))
    have HA2 := Lib.hid (all_any w5 (HT.out.below HB5.out) false HSl5.out (by have := HQl.out; omega) (cuts := []) (ca := none) (cn := 0) (cc := 0) (Sl.empty w5) false)
    clear hbt hc1 hc2 hb5 hg5
    go_wp2_with fail
    refine HA2.out.mono ?_
    rintro e w6 ⟨x2, rfl, hb6, hok6, hf6, hd6, hl6⟩
    rw [HE.out.2.2.1] at hf6
    rw [HE.out.2.2.2] at hd6
    obtain ⟨w7, hw7⟩ : ∃ w7, w7 = w6.alloc (.cells #[.int .i64 x2.k, .int .i64 x2.st, .slice x2.fa x2.fn x2.fc, .int .i64 x2.fr, .slice none 0 0, .slice x2.ba x2.bn x2.bc, .slice x2.ta x2.tn x2.tc, .int .i64 x2.ft, .bool x2.dn, .int .i64 x2.lf] 35) := ⟨_, rfl⟩
    obtain ⟨g7, hg7⟩ : ∃ g7, g7 = w6.heap.size := ⟨_, rfl⟩
    have hb7 : Below w6.heap.size w6 w7 := by rw [hw7]; exact (Below.refl _ w6).alloc (Nat.le_refl _) _
    have hh7 : Has w7 g7 35 x2.cs := by rw [hw7, hg7]; exact Has.new w6 35 _
    have HB7 : Hid (Below w.heap.size w w7) := Lib.hid ((HB5.out.trans (hb6.mono HB5.out.size)).trans (hb7.mono (HB5.out.trans (hb6.mono HB5.out.size)).size))
    have r7 : w7.cell? ⟨g7, 7, none⟩ = some (.int .i64 0) := by rw [← hf6]; exact hh7.cell 7 rfl
    have r8 : w7.cell? ⟨g7, 8, none⟩ = some (.bool false) := by rw [← hd6]; exact hh7.cell 8 rfl
    have HA7 := Lib.hid (HAw.out w7 HB7.out)
    clear hb6 hok6 hf6 hd6 hl6 hb7 HA2 hcv hh7 p7 p8
    simp only [Xr.cs]
    go_upto_region 14 with fail
    rw [← hw7, ← hg7]
    clear hw7 hg7
    go_wp2_with fail
    refine HA7.out.mono ?_
    rintro e w8 ⟨rfl, hb8⟩
    have HB8 := Lib.hid hb8
    clear hb8
    go_wp2
    go_ret
    exact ⟨ret_bool (by simp), HB8.out⟩
theorem early_go (w : World) (ht : Tab w) (st fr : Int) {fa : Option Addr} {fn fc : Nat} {fs : List Fd} {ba : Option Addr} {bn bc : Nat} {b : List UInt8} {ca : Option Addr} {cn cc : Nat} {zs : List Int} {ta : Option Addr} {tn tc : Nat} {ts : List Fd} {ha : Option Addr} {hn hc : Nat} {h : List UInt8} (hr : RepAt w fa fn fc fs ba bn bc b ca cn cc zs ta tn tc ts ha hn hc h) (cut : Int) (_ : -9223372036854775808 ≤ cut) (_ : cut ≤ 9223372036854775807) :
    Calls Tryz.prog 3 #[.agg #[.int .i64 st, .slice fa fn fc, .slice ba bn bc, .int .i64 fr, .slice ca cn cc, .slice ta tn tc, .slice ha hn hc], .int .i64 cut] w (BoolOf w true) := early_any w ht st fr cut hr
end Go.Proofs.YtfffefhchjnfjaaGreatDoor

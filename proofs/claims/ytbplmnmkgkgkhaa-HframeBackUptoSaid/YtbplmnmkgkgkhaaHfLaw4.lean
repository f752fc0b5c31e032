/- HframeSettles answers true (printed by gen_hflaw4.py). -/
import Derived.Test.YtbplmnmkgkgkhaaHfLaw3
import Derived.Test.YtbplmnmkgkgkhaaHfInv2
import Derived.Test.YtbplmnmkgkgkhaaJoin
namespace Go.Proofs.Ytbplmnmkgkgkhaa
open Go.RowKit

/-- what all answers where two events were told -/
theorem AllE.two {w w' : World} {r : Res} {e : Ending} {x y : Ev} {bd : List UInt8} {z : Int} {d : Bool} (h : AllE w r e w') (h1 : r.out = [x, y]) (h2 : r.body = bd) (h3 : r.z = z) (h4 : r.R.done = d) :
    ∃ s oc ya yc a1 c1 a2 c2, e = .returned (.tuple #[.slice (some ⟨s, 0, none⟩) 2 oc, .slice ya bd.length yc, .int .i64 z, .bool d]) ∧
      (w'.cell? ⟨s, 0, none⟩ = some (.int .i64 x.kind) ∧ w'.cell? ⟨s, 1, none⟩ = some (.slice a1 x.data.length c1) ∧ w'.cell? ⟨s, 2, none⟩ = some (.int .i64 x.cap) ∧ w'.cell? ⟨s, 3, none⟩ = some (.int .i64 x.blk) ∧ w'.cell? ⟨s, 4, none⟩ = some (.int .i64 x.lim) ∧ w'.cell? ⟨s, 5, none⟩ = some (.int .i64 x.id)) ∧
      (w'.cell? ⟨s, 6, none⟩ = some (.int .i64 y.kind) ∧ w'.cell? ⟨s, 7, none⟩ = some (.slice a2 y.data.length c2) ∧ w'.cell? ⟨s, 8, none⟩ = some (.int .i64 y.cap) ∧ w'.cell? ⟨s, 9, none⟩ = some (.int .i64 y.blk) ∧ w'.cell? ⟨s, 10, none⟩ = some (.int .i64 y.lim) ∧ w'.cell? ⟨s, 11, none⟩ = some (.int .i64 y.id)) ∧
      Sl w' a1 x.data.length c1 (bv x.data) ∧ Sl w' a2 y.data.length c2 (bv y.data) ∧ Sl w' ya bd.length yc (bv bd) ∧ 2 ≤ oc ∧ oc ≤ maxLen ∧ Below w.heap.size w w' := by
  obtain ⟨oa, oc, ya, yc, cs, he, ho, hv, hy, hb⟩ := h
  rw [h1] at he ho hv
  rw [h2] at he hy
  rw [h3, h4] at he
  obtain ⟨s, a1, c1, hs, p0, p1, p2, p3, p4, p5, ps, pn, pm⟩ := out_at ho hv rfl (i := 0) (by show 0 < 2; decide)
  obtain ⟨s', a2, c2, hs', q0, q1, q2, q3, q4, q5, qs, _, _⟩ := out_at ho hv rfl (i := 1) (by show 1 < 2; decide)
  rw [hs] at hs' he
  cases hs'
  exact ⟨s, oc, ya, yc, a1, c1, a2, c2, he, ⟨p0, p1, p2, p3, p4, p5⟩, ⟨q0, q1, q2, q3, q4, q5⟩, ps, qs, own_sl hy, pn, pm, hb⟩

set_option maxRecDepth 100000 in
set_option maxHeartbeats 8000000 in
theorem settles_any (W : World) (a b c : Int) (ha : -9223372036854775808 ≤ a ∧ a ≤ 9223372036854775807) (hb : -9223372036854775808 ≤ b ∧ b ≤ 9223372036854775807) (hc : -9223372036854775808 ≤ c ∧ c ≤ 9223372036854775807) (id : Int) (hi1 : -9223372036854775808 ≤ id) (hi2 : id ≤ 9223372036854775807) :
    Calls Try.prog 6 #[.agg #[.int .i64 a, .int .i64 b, .int .i64 c], .int .i64 id] W fun e w' => e = .returned (.bool true) ∧ Below W.heap.size W w' := by
  obtain ⟨w1, hw1⟩ : ∃ w1, w1 = W.alloc (.cells #[.int .i64 a, .int .i64 b, .int .i64 c] 30) := ⟨_, rfl⟩
  have HB1 : Hid (Below W.heap.size W w1) := Lib.hid (by rw [hw1]; exact (Below.refl _ _).alloc (Nat.le_refl _) _)
  obtain ⟨sb, hsb⟩ : ∃ sb, sb = W.heap.size := ⟨_, rfl⟩
  have HT1 : Hid (Has w1 sb 30 [.int .i64 a, .int .i64 b, .int .i64 c]) := Lib.hid (by rw [hw1, hsb]; exact Has.new _ _ _)
  have HAw := Lib.hid awake17_any
  have HPs := Lib.hid (putset_any w1 a b c ha hb hc)
  have HGa : Hid (∀ w, Calls Try.prog 17 #[.int .i64 id] w (RetBE w.heap.size w (gaB id))) := Lib.hid (fun w => goaway_any w id)
  have t0 := HT1.out.cell 0 rfl
  have t1 := HT1.out.cell 1 rfl
  have t2 := HT1.out.cell 2 rfl
  go_enter Try.func6, Try.ntmps6
  go_upto_region 1 with fail
  rw [← hw1, ← hsb]
  clear hw1 hsb ha hb hc
  go_wp2_with fail
  refine HPs.out.mono ?_
  rintro e w2 ⟨ba, bc, rfl, ho2, hb2⟩
  clear t0 t1 t2
  have HT2 := Lib.hid (HT1.out.kept (Kept.of_below (X := none') hb2) (fun h => h))
  have HB2 := Lib.hid (HB1.out.trans (hb2.mono HB1.out.size))
  have HO2 := Lib.hid (own_sl ho2)
  have HG2 := Lib.hid (HGa.out w2)
  clear ho2 hb2
  go_wp2_with fail
  refine HG2.out.mono ?_
  rintro e w3 ⟨ga, gc, rfl, ho3, hb3⟩
  have HT3 := Lib.hid (HT2.out.kept (Kept.of_below (X := none') hb3) (fun h => h))
  have HB3 := Lib.hid (HB2.out.trans (hb3.mono HB2.out.size))
  have HO2 := Lib.hid (HO2.out.below hb3)
  have HO3 := Lib.hid (own_sl ho3)
  clear ho3 hb3
  cases hbad : badS a b c with
  | true =>
    have e1 : stB a b c = ([], 10) := by unfold stB; rw [if_pos hbad]
    rw [e1]
    clear hbad e1
    simp only
    go_wp2_with fail
    refine (HAw.out _).mono ?_
    rintro e w9 ⟨rfl, hb9⟩
    go_wp2
    go_ret
    exact ⟨rfl, HB3.out.trans (hb9.mono HB3.out.size)⟩
  | false =>
    have l1 := segA_len a
    have l2 := segB_len b
    have l3 := segC_len c
    have l4 : (segA a ++ (segB b ++ segC c)).length ≤ 48 := by simp only [List.length_append]; omega
    have e1 : stB a b c = (fr 4 (segA a ++ (segB b ++ segC c)), 0) := by
      unfold stB
      rw [if_neg (by rw [hbad]; decide)]
      unfold frB
      rw [if_neg (by decide), if_neg (by omega)]
      rfl
    by_cases hid : id < 0 ∨ 4611686018427387903 < id
    · have e2 : gaB id = ([], 10) := by unfold gaB; rw [if_pos hid]
      rw [e1, e2]
      clear hbad e1 e2 hid l1 l2 l3 l4
      simp only
      go_wp2_with fail
      refine (HAw.out _).mono ?_
      rintro e w9 ⟨rfl, hb9⟩
      go_wp2
      go_ret
      exact ⟨rfl, HB3.out.trans (hb9.mono HB3.out.size)⟩
    · obtain ⟨i, rfl⟩ : ∃ i : Nat, id = (i : Int) := ⟨id.toNat, by omega⟩
      have l5 : (vl i).length ≤ 8 := by rw [vl_length]; exact (szN_pos i).2
      have e2 : gaB (i : Int) = (fr 7 (vl i), 0) := by
        unfold gaB
        rw [if_neg hid]
        unfold frB
        rw [if_neg (by decide), if_neg (by rw [Int.toNat_natCast]; omega), Int.toNat_natCast]
        rfl
      obtain ⟨r, hr, r1, r2, r3, r4⟩ := run_sets hbad (id := i) (by omega)
      rw [e1] at HO2 ⊢
      rw [e2] at HO3 ⊢
      have l6 : (fr 4 (segA a ++ (segB b ++ segC c))).length ≤ 64 := by
        have h1 : (vl 4).length = 1 := by decide
        have h2 := (szN_pos (segA a ++ (segB b ++ segC c)).length).2
        unfold fr
        rw [List.length_append, List.length_append, h1, vl_length]; omega
      have l7 : (fr 7 (vl i)).length ≤ 20 := by
        have h1 : (vl 7).length = 1 := by decide
        have h2 := (szN_pos (vl i).length).2
        unfold fr
        rw [List.length_append, List.length_append, h1, vl_length (vl i).length]; omega
      simp only at HO2 HO3
      obtain ⟨B4, hB4⟩ : ∃ B4, B4 = fr 4 (segA a ++ (segB b ++ segC c)) := ⟨_, rfl⟩
      obtain ⟨B7, hB7⟩ : ∃ B7, B7 = fr 7 (vl i) := ⟨_, rfl⟩
      rw [← hB4] at HO2 hr l6 ⊢
      rw [← hB7] at HO3 hr l7 ⊢
      simp only
      have hal : Below w3.heap.size w3 (w3.alloc (.cells #[.slice ba B4.length bc, .slice ga B7.length gc] 22)) := (Below.refl _ _).alloc (Nat.le_refl _) _
      have HJ := Lib.hid (join_any (w3.alloc (.cells #[.slice ba B4.length bc, .slice ga B7.length gc] 22)) (ps := [⟨ba, B4.length, bc, B4⟩, ⟨ga, B7.length, gc, B7⟩]) (n := 2) sl_two (by
        intro p hp
        simp only [List.mem_cons, List.not_mem_nil, or_false] at hp
        rcases hp with rfl | rfl
        · exact HO2.out.below hal
        · exact HO3.out.below hal) (by simp [joined]; omega))
      obtain ⟨J, hJ⟩ : ∃ J, J = B4 ++ B7 := ⟨_, rfl⟩
      rw [← hJ] at hr
      have HJl : Hid (joined [⟨ba, B4.length, bc, B4⟩, ⟨ga, B7.length, gc, B7⟩] = J) := Lib.hid (by rw [hJ]; simp [joined])
      have HT4 := Lib.hid (HT3.out.kept (Kept.of_below (X := none') hal) (fun h => h))
      have HB4 := Lib.hid (HB3.out.trans (hal.mono HB3.out.size))
      have HL : Hid (J.length ≤ 1048576) := Lib.hid (by rw [hJ, List.length_append]; omega)
      have HR := Lib.hid hr
      have HRr := Lib.hid (And.intro r1 (And.intro r2 (And.intro r3 r4)))
      clear hbad e1 e2 hid l1 l2 l3 l4 l5 l6 l7 hr r1 r2 r3 r4 hJ hB4 hB7 hal hi1 hi2
      go_wp2_with fail
      rw [HJl.out] at HJ
      refine HJ.out.mono ?_
      rintro e w5 ⟨ja, jc, rfl, ho5, hb5⟩
      have HT5 := Lib.hid (HT4.out.kept (Kept.of_below (X := none') hb5) (fun h => h))
      have HB5 := Lib.hid (HB4.out.trans (hb5.mono HB4.out.size))
      have HA := Lib.hid (all_runs w5 2 (.inr rfl) (own_sl ho5) (by have := HL.out; omega) (ca := none) (cn := 0) (cc := 0) (cuts := []) (Sl.empty _) (by decide) HR.out)
      clear ho5 hb5
      go_wp2_with fail
      refine HA.out.mono ?_
      intro e w6 hE
      obtain ⟨s, oc, ya, yc, a1, c1, a2, c2, rfl, ⟨p0, p1, p2, p3, p4, p5⟩, ⟨q0, q1, q2, q3, q4, q5⟩, _, _, _, hoc, hom, hb6⟩ := hE.two HRr.out.1 HRr.out.2.1 HRr.out.2.2.1 HRr.out.2.2.2
      have hT6 := HT5.out.kept (Kept.of_below (X := none') hb6) (fun h => h)
      have t0 := hT6.cell 0 rfl
      have t1 := hT6.cell 1 rfl
      have t2 := hT6.cell 2 rfl
      have HB6 := Lib.hid (HB5.out.trans (hb6.mono HB5.out.size))
      have HA6 := Lib.hid (HAw.out w6.drew)
      clear hE hT6 hb6
      go_wp2_with fail
      refine Mx.region [] (fun w' => (w'.cell? ⟨sb, 0, none⟩ = some (.int .i64 a) ∧ w'.cell? ⟨sb, 1, none⟩ = some (.int .i64 b) ∧ w'.cell? ⟨sb, 2, none⟩ = some (.int .i64 c)) ∧ (w'.cell? ⟨s, 2, none⟩ = some (.int .i64 a) ∧ w'.cell? ⟨s, 3, none⟩ = some (.int .i64 b) ∧ w'.cell? ⟨s, 4, none⟩ = some (.int .i64 c)) ∧
        w'.cell? ⟨s, 0, none⟩ = some (.int .i64 3) ∧ w'.cell? ⟨s, 6, none⟩ = some (.int .i64 4) ∧ w'.cell? ⟨s, 11, none⟩ = some (.int .i64 (i : Int))) (by kernel_rfl) (by kernel_rfl) ⟨⟨t0, t1, t2⟩, ⟨p2, p3, p4⟩, p0, q0, q5⟩ ?_
      repeat ((first | (refine Mx.skips (by kernel_rfl) ?_; go_big_quiet_skip) | (refine Mx.quietly rfl ?_; go_big_quiet_want; go_big_quiet_op; go_big_quiet_on)); refine Mx.done ?_)
      refine Mx.cell ⟨s, 0, none⟩ (.int .i64 3) (by kernel_rfl) (by kernel_rfl) (by kernel_rfl) Try.isAgg3 (fun w' h => h.2.2.1) ?_
      go_big_quiet_want; go_big_quiet_op; go_big_quiet_on; refine Mx.done ?_
      repeat ((first | (refine Mx.skips (by kernel_rfl) ?_; go_big_quiet_skip) | (refine Mx.quietly rfl ?_; go_big_quiet_want; go_big_quiet_op; go_big_quiet_on)); refine Mx.done ?_)
      refine Mx.mid s 2 [.int .i64 a, .int .i64 b, .int .i64 c] _ (by kernel_rfl) (by kernel_rfl) (by kernel_rfl) Try.underlying30 rfl infoSt (fun w' h => mid3 h.2.1.1 h.2.1.2.1 h.2.1.2.2) ?_
      go_big_quiet_want; go_big_quiet_op; go_big_quiet_on; refine Mx.done ?_
      repeat ((first | (refine Mx.skips (by kernel_rfl) ?_; go_big_quiet_skip) | (refine Mx.quietly rfl ?_; go_big_quiet_want; go_big_quiet_op; go_big_quiet_on)); refine Mx.done ?_)
      refine Mx.mid sb 0 [.int .i64 a, .int .i64 b, .int .i64 c] _ (by kernel_rfl) (by kernel_rfl) (by kernel_rfl) Try.underlying30 rfl infoSt (fun w' h => mid3 h.1.1 h.1.2.1 h.1.2.2) ?_
      go_big_quiet_want; go_big_quiet_op; go_big_quiet_on; refine Mx.done ?_
      repeat ((first | (refine Mx.skips (by kernel_rfl) ?_; go_big_quiet_skip) | (refine Mx.quietly rfl ?_; go_big_quiet_want; go_big_quiet_op; go_big_quiet_on)); refine Mx.done ?_)
      refine Mx.cell ⟨s, 6, none⟩ (.int .i64 4) (by kernel_rfl) (by kernel_rfl) (by kernel_rfl) Try.isAgg3 (fun w' h => h.2.2.2.1) ?_
      go_big_quiet_want; go_big_quiet_op; go_big_quiet_on; refine Mx.done ?_
      repeat ((first | (refine Mx.skips (by kernel_rfl) ?_; go_big_quiet_skip) | (refine Mx.quietly rfl ?_; go_big_quiet_want; go_big_quiet_op; go_big_quiet_on)); refine Mx.done ?_)
      refine Mx.cell ⟨s, 11, none⟩ (.int .i64 (i : Int)) (by kernel_rfl) (by kernel_rfl) (by kernel_rfl) Try.isAgg3 (fun w' h => h.2.2.2.2) ?_
      go_big_quiet_want; go_big_quiet_op; go_big_quiet_on; refine Mx.done ?_
      repeat ((first | (refine Mx.skips (by kernel_rfl) ?_; go_big_quiet_skip) | (refine Mx.quietly rfl ?_; go_big_quiet_want; go_big_quiet_op; go_big_quiet_on)); refine Mx.done ?_)
      refine Mx.loudly (by kernel_rfl) (by kernel_rfl) ?_
      go_wp2_with fail
      refine HA6.out.mono ?_
      rintro e w9 ⟨rfl, hb9⟩
      have hb9 : Below w6.heap.size w6 w9 := (below_drewN (Below.refl w6.heap.size w6) 1).trans hb9
      have HF := Lib.hid (HB6.out.trans (hb9.mono HB6.out.size))
      have hP := Lib.hid (And.intro (And.intro (below_cell hb9 t0) (And.intro (below_cell hb9 t1) (below_cell hb9 t2))) (And.intro (And.intro (below_cell hb9 p2) (And.intro (below_cell hb9 p3) (below_cell hb9 p4))) (And.intro (below_cell hb9 p0) (And.intro (below_cell hb9 q0) (below_cell hb9 q5)))))
      clear hb9
      go_wp2_with fail
      refine ⟨hP.out, ?_⟩
      repeat ((first | (refine Mx.skips (by kernel_rfl) ?_; go_big_quiet_skip) | (refine Mx.quietly rfl ?_; go_big_quiet_want; go_big_quiet_op; go_big_quiet_on)); refine Mx.done ?_)
      refine Mx.nil ?_
      go_wp2
      go_ret
      exact ⟨rfl, HF.out⟩
end Go.Proofs.Ytbplmnmkgkgkhaa

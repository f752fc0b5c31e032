/- FrameEncodes answers true. -/
import Derived.Test.YtppkilkfmclpkaaFrAwk
import Derived.Test.YtppkilkfmclpkaaFrOpen
import Derived.Test.YtppkilkfmclpkaaREnc2
namespace Go.Proofs.Ytppkilkfmclpkaa
open Go.RowKit

theorem fown_lowE {w : World} {B : Nat} {f : Fm} {a : FA} (h : FOwn w B f a) : FLow w.heap.size a := fun k hk => by
  rcases hk with hk | hk | hk
  · exact (ownsRow_ge h.data k hk).2
  · exact (ownsRow_ge h.cid k hk).2
  · exact (ownsRow_ge h.spans k hk).2
theorem FLow.below {w w' : World} {a : FA} (h : FLow w.heap.size a) (hb : Below w.heap.size w w') : FLow w'.heap.size a := fun k hk => Nat.lt_of_lt_of_le (h k hk) hb.size
theorem has_range {w : World} {b : Nat} {t : TypeId} {vs : List Value} (h : Has w b t vs) : w.rangeAt b 0 vs := h.rangeAt
set_option maxRecDepth 100000 in
set_option maxHeartbeats 4000000 in
/-- FrameEncodes -/
theorem encodes_any (w : World) (f : Fm) (fa : FA) (h : FIn w f fa) (_ : FI f) (hz : FSz f) : Calls Try.prog 3 #[.agg (fcells f fa).toArray] w (BoolOf w true) := by
  obtain ⟨w1, hw1⟩ : ∃ w1, w1 = w.alloc (.cells #[.int .i64 f.kind, .int .i64 f.id, .int .i64 f.at_, .int .i64 f.n, .int .i64 f.code, .bool f.fin, .slice fa.da f.data.length fa.dc, .slice fa.ca f.cid.length fa.cc, .slice fa.sa f.spans.length fa.sc, .int .i64 f.delay, .int .i64 f.e0, .int .i64 f.e1, .int .i64 f.e2] 26) := ⟨_, rfl⟩
  have hal : Below w.heap.size w w1 := by rw [hw1]; exact alB w _
  obtain ⟨xb, hxb⟩ : ∃ xb, xb = w.heap.size := ⟨_, rfl⟩
  have HX1 := Lib.hid (show Has w1 xb 26 (fcells f fa) by rw [hw1, hxb]; exact Has.new _ _ _)
  have HB1 := Lib.hid hal
  have HF1 := Lib.hid (h.below hal)
  have HCp := Lib.hid (copied_any w1 (h.below hal) hz)
  obtain ⟨ck, hck⟩ : ∃ ck, ck = chkF f := ⟨_, rfl⟩
  obtain ⟨r, hr⟩ : ∃ r, r = encF f := ⟨_, rfl⟩
  have HCk := Lib.hid hck
  have HR := Lib.hid hr
  clear h hz hal hck hr
  show Calls Try.prog 3 #[.agg #[.int .i64 f.kind, .int .i64 f.id, .int .i64 f.at_, .int .i64 f.n, .int .i64 f.code, .bool f.fin, .slice fa.da f.data.length fa.dc, .slice fa.ca f.cid.length fa.cc, .slice fa.sa f.spans.length fa.sc, .int .i64 f.delay, .int .i64 f.e0, .int .i64 f.e1, .int .i64 f.e2]] w _
  go_enter Try.func3, Try.ntmps3
  go_upto_region 1 with fail
  rw [← hw1, ← hxb]
  clear hw1 hxb
  have g0 := HX1.out.cell 0 rfl
  have g1 := HX1.out.cell 1 rfl
  have g2 := HX1.out.cell 2 rfl
  have g3 := HX1.out.cell 3 rfl
  have g4 := HX1.out.cell 4 rfl
  have g5 := HX1.out.cell 5 rfl
  have g6 := HX1.out.cell 6 rfl
  have g7 := HX1.out.cell 7 rfl
  have g8 := HX1.out.cell 8 rfl
  have g9 := HX1.out.cell 9 rfl
  have g10 := HX1.out.cell 10 rfl
  have g11 := HX1.out.cell 11 rfl
  have g12 := HX1.out.cell 12 rfl
  go_wp2_with fail
  refine HCp.out.mono ?_
  rintro e w2 ⟨fb, he, hfo, hb2⟩
  obtain rfl : e = .returned (.agg #[.int .i64 f.kind, .int .i64 f.id, .int .i64 f.at_, .int .i64 f.n, .int .i64 f.code, .bool f.fin, .slice fb.da f.data.length fb.dc, .slice fb.ca f.cid.length fb.cc, .slice fb.sa f.spans.length fb.sc, .int .i64 f.delay, .int .i64 f.e0, .int .i64 f.e1, .int .i64 f.e2]) := he
  obtain ⟨w3, hw3⟩ : ∃ w3, w3 = w2.alloc (.cells #[.int .i64 f.kind, .int .i64 f.id, .int .i64 f.at_, .int .i64 f.n, .int .i64 f.code, .bool f.fin, .slice fb.da f.data.length fb.dc, .slice fb.ca f.cid.length fb.cc, .slice fb.sa f.spans.length fb.sc, .int .i64 f.delay, .int .i64 f.e0, .int .i64 f.e1, .int .i64 f.e2] 26) := ⟨_, rfl⟩
  obtain ⟨yb, hyb⟩ : ∃ yb, yb = w2.heap.size := ⟨_, rfl⟩
  have hal3 : Below w2.heap.size w2 w3 := by rw [hw3]; exact alB w2 _
  have HY3 := Lib.hid (show Has w3 yb 26 (fcells f fb) by rw [hw3, hyb]; exact Has.new _ _ _)
  have HX3 := Lib.hid ((HX1.out.kept (X := none') (Kept.of_below hb2) (fun h => h)).kept (X := none') (Kept.of_below hal3) (fun h => h))
  have HB3 := Lib.hid ((HB1.out.trans (hb2.mono HB1.out.size)).trans (hal3.mono (Nat.le_trans HB1.out.size hb2.size)))
  have HFa3 := Lib.hid ((HF1.out.below hb2).below hal3)
  have hfo3 := hfo.below hal3
  have HFo3 := Lib.hid hfo3
  have hch := checkF_any w3 hfo3.fin
  rw [← HCk.out] at hch
  have HCh := Lib.hid hch
  clear hfo hb2 hal3 hfo3 hch g0 g1 g2 g3 g4 g5 g6 g7 g8 g9 g10 g11 g12
  go_upto_region 2 with fail
  rw [← hw3, ← hyb]
  clear hw3 hyb
  have g0 := HY3.out.cell 0 rfl
  have g1 := HY3.out.cell 1 rfl
  have g2 := HY3.out.cell 2 rfl
  have g3 := HY3.out.cell 3 rfl
  have g4 := HY3.out.cell 4 rfl
  have g5 := HY3.out.cell 5 rfl
  have g6 := HY3.out.cell 6 rfl
  have g7 := HY3.out.cell 7 rfl
  have g8 := HY3.out.cell 8 rfl
  have g9 := HY3.out.cell 9 rfl
  have g10 := HY3.out.cell 10 rfl
  have g11 := HY3.out.cell 11 rfl
  have g12 := HY3.out.cell 12 rfl
  go_wp2_with fail
  refine HCh.out.mono ?_
  rintro e w4 ⟨rfl, hb4⟩
  have HY4 := Lib.hid (HY3.out.kept (X := none') (Kept.of_below hb4) (fun h => h))
  have HX4 := Lib.hid (HX3.out.kept (X := none') (Kept.of_below hb4) (fun h => h))
  have HB4 := Lib.hid (HB3.out.trans (hb4.mono HB3.out.size))
  have HFa4 := Lib.hid (HFa3.out.below hb4)
  have hfo4 := HFo3.out.below hb4
  have HFo4 := Lib.hid hfo4
  have hen := encode_any w4 hfo4.fin (fown_lowE hfo4)
  rw [← HR.out] at hen
  have HEn := Lib.hid hen
  clear hb4 hfo4 hen g0 g1 g2 g3 g4 g5 g6 g7 g8 g9 g10 g11 g12
  obtain ⟨eb, er⟩ := r
  have g0 := HY4.out.cell 0 rfl
  have g1 := HY4.out.cell 1 rfl
  have g2 := HY4.out.cell 2 rfl
  have g3 := HY4.out.cell 3 rfl
  have g4 := HY4.out.cell 4 rfl
  have g5 := HY4.out.cell 5 rfl
  have g6 := HY4.out.cell 6 rfl
  have g7 := HY4.out.cell 7 rfl
  have g8 := HY4.out.cell 8 rfl
  have g9 := HY4.out.cell 9 rfl
  have g10 := HY4.out.cell 10 rfl
  have g11 := HY4.out.cell 11 rfl
  have g12 := HY4.out.cell 12 rfl
  go_wp2_with fail
  refine HEn.out.mono ?_
  rintro e w5 ⟨pa, pc, he, hpo, hb5⟩
  obtain ⟨pn, hpn⟩ : ∃ pn, pn = eb.length := ⟨_, rfl⟩
  obtain rfl : e = .returned (.tuple #[.slice pa pn pc, .int .i64 er]) := by rw [he, hpn]
  have HPn := Lib.hid hpn
  have HY5 := Lib.hid (HY4.out.kept (X := none') (Kept.of_below hb5) (fun h => h))
  have HX5 := Lib.hid (HX4.out.kept (X := none') (Kept.of_below hb5) (fun h => h))
  have HB5 := Lib.hid (HB4.out.trans (hb5.mono HB4.out.size))
  have HFa5 := Lib.hid (HFa4.out.below hb5)
  have HFo5 := Lib.hid (HFo4.out.below hb5)
  have HP5 := Lib.hid (own_sl hpo)
  clear he hpo hb5 hpn g0 g1 g2 g3 g4 g5 g6 g7 g8 g9 g10 g11 g12
  have g0 := HX5.out.cell 0 rfl
  have g1 := HX5.out.cell 1 rfl
  have g2 := HX5.out.cell 2 rfl
  have g3 := HX5.out.cell 3 rfl
  have g4 := HX5.out.cell 4 rfl
  have g5 := HX5.out.cell 5 rfl
  have g6 := HX5.out.cell 6 rfl
  have g7 := HX5.out.cell 7 rfl
  have g8 := HX5.out.cell 8 rfl
  have g9 := HX5.out.cell 9 rfl
  have g10 := HX5.out.cell 10 rfl
  have g11 := HX5.out.cell 11 rfl
  have g12 := HX5.out.cell 12 rfl
  go_wp2_with fail
  refine (of_any w5 f fa).mono ?_
  rintro e w6 ⟨rfl, hb6⟩
  have HY6 := Lib.hid (HY5.out.kept (X := none') (Kept.of_below hb6) (fun h => h))
  have HX6 := Lib.hid (HX5.out.kept (X := none') (Kept.of_below hb6) (fun h => h))
  have HB6 := Lib.hid (HB5.out.trans (hb6.mono HB5.out.size))
  have HFa6 := Lib.hid (HFa5.out.below hb6)
  have HFo6 := Lib.hid (HFo5.out.below hb6)
  have HP6 := Lib.hid (HP5.out.below hb6)
  have hre := renc_any w6 HFa6.out
  rw [← HR.out] at hre
  have HRe := Lib.hid hre
  clear hb6 hre g0 g1 g2 g3 g4 g5 g6 g7 g8 g9 g10 g11 g12
  go_wp2_with fail
  refine HRe.out.mono ?_
  rintro e w7 ⟨qa, qc, he, hqo, hb7⟩
  obtain rfl : e = .returned (.tuple #[.slice qa pn qc, .int .i64 er]) := by rw [he, HPn.out]
  have HY7 := Lib.hid (HY6.out.kept (X := none') (Kept.of_below hb7) (fun h => h))
  have HX7 := Lib.hid (HX6.out.kept (X := none') (Kept.of_below hb7) (fun h => h))
  have HB7 := Lib.hid (HB6.out.trans (hb7.mono HB6.out.size))
  have HFa7 := Lib.hid (HFa6.out.below hb7)
  have HFo7 := Lib.hid (HFo6.out.below hb7)
  have HP7 := Lib.hid (HP6.out.below hb7)
  have HQ7 := Lib.hid (own_sl hqo)
  have hbd := below_drewN (Below.refl w7.heap.size w7) 1
  have HTwz := Lib.hid (show Two xb 0 (fcells f fa) yb 0 (fcells f fb) w7.drew from Two.below (w := w7) ⟨HX7.out.rangeAt, HY7.out.rangeAt⟩ hbd)
  have HBdz := Lib.hid (HB7.out.trans (hbd.mono HB7.out.size))
  have HFaz := Lib.hid (HFa7.out.below hbd)
  have HFoz := Lib.hid (HFo7.out.below hbd)
  have HPz := Lib.hid (HP7.out.below hbd)
  have HQz := Lib.hid (HQ7.out.below hbd)
  have hcc : (ck == ck) = true := by simp
  have hee : (er == er) = true := by simp
  clear he hqo hb7 hbd
  go_upto_region 5 with fail
  refine Mx.region [] (Two xb 0 (fcells f fa) yb 0 (fcells f fb)) (by kernel_rfl) (by kernel_rfl) HTwz.out ?_
  repeat ((first | (refine Mx.skips (by kernel_rfl) ?_; go_big_quiet_skip) | (refine Mx.quietly rfl ?_; go_big_quiet_want; go_big_quiet_op; go_big_quiet_on)); refine Mx.done ?_)
  refine Mx.loudly (by kernel_rfl) (by kernel_rfl) ?_
  go_wp2_with fail
  refine (awake5_any w7.drew).mono ?_
  rintro e v1 ⟨rfl, hb1⟩
  have HTwa := Lib.hid (HTwz.out.below hb1)
  have HFaa := Lib.hid (HFaz.out.below hb1)
  have HFoa := Lib.hid (HFoz.out.below hb1)
  have HPa := Lib.hid (HPz.out.below hb1)
  have HQa := Lib.hid (HQz.out.below hb1)
  have HBda := Lib.hid (HBdz.out.trans (hb1.mono HBdz.out.size))
  clear hb1
  go_wp2_with fail
  refine ⟨HTwa.out, ?_⟩
  repeat ((first | (refine Mx.skips (by kernel_rfl) ?_; go_big_quiet_skip) | (refine Mx.quietly rfl ?_; go_big_quiet_want; go_big_quiet_op; go_big_quiet_on)); refine Mx.done ?_)
  refine Mx.mid xb 0 (fcells f fa) _ (by kernel_rfl) (by kernel_rfl) (by kernel_rfl) Try.underlying26 rfl (by rw [infoFr]; rfl) (fun w' h => h.1) ?_
  go_big_quiet_want; go_big_quiet_op; go_big_quiet_on; refine Mx.done ?_
  repeat ((first | (refine Mx.skips (by kernel_rfl) ?_; go_big_quiet_skip) | (refine Mx.quietly rfl ?_; go_big_quiet_want; go_big_quiet_op; go_big_quiet_on)); refine Mx.done ?_)
  refine Mx.loudly (by kernel_rfl) (by kernel_rfl) ?_
  go_wp2_with fail
  refine (of_any v1 f fa).mono ?_
  rintro e v2 ⟨rfl, hb2⟩
  have HTwb := Lib.hid (HTwa.out.below hb2)
  have HFab := Lib.hid (HFaa.out.below hb2)
  have HFob := Lib.hid (HFoa.out.below hb2)
  have HPb := Lib.hid (HPa.out.below hb2)
  have HQb := Lib.hid (HQa.out.below hb2)
  have HBdb := Lib.hid (HBda.out.trans (hb2.mono HBda.out.size))
  have hrc := rchk_any v2 HFab.out
  rw [← HCk.out] at hrc
  have HRc := Lib.hid hrc
  clear hb2 hrc
  go_wp2_with fail
  refine ⟨HTwb.out, ?_⟩
  repeat ((first | (refine Mx.skips (by kernel_rfl) ?_; go_big_quiet_skip) | (refine Mx.quietly rfl ?_; go_big_quiet_want; go_big_quiet_op; go_big_quiet_on)); refine Mx.done ?_)
  refine Mx.loudly (by kernel_rfl) (by kernel_rfl) ?_
  go_wp2_with fail
  refine HRc.out.mono ?_
  rintro e v3 ⟨rfl, hb3⟩
  have HTwc := Lib.hid (HTwb.out.below hb3)
  have HFac := Lib.hid (HFab.out.below hb3)
  have HFoc := Lib.hid (HFob.out.below hb3)
  have HPc := Lib.hid (HPb.out.below hb3)
  have HQc := Lib.hid (HQb.out.below hb3)
  have HBdc := Lib.hid (HBdb.out.trans (hb3.mono HBdb.out.size))
  have hss := same_any v3 HPc.out (show Sl v3 qa pn qc (bv eb) by rw [HPn.out]; exact HQc.out)
  simp only [decide_true] at hss
  rw [← HPn.out] at hss
  have HSs := Lib.hid hss
  clear hb3 hss
  go_wp2_with fail
  refine ⟨HTwc.out, ?_⟩
  repeat ((first | (refine Mx.skips (by kernel_rfl) ?_; go_big_quiet_skip) | (refine Mx.quietly rfl ?_; go_big_quiet_want; go_big_quiet_op; go_big_quiet_on)); refine Mx.done ?_)
  refine Mx.loudly (by kernel_rfl) (by kernel_rfl) ?_
  go_wp2_with fail
  refine HSs.out.mono ?_
  rintro e v4 ⟨rfl, hb4⟩
  have HTwd := Lib.hid (HTwc.out.below hb4)
  have HFad := Lib.hid (HFac.out.below hb4)
  have HFod := Lib.hid (HFoc.out.below hb4)
  have HPd := Lib.hid (HPc.out.below hb4)
  have HQd := Lib.hid (HQc.out.below hb4)
  have HBdd := Lib.hid (HBdc.out.trans (hb4.mono HBdc.out.size))
  clear hb4
  go_wp2_with fail
  refine ⟨HTwd.out, ?_⟩
  repeat ((first | (refine Mx.skips (by kernel_rfl) ?_; go_big_quiet_skip) | (refine Mx.quietly rfl ?_; go_big_quiet_want; go_big_quiet_op; go_big_quiet_on)); refine Mx.done ?_)
  refine Mx.mid yb 0 (fcells f fb) _ (by kernel_rfl) (by kernel_rfl) (by kernel_rfl) Try.underlying26 rfl (by rw [infoFr]; rfl) (fun w' h => h.2) ?_
  go_big_quiet_want; go_big_quiet_op; go_big_quiet_on; refine Mx.done ?_
  repeat ((first | (refine Mx.skips (by kernel_rfl) ?_; go_big_quiet_skip) | (refine Mx.quietly rfl ?_; go_big_quiet_want; go_big_quiet_op; go_big_quiet_on)); refine Mx.done ?_)
  refine Mx.loudly (by kernel_rfl) (by kernel_rfl) ?_
  go_wp2_with fail
  refine (of_any v4 f fb).mono ?_
  rintro e v5 ⟨rfl, hb5⟩
  have HTwe := Lib.hid (HTwd.out.below hb5)
  have HFae := Lib.hid (HFad.out.below hb5)
  have HFoe := Lib.hid (HFod.out.below hb5)
  have HPe := Lib.hid (HPd.out.below hb5)
  have HQe := Lib.hid (HQd.out.below hb5)
  have HBde := Lib.hid (HBdd.out.trans (hb5.mono HBdd.out.size))
  clear hb5
  go_wp2_with fail
  refine ⟨HTwe.out, ?_⟩
  repeat ((first | (refine Mx.skips (by kernel_rfl) ?_; go_big_quiet_skip) | (refine Mx.quietly rfl ?_; go_big_quiet_want; go_big_quiet_op; go_big_quiet_on)); refine Mx.done ?_)
  refine Mx.mid xb 0 (fcells f fa) _ (by kernel_rfl) (by kernel_rfl) (by kernel_rfl) Try.underlying26 rfl (by rw [infoFr]; rfl) (fun w' h => h.1) ?_
  go_big_quiet_want; go_big_quiet_op; go_big_quiet_on; refine Mx.done ?_
  repeat ((first | (refine Mx.skips (by kernel_rfl) ?_; go_big_quiet_skip) | (refine Mx.quietly rfl ?_; go_big_quiet_want; go_big_quiet_op; go_big_quiet_on)); refine Mx.done ?_)
  refine Mx.loudly (by kernel_rfl) (by kernel_rfl) ?_
  go_wp2_with fail
  refine (of_any v5 f fa).mono ?_
  rintro e v6 ⟨rfl, hb6⟩
  have HTwf := Lib.hid (HTwe.out.below hb6)
  have HFaf := Lib.hid (HFae.out.below hb6)
  have HFof := Lib.hid (HFoe.out.below hb6)
  have HPf := Lib.hid (HPe.out.below hb6)
  have HQf := Lib.hid (HQe.out.below hb6)
  have HBdf := Lib.hid (HBde.out.trans (hb6.mono HBde.out.size))
  clear hb6
  go_wp2_with fail
  refine ⟨HTwf.out, ?_⟩
  repeat ((first | (refine Mx.skips (by kernel_rfl) ?_; go_big_quiet_skip) | (refine Mx.quietly rfl ?_; go_big_quiet_want; go_big_quiet_op; go_big_quiet_on)); refine Mx.done ?_)
  refine Mx.loudly (by kernel_rfl) (by kernel_rfl) ?_
  go_wp2_with fail
  refine (same5_eq v6 HFof.out.fin HFaf.out).mono ?_
  rintro e v7 ⟨rfl, hb7⟩
  have HTwg := Lib.hid (HTwf.out.below hb7)
  have HFag := Lib.hid (HFaf.out.below hb7)
  have HFog := Lib.hid (HFof.out.below hb7)
  have HPg := Lib.hid (HPf.out.below hb7)
  have HQg := Lib.hid (HQf.out.below hb7)
  have HBdg := Lib.hid (HBdf.out.trans (hb7.mono HBdf.out.size))
  clear hb7
  go_wp2_with fail
  refine ⟨HTwg.out, ?_⟩
  repeat ((first | (refine Mx.skips (by kernel_rfl) ?_; go_big_quiet_skip) | (refine Mx.quietly rfl ?_; go_big_quiet_want; go_big_quiet_op; go_big_quiet_on)); refine Mx.done ?_)
  refine Mx.nil ?_
  go_wp2
  go_ret
  exact ⟨rfl, HBdg.out⟩
end Go.Proofs.Ytppkilkfmclpkaa

/- NormHeads answers true. Premises: the tables, the sizes. Printed by gen_nmlaw4.py. -/
import Derived.Test.YtohinaohcndndaaDoorNmBnd
import Derived.Test.YtohinaohcndndaaDoorNmAwk
import Derived.Test.YtohinaohcndndaaDoorNmRef
namespace Go.Proofs.YtohinaohcndndaaDoor
open Go.RowKit

/-- what the last question reads -/
structure Hs (g5 g11 : Nat) (c1 c2 : List Value) (l : List UInt8) (ba : Option Addr) (bc bn : Nat) (w : World) : Prop where
  x : Has w g5 24 c1
  y : Has w g11 34 c2
  z : Sl w ba bn bc (bv l)
theorem Hs.below {g5 g11 : Nat} {c1 c2 : List Value} {l : List UInt8} {ba : Option Addr} {bc bn : Nat} {w w' : World} (h : Hs g5 g11 c1 c2 l ba bc bn w) (hb : Below w.heap.size w w') : Hs g5 g11 c1 c2 l ba bc bn w' :=
  ⟨h.x.kept (Kept.of_below (X := none') hb) (fun h => h), h.y.kept (Kept.of_below (X := none') hb) (fun h => h), h.z.below hb⟩
set_option maxRecDepth 100000 in
set_option maxHeartbeats 8000000 in
theorem heads_any (w : World) (ht : Tabs w) {a : Option Addr} {n c : Nat} {fs : List Fd} (h : SlS w a n c fs) (hz : fdz fs ≤ 1048576) (body : Bool) :
    Calls Tryd.prog 3 #[.slice a n c, .bool body] w (BoolOf w true) := by
  have HT := Lib.hid ht
  have HS := Lib.hid h
  have HZ := Lib.hid hz
  have hbd := chkF_bnd hz 1048576 1073741824
  rw [show chkF fs 1048576 1073741824 = madeF fs by rw [madeF]] at hbd
  have HMd := Lib.hid (made_any w h hz (Nat.le_trans (fdz_len _) hbd.fs))
  obtain ⟨R, hR⟩ : ∃ R, R = madeF fs := ⟨_, rfl⟩
  rw [← hR] at hbd HMd
  have HR := Lib.hid hR
  have HBd := Lib.hid hbd
  obtain ⟨⟨me, sc, au, pa, fl, len⟩, er⟩ := R
  obtain ⟨k, hk⟩ : ∃ k, k = fl.length := ⟨_, rfl⟩
  have HK := Lib.hid hk
  clear ht h hz hbd hR
  go_enter Tryd.func3, Tryd.ntmps3
  go_wp2_with fail
  refine HMd.out.mono ?_
  rintro e w2 ⟨a3, c3, rfl, hs2, hb2⟩
  have HB2 := Lib.hid hb2
  unfold rqV
  simp only at hs2 ⊢
  rw [← hk] at hs2 ⊢
  have HS2 := Lib.hid hs2
  clear hs2 hb2 hk HMd
  go_upto_region 2 with fail
  obtain ⟨w3, hw3⟩ : ∃ w3, w3 = w2.alloc (.cells #[.string me, .string sc, .string au, .string pa, .slice a3 k c3, .int .i64 len] 24) := ⟨_, rfl⟩
  obtain ⟨g5, hg5⟩ : ∃ g5, g5 = w2.heap.size := ⟨_, rfl⟩
  have hb3 : Below w2.heap.size w2 w3 := by rw [hw3]; exact (Below.refl _ w2).alloc (Nat.le_refl _) _
  have HH3 : Hid (Has w3 g5 24 (rqC me sc au pa a3 k c3 len)) := Lib.hid (by rw [hw3, hg5]; exact Has.new w2 24 (rqC me sc au pa a3 k c3 len).toArray)
  have HS3 : Hid (SlS w3 a3 k c3 fl) := Lib.hid (HS2.out.below hb3)
  have HB3 : Hid (Below w.heap.size w w3) := Lib.hid (HB2.out.trans (hb3.mono HB2.out.size))
  rw [← hw3, ← hg5]
  clear hw3 hg5 hb3
  by_cases h0 : er = 0
  · subst er
    have b0 := HH3.out.cell 0 rfl
    have b1 := HH3.out.cell 1 rfl
    have b2 := HH3.out.cell 2 rfl
    have b3 := HH3.out.cell 3 rfl
    have b4 := HH3.out.cell 4 rfl
    have b5 := HH3.out.cell 5 rfl
    obtain ⟨q1, q2⟩ := head_bnd HBd.out.me HBd.out.au HBd.out.pa HBd.out.fs HBd.out.lo HBd.out.hi body
    have hHd := head_any w3 ⟨me, sc, au, pa, fl, len⟩ (a := a3) (c := c3) (by rw [← HK.out]; exact HS3.out) body (by have h1 := HBd.out.lo; have h2 := HBd.out.hi; simp only at h1 h2 ⊢; omega) (Nat.le_trans (Nat.le_trans (fdz_len _) HBd.out.fs) (by decide)) (Nat.le_trans q1 (by decide)) q2 (HT.out.below HB3.out).pow
    obtain ⟨H, hH⟩ : ∃ H, H = headL ⟨me, sc, au, pa, fl, len⟩ body := ⟨_, rfl⟩
    rw [← hH] at hHd
    have HHe := Lib.hid hH
    clear hH
    obtain ⟨bL, hE⟩ := H
    obtain ⟨bn, hbn⟩ : ∃ bn, bn = bL.length := ⟨_, rfl⟩
    have HBn := Lib.hid hbn
    clear hbn
    unfold rqV at hHd
    simp only [← HK.out] at hHd
    have HHd := Lib.hid hHd
    clear q1 q2 hHd
    go_wp2_with fail
    refine HHd.out.mono ?_
    rintro e w4 ⟨ba, bc, he, ho4, hb4⟩
    simp only at he ho4
    obtain rfl : e = .returned (.tuple #[.slice ba bn bc, .int .i64 hE]) := by rw [he, HBn.out]
    have HSl4 : Hid (Sl w4 ba bn bc (bv bL)) := Lib.hid (by rw [HBn.out]; exact own_sl ho4)
    have HH4 : Hid (Has w4 g5 24 (rqC me sc au pa a3 k c3 len)) := Lib.hid (HH3.out.kept (Kept.of_below (X := none') hb4) (fun h => h))
    have HS4 : Hid (SlS w4 a3 k c3 fl) := Lib.hid (HS3.out.below hb4)
    have HB4 : Hid (Below w.heap.size w w4) := Lib.hid (HB3.out.trans (hb4.mono HB3.out.size))
    clear he ho4 hb4 b0 b1 b2 b3 b4 b5 HHd
    have b0 := HH4.out.cell 0 rfl
    have b1 := HH4.out.cell 1 rfl
    have b2 := HH4.out.cell 2 rfl
    have b3 := HH4.out.cell 3 rfl
    have b4 := HH4.out.cell 4 rfl
    have b5 := HH4.out.cell 5 rfl
    have hOf := of_any w4 ⟨me, sc, au, pa, fl, len⟩ a3 c3
    unfold rqV at hOf
    simp only [← HK.out] at hOf
    have HOf := Lib.hid hOf
    clear hOf
    go_wp2_with fail
    refine HOf.out.mono ?_
    rintro e w5 ⟨rfl, hb5⟩
    have HSl5 := Lib.hid (HSl4.out.below hb5)
    have HH5 : Hid (Has w5 g5 24 (rqC me sc au pa a3 k c3 len)) := Lib.hid (HH4.out.kept (Kept.of_below (X := none') hb5) (fun h => h))
    have HS5 : Hid (SlS w5 a3 k c3 fl) := Lib.hid (HS4.out.below hb5)
    have HB5 : Hid (Below w.heap.size w w5) := Lib.hid (HB4.out.trans (hb5.mono HB4.out.size))
    have hRh := rhead_any w5 ⟨me, sc, au, pa, fl, len⟩ (a := a3) (c := c3) (by rw [← HK.out]; exact HS5.out) body HBd.out.fs HBd.out.me HBd.out.au HBd.out.pa (by have h2 := HBd.out.hi; simp only at h2 ⊢; omega)
    rw [← HHe.out] at hRh
    unfold rqV at hRh
    simp only [← HK.out] at hRh
    have HRh := Lib.hid hRh
    clear hRh hb5 b0 b1 b2 b3 b4 b5
    go_wp2_with fail
    refine HRh.out.mono ?_
    rintro e w6 ⟨rfl, hb6⟩
    have HSl6 := Lib.hid (HSl5.out.below hb6)
    have HH6 : Hid (Has w6 g5 24 (rqC me sc au pa a3 k c3 len)) := Lib.hid (HH5.out.kept (Kept.of_below (X := none') hb6) (fun h => h))
    have HS6 : Hid (SlS w6 a3 k c3 fl) := Lib.hid (HS5.out.below hb6)
    have HB6 : Hid (Below w.heap.size w w6) := Lib.hid (HB5.out.trans (hb6.mono HB5.out.size))
    have hCk := check_any w6 (HS.out.below HB6.out) HZ.out 1048576 1073741824
    rw [show chkF fs 1048576 1073741824 = madeF fs by rw [madeF], ← HR.out] at hCk
    have HCk := Lib.hid hCk
    clear hb6 hCk
    go_wp2_with fail
    refine HCk.out.mono ?_
    rintro e w7 ⟨a8, c8, rfl, hs7, hb7⟩
    unfold rqV
    simp only at hs7 ⊢
    rw [← HK.out]
    have HS7x : Hid (SlS w7 a8 k c8 fl) := Lib.hid (by have h := hs7.sl; rwa [← HK.out] at h)
    have HSl7 := Lib.hid (HSl6.out.below hb7)
    have HH7 : Hid (Has w7 g5 24 (rqC me sc au pa a3 k c3 len)) := Lib.hid (HH6.out.kept (Kept.of_below (X := none') hb7) (fun h => h))
    have HS7 : Hid (SlS w7 a3 k c3 fl) := Lib.hid (HS6.out.below hb7)
    have HB7 : Hid (Below w.heap.size w w7) := Lib.hid (HB6.out.trans (hb7.mono HB6.out.size))
    clear hb7 hs7 HCk HRh HOf
    go_upto_region 7 with fail
    obtain ⟨w8, hw8⟩ : ∃ w8, w8 = w7.alloc (.cells #[.string me, .string sc, .string au, .string pa, .slice a8 k c8, .int .i64 len] 34) := ⟨_, rfl⟩
    obtain ⟨g11, hg11⟩ : ∃ g11, g11 = w7.heap.size := ⟨_, rfl⟩
    have hb8 : Below w7.heap.size w7 w8 := by rw [hw8]; exact (Below.refl _ w7).alloc (Nat.le_refl _) _
    have hb8d : Below w7.heap.size w7 w8.drew := hb8.trans ((below_drewN (Below.refl w8.heap.size w8) 1).mono hb8.size)
    have HHP : Hid (Hs g5 g11 (rqC me sc au pa a3 k c3 len) (rqC me sc au pa a8 k c8 len) bL ba bc bn w8.drew) := Lib.hid ⟨HH7.out.kept (Kept.of_below (X := none') hb8d) (fun h => h), (show Has w8 g11 34 (rqC me sc au pa a8 k c8 len) by rw [hw8, hg11]; exact Has.new w7 34 (rqC me sc au pa a8 k c8 len).toArray).kept (Kept.of_below (X := none') (below_drewN (Below.refl w8.heap.size w8) 1)) (fun h => h), HSl7.out.below hb8d⟩
    have HS8 : Hid (SlS w8.drew a3 k c3 fl) := Lib.hid (HS7.out.below hb8d)
    have HS8x : Hid (SlS w8.drew a8 k c8 fl) := Lib.hid (HS7x.out.below hb8d)
    have HBP : Hid (Below w.heap.size w w8.drew) := Lib.hid (HB7.out.trans (hb8d.mono HB7.out.size))
    have HAw := Lib.hid (awake19_any w8.drew (HT.out.below HBP.out))
    rw [← hw8, ← hg11]
    clear hw8 hg11 hb8 hb8d
    have HXP := HHP
    have HSP := HS8
    have HTP := HS8x
    refine Mx.region [] (Hs g5 g11 (rqC me sc au pa a3 k c3 len) (rqC me sc au pa a8 k c8 len) bL ba bc bn) (by kernel_rfl) (by kernel_rfl) HXP.out ?_
    repeat ((first | (refine Mx.skips (by kernel_rfl) ?_; go_big_quiet_skip) | (refine Mx.quietly rfl ?_; go_big_quiet_want; go_big_quiet_op; go_big_quiet_on)); refine Mx.done ?_)
    refine Mx.loudly (by kernel_rfl) (by kernel_rfl) ?_
    go_wp2_with fail
    refine HAw.out.mono ?_
    rintro e v1 ⟨rfl, hb⟩
    have HXv1 : Hid (Hs g5 g11 (rqC me sc au pa a3 k c3 len) (rqC me sc au pa a8 k c8 len) bL ba bc bn v1) := Lib.hid (HXP.out.below hb)
    have HBv1 : Hid (Below w.heap.size w v1) := Lib.hid (HBP.out.trans (hb.mono HBP.out.size))
    have HSv1 : Hid (SlS v1 a3 k c3 fl) := Lib.hid (HSP.out.below hb)
    have HTv1 : Hid (SlS v1 a8 k c8 fl) := Lib.hid (HTP.out.below hb)
    clear hb
    go_wp2_with fail
    refine ⟨HXv1.out, ?_⟩
    repeat ((first | (refine Mx.skips (by kernel_rfl) ?_; go_big_quiet_skip) | (refine Mx.quietly rfl ?_; go_big_quiet_want; go_big_quiet_op; go_big_quiet_on)); refine Mx.done ?_)
    refine Mx.conv (.string (strB bL)) (by kernel_rfl) (by kernel_rfl) (by kernel_rfl) (fun w' h => run_str (P := Tryd.prog) h.z 28 5 9 Tryd.underlying28 Tryd.underlying5 Tryd.underlying9) ?_
    go_big_quiet_want; go_big_quiet_op; go_big_quiet_on; refine Mx.done ?_
    repeat ((first | (refine Mx.skips (by kernel_rfl) ?_; go_big_quiet_skip) | (refine Mx.quietly rfl ?_; go_big_quiet_want; go_big_quiet_op; go_big_quiet_on)); refine Mx.done ?_)
    refine Mx.mid g5 0 [.string me, .string sc, .string au, .string pa, .slice a3 k c3, .int .i64 len] _ (by kernel_rfl) (by kernel_rfl) (by kernel_rfl) Tryd.underlying24 rfl (by kernel_rfl) (fun w' h => h.x.rangeAt) ?_
    go_big_quiet_want; go_big_quiet_op; go_big_quiet_on; refine Mx.done ?_
    repeat ((first | (refine Mx.skips (by kernel_rfl) ?_; go_big_quiet_skip) | (refine Mx.quietly rfl ?_; go_big_quiet_want; go_big_quiet_op; go_big_quiet_on)); refine Mx.done ?_)
    have hHF1 := framing_any v1 ⟨me, sc, au, pa, fl, len⟩ a3 c3 body
    unfold rqV at hHF1
    simp only [← HK.out] at hHF1
    have HF1 := Lib.hid hHF1
    clear hHF1
    refine Mx.loudly (by kernel_rfl) (by kernel_rfl) ?_
    go_wp2_with fail
    refine HF1.out.mono ?_
    rintro e v2 ⟨rfl, hb⟩
    have HXv2 : Hid (Hs g5 g11 (rqC me sc au pa a3 k c3 len) (rqC me sc au pa a8 k c8 len) bL ba bc bn v2) := Lib.hid (HXv1.out.below hb)
    have HBv2 : Hid (Below w.heap.size w v2) := Lib.hid (HBv1.out.trans (hb.mono HBv1.out.size))
    have HSv2 : Hid (SlS v2 a3 k c3 fl) := Lib.hid (HSv1.out.below hb)
    have HTv2 : Hid (SlS v2 a8 k c8 fl) := Lib.hid (HTv1.out.below hb)
    clear hb
    go_wp2_with fail
    refine ⟨HXv2.out, ?_⟩
    repeat ((first | (refine Mx.skips (by kernel_rfl) ?_; go_big_quiet_skip) | (refine Mx.quietly rfl ?_; go_big_quiet_want; go_big_quiet_op; go_big_quiet_on)); refine Mx.done ?_)
    refine Mx.mid g11 0 [.string me, .string sc, .string au, .string pa, .slice a8 k c8, .int .i64 len] _ (by kernel_rfl) (by kernel_rfl) (by kernel_rfl) Tryd.underlying34 rfl (by kernel_rfl) (fun w' h => h.y.rangeAt) ?_
    go_big_quiet_want; go_big_quiet_op; go_big_quiet_on; refine Mx.done ?_
    repeat ((first | (refine Mx.skips (by kernel_rfl) ?_; go_big_quiet_skip) | (refine Mx.quietly rfl ?_; go_big_quiet_want; go_big_quiet_op; go_big_quiet_on)); refine Mx.done ?_)
    have hHF2 := rframing_any v2 ⟨me, sc, au, pa, fl, len⟩ a8 c8 body
    unfold rqV at hHF2
    simp only [← HK.out] at hHF2
    have HF2 := Lib.hid hHF2
    clear hHF2
    refine Mx.loudly (by kernel_rfl) (by kernel_rfl) ?_
    go_wp2_with fail
    refine HF2.out.mono ?_
    rintro e v3 ⟨rfl, hb⟩
    have HXv3 : Hid (Hs g5 g11 (rqC me sc au pa a3 k c3 len) (rqC me sc au pa a8 k c8 len) bL ba bc bn v3) := Lib.hid (HXv2.out.below hb)
    have HBv3 : Hid (Below w.heap.size w v3) := Lib.hid (HBv2.out.trans (hb.mono HBv2.out.size))
    have HSv3 : Hid (SlS v3 a3 k c3 fl) := Lib.hid (HSv2.out.below hb)
    have HTv3 : Hid (SlS v3 a8 k c8 fl) := Lib.hid (HTv2.out.below hb)
    clear hb
    go_wp2_with fail
    refine ⟨HXv3.out, ?_⟩
    repeat ((first | (refine Mx.skips (by kernel_rfl) ?_; go_big_quiet_skip) | (refine Mx.quietly rfl ?_; go_big_quiet_want; go_big_quiet_op; go_big_quiet_on)); refine Mx.done ?_)
    refine Mx.cell ⟨g5, 4, none⟩ (.slice a3 k c3) (by kernel_rfl) (by kernel_rfl) (by kernel_rfl) Tryd.isAgg22 (fun w' h => h.x.cell 4 rfl) ?_
    go_big_quiet_want; go_big_quiet_op; go_big_quiet_on; refine Mx.done ?_
    repeat ((first | (refine Mx.skips (by kernel_rfl) ?_; go_big_quiet_skip) | (refine Mx.quietly rfl ?_; go_big_quiet_want; go_big_quiet_op; go_big_quiet_on)); refine Mx.done ?_)
    refine Mx.cell ⟨g11, 4, none⟩ (.slice a8 k c8) (by kernel_rfl) (by kernel_rfl) (by kernel_rfl) Tryd.isAgg22 (fun w' h => h.y.cell 4 rfl) ?_
    go_big_quiet_want; go_big_quiet_op; go_big_quiet_on; refine Mx.done ?_
    repeat ((first | (refine Mx.skips (by kernel_rfl) ?_; go_big_quiet_skip) | (refine Mx.quietly rfl ?_; go_big_quiet_want; go_big_quiet_op; go_big_quiet_on)); refine Mx.done ?_)
    have HSm := Lib.hid (sames_eq v3 HSv3.out HTv3.out)
    refine Mx.loudly (by kernel_rfl) (by kernel_rfl) ?_
    go_wp2_with fail
    refine HSm.out.mono ?_
    rintro e v4 ⟨rfl, hb⟩
    have HXv4 : Hid (Hs g5 g11 (rqC me sc au pa a3 k c3 len) (rqC me sc au pa a8 k c8 len) bL ba bc bn v4) := Lib.hid (HXv3.out.below hb)
    have HBv4 : Hid (Below w.heap.size w v4) := Lib.hid (HBv3.out.trans (hb.mono HBv3.out.size))
    have HSv4 : Hid (SlS v4 a3 k c3 fl) := Lib.hid (HSv3.out.below hb)
    have HTv4 : Hid (SlS v4 a8 k c8 fl) := Lib.hid (HTv3.out.below hb)
    clear hb
    go_wp2_with fail
    refine ⟨HXv4.out, ?_⟩
    repeat ((first | (refine Mx.skips (by kernel_rfl) ?_; go_big_quiet_skip) | (refine Mx.quietly rfl ?_; go_big_quiet_want; go_big_quiet_op; go_big_quiet_on)); refine Mx.done ?_)
    refine Mx.nil ?_
    go_wp2
    go_ret
    exact ⟨rfl, HBv4.out⟩

  · have y1 : (er == 0) = false := by simpa using h0
    have HAw := Lib.hid (awake19_any w3 (HT.out.below HB3.out))
    rw [y1]
    clear h0 y1
    go_wp2_with fail
    refine HAw.out.mono ?_
    rintro e w4 ⟨rfl, hb4⟩
    have HB4 : Hid (Below w.heap.size w w4) := Lib.hid (HB3.out.trans (hb4.mono HB3.out.size))
    clear hb4
    go_wp2
    go_ret
    exact ⟨rfl, HB4.out⟩
end Go.Proofs.YtohinaohcndndaaDoor

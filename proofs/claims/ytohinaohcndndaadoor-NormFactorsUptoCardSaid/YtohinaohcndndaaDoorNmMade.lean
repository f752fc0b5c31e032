/- turnpikelaw19.of, made. Conditions: the sizes. -/
import Derived.Test.YtohinaohcndndaaDoorChk6
import Derived.Test.YtohinaohcndndaaDoorRHead
namespace Go.Proofs.YtohinaohcndndaaDoor
open Go.RowKit

theorem results_rq1 {fn : Func} {c : Tmp} (h : fn.results = #[.cell c 34]) (tmps : Array Value) {w : World} {b : Nat} {vs : List Value} (hc : tmps.getD c undef = .pointer (some ⟨b, 0, none⟩)) (hH : Has w b 34 vs) (hl : vs.length = 6) :
    (results fn tmps).run Tryd.prog w = .ok (.agg vs.toArray) w := by
  have hr := run_load_rq hH hl
  simp only [results, h]
  simp only [Array.getD_eq_getD_getElem?] at hc ⊢
  simp [hc, asAddr, hr]
theorem infoMq : (Tryd.prog.info? 24).map (·.size) = some 6 := by kernel_rfl
theorem run_load_mq {w : World} {b : Nat} {vs : List Value} (hH : Has w b 24 vs) (hl : vs.length = 6) : (loadVar 24 ⟨b, 0, none⟩).run Tryd.prog w = .ok (.agg vs.toArray) w :=
  run_loadVar_mid (P := Tryd.prog) w b 0 24 vs _ hH.rangeAt Tryd.underlying24 rfl (by rw [infoMq, hl])
theorem results_mq2 {fn : Func} {c u : Tmp} (h : fn.results = #[.cell c 24, .tmp u]) (tmps : Array Value) {w : World} {b : Nat} {vs : List Value} (hc : tmps.getD c undef = .pointer (some ⟨b, 0, none⟩)) (hH : Has w b 24 vs) (hl : vs.length = 6) :
    (results fn tmps).run Tryd.prog w = .ok (.tuple #[.agg vs.toArray, tmps.getD u undef]) w := by
  have hr := run_load_mq hH hl
  simp only [results, h]
  simp only [Array.getD_eq_getD_getElem?] at hc ⊢
  simp [hc, asAddr, hr]
theorem two_new (w : World) (t1 t2 : TypeId) (c1 c2 : Array Value) {w2 : World} (h : w2 = (w.alloc (.cells c1 t1)).alloc (.cells c2 t2)) :
    Has w2 w.heap.size t1 c1.toList ∧ Has w2 (w.heap.size + 1) t2 c2.toList ∧ Below w.heap.size w w2 := by
  have hb : Below w.heap.size w (w.alloc (.cells c1 t1)) := (Below.refl _ _).alloc (Nat.le_refl _) _
  have hb2 : Below (w.alloc (.cells c1 t1)).heap.size (w.alloc (.cells c1 t1)) w2 := by rw [h]; exact (Below.refl _ _).alloc (Nat.le_refl _) _
  refine ⟨(Has.new w t1 c1).kept (Kept.of_below (X := none') hb2) (fun h => h), ?_, hb.trans (hb2.mono hb.size)⟩
  have h2 := Has.new (w.alloc (.cells c1 t1)) t2 c2
  rw [← h] at h2
  simpa using h2
set_option maxRecDepth 100000 in
set_option maxHeartbeats 4000000 in
theorem of_any (w : World) (r : Rq) (a : Option Addr) (c : Nat) : Calls Tryd.prog 13 #[rqV r a c] w fun e w' => e = .returned (rqV r a c) ∧ Below w.heap.size w w' := by
  obtain ⟨me, sc, au, pa, fs, len⟩ := r
  obtain ⟨n, hn⟩ : ∃ n, n = fs.length := ⟨_, rfl⟩
  unfold rqV
  simp only [← hn]
  clear hn
  obtain ⟨w2, hw2⟩ : ∃ w2, w2 = (w.alloc (.cells #[.string me, .string sc, .string au, .string pa, .slice a n c, .int .i64 len] 24)).alloc (.cells #[.string ⟨#[]⟩, .string ⟨#[]⟩, .string ⟨#[]⟩, .string ⟨#[]⟩, .slice none 0 0, .int .i64 0] 34) := ⟨_, rfl⟩
  obtain ⟨h1, h2, h3⟩ := two_new w _ _ _ _ hw2
  have HW := Lib.hid hw2.symm
  obtain ⟨ga, hga⟩ : ∃ ga, ga = w.heap.size := ⟨_, rfl⟩
  obtain ⟨gb, hgb⟩ : ∃ gb, gb = ga + 1 := ⟨_, rfl⟩
  have HG : Hid (w.heap.size ≤ gb) := Lib.hid (by omega)
  have HGa := Lib.hid hga
  have HGb := Lib.hid hgb
  rw [← hga] at h1
  rw [← hga, ← hgb] at h2
  have HA := Lib.hid h1
  have HH := Lib.hid h2
  have HB := Lib.hid h3
  clear h1 h2 h3 hw2 hga hgb
  go_enter Tryd.func13, Tryd.ntmps13
  go_upto_region 1 with fail
  rw [HW.out, ← HGa.out, ← HGb.out]
  have b0 := HA.out.cell 0 rfl
  have b1 := HA.out.cell 1 rfl
  have b2 := HA.out.cell 2 rfl
  have b3 := HA.out.cell 3 rfl
  have b4 := HA.out.cell 4 rfl
  have b5 := HA.out.cell 5 rfl
  have hth := HH.out.there (n := 6) rfl
  have ho1 := rqC_one me sc au pa a n c len
  go_wp2_with (refine wpList_store_mid rfl 34 (.tmp 2) (.tmp 15) rfl gb 0 #[.string me, .string sc, .string au, .string pa, .slice a n c, .int .i64 len] rfl rfl hth infoRq ho1 ?_)
  refine bodyPost_ret (results_rq1 rfl _ rfl (HH.out.store (vs := rqC me sc au pa a n c len) rfl) rfl) rfl ?_
  exact ⟨rfl, HB.out.trans ((Kept.sets gb _ 0 w2).below HB.out.size (fun q hq => by rw [hq]; exact HG.out))⟩
/-- what the law's made answers -/
def MadeP (w : World) (r : Ck) (e : Ending) (w' : World) : Prop := ∃ a c, e = .returned (.tuple #[rqV r.rq a c, .bool (r.er == 0)]) ∧ SlS w' a r.rq.fs.length c r.rq.fs ∧ Below w.heap.size w w'
def madeF (fs : List Fd) : Ck := chkF fs 1048576 1073741824
set_option maxRecDepth 100000 in
set_option maxHeartbeats 4000000 in
theorem made_any (w : World) {a : Option Addr} {n c : Nat} {fs : List Fd} (h : SlS w a n c fs) (hz : fdz fs ≤ 1048576) (hq : (madeF fs).rq.fs.length ≤ 1048576) : Calls Tryd.prog 9 #[.slice a n c] w (MadeP w (madeF fs)) := by
  have HS := Lib.hid h
  have HZ := Lib.hid hz
  have HQ := Lib.hid hq
  obtain ⟨R, hR⟩ : ∃ R, R = madeF fs := ⟨_, rfl⟩
  rw [← hR] at HQ ⊢
  have HR := Lib.hid hR
  clear h hz hq hR
  go_enter Tryd.func9, Tryd.ntmps9
  go_upto_region 1 with fail
  obtain ⟨w2, hw2⟩ : ∃ w2, w2 = w.alloc (.cells #[.string ⟨#[]⟩, .string ⟨#[]⟩, .string ⟨#[]⟩, .string ⟨#[]⟩, .slice none 0 0, .int .i64 0] 24) := ⟨_, rfl⟩
  obtain ⟨g2, hg2⟩ : ∃ g2, g2 = w.heap.size := ⟨_, rfl⟩
  have HH2 : Hid (Has w2 g2 24 rq0C) := Lib.hid (by rw [hw2, hg2]; exact Has.new w 24 rq0C.toArray)
  have HB2 : Hid (Below w.heap.size w w2) := Lib.hid (by rw [hw2]; exact (Below.refl _ w).alloc (Nat.le_refl _) _)
  have HG2 : Hid (w.heap.size ≤ g2) := Lib.hid (by rw [hg2]; exact Nat.le_refl _)
  have HCk := Lib.hid (check_any w2 (HS.out.below HB2.out) HZ.out 1048576 1073741824)
  have hck : chkF fs 1048576 1073741824 = R := by rw [HR.out, madeF]
  rw [hck] at HCk
  clear hck
  rw [← hw2, ← hg2]
  clear hw2 hg2
  go_wp2_with fail
  refine HCk.out.mono ?_
  rintro e w3 ⟨a3, c3, rfl, hs3, hb3⟩
  obtain ⟨⟨me, sc, au, pa, fl, len⟩, er⟩ := R
  obtain ⟨k, hk⟩ : ∃ k, k = fl.length := ⟨_, rfl⟩
  have HK := Lib.hid hk
  unfold rqV
  simp only at hs3 HQ ⊢
  rw [← hk]
  have HS3 := Lib.hid hs3
  have HB3 : Hid (Below w.heap.size w w3) := Lib.hid (HB2.out.trans (hb3.mono HB2.out.size))
  have HH3 : Hid (Has w3 g2 24 rq0C) := Lib.hid (HH2.out.kept (Kept.of_below (X := none') hb3) (fun h => h))
  clear hs3 hb3 hk
  go_upto_region 2 with fail
  obtain ⟨w4, hw4⟩ : ∃ w4, w4 = w3.alloc (.cells #[.string me, .string sc, .string au, .string pa, .slice a3 k c3, .int .i64 len] 34) := ⟨_, rfl⟩
  obtain ⟨g4, hg4⟩ : ∃ g4, g4 = w3.heap.size := ⟨_, rfl⟩
  have hb4 : Below w3.heap.size w3 w4.drew := by
    have h1 : Below w3.heap.size w3 w4 := by rw [hw4]; exact (Below.refl _ w3).alloc (Nat.le_refl _) _
    exact h1.trans ((below_drewN (Below.refl w4.heap.size w4) 1).mono h1.size)
  have hR4 : Has w4.drew g4 34 (rqC me sc au pa a3 k c3 len) := by
    have h1 : Has w4 g4 34 (rqC me sc au pa a3 k c3 len) := by rw [hw4, hg4]; exact Has.new w3 34 (rqC me sc au pa a3 k c3 len).toArray
    exact h1.kept (Kept.of_below (X := none') (below_drewN (Below.refl w4.heap.size w4) 1)) (fun h => h)
  have HR4 := Lib.hid hR4
  have HG24 : Hid (g4 ≠ g2) := Lib.hid (by rw [hg4]; exact Nat.ne_of_gt HH3.out.lt)
  have HH4 : Hid (Has w4.drew g2 24 rq0C) := Lib.hid (HH3.out.kept (Kept.of_below (X := none') hb4) (fun h => h))
  have HB4 : Hid (Below w.heap.size w w4.drew) := Lib.hid (HB3.out.trans (hb4.mono HB3.out.size))
  have HS4 : Hid (SlS w4.drew a3 k c3 fl) := Lib.hid (by
    have h := HS3.out.sl
    rw [← HK.out] at h
    exact h.below hb4)
  have HCp := Lib.hid (copys_any w4.drew HS4.out (by rw [HK.out]; have := HQ.out; omega))
  have HSt : Hid (Sat [(⟨g4, 0, none⟩, .string me), (⟨g4, 1, none⟩, .string sc), (⟨g4, 2, none⟩, .string au), (⟨g4, 3, none⟩, .string pa), (⟨g4, 4, none⟩, .slice a3 k c3), (⟨g4, 5, none⟩, .int .i64 len)] w4.drew) := Lib.hid (Sat.cons (hR4.cell 0 rfl) (Sat.cons (hR4.cell 1 rfl) (Sat.cons (hR4.cell 2 rfl) (Sat.cons (hR4.cell 3 rfl) (Sat.cons (hR4.cell 4 rfl) (Sat.cons (hR4.cell 5 rfl) (Sat.nil _)))))))
  rw [← hw4, ← hg4]
  clear hw4 hg4 hb4 hR4
  refine Mx.region [] (Sat [(⟨g4, 0, none⟩, .string me), (⟨g4, 1, none⟩, .string sc), (⟨g4, 2, none⟩, .string au), (⟨g4, 3, none⟩, .string pa), (⟨g4, 4, none⟩, .slice a3 k c3), (⟨g4, 5, none⟩, .int .i64 len)]) (by kernel_rfl) (by kernel_rfl) HSt.out ?_
  repeat ((first | (refine Mx.skips (by kernel_rfl) ?_; go_big_quiet_skip) | (refine Mx.quietly rfl ?_; go_big_quiet_want; go_big_quiet_op; go_big_quiet_on)); refine Mx.done ?_)
  refine Mx.cell ⟨g4, 0, none⟩ (.string me) (by kernel_rfl) (by kernel_rfl) (by kernel_rfl) Tryd.isAgg9 (fun w' h => h 0 _ _ rfl) ?_
  go_big_quiet_want; go_big_quiet_op; go_big_quiet_on; refine Mx.done ?_
  repeat ((first | (refine Mx.skips (by kernel_rfl) ?_; go_big_quiet_skip) | (refine Mx.quietly rfl ?_; go_big_quiet_want; go_big_quiet_op; go_big_quiet_on)); refine Mx.done ?_)
  refine Mx.cell ⟨g4, 1, none⟩ (.string sc) (by kernel_rfl) (by kernel_rfl) (by kernel_rfl) Tryd.isAgg9 (fun w' h => h 1 _ _ rfl) ?_
  go_big_quiet_want; go_big_quiet_op; go_big_quiet_on; refine Mx.done ?_
  repeat ((first | (refine Mx.skips (by kernel_rfl) ?_; go_big_quiet_skip) | (refine Mx.quietly rfl ?_; go_big_quiet_want; go_big_quiet_op; go_big_quiet_on)); refine Mx.done ?_)
  refine Mx.cell ⟨g4, 2, none⟩ (.string au) (by kernel_rfl) (by kernel_rfl) (by kernel_rfl) Tryd.isAgg9 (fun w' h => h 2 _ _ rfl) ?_
  go_big_quiet_want; go_big_quiet_op; go_big_quiet_on; refine Mx.done ?_
  repeat ((first | (refine Mx.skips (by kernel_rfl) ?_; go_big_quiet_skip) | (refine Mx.quietly rfl ?_; go_big_quiet_want; go_big_quiet_op; go_big_quiet_on)); refine Mx.done ?_)
  refine Mx.cell ⟨g4, 3, none⟩ (.string pa) (by kernel_rfl) (by kernel_rfl) (by kernel_rfl) Tryd.isAgg9 (fun w' h => h 3 _ _ rfl) ?_
  go_big_quiet_want; go_big_quiet_op; go_big_quiet_on; refine Mx.done ?_
  repeat ((first | (refine Mx.skips (by kernel_rfl) ?_; go_big_quiet_skip) | (refine Mx.quietly rfl ?_; go_big_quiet_want; go_big_quiet_op; go_big_quiet_on)); refine Mx.done ?_)
  refine Mx.cell ⟨g4, 4, none⟩ (.slice a3 k c3) (by kernel_rfl) (by kernel_rfl) (by kernel_rfl) Tryd.isAgg22 (fun w' h => h 4 _ _ rfl) ?_
  go_big_quiet_want; go_big_quiet_op; go_big_quiet_on; refine Mx.done ?_
  repeat ((first | (refine Mx.skips (by kernel_rfl) ?_; go_big_quiet_skip) | (refine Mx.quietly rfl ?_; go_big_quiet_want; go_big_quiet_op; go_big_quiet_on)); refine Mx.done ?_)
  refine Mx.loudly (by kernel_rfl) (by kernel_rfl) ?_
  go_wp2_with fail
  refine HCp.out.mono ?_
  rintro e w6 ⟨a6, c6, he, ho6, hb6⟩
  obtain rfl : e = .returned (.slice a6 k c6) := by rw [he, HK.out]
  have HR6 : Hid (Has w6 g4 34 (rqC me sc au pa a3 k c3 len)) := Lib.hid (HR4.out.kept (Kept.of_below (X := none') hb6) (fun h => h))
  have HH6 : Hid (Has w6 g2 24 rq0C) := Lib.hid (HH4.out.kept (Kept.of_below (X := none') hb6) (fun h => h))
  have HB6 : Hid (Below w.heap.size w w6) := Lib.hid (HB4.out.trans (hb6.mono HB4.out.size))
  have HO6 := Lib.hid ho6
  have HSt6 : Hid (Sat [(⟨g4, 0, none⟩, .string me), (⟨g4, 1, none⟩, .string sc), (⟨g4, 2, none⟩, .string au), (⟨g4, 3, none⟩, .string pa), (⟨g4, 4, none⟩, .slice a3 k c3), (⟨g4, 5, none⟩, .int .i64 len)] w6) := Lib.hid (Sat.cons (HR6.out.cell 0 rfl) (Sat.cons (HR6.out.cell 1 rfl) (Sat.cons (HR6.out.cell 2 rfl) (Sat.cons (HR6.out.cell 3 rfl) (Sat.cons (HR6.out.cell 4 rfl) (Sat.cons (HR6.out.cell 5 rfl) (Sat.nil _)))))))
  clear hb6 ho6 he
  go_wp2_with fail
  refine ⟨HSt6.out, ?_⟩
  repeat ((first | (refine Mx.skips (by kernel_rfl) ?_; go_big_quiet_skip) | (refine Mx.quietly rfl ?_; go_big_quiet_want; go_big_quiet_op; go_big_quiet_on)); refine Mx.done ?_)
  refine Mx.cell ⟨g4, 5, none⟩ (.int .i64 len) (by kernel_rfl) (by kernel_rfl) (by kernel_rfl) Tryd.isAgg3 (fun w' h => h 5 _ _ rfl) ?_
  go_big_quiet_want; go_big_quiet_op; go_big_quiet_on; refine Mx.done ?_
  repeat ((first | (refine Mx.skips (by kernel_rfl) ?_; go_big_quiet_skip) | (refine Mx.quietly rfl ?_; go_big_quiet_want; go_big_quiet_op; go_big_quiet_on)); refine Mx.done ?_)
  refine Mx.loudly (by kernel_rfl) (by kernel_rfl) ?_
  have hth := HH6.out.there (n := 6) rfl
  have ho1 := rqC_one me sc au pa a6 k c6 len
  obtain ⟨W, hW⟩ : ∃ W, W = w6.setCells g2 0 (rqC me sc au pa a6 k c6 len) := ⟨_, rfl⟩
  have hRW : Has W g4 34 (rqC me sc au pa a3 k c3 len) := by rw [hW]; exact HR6.out.kept (Kept.sets g2 _ 0 w6) HG24.out
  have HStW : Hid (Sat [(⟨g4, 0, none⟩, .string me), (⟨g4, 1, none⟩, .string sc), (⟨g4, 2, none⟩, .string au), (⟨g4, 3, none⟩, .string pa), (⟨g4, 4, none⟩, .slice a3 k c3), (⟨g4, 5, none⟩, .int .i64 len)] W) := Lib.hid (Sat.cons (hRW.cell 0 rfl) (Sat.cons (hRW.cell 1 rfl) (Sat.cons (hRW.cell 2 rfl) (Sat.cons (hRW.cell 3 rfl) (Sat.cons (hRW.cell 4 rfl) (Sat.cons (hRW.cell 5 rfl) (Sat.nil _)))))))
  have HHW : Hid (Has W g2 24 (rqC me sc au pa a6 k c6 len)) := Lib.hid (by rw [hW]; exact HH6.out.store rfl)
  have HBW : Hid (Below w.heap.size w W) := Lib.hid (by rw [hW]; exact HB6.out.trans ((Kept.sets g2 _ 0 w6).below HB6.out.size (fun q hq => by rw [hq]; exact HG2.out)))
  have HSW : Hid (SlS W a6 fl.length c6 fl) := Lib.hid (by rw [hW]; exact Sps.sl (own_kept HO6.out (Kept.sets g2 _ 0 w6) (fun q hq e => own_nbox HO6.out HH6.out (by decide) hq e)))
  have HWe := Lib.hid hW
  clear hW hRW
  go_wp2_with (refine wpList_store_mid rfl 24 (.tmp 2) (.tmp 24) rfl g2 0 #[.string me, .string sc, .string au, .string pa, .slice a6 k c6, .int .i64 len] rfl rfl hth infoMq ho1 ?_)
  rw [show w6.setCells g2 0 (#[.string me, .string sc, .string au, .string pa, .slice a6 k c6, .int .i64 len] : Array Value).toList = W from HWe.out.symm]
  refine ⟨HStW.out, ?_⟩
  repeat ((first | (refine Mx.skips (by kernel_rfl) ?_; go_big_quiet_skip) | (refine Mx.quietly rfl ?_; go_big_quiet_want; go_big_quiet_op; go_big_quiet_on)); refine Mx.done ?_)
  refine Mx.nil ?_
  go_wp2_with fail
  refine bodyPost_ret (results_mq2 rfl _ rfl HHW.out rfl) rfl ?_
  refine ⟨a6, c6, ?_, HSW.out, HBW.out⟩
  show Ending.returned _ = Ending.returned (.tuple #[.agg #[.string me, .string sc, .string au, .string pa, .slice a6 fl.length c6, .int .i64 len], .bool (er == 0)])
  rw [← HK.out]
  rfl
end Go.Proofs.YtohinaohcndndaaDoor

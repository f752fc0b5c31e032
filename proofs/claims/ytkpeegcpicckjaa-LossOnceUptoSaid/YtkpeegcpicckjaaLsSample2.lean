/- Loss detection: contract of sample, where there was one before. -/
import Derived.Test.YtkpeegcpicckjaaLsSample
namespace Go.Proofs.Ytkpeegcpicckjaa
open Go.RowKit

set_option maxRecDepth 100000 in
set_option maxHeartbeats 4000000 in
theorem sample_old (w : World) {F : Nat → Prop} {g : Nat} {L : Lo} (hL : LAt F w g L) (latest cut : Int) (h1 : 0 ≤ latest ∧ latest ≤ 1099511627776) (h2 : 0 ≤ cut ∧ cut ≤ 16383) (hs : L.sampled = true)
    (b1 : 0 ≤ L.least ∧ L.least ≤ 1099511627776) (b2 : 0 ≤ L.smooth ∧ L.smooth ≤ 1099511627776) (b3 : 0 ≤ L.vary ∧ L.vary ≤ 1099511627776) :
    Calls Try.prog 32 #[.pointer (some ⟨g, 0, none⟩), .int .i64 latest, .int .i64 cut] w (Done0 F w g (L.sample2 latest cut)) := by
  obtain ⟨ml, hml⟩ : ∃ ml, ml = min L.least latest := ⟨_, rfl⟩
  obtain ⟨lt, hlt⟩ : ∃ lt, lt = L.lean latest cut := ⟨_, rfl⟩
  obtain ⟨mx, hmx⟩ : ∃ mx, mx = max (L.smooth - lt) (lt - L.smooth) := ⟨_, rfl⟩
  have HE : Hid (L.sample2 latest cut = { L with latest := latest, least := ml, vary := (3 * L.vary + mx) / 4, smooth := (7 * L.smooth + lt) / 8 }) := Lib.hid (by unfold Lo.sample2; rw [hmx, hlt, hml])
  have hlt2 : (ml + cut ≤ latest ∧ lt = latest - cut) ∨ (¬ ml + cut ≤ latest ∧ latest = lt) := by
    rw [hlt, hml]
    unfold Lo.lean
    split
    · rename_i h; exact .inl ⟨h, rfl⟩
    · rename_i h; exact .inr ⟨h, rfl⟩
  have hlb : 0 ≤ lt ∧ lt ≤ 1099511627776 := by omega
  have hml2 : (L.least ≤ latest ∧ ml = L.least) ∨ (latest < L.least ∧ latest = ml) := by omega
  have hmx2 : (lt - L.smooth ≤ L.smooth - lt ∧ mx = L.smooth - lt) ∨ (L.smooth - lt < lt - L.smooth ∧ mx = lt - L.smooth) := by omega
  clear hml hlt hmx
  obtain ⟨c18, f18⟩ := hL.cell 18 (v := .int .i64 L.latest) (fun _ _ _ _ _ _ => rfl)
  obtain ⟨k1, L1⟩ := hL.set' (L' := { L with latest := latest }) 18 (.int .i64 latest) rfl rfl rfl (fun _ _ _ _ _ _ => rfl)
  obtain ⟨c17, f17⟩ := L1.cell 17 (v := .bool L.sampled) (fun _ _ _ _ _ _ => rfl)
  obtain ⟨c19, f19⟩ := L1.cell 19 (v := .int .i64 L.least) (fun _ _ _ _ _ _ => rfl)
  obtain ⟨k2, L2⟩ := L1.set' (L' := { L with latest := latest, least := ml }) 19 (.int .i64 ml) rfl rfl rfl (fun _ _ _ _ _ _ => rfl)
  have d19 := (L2.cell 19 (v := .int .i64 ml) (fun _ _ _ _ _ _ => rfl)).1
  have K2 := k1.trans k2 (fun _ _ h => h)
  rw [hs] at c17
  have f1 : IntKind.i64.wrap (ml + cut) = ml + cut := by rw [IntKind.wrap_i64]; omega
  have f2 : IntKind.i64.wrap (latest - cut) = latest - cut := by rw [IntKind.wrap_i64]; omega
  have f3 : IntKind.i64.wrap (3 * L.vary) = 3 * L.vary := by rw [IntKind.wrap_i64]; omega
  have f4 : IntKind.i64.wrap (L.smooth - lt) = L.smooth - lt := by rw [IntKind.wrap_i64]; omega
  have f5 : IntKind.i64.wrap (lt - L.smooth) = lt - L.smooth := by rw [IntKind.wrap_i64]; omega
  have f6 : IntKind.i64.wrap (3 * L.vary + mx) = 3 * L.vary + mx := by rw [IntKind.wrap_i64]; omega
  have f7 : IntKind.i64.wrap (7 * L.smooth) = 7 * L.smooth := by rw [IntKind.wrap_i64]; omega
  have f8 : IntKind.i64.wrap (7 * L.smooth + lt) = 7 * L.smooth + lt := by rw [IntKind.wrap_i64]; omega
  have hmxb : 0 ≤ mx := by omega
  have HL2 := Lib.hid L2
  clear hs hL L1 L2 k1 k2
  rcases hml2 with ⟨m1, rfl⟩ | ⟨m1, rfl⟩
  · rcases hlt2 with ⟨m2, rfl⟩ | ⟨m2, rfl⟩
    · rcases hmx2 with ⟨m3, rfl⟩ | ⟨m3, rfl⟩
      · as_aux_lemma =>
          have L2 := HL2.out
          go_enter Try.func32, Try.ntmps32
          go_wp2_with fail
          generalize (w.setCell ⟨g, 18, none⟩ (.int .i64 latest)).setCell ⟨g, 19, none⟩ (.int .i64 L.least) = v2 at *
          have L3 := L2.below (below_drewN (Below.refl _ v2) 1)
          have K3 := K2.trans (Kept.of_below (X := none') (below_drewN (Below.refl _ v2) 1)) (fun _ _ h => h.elim)
          have x20 : v2.drew.cell? ⟨g, 20, none⟩ = some (.int .i64 L.smooth) := (L3.cell 20 (fun _ _ _ _ _ _ => rfl)).1
          have x21 : v2.drew.cell? ⟨g, 21, none⟩ = some (.int .i64 L.vary) := (L3.cell 21 (fun _ _ _ _ _ _ => rfl)).1
          have x21f : v2.drew.frozen? ⟨g, 21, none⟩ = false := (L3.cell 21 (v := .int .i64 L.vary) (fun _ _ _ _ _ _ => rfl)).2
          obtain ⟨k4, L4⟩ := L3.set' (L' := { L with latest := latest, least := L.least, vary := ((3 * L.vary + (L.smooth - (latest - cut))) / 4) }) 21 (.int .i64 ((3 * L.vary + (L.smooth - (latest - cut))) / 4)) rfl rfl rfl (fun _ _ _ _ _ _ => rfl)
          have y20 : (v2.setCell ⟨g, 21, none⟩ (.int .i64 ((3 * L.vary + (L.smooth - (latest - cut))) / 4))).drew.cell? ⟨g, 20, none⟩ = some (.int .i64 L.smooth) := (L4.cell 20 (fun _ _ _ _ _ _ => rfl)).1
          have y20f : (v2.setCell ⟨g, 21, none⟩ (.int .i64 ((3 * L.vary + (L.smooth - (latest - cut))) / 4))).drew.frozen? ⟨g, 20, none⟩ = false := (L4.cell 20 (v := .int .i64 L.smooth) (fun _ _ _ _ _ _ => rfl)).2
          obtain ⟨k5, L5⟩ := L4.set' (L' := { L with latest := latest, least := L.least, vary := ((3 * L.vary + (L.smooth - (latest - cut))) / 4), smooth := ((7 * L.smooth + (latest - cut)) / 8) }) 20 (.int .i64 ((7 * L.smooth + (latest - cut)) / 8)) rfl rfl rfl (fun _ _ _ _ _ _ => rfl)
          have HRES : Hid (Kept (fun k => k = g) w ((v2.setCell ⟨g, 21, none⟩ (.int .i64 ((3 * L.vary + (L.smooth - (latest - cut))) / 4))).setCell ⟨g, 20, none⟩ (.int .i64 ((7 * L.smooth + (latest - cut)) / 8))).drew ∧ LAt F ((v2.setCell ⟨g, 21, none⟩ (.int .i64 ((3 * L.vary + (L.smooth - (latest - cut))) / 4))).setCell ⟨g, 20, none⟩ (.int .i64 ((7 * L.smooth + (latest - cut)) / 8))).drew g (L.sample2 latest cut)) := Lib.hid ⟨(K3.trans k4 (fun _ _ h => h)).trans k5 (fun _ _ h => h), by rw [HE.out]; exact L5⟩
          clear L2 L3 L4 L5 k4 k5 K3
          refine Mx.regionZ [] (fun w' => w'.cell? ⟨g, 20, none⟩ = some (.int .i64 L.smooth) ∧ w'.cell? ⟨g, 21, none⟩ = some (.int .i64 L.vary)) (by kernel_rfl) (by kernel_rfl) ⟨x20, x21⟩ ?_
          repeat ((first | (refine Mx.skips (by kernel_rfl) ?_; go_big_quiet_skip) | (refine Mx.quietly rfl ?_; go_big_quiet_want; go_big_quiet_op; go_big_quiet_on)); refine Mx.done ?_)
          refine Mx.cell ⟨g, 21, none⟩ (.int .i64 L.vary) (by kernel_rfl) (by kernel_rfl) (by kernel_rfl) Try.isAgg3 (fun w' h => h.2) ?_
          go_big_quiet_want; go_big_quiet_op; go_big_quiet_on; refine Mx.done ?_
          repeat ((first | (refine Mx.skips (by kernel_rfl) ?_; go_big_quiet_skip) | (refine Mx.quietly rfl ?_; go_big_quiet_want; go_big_quiet_op; go_big_quiet_on)); refine Mx.done ?_)
          refine Mx.cell ⟨g, 20, none⟩ (.int .i64 L.smooth) (by kernel_rfl) (by kernel_rfl) (by kernel_rfl) Try.isAgg3 (fun w' h => h.1) ?_
          go_big_quiet_want; go_big_quiet_op; go_big_quiet_on; refine Mx.done ?_
          repeat ((first | (refine Mx.skips (by kernel_rfl) ?_; go_big_quiet_skip) | (refine Mx.quietly rfl ?_; go_big_quiet_want; go_big_quiet_op; go_big_quiet_on)); refine Mx.done ?_)
          refine Mx.cell ⟨g, 20, none⟩ (.int .i64 L.smooth) (by kernel_rfl) (by kernel_rfl) (by kernel_rfl) Try.isAgg3 (fun w' h => h.1) ?_
          go_big_quiet_want; go_big_quiet_op; go_big_quiet_on; refine Mx.done ?_
          repeat ((first | (refine Mx.skips (by kernel_rfl) ?_; go_big_quiet_skip) | (refine Mx.quietly rfl ?_; go_big_quiet_want; go_big_quiet_op; go_big_quiet_on)); refine Mx.done ?_)
          refine Mx.atLast (by kernel_rfl) (by kernel_rfl) ?_
          go_wp2_with fail
          (try simp only [Exit.inBlock, Exit.then]); refine bodyPost_ret (results_none rfl _ _ _) rfl ?_
          exact ⟨rfl, HRES.out.1, HRES.out.2⟩
      · as_aux_lemma =>
          have L2 := HL2.out
          go_enter Try.func32, Try.ntmps32
          go_wp2_with fail
          generalize (w.setCell ⟨g, 18, none⟩ (.int .i64 latest)).setCell ⟨g, 19, none⟩ (.int .i64 L.least) = v2 at *
          have L3 := L2.below (below_drewN (Below.refl _ v2) 1)
          have K3 := K2.trans (Kept.of_below (X := none') (below_drewN (Below.refl _ v2) 1)) (fun _ _ h => h.elim)
          have x20 : v2.drew.cell? ⟨g, 20, none⟩ = some (.int .i64 L.smooth) := (L3.cell 20 (fun _ _ _ _ _ _ => rfl)).1
          have x21 : v2.drew.cell? ⟨g, 21, none⟩ = some (.int .i64 L.vary) := (L3.cell 21 (fun _ _ _ _ _ _ => rfl)).1
          have x21f : v2.drew.frozen? ⟨g, 21, none⟩ = false := (L3.cell 21 (v := .int .i64 L.vary) (fun _ _ _ _ _ _ => rfl)).2
          obtain ⟨k4, L4⟩ := L3.set' (L' := { L with latest := latest, least := L.least, vary := ((3 * L.vary + ((latest - cut) - L.smooth)) / 4) }) 21 (.int .i64 ((3 * L.vary + ((latest - cut) - L.smooth)) / 4)) rfl rfl rfl (fun _ _ _ _ _ _ => rfl)
          have y20 : (v2.setCell ⟨g, 21, none⟩ (.int .i64 ((3 * L.vary + ((latest - cut) - L.smooth)) / 4))).drew.cell? ⟨g, 20, none⟩ = some (.int .i64 L.smooth) := (L4.cell 20 (fun _ _ _ _ _ _ => rfl)).1
          have y20f : (v2.setCell ⟨g, 21, none⟩ (.int .i64 ((3 * L.vary + ((latest - cut) - L.smooth)) / 4))).drew.frozen? ⟨g, 20, none⟩ = false := (L4.cell 20 (v := .int .i64 L.smooth) (fun _ _ _ _ _ _ => rfl)).2
          obtain ⟨k5, L5⟩ := L4.set' (L' := { L with latest := latest, least := L.least, vary := ((3 * L.vary + ((latest - cut) - L.smooth)) / 4), smooth := ((7 * L.smooth + (latest - cut)) / 8) }) 20 (.int .i64 ((7 * L.smooth + (latest - cut)) / 8)) rfl rfl rfl (fun _ _ _ _ _ _ => rfl)
          have HRES : Hid (Kept (fun k => k = g) w ((v2.setCell ⟨g, 21, none⟩ (.int .i64 ((3 * L.vary + ((latest - cut) - L.smooth)) / 4))).setCell ⟨g, 20, none⟩ (.int .i64 ((7 * L.smooth + (latest - cut)) / 8))).drew ∧ LAt F ((v2.setCell ⟨g, 21, none⟩ (.int .i64 ((3 * L.vary + ((latest - cut) - L.smooth)) / 4))).setCell ⟨g, 20, none⟩ (.int .i64 ((7 * L.smooth + (latest - cut)) / 8))).drew g (L.sample2 latest cut)) := Lib.hid ⟨(K3.trans k4 (fun _ _ h => h)).trans k5 (fun _ _ h => h), by rw [HE.out]; exact L5⟩
          clear L2 L3 L4 L5 k4 k5 K3
          refine Mx.regionZ [] (fun w' => w'.cell? ⟨g, 20, none⟩ = some (.int .i64 L.smooth) ∧ w'.cell? ⟨g, 21, none⟩ = some (.int .i64 L.vary)) (by kernel_rfl) (by kernel_rfl) ⟨x20, x21⟩ ?_
          repeat ((first | (refine Mx.skips (by kernel_rfl) ?_; go_big_quiet_skip) | (refine Mx.quietly rfl ?_; go_big_quiet_want; go_big_quiet_op; go_big_quiet_on)); refine Mx.done ?_)
          refine Mx.cell ⟨g, 21, none⟩ (.int .i64 L.vary) (by kernel_rfl) (by kernel_rfl) (by kernel_rfl) Try.isAgg3 (fun w' h => h.2) ?_
          go_big_quiet_want; go_big_quiet_op; go_big_quiet_on; refine Mx.done ?_
          repeat ((first | (refine Mx.skips (by kernel_rfl) ?_; go_big_quiet_skip) | (refine Mx.quietly rfl ?_; go_big_quiet_want; go_big_quiet_op; go_big_quiet_on)); refine Mx.done ?_)
          refine Mx.cell ⟨g, 20, none⟩ (.int .i64 L.smooth) (by kernel_rfl) (by kernel_rfl) (by kernel_rfl) Try.isAgg3 (fun w' h => h.1) ?_
          go_big_quiet_want; go_big_quiet_op; go_big_quiet_on; refine Mx.done ?_
          repeat ((first | (refine Mx.skips (by kernel_rfl) ?_; go_big_quiet_skip) | (refine Mx.quietly rfl ?_; go_big_quiet_want; go_big_quiet_op; go_big_quiet_on)); refine Mx.done ?_)
          refine Mx.cell ⟨g, 20, none⟩ (.int .i64 L.smooth) (by kernel_rfl) (by kernel_rfl) (by kernel_rfl) Try.isAgg3 (fun w' h => h.1) ?_
          go_big_quiet_want; go_big_quiet_op; go_big_quiet_on; refine Mx.done ?_
          repeat ((first | (refine Mx.skips (by kernel_rfl) ?_; go_big_quiet_skip) | (refine Mx.quietly rfl ?_; go_big_quiet_want; go_big_quiet_op; go_big_quiet_on)); refine Mx.done ?_)
          refine Mx.atLast (by kernel_rfl) (by kernel_rfl) ?_
          go_wp2_with fail
          (try simp only [Exit.inBlock, Exit.then]); refine bodyPost_ret (results_none rfl _ _ _) rfl ?_
          exact ⟨rfl, HRES.out.1, HRES.out.2⟩
    · rcases hmx2 with ⟨m3, rfl⟩ | ⟨m3, rfl⟩
      · as_aux_lemma =>
          have L2 := HL2.out
          go_enter Try.func32, Try.ntmps32
          go_wp2_with fail
          generalize (w.setCell ⟨g, 18, none⟩ (.int .i64 latest)).setCell ⟨g, 19, none⟩ (.int .i64 L.least) = v2 at *
          have L3 := L2.below (below_drewN (Below.refl _ v2) 1)
          have K3 := K2.trans (Kept.of_below (X := none') (below_drewN (Below.refl _ v2) 1)) (fun _ _ h => h.elim)
          have x20 : v2.drew.cell? ⟨g, 20, none⟩ = some (.int .i64 L.smooth) := (L3.cell 20 (fun _ _ _ _ _ _ => rfl)).1
          have x21 : v2.drew.cell? ⟨g, 21, none⟩ = some (.int .i64 L.vary) := (L3.cell 21 (fun _ _ _ _ _ _ => rfl)).1
          have x21f : v2.drew.frozen? ⟨g, 21, none⟩ = false := (L3.cell 21 (v := .int .i64 L.vary) (fun _ _ _ _ _ _ => rfl)).2
          obtain ⟨k4, L4⟩ := L3.set' (L' := { L with latest := latest, least := L.least, vary := ((3 * L.vary + (L.smooth - latest)) / 4) }) 21 (.int .i64 ((3 * L.vary + (L.smooth - latest)) / 4)) rfl rfl rfl (fun _ _ _ _ _ _ => rfl)
          have y20 : (v2.setCell ⟨g, 21, none⟩ (.int .i64 ((3 * L.vary + (L.smooth - latest)) / 4))).drew.cell? ⟨g, 20, none⟩ = some (.int .i64 L.smooth) := (L4.cell 20 (fun _ _ _ _ _ _ => rfl)).1
          have y20f : (v2.setCell ⟨g, 21, none⟩ (.int .i64 ((3 * L.vary + (L.smooth - latest)) / 4))).drew.frozen? ⟨g, 20, none⟩ = false := (L4.cell 20 (v := .int .i64 L.smooth) (fun _ _ _ _ _ _ => rfl)).2
          obtain ⟨k5, L5⟩ := L4.set' (L' := { L with latest := latest, least := L.least, vary := ((3 * L.vary + (L.smooth - latest)) / 4), smooth := ((7 * L.smooth + latest) / 8) }) 20 (.int .i64 ((7 * L.smooth + latest) / 8)) rfl rfl rfl (fun _ _ _ _ _ _ => rfl)
          have HRES : Hid (Kept (fun k => k = g) w ((v2.setCell ⟨g, 21, none⟩ (.int .i64 ((3 * L.vary + (L.smooth - latest)) / 4))).setCell ⟨g, 20, none⟩ (.int .i64 ((7 * L.smooth + latest) / 8))).drew ∧ LAt F ((v2.setCell ⟨g, 21, none⟩ (.int .i64 ((3 * L.vary + (L.smooth - latest)) / 4))).setCell ⟨g, 20, none⟩ (.int .i64 ((7 * L.smooth + latest) / 8))).drew g (L.sample2 latest cut)) := Lib.hid ⟨(K3.trans k4 (fun _ _ h => h)).trans k5 (fun _ _ h => h), by rw [HE.out]; exact L5⟩
          clear L2 L3 L4 L5 k4 k5 K3
          refine Mx.regionZ [] (fun w' => w'.cell? ⟨g, 20, none⟩ = some (.int .i64 L.smooth) ∧ w'.cell? ⟨g, 21, none⟩ = some (.int .i64 L.vary)) (by kernel_rfl) (by kernel_rfl) ⟨x20, x21⟩ ?_
          repeat ((first | (refine Mx.skips (by kernel_rfl) ?_; go_big_quiet_skip) | (refine Mx.quietly rfl ?_; go_big_quiet_want; go_big_quiet_op; go_big_quiet_on)); refine Mx.done ?_)
          refine Mx.cell ⟨g, 21, none⟩ (.int .i64 L.vary) (by kernel_rfl) (by kernel_rfl) (by kernel_rfl) Try.isAgg3 (fun w' h => h.2) ?_
          go_big_quiet_want; go_big_quiet_op; go_big_quiet_on; refine Mx.done ?_
          repeat ((first | (refine Mx.skips (by kernel_rfl) ?_; go_big_quiet_skip) | (refine Mx.quietly rfl ?_; go_big_quiet_want; go_big_quiet_op; go_big_quiet_on)); refine Mx.done ?_)
          refine Mx.cell ⟨g, 20, none⟩ (.int .i64 L.smooth) (by kernel_rfl) (by kernel_rfl) (by kernel_rfl) Try.isAgg3 (fun w' h => h.1) ?_
          go_big_quiet_want; go_big_quiet_op; go_big_quiet_on; refine Mx.done ?_
          repeat ((first | (refine Mx.skips (by kernel_rfl) ?_; go_big_quiet_skip) | (refine Mx.quietly rfl ?_; go_big_quiet_want; go_big_quiet_op; go_big_quiet_on)); refine Mx.done ?_)
          refine Mx.cell ⟨g, 20, none⟩ (.int .i64 L.smooth) (by kernel_rfl) (by kernel_rfl) (by kernel_rfl) Try.isAgg3 (fun w' h => h.1) ?_
          go_big_quiet_want; go_big_quiet_op; go_big_quiet_on; refine Mx.done ?_
          repeat ((first | (refine Mx.skips (by kernel_rfl) ?_; go_big_quiet_skip) | (refine Mx.quietly rfl ?_; go_big_quiet_want; go_big_quiet_op; go_big_quiet_on)); refine Mx.done ?_)
          refine Mx.atLast (by kernel_rfl) (by kernel_rfl) ?_
          go_wp2_with fail
          (try simp only [Exit.inBlock, Exit.then]); refine bodyPost_ret (results_none rfl _ _ _) rfl ?_
          exact ⟨rfl, HRES.out.1, HRES.out.2⟩
      · as_aux_lemma =>
          have L2 := HL2.out
          go_enter Try.func32, Try.ntmps32
          go_wp2_with fail
          generalize (w.setCell ⟨g, 18, none⟩ (.int .i64 latest)).setCell ⟨g, 19, none⟩ (.int .i64 L.least) = v2 at *
          have L3 := L2.below (below_drewN (Below.refl _ v2) 1)
          have K3 := K2.trans (Kept.of_below (X := none') (below_drewN (Below.refl _ v2) 1)) (fun _ _ h => h.elim)
          have x20 : v2.drew.cell? ⟨g, 20, none⟩ = some (.int .i64 L.smooth) := (L3.cell 20 (fun _ _ _ _ _ _ => rfl)).1
          have x21 : v2.drew.cell? ⟨g, 21, none⟩ = some (.int .i64 L.vary) := (L3.cell 21 (fun _ _ _ _ _ _ => rfl)).1
          have x21f : v2.drew.frozen? ⟨g, 21, none⟩ = false := (L3.cell 21 (v := .int .i64 L.vary) (fun _ _ _ _ _ _ => rfl)).2
          obtain ⟨k4, L4⟩ := L3.set' (L' := { L with latest := latest, least := L.least, vary := ((3 * L.vary + (latest - L.smooth)) / 4) }) 21 (.int .i64 ((3 * L.vary + (latest - L.smooth)) / 4)) rfl rfl rfl (fun _ _ _ _ _ _ => rfl)
          have y20 : (v2.setCell ⟨g, 21, none⟩ (.int .i64 ((3 * L.vary + (latest - L.smooth)) / 4))).drew.cell? ⟨g, 20, none⟩ = some (.int .i64 L.smooth) := (L4.cell 20 (fun _ _ _ _ _ _ => rfl)).1
          have y20f : (v2.setCell ⟨g, 21, none⟩ (.int .i64 ((3 * L.vary + (latest - L.smooth)) / 4))).drew.frozen? ⟨g, 20, none⟩ = false := (L4.cell 20 (v := .int .i64 L.smooth) (fun _ _ _ _ _ _ => rfl)).2
          obtain ⟨k5, L5⟩ := L4.set' (L' := { L with latest := latest, least := L.least, vary := ((3 * L.vary + (latest - L.smooth)) / 4), smooth := ((7 * L.smooth + latest) / 8) }) 20 (.int .i64 ((7 * L.smooth + latest) / 8)) rfl rfl rfl (fun _ _ _ _ _ _ => rfl)
          have HRES : Hid (Kept (fun k => k = g) w ((v2.setCell ⟨g, 21, none⟩ (.int .i64 ((3 * L.vary + (latest - L.smooth)) / 4))).setCell ⟨g, 20, none⟩ (.int .i64 ((7 * L.smooth + latest) / 8))).drew ∧ LAt F ((v2.setCell ⟨g, 21, none⟩ (.int .i64 ((3 * L.vary + (latest - L.smooth)) / 4))).setCell ⟨g, 20, none⟩ (.int .i64 ((7 * L.smooth + latest) / 8))).drew g (L.sample2 latest cut)) := Lib.hid ⟨(K3.trans k4 (fun _ _ h => h)).trans k5 (fun _ _ h => h), by rw [HE.out]; exact L5⟩
          clear L2 L3 L4 L5 k4 k5 K3
          refine Mx.regionZ [] (fun w' => w'.cell? ⟨g, 20, none⟩ = some (.int .i64 L.smooth) ∧ w'.cell? ⟨g, 21, none⟩ = some (.int .i64 L.vary)) (by kernel_rfl) (by kernel_rfl) ⟨x20, x21⟩ ?_
          repeat ((first | (refine Mx.skips (by kernel_rfl) ?_; go_big_quiet_skip) | (refine Mx.quietly rfl ?_; go_big_quiet_want; go_big_quiet_op; go_big_quiet_on)); refine Mx.done ?_)
          refine Mx.cell ⟨g, 21, none⟩ (.int .i64 L.vary) (by kernel_rfl) (by kernel_rfl) (by kernel_rfl) Try.isAgg3 (fun w' h => h.2) ?_
          go_big_quiet_want; go_big_quiet_op; go_big_quiet_on; refine Mx.done ?_
          repeat ((first | (refine Mx.skips (by kernel_rfl) ?_; go_big_quiet_skip) | (refine Mx.quietly rfl ?_; go_big_quiet_want; go_big_quiet_op; go_big_quiet_on)); refine Mx.done ?_)
          refine Mx.cell ⟨g, 20, none⟩ (.int .i64 L.smooth) (by kernel_rfl) (by kernel_rfl) (by kernel_rfl) Try.isAgg3 (fun w' h => h.1) ?_
          go_big_quiet_want; go_big_quiet_op; go_big_quiet_on; refine Mx.done ?_
          repeat ((first | (refine Mx.skips (by kernel_rfl) ?_; go_big_quiet_skip) | (refine Mx.quietly rfl ?_; go_big_quiet_want; go_big_quiet_op; go_big_quiet_on)); refine Mx.done ?_)
          refine Mx.cell ⟨g, 20, none⟩ (.int .i64 L.smooth) (by kernel_rfl) (by kernel_rfl) (by kernel_rfl) Try.isAgg3 (fun w' h => h.1) ?_
          go_big_quiet_want; go_big_quiet_op; go_big_quiet_on; refine Mx.done ?_
          repeat ((first | (refine Mx.skips (by kernel_rfl) ?_; go_big_quiet_skip) | (refine Mx.quietly rfl ?_; go_big_quiet_want; go_big_quiet_op; go_big_quiet_on)); refine Mx.done ?_)
          refine Mx.atLast (by kernel_rfl) (by kernel_rfl) ?_
          go_wp2_with fail
          (try simp only [Exit.inBlock, Exit.then]); refine bodyPost_ret (results_none rfl _ _ _) rfl ?_
          exact ⟨rfl, HRES.out.1, HRES.out.2⟩
  · rcases hlt2 with ⟨m2, rfl⟩ | ⟨m2, rfl⟩
    · rcases hmx2 with ⟨m3, rfl⟩ | ⟨m3, rfl⟩
      · as_aux_lemma =>
          have L2 := HL2.out
          go_enter Try.func32, Try.ntmps32
          go_wp2_with fail
          generalize (w.setCell ⟨g, 18, none⟩ (.int .i64 latest)).setCell ⟨g, 19, none⟩ (.int .i64 latest) = v2 at *
          have L3 := L2.below (below_drewN (Below.refl _ v2) 1)
          have K3 := K2.trans (Kept.of_below (X := none') (below_drewN (Below.refl _ v2) 1)) (fun _ _ h => h.elim)
          have x20 : v2.drew.cell? ⟨g, 20, none⟩ = some (.int .i64 L.smooth) := (L3.cell 20 (fun _ _ _ _ _ _ => rfl)).1
          have x21 : v2.drew.cell? ⟨g, 21, none⟩ = some (.int .i64 L.vary) := (L3.cell 21 (fun _ _ _ _ _ _ => rfl)).1
          have x21f : v2.drew.frozen? ⟨g, 21, none⟩ = false := (L3.cell 21 (v := .int .i64 L.vary) (fun _ _ _ _ _ _ => rfl)).2
          obtain ⟨k4, L4⟩ := L3.set' (L' := { L with latest := latest, least := latest, vary := ((3 * L.vary + (L.smooth - (latest - cut))) / 4) }) 21 (.int .i64 ((3 * L.vary + (L.smooth - (latest - cut))) / 4)) rfl rfl rfl (fun _ _ _ _ _ _ => rfl)
          have y20 : (v2.setCell ⟨g, 21, none⟩ (.int .i64 ((3 * L.vary + (L.smooth - (latest - cut))) / 4))).drew.cell? ⟨g, 20, none⟩ = some (.int .i64 L.smooth) := (L4.cell 20 (fun _ _ _ _ _ _ => rfl)).1
          have y20f : (v2.setCell ⟨g, 21, none⟩ (.int .i64 ((3 * L.vary + (L.smooth - (latest - cut))) / 4))).drew.frozen? ⟨g, 20, none⟩ = false := (L4.cell 20 (v := .int .i64 L.smooth) (fun _ _ _ _ _ _ => rfl)).2
          obtain ⟨k5, L5⟩ := L4.set' (L' := { L with latest := latest, least := latest, vary := ((3 * L.vary + (L.smooth - (latest - cut))) / 4), smooth := ((7 * L.smooth + (latest - cut)) / 8) }) 20 (.int .i64 ((7 * L.smooth + (latest - cut)) / 8)) rfl rfl rfl (fun _ _ _ _ _ _ => rfl)
          have HRES : Hid (Kept (fun k => k = g) w ((v2.setCell ⟨g, 21, none⟩ (.int .i64 ((3 * L.vary + (L.smooth - (latest - cut))) / 4))).setCell ⟨g, 20, none⟩ (.int .i64 ((7 * L.smooth + (latest - cut)) / 8))).drew ∧ LAt F ((v2.setCell ⟨g, 21, none⟩ (.int .i64 ((3 * L.vary + (L.smooth - (latest - cut))) / 4))).setCell ⟨g, 20, none⟩ (.int .i64 ((7 * L.smooth + (latest - cut)) / 8))).drew g (L.sample2 latest cut)) := Lib.hid ⟨(K3.trans k4 (fun _ _ h => h)).trans k5 (fun _ _ h => h), by rw [HE.out]; exact L5⟩
          clear L2 L3 L4 L5 k4 k5 K3
          refine Mx.regionZ [] (fun w' => w'.cell? ⟨g, 20, none⟩ = some (.int .i64 L.smooth) ∧ w'.cell? ⟨g, 21, none⟩ = some (.int .i64 L.vary)) (by kernel_rfl) (by kernel_rfl) ⟨x20, x21⟩ ?_
          repeat ((first | (refine Mx.skips (by kernel_rfl) ?_; go_big_quiet_skip) | (refine Mx.quietly rfl ?_; go_big_quiet_want; go_big_quiet_op; go_big_quiet_on)); refine Mx.done ?_)
          refine Mx.cell ⟨g, 21, none⟩ (.int .i64 L.vary) (by kernel_rfl) (by kernel_rfl) (by kernel_rfl) Try.isAgg3 (fun w' h => h.2) ?_
          go_big_quiet_want; go_big_quiet_op; go_big_quiet_on; refine Mx.done ?_
          repeat ((first | (refine Mx.skips (by kernel_rfl) ?_; go_big_quiet_skip) | (refine Mx.quietly rfl ?_; go_big_quiet_want; go_big_quiet_op; go_big_quiet_on)); refine Mx.done ?_)
          refine Mx.cell ⟨g, 20, none⟩ (.int .i64 L.smooth) (by kernel_rfl) (by kernel_rfl) (by kernel_rfl) Try.isAgg3 (fun w' h => h.1) ?_
          go_big_quiet_want; go_big_quiet_op; go_big_quiet_on; refine Mx.done ?_
          repeat ((first | (refine Mx.skips (by kernel_rfl) ?_; go_big_quiet_skip) | (refine Mx.quietly rfl ?_; go_big_quiet_want; go_big_quiet_op; go_big_quiet_on)); refine Mx.done ?_)
          refine Mx.cell ⟨g, 20, none⟩ (.int .i64 L.smooth) (by kernel_rfl) (by kernel_rfl) (by kernel_rfl) Try.isAgg3 (fun w' h => h.1) ?_
          go_big_quiet_want; go_big_quiet_op; go_big_quiet_on; refine Mx.done ?_
          repeat ((first | (refine Mx.skips (by kernel_rfl) ?_; go_big_quiet_skip) | (refine Mx.quietly rfl ?_; go_big_quiet_want; go_big_quiet_op; go_big_quiet_on)); refine Mx.done ?_)
          refine Mx.atLast (by kernel_rfl) (by kernel_rfl) ?_
          go_wp2_with fail
          (try simp only [Exit.inBlock, Exit.then]); refine bodyPost_ret (results_none rfl _ _ _) rfl ?_
          exact ⟨rfl, HRES.out.1, HRES.out.2⟩
      · as_aux_lemma =>
          have L2 := HL2.out
          go_enter Try.func32, Try.ntmps32
          go_wp2_with fail
          generalize (w.setCell ⟨g, 18, none⟩ (.int .i64 latest)).setCell ⟨g, 19, none⟩ (.int .i64 latest) = v2 at *
          have L3 := L2.below (below_drewN (Below.refl _ v2) 1)
          have K3 := K2.trans (Kept.of_below (X := none') (below_drewN (Below.refl _ v2) 1)) (fun _ _ h => h.elim)
          have x20 : v2.drew.cell? ⟨g, 20, none⟩ = some (.int .i64 L.smooth) := (L3.cell 20 (fun _ _ _ _ _ _ => rfl)).1
          have x21 : v2.drew.cell? ⟨g, 21, none⟩ = some (.int .i64 L.vary) := (L3.cell 21 (fun _ _ _ _ _ _ => rfl)).1
          have x21f : v2.drew.frozen? ⟨g, 21, none⟩ = false := (L3.cell 21 (v := .int .i64 L.vary) (fun _ _ _ _ _ _ => rfl)).2
          obtain ⟨k4, L4⟩ := L3.set' (L' := { L with latest := latest, least := latest, vary := ((3 * L.vary + ((latest - cut) - L.smooth)) / 4) }) 21 (.int .i64 ((3 * L.vary + ((latest - cut) - L.smooth)) / 4)) rfl rfl rfl (fun _ _ _ _ _ _ => rfl)
          have y20 : (v2.setCell ⟨g, 21, none⟩ (.int .i64 ((3 * L.vary + ((latest - cut) - L.smooth)) / 4))).drew.cell? ⟨g, 20, none⟩ = some (.int .i64 L.smooth) := (L4.cell 20 (fun _ _ _ _ _ _ => rfl)).1
          have y20f : (v2.setCell ⟨g, 21, none⟩ (.int .i64 ((3 * L.vary + ((latest - cut) - L.smooth)) / 4))).drew.frozen? ⟨g, 20, none⟩ = false := (L4.cell 20 (v := .int .i64 L.smooth) (fun _ _ _ _ _ _ => rfl)).2
          obtain ⟨k5, L5⟩ := L4.set' (L' := { L with latest := latest, least := latest, vary := ((3 * L.vary + ((latest - cut) - L.smooth)) / 4), smooth := ((7 * L.smooth + (latest - cut)) / 8) }) 20 (.int .i64 ((7 * L.smooth + (latest - cut)) / 8)) rfl rfl rfl (fun _ _ _ _ _ _ => rfl)
          have HRES : Hid (Kept (fun k => k = g) w ((v2.setCell ⟨g, 21, none⟩ (.int .i64 ((3 * L.vary + ((latest - cut) - L.smooth)) / 4))).setCell ⟨g, 20, none⟩ (.int .i64 ((7 * L.smooth + (latest - cut)) / 8))).drew ∧ LAt F ((v2.setCell ⟨g, 21, none⟩ (.int .i64 ((3 * L.vary + ((latest - cut) - L.smooth)) / 4))).setCell ⟨g, 20, none⟩ (.int .i64 ((7 * L.smooth + (latest - cut)) / 8))).drew g (L.sample2 latest cut)) := Lib.hid ⟨(K3.trans k4 (fun _ _ h => h)).trans k5 (fun _ _ h => h), by rw [HE.out]; exact L5⟩
          clear L2 L3 L4 L5 k4 k5 K3
          refine Mx.regionZ [] (fun w' => w'.cell? ⟨g, 20, none⟩ = some (.int .i64 L.smooth) ∧ w'.cell? ⟨g, 21, none⟩ = some (.int .i64 L.vary)) (by kernel_rfl) (by kernel_rfl) ⟨x20, x21⟩ ?_
          repeat ((first | (refine Mx.skips (by kernel_rfl) ?_; go_big_quiet_skip) | (refine Mx.quietly rfl ?_; go_big_quiet_want; go_big_quiet_op; go_big_quiet_on)); refine Mx.done ?_)
          refine Mx.cell ⟨g, 21, none⟩ (.int .i64 L.vary) (by kernel_rfl) (by kernel_rfl) (by kernel_rfl) Try.isAgg3 (fun w' h => h.2) ?_
          go_big_quiet_want; go_big_quiet_op; go_big_quiet_on; refine Mx.done ?_
          repeat ((first | (refine Mx.skips (by kernel_rfl) ?_; go_big_quiet_skip) | (refine Mx.quietly rfl ?_; go_big_quiet_want; go_big_quiet_op; go_big_quiet_on)); refine Mx.done ?_)
          refine Mx.cell ⟨g, 20, none⟩ (.int .i64 L.smooth) (by kernel_rfl) (by kernel_rfl) (by kernel_rfl) Try.isAgg3 (fun w' h => h.1) ?_
          go_big_quiet_want; go_big_quiet_op; go_big_quiet_on; refine Mx.done ?_
          repeat ((first | (refine Mx.skips (by kernel_rfl) ?_; go_big_quiet_skip) | (refine Mx.quietly rfl ?_; go_big_quiet_want; go_big_quiet_op; go_big_quiet_on)); refine Mx.done ?_)
          refine Mx.cell ⟨g, 20, none⟩ (.int .i64 L.smooth) (by kernel_rfl) (by kernel_rfl) (by kernel_rfl) Try.isAgg3 (fun w' h => h.1) ?_
          go_big_quiet_want; go_big_quiet_op; go_big_quiet_on; refine Mx.done ?_
          repeat ((first | (refine Mx.skips (by kernel_rfl) ?_; go_big_quiet_skip) | (refine Mx.quietly rfl ?_; go_big_quiet_want; go_big_quiet_op; go_big_quiet_on)); refine Mx.done ?_)
          refine Mx.atLast (by kernel_rfl) (by kernel_rfl) ?_
          go_wp2_with fail
          (try simp only [Exit.inBlock, Exit.then]); refine bodyPost_ret (results_none rfl _ _ _) rfl ?_
          exact ⟨rfl, HRES.out.1, HRES.out.2⟩
    · rcases hmx2 with ⟨m3, rfl⟩ | ⟨m3, rfl⟩
      · as_aux_lemma =>
          have L2 := HL2.out
          go_enter Try.func32, Try.ntmps32
          go_wp2_with fail
          generalize (w.setCell ⟨g, 18, none⟩ (.int .i64 latest)).setCell ⟨g, 19, none⟩ (.int .i64 latest) = v2 at *
          have L3 := L2.below (below_drewN (Below.refl _ v2) 1)
          have K3 := K2.trans (Kept.of_below (X := none') (below_drewN (Below.refl _ v2) 1)) (fun _ _ h => h.elim)
          have x20 : v2.drew.cell? ⟨g, 20, none⟩ = some (.int .i64 L.smooth) := (L3.cell 20 (fun _ _ _ _ _ _ => rfl)).1
          have x21 : v2.drew.cell? ⟨g, 21, none⟩ = some (.int .i64 L.vary) := (L3.cell 21 (fun _ _ _ _ _ _ => rfl)).1
          have x21f : v2.drew.frozen? ⟨g, 21, none⟩ = false := (L3.cell 21 (v := .int .i64 L.vary) (fun _ _ _ _ _ _ => rfl)).2
          obtain ⟨k4, L4⟩ := L3.set' (L' := { L with latest := latest, least := latest, vary := ((3 * L.vary + (L.smooth - latest)) / 4) }) 21 (.int .i64 ((3 * L.vary + (L.smooth - latest)) / 4)) rfl rfl rfl (fun _ _ _ _ _ _ => rfl)
          have y20 : (v2.setCell ⟨g, 21, none⟩ (.int .i64 ((3 * L.vary + (L.smooth - latest)) / 4))).drew.cell? ⟨g, 20, none⟩ = some (.int .i64 L.smooth) := (L4.cell 20 (fun _ _ _ _ _ _ => rfl)).1
          have y20f : (v2.setCell ⟨g, 21, none⟩ (.int .i64 ((3 * L.vary + (L.smooth - latest)) / 4))).drew.frozen? ⟨g, 20, none⟩ = false := (L4.cell 20 (v := .int .i64 L.smooth) (fun _ _ _ _ _ _ => rfl)).2
          obtain ⟨k5, L5⟩ := L4.set' (L' := { L with latest := latest, least := latest, vary := ((3 * L.vary + (L.smooth - latest)) / 4), smooth := ((7 * L.smooth + latest) / 8) }) 20 (.int .i64 ((7 * L.smooth + latest) / 8)) rfl rfl rfl (fun _ _ _ _ _ _ => rfl)
          have HRES : Hid (Kept (fun k => k = g) w ((v2.setCell ⟨g, 21, none⟩ (.int .i64 ((3 * L.vary + (L.smooth - latest)) / 4))).setCell ⟨g, 20, none⟩ (.int .i64 ((7 * L.smooth + latest) / 8))).drew ∧ LAt F ((v2.setCell ⟨g, 21, none⟩ (.int .i64 ((3 * L.vary + (L.smooth - latest)) / 4))).setCell ⟨g, 20, none⟩ (.int .i64 ((7 * L.smooth + latest) / 8))).drew g (L.sample2 latest cut)) := Lib.hid ⟨(K3.trans k4 (fun _ _ h => h)).trans k5 (fun _ _ h => h), by rw [HE.out]; exact L5⟩
          clear L2 L3 L4 L5 k4 k5 K3
          refine Mx.regionZ [] (fun w' => w'.cell? ⟨g, 20, none⟩ = some (.int .i64 L.smooth) ∧ w'.cell? ⟨g, 21, none⟩ = some (.int .i64 L.vary)) (by kernel_rfl) (by kernel_rfl) ⟨x20, x21⟩ ?_
          repeat ((first | (refine Mx.skips (by kernel_rfl) ?_; go_big_quiet_skip) | (refine Mx.quietly rfl ?_; go_big_quiet_want; go_big_quiet_op; go_big_quiet_on)); refine Mx.done ?_)
          refine Mx.cell ⟨g, 21, none⟩ (.int .i64 L.vary) (by kernel_rfl) (by kernel_rfl) (by kernel_rfl) Try.isAgg3 (fun w' h => h.2) ?_
          go_big_quiet_want; go_big_quiet_op; go_big_quiet_on; refine Mx.done ?_
          repeat ((first | (refine Mx.skips (by kernel_rfl) ?_; go_big_quiet_skip) | (refine Mx.quietly rfl ?_; go_big_quiet_want; go_big_quiet_op; go_big_quiet_on)); refine Mx.done ?_)
          refine Mx.cell ⟨g, 20, none⟩ (.int .i64 L.smooth) (by kernel_rfl) (by kernel_rfl) (by kernel_rfl) Try.isAgg3 (fun w' h => h.1) ?_
          go_big_quiet_want; go_big_quiet_op; go_big_quiet_on; refine Mx.done ?_
          repeat ((first | (refine Mx.skips (by kernel_rfl) ?_; go_big_quiet_skip) | (refine Mx.quietly rfl ?_; go_big_quiet_want; go_big_quiet_op; go_big_quiet_on)); refine Mx.done ?_)
          refine Mx.cell ⟨g, 20, none⟩ (.int .i64 L.smooth) (by kernel_rfl) (by kernel_rfl) (by kernel_rfl) Try.isAgg3 (fun w' h => h.1) ?_
          go_big_quiet_want; go_big_quiet_op; go_big_quiet_on; refine Mx.done ?_
          repeat ((first | (refine Mx.skips (by kernel_rfl) ?_; go_big_quiet_skip) | (refine Mx.quietly rfl ?_; go_big_quiet_want; go_big_quiet_op; go_big_quiet_on)); refine Mx.done ?_)
          refine Mx.atLast (by kernel_rfl) (by kernel_rfl) ?_
          go_wp2_with fail
          (try simp only [Exit.inBlock, Exit.then]); refine bodyPost_ret (results_none rfl _ _ _) rfl ?_
          exact ⟨rfl, HRES.out.1, HRES.out.2⟩
      · as_aux_lemma =>
          have L2 := HL2.out
          go_enter Try.func32, Try.ntmps32
          go_wp2_with fail
          generalize (w.setCell ⟨g, 18, none⟩ (.int .i64 latest)).setCell ⟨g, 19, none⟩ (.int .i64 latest) = v2 at *
          have L3 := L2.below (below_drewN (Below.refl _ v2) 1)
          have K3 := K2.trans (Kept.of_below (X := none') (below_drewN (Below.refl _ v2) 1)) (fun _ _ h => h.elim)
          have x20 : v2.drew.cell? ⟨g, 20, none⟩ = some (.int .i64 L.smooth) := (L3.cell 20 (fun _ _ _ _ _ _ => rfl)).1
          have x21 : v2.drew.cell? ⟨g, 21, none⟩ = some (.int .i64 L.vary) := (L3.cell 21 (fun _ _ _ _ _ _ => rfl)).1
          have x21f : v2.drew.frozen? ⟨g, 21, none⟩ = false := (L3.cell 21 (v := .int .i64 L.vary) (fun _ _ _ _ _ _ => rfl)).2
          obtain ⟨k4, L4⟩ := L3.set' (L' := { L with latest := latest, least := latest, vary := ((3 * L.vary + (latest - L.smooth)) / 4) }) 21 (.int .i64 ((3 * L.vary + (latest - L.smooth)) / 4)) rfl rfl rfl (fun _ _ _ _ _ _ => rfl)
          have y20 : (v2.setCell ⟨g, 21, none⟩ (.int .i64 ((3 * L.vary + (latest - L.smooth)) / 4))).drew.cell? ⟨g, 20, none⟩ = some (.int .i64 L.smooth) := (L4.cell 20 (fun _ _ _ _ _ _ => rfl)).1
          have y20f : (v2.setCell ⟨g, 21, none⟩ (.int .i64 ((3 * L.vary + (latest - L.smooth)) / 4))).drew.frozen? ⟨g, 20, none⟩ = false := (L4.cell 20 (v := .int .i64 L.smooth) (fun _ _ _ _ _ _ => rfl)).2
          obtain ⟨k5, L5⟩ := L4.set' (L' := { L with latest := latest, least := latest, vary := ((3 * L.vary + (latest - L.smooth)) / 4), smooth := ((7 * L.smooth + latest) / 8) }) 20 (.int .i64 ((7 * L.smooth + latest) / 8)) rfl rfl rfl (fun _ _ _ _ _ _ => rfl)
          have HRES : Hid (Kept (fun k => k = g) w ((v2.setCell ⟨g, 21, none⟩ (.int .i64 ((3 * L.vary + (latest - L.smooth)) / 4))).setCell ⟨g, 20, none⟩ (.int .i64 ((7 * L.smooth + latest) / 8))).drew ∧ LAt F ((v2.setCell ⟨g, 21, none⟩ (.int .i64 ((3 * L.vary + (latest - L.smooth)) / 4))).setCell ⟨g, 20, none⟩ (.int .i64 ((7 * L.smooth + latest) / 8))).drew g (L.sample2 latest cut)) := Lib.hid ⟨(K3.trans k4 (fun _ _ h => h)).trans k5 (fun _ _ h => h), by rw [HE.out]; exact L5⟩
          clear L2 L3 L4 L5 k4 k5 K3
          refine Mx.regionZ [] (fun w' => w'.cell? ⟨g, 20, none⟩ = some (.int .i64 L.smooth) ∧ w'.cell? ⟨g, 21, none⟩ = some (.int .i64 L.vary)) (by kernel_rfl) (by kernel_rfl) ⟨x20, x21⟩ ?_
          repeat ((first | (refine Mx.skips (by kernel_rfl) ?_; go_big_quiet_skip) | (refine Mx.quietly rfl ?_; go_big_quiet_want; go_big_quiet_op; go_big_quiet_on)); refine Mx.done ?_)
          refine Mx.cell ⟨g, 21, none⟩ (.int .i64 L.vary) (by kernel_rfl) (by kernel_rfl) (by kernel_rfl) Try.isAgg3 (fun w' h => h.2) ?_
          go_big_quiet_want; go_big_quiet_op; go_big_quiet_on; refine Mx.done ?_
          repeat ((first | (refine Mx.skips (by kernel_rfl) ?_; go_big_quiet_skip) | (refine Mx.quietly rfl ?_; go_big_quiet_want; go_big_quiet_op; go_big_quiet_on)); refine Mx.done ?_)
          refine Mx.cell ⟨g, 20, none⟩ (.int .i64 L.smooth) (by kernel_rfl) (by kernel_rfl) (by kernel_rfl) Try.isAgg3 (fun w' h => h.1) ?_
          go_big_quiet_want; go_big_quiet_op; go_big_quiet_on; refine Mx.done ?_
          repeat ((first | (refine Mx.skips (by kernel_rfl) ?_; go_big_quiet_skip) | (refine Mx.quietly rfl ?_; go_big_quiet_want; go_big_quiet_op; go_big_quiet_on)); refine Mx.done ?_)
          refine Mx.cell ⟨g, 20, none⟩ (.int .i64 L.smooth) (by kernel_rfl) (by kernel_rfl) (by kernel_rfl) Try.isAgg3 (fun w' h => h.1) ?_
          go_big_quiet_want; go_big_quiet_op; go_big_quiet_on; refine Mx.done ?_
          repeat ((first | (refine Mx.skips (by kernel_rfl) ?_; go_big_quiet_skip) | (refine Mx.quietly rfl ?_; go_big_quiet_want; go_big_quiet_op; go_big_quiet_on)); refine Mx.done ?_)
          refine Mx.atLast (by kernel_rfl) (by kernel_rfl) ?_
          go_wp2_with fail
          (try simp only [Exit.inBlock, Exit.then]); refine bodyPost_ret (results_none rfl _ _ _) rfl ?_
          exact ⟨rfl, HRES.out.1, HRES.out.2⟩
end Go.Proofs.Ytkpeegcpicckjaa

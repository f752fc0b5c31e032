/- Loss detection: contracts of sample and grow. -/
import Derived.Test.YtkpeegcpicckjaaLsRight
namespace Go.Proofs.Ytkpeegcpicckjaa
open Go.RowKit

def Lo.sample1 (L : Lo) (latest : Int) : Lo := { L with latest := latest, sampled := true, least := latest, smooth := latest, vary := latest / 2 }
/-- the sample without the delay that the other side owns to -/
def Lo.lean (L : Lo) (latest cut : Int) : Int := if min L.least latest + cut ≤ latest then latest - cut else latest
def Lo.sample2 (L : Lo) (latest cut : Int) : Lo :=
  { L with latest := latest, least := min L.least latest, vary := (3 * L.vary + max (L.smooth - L.lean latest cut) (L.lean latest cut - L.smooth)) / 4, smooth := (7 * L.smooth + L.lean latest cut) / 8 }
theorem LAt.set' {F : Nat → Prop} {w : World} {g : Nat} {L L' : Lo} (h : LAt F w g L) (i : Nat) (v : Value) (h0 : L'.s0 = L.s0) (h1 : L'.s1 = L.s1) (h2 : L'.s2 = L.s2)
    (hc : ∀ a0 c0 a1 c1 a2 c2, lcells L' a0 c0 a1 c1 a2 c2 = (lcells L a0 c0 a1 c1 a2 c2).set i v) : Kept (fun k => k = g) w (w.setCell ⟨g, i, none⟩ v) ∧ LAt F (w.setCell ⟨g, i, none⟩ v) g L' := ⟨Kept.set w g i v, (h.set i v h0 h1 h2 hc).2⟩
def Done0 (F : Nat → Prop) (w : World) (g : Nat) (L' : Lo) (e : Ending) (w' : World) : Prop := e = .returned (.tuple #[]) ∧ Kept (fun k => k = g) w w' ∧ LAt F w' g L'

set_option maxRecDepth 100000 in
set_option maxHeartbeats 2000000 in
theorem sample_new (w : World) {F : Nat → Prop} {g : Nat} {L : Lo} (hL : LAt F w g L) (latest cut : Int) (h1 : 0 ≤ latest ∧ latest ≤ 1099511627776) (hs : L.sampled = false) :
    Calls Try.prog 32 #[.pointer (some ⟨g, 0, none⟩), .int .i64 latest, .int .i64 cut] w (Done0 F w g (L.sample1 latest)) := by
  obtain ⟨c18, f18⟩ := hL.cell 18 (v := .int .i64 L.latest) (fun _ _ _ _ _ _ => rfl)
  obtain ⟨k1, L1⟩ := hL.set' (L' := { L with latest := latest }) 18 (.int .i64 latest) rfl rfl rfl (fun _ _ _ _ _ _ => rfl)
  obtain ⟨c17, f17⟩ := L1.cell 17 (v := .bool L.sampled) (fun _ _ _ _ _ _ => rfl)
  obtain ⟨k2, L2⟩ := L1.set' (L' := { L with latest := latest, sampled := true }) 17 (.bool true) rfl rfl rfl (fun _ _ _ _ _ _ => rfl)
  obtain ⟨c19, f19⟩ := L2.cell 19 (v := .int .i64 L.least) (fun _ _ _ _ _ _ => rfl)
  obtain ⟨k3, L3⟩ := L2.set' (L' := { L with latest := latest, sampled := true, least := latest }) 19 (.int .i64 latest) rfl rfl rfl (fun _ _ _ _ _ _ => rfl)
  obtain ⟨c20, f20⟩ := L3.cell 20 (v := .int .i64 L.smooth) (fun _ _ _ _ _ _ => rfl)
  obtain ⟨k4, L4⟩ := L3.set' (L' := { L with latest := latest, sampled := true, least := latest, smooth := latest }) 20 (.int .i64 latest) rfl rfl rfl (fun _ _ _ _ _ _ => rfl)
  obtain ⟨c21, f21⟩ := L4.cell 21 (v := .int .i64 L.vary) (fun _ _ _ _ _ _ => rfl)
  obtain ⟨k5, L5⟩ := L4.set' (L' := L.sample1 latest) 21 (.int .i64 (latest / 2)) rfl rfl rfl (fun _ _ _ _ _ _ => rfl)
  rw [hs] at c17
  have HR : Hid (Kept (fun k => k = g) w _ ∧ LAt F _ g (L.sample1 latest)) := Lib.hid ⟨(((k1.trans k2 (fun _ _ h => h)).trans k3 (fun _ _ h => h)).trans k4 (fun _ _ h => h)).trans k5 (fun _ _ h => h), L5⟩
  clear hs hL L1 L2 L3 L4 L5 k1 k2 k3 k4 k5
  go_enter Try.func32, Try.ntmps32
  go_wp2
  (try simp only [Exit.inBlock, Exit.then]); refine bodyPost_ret (results_none rfl _ _ _) rfl ?_
  exact ⟨rfl, HR.out.1, HR.out.2⟩

def Lo.grown (L : Lo) (p : Pk) : Lo := if p.el = false ∨ p.at_ ≤ L.recovery then L else if L.window < L.threshold then { L with window := L.window + p.size } else { L with window := L.window + 1200 * p.size / L.window }
set_option maxRecDepth 100000 in
set_option maxHeartbeats 2000000 in
theorem grow_any (w : World) {F : Nat → Prop} {g : Nat} {L : Lo} (hL : LAt F w g L) (p : Pk) (hw : 2400 ≤ L.window ∧ L.window ≤ 1152921504606846976) (hp : 0 ≤ p.size ∧ p.size ≤ 65535) :
    Calls Try.prog 33 #[.pointer (some ⟨g, 0, none⟩), .agg #[.int .i64 p.num, .int .i64 p.size, .int .i64 p.at_, .bool p.el]] w (Done0 F w g (L.grown p)) := by
  have hg := hL.lt
  have hal : Below w.heap.size w (w.alloc (.cells #[.int .i64 p.num, .int .i64 p.size, .int .i64 p.at_, .bool p.el] 68)) := (Below.refl _ _).alloc (Nat.le_refl _) _
  have hH : Has (w.alloc (.cells #[.int .i64 p.num, .int .i64 p.size, .int .i64 p.at_, .bool p.el] 68)) w.heap.size 68 [.int .i64 p.num, .int .i64 p.size, .int .i64 p.at_, .bool p.el] := Has.new _ _ _
  have L0 := hL.below hal
  obtain ⟨w0, hw0⟩ : ∃ w0, w0 = w.alloc (.cells #[.int .i64 p.num, .int .i64 p.size, .int .i64 p.at_, .bool p.el] 68) := ⟨_, rfl⟩
  rw [← hw0] at hal hH L0
  have K0 : Kept (fun k => k = g) w w0 := Kept.of_below hal
  have q1 := hH.cell 1 rfl
  have q2 := hH.cell 2 rfl
  have q3 := hH.cell 3 rfl
  have c10 := (L0.cell 24 (v := .int .i64 L.recovery) (fun _ _ _ _ _ _ => rfl)).1
  have HW0 := Lib.hid hw0
  by_cases e1 : p.el = false
  · have HG : Hid (L.grown p = L) := Lib.hid (by unfold Lo.grown; rw [if_pos (.inl e1)])
    rw [e1] at q3
    clear e1
    go_enter Try.func33, Try.ntmps33
    go_wp2_with fail
    rw [← hw0]
    clear hw0
    go_quiet (fail)
    go_wp2
    (try simp only [Exit.inBlock, Exit.then]); refine bodyPost_ret (results_none rfl _ _ _) rfl ?_
    exact ⟨rfl, K0.trans (Kept.of_below (X := none') (below_drewN (Below.refl _ w0) _)) (fun _ _ h => h.elim), by rw [HG.out]; exact L0.below (below_drewN (Below.refl _ w0) _)⟩
  · have e1' : p.el = true := by simpa using e1
    by_cases e2 : p.at_ ≤ L.recovery
    · have HG : Hid (L.grown p = L) := Lib.hid (by unfold Lo.grown; rw [if_pos (.inr e2)])
      have dd : decide (p.at_ ≤ L.recovery) = true := by simp [e2]
      rw [e1'] at q3
      clear e1 e1'
      go_enter Try.func33, Try.ntmps33
      go_wp2_with fail
      rw [← hw0]
      clear hw0
      go_quiet (fail)
      go_wp2
      (try simp only [Exit.inBlock, Exit.then]); refine bodyPost_ret (results_none rfl _ _ _) rfl ?_
      exact ⟨rfl, K0.trans (Kept.of_below (X := none') (below_drewN (Below.refl _ w0) _)) (fun _ _ h => h.elim), by rw [HG.out]; exact L0.below (below_drewN (Below.refl _ w0) _)⟩
    · have dd : decide (p.at_ ≤ L.recovery) = false := by simp [e2]
      rw [e1'] at q3
      by_cases e3 : L.window < L.threshold
      · have HG : Hid (L.grown p = { L with window := L.window + p.size }) := Lib.hid (by unfold Lo.grown; rw [if_neg (by rw [e1']; simp; omega), if_pos e3])
        have f1 : IntKind.i64.wrap (L.window + p.size) = L.window + p.size := by rw [IntKind.wrap_i64]; omega
        clear e1 e1'
        go_enter Try.func33, Try.ntmps33
        go_wp2_with fail
        rw [← hw0]
        clear hw0
        go_quiet (fail)
        have L1 := L0.below (below_drewN (Below.refl _ w0) nq)
        have H1 := hH.kept (Kept.of_below (X := none') (below_drewN (Below.refl _ w0) nq)) (fun h => h)
        have K1 := K0.trans (Kept.of_below (X := none') (below_drewN (Below.refl _ w0) nq)) (fun _ _ h => h.elim)
        generalize w0.drewN nq = v1 at *
        have c22 := (L1.cell 22 (v := .int .i64 L.window) (fun _ _ _ _ _ _ => rfl)).1
        have c23 := (L1.cell 23 (v := .int .i64 L.threshold) (fun _ _ _ _ _ _ => rfl)).1
        have dd3 : decide (L.window < L.threshold) = true := by simp [e3]
        clear c10 q1 q2 q3
        go_wp2_with fail
        go_quiet (fail)
        have L2 := L1.below (below_drewN (Below.refl _ v1) nq)
        have H2 := H1.kept (Kept.of_below (X := none') (below_drewN (Below.refl _ v1) nq)) (fun h => h)
        have K2 := K1.trans (Kept.of_below (X := none') (below_drewN (Below.refl _ v1) nq)) (fun _ _ h => h.elim)
        generalize v1.drewN nq = v2 at *
        have L3 := L2.below (below_drewN (Below.refl _ v2) 1)
        have H3 := H2.kept (Kept.of_below (X := none') (below_drewN (Below.refl _ v2) 1)) (fun h => h)
        have x22 : v2.drew.cell? ⟨g, 22, none⟩ = some (.int .i64 L.window) := (L3.cell 22 (fun _ _ _ _ _ _ => rfl)).1
        have x22f : v2.drew.frozen? ⟨g, 22, none⟩ = false := (L3.cell 22 (v := .int .i64 L.window) (fun _ _ _ _ _ _ => rfl)).2
        have x1 : v2.drew.cell? ⟨w.heap.size, 1, none⟩ = some (.int .i64 p.size) := H3.cell 1 rfl
        have HRES : Hid (Kept (fun k => k = g) w (v2.setCell ⟨g, 22, none⟩ (.int .i64 (L.window + p.size))).drew ∧ LAt F (v2.setCell ⟨g, 22, none⟩ (.int .i64 (L.window + p.size))).drew g { L with window := (L.window + p.size) }) := Lib.hid (by
          obtain ⟨ks, hs⟩ := L3.set' (L' := { L with window := (L.window + p.size) }) 22 (.int .i64 (L.window + p.size)) rfl rfl rfl (fun _ _ _ _ _ _ => rfl)
          exact ⟨(K2.trans (Kept.of_below (X := none') (below_drewN (Below.refl _ v2) 1)) (fun _ _ h => h.elim)).trans ks (fun _ _ h => h), hs⟩)
        clear c22 c23
        go_wp2_with fail
        refine Mx.regionZ [] (fun w' => w'.cell? ⟨g, 22, none⟩ = some (.int .i64 L.window) ∧ w'.cell? ⟨w.heap.size, 1, none⟩ = some (.int .i64 p.size)) (by kernel_rfl) (by kernel_rfl) ⟨x22, x1⟩ ?_
        repeat ((first | (refine Mx.skips (by kernel_rfl) ?_; go_big_quiet_skip) | (refine Mx.quietly rfl ?_; go_big_quiet_want; go_big_quiet_op; go_big_quiet_on)); refine Mx.done ?_)
        refine Mx.cell ⟨g, 22, none⟩ (.int .i64 L.window) (by kernel_rfl) (by kernel_rfl) (by kernel_rfl) Try.isAgg3 (fun w' h => h.1) ?_
        go_big_quiet_want; go_big_quiet_op; go_big_quiet_on; refine Mx.done ?_
        repeat ((first | (refine Mx.skips (by kernel_rfl) ?_; go_big_quiet_skip) | (refine Mx.quietly rfl ?_; go_big_quiet_want; go_big_quiet_op; go_big_quiet_on)); refine Mx.done ?_)
        refine Mx.cell ⟨w.heap.size, 1, none⟩ (.int .i64 p.size) (by kernel_rfl) (by kernel_rfl) (by kernel_rfl) Try.isAgg3 (fun w' h => h.2) ?_
        go_big_quiet_want; go_big_quiet_op; go_big_quiet_on; refine Mx.done ?_
        repeat ((first | (refine Mx.skips (by kernel_rfl) ?_; go_big_quiet_skip) | (refine Mx.quietly rfl ?_; go_big_quiet_want; go_big_quiet_op; go_big_quiet_on)); refine Mx.done ?_)
        refine Mx.atLast (by kernel_rfl) (by kernel_rfl) ?_
        go_wp2_with fail
        (try simp only [Exit.inBlock, Exit.then]); refine bodyPost_ret (results_none rfl _ _ _) rfl ?_
        rw [HG.out]
        exact ⟨rfl, HRES.out.1, HRES.out.2⟩
      · have HG : Hid (L.grown p = { L with window := L.window + 1200 * p.size / L.window }) := Lib.hid (by unfold Lo.grown; rw [if_neg (by rw [e1']; simp; omega), if_neg e3])
        have f0 : IntKind.i64.wrap (1200 * p.size) = 1200 * p.size := by rw [IntKind.wrap_i64]; omega
        have hdiv : 0 ≤ 1200 * p.size / L.window ∧ 1200 * p.size / L.window ≤ 1200 * p.size := ⟨Int.ediv_nonneg (by omega) (by omega), Int.ediv_le_self _ (by omega)⟩
        have f1 : IntKind.i64.wrap (L.window + 1200 * p.size / L.window) = L.window + 1200 * p.size / L.window := by rw [IntKind.wrap_i64]; omega
        clear e1 e1'
        go_enter Try.func33, Try.ntmps33
        go_wp2_with fail
        rw [← hw0]
        clear hw0
        go_quiet (fail)

        have L1 := L0.below (below_drewN (Below.refl _ w0) nq)
        have H1 := hH.kept (Kept.of_below (X := none') (below_drewN (Below.refl _ w0) nq)) (fun h => h)
        have K1 := K0.trans (Kept.of_below (X := none') (below_drewN (Below.refl _ w0) nq)) (fun _ _ h => h.elim)
        generalize w0.drewN nq = v1 at *
        have c22 := (L1.cell 22 (v := .int .i64 L.window) (fun _ _ _ _ _ _ => rfl)).1
        have c23 := (L1.cell 23 (v := .int .i64 L.threshold) (fun _ _ _ _ _ _ => rfl)).1
        have dd3 : decide (L.window < L.threshold) = false := by simp [e3]
        clear c10 q1 q2 q3
        go_wp2_with fail
        go_quiet (fail)
        have L2 := L1.below (below_drewN (Below.refl _ v1) nq)
        have H2 := H1.kept (Kept.of_below (X := none') (below_drewN (Below.refl _ v1) nq)) (fun h => h)
        have K2 := K1.trans (Kept.of_below (X := none') (below_drewN (Below.refl _ v1) nq)) (fun _ _ h => h.elim)
        generalize v1.drewN nq = v2 at *
        have L3 := L2.below (below_drewN (Below.refl _ v2) 1)
        have H3 := H2.kept (Kept.of_below (X := none') (below_drewN (Below.refl _ v2) 1)) (fun h => h)
        have x22 : v2.drew.cell? ⟨g, 22, none⟩ = some (.int .i64 L.window) := (L3.cell 22 (fun _ _ _ _ _ _ => rfl)).1
        have x22f : v2.drew.frozen? ⟨g, 22, none⟩ = false := (L3.cell 22 (v := .int .i64 L.window) (fun _ _ _ _ _ _ => rfl)).2
        have x1 : v2.drew.cell? ⟨w.heap.size, 1, none⟩ = some (.int .i64 p.size) := H3.cell 1 rfl
        have HRES : Hid (Kept (fun k => k = g) w (v2.setCell ⟨g, 22, none⟩ (.int .i64 (L.window + 1200 * p.size / L.window))).drew ∧ LAt F (v2.setCell ⟨g, 22, none⟩ (.int .i64 (L.window + 1200 * p.size / L.window))).drew g { L with window := (L.window + 1200 * p.size / L.window) }) := Lib.hid (by
          obtain ⟨ks, hs⟩ := L3.set' (L' := { L with window := (L.window + 1200 * p.size / L.window) }) 22 (.int .i64 (L.window + 1200 * p.size / L.window)) rfl rfl rfl (fun _ _ _ _ _ _ => rfl)
          exact ⟨(K2.trans (Kept.of_below (X := none') (below_drewN (Below.refl _ v2) 1)) (fun _ _ h => h.elim)).trans ks (fun _ _ h => h), hs⟩)
        clear c22 c23
        go_wp2_with fail
        refine Mx.regionZ [] (fun w' => w'.cell? ⟨g, 22, none⟩ = some (.int .i64 L.window) ∧ w'.cell? ⟨w.heap.size, 1, none⟩ = some (.int .i64 p.size)) (by kernel_rfl) (by kernel_rfl) ⟨x22, x1⟩ ?_
        repeat ((first | (refine Mx.skips (by kernel_rfl) ?_; go_big_quiet_skip) | (refine Mx.quietly rfl ?_; go_big_quiet_want; go_big_quiet_op; go_big_quiet_on)); refine Mx.done ?_)
        refine Mx.cell ⟨g, 22, none⟩ (.int .i64 L.window) (by kernel_rfl) (by kernel_rfl) (by kernel_rfl) Try.isAgg3 (fun w' h => h.1) ?_
        go_big_quiet_want; go_big_quiet_op; go_big_quiet_on; refine Mx.done ?_
        repeat ((first | (refine Mx.skips (by kernel_rfl) ?_; go_big_quiet_skip) | (refine Mx.quietly rfl ?_; go_big_quiet_want; go_big_quiet_op; go_big_quiet_on)); refine Mx.done ?_)
        refine Mx.cell ⟨w.heap.size, 1, none⟩ (.int .i64 p.size) (by kernel_rfl) (by kernel_rfl) (by kernel_rfl) Try.isAgg3 (fun w' h => h.2) ?_
        go_big_quiet_want; go_big_quiet_op; go_big_quiet_on; refine Mx.done ?_
        repeat ((first | (refine Mx.skips (by kernel_rfl) ?_; go_big_quiet_skip) | (refine Mx.quietly rfl ?_; go_big_quiet_want; go_big_quiet_op; go_big_quiet_on)); refine Mx.done ?_)
        refine Mx.cell ⟨g, 22, none⟩ (.int .i64 L.window) (by kernel_rfl) (by kernel_rfl) (by kernel_rfl) Try.isAgg3 (fun w' h => h.1) ?_
        go_big_quiet_want; go_big_quiet_op; go_big_quiet_on; refine Mx.done ?_
        repeat ((first | (refine Mx.skips (by kernel_rfl) ?_; go_big_quiet_skip) | (refine Mx.quietly rfl ?_; go_big_quiet_want; go_big_quiet_op; go_big_quiet_on)); refine Mx.done ?_)
        refine Mx.atLast (by kernel_rfl) (by kernel_rfl) ?_
        go_wp2_with fail
        (try simp only [Exit.inBlock, Exit.then]); refine bodyPost_ret (results_none rfl _ _ _) rfl ?_
        rw [HG.out]
        exact ⟨rfl, HRES.out.1, HRES.out.2⟩
end Go.Proofs.Ytkpeegcpicckjaa

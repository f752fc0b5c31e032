/- HframeCuts answers true. -/
import Derived.Test.YtbplmnmkgkgkhaaHfAll3
import Derived.Test.YtbplmnmkgkgkhaaHfLaw1
import Derived.Test.YtbplmnmkgkgkhaaWalk2
namespace Go.Proofs.Ytbplmnmkgkgkhaa
open Go.RowKit

theorem AllE.congr {w w' : World} {r r0 : Res} {e : Ending} (h : AllE w r e w') (h1 : r.out = r0.out) (h2 : r.body = r0.body) (h3 : r.z = r0.z) (h4 : r.R.done = r0.R.done) : AllE w r0 e w' := by
  unfold AllE at h ⊢
  rw [h1, h2, h3, h4] at h
  exact h
/-- all, however the bytes are cut -/
theorem all_runs (w : World) (kind : Int) (hkd : kind = 1 ∨ kind = 2) {ba : Option Addr} {bn bc : Nat} {b : List UInt8} (hb : Sl w ba bn bc (bv b)) (hbn : bn ≤ 2000000000000) {ca : Option Addr} {cn cc : Nat} {cuts : List Int} (hc : Sl w ca cn cc (iv .i64 cuts)) (hcn : cn ≤ 1048576)
    {r0 : Res} (hr : Runs (ext (Rd.new (kind == 1) 1048576) b true) r0) : Calls Try.prog 8 #[.int .i64 kind, .slice ba bn bc, .slice ca cn cc] w (AllE w r0) := by
  obtain ⟨r, h⟩ := AllP.total b.length (Rd.new (kind == 1) 1048576) b cuts (Nat.le_refl _)
  obtain ⟨h1, h2, h3, h4⟩ := h.same r0 rfl hr
  exact (all_any w kind hkd hb hbn hc hcn h).mono fun e w' he => he.congr h1 h2 h3 h4
theorem infoSt : (Try.prog.info? 30).map (·.size) = some [Value.int .i64 0, .int .i64 0, .int .i64 0].length := by kernel_rfl
theorem mid3 {w : World} {b o : Nat} {x y z : Value} (hx : w.cell? ⟨b, o, none⟩ = some x) (hy : w.cell? ⟨b, o + 1, none⟩ = some y) (hz : w.cell? ⟨b, o + 2, none⟩ = some z) : w.rangeAt b o [x, y, z] := by
  intro j v hv
  match j, hv with
  | 0, hv => cases hv; exact hx
  | 1, hv => cases hv; exact hy
  | 2, hv => cases hv; exact hz
theorem below_cell {w w' : World} (hb : Below w.heap.size w w') {ad : Addr} {v : Value} (h : w.cell? ad = some v) : w'.cell? ad = some v := by
  rw [hb.cell (World.block_lt_of_cell? w _ h)]; exact h
theorem meas_next {i n : Nat} {x : Int} (hx : x = (i : Int) + 1) (hi : i < n) : n - (intOf (Value.int .i64 x)).toNat < n - (intOf (Value.int .i64 (i : Int))).toNat := by
  subst hx
  simp only [intOf]
  omega
/-- an event of the row -/
theorem out_at {B : Nat} {M : Nat → Prop} {w : World} {oa : Option Addr} {n oc : Nat} {cs : List Value} {es : List Ev} (h : w.ownsRow B 32 6 (.slice oa n oc) n cs) (he : EvsIn M w es cs) (hl : es.length = n) {i : Nat} (hi : i < es.length) :
    ∃ s a c, oa = some ⟨s, 0, none⟩ ∧ w.cell? ⟨s, i * 6, none⟩ = some (.int .i64 es[i].kind) ∧ w.cell? ⟨s, i * 6 + 1, none⟩ = some (.slice a es[i].data.length c) ∧ w.cell? ⟨s, i * 6 + 2, none⟩ = some (.int .i64 es[i].cap) ∧ w.cell? ⟨s, i * 6 + 3, none⟩ = some (.int .i64 es[i].blk) ∧ w.cell? ⟨s, i * 6 + 4, none⟩ = some (.int .i64 es[i].lim) ∧ w.cell? ⟨s, i * 6 + 5, none⟩ = some (.int .i64 es[i].id) ∧
      Sl w a es[i].data.length c (bv es[i].data) ∧ n ≤ oc ∧ oc ≤ maxLen := by
  obtain ⟨a, c, hc, hs⟩ := he.at i hi
  have key : ∀ s, Value.ownBlock (.slice oa n oc) = some s → ∀ j, j < 6 → w.cell? ⟨s, i * 6 + j, none⟩ = (evc es[i] a c)[j]? := by
    intro s hsb j hj
    have hx : (evc es[i] a c)[j]? = some ((evc es[i] a c)[j]'(by simp [evc]; omega)) := List.getElem?_eq_getElem _
    have h1 := hc j hj
    rw [hx] at h1
    have h2 := h.cells hsb (i * 6 + j) _ h1
    rw [addr_add, Nat.zero_add] at h2
    rw [h2, hx]
  rcases h.2 with ⟨hv, rfl⟩ | ⟨g, cap, cur, hv, hB, hg, hnc, hcm, hcs, ht⟩
  · omega
  · simp only [Value.slice.injEq, true_and] at hv
    obtain ⟨rfl, rfl⟩ := hv
    have k := key g rfl
    exact ⟨g, a, c, rfl, k 0 (by omega), k 1 (by omega), k 2 (by omega), k 3 (by omega), k 4 (by omega), k 5 (by omega), hs.sl, hnc, hcm⟩

set_option maxRecDepth 100000 in
set_option maxHeartbeats 8000000 in
theorem cuts_any (W : World) (kind : Int) (hk1 : -9223372036854775808 ≤ kind) (hk2 : kind ≤ 9223372036854775807) {ba : Option Addr} {bn bc : Nat} {b : List UInt8} (hb : Sl W ba bn bc (bv b)) (hbn : bn ≤ 1048576) {ca : Option Addr} {cn cc : Nat} {cuts : List Int} (hc : Sl W ca cn cc (iv .i64 cuts)) (hcn : cn ≤ 1048576)
    (hcw : ∀ z ∈ cuts, (Lit.int .i64 z).wf = true) :
    Calls Try.prog 3 #[.int .i64 kind, .slice ba bn bc, .slice ca cn cc] W fun e w' => e = .returned (.bool true) ∧ Below W.heap.size W w' := by
  have HAw := Lib.hid awake17_any
  have HB := Lib.hid hb
  have HC := Lib.hid hc
  clear hb hc hcw
  by_cases hkd : kind = 1 ∨ kind = 2
  · obtain ⟨r0, hr0⟩ := Runs.total _ (ext (Rd.new (kind == 1) 1048576) b true) (Nat.le_refl _)
    have HX := Lib.hid (all_runs W kind hkd HB.out (by omega) (cuts := []) (ca := none) (cn := 0) (cc := 0) (Sl.empty W) (by decide) hr0)
    have HY : Hid (∀ w, Below W.heap.size W w → Calls Try.prog 8 #[.int .i64 kind, .slice ba bn bc, .slice ca cn cc] w (AllE w r0)) := Lib.hid (fun w hw => all_runs w kind hkd (HB.out.below hw) (by omega) (HC.out.below hw) hcn hr0)
    clear hr0 hk1 hk2
    have hk12 : (kind = 1) ∨ (¬ kind = 1 ∧ kind = 2) := by omega
    clear hkd
    obtain ⟨z0, hz0⟩ : ∃ z0, z0 = r0.z := ⟨_, rfl⟩
    obtain ⟨d0, hd0⟩ : ∃ d0, d0 = r0.R.done := ⟨_, rfl⟩
    obtain ⟨es, hes⟩ : ∃ es, es = r0.out := ⟨_, rfl⟩
    obtain ⟨bd, hbd⟩ : ∃ bd, bd = r0.body := ⟨_, rfl⟩
    have HRest : Hid (∀ w, Below W.heap.size W w → True) := Lib.hid (fun _ _ => trivial)
    go_enter Try.func3, Try.ntmps3
    go_upto_region 1 with fail
    go_cut [21] (fun v wc => v = .bool false ∧ wc = W)
    case first =>
      rcases hk12 with rfl | ⟨h1, rfl⟩
      · go_wp2
        go_meet
        case rel => exact ⟨rfl, rfl⟩
      · go_wp2
        go_meet
        case rel => exact ⟨rfl, rfl⟩
    case rest =>
      obtain ⟨rfl, hwc⟩ := hcut
      rw [hwc]
      clear hwc wc
      go_wp2_with fail
      refine HX.out.mono ?_
      rintro e w1 ⟨oa1, oc1, ya1, yc1, cs1, rfl, ho1, he1, hy1, hb1⟩
      have HYY := Lib.hid (HY.out w1 hb1)
      rw [← hz0, ← hd0, ← hes, ← hbd]
      rw [← hes] at ho1 he1
      rw [← hbd] at hy1
      have HO1 := Lib.hid ho1
      have HE1 := Lib.hid he1
      have HY1 := Lib.hid hy1
      have HB1 := Lib.hid hb1
      clear ho1 he1 hy1 hb1
      go_wp2_with fail
      refine HYY.out.mono ?_
      rintro e w2 ⟨oa2, oc2, ya2, yc2, cs2, rfl, ho2, he2, hy2, hb2⟩
      rw [← hz0, ← hd0, ← hes, ← hbd]
      rw [← hes] at ho2 he2
      rw [← hbd] at hy2
      have HO2 := Lib.hid ho2
      have HE2 := Lib.hid he2
      have HSa := Lib.hid (same_any w2 ((own_sl HY1.out).below hb2) (own_sl hy2))
      have HO1 := Lib.hid (own_below HO1.out hb2)
      have HE1 := Lib.hid (HE1.out.step (X := none') (Kept.of_below hb2) (fun _ _ h => h.elim) (fun _ h => .inl h))
      have HB2 := Lib.hid (HB1.out.trans (hb2.mono HB1.out.size))
      clear ho2 he2 hy2 hb2 hz0 hd0 hbd hes
      rw [show decide (bd = bd) = true by simp] at HSa
      go_wp2_with fail
      refine HSa.out.mono ?_
      rintro e w3 ⟨rfl, hb3⟩
      have HO1 := Lib.hid (own_below HO1.out hb3)
      have HE1 := Lib.hid (HE1.out.step (X := none') (Kept.of_below hb3) (fun _ _ h => h.elim) (fun _ h => .inl h))
      have HO2 := Lib.hid (own_below HO2.out hb3)
      have HE2 := Lib.hid (HE2.out.step (X := none') (Kept.of_below hb3) (fun _ _ h => h.elim) (fun _ h => .inl h))
      have HB3 := Lib.hid (HB2.out.trans (hb3.mono HB2.out.size))
      clear hb3
      go_wp2_with fail
      go_loopw [63] (fun v wr => ∃ i : Nat, v = .int .i64 (i : Int) ∧ i ≤ es.length ∧ Below w3.heap.size w3 wr) (fun v _ => es.length - (intOf v).toNat)
      case atStart => exact ⟨0, rfl, Nat.zero_le _, Below.refl _ _⟩
      case round =>
        obtain ⟨i, rfl, hin, hbr⟩ := hrel
        by_cases hi : i < es.length
        · have hil : (i : Int) < (es.length : Int) := by omega
          obtain ⟨s1, a1, c1, rfl, p0, p1, p2, p3, p4, p5, ps, pn, pm⟩ := out_at (own_below HO1.out hbr) (HE1.out.step (X := none') (M' := none') (Kept.of_below hbr) (fun _ _ h => h.elim) (fun _ h => .inl h)) rfl hi
          obtain ⟨s2, a2, c2, rfl, q0, q1, q2, q3, q4, q5, qs, qn, qm⟩ := out_at (own_below HO2.out hbr) (HE2.out.step (X := none') (M' := none') (Kept.of_below hbr) (fun _ _ h => h.elim) (fun _ h => .inl h)) rfl hi
          obtain ⟨en, hen⟩ : ∃ en, en = es.length := ⟨_, rfl⟩
          rw [← hen] at pn qn
          have HEn := Lib.hid hen
          clear hen
          generalize es[i] = ev at *
          obtain ⟨ek, ed, e1, e2, e3, e4⟩ := ev
          simp only at p0 p1 p2 p3 p4 p5 ps q0 q1 q2 q3 q4 q5 qs
          have HSd := Lib.hid (same_any wr.drew (ps.below (below_drewN (Below.refl _ wr) 1)) (qs.below (below_drewN (Below.refl _ wr) 1)))
          rw [show decide (ed = ed) = true by simp] at HSd
          clear ps qs
          go_wp2_with fail
          refine Mx.region [] (fun w' => (w'.cell? ⟨s1, i * 6, none⟩ = some (.int .i64 ek) ∧ w'.cell? ⟨s1, i * 6 + 1, none⟩ = some (.slice a1 ed.length c1) ∧ w'.cell? ⟨s1, i * 6 + 2, none⟩ = some (.int .i64 e1) ∧ w'.cell? ⟨s1, i * 6 + 3, none⟩ = some (.int .i64 e2) ∧ w'.cell? ⟨s1, i * 6 + 4, none⟩ = some (.int .i64 e3) ∧ w'.cell? ⟨s1, i * 6 + 5, none⟩ = some (.int .i64 e4)) ∧
            w'.cell? ⟨s2, i * 6, none⟩ = some (.int .i64 ek) ∧ w'.cell? ⟨s2, i * 6 + 1, none⟩ = some (.slice a2 ed.length c2) ∧ w'.cell? ⟨s2, i * 6 + 2, none⟩ = some (.int .i64 e1) ∧ w'.cell? ⟨s2, i * 6 + 3, none⟩ = some (.int .i64 e2) ∧ w'.cell? ⟨s2, i * 6 + 4, none⟩ = some (.int .i64 e3) ∧ w'.cell? ⟨s2, i * 6 + 5, none⟩ = some (.int .i64 e4)) (by kernel_rfl) (by kernel_rfl) ⟨⟨p0, p1, p2, p3, p4, p5⟩, q0, q1, q2, q3, q4, q5⟩ ?_
          -- MARKB
          repeat ((first | (refine Mx.skips (by kernel_rfl) ?_; go_big_quiet_skip) | (refine Mx.quietly rfl ?_; go_big_quiet_want; go_big_quiet_op; go_big_quiet_on)); refine Mx.done ?_)
          refine Mx.cell ⟨s1, i * 6, none⟩ (.int .i64 ek) (by kernel_rfl) (by kernel_rfl) (by kernel_rfl) Try.isAgg3 (fun w' h => h.1.1) ?_
          go_big_quiet_want; go_big_quiet_op; go_big_quiet_on; refine Mx.done ?_
          repeat ((first | (refine Mx.skips (by kernel_rfl) ?_; go_big_quiet_skip) | (refine Mx.quietly rfl ?_; go_big_quiet_want; go_big_quiet_op; go_big_quiet_on)); refine Mx.done ?_)
          refine Mx.cell ⟨s2, i * 6, none⟩ (.int .i64 ek) (by kernel_rfl) (by kernel_rfl) (by kernel_rfl) Try.isAgg3 (fun w' h => h.2.1) ?_
          go_big_quiet_want; go_big_quiet_op; go_big_quiet_on; refine Mx.done ?_
          repeat ((first | (refine Mx.skips (by kernel_rfl) ?_; go_big_quiet_skip) | (refine Mx.quietly rfl ?_; go_big_quiet_want; go_big_quiet_op; go_big_quiet_on)); refine Mx.done ?_)
          refine Mx.cell ⟨s1, i * 6 + 1, none⟩ (.slice a1 ed.length c1) (by kernel_rfl) (by kernel_rfl) (by kernel_rfl) Try.isAgg22 (fun w' h => h.1.2.1) ?_
          go_big_quiet_want; go_big_quiet_op; go_big_quiet_on; refine Mx.done ?_
          repeat ((first | (refine Mx.skips (by kernel_rfl) ?_; go_big_quiet_skip) | (refine Mx.quietly rfl ?_; go_big_quiet_want; go_big_quiet_op; go_big_quiet_on)); refine Mx.done ?_)
          refine Mx.cell ⟨s2, i * 6 + 1, none⟩ (.slice a2 ed.length c2) (by kernel_rfl) (by kernel_rfl) (by kernel_rfl) Try.isAgg22 (fun w' h => h.2.2.1) ?_
          go_big_quiet_want; go_big_quiet_op; go_big_quiet_on; refine Mx.done ?_
          repeat ((first | (refine Mx.skips (by kernel_rfl) ?_; go_big_quiet_skip) | (refine Mx.quietly rfl ?_; go_big_quiet_want; go_big_quiet_op; go_big_quiet_on)); refine Mx.done ?_)
          refine Mx.loudly (by kernel_rfl) (by kernel_rfl) ?_
          go_wp2_with fail
          refine HSd.out.mono ?_
          rintro e w5 ⟨rfl, hb5⟩
          have hb5 : Below wr.heap.size wr w5 := (below_drewN (Below.refl wr.heap.size wr) 1).trans hb5
          have hBr := hbr.trans (hb5.mono hbr.size)
          have hP := Lib.hid (And.intro (And.intro (below_cell hb5 p0) (And.intro (below_cell hb5 p1) (And.intro (below_cell hb5 p2) (And.intro (below_cell hb5 p3) (And.intro (below_cell hb5 p4) (below_cell hb5 p5))))))
            (And.intro (below_cell hb5 q0) (And.intro (below_cell hb5 q1) (And.intro (below_cell hb5 q2) (And.intro (below_cell hb5 q3) (And.intro (below_cell hb5 q4) (below_cell hb5 q5)))))))
          go_wp2_with fail
          refine ⟨hP.out, ?_⟩
          repeat ((first | (refine Mx.skips (by kernel_rfl) ?_; go_big_quiet_skip) | (refine Mx.quietly rfl ?_; go_big_quiet_want; go_big_quiet_op; go_big_quiet_on)); refine Mx.done ?_)
          refine Mx.mid s1 (i * 6 + 2) [.int .i64 e1, .int .i64 e2, .int .i64 e3] _ (by kernel_rfl) (by kernel_rfl) (by kernel_rfl) Try.underlying30 rfl infoSt (fun w' h => mid3 h.1.2.2.1 h.1.2.2.2.1 h.1.2.2.2.2.1) ?_
          go_big_quiet_want; go_big_quiet_op; go_big_quiet_on; refine Mx.done ?_
          repeat ((first | (refine Mx.skips (by kernel_rfl) ?_; go_big_quiet_skip) | (refine Mx.quietly rfl ?_; go_big_quiet_want; go_big_quiet_op; go_big_quiet_on)); refine Mx.done ?_)
          refine Mx.mid s2 (i * 6 + 2) [.int .i64 e1, .int .i64 e2, .int .i64 e3] _ (by kernel_rfl) (by kernel_rfl) (by kernel_rfl) Try.underlying30 rfl infoSt (fun w' h => mid3 h.2.2.2.1 h.2.2.2.2.1 h.2.2.2.2.2.1) ?_
          go_big_quiet_want; go_big_quiet_op; go_big_quiet_on; refine Mx.done ?_
          repeat ((first | (refine Mx.skips (by kernel_rfl) ?_; go_big_quiet_skip) | (refine Mx.quietly rfl ?_; go_big_quiet_want; go_big_quiet_op; go_big_quiet_on)); refine Mx.done ?_)
          refine Mx.cell ⟨s1, i * 6 + 5, none⟩ (.int .i64 e4) (by kernel_rfl) (by kernel_rfl) (by kernel_rfl) Try.isAgg3 (fun w' h => h.1.2.2.2.2.2) ?_
          go_big_quiet_want; go_big_quiet_op; go_big_quiet_on; refine Mx.done ?_
          repeat ((first | (refine Mx.skips (by kernel_rfl) ?_; go_big_quiet_skip) | (refine Mx.quietly rfl ?_; go_big_quiet_want; go_big_quiet_op; go_big_quiet_on)); refine Mx.done ?_)
          refine Mx.cell ⟨s2, i * 6 + 5, none⟩ (.int .i64 e4) (by kernel_rfl) (by kernel_rfl) (by kernel_rfl) Try.isAgg3 (fun w' h => h.2.2.2.2.2.2) ?_
          go_big_quiet_want; go_big_quiet_op; go_big_quiet_on; refine Mx.done ?_
          repeat ((first | (refine Mx.skips (by kernel_rfl) ?_; go_big_quiet_skip) | (refine Mx.quietly rfl ?_; go_big_quiet_want; go_big_quiet_op; go_big_quiet_on)); refine Mx.done ?_)
          refine Mx.nil ?_
          have HBr2 := Lib.hid hBr
          clear hBr hb5
          have HI2 := Lib.hid hi
          have hiw : RowKit.wrap64 ((i : Int) + 1) = (i : Int) + 1 := by
            have h1 := HEn.out
            have h2 := pm
            unfold maxLen at h2
            unfold RowKit.wrap64
            omega
          have HIw := Lib.hid hiw
          go_wp2_with fail
          go_roundw
          case rel => exact ⟨i + 1, by (try rw [HIw.out]); push_cast; rfl, by have := HI2.out; omega, HBr2.out⟩
          case measure => exact meas_next HIw.out HI2.out
        · have hil : ¬ (i : Int) < (es.length : Int) := by omega
          have HAw3 := Lib.hid (HAw.out wr)
          have HBr := Lib.hid (HB3.out.trans (hbr.mono HB3.out.size))
          clear hbr
          go_wp2_with fail
          refine HAw3.out.mono ?_
          rintro e w4 ⟨rfl, hb4⟩
          go_wp2
          go_ret
          exact ⟨rfl, HBr.out.trans (hb4.mono HBr.out.size)⟩
  · have HAw0 := Lib.hid (HAw.out W)
    have h1 : ¬ kind = 1 := fun h => hkd (.inl h)
    have h2 : ¬ kind = 2 := fun h => hkd (.inr h)
    have h3 : (kind != 1) = true := by simpa using h1
    have h4 : (kind != 2) = true := by simpa using h2
    clear hkd h1 h2
    go_enter Try.func3, Try.ntmps3
    go_wp2_with fail
    refine HAw0.out.mono ?_
    rintro e w4 ⟨rfl, hb4⟩
    go_wp2
    go_ret
    exact ⟨rfl, hb4⟩
end Go.Proofs.Ytbplmnmkgkgkhaa

/- Same of what is the same: spans, frames, rows of frames. No condition but the sizes. -/
import Derived.Test.YtppkilkfmclpkaaFrSt
import Derived.Test.YtppkilkfmclpkaaWalk2
import Derived.Test.YtppkilkfmclpkaaSat
import Derived.Test.YtppkilkfmclpkaaRef01
import Derived.Test.YtppkilkfmclpkaaFrRow
namespace Go.Proofs.Ytppkilkfmclpkaa
open Go.RowKit

theorem mid2 {w : World} {b o : Nat} {x y : Value} (hx : w.cell? ⟨b, o, none⟩ = some x) (hy : w.cell? ⟨b, o + 1, none⟩ = some y) : w.rangeAt b o [x, y] := by
  intro j v hv
  match j, hv with
  | 0, hv => cases hv; exact hx
  | 1, hv => cases hv; exact hy
theorem ssj1 {k n : Nat} (h : k < n) (hn : n ≤ 9223372036854775807) : (k : Int) < (n : Int) ∧ IntKind.i64.wrap ((k : Int) + 1) = ((k + 1 : Nat) : Int) ∧ RowKit.wrap64 ((k : Int) + 1) = ((k + 1 : Nat) : Int) := by
  rw [IntKind.wrap_i64]; unfold RowKit.wrap64; omega
theorem ssj2 {k n : Nat} (h : ¬ k < n) : ¬ (k : Int) < (n : Int) := by omega
theorem ssj3 {k n : Nat} (h : k < n) : n - (intOf (Value.int .i64 ((k + 1 : Nat) : Int))).toNat < n - (intOf (Value.int .i64 (k : Int))).toNat := by simp only [intOf]; omega
set_option maxRecDepth 100000 in
theorem sames_eq (w : World) {a1 : Option Addr} {n c1 : Nat} {a2 : Option Addr} {c2 : Nat} {l : List Sn} (h1 : SlS w a1 n c1 l) (h2 : SlS w a2 n c2 l) :
    Calls Try.prog 38 #[.slice a1 n c1, .slice a2 n c2] w (BoolOf w true) := by
  have hmx : n ≤ 9223372036854775807 := by have := h1.cap; have := h1.max; unfold maxLen at this; omega
  by_cases hp : n = 0
  · subst hp
    clear h1 h2 hmx
    go_enter Try.func38, Try.ntmps38
    go_wp2
    refine wp_loop_once ?_
    go_wp2
    go_ret
    exact ⟨rfl, Below.refl _ _⟩
  · obtain ⟨b1, o1, rfl, hc1⟩ := h1.cells (by omega)
    obtain ⟨b2, o2, rfl, hc2⟩ := h2.cells (by omega)
    have HC1 := Lib.hid hc1
    have HC2 := Lib.hid hc2
    have HL := Lib.hid h1.len
    have HMx := Lib.hid hmx
    have hne : ((n : Int) != (n : Int)) = false := by simp
    clear h1 h2 hc1 hc2 hmx hp
    go_enter Try.func38, Try.ntmps38
    go_wp2_with fail
    go_loopw [5] (fun v wr => ∃ k : Nat, v = .int .i64 (k : Int) ∧ Below w.heap.size w wr) (fun v _ => n - (intOf v).toNat)
    case atStart => exact ⟨0, rfl, Below.refl _ _⟩
    case round =>
      obtain ⟨k, rfl, hb⟩ := hrel
      have HB := Lib.hid hb
      clear hb
      by_cases hlt : k < n
      · have HLt := Lib.hid hlt
        obtain ⟨z1, z2, z3⟩ := ssj1 hlt HMx.out
        have hkl : k < l.length := by rw [HL.out]; exact hlt
        obtain ⟨p0, p1⟩ := HC1.out k hkl
        obtain ⟨q0, q1⟩ := HC2.out k hkl
        obtain ⟨xf, hxf⟩ : ∃ xf, xf = l[k].from_ := ⟨_, rfl⟩
        obtain ⟨xt, hxt⟩ : ∃ xt, xt = l[k].to_ := ⟨_, rfl⟩
        rw [← hxf] at p0 q0
        rw [← hxt] at p1 q1
        have hb2 : Below w.heap.size w wr.drew := HB.out.trans ((below_drewN (Below.refl wr.heap.size wr) 1).mono HB.out.size)
        have HSat : Hid (Sat [(⟨b1, o1 + k * 2, none⟩, .int .i64 xf), (⟨b1, o1 + k * 2 + 1, none⟩, .int .i64 xt), (⟨b2, o2 + k * 2, none⟩, .int .i64 xf), (⟨b2, o2 + k * 2 + 1, none⟩, .int .i64 xt)] wr.drew) := Lib.hid ((Sat.cons p0 (Sat.cons p1 (Sat.cons q0 (Sat.cons q1 (Sat.nil w))))).below hb2)
        have HB2 := Lib.hid hb2
        clear hlt hkl p0 p1 q0 q1 hxf hxt hb2
        go_upto_region 6 with fail
        refine Mx.region [] (Sat [(⟨b1, o1 + k * 2, none⟩, .int .i64 xf), (⟨b1, o1 + k * 2 + 1, none⟩, .int .i64 xt), (⟨b2, o2 + k * 2, none⟩, .int .i64 xf), (⟨b2, o2 + k * 2 + 1, none⟩, .int .i64 xt)]) (by kernel_rfl) (by kernel_rfl) HSat.out ?_
        repeat ((first | (refine Mx.skips (by kernel_rfl) ?_; go_big_quiet_skip) | (refine Mx.quietly rfl ?_; go_big_quiet_want; go_big_quiet_op; go_big_quiet_on)); refine Mx.done ?_)
        refine Mx.mid b1 (o1 + k * 2) [.int .i64 xf, .int .i64 xt] _ (by kernel_rfl) (by kernel_rfl) (by kernel_rfl) Try.underlying53 rfl (by kernel_rfl) (fun w' h => mid2 (h 0 _ _ rfl) (h 1 _ _ rfl)) ?_
        go_big_quiet_want; go_big_quiet_op; go_big_quiet_on; refine Mx.done ?_
        repeat ((first | (refine Mx.skips (by kernel_rfl) ?_; go_big_quiet_skip) | (refine Mx.quietly rfl ?_; go_big_quiet_want; go_big_quiet_op; go_big_quiet_on)); refine Mx.done ?_)
        refine Mx.mid b2 (o2 + k * 2) [.int .i64 xf, .int .i64 xt] _ (by kernel_rfl) (by kernel_rfl) (by kernel_rfl) Try.underlying53 rfl (by kernel_rfl) (fun w' h => mid2 (h 2 _ _ rfl) (h 3 _ _ rfl)) ?_
        go_big_quiet_want; go_big_quiet_op; go_big_quiet_on; refine Mx.done ?_
        repeat ((first | (refine Mx.skips (by kernel_rfl) ?_; go_big_quiet_skip) | (refine Mx.quietly rfl ?_; go_big_quiet_want; go_big_quiet_op; go_big_quiet_on)); refine Mx.done ?_)
        refine Mx.nil ?_
        go_wp2_with fail
        go_roundw
        case rel => exact ⟨k + 1, rfl, HB2.out⟩
        case measure => exact ssj3 HLt.out
      · have z1 := ssj2 hlt
        clear hlt
        go_wp2
        go_ret
        exact ⟨rfl, HB.out⟩
theorem eq3_in (w : World) (e0 e1 e2 : Int) (d : Nat) (hd : ∀ (x : Int) (w : World), (Op.equalIn d 3 (.int .i64 x) (.int .i64 x)).run Try.prog w = .ok true w) :
    (Op.equalIn (d + 1) 24 (.agg #[.int .i64 e0, .int .i64 e1, .int .i64 e2]) (.agg #[.int .i64 e0, .int .i64 e1, .int .i64 e2])).run Try.prog w = .ok true w := by
  simp only [Op.equalIn, Sem.run_bind, run_underlying Try.underlying24, Result.andThen_ok]
  simp [go_sem, List.range', hd, show Try.t3.size = 1 from rfl, sizeOf, part, Try.isAgg3]
theorem eq3_run (w : World) (e0 e1 e2 : Int) : (Op.equalIn 10000 24 (.agg #[.int .i64 e0, .int .i64 e1, .int .i64 e2]) (.agg #[.int .i64 e0, .int .i64 e1, .int .i64 e2])).run Try.prog w = .ok true w :=
  eq3_in w e0 e1 e2 9999 (fun x w => by rw [run_equalIn_int w 9998 _ _ _ _ _ Try.underlying3]; simp)
set_option maxRecDepth 100000 in
set_option maxHeartbeats 4000000 in
theorem same5_eq (w : World) {f : Fm} {fa fb : FA} (h1 : FIn w f fa) (h2 : FIn w f fb) :
    Calls Try.prog 18 #[.agg (fcells f fa).toArray, .agg (fcells f fb).toArray] w (BoolOf w true) := by
  obtain ⟨w2, hw2⟩ : ∃ w2, w2 = (w.alloc (.cells (fcells f fa).toArray 34)).alloc (.cells (fcells f fb).toArray 34) := ⟨_, rfl⟩
  obtain ⟨hX, hY, hb⟩ := two_new w _ _ _ _ hw2
  obtain ⟨gx, hgx⟩ : ∃ gx, gx = w.heap.size := ⟨_, rfl⟩
  obtain ⟨gy, hgy⟩ : ∃ gy, gy = w.heap.size + 1 := ⟨_, rfl⟩
  rw [← hgx] at hX
  rw [← hgy] at hY
  obtain ⟨k, i, t, n, c, fi, dt, ci, sp, dl, e0, e1, e2⟩ := f
  obtain ⟨da, dc, ca, cc, sa, sc⟩ := fa
  obtain ⟨da', dc', ca', cc', sa', sc'⟩ := fb
  have HX := Lib.hid hX
  have HY := Lib.hid hY
  have HB := Lib.hid hb
  have H1 := Lib.hid h1
  have H2 := Lib.hid h2
  obtain ⟨dn, hdn⟩ : ∃ dn, dn = dt.length := ⟨_, rfl⟩
  obtain ⟨cn, hcn⟩ : ∃ cn, cn = ci.length := ⟨_, rfl⟩
  obtain ⟨sn, hsn⟩ : ∃ sn, sn = sp.length := ⟨_, rfl⟩
  have HD : Hid (∀ w', Below w2.heap.size w2 w' → Calls Try.prog 17 #[.slice da dn dc, .slice da' dn dc'] w' (BoolOf w' true)) := Lib.hid (fun w' hw => by
    have h := same_any w' ((H1.out.below HB.out).below hw).data ((H2.out.below HB.out).below hw).data
    simp only [decide_true] at h
    rw [hdn]
    exact h)
  have HCi : Hid (∀ w', Below w2.heap.size w2 w' → Calls Try.prog 17 #[.slice ca cn cc, .slice ca' cn cc'] w' (BoolOf w' true)) := Lib.hid (fun w' hw => by
    have h := same_any w' ((H1.out.below HB.out).below hw).cid ((H2.out.below HB.out).below hw).cid
    simp only [decide_true] at h
    rw [hcn]
    exact h)
  have HS : Hid (∀ w', Below w2.heap.size w2 w' → Calls Try.prog 38 #[.slice sa sn sc, .slice sa' sn sc'] w' (BoolOf w' true)) := Lib.hid (fun w' hw => by
    have h := sames_eq w' ((H1.out.below HB.out).below hw).spans ((H2.out.below HB.out).below hw).spans
    rw [hsn]
    exact h)
  have hf1 : fcells ⟨k, i, t, n, c, fi, dt, ci, sp, dl, e0, e1, e2⟩ ⟨da, dc, ca, cc, sa, sc⟩ = [.int .i64 k, .int .i64 i, .int .i64 t, .int .i64 n, .int .i64 c, .bool fi, .slice da dn dc, .slice ca cn cc, .slice sa sn sc, .int .i64 dl, .int .i64 e0, .int .i64 e1, .int .i64 e2] := by rw [hdn, hcn, hsn]; rfl
  have hf2 : fcells ⟨k, i, t, n, c, fi, dt, ci, sp, dl, e0, e1, e2⟩ ⟨da', dc', ca', cc', sa', sc'⟩ = [.int .i64 k, .int .i64 i, .int .i64 t, .int .i64 n, .int .i64 c, .bool fi, .slice da' dn dc', .slice ca' cn cc', .slice sa' sn sc', .int .i64 dl, .int .i64 e0, .int .i64 e1, .int .i64 e2] := by rw [hdn, hcn, hsn]; rfl
  rw [hf1, hf2]
  have HX' := Lib.hid (hf1 ▸ HX.out)
  have HY' := Lib.hid (hf2 ▸ HY.out)
  have hXx := HX'.out
  have hYy := HY'.out
  rw [hf1, hf2] at hw2
  have g0 := hXx.cell 0 rfl
  have g1 := hXx.cell 1 rfl
  have g2 := hXx.cell 2 rfl
  have g3 := hXx.cell 3 rfl
  have g4 := hXx.cell 4 rfl
  have g5 := hXx.cell 5 rfl
  have g6 := hXx.cell 6 rfl
  have k0 := hYy.cell 0 rfl
  have k1 := hYy.cell 1 rfl
  have k2 := hYy.cell 2 rfl
  have k3 := hYy.cell 3 rfl
  have k4 := hYy.cell 4 rfl
  have k5 := hYy.cell 5 rfl
  have k6 := hYy.cell 6 rfl
  clear hX hY hb h1 h2 hdn hcn hsn hf1 hf2 hXx hYy
  have HW2 : Hid ((w.alloc (.cells #[.int .i64 k, .int .i64 i, .int .i64 t, .int .i64 n, .int .i64 c, .bool fi, .slice da dn dc, .slice ca cn cc, .slice sa sn sc, .int .i64 dl, .int .i64 e0, .int .i64 e1, .int .i64 e2] 34)).alloc (.cells #[.int .i64 k, .int .i64 i, .int .i64 t, .int .i64 n, .int .i64 c, .bool fi, .slice da' dn dc', .slice ca' cn cc', .slice sa' sn sc', .int .i64 dl, .int .i64 e0, .int .i64 e1, .int .i64 e2] 34) = w2) := Lib.hid hw2.symm
  have HGx := Lib.hid hgx
  have HGy := Lib.hid hgy
  clear hw2 hgx hgy g0 g1 g2 g3 g4 g5 g6 k0 k1 k2 k3 k4 k5 k6
  go_enter Try.func18, Try.ntmps18
  go_wp2_with fail
  rw [HW2.out, ← HGy.out, ← HGx.out]
  refine (HD.out w2 (Below.refl _ _)).mono ?_
  rintro e w3 ⟨rfl, hb3⟩
  have HX3 := Lib.hid (HX'.out.kept (X := none') (Kept.of_below hb3) (fun h => h))
  have HY3 := Lib.hid (HY'.out.kept (X := none') (Kept.of_below hb3) (fun h => h))
  have HB3 := Lib.hid hb3
  have g7 := HX3.out.cell 7 rfl
  have k7 := HY3.out.cell 7 rfl
  clear hb3
  go_wp2_with fail
  refine (HCi.out w3 HB3.out).mono ?_
  rintro e w4 ⟨rfl, hb4⟩
  have HX4 := Lib.hid (HX3.out.kept (X := none') (Kept.of_below hb4) (fun h => h))
  have HY4 := Lib.hid (HY3.out.kept (X := none') (Kept.of_below hb4) (fun h => h))
  have HB4 := Lib.hid (HB3.out.trans (hb4.mono HB3.out.size))
  clear hb4 g7 k7
  have g8 := HX4.out.cell 8 rfl
  have k8 := HY4.out.cell 8 rfl
  go_wp2_with fail
  refine (HS.out w4 HB4.out).mono ?_
  rintro e w5 ⟨rfl, hb5⟩
  have HX5 := Lib.hid (HX4.out.kept (X := none') (Kept.of_below hb5) (fun h => h))
  have HY5 := Lib.hid (HY4.out.kept (X := none') (Kept.of_below hb5) (fun h => h))
  have HB5 := Lib.hid (HB4.out.trans (hb5.mono HB4.out.size))
  clear hb5 g8 k8
  have g9 := HX5.out.cell 9 rfl
  have g10 := HX5.out.cell 10 rfl
  have g11 := HX5.out.cell 11 rfl
  have g12 := HX5.out.cell 12 rfl
  have k9 := HY5.out.cell 9 rfl
  have k10 := HY5.out.cell 10 rfl
  have k11 := HY5.out.cell 11 rfl
  have k12 := HY5.out.cell 12 rfl
  have heq3 := eq3_run w5 e0 e1 e2
  go_wp2
  go_ret
  exact ⟨rfl, HB.out.trans (HB5.out.mono HB.out.size)⟩
end Go.Proofs.Ytppkilkfmclpkaa

namespace Go.Proofs.Ytppkilkfmclpkaa
open Go.RowKit

theorem range_below {w w' : World} (hb : Below w.heap.size w w') {b k : Nat} {cs : List Value} (h : w.rangeAt b k cs) : w'.rangeAt b k cs := fun j v hv => by
  have h1 := h j v hv
  rw [hb.cell (World.block_lt_of_cell? w _ h1)]
  exact h1
/-- two structs of two rows hold -/
def Two (s1 k1 : Nat) (c1 : List Value) (s2 k2 : Nat) (c2 : List Value) (w : World) : Prop := w.rangeAt s1 k1 c1 ∧ w.rangeAt s2 k2 c2
theorem Two.below {w w' : World} {s1 k1 : Nat} {c1 : List Value} {s2 k2 : Nat} {c2 : List Value} (h : Two s1 k1 c1 s2 k2 c2 w) (hb : Below w.heap.size w w') : Two s1 k1 c1 s2 k2 c2 w' := ⟨range_below hb h.1, range_below hb h.2⟩
theorem fr_range {w : World} {s i : Nat} {f : Fm} {fa : FA} (h : ∀ j, j < 13 → w.cell? ⟨s, i * 13 + j, none⟩ = (fcells f fa)[j]?) : w.rangeAt s (i * 13) (fcells f fa) := fun j v hv => by
  have hj : j < 13 := by rw [← fcells_length f fa]; exact (List.getElem?_eq_some_iff.1 hv).1
  rw [h j hj, hv]
theorem slj1 {k n c : Nat} (h : k < n) (h1 : n ≤ c) (h2 : c ≤ maxLen) : (k : Int) < (n : Int) ∧ IntKind.i64.wrap ((k : Int) + 1) = ((k + 1 : Nat) : Int) ∧ RowKit.wrap64 ((k : Int) + 1) = ((k + 1 : Nat) : Int) := by
  unfold maxLen at h2
  rw [IntKind.wrap_i64]; unfold RowKit.wrap64; omega
set_option maxRecDepth 100000 in
set_option maxHeartbeats 4000000 in
theorem lsame_eq (w : World) {B1 B2 : Nat} {a1 : Option Addr} {c1 : Nat} {a2 : Option Addr} {c2 : Nat} {L1 L2 : List (Fm × FA)} (h1 : FRow 26 w B1 a1 c1 L1) (h2 : FRow 34 w B2 a2 c2 L2) (h : L1.map (·.1) = L2.map (·.1)) :
    Calls Try.prog 22 #[.slice a1 L1.length c1, .slice a2 L2.length c2] w (BoolOf w true) := by
  have hlen : L2.length = L1.length := by have := congrArg List.length h; simpa using this.symm
  rw [hlen]
  obtain ⟨n, hn⟩ : ∃ n, n = L1.length := ⟨_, rfl⟩
  rw [← hn]
  have HN := Lib.hid hn
  have HLn := Lib.hid hlen
  have H1 := Lib.hid h1
  have H2 := Lib.hid h2
  have HM := Lib.hid h
  have hne : ((n : Int) != (n : Int)) = false := by simp
  clear h1 h2 h hn hlen
  go_enter Try.func22, Try.ntmps22
  go_wp2_with fail
  go_loopw [13] (fun v wr => ∃ k : Nat, v = .int .i64 (k : Int) ∧ Below w.heap.size w wr) (fun v _ => n - (intOf v).toNat)
  case atStart => exact ⟨0, rfl, Below.refl _ _⟩
  case round =>
    obtain ⟨k, rfl, hb⟩ := hrel
    have HB := Lib.hid hb
    clear hb
    by_cases hlt : k < n
    · have HLt := Lib.hid hlt
      have hk1 : k < L1.length := by rw [← HN.out]; exact hlt
      have hk2 : k < L2.length := by rw [HLn.out]; exact hk1
      obtain ⟨s1, hs1, hc1, _, hnc1, hcm1⟩ := own_fr H1.out.row rfl hk1
      obtain ⟨s2, hs2, hc2, _, hnc2, hcm2⟩ := own_fr H2.out.row rfl hk2
      obtain ⟨z1, z2, z3⟩ := slj1 hk1 hnc1 hcm1
      rw [← HN.out] at z1
      have hf : L2[k].1 = L1[k].1 := by
        have h3 : (L2.map (·.1))[k]'(by simpa using hk2) = (L1.map (·.1))[k]'(by simpa using hk1) := by simp only [HM.out]
        simpa using h3
      have ho1 := H1.out.own _ (List.getElem_mem hk1)
      have ho2 := H2.out.own _ (List.getElem_mem hk2)
      obtain ⟨p, hp⟩ : ∃ p, p = L1[k] := ⟨_, rfl⟩
      obtain ⟨q, hq⟩ : ∃ q, q = L2[k] := ⟨_, rfl⟩
      rw [← hp] at hc1 ho1 hf
      rw [← hq] at hc2 ho2 hf
      obtain ⟨f, fa⟩ := p
      obtain ⟨f2, fb⟩ := q
      simp only at hf ho1 ho2 hc1 hc2
      subst hf
      have hb2 : Below w.heap.size w wr.drew := HB.out.trans ((below_drewN (Below.refl wr.heap.size wr) 1).mono HB.out.size)
      have HB2 := Lib.hid hb2
      have hTw : Two s1 (k * 13) (fcells f2 fa) s2 (k * 13) (fcells f2 fb) w := ⟨fr_range hc1, fr_range hc2⟩
      have HTw := Lib.hid (hTw.below hb2)
      have HF1 := Lib.hid (ho1.fin.below hb2)
      have HF2 := Lib.hid (ho2.fin.below hb2)
      clear hlt hk1 hk2 hc1 hc2 hnc1 hcm1 hnc2 hcm2 ho1 ho2 hp hq hb2 hTw
      subst hs1 hs2
      go_upto_region 6 with fail
      refine Mx.region [] (Two s1 (k * 13) (fcells f2 fa) s2 (k * 13) (fcells f2 fb)) (by kernel_rfl) (by kernel_rfl) HTw.out ?_
      repeat ((first | (refine Mx.skips (by kernel_rfl) ?_; go_big_quiet_skip) | (refine Mx.quietly rfl ?_; go_big_quiet_want; go_big_quiet_op; go_big_quiet_on)); refine Mx.done ?_)
      refine Mx.mid s1 (k * 13) (fcells f2 fa) _ (by kernel_rfl) (by kernel_rfl) (by kernel_rfl) Try.underlying26 rfl (by rw [infoFr]; rfl) (fun w' h => h.1) ?_
      go_big_quiet_want; go_big_quiet_op; go_big_quiet_on; refine Mx.done ?_
      repeat ((first | (refine Mx.skips (by kernel_rfl) ?_; go_big_quiet_skip) | (refine Mx.quietly rfl ?_; go_big_quiet_want; go_big_quiet_op; go_big_quiet_on)); refine Mx.done ?_)
      refine Mx.loudly (by kernel_rfl) (by kernel_rfl) ?_
      go_wp2_with fail
      refine (of_any wr.drew f2 fa).mono ?_
      rintro e w5 ⟨rfl, hb5⟩
      have HTw5 := Lib.hid (HTw.out.below hb5)
      have HF15 := Lib.hid (HF1.out.below hb5)
      have HF25 := Lib.hid (HF2.out.below hb5)
      have HB5 := Lib.hid (HB2.out.trans (hb5.mono HB2.out.size))
      clear hb5
      go_wp2_with fail
      refine ⟨HTw5.out, ?_⟩
      repeat ((first | (refine Mx.skips (by kernel_rfl) ?_; go_big_quiet_skip) | (refine Mx.quietly rfl ?_; go_big_quiet_want; go_big_quiet_op; go_big_quiet_on)); refine Mx.done ?_)
      refine Mx.mid s2 (k * 13) (fcells f2 fb) _ (by kernel_rfl) (by kernel_rfl) (by kernel_rfl) Try.underlying34 rfl (by rw [infoFrR]; rfl) (fun w' h => h.2) ?_
      go_big_quiet_want; go_big_quiet_op; go_big_quiet_on; refine Mx.done ?_
      repeat ((first | (refine Mx.skips (by kernel_rfl) ?_; go_big_quiet_skip) | (refine Mx.quietly rfl ?_; go_big_quiet_want; go_big_quiet_op; go_big_quiet_on)); refine Mx.done ?_)
      refine Mx.loudly (by kernel_rfl) (by kernel_rfl) ?_
      go_wp2_with fail
      refine (same5_eq w5 HF15.out HF25.out).mono ?_
      rintro e w6 ⟨rfl, hb6⟩
      have HTw6 := Lib.hid (HTw5.out.below hb6)
      have HB6 := Lib.hid (HB5.out.trans (hb6.mono HB5.out.size))
      clear hb6
      go_wp2_with fail
      refine ⟨HTw6.out, ?_⟩
      repeat ((first | (refine Mx.skips (by kernel_rfl) ?_; go_big_quiet_skip) | (refine Mx.quietly rfl ?_; go_big_quiet_want; go_big_quiet_op; go_big_quiet_on)); refine Mx.done ?_)
      refine Mx.nil ?_
      go_wp2_with fail
      go_roundw
      case rel => exact ⟨k + 1, rfl, HB6.out⟩
      case measure => exact ssj3 HLt.out
    · have z1 := ssj2 hlt
      clear hlt
      go_wp2
      go_ret
      exact ⟨rfl, HB.out⟩
end Go.Proofs.Ytppkilkfmclpkaa

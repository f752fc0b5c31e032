/- Contracts of turnpikeref05.Copy and turnpikelaw05.copied (printed by gen_frcopy.py): the frame in new memory. No condition but the slices' sizes. -/
import Derived.Test.YtppkilkfmclpkaaFrBase
import Derived.Test.YtppkilkfmclpkaaMixT
import Derived.Test.YtppkilkfmclpkaaSat
namespace Go.Proofs.Ytppkilkfmclpkaa
open Go.RowKit

/-- its slices are rows of one's own, from B on -/
structure FOwn (w : World) (B : Nat) (f : Fm) (a : FA) : Prop where
  data : w.ownsRow B 5 1 (.slice a.da f.data.length a.dc) f.data.length (bv f.data)
  cid : w.ownsRow B 5 1 (.slice a.ca f.cid.length a.cc) f.cid.length (bv f.cid)
  spans : Sps w B a.sa a.sc f.spans
theorem FOwn.fin {w : World} {B : Nat} {f : Fm} {a : FA} (h : FOwn w B f a) : FIn w f a := ⟨own_sl h.data, own_sl h.cid, h.spans.sl⟩
theorem FOwn.below {w w' : World} {B : Nat} {f : Fm} {a : FA} (h : FOwn w B f a) (hb : Below w.heap.size w w') : FOwn w' B f a := ⟨own_below h.data hb, own_below h.cid hb, own_below h.spans hb⟩
theorem FOwn.mono {w : World} {B B' : Nat} {f : Fm} {a : FA} (h : FOwn w B f a) (hB : B' ≤ B) : FOwn w B' f a := ⟨own_mono h.data hB, own_mono h.cid hB, own_mono h.spans hB⟩
theorem own_ne {w : World} {B e s b t : Nat} {v : Value} {n : Nat} {xs us : List Value} (h : w.ownsRow B e s v n xs) (hb : b < B) (_ : Has w b t us) : ∀ k, v.ownBlock = some k → k ≠ b := by
  intro k hk
  rcases h.2 with ⟨hv, _⟩ | ⟨g, cap, cur, hv, hB, _⟩
  · rw [hv] at hk; cases hk
  · rw [hv] at hk
    simp only [Value.ownBlock, Option.some.injEq] at hk
    omega
def NewF (w : World) (f : Fm) (e : Ending) (w' : World) : Prop := ∃ a', e = .returned (.agg (fcells f a').toArray) ∧ FOwn w' w.heap.size f a' ∧ Below w.heap.size w w'

set_option maxRecDepth 100000 in
set_option maxHeartbeats 4000000 in
theorem refcopy_any (w : World) {f : Fm} {a : FA} (h : FIn w f a) (hz : FSz f) : Calls Try.prog 26 #[.agg (fcells f a).toArray] w (NewF w f) := by
  obtain ⟨k, i, t, n, c, fi, dt, ci, sp, dl, e0, e1, e2⟩ := f
  obtain ⟨da, dc, ca, cc, sa, sc⟩ := a
  obtain ⟨h1, h2, h3⟩ := h
  obtain ⟨z1, z2, z3⟩ := hz
  simp only at h1 h2 h3 z1 z2 z3
  obtain ⟨dn, hdn⟩ : ∃ dn, dn = dt.length := ⟨_, rfl⟩
  obtain ⟨cn, hcn⟩ : ∃ cn, cn = ci.length := ⟨_, rfl⟩
  obtain ⟨sn, hsn⟩ : ∃ sn, sn = sp.length := ⟨_, rfl⟩
  have hf : fcells ⟨k, i, t, n, c, fi, dt, ci, sp, dl, e0, e1, e2⟩ ⟨da, dc, ca, cc, sa, sc⟩ = [.int .i64 k, .int .i64 i, .int .i64 t, .int .i64 n, .int .i64 c, .bool fi, .slice da dn dc, .slice ca cn cc, .slice sa sn sc, .int .i64 dl, .int .i64 e0, .int .i64 e1, .int .i64 e2] := by rw [hdn, hcn, hsn]; rfl
  rw [hf]
  rw [← hdn] at h1 z1
  rw [← hcn] at h2 z2
  rw [← hsn] at h3 z3
  obtain ⟨w2, hw2⟩ : ∃ w2, w2 = (w.alloc (.cells #[.int .i64 k, .int .i64 i, .int .i64 t, .int .i64 n, .int .i64 c, .bool fi, .slice da dn dc, .slice ca cn cc, .slice sa sn sc, .int .i64 dl, .int .i64 e0, .int .i64 e1, .int .i64 e2] 34)).alloc (.cells #[.int .i64 0, .int .i64 0, .int .i64 0, .int .i64 0, .int .i64 0, .bool false, .slice none 0 0, .slice none 0 0, .slice none 0 0, .int .i64 0, .int .i64 0, .int .i64 0, .int .i64 0] 34) := ⟨_, rfl⟩
  obtain ⟨hG, hH, hB⟩ := two_new w _ _ _ _ hw2
  obtain ⟨yb, hyb⟩ : ∃ yb, yb = w.heap.size + 1 := ⟨_, rfl⟩
  obtain ⟨xb, hxb⟩ : ∃ xb, xb = w.heap.size := ⟨_, rfl⟩
  rw [← hyb] at hH
  rw [← hxb] at hG
  have HG := Lib.hid hG
  have HH := Lib.hid hH
  have HB := Lib.hid hB
  have HXb := Lib.hid hxb
  have HYb := Lib.hid hyb
  have HD := Lib.hid (h1.below hB)
  have HC := Lib.hid (h2.below hB)
  have HS := Lib.hid (h3.below hB)
  have HLe := Lib.hid (And.intro hdn (And.intro hcn hsn))
  have HZ := Lib.hid (And.intro z1 (And.intro z2 z3))
  clear hG hH hB h1 h2 h3 hf hdn hcn hsn z1 z2 z3
  go_enter Try.func26, Try.ntmps26
  go_upto_region 1 with fail
  rw [← hw2, ← hyb, ← hxb]
  clear hw2 hyb hxb
  have g6 : w2.drew.cell? ⟨xb, 6, none⟩ = some (.slice da dn dc) := HG.out.cell 6 rfl
  have g7 : w2.drew.cell? ⟨xb, 7, none⟩ = some (.slice ca cn cc) := HG.out.cell 7 rfl
  have g8 : w2.drew.cell? ⟨xb, 8, none⟩ = some (.slice sa sn sc) := HG.out.cell 8 rfl
  have HSat := Lib.hid (Sat.cons g6 (Sat.cons g7 (Sat.cons g8 (Sat.nil w2.drew))))
  have HC1 := Lib.hid (copy_any w2.drew (HD.out.below (below_drewN (Below.refl _ w2) 1)) HZ.out.1)
  clear g6 g7 g8
  refine Mt.region [] 9 (Sat [(⟨xb, 6, none⟩, .slice da dn dc), (⟨xb, 7, none⟩, .slice ca cn cc), (⟨xb, 8, none⟩, .slice sa sn sc)]) (by kernel_rfl) (by kernel_rfl) HSat.out ?_
  repeat (refine Mt.quietly rfl ?_; go_big_quiet_want; go_big_quiet_op; go_big_quiet_on; refine Mx.done ?_)
  refine Mt.cell ⟨xb, 6, none⟩ (.slice da dn dc) (by decide) (by kernel_rfl) (by kernel_rfl) (by kernel_rfl) Try.isAgg22 (fun w' h => h 0 _ _ rfl) ?_
  go_big_quiet_want; go_big_quiet_op; go_big_quiet_on; refine Mx.done ?_
  repeat (refine Mt.quietly rfl ?_; go_big_quiet_want; go_big_quiet_op; go_big_quiet_on; refine Mx.done ?_)
  refine Mt.loudly (by kernel_rfl) (by kernel_rfl) ?_
  go_wp2_with fail
  refine HC1.out.mono ?_
  rintro e w3 ⟨da', dc', rfl, ho3, hb3⟩
  have HS3 := Lib.hid (HSat.out.below hb3)
  have hb3 : Below w2.heap.size w2 w3 := (below_drewN (Below.refl w2.heap.size w2) 1).trans hb3
  have HB3 := Lib.hid hb3
  have HO3 := Lib.hid ho3
  have HC2 := Lib.hid (copy_any w3 (HC.out.below hb3) HZ.out.2.1)
  clear hb3 ho3
  go_wp2_with fail
  refine ⟨.inr HS3.out, ?_⟩
  repeat (refine Mt.quietly rfl ?_; go_big_quiet_want; go_big_quiet_op; go_big_quiet_on; refine Mx.done ?_)
  refine Mt.cell ⟨xb, 7, none⟩ (.slice ca cn cc) (by decide) (by kernel_rfl) (by kernel_rfl) (by kernel_rfl) Try.isAgg22 (fun w' h => h 1 _ _ rfl) ?_
  go_big_quiet_want; go_big_quiet_op; go_big_quiet_on; refine Mx.done ?_
  repeat (refine Mt.quietly rfl ?_; go_big_quiet_want; go_big_quiet_op; go_big_quiet_on; refine Mx.done ?_)
  refine Mt.loudly (by kernel_rfl) (by kernel_rfl) ?_
  go_wp2_with fail
  refine HC2.out.mono ?_
  rintro e w4 ⟨ca', cc', rfl, ho4, hb4⟩
  have HS4 := Lib.hid (HS3.out.below hb4)
  have HO3 := Lib.hid (own_below HO3.out hb4)
  have HB4 := Lib.hid (HB3.out.trans (hb4.mono HB3.out.size))
  have HO4 := Lib.hid (own_mono ho4 HB3.out.size)
  have HC3 := Lib.hid (copys_any w4 (HS.out.below HB4.out) HZ.out.2.2)
  clear hb4 ho4
  go_wp2_with fail
  refine ⟨.inr HS4.out, ?_⟩
  repeat (refine Mt.quietly rfl ?_; go_big_quiet_want; go_big_quiet_op; go_big_quiet_on; refine Mx.done ?_)
  refine Mt.cell ⟨xb, 8, none⟩ (.slice sa sn sc) (by decide) (by kernel_rfl) (by kernel_rfl) (by kernel_rfl) Try.isAgg23 (fun w' h => h 2 _ _ rfl) ?_
  go_big_quiet_want; go_big_quiet_op; go_big_quiet_on; refine Mx.done ?_
  repeat (refine Mt.quietly rfl ?_; go_big_quiet_want; go_big_quiet_op; go_big_quiet_on; refine Mx.done ?_)
  refine Mt.loudly (by kernel_rfl) (by kernel_rfl) ?_
  go_wp2_with fail
  refine HC3.out.mono ?_
  rintro e w5 ⟨sa', sc', rfl, ho5, hb5⟩
  have HS5 := Lib.hid (HS4.out.below hb5)
  have HB5 := Lib.hid (HB4.out.trans (hb5.mono HB4.out.size))
  have ho3 := own_below HO3.out hb5
  have ho4 := own_below HO4.out hb5
  have ho5 := own_mono (B' := w2.heap.size) ho5 HB4.out.size
  have hG5 := HG.out.kept (Kept.of_below (X := none') HB5.out) (fun h => h)
  have hH5 := HH.out.kept (Kept.of_below (X := none') HB5.out) (fun h => h)
  have hk6 := ((Kept.set w5 xb 6 (.slice da' dt.length dc')).trans (Kept.set _ xb 7 (.slice ca' ci.length cc')) (fun _ _ h => h)).trans (Kept.set _ xb 8 (.slice sa' sp.length sc')) (fun _ _ h => h)
  have hG6 := ((hG5.set 6 (.slice da' dt.length dc')).set 7 (.slice ca' ci.length cc')).set 8 (.slice sa' sp.length sc')
  have hxy : xb < yb ∧ yb < w2.heap.size ∧ xb < w2.heap.size := ⟨by have := HXb.out; have := HYb.out; omega, HH.out.lt, HG.out.lt⟩
  have hH6 := hH5.kept hk6 (by omega)
  have hne : ∀ {e s n : Nat} {v : Value} {xs : List Value}, w5.ownsRow w2.heap.size e s v n xs → ∀ j, v.ownBlock = some j → w2.heap.size ≤ j := fun ho j hj => by
    rcases ho.2 with ⟨hv, _⟩ | ⟨g, cap, cur, hv, hB, _⟩
    · rw [hv] at hj; cases hj
    · rw [hv] at hj; simp only [Value.ownBlock, Option.some.injEq] at hj; omega
  have HO6 := Lib.hid (And.intro (own_kept ho3 hk6 (fun j hj e => by have := hne ho3 j hj; omega)) (And.intro (own_kept ho4 hk6 (fun j hj e => by have := hne ho4 j hj; omega)) (own_kept ho5 hk6 (fun j hj e => by have := hne ho5 j hj; omega))))
  have s6 := hG5.cell 6 rfl
  have s7 := (hG5.set 6 (.slice da' dt.length dc')).cell 7 rfl
  have s8 := ((hG5.set 6 (.slice da' dt.length dc')).set 7 (.slice ca' ci.length cc')).cell 8 rfl
  have f6 := hG5.free 6
  have f7 := (hG5.set 6 (.slice da' dt.length dc')).free 7
  have f8 := ((hG5.set 6 (.slice da' dt.length dc')).set 7 (.slice ca' ci.length cc')).free 8
  have HK6 := Lib.hid hk6
  have HG6 := Lib.hid hG6
  have HH6 := Lib.hid hH6
  have HXy := Lib.hid hxy
  have HLS := Lib.hid (And.intro s6 (And.intro s7 (And.intro s8 (And.intro f6 (And.intro f7 f8)))))
  clear hb5 ho3 ho4 ho5 hG5 hH5 hk6 hG6 hH6 hxy hne s6 s7 s8 f6 f7 f8
  go_wp2_with fail
  refine ⟨.inr HS5.out, ?_⟩
  repeat (refine Mt.quietly rfl ?_; go_big_quiet_want; go_big_quiet_op; go_big_quiet_on; refine Mx.done ?_)
  have s6 := HLS.out.1
  have f6 := HLS.out.2.2.2.1
  refine Mt.loudly (by kernel_rfl) (by kernel_rfl) ?_
  go_wp2_with fail
  refine ⟨.inl (by decide), ?_⟩
  clear s6 f6
  repeat (refine Mt.quietly rfl ?_; go_big_quiet_want; go_big_quiet_op; go_big_quiet_on; refine Mx.done ?_)
  have s7 := HLS.out.2.1
  have f7 := HLS.out.2.2.2.2.1
  refine Mt.loudly (by kernel_rfl) (by kernel_rfl) ?_
  go_wp2_with fail
  refine ⟨.inl (by decide), ?_⟩
  clear s7 f7
  repeat (refine Mt.quietly rfl ?_; go_big_quiet_want; go_big_quiet_op; go_big_quiet_on; refine Mx.done ?_)
  have s8 := HLS.out.2.2.1
  have f8 := HLS.out.2.2.2.2.2
  refine Mt.loudly (by kernel_rfl) (by kernel_rfl) ?_
  go_wp2_with fail
  refine ⟨.inl (by decide), ?_⟩
  clear s8 f8
  refine Mt.nil ?_
  obtain ⟨w6, hw6⟩ : ∃ w6, w6 = ((w5.setCell ⟨xb, 6, none⟩ (.slice da' dt.length dc')).setCell ⟨xb, 7, none⟩ (.slice ca' ci.length cc')).setCell ⟨xb, 8, none⟩ (.slice sa' sp.length sc') := ⟨_, rfl⟩
  rw [← hw6] at HK6 HG6 HH6 HO6 ⊢
  clear hw6
  have HG7 : Hid (Has w6 xb 34 [.int .i64 k, .int .i64 i, .int .i64 t, .int .i64 n, .int .i64 c, .bool fi, .slice da' dt.length dc', .slice ca' ci.length cc', .slice sa' sp.length sc', .int .i64 dl, .int .i64 e0, .int .i64 e1, .int .i64 e2]) := HG6
  have g0 := HG7.out.cell 0 rfl
  have g1 := HG7.out.cell 1 rfl
  have g2 := HG7.out.cell 2 rfl
  have g3 := HG7.out.cell 3 rfl
  have g4 := HG7.out.cell 4 rfl
  have g5 := HG7.out.cell 5 rfl
  have g6 := HG7.out.cell 6 rfl
  have g7 := HG7.out.cell 7 rfl
  have g8 := HG7.out.cell 8 rfl
  have g9 := HG7.out.cell 9 rfl
  have g10 := HG7.out.cell 10 rfl
  have g11 := HG7.out.cell 11 rfl
  have g12 := HG7.out.cell 12 rfl
  have h1 : Array.all (#[.int .i64 k, .int .i64 i, .int .i64 t, .int .i64 n, .int .i64 c, .bool fi, .slice da' dt.length dc', .slice ca' ci.length cc', .slice sa' sp.length sc', .int .i64 dl, .int .i64 e0, .int .i64 e1, .int .i64 e2] : Array Value) (·.oneCell') = true := by simp [Value.oneCell']
  go_wp2_with (refine wpList_store_mid rfl 34 (.tmp 2) (.tmp 15) rfl yb 0 #[.int .i64 k, .int .i64 i, .int .i64 t, .int .i64 n, .int .i64 c, .bool fi, .slice da' dt.length dc', .slice ca' ci.length cc', .slice sa' sp.length sc', .int .i64 dl, .int .i64 e0, .int .i64 e1, .int .i64 e2] rfl rfl (HH6.out.there rfl) infoFrR h1 ?_)
  go_wp2
  refine bodyPost_ret (results_frR rfl _ rfl (HH6.out.store rfl) rfl) rfl ?_
  have hk7 := Kept.sets yb ([.int .i64 k, .int .i64 i, .int .i64 t, .int .i64 n, .int .i64 c, .bool fi, .slice da' dt.length dc', .slice ca' ci.length cc', .slice sa' sp.length sc', .int .i64 dl, .int .i64 e0, .int .i64 e1, .int .i64 e2] : List Value) 0 w6
  have hxy := HXy.out
  have hne : ∀ {e s n : Nat} {v : Value} {xs : List Value}, w6.ownsRow w2.heap.size e s v n xs → ∀ j, v.ownBlock = some j → w2.heap.size ≤ j := fun ho j hj => by
    rcases ho.2 with ⟨hv, _⟩ | ⟨g, cap, cur, hv, hB, _⟩
    · rw [hv] at hj; cases hj
    · rw [hv] at hj; simp only [Value.ownBlock, Option.some.injEq] at hj; omega
  obtain ⟨q1, q2, q3⟩ := HO6.out
  have hsz := HB.out.size
  refine ⟨⟨da', dc', ca', cc', sa', sc'⟩, rfl, FOwn.mono (B := w2.heap.size) ⟨own_kept q1 hk7 (fun j hj e => by have := hne q1 j hj; omega), own_kept q2 hk7 (fun j hj e => by have := hne q2 j hj; omega), own_kept q3 hk7 (fun j hj e => by have := hne q3 j hj; omega)⟩ hsz, ?_⟩
  have hx0 := HXb.out
  have hy0 := HYb.out
  exact ((HB.out.trans (HB5.out.mono hsz)).trans (HK6.out.below (by have := HB5.out.size; omega) (fun j e => by omega))).trans (hk7.below (by have := HB5.out.size; have := HK6.out.size; omega) (fun j e => by omega))
end Go.Proofs.Ytppkilkfmclpkaa

/- Contract of frame's source: items (printed by gen_fritems.py). No condition but the sizes. -/
import Derived.Test.YtppkilkfmclpkaaFrSrcSp
import Derived.Test.YtppkilkfmclpkaaFrSrcSt
namespace Go.Proofs.Ytppkilkfmclpkaa
open Go.RowKit

def bindR (r : Rs) (k : Fm → Vr → Rs) : Rs := if r.err = 0 then k r.f r.V else r
/-- one mark -/
def setE (f : Fm) (i : Nat) (x : Int) : Fm := if i = 0 then { f with e0 := x } else if i = 1 then { f with e1 := x } else { f with e2 := x }
/-- an ack's last r marks -/
def mkV : Nat → Fm → Vr → Rs
  | 0, f, V => ⟨0, f, V⟩
  | r + 1, f, V => nxN V fun x V => mkV r (setE f (2 - r) x) V
/-- the items of a frame that is neither padding nor a stream's -/
def itemsV (V : Vr) (f : Fm) : Rs :=
  if f.kind = 2 then spsV V f
  else if f.kind = 3 then bindR (spsV V f) (mkV 3)
  else if f.kind = 4 then nxN V fun i V => nxN V fun c V => nxN V fun n V => ⟨0, { f with id := i, code := c, n := n }, V⟩
  else if f.kind = 5 then nxN V fun i V => nxN V fun c V => ⟨0, { f with id := i, code := c }, V⟩
  else if f.kind = 6 then nxN V fun t V => nxT V fun d V => ⟨0, { f with at_ := t, data := d }, V⟩
  else if f.kind = 7 then nxT V fun d V => ⟨0, { f with data := d }, V⟩
  else if f.kind = 17 ∨ f.kind = 21 then nxN V fun i V => nxN V fun n V => ⟨0, { f with id := i, n := n }, V⟩
  else if f.kind = 24 then nxN V fun n V => nxN V fun t V => nxB V 1 fun b V => nxB V (b.headD 0).toNat fun ci V => nxB V 16 fun d V => ⟨0, { f with n := n, at_ := t, cid := ci, data := d }, V⟩
  else if f.kind = 26 ∨ f.kind = 27 then nxB V 8 fun d V => ⟨0, { f with data := d }, V⟩
  else if f.kind = 28 then nxN V fun c V => nxN V fun n V => nxT V fun d V => ⟨0, { f with code := c, n := n, data := d }, V⟩
  else if f.kind = 29 then nxN V fun c V => nxT V fun d V => ⟨0, { f with code := c, data := d }, V⟩
  else if f.kind = 1 ∨ f.kind = 30 then ⟨0, f, V⟩
  else nxN V fun n V => ⟨0, { f with n := n }, V⟩
theorem hid_of {p : Prop} (h : p) : Hid p := Lib.hid h

theorem u8w {y : Nat} (h : y < 256) : IntKind.i64.wrap ((y : Nat) : Int) = (y : Int) := by rw [IntKind.wrap_i64]; omega
theorem u8w2 {y : Nat} (h : y < 256) : RowKit.wrap64 ((y : Nat) : Int) = (y : Int) := by unfold RowKit.wrap64; omega
/-- one byte is read -/
def Byt1P (w : World) (B g q gf : Nat) (a : Option Addr) (c : Nat) (V : Vr) (f : Fm) (fa : FA) (R : Rs) (k : List UInt8 → Vr → Rs) (e : Ending) (w2 : World) : Prop :=
  (e = .panicked (brk 12) ∧ SrcF w B g gf a c R (.panicked (brk 12)) w2) ∨ ∃ (y : Nat) (V' : Vr) (rb : Nat) (rc : Nat), e = .returned (.slice (some ⟨rb, 0, none⟩) 1 rc) ∧ y < 256 ∧ w2.cell? ⟨rb, 0, none⟩ = some (.int .u8 (y : Int)) ∧ SG w2 B g q gf a c V' f fa ∧ Kept (fun k => k = g ∨ k = gf) w w2 ∧ R = k [UInt8.ofNat y] V' ∧ V'.l = V.l
theorem bytV_one {V : Vr} (h : (bytV V 1).2.fault = 0) : ∃ b, (bytV V 1).1 = [b] := by
  unfold bytV at h ⊢
  by_cases h0 : V.fault = 0
  · rw [if_pos h0] at h ⊢
    by_cases h2 : V.l.length - V.at_ < 1
    · rw [if_pos h2] at h; cases h
    · rw [if_neg h2] at h ⊢
      have h3 : ((V.l.drop V.at_).take 1).length = 1 := by rw [List.length_take, List.length_drop]; omega
      exact List.length_eq_one_iff.1 h3
  · rw [if_neg h0] at h; exact absurd h h0
theorem take_step1 {w w1 : World} {B g q gf : Nat} {a : Option Addr} {c : Nat} {V : Vr} {f : Fm} {fa : FA} (h : SG w1 B g q gf a c V f fa) (hk : Kept (fun k => k = g ∨ k = gf) w w1) (_ : B ≤ w.heap.size) (hl : V.l.length ≤ 140737488351232) {R : Rs} {k : List UInt8 → Vr → Rs} (hR : R = nxB V 1 k) :
    Calls Try.prog 63 #[.agg #[.pointer (some ⟨g, 0, none⟩)], .int .i64 1] w1 (Byt1P w B g q gf a c V f fa R k) :=
  (stake_any w1 h.sf.vb hl 1).mono fun e w2 ⟨he, hk2, hV2⟩ => by
    have h2 := h.call hk2 hV2
    have hk3 := kept_call hk hk2
    unfold nxB at hR
    by_cases h0 : (bytV V 1).2.fault = 0
    · rw [if_pos h0] at he hR
      obtain ⟨ra, rc, he, ho⟩ := he
      obtain ⟨b, hb⟩ := bytV_one h0
      rw [hb] at he hR ho
      obtain ⟨rb, hra, hcell, _⟩ := own_cell ho (i := 0) (by simp)
      rw [hra] at he
      refine .inr ⟨b.toNat, _, rb, rc, he, UInt8.toNat_lt b, ?_, h2, hk3, ?_, bytV_l V 1⟩
      · rw [hcell]; rfl
      · rw [hR]; simp
    · rw [if_neg h0] at he hR
      refine .inl ⟨he, ?_⟩
      rw [hR]
      exact SrcF.bad hk3 h2.sf
theorem head_of {y : Nat} (h : y < 256) : (([UInt8.ofNat y] : List UInt8).headD 0).toNat = y := by simp; omega

set_option maxRecDepth 100000 in
set_option maxHeartbeats 4000000 in
theorem sitems_1 (w : World) {B g gf : Nat} {a : Option Addr} {c : Nat} {V : Vr} {f : Fm} {fa : FA} (h : SF w B g gf a c V f fa) (hB : B ≤ w.heap.size) (hl : V.l.length ≤ 140737488351232) (hkd : f.kind = 1) :
    Calls Try.prog 54 #[.agg #[.pointer (some ⟨g, 0, none⟩)], .pointer (some ⟨gf, 0, none⟩)] w (SrcF w B g gf a c (itemsV V f)) := by
  have HG := Lib.hid (SG.new h)
  have HK := Lib.hid (kept_first (w := w) (g := g) (gf := gf) (.cells #[.pointer (some ⟨g, 0, none⟩)] 72))
  have HB := Lib.hid hB
  have HL := Lib.hid hl
  obtain ⟨q, hq⟩ : ∃ q, q = w.heap.size := ⟨_, rfl⟩
  obtain ⟨w1, hw1⟩ : ∃ w1, w1 = w.alloc (.cells #[.pointer (some ⟨g, 0, none⟩)] 72) := ⟨_, rfl⟩
  rw [← hq, ← hw1] at HG
  rw [← hw1] at HK
  obtain ⟨R, hR⟩ : ∃ R, R = itemsV V f := ⟨_, rfl⟩
  rw [← hR]
  unfold itemsV at hR
  simp only [hkd, Int.reduceEq, if_false, if_true, or_false] at hR
  have HR := Lib.hid hR
  have HKd := Lib.hid hkd
  have k0 := HG.out.sf.box.cell 0 rfl
  rw [hkd] at k0
  clear h hB hl hR hkd
  go_enter Try.func54, Try.ntmps54
  go_upto_region 1 with fail
  rw [← hw1, ← hq]
  clear hw1 hq
  go_wp2
  go_end0
  rw [show R = ⟨0, f, V⟩ from by rw [HR.out]; try simp only [HKd.out]]
  exact SrcF.good HK.out HG.out.sf
set_option maxRecDepth 100000 in
set_option maxHeartbeats 4000000 in
theorem sitems_4 (w : World) {B g gf : Nat} {a : Option Addr} {c : Nat} {V : Vr} {f : Fm} {fa : FA} (h : SF w B g gf a c V f fa) (hB : B ≤ w.heap.size) (hl : V.l.length ≤ 140737488351232) (hkd : f.kind = 4) :
    Calls Try.prog 54 #[.agg #[.pointer (some ⟨g, 0, none⟩)], .pointer (some ⟨gf, 0, none⟩)] w (SrcF w B g gf a c (itemsV V f)) := by
  have HG := Lib.hid (SG.new h)
  have HK := Lib.hid (kept_first (w := w) (g := g) (gf := gf) (.cells #[.pointer (some ⟨g, 0, none⟩)] 72))
  have HB := Lib.hid hB
  have HL := Lib.hid hl
  obtain ⟨q, hq⟩ : ∃ q, q = w.heap.size := ⟨_, rfl⟩
  obtain ⟨w1, hw1⟩ : ∃ w1, w1 = w.alloc (.cells #[.pointer (some ⟨g, 0, none⟩)] 72) := ⟨_, rfl⟩
  rw [← hq, ← hw1] at HG
  rw [← hw1] at HK
  obtain ⟨R, hR⟩ : ∃ R, R = itemsV V f := ⟨_, rfl⟩
  rw [← hR]
  unfold itemsV at hR
  simp only [hkd, Int.reduceEq, if_false, if_true, or_false] at hR
  have HR := Lib.hid hR
  have HKd := Lib.hid hkd
  have k0 := HG.out.sf.box.cell 0 rfl
  rw [hkd] at k0
  clear h hB hl hR hkd
  go_enter Try.func54, Try.ntmps54
  go_upto_region 1 with fail
  rw [← hw1, ← hq]
  clear hw1 hq
  go_upto_region 13 with fail
  have HG2 := Lib.hid HG.out.drew
  have HK2 := Lib.hid (HK.out.trans (Kept.drew (fun k => k = g) w1) (fun _ _ h => .inl h))
  have HS2 := Lib.hid HG2.out.sat
  refine MixP.region [] [0, 1, 2, 3, 5, 7, 4, 6, 8, 9, 10, 11, 12, 13, 14, 15, 16, 17] [4, 6, 8] (Sat [(⟨q, 0, none⟩, .pointer (some ⟨g, 0, none⟩))]) (SrcD w B g gf a c R) (by kernel_rfl) (by kernel_rfl) HS2.out ?_ ?_
  · intro ch a' w' h
    exact h
  refine MixP.step (o := ⟨_, _, _, _, _, _⟩) rfl ?_
  refine Mx.quietly rfl ?_; go_big_quiet_want; go_big_quiet_op; go_big_quiet_on; refine Mx.done ?_
  refine Mx.nil ?_
  refine MixP.step (o := ⟨_, _, _, _, _, _⟩) rfl ?_
  refine Mx.quietly rfl ?_; go_big_quiet_want; go_big_quiet_op; go_big_quiet_on; refine Mx.done ?_
  refine Mx.nil ?_
  refine MixP.step (o := ⟨_, _, _, _, _, _⟩) rfl ?_
  refine Mx.quietly rfl ?_; go_big_quiet_want; go_big_quiet_op; go_big_quiet_on; refine Mx.done ?_
  refine Mx.nil ?_
  refine MixP.step rfl ?_
  refine Mx.mid q 0 [.pointer (some ⟨g, 0, none⟩)] _ (by kernel_rfl) (by kernel_rfl) (by kernel_rfl) Try.underlying72 rfl (by kernel_rfl) (fun w' h => mid1 (h 0 _ _ rfl)) ?_
  go_big_quiet_want; go_big_quiet_op; go_big_quiet_on; refine Mx.done ?_
  refine Mx.nil ?_
  refine MixP.step rfl ?_
  refine Mx.mid q 0 [.pointer (some ⟨g, 0, none⟩)] _ (by kernel_rfl) (by kernel_rfl) (by kernel_rfl) Try.underlying72 rfl (by kernel_rfl) (fun w' h => mid1 (h 0 _ _ rfl)) ?_
  go_big_quiet_want; go_big_quiet_op; go_big_quiet_on; refine Mx.done ?_
  refine Mx.nil ?_
  refine MixP.step rfl ?_
  refine Mx.mid q 0 [.pointer (some ⟨g, 0, none⟩)] _ (by kernel_rfl) (by kernel_rfl) (by kernel_rfl) Try.underlying72 rfl (by kernel_rfl) (fun w' h => mid1 (h 0 _ _ rfl)) ?_
  go_big_quiet_want; go_big_quiet_op; go_big_quiet_on; refine Mx.done ?_
  refine Mx.nil ?_
  have HN3 := Lib.hid (num_step HG2.out HK2.out (R := R) HR.out)
  refine MixP.panicky rfl (by kernel_rfl) (by kernel_rfl) rfl ?_
  go_wp2_with fail
  refine HN3.out.mono ?_
  rintro e w3 (⟨rfl, hbad⟩ | ⟨x3, V3, rfl, hx3, hG3, hK3, hR3, hl3, hf3⟩)
  · exact ⟨rfl, hbad⟩
  have HG3 := Lib.hid hG3
  have HK3 := Lib.hid hK3
  have HR3 := Lib.hid hR3
  have HL3 : Hid (V3.l.length ≤ 140737488351232) := Lib.hid (by rw [hl3]; exact HL.out)
  clear hG3 hK3 hR3 hl3 hf3 hx3
  have hs3 := HG3.out.sat
  go_wp2_with fail
  (try (refine ⟨hs3, ?_⟩))
  clear hs3
  have HN4 := Lib.hid (num_step HG3.out HK3.out (R := R) HR3.out)
  refine MixP.panicky rfl (by kernel_rfl) (by kernel_rfl) rfl ?_
  go_wp2_with fail
  refine HN4.out.mono ?_
  rintro e w4 (⟨rfl, hbad⟩ | ⟨x4, V4, rfl, hx4, hG4, hK4, hR4, hl4, hf4⟩)
  · exact ⟨rfl, hbad⟩
  have HG4 := Lib.hid hG4
  have HK4 := Lib.hid hK4
  have HR4 := Lib.hid hR4
  have HL4 : Hid (V4.l.length ≤ 140737488351232) := Lib.hid (by rw [hl4]; exact HL3.out)
  clear hG4 hK4 hR4 hl4 hf4 hx4
  have hs4 := HG4.out.sat
  go_wp2_with fail
  (try (refine ⟨hs4, ?_⟩))
  clear hs4
  have HN5 := Lib.hid (num_step HG4.out HK4.out (R := R) HR4.out)
  refine MixP.panicky rfl (by kernel_rfl) (by kernel_rfl) rfl ?_
  go_wp2_with fail
  refine HN5.out.mono ?_
  rintro e w5 (⟨rfl, hbad⟩ | ⟨x5, V5, rfl, hx5, hG5, hK5, hR5, hl5, hf5⟩)
  · exact ⟨rfl, hbad⟩
  have HG5 := Lib.hid hG5
  have HK5 := Lib.hid hK5
  have HR5 := Lib.hid hR5
  have HL5 : Hid (V5.l.length ≤ 140737488351232) := Lib.hid (by rw [hl5]; exact HL4.out)
  clear hG5 hK5 hR5 hl5 hf5 hx5
  have hs5 := HG5.out.sat
  go_wp2_with fail
  (try (refine ⟨hs5, ?_⟩))
  clear hs5
  have c6 := HG5.out.sf.box.cell 1 rfl
  have b6 := HG5.out.sf.box.free 1
  have HG6 := Lib.hid (HG5.out.put (f' := { f with id := (x3 : Int) }) (fa' := fa) 1 (.int .i64 (x3 : Int)) rfl ⟨HG5.out.sf.own.data, HG5.out.sf.own.cid, HG5.out.sf.own.spans⟩)
  have HK6 := Lib.hid (kept_put HK5.out 1 (.int .i64 (x3 : Int)))
  have hs6 := HG6.out.sat
  refine MixP.step (o := ⟨_, _, _, _, _, _⟩) rfl ?_
  refine Mx.quietly rfl ?_; go_big_quiet_want; go_big_quiet_op; go_big_quiet_on; refine Mx.done ?_
  refine Mx.nil ?_
  refine MixP.step (o := ⟨_, _, _, _, _, _⟩) rfl ?_
  refine Mx.quietly rfl ?_; go_big_quiet_want; go_big_quiet_op; go_big_quiet_on; refine Mx.done ?_
  refine Mx.nil ?_
  refine MixP.step rfl ?_
  refine Mx.loudly (by kernel_rfl) (by kernel_rfl) ?_
  go_wp2_with fail
  (try (refine ⟨hs6, ?_⟩))
  refine Mx.nil ?_
  obtain ⟨w6, hw6⟩ : ∃ w6, w6 = w5.setCell ⟨gf, 1, none⟩ (.int .i64 (x3 : Int)) := ⟨_, rfl⟩
  rw [← hw6] at HG6 HK6  ⊢
  clear hw6 c6 b6 hs6
  have c7 := HG6.out.sf.box.cell 4 rfl
  have b7 := HG6.out.sf.box.free 4
  have HG7 := Lib.hid (HG6.out.put (f' := { { f with id := (x3 : Int) } with code := (x4 : Int) }) (fa' := fa) 4 (.int .i64 (x4 : Int)) rfl ⟨HG6.out.sf.own.data, HG6.out.sf.own.cid, HG6.out.sf.own.spans⟩)
  have HK7 := Lib.hid (kept_put HK6.out 4 (.int .i64 (x4 : Int)))
  have hs7 := HG7.out.sat
  refine MixP.step (o := ⟨_, _, _, _, _, _⟩) rfl ?_
  refine Mx.quietly rfl ?_; go_big_quiet_want; go_big_quiet_op; go_big_quiet_on; refine Mx.done ?_
  refine Mx.nil ?_
  refine MixP.step (o := ⟨_, _, _, _, _, _⟩) rfl ?_
  refine Mx.quietly rfl ?_; go_big_quiet_want; go_big_quiet_op; go_big_quiet_on; refine Mx.done ?_
  refine Mx.nil ?_
  refine MixP.step rfl ?_
  refine Mx.loudly (by kernel_rfl) (by kernel_rfl) ?_
  go_wp2_with fail
  (try (refine ⟨hs7, ?_⟩))
  refine Mx.nil ?_
  obtain ⟨w7, hw7⟩ : ∃ w7, w7 = w6.setCell ⟨gf, 4, none⟩ (.int .i64 (x4 : Int)) := ⟨_, rfl⟩
  rw [← hw7] at HG7 HK7  ⊢
  clear hw7 c7 b7 hs7
  have c8 := HG7.out.sf.box.cell 3 rfl
  have b8 := HG7.out.sf.box.free 3
  have HG8 := Lib.hid (HG7.out.put (f' := { { { f with id := (x3 : Int) } with code := (x4 : Int) } with n := (x5 : Int) }) (fa' := fa) 3 (.int .i64 (x5 : Int)) rfl ⟨HG7.out.sf.own.data, HG7.out.sf.own.cid, HG7.out.sf.own.spans⟩)
  have HK8 := Lib.hid (kept_put HK7.out 3 (.int .i64 (x5 : Int)))
  have hs8 := HG8.out.sat
  refine MixP.step (o := ⟨_, _, _, _, _, _⟩) rfl ?_
  refine Mx.quietly rfl ?_; go_big_quiet_want; go_big_quiet_op; go_big_quiet_on; refine Mx.done ?_
  refine Mx.nil ?_
  refine MixP.step (o := ⟨_, _, _, _, _, _⟩) rfl ?_
  refine Mx.quietly rfl ?_; go_big_quiet_want; go_big_quiet_op; go_big_quiet_on; refine Mx.done ?_
  refine Mx.nil ?_
  refine MixP.step rfl ?_
  refine Mx.loudly (by kernel_rfl) (by kernel_rfl) ?_
  go_wp2_with fail
  (try (refine ⟨hs8, ?_⟩))
  refine Mx.nil ?_
  obtain ⟨w8, hw8⟩ : ∃ w8, w8 = w7.setCell ⟨gf, 3, none⟩ (.int .i64 (x5 : Int)) := ⟨_, rfl⟩
  rw [← hw8] at HG8 HK8  ⊢
  clear hw8 c8 b8 hs8
  refine MixP.nil ?_
  go_wp2
  go_end0
  rw [show R = ⟨0, { { { f with id := (x3 : Int) } with code := (x4 : Int) } with n := (x5 : Int) }, V5⟩ from by rw [HR5.out]; try simp only [HKd.out]]
  exact SrcF.good HK8.out HG8.out.sf
set_option maxRecDepth 100000 in
set_option maxHeartbeats 4000000 in
theorem sitems_5 (w : World) {B g gf : Nat} {a : Option Addr} {c : Nat} {V : Vr} {f : Fm} {fa : FA} (h : SF w B g gf a c V f fa) (hB : B ≤ w.heap.size) (hl : V.l.length ≤ 140737488351232) (hkd : f.kind = 5) :
    Calls Try.prog 54 #[.agg #[.pointer (some ⟨g, 0, none⟩)], .pointer (some ⟨gf, 0, none⟩)] w (SrcF w B g gf a c (itemsV V f)) := by
  have HG := Lib.hid (SG.new h)
  have HK := Lib.hid (kept_first (w := w) (g := g) (gf := gf) (.cells #[.pointer (some ⟨g, 0, none⟩)] 72))
  have HB := Lib.hid hB
  have HL := Lib.hid hl
  obtain ⟨q, hq⟩ : ∃ q, q = w.heap.size := ⟨_, rfl⟩
  obtain ⟨w1, hw1⟩ : ∃ w1, w1 = w.alloc (.cells #[.pointer (some ⟨g, 0, none⟩)] 72) := ⟨_, rfl⟩
  rw [← hq, ← hw1] at HG
  rw [← hw1] at HK
  obtain ⟨R, hR⟩ : ∃ R, R = itemsV V f := ⟨_, rfl⟩
  rw [← hR]
  unfold itemsV at hR
  simp only [hkd, Int.reduceEq, if_false, if_true, or_false] at hR
  have HR := Lib.hid hR
  have HKd := Lib.hid hkd
  have k0 := HG.out.sf.box.cell 0 rfl
  rw [hkd] at k0
  clear h hB hl hR hkd
  go_enter Try.func54, Try.ntmps54
  go_upto_region 1 with fail
  rw [← hw1, ← hq]
  clear hw1 hq
  go_upto_region 15 with fail
  have HG2 := Lib.hid HG.out.drew
  have HK2 := Lib.hid (HK.out.trans (Kept.drew (fun k => k = g) w1) (fun _ _ h => .inl h))
  have HS2 := Lib.hid HG2.out.sat
  refine MixP.region [] [0, 1, 2, 4, 3, 5, 6, 7, 8, 9, 10, 11] [3, 5] (Sat [(⟨q, 0, none⟩, .pointer (some ⟨g, 0, none⟩))]) (SrcD w B g gf a c R) (by kernel_rfl) (by kernel_rfl) HS2.out ?_ ?_
  · intro ch a' w' h
    exact h
  refine MixP.step (o := ⟨_, _, _, _, _, _⟩) rfl ?_
  refine Mx.quietly rfl ?_; go_big_quiet_want; go_big_quiet_op; go_big_quiet_on; refine Mx.done ?_
  refine Mx.nil ?_
  refine MixP.step (o := ⟨_, _, _, _, _, _⟩) rfl ?_
  refine Mx.quietly rfl ?_; go_big_quiet_want; go_big_quiet_op; go_big_quiet_on; refine Mx.done ?_
  refine Mx.nil ?_
  refine MixP.step rfl ?_
  refine Mx.mid q 0 [.pointer (some ⟨g, 0, none⟩)] _ (by kernel_rfl) (by kernel_rfl) (by kernel_rfl) Try.underlying72 rfl (by kernel_rfl) (fun w' h => mid1 (h 0 _ _ rfl)) ?_
  go_big_quiet_want; go_big_quiet_op; go_big_quiet_on; refine Mx.done ?_
  refine Mx.nil ?_
  refine MixP.step rfl ?_
  refine Mx.mid q 0 [.pointer (some ⟨g, 0, none⟩)] _ (by kernel_rfl) (by kernel_rfl) (by kernel_rfl) Try.underlying72 rfl (by kernel_rfl) (fun w' h => mid1 (h 0 _ _ rfl)) ?_
  go_big_quiet_want; go_big_quiet_op; go_big_quiet_on; refine Mx.done ?_
  refine Mx.nil ?_
  have HN3 := Lib.hid (num_step HG2.out HK2.out (R := R) HR.out)
  refine MixP.panicky rfl (by kernel_rfl) (by kernel_rfl) rfl ?_
  go_wp2_with fail
  refine HN3.out.mono ?_
  rintro e w3 (⟨rfl, hbad⟩ | ⟨x3, V3, rfl, hx3, hG3, hK3, hR3, hl3, hf3⟩)
  · exact ⟨rfl, hbad⟩
  have HG3 := Lib.hid hG3
  have HK3 := Lib.hid hK3
  have HR3 := Lib.hid hR3
  have HL3 : Hid (V3.l.length ≤ 140737488351232) := Lib.hid (by rw [hl3]; exact HL.out)
  clear hG3 hK3 hR3 hl3 hf3 hx3
  have hs3 := HG3.out.sat
  go_wp2_with fail
  (try (refine ⟨hs3, ?_⟩))
  clear hs3
  have HN4 := Lib.hid (num_step HG3.out HK3.out (R := R) HR3.out)
  refine MixP.panicky rfl (by kernel_rfl) (by kernel_rfl) rfl ?_
  go_wp2_with fail
  refine HN4.out.mono ?_
  rintro e w4 (⟨rfl, hbad⟩ | ⟨x4, V4, rfl, hx4, hG4, hK4, hR4, hl4, hf4⟩)
  · exact ⟨rfl, hbad⟩
  have HG4 := Lib.hid hG4
  have HK4 := Lib.hid hK4
  have HR4 := Lib.hid hR4
  have HL4 : Hid (V4.l.length ≤ 140737488351232) := Lib.hid (by rw [hl4]; exact HL3.out)
  clear hG4 hK4 hR4 hl4 hf4 hx4
  have hs4 := HG4.out.sat
  go_wp2_with fail
  (try (refine ⟨hs4, ?_⟩))
  clear hs4
  have c5 := HG4.out.sf.box.cell 1 rfl
  have b5 := HG4.out.sf.box.free 1
  have HG5 := Lib.hid (HG4.out.put (f' := { f with id := (x3 : Int) }) (fa' := fa) 1 (.int .i64 (x3 : Int)) rfl ⟨HG4.out.sf.own.data, HG4.out.sf.own.cid, HG4.out.sf.own.spans⟩)
  have HK5 := Lib.hid (kept_put HK4.out 1 (.int .i64 (x3 : Int)))
  have hs5 := HG5.out.sat
  refine MixP.step (o := ⟨_, _, _, _, _, _⟩) rfl ?_
  refine Mx.quietly rfl ?_; go_big_quiet_want; go_big_quiet_op; go_big_quiet_on; refine Mx.done ?_
  refine Mx.nil ?_
  refine MixP.step (o := ⟨_, _, _, _, _, _⟩) rfl ?_
  refine Mx.quietly rfl ?_; go_big_quiet_want; go_big_quiet_op; go_big_quiet_on; refine Mx.done ?_
  refine Mx.nil ?_
  refine MixP.step rfl ?_
  refine Mx.loudly (by kernel_rfl) (by kernel_rfl) ?_
  go_wp2_with fail
  (try (refine ⟨hs5, ?_⟩))
  refine Mx.nil ?_
  obtain ⟨w5, hw5⟩ : ∃ w5, w5 = w4.setCell ⟨gf, 1, none⟩ (.int .i64 (x3 : Int)) := ⟨_, rfl⟩
  rw [← hw5] at HG5 HK5  ⊢
  clear hw5 c5 b5 hs5
  have c6 := HG5.out.sf.box.cell 4 rfl
  have b6 := HG5.out.sf.box.free 4
  have HG6 := Lib.hid (HG5.out.put (f' := { { f with id := (x3 : Int) } with code := (x4 : Int) }) (fa' := fa) 4 (.int .i64 (x4 : Int)) rfl ⟨HG5.out.sf.own.data, HG5.out.sf.own.cid, HG5.out.sf.own.spans⟩)
  have HK6 := Lib.hid (kept_put HK5.out 4 (.int .i64 (x4 : Int)))
  have hs6 := HG6.out.sat
  refine MixP.step (o := ⟨_, _, _, _, _, _⟩) rfl ?_
  refine Mx.quietly rfl ?_; go_big_quiet_want; go_big_quiet_op; go_big_quiet_on; refine Mx.done ?_
  refine Mx.nil ?_
  refine MixP.step (o := ⟨_, _, _, _, _, _⟩) rfl ?_
  refine Mx.quietly rfl ?_; go_big_quiet_want; go_big_quiet_op; go_big_quiet_on; refine Mx.done ?_
  refine Mx.nil ?_
  refine MixP.step rfl ?_
  refine Mx.loudly (by kernel_rfl) (by kernel_rfl) ?_
  go_wp2_with fail
  (try (refine ⟨hs6, ?_⟩))
  refine Mx.nil ?_
  obtain ⟨w6, hw6⟩ : ∃ w6, w6 = w5.setCell ⟨gf, 4, none⟩ (.int .i64 (x4 : Int)) := ⟨_, rfl⟩
  rw [← hw6] at HG6 HK6  ⊢
  clear hw6 c6 b6 hs6
  refine MixP.nil ?_
  go_wp2
  go_end0
  rw [show R = ⟨0, { { f with id := (x3 : Int) } with code := (x4 : Int) }, V4⟩ from by rw [HR4.out]; try simp only [HKd.out]]
  exact SrcF.good HK6.out HG6.out.sf
set_option maxRecDepth 100000 in
set_option maxHeartbeats 4000000 in
theorem sitems_6 (w : World) {B g gf : Nat} {a : Option Addr} {c : Nat} {V : Vr} {f : Fm} {fa : FA} (h : SF w B g gf a c V f fa) (hB : B ≤ w.heap.size) (hl : V.l.length ≤ 140737488351232) (hkd : f.kind = 6) :
    Calls Try.prog 54 #[.agg #[.pointer (some ⟨g, 0, none⟩)], .pointer (some ⟨gf, 0, none⟩)] w (SrcF w B g gf a c (itemsV V f)) := by
  have HG := Lib.hid (SG.new h)
  have HK := Lib.hid (kept_first (w := w) (g := g) (gf := gf) (.cells #[.pointer (some ⟨g, 0, none⟩)] 72))
  have HB := Lib.hid hB
  have HL := Lib.hid hl
  obtain ⟨q, hq⟩ : ∃ q, q = w.heap.size := ⟨_, rfl⟩
  obtain ⟨w1, hw1⟩ : ∃ w1, w1 = w.alloc (.cells #[.pointer (some ⟨g, 0, none⟩)] 72) := ⟨_, rfl⟩
  rw [← hq, ← hw1] at HG
  rw [← hw1] at HK
  obtain ⟨R, hR⟩ : ∃ R, R = itemsV V f := ⟨_, rfl⟩
  rw [← hR]
  unfold itemsV at hR
  simp only [hkd, Int.reduceEq, if_false, if_true, or_false] at hR
  have HR := Lib.hid hR
  have HKd := Lib.hid hkd
  have k0 := HG.out.sf.box.cell 0 rfl
  rw [hkd] at k0
  clear h hB hl hR hkd
  go_enter Try.func54, Try.ntmps54
  go_upto_region 1 with fail
  rw [← hw1, ← hq]
  clear hw1 hq
  go_upto_region 17 with fail
  have HG2 := Lib.hid HG.out.drew
  have HK2 := Lib.hid (HK.out.trans (Kept.drew (fun k => k = g) w1) (fun _ _ h => .inl h))
  have HS2 := Lib.hid HG2.out.sat
  refine MixP.region [] [0, 1, 2, 4, 3, 5, 6, 7, 8, 9, 10, 11] [3, 5] (Sat [(⟨q, 0, none⟩, .pointer (some ⟨g, 0, none⟩))]) (SrcD w B g gf a c R) (by kernel_rfl) (by kernel_rfl) HS2.out ?_ ?_
  · intro ch a' w' h
    exact h
  refine MixP.step (o := ⟨_, _, _, _, _, _⟩) rfl ?_
  refine Mx.quietly rfl ?_; go_big_quiet_want; go_big_quiet_op; go_big_quiet_on; refine Mx.done ?_
  refine Mx.nil ?_
  refine MixP.step (o := ⟨_, _, _, _, _, _⟩) rfl ?_
  refine Mx.quietly rfl ?_; go_big_quiet_want; go_big_quiet_op; go_big_quiet_on; refine Mx.done ?_
  refine Mx.nil ?_
  refine MixP.step rfl ?_
  refine Mx.mid q 0 [.pointer (some ⟨g, 0, none⟩)] _ (by kernel_rfl) (by kernel_rfl) (by kernel_rfl) Try.underlying72 rfl (by kernel_rfl) (fun w' h => mid1 (h 0 _ _ rfl)) ?_
  go_big_quiet_want; go_big_quiet_op; go_big_quiet_on; refine Mx.done ?_
  refine Mx.nil ?_
  refine MixP.step rfl ?_
  refine Mx.mid q 0 [.pointer (some ⟨g, 0, none⟩)] _ (by kernel_rfl) (by kernel_rfl) (by kernel_rfl) Try.underlying72 rfl (by kernel_rfl) (fun w' h => mid1 (h 0 _ _ rfl)) ?_
  go_big_quiet_want; go_big_quiet_op; go_big_quiet_on; refine Mx.done ?_
  refine Mx.nil ?_
  have HN3 := Lib.hid (num_step HG2.out HK2.out (R := R) HR.out)
  refine MixP.panicky rfl (by kernel_rfl) (by kernel_rfl) rfl ?_
  go_wp2_with fail
  refine HN3.out.mono ?_
  rintro e w3 (⟨rfl, hbad⟩ | ⟨x3, V3, rfl, hx3, hG3, hK3, hR3, hl3, hf3⟩)
  · exact ⟨rfl, hbad⟩
  have HG3 := Lib.hid hG3
  have HK3 := Lib.hid hK3
  have HR3 := Lib.hid hR3
  have HL3 : Hid (V3.l.length ≤ 140737488351232) := Lib.hid (by rw [hl3]; exact HL.out)
  clear hG3 hK3 hR3 hl3 hf3 hx3
  have hs3 := HG3.out.sat
  go_wp2_with fail
  (try (refine ⟨hs3, ?_⟩))
  clear hs3
  have HN4 := Lib.hid (text_step HG3.out HK3.out HB.out HL3.out (R := R) HR3.out)
  refine MixP.panicky rfl (by kernel_rfl) (by kernel_rfl) rfl ?_
  go_wp2_with fail
  refine HN4.out.mono ?_
  rintro e w4 (⟨rfl, hbad⟩ | ⟨y4, V4, ra4, rc4, rfl, ho4, hG4, hK4, hR4, hl4, hf4, hn4⟩)
  · exact ⟨rfl, hbad⟩
  obtain ⟨m4, hm4⟩ : ∃ m, m = y4.length := ⟨_, rfl⟩
  have HO4_0 := Lib.hid ho4
  dsimp only
  rw [← hm4]
  have HM4 := Lib.hid hm4
  clear ho4 hn4 hm4
  have HG4 := Lib.hid hG4
  have HK4 := Lib.hid hK4
  have HR4 := Lib.hid hR4
  have HL4 : Hid (V4.l.length ≤ 140737488351232) := Lib.hid (by rw [hl4]; exact HL3.out)
  clear hG4 hK4 hR4 hl4 hf4
  have hs4 := HG4.out.sat
  go_wp2_with fail
  (try (refine ⟨hs4, ?_⟩))
  clear hs4
  have c5 := HG4.out.sf.box.cell 2 rfl
  have b5 := HG4.out.sf.box.free 2
  have HG5 := Lib.hid (HG4.out.put (f' := { f with at_ := (x3 : Int) }) (fa' := fa) 2 (.int .i64 (x3 : Int)) rfl ⟨HG4.out.sf.own.data, HG4.out.sf.own.cid, HG4.out.sf.own.spans⟩)
  have HK5 := Lib.hid (kept_put HK4.out 2 (.int .i64 (x3 : Int)))
  have HO4_1 := Lib.hid (row_put HO4_0.out HG4.out.sf 2 (.int .i64 (x3 : Int)))
  have hs5 := HG5.out.sat
  refine MixP.step (o := ⟨_, _, _, _, _, _⟩) rfl ?_
  refine Mx.quietly rfl ?_; go_big_quiet_want; go_big_quiet_op; go_big_quiet_on; refine Mx.done ?_
  refine Mx.nil ?_
  refine MixP.step (o := ⟨_, _, _, _, _, _⟩) rfl ?_
  refine Mx.quietly rfl ?_; go_big_quiet_want; go_big_quiet_op; go_big_quiet_on; refine Mx.done ?_
  refine Mx.nil ?_
  refine MixP.step rfl ?_
  refine Mx.loudly (by kernel_rfl) (by kernel_rfl) ?_
  go_wp2_with fail
  (try (refine ⟨hs5, ?_⟩))
  refine Mx.nil ?_
  obtain ⟨w5, hw5⟩ : ∃ w5, w5 = w4.setCell ⟨gf, 2, none⟩ (.int .i64 (x3 : Int)) := ⟨_, rfl⟩
  rw [← hw5] at HG5 HK5 HO4_1 ⊢
  clear hw5 c5 b5 hs5
  have c6 := HG5.out.sf.box.cell 6 rfl
  have b6 := HG5.out.sf.box.free 6
  have HG6 := Lib.hid (HG5.out.put (f' := { { f with at_ := (x3 : Int) } with data := y4 }) (fa' := { fa with da := ra4, dc := rc4 }) 6 (.slice ra4 m4 rc4) (by rw [HM4.out]; rfl) ⟨HO4_1.out, HG5.out.sf.own.cid, HG5.out.sf.own.spans⟩)
  have HK6 := Lib.hid (kept_put HK5.out 6 (.slice ra4 m4 rc4))
  have hs6 := HG6.out.sat
  refine MixP.step (o := ⟨_, _, _, _, _, _⟩) rfl ?_
  refine Mx.quietly rfl ?_; go_big_quiet_want; go_big_quiet_op; go_big_quiet_on; refine Mx.done ?_
  refine Mx.nil ?_
  refine MixP.step (o := ⟨_, _, _, _, _, _⟩) rfl ?_
  refine Mx.quietly rfl ?_; go_big_quiet_want; go_big_quiet_op; go_big_quiet_on; refine Mx.done ?_
  refine Mx.nil ?_
  refine MixP.step rfl ?_
  refine Mx.loudly (by kernel_rfl) (by kernel_rfl) ?_
  go_wp2_with fail
  (try (refine ⟨hs6, ?_⟩))
  refine Mx.nil ?_
  obtain ⟨w6, hw6⟩ : ∃ w6, w6 = w5.setCell ⟨gf, 6, none⟩ (.slice ra4 m4 rc4) := ⟨_, rfl⟩
  rw [← hw6] at HG6 HK6  ⊢
  clear hw6 c6 b6 hs6
  refine MixP.nil ?_
  go_wp2
  go_end0
  rw [show R = ⟨0, { { f with at_ := (x3 : Int) } with data := y4 }, V4⟩ from by rw [HR4.out]; try simp only [HKd.out]]
  exact SrcF.good HK6.out HG6.out.sf
set_option maxRecDepth 100000 in
set_option maxHeartbeats 4000000 in
theorem sitems_7 (w : World) {B g gf : Nat} {a : Option Addr} {c : Nat} {V : Vr} {f : Fm} {fa : FA} (h : SF w B g gf a c V f fa) (hB : B ≤ w.heap.size) (hl : V.l.length ≤ 140737488351232) (hkd : f.kind = 7) :
    Calls Try.prog 54 #[.agg #[.pointer (some ⟨g, 0, none⟩)], .pointer (some ⟨gf, 0, none⟩)] w (SrcF w B g gf a c (itemsV V f)) := by
  have HG := Lib.hid (SG.new h)
  have HK := Lib.hid (kept_first (w := w) (g := g) (gf := gf) (.cells #[.pointer (some ⟨g, 0, none⟩)] 72))
  have HB := Lib.hid hB
  have HL := Lib.hid hl
  obtain ⟨q, hq⟩ : ∃ q, q = w.heap.size := ⟨_, rfl⟩
  obtain ⟨w1, hw1⟩ : ∃ w1, w1 = w.alloc (.cells #[.pointer (some ⟨g, 0, none⟩)] 72) := ⟨_, rfl⟩
  rw [← hq, ← hw1] at HG
  rw [← hw1] at HK
  obtain ⟨R, hR⟩ : ∃ R, R = itemsV V f := ⟨_, rfl⟩
  rw [← hR]
  unfold itemsV at hR
  simp only [hkd, Int.reduceEq, if_false, if_true, or_false] at hR
  have HR := Lib.hid hR
  have HKd := Lib.hid hkd
  have k0 := HG.out.sf.box.cell 0 rfl
  rw [hkd] at k0
  clear h hB hl hR hkd
  go_enter Try.func54, Try.ntmps54
  go_upto_region 1 with fail
  rw [← hw1, ← hq]
  clear hw1 hq
  have HN2 := Lib.hid (text_step HG.out HK.out HB.out HL.out (R := R) HR.out)
  have s2 := HG.out.src.cell 0 rfl
  go_wp2_with fail
  refine HN2.out.mono ?_
  rintro e w2 (⟨rfl, hbad⟩ | ⟨y2, V2, ra2, rc2, rfl, ho2, hG2, hK2, hR2, hl2, hf2, hn2⟩)
  · exact ⟨rfl, hbad⟩
  obtain ⟨m2, hm2⟩ : ∃ m, m = y2.length := ⟨_, rfl⟩
  have HO2_0 := Lib.hid ho2
  dsimp only
  rw [← hm2]
  have HM2 := Lib.hid hm2
  clear ho2 hn2 hm2
  have HG2 := Lib.hid hG2
  have HK2 := Lib.hid hK2
  have HR2 := Lib.hid hR2
  have HL2 : Hid (V2.l.length ≤ 140737488351232) := Lib.hid (by rw [hl2]; exact HL.out)
  clear hG2 hK2 hR2 hl2 hf2 s2
  have c3 := HG2.out.sf.box.cell 6 rfl
  have b3 := HG2.out.sf.box.free 6
  have HG3 := Lib.hid (HG2.out.put (f' := { f with data := y2 }) (fa' := { fa with da := ra2, dc := rc2 }) 6 (.slice ra2 m2 rc2) (by rw [HM2.out]; rfl) ⟨HO2_0.out, HG2.out.sf.own.cid, HG2.out.sf.own.spans⟩)
  have HK3 := Lib.hid (kept_put HK2.out 6 (.slice ra2 m2 rc2))
  go_wp2
  go_end0
  rw [show R = ⟨0, { f with data := y2 }, V2⟩ from by rw [HR2.out]; try simp only [HKd.out]]
  exact SrcF.good HK3.out HG3.out.sf
set_option maxRecDepth 100000 in
set_option maxHeartbeats 4000000 in
theorem sitems_16 (w : World) {B g gf : Nat} {a : Option Addr} {c : Nat} {V : Vr} {f : Fm} {fa : FA} (h : SF w B g gf a c V f fa) (hB : B ≤ w.heap.size) (hl : V.l.length ≤ 140737488351232) (hkd : f.kind = 16) :
    Calls Try.prog 54 #[.agg #[.pointer (some ⟨g, 0, none⟩)], .pointer (some ⟨gf, 0, none⟩)] w (SrcF w B g gf a c (itemsV V f)) := by
  have HG := Lib.hid (SG.new h)
  have HK := Lib.hid (kept_first (w := w) (g := g) (gf := gf) (.cells #[.pointer (some ⟨g, 0, none⟩)] 72))
  have HB := Lib.hid hB
  have HL := Lib.hid hl
  obtain ⟨q, hq⟩ : ∃ q, q = w.heap.size := ⟨_, rfl⟩
  obtain ⟨w1, hw1⟩ : ∃ w1, w1 = w.alloc (.cells #[.pointer (some ⟨g, 0, none⟩)] 72) := ⟨_, rfl⟩
  rw [← hq, ← hw1] at HG
  rw [← hw1] at HK
  obtain ⟨R, hR⟩ : ∃ R, R = itemsV V f := ⟨_, rfl⟩
  rw [← hR]
  unfold itemsV at hR
  simp only [hkd, Int.reduceEq, if_false, or_false] at hR
  have HR := Lib.hid hR
  have HKd := Lib.hid hkd
  have k0 := HG.out.sf.box.cell 0 rfl
  rw [hkd] at k0
  clear h hB hl hR hkd
  go_enter Try.func54, Try.ntmps54
  go_upto_region 1 with fail
  rw [← hw1, ← hq]
  clear hw1 hq
  have HN2 := Lib.hid (num_step HG.out HK.out (R := R) HR.out)
  have s2 := HG.out.src.cell 0 rfl
  go_wp2_with fail
  refine HN2.out.mono ?_
  rintro e w2 (⟨rfl, hbad⟩ | ⟨x2, V2, rfl, hx2, hG2, hK2, hR2, hl2, hf2⟩)
  · exact ⟨rfl, hbad⟩
  have HG2 := Lib.hid hG2
  have HK2 := Lib.hid hK2
  have HR2 := Lib.hid hR2
  have HL2 : Hid (V2.l.length ≤ 140737488351232) := Lib.hid (by rw [hl2]; exact HL.out)
  clear hG2 hK2 hR2 hl2 hf2 hx2 s2
  have c3 := HG2.out.sf.box.cell 3 rfl
  have b3 := HG2.out.sf.box.free 3
  have HG3 := Lib.hid (HG2.out.put (f' := { f with n := (x2 : Int) }) (fa' := fa) 3 (.int .i64 (x2 : Int)) rfl ⟨HG2.out.sf.own.data, HG2.out.sf.own.cid, HG2.out.sf.own.spans⟩)
  have HK3 := Lib.hid (kept_put HK2.out 3 (.int .i64 (x2 : Int)))
  go_wp2
  go_end0
  rw [show R = ⟨0, { f with n := (x2 : Int) }, V2⟩ from by rw [HR2.out]; try simp only [HKd.out]]
  exact SrcF.good HK3.out HG3.out.sf
set_option maxRecDepth 100000 in
set_option maxHeartbeats 4000000 in
theorem sitems_17 (w : World) {B g gf : Nat} {a : Option Addr} {c : Nat} {V : Vr} {f : Fm} {fa : FA} (h : SF w B g gf a c V f fa) (hB : B ≤ w.heap.size) (hl : V.l.length ≤ 140737488351232) (hkd : f.kind = 17) :
    Calls Try.prog 54 #[.agg #[.pointer (some ⟨g, 0, none⟩)], .pointer (some ⟨gf, 0, none⟩)] w (SrcF w B g gf a c (itemsV V f)) := by
  have HG := Lib.hid (SG.new h)
  have HK := Lib.hid (kept_first (w := w) (g := g) (gf := gf) (.cells #[.pointer (some ⟨g, 0, none⟩)] 72))
  have HB := Lib.hid hB
  have HL := Lib.hid hl
  obtain ⟨q, hq⟩ : ∃ q, q = w.heap.size := ⟨_, rfl⟩
  obtain ⟨w1, hw1⟩ : ∃ w1, w1 = w.alloc (.cells #[.pointer (some ⟨g, 0, none⟩)] 72) := ⟨_, rfl⟩
  rw [← hq, ← hw1] at HG
  rw [← hw1] at HK
  obtain ⟨R, hR⟩ : ∃ R, R = itemsV V f := ⟨_, rfl⟩
  rw [← hR]
  unfold itemsV at hR
  simp only [hkd, Int.reduceEq, if_false, if_true, or_false] at hR
  have HR := Lib.hid hR
  have HKd := Lib.hid hkd
  have k0 := HG.out.sf.box.cell 0 rfl
  rw [hkd] at k0
  clear h hB hl hR hkd
  go_enter Try.func54, Try.ntmps54
  go_upto_region 1 with fail
  rw [← hw1, ← hq]
  clear hw1 hq
  go_upto_region 22 with fail
  have HG2 := Lib.hid HG.out.drew
  have HK2 := Lib.hid (HK.out.trans (Kept.drew (fun k => k = g) w1) (fun _ _ h => .inl h))
  have HS2 := Lib.hid HG2.out.sat
  refine MixP.region [] [0, 1, 2, 4, 3, 5, 6, 7, 8, 9, 10, 11] [3, 5] (Sat [(⟨q, 0, none⟩, .pointer (some ⟨g, 0, none⟩))]) (SrcD w B g gf a c R) (by kernel_rfl) (by kernel_rfl) HS2.out ?_ ?_
  · intro ch a' w' h
    exact h
  refine MixP.step (o := ⟨_, _, _, _, _, _⟩) rfl ?_
  refine Mx.quietly rfl ?_; go_big_quiet_want; go_big_quiet_op; go_big_quiet_on; refine Mx.done ?_
  refine Mx.nil ?_
  refine MixP.step (o := ⟨_, _, _, _, _, _⟩) rfl ?_
  refine Mx.quietly rfl ?_; go_big_quiet_want; go_big_quiet_op; go_big_quiet_on; refine Mx.done ?_
  refine Mx.nil ?_
  refine MixP.step rfl ?_
  refine Mx.mid q 0 [.pointer (some ⟨g, 0, none⟩)] _ (by kernel_rfl) (by kernel_rfl) (by kernel_rfl) Try.underlying72 rfl (by kernel_rfl) (fun w' h => mid1 (h 0 _ _ rfl)) ?_
  go_big_quiet_want; go_big_quiet_op; go_big_quiet_on; refine Mx.done ?_
  refine Mx.nil ?_
  refine MixP.step rfl ?_
  refine Mx.mid q 0 [.pointer (some ⟨g, 0, none⟩)] _ (by kernel_rfl) (by kernel_rfl) (by kernel_rfl) Try.underlying72 rfl (by kernel_rfl) (fun w' h => mid1 (h 0 _ _ rfl)) ?_
  go_big_quiet_want; go_big_quiet_op; go_big_quiet_on; refine Mx.done ?_
  refine Mx.nil ?_
  have HN3 := Lib.hid (num_step HG2.out HK2.out (R := R) HR.out)
  refine MixP.panicky rfl (by kernel_rfl) (by kernel_rfl) rfl ?_
  go_wp2_with fail
  refine HN3.out.mono ?_
  rintro e w3 (⟨rfl, hbad⟩ | ⟨x3, V3, rfl, hx3, hG3, hK3, hR3, hl3, hf3⟩)
  · exact ⟨rfl, hbad⟩
  have HG3 := Lib.hid hG3
  have HK3 := Lib.hid hK3
  have HR3 := Lib.hid hR3
  have HL3 : Hid (V3.l.length ≤ 140737488351232) := Lib.hid (by rw [hl3]; exact HL.out)
  clear hG3 hK3 hR3 hl3 hf3 hx3
  have hs3 := HG3.out.sat
  go_wp2_with fail
  (try (refine ⟨hs3, ?_⟩))
  clear hs3
  have HN4 := Lib.hid (num_step HG3.out HK3.out (R := R) HR3.out)
  refine MixP.panicky rfl (by kernel_rfl) (by kernel_rfl) rfl ?_
  go_wp2_with fail
  refine HN4.out.mono ?_
  rintro e w4 (⟨rfl, hbad⟩ | ⟨x4, V4, rfl, hx4, hG4, hK4, hR4, hl4, hf4⟩)
  · exact ⟨rfl, hbad⟩
  have HG4 := Lib.hid hG4
  have HK4 := Lib.hid hK4
  have HR4 := Lib.hid hR4
  have HL4 : Hid (V4.l.length ≤ 140737488351232) := Lib.hid (by rw [hl4]; exact HL3.out)
  clear hG4 hK4 hR4 hl4 hf4 hx4
  have hs4 := HG4.out.sat
  go_wp2_with fail
  (try (refine ⟨hs4, ?_⟩))
  clear hs4
  have c5 := HG4.out.sf.box.cell 1 rfl
  have b5 := HG4.out.sf.box.free 1
  have HG5 := Lib.hid (HG4.out.put (f' := { f with id := (x3 : Int) }) (fa' := fa) 1 (.int .i64 (x3 : Int)) rfl ⟨HG4.out.sf.own.data, HG4.out.sf.own.cid, HG4.out.sf.own.spans⟩)
  have HK5 := Lib.hid (kept_put HK4.out 1 (.int .i64 (x3 : Int)))
  have hs5 := HG5.out.sat
  refine MixP.step (o := ⟨_, _, _, _, _, _⟩) rfl ?_
  refine Mx.quietly rfl ?_; go_big_quiet_want; go_big_quiet_op; go_big_quiet_on; refine Mx.done ?_
  refine Mx.nil ?_
  refine MixP.step (o := ⟨_, _, _, _, _, _⟩) rfl ?_
  refine Mx.quietly rfl ?_; go_big_quiet_want; go_big_quiet_op; go_big_quiet_on; refine Mx.done ?_
  refine Mx.nil ?_
  refine MixP.step rfl ?_
  refine Mx.loudly (by kernel_rfl) (by kernel_rfl) ?_
  go_wp2_with fail
  (try (refine ⟨hs5, ?_⟩))
  refine Mx.nil ?_
  obtain ⟨w5, hw5⟩ : ∃ w5, w5 = w4.setCell ⟨gf, 1, none⟩ (.int .i64 (x3 : Int)) := ⟨_, rfl⟩
  rw [← hw5] at HG5 HK5  ⊢
  clear hw5 c5 b5 hs5
  have c6 := HG5.out.sf.box.cell 3 rfl
  have b6 := HG5.out.sf.box.free 3
  have HG6 := Lib.hid (HG5.out.put (f' := { { f with id := (x3 : Int) } with n := (x4 : Int) }) (fa' := fa) 3 (.int .i64 (x4 : Int)) rfl ⟨HG5.out.sf.own.data, HG5.out.sf.own.cid, HG5.out.sf.own.spans⟩)
  have HK6 := Lib.hid (kept_put HK5.out 3 (.int .i64 (x4 : Int)))
  have hs6 := HG6.out.sat
  refine MixP.step (o := ⟨_, _, _, _, _, _⟩) rfl ?_
  refine Mx.quietly rfl ?_; go_big_quiet_want; go_big_quiet_op; go_big_quiet_on; refine Mx.done ?_
  refine Mx.nil ?_
  refine MixP.step (o := ⟨_, _, _, _, _, _⟩) rfl ?_
  refine Mx.quietly rfl ?_; go_big_quiet_want; go_big_quiet_op; go_big_quiet_on; refine Mx.done ?_
  refine Mx.nil ?_
  refine MixP.step rfl ?_
  refine Mx.loudly (by kernel_rfl) (by kernel_rfl) ?_
  go_wp2_with fail
  (try (refine ⟨hs6, ?_⟩))
  refine Mx.nil ?_
  obtain ⟨w6, hw6⟩ : ∃ w6, w6 = w5.setCell ⟨gf, 3, none⟩ (.int .i64 (x4 : Int)) := ⟨_, rfl⟩
  rw [← hw6] at HG6 HK6  ⊢
  clear hw6 c6 b6 hs6
  refine MixP.nil ?_
  go_wp2
  go_end0
  rw [show R = ⟨0, { { f with id := (x3 : Int) } with n := (x4 : Int) }, V4⟩ from by rw [HR4.out]; try simp only [HKd.out]]
  exact SrcF.good HK6.out HG6.out.sf
set_option maxRecDepth 100000 in
set_option maxHeartbeats 4000000 in
theorem sitems_18 (w : World) {B g gf : Nat} {a : Option Addr} {c : Nat} {V : Vr} {f : Fm} {fa : FA} (h : SF w B g gf a c V f fa) (hB : B ≤ w.heap.size) (hl : V.l.length ≤ 140737488351232) (hkd : f.kind = 18) :
    Calls Try.prog 54 #[.agg #[.pointer (some ⟨g, 0, none⟩)], .pointer (some ⟨gf, 0, none⟩)] w (SrcF w B g gf a c (itemsV V f)) := by
  have HG := Lib.hid (SG.new h)
  have HK := Lib.hid (kept_first (w := w) (g := g) (gf := gf) (.cells #[.pointer (some ⟨g, 0, none⟩)] 72))
  have HB := Lib.hid hB
  have HL := Lib.hid hl
  obtain ⟨q, hq⟩ : ∃ q, q = w.heap.size := ⟨_, rfl⟩
  obtain ⟨w1, hw1⟩ : ∃ w1, w1 = w.alloc (.cells #[.pointer (some ⟨g, 0, none⟩)] 72) := ⟨_, rfl⟩
  rw [← hq, ← hw1] at HG
  rw [← hw1] at HK
  obtain ⟨R, hR⟩ : ∃ R, R = itemsV V f := ⟨_, rfl⟩
  rw [← hR]
  unfold itemsV at hR
  simp only [hkd, Int.reduceEq, if_false, or_false] at hR
  have HR := Lib.hid hR
  have HKd := Lib.hid hkd
  have k0 := HG.out.sf.box.cell 0 rfl
  rw [hkd] at k0
  clear h hB hl hR hkd
  go_enter Try.func54, Try.ntmps54
  go_upto_region 1 with fail
  rw [← hw1, ← hq]
  clear hw1 hq
  have HN2 := Lib.hid (num_step HG.out HK.out (R := R) HR.out)
  have s2 := HG.out.src.cell 0 rfl
  go_wp2_with fail
  refine HN2.out.mono ?_
  rintro e w2 (⟨rfl, hbad⟩ | ⟨x2, V2, rfl, hx2, hG2, hK2, hR2, hl2, hf2⟩)
  · exact ⟨rfl, hbad⟩
  have HG2 := Lib.hid hG2
  have HK2 := Lib.hid hK2
  have HR2 := Lib.hid hR2
  have HL2 : Hid (V2.l.length ≤ 140737488351232) := Lib.hid (by rw [hl2]; exact HL.out)
  clear hG2 hK2 hR2 hl2 hf2 hx2 s2
  have c3 := HG2.out.sf.box.cell 3 rfl
  have b3 := HG2.out.sf.box.free 3
  have HG3 := Lib.hid (HG2.out.put (f' := { f with n := (x2 : Int) }) (fa' := fa) 3 (.int .i64 (x2 : Int)) rfl ⟨HG2.out.sf.own.data, HG2.out.sf.own.cid, HG2.out.sf.own.spans⟩)
  have HK3 := Lib.hid (kept_put HK2.out 3 (.int .i64 (x2 : Int)))
  go_wp2
  go_end0
  rw [show R = ⟨0, { f with n := (x2 : Int) }, V2⟩ from by rw [HR2.out]; try simp only [HKd.out]]
  exact SrcF.good HK3.out HG3.out.sf
set_option maxRecDepth 100000 in
set_option maxHeartbeats 4000000 in
theorem sitems_19 (w : World) {B g gf : Nat} {a : Option Addr} {c : Nat} {V : Vr} {f : Fm} {fa : FA} (h : SF w B g gf a c V f fa) (hB : B ≤ w.heap.size) (hl : V.l.length ≤ 140737488351232) (hkd : f.kind = 19) :
    Calls Try.prog 54 #[.agg #[.pointer (some ⟨g, 0, none⟩)], .pointer (some ⟨gf, 0, none⟩)] w (SrcF w B g gf a c (itemsV V f)) := by
  have HG := Lib.hid (SG.new h)
  have HK := Lib.hid (kept_first (w := w) (g := g) (gf := gf) (.cells #[.pointer (some ⟨g, 0, none⟩)] 72))
  have HB := Lib.hid hB
  have HL := Lib.hid hl
  obtain ⟨q, hq⟩ : ∃ q, q = w.heap.size := ⟨_, rfl⟩
  obtain ⟨w1, hw1⟩ : ∃ w1, w1 = w.alloc (.cells #[.pointer (some ⟨g, 0, none⟩)] 72) := ⟨_, rfl⟩
  rw [← hq, ← hw1] at HG
  rw [← hw1] at HK
  obtain ⟨R, hR⟩ : ∃ R, R = itemsV V f := ⟨_, rfl⟩
  rw [← hR]
  unfold itemsV at hR
  simp only [hkd, Int.reduceEq, if_false, or_false] at hR
  have HR := Lib.hid hR
  have HKd := Lib.hid hkd
  have k0 := HG.out.sf.box.cell 0 rfl
  rw [hkd] at k0
  clear h hB hl hR hkd
  go_enter Try.func54, Try.ntmps54
  go_upto_region 1 with fail
  rw [← hw1, ← hq]
  clear hw1 hq
  have HN2 := Lib.hid (num_step HG.out HK.out (R := R) HR.out)
  have s2 := HG.out.src.cell 0 rfl
  go_wp2_with fail
  refine HN2.out.mono ?_
  rintro e w2 (⟨rfl, hbad⟩ | ⟨x2, V2, rfl, hx2, hG2, hK2, hR2, hl2, hf2⟩)
  · exact ⟨rfl, hbad⟩
  have HG2 := Lib.hid hG2
  have HK2 := Lib.hid hK2
  have HR2 := Lib.hid hR2
  have HL2 : Hid (V2.l.length ≤ 140737488351232) := Lib.hid (by rw [hl2]; exact HL.out)
  clear hG2 hK2 hR2 hl2 hf2 hx2 s2
  have c3 := HG2.out.sf.box.cell 3 rfl
  have b3 := HG2.out.sf.box.free 3
  have HG3 := Lib.hid (HG2.out.put (f' := { f with n := (x2 : Int) }) (fa' := fa) 3 (.int .i64 (x2 : Int)) rfl ⟨HG2.out.sf.own.data, HG2.out.sf.own.cid, HG2.out.sf.own.spans⟩)
  have HK3 := Lib.hid (kept_put HK2.out 3 (.int .i64 (x2 : Int)))
  go_wp2
  go_end0
  rw [show R = ⟨0, { f with n := (x2 : Int) }, V2⟩ from by rw [HR2.out]; try simp only [HKd.out]]
  exact SrcF.good HK3.out HG3.out.sf
set_option maxRecDepth 100000 in
set_option maxHeartbeats 4000000 in
theorem sitems_20 (w : World) {B g gf : Nat} {a : Option Addr} {c : Nat} {V : Vr} {f : Fm} {fa : FA} (h : SF w B g gf a c V f fa) (hB : B ≤ w.heap.size) (hl : V.l.length ≤ 140737488351232) (hkd : f.kind = 20) :
    Calls Try.prog 54 #[.agg #[.pointer (some ⟨g, 0, none⟩)], .pointer (some ⟨gf, 0, none⟩)] w (SrcF w B g gf a c (itemsV V f)) := by
  have HG := Lib.hid (SG.new h)
  have HK := Lib.hid (kept_first (w := w) (g := g) (gf := gf) (.cells #[.pointer (some ⟨g, 0, none⟩)] 72))
  have HB := Lib.hid hB
  have HL := Lib.hid hl
  obtain ⟨q, hq⟩ : ∃ q, q = w.heap.size := ⟨_, rfl⟩
  obtain ⟨w1, hw1⟩ : ∃ w1, w1 = w.alloc (.cells #[.pointer (some ⟨g, 0, none⟩)] 72) := ⟨_, rfl⟩
  rw [← hq, ← hw1] at HG
  rw [← hw1] at HK
  obtain ⟨R, hR⟩ : ∃ R, R = itemsV V f := ⟨_, rfl⟩
  rw [← hR]
  unfold itemsV at hR
  simp only [hkd, Int.reduceEq, if_false, or_false] at hR
  have HR := Lib.hid hR
  have HKd := Lib.hid hkd
  have k0 := HG.out.sf.box.cell 0 rfl
  rw [hkd] at k0
  clear h hB hl hR hkd
  go_enter Try.func54, Try.ntmps54
  go_upto_region 1 with fail
  rw [← hw1, ← hq]
  clear hw1 hq
  have HN2 := Lib.hid (num_step HG.out HK.out (R := R) HR.out)
  have s2 := HG.out.src.cell 0 rfl
  go_wp2_with fail
  refine HN2.out.mono ?_
  rintro e w2 (⟨rfl, hbad⟩ | ⟨x2, V2, rfl, hx2, hG2, hK2, hR2, hl2, hf2⟩)
  · exact ⟨rfl, hbad⟩
  have HG2 := Lib.hid hG2
  have HK2 := Lib.hid hK2
  have HR2 := Lib.hid hR2
  have HL2 : Hid (V2.l.length ≤ 140737488351232) := Lib.hid (by rw [hl2]; exact HL.out)
  clear hG2 hK2 hR2 hl2 hf2 hx2 s2
  have c3 := HG2.out.sf.box.cell 3 rfl
  have b3 := HG2.out.sf.box.free 3
  have HG3 := Lib.hid (HG2.out.put (f' := { f with n := (x2 : Int) }) (fa' := fa) 3 (.int .i64 (x2 : Int)) rfl ⟨HG2.out.sf.own.data, HG2.out.sf.own.cid, HG2.out.sf.own.spans⟩)
  have HK3 := Lib.hid (kept_put HK2.out 3 (.int .i64 (x2 : Int)))
  go_wp2
  go_end0
  rw [show R = ⟨0, { f with n := (x2 : Int) }, V2⟩ from by rw [HR2.out]; try simp only [HKd.out]]
  exact SrcF.good HK3.out HG3.out.sf
set_option maxRecDepth 100000 in
set_option maxHeartbeats 4000000 in
theorem sitems_21 (w : World) {B g gf : Nat} {a : Option Addr} {c : Nat} {V : Vr} {f : Fm} {fa : FA} (h : SF w B g gf a c V f fa) (hB : B ≤ w.heap.size) (hl : V.l.length ≤ 140737488351232) (hkd : f.kind = 21) :
    Calls Try.prog 54 #[.agg #[.pointer (some ⟨g, 0, none⟩)], .pointer (some ⟨gf, 0, none⟩)] w (SrcF w B g gf a c (itemsV V f)) := by
  have HG := Lib.hid (SG.new h)
  have HK := Lib.hid (kept_first (w := w) (g := g) (gf := gf) (.cells #[.pointer (some ⟨g, 0, none⟩)] 72))
  have HB := Lib.hid hB
  have HL := Lib.hid hl
  obtain ⟨q, hq⟩ : ∃ q, q = w.heap.size := ⟨_, rfl⟩
  obtain ⟨w1, hw1⟩ : ∃ w1, w1 = w.alloc (.cells #[.pointer (some ⟨g, 0, none⟩)] 72) := ⟨_, rfl⟩
  rw [← hq, ← hw1] at HG
  rw [← hw1] at HK
  obtain ⟨R, hR⟩ : ∃ R, R = itemsV V f := ⟨_, rfl⟩
  rw [← hR]
  unfold itemsV at hR
  simp only [hkd, Int.reduceEq, if_false, if_true, false_or, or_false] at hR
  have HR := Lib.hid hR
  have HKd := Lib.hid hkd
  have k0 := HG.out.sf.box.cell 0 rfl
  rw [hkd] at k0
  clear h hB hl hR hkd
  go_enter Try.func54, Try.ntmps54
  go_upto_region 1 with fail
  rw [← hw1, ← hq]
  clear hw1 hq
  go_upto_region 22 with fail
  have HG2 := Lib.hid HG.out.drew
  have HK2 := Lib.hid (HK.out.trans (Kept.drew (fun k => k = g) w1) (fun _ _ h => .inl h))
  have HS2 := Lib.hid HG2.out.sat
  refine MixP.region [] [0, 1, 2, 4, 3, 5, 6, 7, 8, 9, 10, 11] [3, 5] (Sat [(⟨q, 0, none⟩, .pointer (some ⟨g, 0, none⟩))]) (SrcD w B g gf a c R) (by kernel_rfl) (by kernel_rfl) HS2.out ?_ ?_
  · intro ch a' w' h
    exact h
  refine MixP.step (o := ⟨_, _, _, _, _, _⟩) rfl ?_
  refine Mx.quietly rfl ?_; go_big_quiet_want; go_big_quiet_op; go_big_quiet_on; refine Mx.done ?_
  refine Mx.nil ?_
  refine MixP.step (o := ⟨_, _, _, _, _, _⟩) rfl ?_
  refine Mx.quietly rfl ?_; go_big_quiet_want; go_big_quiet_op; go_big_quiet_on; refine Mx.done ?_
  refine Mx.nil ?_
  refine MixP.step rfl ?_
  refine Mx.mid q 0 [.pointer (some ⟨g, 0, none⟩)] _ (by kernel_rfl) (by kernel_rfl) (by kernel_rfl) Try.underlying72 rfl (by kernel_rfl) (fun w' h => mid1 (h 0 _ _ rfl)) ?_
  go_big_quiet_want; go_big_quiet_op; go_big_quiet_on; refine Mx.done ?_
  refine Mx.nil ?_
  refine MixP.step rfl ?_
  refine Mx.mid q 0 [.pointer (some ⟨g, 0, none⟩)] _ (by kernel_rfl) (by kernel_rfl) (by kernel_rfl) Try.underlying72 rfl (by kernel_rfl) (fun w' h => mid1 (h 0 _ _ rfl)) ?_
  go_big_quiet_want; go_big_quiet_op; go_big_quiet_on; refine Mx.done ?_
  refine Mx.nil ?_
  have HN3 := Lib.hid (num_step HG2.out HK2.out (R := R) HR.out)
  refine MixP.panicky rfl (by kernel_rfl) (by kernel_rfl) rfl ?_
  go_wp2_with fail
  refine HN3.out.mono ?_
  rintro e w3 (⟨rfl, hbad⟩ | ⟨x3, V3, rfl, hx3, hG3, hK3, hR3, hl3, hf3⟩)
  · exact ⟨rfl, hbad⟩
  have HG3 := Lib.hid hG3
  have HK3 := Lib.hid hK3
  have HR3 := Lib.hid hR3
  have HL3 : Hid (V3.l.length ≤ 140737488351232) := Lib.hid (by rw [hl3]; exact HL.out)
  clear hG3 hK3 hR3 hl3 hf3 hx3
  have hs3 := HG3.out.sat
  go_wp2_with fail
  (try (refine ⟨hs3, ?_⟩))
  clear hs3
  have HN4 := Lib.hid (num_step HG3.out HK3.out (R := R) HR3.out)
  refine MixP.panicky rfl (by kernel_rfl) (by kernel_rfl) rfl ?_
  go_wp2_with fail
  refine HN4.out.mono ?_
  rintro e w4 (⟨rfl, hbad⟩ | ⟨x4, V4, rfl, hx4, hG4, hK4, hR4, hl4, hf4⟩)
  · exact ⟨rfl, hbad⟩
  have HG4 := Lib.hid hG4
  have HK4 := Lib.hid hK4
  have HR4 := Lib.hid hR4
  have HL4 : Hid (V4.l.length ≤ 140737488351232) := Lib.hid (by rw [hl4]; exact HL3.out)
  clear hG4 hK4 hR4 hl4 hf4 hx4
  have hs4 := HG4.out.sat
  go_wp2_with fail
  (try (refine ⟨hs4, ?_⟩))
  clear hs4
  have c5 := HG4.out.sf.box.cell 1 rfl
  have b5 := HG4.out.sf.box.free 1
  have HG5 := Lib.hid (HG4.out.put (f' := { f with id := (x3 : Int) }) (fa' := fa) 1 (.int .i64 (x3 : Int)) rfl ⟨HG4.out.sf.own.data, HG4.out.sf.own.cid, HG4.out.sf.own.spans⟩)
  have HK5 := Lib.hid (kept_put HK4.out 1 (.int .i64 (x3 : Int)))
  have hs5 := HG5.out.sat
  refine MixP.step (o := ⟨_, _, _, _, _, _⟩) rfl ?_
  refine Mx.quietly rfl ?_; go_big_quiet_want; go_big_quiet_op; go_big_quiet_on; refine Mx.done ?_
  refine Mx.nil ?_
  refine MixP.step (o := ⟨_, _, _, _, _, _⟩) rfl ?_
  refine Mx.quietly rfl ?_; go_big_quiet_want; go_big_quiet_op; go_big_quiet_on; refine Mx.done ?_
  refine Mx.nil ?_
  refine MixP.step rfl ?_
  refine Mx.loudly (by kernel_rfl) (by kernel_rfl) ?_
  go_wp2_with fail
  (try (refine ⟨hs5, ?_⟩))
  refine Mx.nil ?_
  obtain ⟨w5, hw5⟩ : ∃ w5, w5 = w4.setCell ⟨gf, 1, none⟩ (.int .i64 (x3 : Int)) := ⟨_, rfl⟩
  rw [← hw5] at HG5 HK5  ⊢
  clear hw5 c5 b5 hs5
  have c6 := HG5.out.sf.box.cell 3 rfl
  have b6 := HG5.out.sf.box.free 3
  have HG6 := Lib.hid (HG5.out.put (f' := { { f with id := (x3 : Int) } with n := (x4 : Int) }) (fa' := fa) 3 (.int .i64 (x4 : Int)) rfl ⟨HG5.out.sf.own.data, HG5.out.sf.own.cid, HG5.out.sf.own.spans⟩)
  have HK6 := Lib.hid (kept_put HK5.out 3 (.int .i64 (x4 : Int)))
  have hs6 := HG6.out.sat
  refine MixP.step (o := ⟨_, _, _, _, _, _⟩) rfl ?_
  refine Mx.quietly rfl ?_; go_big_quiet_want; go_big_quiet_op; go_big_quiet_on; refine Mx.done ?_
  refine Mx.nil ?_
  refine MixP.step (o := ⟨_, _, _, _, _, _⟩) rfl ?_
  refine Mx.quietly rfl ?_; go_big_quiet_want; go_big_quiet_op; go_big_quiet_on; refine Mx.done ?_
  refine Mx.nil ?_
  refine MixP.step rfl ?_
  refine Mx.loudly (by kernel_rfl) (by kernel_rfl) ?_
  go_wp2_with fail
  (try (refine ⟨hs6, ?_⟩))
  refine Mx.nil ?_
  obtain ⟨w6, hw6⟩ : ∃ w6, w6 = w5.setCell ⟨gf, 3, none⟩ (.int .i64 (x4 : Int)) := ⟨_, rfl⟩
  rw [← hw6] at HG6 HK6  ⊢
  clear hw6 c6 b6 hs6
  refine MixP.nil ?_
  go_wp2
  go_end0
  rw [show R = ⟨0, { { f with id := (x3 : Int) } with n := (x4 : Int) }, V4⟩ from by rw [HR4.out]; try simp only [HKd.out]]
  exact SrcF.good HK6.out HG6.out.sf
set_option maxRecDepth 100000 in
set_option maxHeartbeats 4000000 in
theorem sitems_22 (w : World) {B g gf : Nat} {a : Option Addr} {c : Nat} {V : Vr} {f : Fm} {fa : FA} (h : SF w B g gf a c V f fa) (hB : B ≤ w.heap.size) (hl : V.l.length ≤ 140737488351232) (hkd : f.kind = 22) :
    Calls Try.prog 54 #[.agg #[.pointer (some ⟨g, 0, none⟩)], .pointer (some ⟨gf, 0, none⟩)] w (SrcF w B g gf a c (itemsV V f)) := by
  have HG := Lib.hid (SG.new h)
  have HK := Lib.hid (kept_first (w := w) (g := g) (gf := gf) (.cells #[.pointer (some ⟨g, 0, none⟩)] 72))
  have HB := Lib.hid hB
  have HL := Lib.hid hl
  obtain ⟨q, hq⟩ : ∃ q, q = w.heap.size := ⟨_, rfl⟩
  obtain ⟨w1, hw1⟩ : ∃ w1, w1 = w.alloc (.cells #[.pointer (some ⟨g, 0, none⟩)] 72) := ⟨_, rfl⟩
  rw [← hq, ← hw1] at HG
  rw [← hw1] at HK
  obtain ⟨R, hR⟩ : ∃ R, R = itemsV V f := ⟨_, rfl⟩
  rw [← hR]
  unfold itemsV at hR
  simp only [hkd, Int.reduceEq, if_false, or_false] at hR
  have HR := Lib.hid hR
  have HKd := Lib.hid hkd
  have k0 := HG.out.sf.box.cell 0 rfl
  rw [hkd] at k0
  clear h hB hl hR hkd
  go_enter Try.func54, Try.ntmps54
  go_upto_region 1 with fail
  rw [← hw1, ← hq]
  clear hw1 hq
  have HN2 := Lib.hid (num_step HG.out HK.out (R := R) HR.out)
  have s2 := HG.out.src.cell 0 rfl
  go_wp2_with fail
  refine HN2.out.mono ?_
  rintro e w2 (⟨rfl, hbad⟩ | ⟨x2, V2, rfl, hx2, hG2, hK2, hR2, hl2, hf2⟩)
  · exact ⟨rfl, hbad⟩
  have HG2 := Lib.hid hG2
  have HK2 := Lib.hid hK2
  have HR2 := Lib.hid hR2
  have HL2 : Hid (V2.l.length ≤ 140737488351232) := Lib.hid (by rw [hl2]; exact HL.out)
  clear hG2 hK2 hR2 hl2 hf2 hx2 s2
  have c3 := HG2.out.sf.box.cell 3 rfl
  have b3 := HG2.out.sf.box.free 3
  have HG3 := Lib.hid (HG2.out.put (f' := { f with n := (x2 : Int) }) (fa' := fa) 3 (.int .i64 (x2 : Int)) rfl ⟨HG2.out.sf.own.data, HG2.out.sf.own.cid, HG2.out.sf.own.spans⟩)
  have HK3 := Lib.hid (kept_put HK2.out 3 (.int .i64 (x2 : Int)))
  go_wp2
  go_end0
  rw [show R = ⟨0, { f with n := (x2 : Int) }, V2⟩ from by rw [HR2.out]; try simp only [HKd.out]]
  exact SrcF.good HK3.out HG3.out.sf
set_option maxRecDepth 100000 in
set_option maxHeartbeats 4000000 in
theorem sitems_23 (w : World) {B g gf : Nat} {a : Option Addr} {c : Nat} {V : Vr} {f : Fm} {fa : FA} (h : SF w B g gf a c V f fa) (hB : B ≤ w.heap.size) (hl : V.l.length ≤ 140737488351232) (hkd : f.kind = 23) :
    Calls Try.prog 54 #[.agg #[.pointer (some ⟨g, 0, none⟩)], .pointer (some ⟨gf, 0, none⟩)] w (SrcF w B g gf a c (itemsV V f)) := by
  have HG := Lib.hid (SG.new h)
  have HK := Lib.hid (kept_first (w := w) (g := g) (gf := gf) (.cells #[.pointer (some ⟨g, 0, none⟩)] 72))
  have HB := Lib.hid hB
  have HL := Lib.hid hl
  obtain ⟨q, hq⟩ : ∃ q, q = w.heap.size := ⟨_, rfl⟩
  obtain ⟨w1, hw1⟩ : ∃ w1, w1 = w.alloc (.cells #[.pointer (some ⟨g, 0, none⟩)] 72) := ⟨_, rfl⟩
  rw [← hq, ← hw1] at HG
  rw [← hw1] at HK
  obtain ⟨R, hR⟩ : ∃ R, R = itemsV V f := ⟨_, rfl⟩
  rw [← hR]
  unfold itemsV at hR
  simp only [hkd, Int.reduceEq, if_false, or_false] at hR
  have HR := Lib.hid hR
  have HKd := Lib.hid hkd
  have k0 := HG.out.sf.box.cell 0 rfl
  rw [hkd] at k0
  clear h hB hl hR hkd
  go_enter Try.func54, Try.ntmps54
  go_upto_region 1 with fail
  rw [← hw1, ← hq]
  clear hw1 hq
  have HN2 := Lib.hid (num_step HG.out HK.out (R := R) HR.out)
  have s2 := HG.out.src.cell 0 rfl
  go_wp2_with fail
  refine HN2.out.mono ?_
  rintro e w2 (⟨rfl, hbad⟩ | ⟨x2, V2, rfl, hx2, hG2, hK2, hR2, hl2, hf2⟩)
  · exact ⟨rfl, hbad⟩
  have HG2 := Lib.hid hG2
  have HK2 := Lib.hid hK2
  have HR2 := Lib.hid hR2
  have HL2 : Hid (V2.l.length ≤ 140737488351232) := Lib.hid (by rw [hl2]; exact HL.out)
  clear hG2 hK2 hR2 hl2 hf2 hx2 s2
  have c3 := HG2.out.sf.box.cell 3 rfl
  have b3 := HG2.out.sf.box.free 3
  have HG3 := Lib.hid (HG2.out.put (f' := { f with n := (x2 : Int) }) (fa' := fa) 3 (.int .i64 (x2 : Int)) rfl ⟨HG2.out.sf.own.data, HG2.out.sf.own.cid, HG2.out.sf.own.spans⟩)
  have HK3 := Lib.hid (kept_put HK2.out 3 (.int .i64 (x2 : Int)))
  go_wp2
  go_end0
  rw [show R = ⟨0, { f with n := (x2 : Int) }, V2⟩ from by rw [HR2.out]; try simp only [HKd.out]]
  exact SrcF.good HK3.out HG3.out.sf
set_option maxRecDepth 100000 in
set_option maxHeartbeats 4000000 in
theorem sitems_24 (w : World) {B g gf : Nat} {a : Option Addr} {c : Nat} {V : Vr} {f : Fm} {fa : FA} (h : SF w B g gf a c V f fa) (hB : B ≤ w.heap.size) (hl : V.l.length ≤ 140737488351232) (hkd : f.kind = 24) :
    Calls Try.prog 54 #[.agg #[.pointer (some ⟨g, 0, none⟩)], .pointer (some ⟨gf, 0, none⟩)] w (SrcF w B g gf a c (itemsV V f)) := by
  have HG := Lib.hid (SG.new h)
  have HK := Lib.hid (kept_first (w := w) (g := g) (gf := gf) (.cells #[.pointer (some ⟨g, 0, none⟩)] 72))
  have HB := Lib.hid hB
  have HL := Lib.hid hl
  obtain ⟨q, hq⟩ : ∃ q, q = w.heap.size := ⟨_, rfl⟩
  obtain ⟨w1, hw1⟩ : ∃ w1, w1 = w.alloc (.cells #[.pointer (some ⟨g, 0, none⟩)] 72) := ⟨_, rfl⟩
  rw [← hq, ← hw1] at HG
  rw [← hw1] at HK
  obtain ⟨R, hR⟩ : ∃ R, R = itemsV V f := ⟨_, rfl⟩
  rw [← hR]
  unfold itemsV at hR
  simp only [hkd, Int.reduceEq, if_false, if_true, or_false] at hR
  have HR := Lib.hid hR
  have HKd := Lib.hid hkd
  have k0 := HG.out.sf.box.cell 0 rfl
  rw [hkd] at k0
  clear h hB hl hR hkd
  go_enter Try.func54, Try.ntmps54
  go_upto_region 1 with fail
  rw [← hw1, ← hq]
  clear hw1 hq
  go_upto_region 24 with fail
  have HG2 := Lib.hid HG.out.drew
  have HK2 := Lib.hid (HK.out.trans (Kept.drew (fun k => k = g) w1) (fun _ _ h => .inl h))
  have HS2 := Lib.hid HG2.out.sat
  refine MixP.region [] [0, 1, 2, 4, 3, 5, 6, 7, 8, 9, 10, 11] [3, 5] (Sat [(⟨q, 0, none⟩, .pointer (some ⟨g, 0, none⟩))]) (SrcD w B g gf a c R) (by kernel_rfl) (by kernel_rfl) HS2.out ?_ ?_
  · intro ch a' w' h
    exact h
  refine MixP.step (o := ⟨_, _, _, _, _, _⟩) rfl ?_
  refine Mx.quietly rfl ?_; go_big_quiet_want; go_big_quiet_op; go_big_quiet_on; refine Mx.done ?_
  refine Mx.nil ?_
  refine MixP.step (o := ⟨_, _, _, _, _, _⟩) rfl ?_
  refine Mx.quietly rfl ?_; go_big_quiet_want; go_big_quiet_op; go_big_quiet_on; refine Mx.done ?_
  refine Mx.nil ?_
  refine MixP.step rfl ?_
  refine Mx.mid q 0 [.pointer (some ⟨g, 0, none⟩)] _ (by kernel_rfl) (by kernel_rfl) (by kernel_rfl) Try.underlying72 rfl (by kernel_rfl) (fun w' h => mid1 (h 0 _ _ rfl)) ?_
  go_big_quiet_want; go_big_quiet_op; go_big_quiet_on; refine Mx.done ?_
  refine Mx.nil ?_
  refine MixP.step rfl ?_
  refine Mx.mid q 0 [.pointer (some ⟨g, 0, none⟩)] _ (by kernel_rfl) (by kernel_rfl) (by kernel_rfl) Try.underlying72 rfl (by kernel_rfl) (fun w' h => mid1 (h 0 _ _ rfl)) ?_
  go_big_quiet_want; go_big_quiet_op; go_big_quiet_on; refine Mx.done ?_
  refine Mx.nil ?_
  have HN3 := Lib.hid (num_step HG2.out HK2.out (R := R) HR.out)
  refine MixP.panicky rfl (by kernel_rfl) (by kernel_rfl) rfl ?_
  go_wp2_with fail
  refine HN3.out.mono ?_
  rintro e w3 (⟨rfl, hbad⟩ | ⟨x3, V3, rfl, hx3, hG3, hK3, hR3, hl3, hf3⟩)
  · exact ⟨rfl, hbad⟩
  have HG3 := Lib.hid hG3
  have HK3 := Lib.hid hK3
  have HR3 := Lib.hid hR3
  have HL3 : Hid (V3.l.length ≤ 140737488351232) := Lib.hid (by rw [hl3]; exact HL.out)
  clear hG3 hK3 hR3 hl3 hf3 hx3
  have hs3 := HG3.out.sat
  go_wp2_with fail
  (try (refine ⟨hs3, ?_⟩))
  clear hs3
  have HN4 := Lib.hid (num_step HG3.out HK3.out (R := R) HR3.out)
  refine MixP.panicky rfl (by kernel_rfl) (by kernel_rfl) rfl ?_
  go_wp2_with fail
  refine HN4.out.mono ?_
  rintro e w4 (⟨rfl, hbad⟩ | ⟨x4, V4, rfl, hx4, hG4, hK4, hR4, hl4, hf4⟩)
  · exact ⟨rfl, hbad⟩
  have HG4 := Lib.hid hG4
  have HK4 := Lib.hid hK4
  have HR4 := Lib.hid hR4
  have HL4 : Hid (V4.l.length ≤ 140737488351232) := Lib.hid (by rw [hl4]; exact HL3.out)
  clear hG4 hK4 hR4 hl4 hf4 hx4
  have hs4 := HG4.out.sat
  go_wp2_with fail
  (try (refine ⟨hs4, ?_⟩))
  clear hs4
  have c5 := HG4.out.sf.box.cell 3 rfl
  have b5 := HG4.out.sf.box.free 3
  have HG5 := Lib.hid (HG4.out.put (f' := { f with n := (x3 : Int) }) (fa' := fa) 3 (.int .i64 (x3 : Int)) rfl ⟨HG4.out.sf.own.data, HG4.out.sf.own.cid, HG4.out.sf.own.spans⟩)
  have HK5 := Lib.hid (kept_put HK4.out 3 (.int .i64 (x3 : Int)))
  have hs5 := HG5.out.sat
  refine MixP.step (o := ⟨_, _, _, _, _, _⟩) rfl ?_
  refine Mx.quietly rfl ?_; go_big_quiet_want; go_big_quiet_op; go_big_quiet_on; refine Mx.done ?_
  refine Mx.nil ?_
  refine MixP.step (o := ⟨_, _, _, _, _, _⟩) rfl ?_
  refine Mx.quietly rfl ?_; go_big_quiet_want; go_big_quiet_op; go_big_quiet_on; refine Mx.done ?_
  refine Mx.nil ?_
  refine MixP.step rfl ?_
  refine Mx.loudly (by kernel_rfl) (by kernel_rfl) ?_
  go_wp2_with fail
  (try (refine ⟨hs5, ?_⟩))
  refine Mx.nil ?_
  obtain ⟨w5, hw5⟩ : ∃ w5, w5 = w4.setCell ⟨gf, 3, none⟩ (.int .i64 (x3 : Int)) := ⟨_, rfl⟩
  rw [← hw5] at HG5 HK5  ⊢
  clear hw5 c5 b5 hs5
  have c6 := HG5.out.sf.box.cell 2 rfl
  have b6 := HG5.out.sf.box.free 2
  have HG6 := Lib.hid (HG5.out.put (f' := { { f with n := (x3 : Int) } with at_ := (x4 : Int) }) (fa' := fa) 2 (.int .i64 (x4 : Int)) rfl ⟨HG5.out.sf.own.data, HG5.out.sf.own.cid, HG5.out.sf.own.spans⟩)
  have HK6 := Lib.hid (kept_put HK5.out 2 (.int .i64 (x4 : Int)))
  have hs6 := HG6.out.sat
  refine MixP.step (o := ⟨_, _, _, _, _, _⟩) rfl ?_
  refine Mx.quietly rfl ?_; go_big_quiet_want; go_big_quiet_op; go_big_quiet_on; refine Mx.done ?_
  refine Mx.nil ?_
  refine MixP.step (o := ⟨_, _, _, _, _, _⟩) rfl ?_
  refine Mx.quietly rfl ?_; go_big_quiet_want; go_big_quiet_op; go_big_quiet_on; refine Mx.done ?_
  refine Mx.nil ?_
  refine MixP.step rfl ?_
  refine Mx.loudly (by kernel_rfl) (by kernel_rfl) ?_
  go_wp2_with fail
  (try (refine ⟨hs6, ?_⟩))
  refine Mx.nil ?_
  obtain ⟨w6, hw6⟩ : ∃ w6, w6 = w5.setCell ⟨gf, 2, none⟩ (.int .i64 (x4 : Int)) := ⟨_, rfl⟩
  rw [← hw6] at HG6 HK6  ⊢
  clear hw6 c6 b6 hs6
  refine MixP.nil ?_
  go_upto_region 25 with fail
  have HG7 := Lib.hid HG6.out.drew
  have HK7 := Lib.hid (HK6.out.trans (Kept.drew (fun k => k = g) w6) (fun _ _ h => .inl h))
  have HS7 := Lib.hid HG7.out.sat
  refine MixP.region [114] [0, 1, 2, 3, 4, 5, 6, 7, 8, 9, 10] [3, 7] (Sat [(⟨q, 0, none⟩, .pointer (some ⟨g, 0, none⟩))]) (SrcD w B g gf a c R) (by kernel_rfl) (by kernel_rfl) HS7.out ?_ ?_
  · intro ch a' w' h
    exact h
  refine MixP.step (o := ⟨_, _, _, _, _, _⟩) rfl ?_
  refine Mx.quietly rfl ?_; go_big_quiet_want; go_big_quiet_op; go_big_quiet_on; refine Mx.done ?_
  refine Mx.nil ?_
  refine MixP.step rfl ?_
  refine Mx.mid q 0 [.pointer (some ⟨g, 0, none⟩)] _ (by kernel_rfl) (by kernel_rfl) (by kernel_rfl) Try.underlying72 rfl (by kernel_rfl) (fun w' h => mid1 (h 0 _ _ rfl)) ?_
  go_big_quiet_want; go_big_quiet_op; go_big_quiet_on; refine Mx.done ?_
  refine Mx.nil ?_
  refine MixP.step rfl ?_
  refine Mx.mid q 0 [.pointer (some ⟨g, 0, none⟩)] _ (by kernel_rfl) (by kernel_rfl) (by kernel_rfl) Try.underlying72 rfl (by kernel_rfl) (fun w' h => mid1 (h 0 _ _ rfl)) ?_
  go_big_quiet_want; go_big_quiet_op; go_big_quiet_on; refine Mx.done ?_
  refine Mx.nil ?_
  have HN8 := Lib.hid (take_step1 HG7.out HK7.out HB.out HL4.out (R := R) HR4.out)
  refine MixP.panicky rfl (by kernel_rfl) (by kernel_rfl) rfl ?_
  go_wp2_with fail
  refine HN8.out.mono ?_
  rintro e w8 (⟨rfl, hbad⟩ | ⟨y8, V8, rb8, rc8, rfl, h18, hc8, hG8, hK8, hR8, hl8⟩)
  · exact ⟨rfl, hbad⟩
  have HG8 := Lib.hid hG8
  have HK8 := Lib.hid hK8
  dsimp only at hR8
  rw [head_of h18] at hR8
  have HR8 := Lib.hid hR8
  have HL8 : Hid (V8.l.length ≤ 140737488351232) := Lib.hid (by rw [hl8]; exact HL4.out)
  have hu8 : IntKind.i64.wrap ((y8 : Nat) : Int) = (y8 : Int) := u8w h18
  have hv8 : RowKit.wrap64 ((y8 : Nat) : Int) = (y8 : Int) := u8w2 h18
  have hs8 := HG8.out.sat
  clear hG8 hK8 hR8 hl8 h18
  go_wp2_with fail
  (try (refine ⟨hs8, ?_⟩))
  refine MixP.step (o := ⟨_, _, _, _, _, _⟩) rfl ?_
  refine Mx.quietly rfl ?_; go_big_quiet_want; go_big_quiet_op; go_big_quiet_on; refine Mx.done ?_
  refine Mx.nil ?_
  refine MixP.step rfl ?_
  refine Mx.loudly (by kernel_rfl) (by kernel_rfl) ?_
  go_wp2_with fail
  (try (refine ⟨hs8, ?_⟩))
  refine Mx.nil ?_
  refine MixP.step (o := ⟨_, _, _, _, _, _⟩) rfl ?_
  refine Mx.quietly rfl ?_; go_big_quiet_want; go_big_quiet_op; go_big_quiet_on; refine Mx.done ?_
  refine Mx.nil ?_
  clear hs8 hc8
  have HN9 := Lib.hid (take_step HG8.out HK8.out HB.out HL8.out y8 (R := R) HR8.out)
  refine MixP.panicky rfl (by kernel_rfl) (by kernel_rfl) rfl ?_
  go_wp2_with fail
  refine HN9.out.mono ?_
  rintro e w9 (⟨rfl, hbad⟩ | ⟨y9, V9, ra9, rc9, rfl, ho9, hG9, hK9, hR9, hl9, hf9, hn9⟩)
  · exact ⟨rfl, hbad⟩
  obtain ⟨m9, hm9⟩ : ∃ m, m = y9.length := ⟨_, rfl⟩
  have HO9_0 := Lib.hid ho9
  dsimp only
  rw [← hm9]
  have HM9 := Lib.hid hm9
  clear ho9 hn9 hm9
  have HG9 := Lib.hid hG9
  have HK9 := Lib.hid hK9
  have HR9 := Lib.hid hR9
  have HL9 : Hid (V9.l.length ≤ 140737488351232) := Lib.hid (by rw [hl9]; exact HL8.out)
  clear hG9 hK9 hR9 hl9 hf9
  have hs9 := HG9.out.sat
  go_wp2_with fail
  (try (refine ⟨hs9, ?_⟩))
  clear hs9
  have c10 := HG9.out.sf.box.cell 7 rfl
  have b10 := HG9.out.sf.box.free 7
  have HG10 := Lib.hid (HG9.out.put (f' := { { { f with n := (x3 : Int) } with at_ := (x4 : Int) } with cid := y9 }) (fa' := { fa with ca := ra9, cc := rc9 }) 7 (.slice ra9 m9 rc9) (by rw [HM9.out]; rfl) ⟨HG9.out.sf.own.data, HO9_0.out, HG9.out.sf.own.spans⟩)
  have HK10 := Lib.hid (kept_put HK9.out 7 (.slice ra9 m9 rc9))
  have hs10 := HG10.out.sat
  refine MixP.step (o := ⟨_, _, _, _, _, _⟩) rfl ?_
  refine Mx.quietly rfl ?_; go_big_quiet_want; go_big_quiet_op; go_big_quiet_on; refine Mx.done ?_
  refine Mx.nil ?_
  refine MixP.step (o := ⟨_, _, _, _, _, _⟩) rfl ?_
  refine Mx.quietly rfl ?_; go_big_quiet_want; go_big_quiet_op; go_big_quiet_on; refine Mx.done ?_
  refine Mx.nil ?_
  refine MixP.step rfl ?_
  refine Mx.loudly (by kernel_rfl) (by kernel_rfl) ?_
  go_wp2_with fail
  (try (refine ⟨hs10, ?_⟩))
  refine Mx.nil ?_
  obtain ⟨w10, hw10⟩ : ∃ w10, w10 = w9.setCell ⟨gf, 7, none⟩ (.slice ra9 m9 rc9) := ⟨_, rfl⟩
  rw [← hw10] at HG10 HK10  ⊢
  clear hw10 c10 b10 hs10
  refine MixP.nil ?_
  have HN11 := Lib.hid (take_step HG10.out HK10.out HB.out HL9.out 16 (R := R) HR9.out)
  have s11 := HG10.out.src.cell 0 rfl
  go_wp2_with fail
  refine HN11.out.mono ?_
  rintro e w11 (⟨rfl, hbad⟩ | ⟨y11, V11, ra11, rc11, rfl, ho11, hG11, hK11, hR11, hl11, hf11, hn11⟩)
  · exact ⟨rfl, hbad⟩
  obtain ⟨m11, hm11⟩ : ∃ m, m = y11.length := ⟨_, rfl⟩
  have HO11_0 := Lib.hid ho11
  dsimp only
  rw [← hm11]
  have HM11 := Lib.hid hm11
  clear ho11 hn11 hm11
  have HG11 := Lib.hid hG11
  have HK11 := Lib.hid hK11
  have HR11 := Lib.hid hR11
  have HL11 : Hid (V11.l.length ≤ 140737488351232) := Lib.hid (by rw [hl11]; exact HL9.out)
  clear hG11 hK11 hR11 hl11 hf11 s11
  have c12 := HG11.out.sf.box.cell 6 rfl
  have b12 := HG11.out.sf.box.free 6
  have HG12 := Lib.hid (HG11.out.put (f' := { { { { f with n := (x3 : Int) } with at_ := (x4 : Int) } with cid := y9 } with data := y11 }) (fa' := { { fa with ca := ra9, cc := rc9 } with da := ra11, dc := rc11 }) 6 (.slice ra11 m11 rc11) (by rw [HM11.out]; rfl) ⟨HO11_0.out, HG11.out.sf.own.cid, HG11.out.sf.own.spans⟩)
  have HK12 := Lib.hid (kept_put HK11.out 6 (.slice ra11 m11 rc11))
  go_wp2
  go_end0
  rw [show R = ⟨0, { { { { f with n := (x3 : Int) } with at_ := (x4 : Int) } with cid := y9 } with data := y11 }, V11⟩ from by rw [HR11.out]; try simp only [HKd.out]]
  exact SrcF.good HK12.out HG12.out.sf
set_option maxRecDepth 100000 in
set_option maxHeartbeats 4000000 in
theorem sitems_25 (w : World) {B g gf : Nat} {a : Option Addr} {c : Nat} {V : Vr} {f : Fm} {fa : FA} (h : SF w B g gf a c V f fa) (hB : B ≤ w.heap.size) (hl : V.l.length ≤ 140737488351232) (hkd : f.kind = 25) :
    Calls Try.prog 54 #[.agg #[.pointer (some ⟨g, 0, none⟩)], .pointer (some ⟨gf, 0, none⟩)] w (SrcF w B g gf a c (itemsV V f)) := by
  have HG := Lib.hid (SG.new h)
  have HK := Lib.hid (kept_first (w := w) (g := g) (gf := gf) (.cells #[.pointer (some ⟨g, 0, none⟩)] 72))
  have HB := Lib.hid hB
  have HL := Lib.hid hl
  obtain ⟨q, hq⟩ : ∃ q, q = w.heap.size := ⟨_, rfl⟩
  obtain ⟨w1, hw1⟩ : ∃ w1, w1 = w.alloc (.cells #[.pointer (some ⟨g, 0, none⟩)] 72) := ⟨_, rfl⟩
  rw [← hq, ← hw1] at HG
  rw [← hw1] at HK
  obtain ⟨R, hR⟩ : ∃ R, R = itemsV V f := ⟨_, rfl⟩
  rw [← hR]
  unfold itemsV at hR
  simp only [hkd, Int.reduceEq, if_false, or_false] at hR
  have HR := Lib.hid hR
  have HKd := Lib.hid hkd
  have k0 := HG.out.sf.box.cell 0 rfl
  rw [hkd] at k0
  clear h hB hl hR hkd
  go_enter Try.func54, Try.ntmps54
  go_upto_region 1 with fail
  rw [← hw1, ← hq]
  clear hw1 hq
  have HN2 := Lib.hid (num_step HG.out HK.out (R := R) HR.out)
  have s2 := HG.out.src.cell 0 rfl
  go_wp2_with fail
  refine HN2.out.mono ?_
  rintro e w2 (⟨rfl, hbad⟩ | ⟨x2, V2, rfl, hx2, hG2, hK2, hR2, hl2, hf2⟩)
  · exact ⟨rfl, hbad⟩
  have HG2 := Lib.hid hG2
  have HK2 := Lib.hid hK2
  have HR2 := Lib.hid hR2
  have HL2 : Hid (V2.l.length ≤ 140737488351232) := Lib.hid (by rw [hl2]; exact HL.out)
  clear hG2 hK2 hR2 hl2 hf2 hx2 s2
  have c3 := HG2.out.sf.box.cell 3 rfl
  have b3 := HG2.out.sf.box.free 3
  have HG3 := Lib.hid (HG2.out.put (f' := { f with n := (x2 : Int) }) (fa' := fa) 3 (.int .i64 (x2 : Int)) rfl ⟨HG2.out.sf.own.data, HG2.out.sf.own.cid, HG2.out.sf.own.spans⟩)
  have HK3 := Lib.hid (kept_put HK2.out 3 (.int .i64 (x2 : Int)))
  go_wp2
  go_end0
  rw [show R = ⟨0, { f with n := (x2 : Int) }, V2⟩ from by rw [HR2.out]; try simp only [HKd.out]]
  exact SrcF.good HK3.out HG3.out.sf
set_option maxRecDepth 100000 in
set_option maxHeartbeats 4000000 in
theorem sitems_26 (w : World) {B g gf : Nat} {a : Option Addr} {c : Nat} {V : Vr} {f : Fm} {fa : FA} (h : SF w B g gf a c V f fa) (hB : B ≤ w.heap.size) (hl : V.l.length ≤ 140737488351232) (hkd : f.kind = 26) :
    Calls Try.prog 54 #[.agg #[.pointer (some ⟨g, 0, none⟩)], .pointer (some ⟨gf, 0, none⟩)] w (SrcF w B g gf a c (itemsV V f)) := by
  have HG := Lib.hid (SG.new h)
  have HK := Lib.hid (kept_first (w := w) (g := g) (gf := gf) (.cells #[.pointer (some ⟨g, 0, none⟩)] 72))
  have HB := Lib.hid hB
  have HL := Lib.hid hl
  obtain ⟨q, hq⟩ : ∃ q, q = w.heap.size := ⟨_, rfl⟩
  obtain ⟨w1, hw1⟩ : ∃ w1, w1 = w.alloc (.cells #[.pointer (some ⟨g, 0, none⟩)] 72) := ⟨_, rfl⟩
  rw [← hq, ← hw1] at HG
  rw [← hw1] at HK
  obtain ⟨R, hR⟩ : ∃ R, R = itemsV V f := ⟨_, rfl⟩
  rw [← hR]
  unfold itemsV at hR
  simp only [hkd, Int.reduceEq, if_false, if_true, or_false] at hR
  have HR := Lib.hid hR
  have HKd := Lib.hid hkd
  have k0 := HG.out.sf.box.cell 0 rfl
  rw [hkd] at k0
  clear h hB hl hR hkd
  go_enter Try.func54, Try.ntmps54
  go_upto_region 1 with fail
  rw [← hw1, ← hq]
  clear hw1 hq
  have HN2 := Lib.hid (take_step HG.out HK.out HB.out HL.out 8 (R := R) HR.out)
  have s2 := HG.out.src.cell 0 rfl
  go_wp2_with fail
  refine HN2.out.mono ?_
  rintro e w2 (⟨rfl, hbad⟩ | ⟨y2, V2, ra2, rc2, rfl, ho2, hG2, hK2, hR2, hl2, hf2, hn2⟩)
  · exact ⟨rfl, hbad⟩
  obtain ⟨m2, hm2⟩ : ∃ m, m = y2.length := ⟨_, rfl⟩
  have HO2_0 := Lib.hid ho2
  dsimp only
  rw [← hm2]
  have HM2 := Lib.hid hm2
  clear ho2 hn2 hm2
  have HG2 := Lib.hid hG2
  have HK2 := Lib.hid hK2
  have HR2 := Lib.hid hR2
  have HL2 : Hid (V2.l.length ≤ 140737488351232) := Lib.hid (by rw [hl2]; exact HL.out)
  clear hG2 hK2 hR2 hl2 hf2 s2
  have c3 := HG2.out.sf.box.cell 6 rfl
  have b3 := HG2.out.sf.box.free 6
  have HG3 := Lib.hid (HG2.out.put (f' := { f with data := y2 }) (fa' := { fa with da := ra2, dc := rc2 }) 6 (.slice ra2 m2 rc2) (by rw [HM2.out]; rfl) ⟨HO2_0.out, HG2.out.sf.own.cid, HG2.out.sf.own.spans⟩)
  have HK3 := Lib.hid (kept_put HK2.out 6 (.slice ra2 m2 rc2))
  go_wp2
  go_end0
  rw [show R = ⟨0, { f with data := y2 }, V2⟩ from by rw [HR2.out]; try simp only [HKd.out]]
  exact SrcF.good HK3.out HG3.out.sf
set_option maxRecDepth 100000 in
set_option maxHeartbeats 4000000 in
theorem sitems_27 (w : World) {B g gf : Nat} {a : Option Addr} {c : Nat} {V : Vr} {f : Fm} {fa : FA} (h : SF w B g gf a c V f fa) (hB : B ≤ w.heap.size) (hl : V.l.length ≤ 140737488351232) (hkd : f.kind = 27) :
    Calls Try.prog 54 #[.agg #[.pointer (some ⟨g, 0, none⟩)], .pointer (some ⟨gf, 0, none⟩)] w (SrcF w B g gf a c (itemsV V f)) := by
  have HG := Lib.hid (SG.new h)
  have HK := Lib.hid (kept_first (w := w) (g := g) (gf := gf) (.cells #[.pointer (some ⟨g, 0, none⟩)] 72))
  have HB := Lib.hid hB
  have HL := Lib.hid hl
  obtain ⟨q, hq⟩ : ∃ q, q = w.heap.size := ⟨_, rfl⟩
  obtain ⟨w1, hw1⟩ : ∃ w1, w1 = w.alloc (.cells #[.pointer (some ⟨g, 0, none⟩)] 72) := ⟨_, rfl⟩
  rw [← hq, ← hw1] at HG
  rw [← hw1] at HK
  obtain ⟨R, hR⟩ : ∃ R, R = itemsV V f := ⟨_, rfl⟩
  rw [← hR]
  unfold itemsV at hR
  simp only [hkd, Int.reduceEq, if_false, if_true, false_or, or_false] at hR
  have HR := Lib.hid hR
  have HKd := Lib.hid hkd
  have k0 := HG.out.sf.box.cell 0 rfl
  rw [hkd] at k0
  clear h hB hl hR hkd
  go_enter Try.func54, Try.ntmps54
  go_upto_region 1 with fail
  rw [← hw1, ← hq]
  clear hw1 hq
  have HN2 := Lib.hid (take_step HG.out HK.out HB.out HL.out 8 (R := R) HR.out)
  have s2 := HG.out.src.cell 0 rfl
  go_wp2_with fail
  refine HN2.out.mono ?_
  rintro e w2 (⟨rfl, hbad⟩ | ⟨y2, V2, ra2, rc2, rfl, ho2, hG2, hK2, hR2, hl2, hf2, hn2⟩)
  · exact ⟨rfl, hbad⟩
  obtain ⟨m2, hm2⟩ : ∃ m, m = y2.length := ⟨_, rfl⟩
  have HO2_0 := Lib.hid ho2
  dsimp only
  rw [← hm2]
  have HM2 := Lib.hid hm2
  clear ho2 hn2 hm2
  have HG2 := Lib.hid hG2
  have HK2 := Lib.hid hK2
  have HR2 := Lib.hid hR2
  have HL2 : Hid (V2.l.length ≤ 140737488351232) := Lib.hid (by rw [hl2]; exact HL.out)
  clear hG2 hK2 hR2 hl2 hf2 s2
  have c3 := HG2.out.sf.box.cell 6 rfl
  have b3 := HG2.out.sf.box.free 6
  have HG3 := Lib.hid (HG2.out.put (f' := { f with data := y2 }) (fa' := { fa with da := ra2, dc := rc2 }) 6 (.slice ra2 m2 rc2) (by rw [HM2.out]; rfl) ⟨HO2_0.out, HG2.out.sf.own.cid, HG2.out.sf.own.spans⟩)
  have HK3 := Lib.hid (kept_put HK2.out 6 (.slice ra2 m2 rc2))
  go_wp2
  go_end0
  rw [show R = ⟨0, { f with data := y2 }, V2⟩ from by rw [HR2.out]; try simp only [HKd.out]]
  exact SrcF.good HK3.out HG3.out.sf
set_option maxRecDepth 100000 in
set_option maxHeartbeats 4000000 in
theorem sitems_28 (w : World) {B g gf : Nat} {a : Option Addr} {c : Nat} {V : Vr} {f : Fm} {fa : FA} (h : SF w B g gf a c V f fa) (hB : B ≤ w.heap.size) (hl : V.l.length ≤ 140737488351232) (hkd : f.kind = 28) :
    Calls Try.prog 54 #[.agg #[.pointer (some ⟨g, 0, none⟩)], .pointer (some ⟨gf, 0, none⟩)] w (SrcF w B g gf a c (itemsV V f)) := by
  have HG := Lib.hid (SG.new h)
  have HK := Lib.hid (kept_first (w := w) (g := g) (gf := gf) (.cells #[.pointer (some ⟨g, 0, none⟩)] 72))
  have HB := Lib.hid hB
  have HL := Lib.hid hl
  obtain ⟨q, hq⟩ : ∃ q, q = w.heap.size := ⟨_, rfl⟩
  obtain ⟨w1, hw1⟩ : ∃ w1, w1 = w.alloc (.cells #[.pointer (some ⟨g, 0, none⟩)] 72) := ⟨_, rfl⟩
  rw [← hq, ← hw1] at HG
  rw [← hw1] at HK
  obtain ⟨R, hR⟩ : ∃ R, R = itemsV V f := ⟨_, rfl⟩
  rw [← hR]
  unfold itemsV at hR
  simp only [hkd, Int.reduceEq, if_false, if_true, or_false] at hR
  have HR := Lib.hid hR
  have HKd := Lib.hid hkd
  have k0 := HG.out.sf.box.cell 0 rfl
  rw [hkd] at k0
  clear h hB hl hR hkd
  go_enter Try.func54, Try.ntmps54
  go_upto_region 1 with fail
  rw [← hw1, ← hq]
  clear hw1 hq
  go_upto_region 31 with fail
  have HG2 := Lib.hid HG.out.drew
  have HK2 := Lib.hid (HK.out.trans (Kept.drew (fun k => k = g) w1) (fun _ _ h => .inl h))
  have HS2 := Lib.hid HG2.out.sat
  refine MixP.region [] [0, 1, 2, 3, 5, 7, 4, 6, 8, 9, 10, 11, 12, 13, 14, 15, 16, 17] [4, 6, 8] (Sat [(⟨q, 0, none⟩, .pointer (some ⟨g, 0, none⟩))]) (SrcD w B g gf a c R) (by kernel_rfl) (by kernel_rfl) HS2.out ?_ ?_
  · intro ch a' w' h
    exact h
  refine MixP.step (o := ⟨_, _, _, _, _, _⟩) rfl ?_
  refine Mx.quietly rfl ?_; go_big_quiet_want; go_big_quiet_op; go_big_quiet_on; refine Mx.done ?_
  refine Mx.nil ?_
  refine MixP.step (o := ⟨_, _, _, _, _, _⟩) rfl ?_
  refine Mx.quietly rfl ?_; go_big_quiet_want; go_big_quiet_op; go_big_quiet_on; refine Mx.done ?_
  refine Mx.nil ?_
  refine MixP.step (o := ⟨_, _, _, _, _, _⟩) rfl ?_
  refine Mx.quietly rfl ?_; go_big_quiet_want; go_big_quiet_op; go_big_quiet_on; refine Mx.done ?_
  refine Mx.nil ?_
  refine MixP.step rfl ?_
  refine Mx.mid q 0 [.pointer (some ⟨g, 0, none⟩)] _ (by kernel_rfl) (by kernel_rfl) (by kernel_rfl) Try.underlying72 rfl (by kernel_rfl) (fun w' h => mid1 (h 0 _ _ rfl)) ?_
  go_big_quiet_want; go_big_quiet_op; go_big_quiet_on; refine Mx.done ?_
  refine Mx.nil ?_
  refine MixP.step rfl ?_
  refine Mx.mid q 0 [.pointer (some ⟨g, 0, none⟩)] _ (by kernel_rfl) (by kernel_rfl) (by kernel_rfl) Try.underlying72 rfl (by kernel_rfl) (fun w' h => mid1 (h 0 _ _ rfl)) ?_
  go_big_quiet_want; go_big_quiet_op; go_big_quiet_on; refine Mx.done ?_
  refine Mx.nil ?_
  refine MixP.step rfl ?_
  refine Mx.mid q 0 [.pointer (some ⟨g, 0, none⟩)] _ (by kernel_rfl) (by kernel_rfl) (by kernel_rfl) Try.underlying72 rfl (by kernel_rfl) (fun w' h => mid1 (h 0 _ _ rfl)) ?_
  go_big_quiet_want; go_big_quiet_op; go_big_quiet_on; refine Mx.done ?_
  refine Mx.nil ?_
  have HN3 := Lib.hid (num_step HG2.out HK2.out (R := R) HR.out)
  refine MixP.panicky rfl (by kernel_rfl) (by kernel_rfl) rfl ?_
  go_wp2_with fail
  refine HN3.out.mono ?_
  rintro e w3 (⟨rfl, hbad⟩ | ⟨x3, V3, rfl, hx3, hG3, hK3, hR3, hl3, hf3⟩)
  · exact ⟨rfl, hbad⟩
  have HG3 := Lib.hid hG3
  have HK3 := Lib.hid hK3
  have HR3 := Lib.hid hR3
  have HL3 : Hid (V3.l.length ≤ 140737488351232) := Lib.hid (by rw [hl3]; exact HL.out)
  clear hG3 hK3 hR3 hl3 hf3 hx3
  have hs3 := HG3.out.sat
  go_wp2_with fail
  (try (refine ⟨hs3, ?_⟩))
  clear hs3
  have HN4 := Lib.hid (num_step HG3.out HK3.out (R := R) HR3.out)
  refine MixP.panicky rfl (by kernel_rfl) (by kernel_rfl) rfl ?_
  go_wp2_with fail
  refine HN4.out.mono ?_
  rintro e w4 (⟨rfl, hbad⟩ | ⟨x4, V4, rfl, hx4, hG4, hK4, hR4, hl4, hf4⟩)
  · exact ⟨rfl, hbad⟩
  have HG4 := Lib.hid hG4
  have HK4 := Lib.hid hK4
  have HR4 := Lib.hid hR4
  have HL4 : Hid (V4.l.length ≤ 140737488351232) := Lib.hid (by rw [hl4]; exact HL3.out)
  clear hG4 hK4 hR4 hl4 hf4 hx4
  have hs4 := HG4.out.sat
  go_wp2_with fail
  (try (refine ⟨hs4, ?_⟩))
  clear hs4
  have HN5 := Lib.hid (text_step HG4.out HK4.out HB.out HL4.out (R := R) HR4.out)
  refine MixP.panicky rfl (by kernel_rfl) (by kernel_rfl) rfl ?_
  go_wp2_with fail
  refine HN5.out.mono ?_
  rintro e w5 (⟨rfl, hbad⟩ | ⟨y5, V5, ra5, rc5, rfl, ho5, hG5, hK5, hR5, hl5, hf5, hn5⟩)
  · exact ⟨rfl, hbad⟩
  obtain ⟨m5, hm5⟩ : ∃ m, m = y5.length := ⟨_, rfl⟩
  have HO5_0 := Lib.hid ho5
  dsimp only
  rw [← hm5]
  have HM5 := Lib.hid hm5
  clear ho5 hn5 hm5
  have HG5 := Lib.hid hG5
  have HK5 := Lib.hid hK5
  have HR5 := Lib.hid hR5
  have HL5 : Hid (V5.l.length ≤ 140737488351232) := Lib.hid (by rw [hl5]; exact HL4.out)
  clear hG5 hK5 hR5 hl5 hf5
  have hs5 := HG5.out.sat
  go_wp2_with fail
  (try (refine ⟨hs5, ?_⟩))
  clear hs5
  have c6 := HG5.out.sf.box.cell 4 rfl
  have b6 := HG5.out.sf.box.free 4
  have HG6 := Lib.hid (HG5.out.put (f' := { f with code := (x3 : Int) }) (fa' := fa) 4 (.int .i64 (x3 : Int)) rfl ⟨HG5.out.sf.own.data, HG5.out.sf.own.cid, HG5.out.sf.own.spans⟩)
  have HK6 := Lib.hid (kept_put HK5.out 4 (.int .i64 (x3 : Int)))
  have HO5_1 := Lib.hid (row_put HO5_0.out HG5.out.sf 4 (.int .i64 (x3 : Int)))
  have hs6 := HG6.out.sat
  refine MixP.step (o := ⟨_, _, _, _, _, _⟩) rfl ?_
  refine Mx.quietly rfl ?_; go_big_quiet_want; go_big_quiet_op; go_big_quiet_on; refine Mx.done ?_
  refine Mx.nil ?_
  refine MixP.step (o := ⟨_, _, _, _, _, _⟩) rfl ?_
  refine Mx.quietly rfl ?_; go_big_quiet_want; go_big_quiet_op; go_big_quiet_on; refine Mx.done ?_
  refine Mx.nil ?_
  refine MixP.step rfl ?_
  refine Mx.loudly (by kernel_rfl) (by kernel_rfl) ?_
  go_wp2_with fail
  (try (refine ⟨hs6, ?_⟩))
  refine Mx.nil ?_
  obtain ⟨w6, hw6⟩ : ∃ w6, w6 = w5.setCell ⟨gf, 4, none⟩ (.int .i64 (x3 : Int)) := ⟨_, rfl⟩
  rw [← hw6] at HG6 HK6 HO5_1 ⊢
  clear hw6 c6 b6 hs6
  have c7 := HG6.out.sf.box.cell 3 rfl
  have b7 := HG6.out.sf.box.free 3
  have HG7 := Lib.hid (HG6.out.put (f' := { { f with code := (x3 : Int) } with n := (x4 : Int) }) (fa' := fa) 3 (.int .i64 (x4 : Int)) rfl ⟨HG6.out.sf.own.data, HG6.out.sf.own.cid, HG6.out.sf.own.spans⟩)
  have HK7 := Lib.hid (kept_put HK6.out 3 (.int .i64 (x4 : Int)))
  have HO5_2 := Lib.hid (row_put HO5_1.out HG6.out.sf 3 (.int .i64 (x4 : Int)))
  have hs7 := HG7.out.sat
  refine MixP.step (o := ⟨_, _, _, _, _, _⟩) rfl ?_
  refine Mx.quietly rfl ?_; go_big_quiet_want; go_big_quiet_op; go_big_quiet_on; refine Mx.done ?_
  refine Mx.nil ?_
  refine MixP.step (o := ⟨_, _, _, _, _, _⟩) rfl ?_
  refine Mx.quietly rfl ?_; go_big_quiet_want; go_big_quiet_op; go_big_quiet_on; refine Mx.done ?_
  refine Mx.nil ?_
  refine MixP.step rfl ?_
  refine Mx.loudly (by kernel_rfl) (by kernel_rfl) ?_
  go_wp2_with fail
  (try (refine ⟨hs7, ?_⟩))
  refine Mx.nil ?_
  obtain ⟨w7, hw7⟩ : ∃ w7, w7 = w6.setCell ⟨gf, 3, none⟩ (.int .i64 (x4 : Int)) := ⟨_, rfl⟩
  rw [← hw7] at HG7 HK7 HO5_2 ⊢
  clear hw7 c7 b7 hs7
  have c8 := HG7.out.sf.box.cell 6 rfl
  have b8 := HG7.out.sf.box.free 6
  have HG8 := Lib.hid (HG7.out.put (f' := { { { f with code := (x3 : Int) } with n := (x4 : Int) } with data := y5 }) (fa' := { fa with da := ra5, dc := rc5 }) 6 (.slice ra5 m5 rc5) (by rw [HM5.out]; rfl) ⟨HO5_2.out, HG7.out.sf.own.cid, HG7.out.sf.own.spans⟩)
  have HK8 := Lib.hid (kept_put HK7.out 6 (.slice ra5 m5 rc5))
  have hs8 := HG8.out.sat
  refine MixP.step (o := ⟨_, _, _, _, _, _⟩) rfl ?_
  refine Mx.quietly rfl ?_; go_big_quiet_want; go_big_quiet_op; go_big_quiet_on; refine Mx.done ?_
  refine Mx.nil ?_
  refine MixP.step (o := ⟨_, _, _, _, _, _⟩) rfl ?_
  refine Mx.quietly rfl ?_; go_big_quiet_want; go_big_quiet_op; go_big_quiet_on; refine Mx.done ?_
  refine Mx.nil ?_
  refine MixP.step rfl ?_
  refine Mx.loudly (by kernel_rfl) (by kernel_rfl) ?_
  go_wp2_with fail
  (try (refine ⟨hs8, ?_⟩))
  refine Mx.nil ?_
  obtain ⟨w8, hw8⟩ : ∃ w8, w8 = w7.setCell ⟨gf, 6, none⟩ (.slice ra5 m5 rc5) := ⟨_, rfl⟩
  rw [← hw8] at HG8 HK8  ⊢
  clear hw8 c8 b8 hs8
  refine MixP.nil ?_
  go_wp2
  go_end0
  rw [show R = ⟨0, { { { f with code := (x3 : Int) } with n := (x4 : Int) } with data := y5 }, V5⟩ from by rw [HR5.out]; try simp only [HKd.out]]
  exact SrcF.good HK8.out HG8.out.sf
set_option maxRecDepth 100000 in
set_option maxHeartbeats 4000000 in
theorem sitems_29 (w : World) {B g gf : Nat} {a : Option Addr} {c : Nat} {V : Vr} {f : Fm} {fa : FA} (h : SF w B g gf a c V f fa) (hB : B ≤ w.heap.size) (hl : V.l.length ≤ 140737488351232) (hkd : f.kind = 29) :
    Calls Try.prog 54 #[.agg #[.pointer (some ⟨g, 0, none⟩)], .pointer (some ⟨gf, 0, none⟩)] w (SrcF w B g gf a c (itemsV V f)) := by
  have HG := Lib.hid (SG.new h)
  have HK := Lib.hid (kept_first (w := w) (g := g) (gf := gf) (.cells #[.pointer (some ⟨g, 0, none⟩)] 72))
  have HB := Lib.hid hB
  have HL := Lib.hid hl
  obtain ⟨q, hq⟩ : ∃ q, q = w.heap.size := ⟨_, rfl⟩
  obtain ⟨w1, hw1⟩ : ∃ w1, w1 = w.alloc (.cells #[.pointer (some ⟨g, 0, none⟩)] 72) := ⟨_, rfl⟩
  rw [← hq, ← hw1] at HG
  rw [← hw1] at HK
  obtain ⟨R, hR⟩ : ∃ R, R = itemsV V f := ⟨_, rfl⟩
  rw [← hR]
  unfold itemsV at hR
  simp only [hkd, Int.reduceEq, if_false, if_true, or_false] at hR
  have HR := Lib.hid hR
  have HKd := Lib.hid hkd
  have k0 := HG.out.sf.box.cell 0 rfl
  rw [hkd] at k0
  clear h hB hl hR hkd
  go_enter Try.func54, Try.ntmps54
  go_upto_region 1 with fail
  rw [← hw1, ← hq]
  clear hw1 hq
  go_upto_region 33 with fail
  have HG2 := Lib.hid HG.out.drew
  have HK2 := Lib.hid (HK.out.trans (Kept.drew (fun k => k = g) w1) (fun _ _ h => .inl h))
  have HS2 := Lib.hid HG2.out.sat
  refine MixP.region [] [0, 1, 2, 4, 3, 5, 6, 7, 8, 9, 10, 11] [3, 5] (Sat [(⟨q, 0, none⟩, .pointer (some ⟨g, 0, none⟩))]) (SrcD w B g gf a c R) (by kernel_rfl) (by kernel_rfl) HS2.out ?_ ?_
  · intro ch a' w' h
    exact h
  refine MixP.step (o := ⟨_, _, _, _, _, _⟩) rfl ?_
  refine Mx.quietly rfl ?_; go_big_quiet_want; go_big_quiet_op; go_big_quiet_on; refine Mx.done ?_
  refine Mx.nil ?_
  refine MixP.step (o := ⟨_, _, _, _, _, _⟩) rfl ?_
  refine Mx.quietly rfl ?_; go_big_quiet_want; go_big_quiet_op; go_big_quiet_on; refine Mx.done ?_
  refine Mx.nil ?_
  refine MixP.step rfl ?_
  refine Mx.mid q 0 [.pointer (some ⟨g, 0, none⟩)] _ (by kernel_rfl) (by kernel_rfl) (by kernel_rfl) Try.underlying72 rfl (by kernel_rfl) (fun w' h => mid1 (h 0 _ _ rfl)) ?_
  go_big_quiet_want; go_big_quiet_op; go_big_quiet_on; refine Mx.done ?_
  refine Mx.nil ?_
  refine MixP.step rfl ?_
  refine Mx.mid q 0 [.pointer (some ⟨g, 0, none⟩)] _ (by kernel_rfl) (by kernel_rfl) (by kernel_rfl) Try.underlying72 rfl (by kernel_rfl) (fun w' h => mid1 (h 0 _ _ rfl)) ?_
  go_big_quiet_want; go_big_quiet_op; go_big_quiet_on; refine Mx.done ?_
  refine Mx.nil ?_
  have HN3 := Lib.hid (num_step HG2.out HK2.out (R := R) HR.out)
  refine MixP.panicky rfl (by kernel_rfl) (by kernel_rfl) rfl ?_
  go_wp2_with fail
  refine HN3.out.mono ?_
  rintro e w3 (⟨rfl, hbad⟩ | ⟨x3, V3, rfl, hx3, hG3, hK3, hR3, hl3, hf3⟩)
  · exact ⟨rfl, hbad⟩
  have HG3 := Lib.hid hG3
  have HK3 := Lib.hid hK3
  have HR3 := Lib.hid hR3
  have HL3 : Hid (V3.l.length ≤ 140737488351232) := Lib.hid (by rw [hl3]; exact HL.out)
  clear hG3 hK3 hR3 hl3 hf3 hx3
  have hs3 := HG3.out.sat
  go_wp2_with fail
  (try (refine ⟨hs3, ?_⟩))
  clear hs3
  have HN4 := Lib.hid (text_step HG3.out HK3.out HB.out HL3.out (R := R) HR3.out)
  refine MixP.panicky rfl (by kernel_rfl) (by kernel_rfl) rfl ?_
  go_wp2_with fail
  refine HN4.out.mono ?_
  rintro e w4 (⟨rfl, hbad⟩ | ⟨y4, V4, ra4, rc4, rfl, ho4, hG4, hK4, hR4, hl4, hf4, hn4⟩)
  · exact ⟨rfl, hbad⟩
  obtain ⟨m4, hm4⟩ : ∃ m, m = y4.length := ⟨_, rfl⟩
  have HO4_0 := Lib.hid ho4
  dsimp only
  rw [← hm4]
  have HM4 := Lib.hid hm4
  clear ho4 hn4 hm4
  have HG4 := Lib.hid hG4
  have HK4 := Lib.hid hK4
  have HR4 := Lib.hid hR4
  have HL4 : Hid (V4.l.length ≤ 140737488351232) := Lib.hid (by rw [hl4]; exact HL3.out)
  clear hG4 hK4 hR4 hl4 hf4
  have hs4 := HG4.out.sat
  go_wp2_with fail
  (try (refine ⟨hs4, ?_⟩))
  clear hs4
  have c5 := HG4.out.sf.box.cell 4 rfl
  have b5 := HG4.out.sf.box.free 4
  have HG5 := Lib.hid (HG4.out.put (f' := { f with code := (x3 : Int) }) (fa' := fa) 4 (.int .i64 (x3 : Int)) rfl ⟨HG4.out.sf.own.data, HG4.out.sf.own.cid, HG4.out.sf.own.spans⟩)
  have HK5 := Lib.hid (kept_put HK4.out 4 (.int .i64 (x3 : Int)))
  have HO4_1 := Lib.hid (row_put HO4_0.out HG4.out.sf 4 (.int .i64 (x3 : Int)))
  have hs5 := HG5.out.sat
  refine MixP.step (o := ⟨_, _, _, _, _, _⟩) rfl ?_
  refine Mx.quietly rfl ?_; go_big_quiet_want; go_big_quiet_op; go_big_quiet_on; refine Mx.done ?_
  refine Mx.nil ?_
  refine MixP.step (o := ⟨_, _, _, _, _, _⟩) rfl ?_
  refine Mx.quietly rfl ?_; go_big_quiet_want; go_big_quiet_op; go_big_quiet_on; refine Mx.done ?_
  refine Mx.nil ?_
  refine MixP.step rfl ?_
  refine Mx.loudly (by kernel_rfl) (by kernel_rfl) ?_
  go_wp2_with fail
  (try (refine ⟨hs5, ?_⟩))
  refine Mx.nil ?_
  obtain ⟨w5, hw5⟩ : ∃ w5, w5 = w4.setCell ⟨gf, 4, none⟩ (.int .i64 (x3 : Int)) := ⟨_, rfl⟩
  rw [← hw5] at HG5 HK5 HO4_1 ⊢
  clear hw5 c5 b5 hs5
  have c6 := HG5.out.sf.box.cell 6 rfl
  have b6 := HG5.out.sf.box.free 6
  have HG6 := Lib.hid (HG5.out.put (f' := { { f with code := (x3 : Int) } with data := y4 }) (fa' := { fa with da := ra4, dc := rc4 }) 6 (.slice ra4 m4 rc4) (by rw [HM4.out]; rfl) ⟨HO4_1.out, HG5.out.sf.own.cid, HG5.out.sf.own.spans⟩)
  have HK6 := Lib.hid (kept_put HK5.out 6 (.slice ra4 m4 rc4))
  have hs6 := HG6.out.sat
  refine MixP.step (o := ⟨_, _, _, _, _, _⟩) rfl ?_
  refine Mx.quietly rfl ?_; go_big_quiet_want; go_big_quiet_op; go_big_quiet_on; refine Mx.done ?_
  refine Mx.nil ?_
  refine MixP.step (o := ⟨_, _, _, _, _, _⟩) rfl ?_
  refine Mx.quietly rfl ?_; go_big_quiet_want; go_big_quiet_op; go_big_quiet_on; refine Mx.done ?_
  refine Mx.nil ?_
  refine MixP.step rfl ?_
  refine Mx.loudly (by kernel_rfl) (by kernel_rfl) ?_
  go_wp2_with fail
  (try (refine ⟨hs6, ?_⟩))
  refine Mx.nil ?_
  obtain ⟨w6, hw6⟩ : ∃ w6, w6 = w5.setCell ⟨gf, 6, none⟩ (.slice ra4 m4 rc4) := ⟨_, rfl⟩
  rw [← hw6] at HG6 HK6  ⊢
  clear hw6 c6 b6 hs6
  refine MixP.nil ?_
  go_wp2
  go_end0
  rw [show R = ⟨0, { { f with code := (x3 : Int) } with data := y4 }, V4⟩ from by rw [HR4.out]; try simp only [HKd.out]]
  exact SrcF.good HK6.out HG6.out.sf
set_option maxRecDepth 100000 in
set_option maxHeartbeats 4000000 in
theorem sitems_30 (w : World) {B g gf : Nat} {a : Option Addr} {c : Nat} {V : Vr} {f : Fm} {fa : FA} (h : SF w B g gf a c V f fa) (hB : B ≤ w.heap.size) (hl : V.l.length ≤ 140737488351232) (hkd : f.kind = 30) :
    Calls Try.prog 54 #[.agg #[.pointer (some ⟨g, 0, none⟩)], .pointer (some ⟨gf, 0, none⟩)] w (SrcF w B g gf a c (itemsV V f)) := by
  have HG := Lib.hid (SG.new h)
  have HK := Lib.hid (kept_first (w := w) (g := g) (gf := gf) (.cells #[.pointer (some ⟨g, 0, none⟩)] 72))
  have HB := Lib.hid hB
  have HL := Lib.hid hl
  obtain ⟨q, hq⟩ : ∃ q, q = w.heap.size := ⟨_, rfl⟩
  obtain ⟨w1, hw1⟩ : ∃ w1, w1 = w.alloc (.cells #[.pointer (some ⟨g, 0, none⟩)] 72) := ⟨_, rfl⟩
  rw [← hq, ← hw1] at HG
  rw [← hw1] at HK
  obtain ⟨R, hR⟩ : ∃ R, R = itemsV V f := ⟨_, rfl⟩
  rw [← hR]
  unfold itemsV at hR
  simp only [hkd, Int.reduceEq, if_false, if_true, false_or, or_false] at hR
  have HR := Lib.hid hR
  have HKd := Lib.hid hkd
  have k0 := HG.out.sf.box.cell 0 rfl
  rw [hkd] at k0
  clear h hB hl hR hkd
  go_enter Try.func54, Try.ntmps54
  go_upto_region 1 with fail
  rw [← hw1, ← hq]
  clear hw1 hq
  go_wp2
  go_end0
  rw [show R = ⟨0, f, V⟩ from by rw [HR.out]; try simp only [HKd.out]]
  exact SrcF.good HK.out HG.out.sf
theorem itj1 {i : Nat} (h : i < 3) : (i : Int) < 3 := by omega
theorem itj2 {i : Nat} (h : i < 3) : 3 - (intOf (Value.int .i64 ((i : Int) + 1))).toNat < 3 - (intOf (Value.int .i64 (i : Int))).toNat := by simp only [intOf]; omega
theorem itj3 {i : Nat} (h : i < 3) : RowKit.wrap64 ((i : Int) + 1) = (i : Int) + 1 ∧ IntKind.i64.wrap ((i : Int) + 1) = (i : Int) + 1 := by rw [IntKind.wrap_i64]; unfold RowKit.wrap64; omega
theorem itj4 {i : Nat} (h : ¬ i < 3) : ¬ (i : Int) < 3 := by omega
theorem itj5 {i : Nat} (h : i ≤ 3) (h2 : ¬ i = 3) : i = 0 ∨ i = 1 ∨ i = 2 := by omega
theorem bindR_id (r : Rs) : bindR r (fun f V => ⟨0, f, V⟩) = r := by
  unfold bindR
  by_cases h : r.err = 0
  · rw [if_pos h]; obtain ⟨e, f, V⟩ := r; simp only at h; subst h; rfl
  · rw [if_neg h]
theorem bind_of {R r : Rs} (h : R = r) : R = bindR r (fun f V => ⟨0, f, V⟩) := by rw [bindR_id]; exact h
theorem nxN_ok {V : Vr} {k : Nat → Vr → Rs} (h : (nxN V k).err = 0) : nxN V k = k (numV V).1 (numV V).2 := by
  unfold nxN at h ⊢
  by_cases h0 : (numV V).2.fault = 0
  · rw [if_pos h0]
  · rw [if_neg h0] at h; cases h
theorem spLoop_f (fd : Fm) : ∀ (m s h : Nat) (acc : List Sn) (V : Vr), (spLoop fd m s h acc V).err = 0 → ∃ l, (spLoop fd m s h acc V).f = { fd with spans := l } := by
  intro m
  induction m with
  | zero =>
    intro s h acc V he
    by_cases h0 : h < s
    · rw [spLoop_bad h0] at he; cases he
    · rw [spLoop_end h0]; exact ⟨_, rfl⟩
  | succ m ih =>
    intro s h acc V he
    by_cases h0 : h < s
    · rw [spLoop_bad h0] at he; cases he
    · rw [spLoop_more h0] at he ⊢
      have e1 := nxN_ok he
      rw [e1] at he ⊢
      by_cases h1 : h - s < (numV V).1 + 2
      · rw [if_pos h1] at he; cases he
      · rw [if_neg h1] at he ⊢
        have e2 := nxN_ok he
        rw [e2] at he ⊢
        exact ih _ _ _ _ he
theorem spsV_f (V : Vr) (f : Fm) (h : (spsV V f).err = 0) : ∃ (d : Int) (l : List Sn), (spsV V f).f = { f with delay := d, spans := l } := by
  unfold spsV at h ⊢
  have e1 := nxN_ok h
  rw [e1] at h ⊢
  have e2 := nxN_ok h
  rw [e2] at h ⊢
  have e3 := nxN_ok h
  rw [e3] at h ⊢
  generalize hm : (numV (numV (numV V).2).2).1 = m at *
  by_cases h1 : 64 ≤ m
  · rw [if_pos h1] at h; cases h
  · rw [if_neg h1] at h ⊢
    have e4 := nxN_ok h
    rw [e4] at h ⊢
    obtain ⟨l, hl⟩ := spLoop_f _ _ _ _ _ _ h
    exact ⟨_, l, by rw [hl]⟩
theorem spans_step {w w1 : World} {B g q gf : Nat} {a : Option Addr} {c : Nat} {V : Vr} {f : Fm} {fa : FA} (h : SG w1 B g q gf a c V f fa) (hk : Kept (fun k => k = g ∨ k = gf) w w1) (hB : B ≤ w.heap.size) (hs : f.spans = []) (ha : fa.sa = none) {R : Rs} {k : Fm → Vr → Rs} (hR : R = bindR (spsV V f) k) :
    Calls Try.prog 64 #[.agg #[.pointer (some ⟨g, 0, none⟩)], .pointer (some ⟨gf, 0, none⟩)] w1 fun e w2 =>
      (∃ ch, e = .panicked ch ∧ SrcF w B g gf a c R (.panicked ch) w2) ∨ ∃ (f' : Fm) (fa' : FA) (V' : Vr), e = .returned (.tuple #[]) ∧ SG w2 B g q gf a c V' f' fa' ∧ Kept (fun k => k = g ∨ k = gf) w w2 ∧ R = k f' V' ∧ f'.kind = f.kind :=
  (sspans_any w1 h.sf (Nat.le_trans hB hk.size) hs ha).mono fun e w2 ⟨he, hk2, f', fa', h2, hf⟩ => by
    have hk3 := hk.trans hk2 (fun _ _ h => h)
    unfold bindR at hR
    by_cases h0 : (spsV V f).err = 0
    · rw [if_pos h0] at he hR
      obtain ⟨d, l, hd⟩ := spsV_f V f h0
      refine .inr ⟨f', fa', _, he, ⟨h2, h.src.kept hk2 (fun e => ?_)⟩, hk3, by rw [hf h0]; exact hR, by rw [hf h0, hd]⟩
      rcases e with e | e
      · exact has_ne h.src h.sf.vb.has (by decide) e
      · exact has_ne h.src h.sf.box (by decide) e
    · rw [if_neg h0] at he hR
      refine .inl ⟨_, he, ?_⟩
      rw [hR]
      exact ⟨by rw [if_neg h0], hk3, f', fa', h2, fun h => absurd h h0⟩
def MkRel (w : World) (B g q gf : Nat) (a : Option Addr) (c : Nat) (R : Rs) (v : Value) (wr : World) : Prop :=
  ∃ (i : Nat) (f : Fm) (fa : FA) (V : Vr), v = .int .i64 (i : Int) ∧ i ≤ 3 ∧ SG wr B g q gf a c V f fa ∧ Kept (fun k => k = g ∨ k = gf) w wr ∧ R = mkV (3 - i) f V ∧ f.kind = 3

set_option maxRecDepth 100000 in
set_option maxHeartbeats 4000000 in
theorem sitems_2 (w : World) {B g gf : Nat} {a : Option Addr} {c : Nat} {V : Vr} {f : Fm} {fa : FA} (h : SF w B g gf a c V f fa) (hB : B ≤ w.heap.size) (hl : V.l.length ≤ 140737488351232) (hkd : f.kind = 2) (hs : f.spans = []) (ha : fa.sa = none) :
    Calls Try.prog 54 #[.agg #[.pointer (some ⟨g, 0, none⟩)], .pointer (some ⟨gf, 0, none⟩)] w (SrcF w B g gf a c (itemsV V f)) := by
  have HG := Lib.hid (SG.new h)
  have HK := Lib.hid (kept_first (w := w) (g := g) (gf := gf) (.cells #[.pointer (some ⟨g, 0, none⟩)] 72))
  have HB := Lib.hid hB
  have HL := Lib.hid hl
  obtain ⟨q, hq⟩ : ∃ q, q = w.heap.size := ⟨_, rfl⟩
  obtain ⟨w1, hw1⟩ : ∃ w1, w1 = w.alloc (.cells #[.pointer (some ⟨g, 0, none⟩)] 72) := ⟨_, rfl⟩
  rw [← hq, ← hw1] at HG
  rw [← hw1] at HK
  obtain ⟨R, hR⟩ : ∃ R, R = itemsV V f := ⟨_, rfl⟩
  rw [← hR]
  unfold itemsV at hR
  simp only [hkd, Int.reduceEq, if_false, if_true, or_false] at hR
  have HR := Lib.hid hR
  have HKd := Lib.hid hkd
  have k0 := HG.out.sf.box.cell 0 rfl
  rw [hkd] at k0
  have HRs := Lib.hid (bind_of hR)
  have HN := Lib.hid (spans_step HG.out HK.out HB.out hs ha (R := R) HRs.out)
  clear h hB hl hR hkd hs ha
  go_enter Try.func54, Try.ntmps54
  go_upto_region 1 with fail
  rw [← hw1, ← hq]
  clear hw1 hq
  have s0 := HG.out.src.cell 0 rfl
  go_wp2_with fail
  refine HN.out.mono ?_
  rintro e w2 (⟨ch, rfl, hbad⟩ | ⟨f2, fa2, V2, rfl, hG2, hK2, hR2, hk2⟩)
  · exact ⟨rfl, hbad⟩
  have HG2 := Lib.hid hG2
  have HK2 := Lib.hid hK2
  have HR2 := Lib.hid hR2
  have HKd2 : Hid (f2.kind = 2) := Lib.hid (by rw [hk2]; exact HKd.out)
  clear hG2 hK2 hR2 hk2 s0 k0
  go_wp2_with fail
  go_loopw [20] (fun v wr => ∃ i : Nat, v = .int .i64 (i : Int) ∧ i ≤ 3 ∧ wr = w2) (fun v _ => 3 - (intOf v).toNat)
  case atStart => exact ⟨0, rfl, by decide, rfl⟩
  case round =>
    obtain ⟨i, rfl, hi3, rfl⟩ := hrel
    by_cases hi : i < 3
    · have hii := itj1 hi
      have c0 := HG2.out.sf.box.cell 0 rfl
      rw [HKd2.out] at c0
      have HI := Lib.hid hi
      obtain ⟨z1, z2⟩ := itj3 hi
      clear hi hi3
      go_wp2_with fail
      go_roundw
      case rel => exact ⟨i + 1, by push_cast; rfl, HI.out, by trivial⟩
      case measure => exact itj2 HI.out
    · have hii := itj4 hi
      have HE : Hid (SrcF w B g gf a c R (.returned (.tuple #[])) wr) := Lib.hid (by rw [show R = ⟨0, f2, V2⟩ from HR2.out]; exact SrcF.good HK2.out HG2.out.sf)
      clear hi hi3
      go_wp2
      go_end0
      exact HE.out
set_option maxRecDepth 100000 in
set_option maxHeartbeats 4000000 in
theorem sitems_3 (w : World) {B g gf : Nat} {a : Option Addr} {c : Nat} {V : Vr} {f : Fm} {fa : FA} (h : SF w B g gf a c V f fa) (hB : B ≤ w.heap.size) (hl : V.l.length ≤ 140737488351232) (hkd : f.kind = 3) (hs : f.spans = []) (ha : fa.sa = none) :
    Calls Try.prog 54 #[.agg #[.pointer (some ⟨g, 0, none⟩)], .pointer (some ⟨gf, 0, none⟩)] w (SrcF w B g gf a c (itemsV V f)) := by
  have HG := Lib.hid (SG.new h)
  have HK := Lib.hid (kept_first (w := w) (g := g) (gf := gf) (.cells #[.pointer (some ⟨g, 0, none⟩)] 72))
  have HB := Lib.hid hB
  have HL := Lib.hid hl
  obtain ⟨q, hq⟩ : ∃ q, q = w.heap.size := ⟨_, rfl⟩
  obtain ⟨w1, hw1⟩ : ∃ w1, w1 = w.alloc (.cells #[.pointer (some ⟨g, 0, none⟩)] 72) := ⟨_, rfl⟩
  rw [← hq, ← hw1] at HG
  rw [← hw1] at HK
  obtain ⟨R, hR⟩ : ∃ R, R = itemsV V f := ⟨_, rfl⟩
  rw [← hR]
  unfold itemsV at hR
  simp only [hkd, Int.reduceEq, if_false, if_true, or_false] at hR
  have HR := Lib.hid hR
  have HKd := Lib.hid hkd
  have k0 := HG.out.sf.box.cell 0 rfl
  rw [hkd] at k0
  have HN := Lib.hid (spans_step HG.out HK.out HB.out hs ha (R := R) hR)
  clear h hB hl hR hkd hs ha
  go_enter Try.func54, Try.ntmps54
  go_upto_region 1 with fail
  rw [← hw1, ← hq]
  clear hw1 hq
  have s0 := HG.out.src.cell 0 rfl
  go_wp2_with fail
  refine HN.out.mono ?_
  rintro e w2 (⟨ch, rfl, hbad⟩ | ⟨f2, fa2, V2, rfl, hG2, hK2, hR2, hk2⟩)
  · exact ⟨rfl, hbad⟩
  have HG2 := Lib.hid hG2
  have HK2 := Lib.hid hK2
  have HR2 := Lib.hid hR2
  have HKd2 : Hid (f2.kind = 3) := Lib.hid (by rw [hk2]; exact HKd.out)
  clear hG2 hK2 hR2 hk2 s0 k0
  go_wp2_with fail
  go_loopw [20] (fun v wr => MkRel w B g q gf a c R v wr) (fun v _ => 3 - (intOf v).toNat)
  case atStart => exact ⟨0, f2, fa2, V2, rfl, by decide, HG2.out, HK2.out, HR2.out, HKd2.out⟩
  case round =>
    obtain ⟨i, fr, far, Vr_, rfl, hi3, hG, hK, hRr, hkr⟩ := hrel
    have HGr := Lib.hid hG
    have HKr := Lib.hid hK
    have HRr := Lib.hid hRr
    have HKdr := Lib.hid hkr
    clear hG hK hRr hkr
    by_cases hi : i = 3
    · subst hi
      have HE : Hid (SrcF w B g gf a c R (.returned (.tuple #[])) wr) := Lib.hid (by rw [show R = ⟨0, fr, Vr_⟩ from HRr.out]; exact SrcF.good HKr.out HGr.out.sf)
      clear hi3
      go_wp2
      go_end0
      exact HE.out
    have c0 := HGr.out.sf.box.cell 0 rfl
    rw [HKdr.out] at c0
    obtain rfl | rfl | rfl : i = 0 ∨ i = 1 ∨ i = 2 := itj5 hi3 hi
    · clear hi hi3
      have HRi : Hid (R = nxN Vr_ fun x V => mkV 2 (setE fr 0 x) V) := Lib.hid HRr.out
      have s0 := HGr.out.src.cell 0 rfl
      go_upto_region 10 with fail
      clear s0 c0
      have HGd := Lib.hid HGr.out.drew
      have HKd' := Lib.hid (HKr.out.trans (Kept.drew (fun k => k = g) wr) (fun _ _ h => .inl h))
      have HS := Lib.hid HGd.out.sat
      refine MixP.region [] [0, 1, 2, 4, 5, 3, 6, 7] [3] (Sat [(⟨q, 0, none⟩, .pointer (some ⟨g, 0, none⟩))]) (SrcD w B g gf a c R) (by kernel_rfl) (by kernel_rfl) HS.out ?_ ?_
      · intro ch a' w' h
        exact h
      refine MixP.step (o := ⟨_, _, _, _, _, _⟩) rfl ?_
      refine Mx.quietly rfl ?_; go_big_quiet_want; go_big_quiet_op; go_big_quiet_on; refine Mx.done ?_
      refine Mx.nil ?_
      refine MixP.step (o := ⟨_, _, _, _, _, _⟩) rfl ?_
      refine Mx.quietly rfl ?_; go_big_quiet_want; go_big_quiet_op; go_big_quiet_on; refine Mx.done ?_
      refine Mx.nil ?_
      refine MixP.step rfl ?_
      refine Mx.mid q 0 [.pointer (some ⟨g, 0, none⟩)] _ (by kernel_rfl) (by kernel_rfl) (by kernel_rfl) Try.underlying72 rfl (by kernel_rfl) (fun w' h => mid1 (h 0 _ _ rfl)) ?_
      go_big_quiet_want; go_big_quiet_op; go_big_quiet_on; refine Mx.done ?_
      refine Mx.nil ?_
      refine MixP.step (o := ⟨_, _, _, _, _, _⟩) rfl ?_
      refine Mx.quietly rfl ?_; go_big_quiet_want; go_big_quiet_op; go_big_quiet_on; refine Mx.done ?_
      refine Mx.nil ?_
      refine MixP.step (o := ⟨_, _, _, _, _, _⟩) rfl ?_
      refine Mx.quietly rfl ?_; go_big_quiet_want; go_big_quiet_op; go_big_quiet_on; refine Mx.done ?_
      refine Mx.nil ?_
      have HNi := Lib.hid (num_step HGd.out HKd'.out (R := R) HRi.out)
      refine MixP.panicky rfl (by kernel_rfl) (by kernel_rfl) rfl ?_
      go_wp2_with fail
      refine HNi.out.mono ?_
      rintro e w3 (⟨rfl, hbad⟩ | ⟨x, V3, rfl, hx, hG3, hK3, hR3, hl3, hf3⟩)
      · exact ⟨rfl, hbad⟩
      have c3 := hG3.sf.box.cell 10 rfl
      have b3 := hG3.sf.box.free 10
      have HG4 := Lib.hid (hG3.put (f' := { fr with e0 := (x : Int) }) (fa' := far) 10 (.int .i64 (x : Int)) rfl ⟨hG3.sf.own.data, hG3.sf.own.cid, hG3.sf.own.spans⟩)
      have HK4 := Lib.hid (kept_put hK3 10 (.int .i64 (x : Int)))
      have HR4 : Hid (R = mkV 2 { fr with e0 := (x : Int) } V3) := Lib.hid hR3
      have hs3 := hG3.sat
      have hs4 := HG4.out.sat
      clear hG3 hK3 hR3 hl3 hf3 hx
      go_wp2_with fail
      (try (refine ⟨hs3, ?_⟩))
      refine MixP.step (o := ⟨_, _, _, _, _, _⟩) rfl ?_
      refine Mx.quietly rfl ?_; go_big_quiet_want; go_big_quiet_op; go_big_quiet_on; refine Mx.done ?_
      refine Mx.nil ?_
      refine MixP.step rfl ?_
      refine Mx.loudly (by kernel_rfl) (by kernel_rfl) ?_
      go_wp2_with fail
      (try (refine ⟨hs4, ?_⟩))
      refine Mx.nil ?_
      refine MixP.nil ?_
      obtain ⟨w4, hw4⟩ : ∃ w4, w4 = w3.setCell ⟨gf, 10, none⟩ (.int .i64 (x : Int)) := ⟨_, rfl⟩
      rw [← hw4] at HG4 HK4 ⊢
      clear hw4 c3 b3 hs3 hs4
      go_wp2_with fail
      go_roundw
      case rel => exact ⟨1, _, far, V3, rfl, by decide, HG4.out, HK4.out, HR4.out, HKdr.out⟩
      case measure => decide
    · clear hi hi3
      have HRi : Hid (R = nxN Vr_ fun x V => mkV 1 (setE fr 1 x) V) := Lib.hid HRr.out
      have s0 := HGr.out.src.cell 0 rfl
      go_upto_region 10 with fail
      clear s0 c0
      have HGd := Lib.hid HGr.out.drew
      have HKd' := Lib.hid (HKr.out.trans (Kept.drew (fun k => k = g) wr) (fun _ _ h => .inl h))
      have HS := Lib.hid HGd.out.sat
      refine MixP.region [] [0, 1, 2, 4, 5, 3, 6, 7] [3] (Sat [(⟨q, 0, none⟩, .pointer (some ⟨g, 0, none⟩))]) (SrcD w B g gf a c R) (by kernel_rfl) (by kernel_rfl) HS.out ?_ ?_
      · intro ch a' w' h
        exact h
      refine MixP.step (o := ⟨_, _, _, _, _, _⟩) rfl ?_
      refine Mx.quietly rfl ?_; go_big_quiet_want; go_big_quiet_op; go_big_quiet_on; refine Mx.done ?_
      refine Mx.nil ?_
      refine MixP.step (o := ⟨_, _, _, _, _, _⟩) rfl ?_
      refine Mx.quietly rfl ?_; go_big_quiet_want; go_big_quiet_op; go_big_quiet_on; refine Mx.done ?_
      refine Mx.nil ?_
      refine MixP.step rfl ?_
      refine Mx.mid q 0 [.pointer (some ⟨g, 0, none⟩)] _ (by kernel_rfl) (by kernel_rfl) (by kernel_rfl) Try.underlying72 rfl (by kernel_rfl) (fun w' h => mid1 (h 0 _ _ rfl)) ?_
      go_big_quiet_want; go_big_quiet_op; go_big_quiet_on; refine Mx.done ?_
      refine Mx.nil ?_
      refine MixP.step (o := ⟨_, _, _, _, _, _⟩) rfl ?_
      refine Mx.quietly rfl ?_; go_big_quiet_want; go_big_quiet_op; go_big_quiet_on; refine Mx.done ?_
      refine Mx.nil ?_
      refine MixP.step (o := ⟨_, _, _, _, _, _⟩) rfl ?_
      refine Mx.quietly rfl ?_; go_big_quiet_want; go_big_quiet_op; go_big_quiet_on; refine Mx.done ?_
      refine Mx.nil ?_
      have HNi := Lib.hid (num_step HGd.out HKd'.out (R := R) HRi.out)
      refine MixP.panicky rfl (by kernel_rfl) (by kernel_rfl) rfl ?_
      go_wp2_with fail
      refine HNi.out.mono ?_
      rintro e w3 (⟨rfl, hbad⟩ | ⟨x, V3, rfl, hx, hG3, hK3, hR3, hl3, hf3⟩)
      · exact ⟨rfl, hbad⟩
      have c3 := hG3.sf.box.cell 11 rfl
      have b3 := hG3.sf.box.free 11
      have HG4 := Lib.hid (hG3.put (f' := { fr with e1 := (x : Int) }) (fa' := far) 11 (.int .i64 (x : Int)) rfl ⟨hG3.sf.own.data, hG3.sf.own.cid, hG3.sf.own.spans⟩)
      have HK4 := Lib.hid (kept_put hK3 11 (.int .i64 (x : Int)))
      have HR4 : Hid (R = mkV 1 { fr with e1 := (x : Int) } V3) := Lib.hid hR3
      have hs3 := hG3.sat
      have hs4 := HG4.out.sat
      clear hG3 hK3 hR3 hl3 hf3 hx
      go_wp2_with fail
      (try (refine ⟨hs3, ?_⟩))
      refine MixP.step (o := ⟨_, _, _, _, _, _⟩) rfl ?_
      refine Mx.quietly rfl ?_; go_big_quiet_want; go_big_quiet_op; go_big_quiet_on; refine Mx.done ?_
      refine Mx.nil ?_
      refine MixP.step rfl ?_
      refine Mx.loudly (by kernel_rfl) (by kernel_rfl) ?_
      go_wp2_with fail
      (try (refine ⟨hs4, ?_⟩))
      refine Mx.nil ?_
      refine MixP.nil ?_
      obtain ⟨w4, hw4⟩ : ∃ w4, w4 = w3.setCell ⟨gf, 11, none⟩ (.int .i64 (x : Int)) := ⟨_, rfl⟩
      rw [← hw4] at HG4 HK4 ⊢
      clear hw4 c3 b3 hs3 hs4
      go_wp2_with fail
      go_roundw
      case rel => exact ⟨2, _, far, V3, rfl, by decide, HG4.out, HK4.out, HR4.out, HKdr.out⟩
      case measure => decide
    · clear hi hi3
      have HRi : Hid (R = nxN Vr_ fun x V => mkV 0 (setE fr 2 x) V) := Lib.hid HRr.out
      have s0 := HGr.out.src.cell 0 rfl
      go_upto_region 10 with fail
      clear s0 c0
      have HGd := Lib.hid HGr.out.drew
      have HKd' := Lib.hid (HKr.out.trans (Kept.drew (fun k => k = g) wr) (fun _ _ h => .inl h))
      have HS := Lib.hid HGd.out.sat
      refine MixP.region [] [0, 1, 2, 4, 5, 3, 6, 7] [3] (Sat [(⟨q, 0, none⟩, .pointer (some ⟨g, 0, none⟩))]) (SrcD w B g gf a c R) (by kernel_rfl) (by kernel_rfl) HS.out ?_ ?_
      · intro ch a' w' h
        exact h
      refine MixP.step (o := ⟨_, _, _, _, _, _⟩) rfl ?_
      refine Mx.quietly rfl ?_; go_big_quiet_want; go_big_quiet_op; go_big_quiet_on; refine Mx.done ?_
      refine Mx.nil ?_
      refine MixP.step (o := ⟨_, _, _, _, _, _⟩) rfl ?_
      refine Mx.quietly rfl ?_; go_big_quiet_want; go_big_quiet_op; go_big_quiet_on; refine Mx.done ?_
      refine Mx.nil ?_
      refine MixP.step rfl ?_
      refine Mx.mid q 0 [.pointer (some ⟨g, 0, none⟩)] _ (by kernel_rfl) (by kernel_rfl) (by kernel_rfl) Try.underlying72 rfl (by kernel_rfl) (fun w' h => mid1 (h 0 _ _ rfl)) ?_
      go_big_quiet_want; go_big_quiet_op; go_big_quiet_on; refine Mx.done ?_
      refine Mx.nil ?_
      refine MixP.step (o := ⟨_, _, _, _, _, _⟩) rfl ?_
      refine Mx.quietly rfl ?_; go_big_quiet_want; go_big_quiet_op; go_big_quiet_on; refine Mx.done ?_
      refine Mx.nil ?_
      refine MixP.step (o := ⟨_, _, _, _, _, _⟩) rfl ?_
      refine Mx.quietly rfl ?_; go_big_quiet_want; go_big_quiet_op; go_big_quiet_on; refine Mx.done ?_
      refine Mx.nil ?_
      have HNi := Lib.hid (num_step HGd.out HKd'.out (R := R) HRi.out)
      refine MixP.panicky rfl (by kernel_rfl) (by kernel_rfl) rfl ?_
      go_wp2_with fail
      refine HNi.out.mono ?_
      rintro e w3 (⟨rfl, hbad⟩ | ⟨x, V3, rfl, hx, hG3, hK3, hR3, hl3, hf3⟩)
      · exact ⟨rfl, hbad⟩
      have c3 := hG3.sf.box.cell 12 rfl
      have b3 := hG3.sf.box.free 12
      have HG4 := Lib.hid (hG3.put (f' := { fr with e2 := (x : Int) }) (fa' := far) 12 (.int .i64 (x : Int)) rfl ⟨hG3.sf.own.data, hG3.sf.own.cid, hG3.sf.own.spans⟩)
      have HK4 := Lib.hid (kept_put hK3 12 (.int .i64 (x : Int)))
      have HR4 : Hid (R = mkV 0 { fr with e2 := (x : Int) } V3) := Lib.hid hR3
      have hs3 := hG3.sat
      have hs4 := HG4.out.sat
      clear hG3 hK3 hR3 hl3 hf3 hx
      go_wp2_with fail
      (try (refine ⟨hs3, ?_⟩))
      refine MixP.step (o := ⟨_, _, _, _, _, _⟩) rfl ?_
      refine Mx.quietly rfl ?_; go_big_quiet_want; go_big_quiet_op; go_big_quiet_on; refine Mx.done ?_
      refine Mx.nil ?_
      refine MixP.step rfl ?_
      refine Mx.loudly (by kernel_rfl) (by kernel_rfl) ?_
      go_wp2_with fail
      (try (refine ⟨hs4, ?_⟩))
      refine Mx.nil ?_
      refine MixP.nil ?_
      obtain ⟨w4, hw4⟩ : ∃ w4, w4 = w3.setCell ⟨gf, 12, none⟩ (.int .i64 (x : Int)) := ⟨_, rfl⟩
      rw [← hw4] at HG4 HK4 ⊢
      clear hw4 c3 b3 hs3 hs4
      go_wp2_with fail
      go_roundw
      case rel => exact ⟨3, _, far, V3, rfl, by decide, HG4.out, HK4.out, HR4.out, HKdr.out⟩
      case measure => decide
theorem kno_cases {k : Int} (hk : knoF k = true) (h0 : k ≠ 0) (h8 : k ≠ 8) : k = 1 ∨ k = 2 ∨ k = 3 ∨ k = 4 ∨ k = 5 ∨ k = 6 ∨ k = 7 ∨ k = 16 ∨ k = 17 ∨ k = 18 ∨ k = 19 ∨ k = 20 ∨ k = 21 ∨ k = 22 ∨ k = 23 ∨ k = 24 ∨ k = 25 ∨ k = 26 ∨ k = 27 ∨ k = 28 ∨ k = 29 ∨ k = 30 := by
  unfold knoF at hk
  simp only [Bool.or_eq_true, Bool.and_eq_true, decide_eq_true_eq] at hk
  omega
theorem sitems_any (w : World) {B g gf : Nat} {a : Option Addr} {c : Nat} {V : Vr} {f : Fm} {fa : FA} (h : SF w B g gf a c V f fa) (hB : B ≤ w.heap.size) (hl : V.l.length ≤ 140737488351232) (hk : knoF f.kind = true) (h0 : f.kind ≠ 0) (h8 : f.kind ≠ 8) (hs : f.spans = []) (ha : fa.sa = none) :
    Calls Try.prog 54 #[.agg #[.pointer (some ⟨g, 0, none⟩)], .pointer (some ⟨gf, 0, none⟩)] w (SrcF w B g gf a c (itemsV V f)) := by
  rcases kno_cases hk h0 h8 with e | e | e | e | e | e | e | e | e | e | e | e | e | e | e | e | e | e | e | e | e | e
  · exact sitems_1 w h hB hl e
  · exact sitems_2 w h hB hl e hs ha
  · exact sitems_3 w h hB hl e hs ha
  · exact sitems_4 w h hB hl e
  · exact sitems_5 w h hB hl e
  · exact sitems_6 w h hB hl e
  · exact sitems_7 w h hB hl e
  · exact sitems_16 w h hB hl e
  · exact sitems_17 w h hB hl e
  · exact sitems_18 w h hB hl e
  · exact sitems_19 w h hB hl e
  · exact sitems_20 w h hB hl e
  · exact sitems_21 w h hB hl e
  · exact sitems_22 w h hB hl e
  · exact sitems_23 w h hB hl e
  · exact sitems_24 w h hB hl e
  · exact sitems_25 w h hB hl e
  · exact sitems_26 w h hB hl e
  · exact sitems_27 w h hB hl e
  · exact sitems_28 w h hB hl e
  · exact sitems_29 w h hB hl e
  · exact sitems_30 w h hB hl e

end Go.Proofs.Ytppkilkfmclpkaa

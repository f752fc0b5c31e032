/- Contract of frame's source: stream (printed by gen_frsrcst.py). No condition but the sizes. -/
import Derived.Test.YtppkilkfmclpkaaFrSt
namespace Go.Proofs.Ytppkilkfmclpkaa
open Go.RowKit

/-- a stream frame's data, of n bytes -/
def stm3 (V : Vr) (f : Fm) (k n : Nat) : Rs := nxB V n fun d V => ⟨0, { f with data := d, fin := decide (k % 2 = 1) }, V⟩
def stm2 (V : Vr) (f : Fm) (k : Nat) : Rs := if k / 2 % 2 = 1 then nxN V fun n V => stm3 V f k n else stm3 V f k (leftV V)
def stm1 (V : Vr) (f : Fm) (k : Nat) : Rs := if k / 4 % 2 = 1 then nxN V fun t V => stm2 V { f with at_ := t } k else stm2 V f k
/-- a stream frame's items -/
def stmV (V : Vr) (f : Fm) (k : Nat) : Rs := nxN V fun i V => stm1 V { f with id := i } k
theorem and4 : ∀ k : Nat, k < 16 → Go.bits .and .i64 (k : Int) 4 = if k / 4 % 2 = 1 then 4 else 0 := by decide +kernel
theorem and2 : ∀ k : Nat, k < 16 → Go.bits .and .i64 (k : Int) 2 = if k / 2 % 2 = 1 then 2 else 0 := by decide +kernel
theorem and1 : ∀ k : Nat, k < 16 → (Go.bits .and .i64 (k : Int) 1 = 1 ∧ k % 2 = 1) ∨ (Go.bits .and .i64 (k : Int) 1 = 0 ∧ ¬ k % 2 = 1) := by decide +kernel

set_option maxRecDepth 100000 in
theorem sstream_000 (w : World) {B g gf : Nat} {a : Option Addr} {c : Nat} {V : Vr} {f : Fm} {fa : FA} (h : SF w B g gf a c V f fa) (hB : B ≤ w.heap.size) (hl : V.l.length ≤ 140737488351232) (k : Nat) (hk : k < 16) (h4 : ¬ k / 4 % 2 = 1) (h2 : ¬ k / 2 % 2 = 1) (h1 : Go.bits .and .i64 (k : Int) 1 = 0 ∧ ¬ k % 2 = 1) :
    Calls Try.prog 53 #[.agg #[.pointer (some ⟨g, 0, none⟩)], .pointer (some ⟨gf, 0, none⟩), .int .i64 (k : Int)] w (SrcF w B g gf a c (stmV V f k)) := by
  have HG := Lib.hid (SG.new h)
  have HK := Lib.hid (kept_first (w := w) (g := g) (gf := gf) (.cells #[.pointer (some ⟨g, 0, none⟩)] 72))
  have HB := Lib.hid hB
  have HL := Lib.hid hl
  obtain ⟨q, hq⟩ : ∃ q, q = w.heap.size := ⟨_, rfl⟩
  obtain ⟨w1, hw1⟩ : ∃ w1, w1 = w.alloc (.cells #[.pointer (some ⟨g, 0, none⟩)] 72) := ⟨_, rfl⟩
  rw [← hq, ← hw1] at HG
  rw [← hw1] at HK
  obtain ⟨R, hR⟩ : ∃ R, R = stmV V f k := ⟨_, rfl⟩
  rw [← hR]
  have HN := Lib.hid (num_step HG.out HK.out (k := fun i V => stm1 V { f with id := i } k) hR)
  have x4 := and4 k hk
  have x2 := and2 k hk
  rw [if_neg h4] at x4
  rw [if_neg h2] at x2
  have x1 := h1.1
  have H1 := Lib.hid h1.2
  have H2 := Lib.hid h2
  have H4 := Lib.hid h4
  obtain ⟨K, hK⟩ : ∃ K : Int, K = (k : Int) := ⟨_, rfl⟩
  rw [← hK] at x4 x2 x1 ⊢
  clear h hB hl hR h1 h2 h4 hk hK
  have s0 := HG.out.src.cell 0 rfl
  go_enter Try.func53, Try.ntmps53
  go_upto_region 1 with fail
  rw [← hw1, ← hq]
  clear hw1 hq
  go_wp2_with fail
  refine HN.out.mono ?_
  rintro e w2 (⟨rfl, hbad⟩ | ⟨i, V2, rfl, hi, hG2, hK2, hR2, hl2, hf2⟩)
  · exact ⟨rfl, hbad⟩
  have c2 := hG2.sf.box.cell 1 rfl
  have b2 := hG2.sf.box.free 1
  have HG3 := Lib.hid (hG2.put (f' := { f with id := (i : Int) }) (fa' := fa) 1 (.int .i64 (i : Int)) rfl ⟨hG2.sf.own.data, hG2.sf.own.cid, hG2.sf.own.spans⟩)
  have HK3 := Lib.hid (kept_put hK2 1 (.int .i64 (i : Int)))
  have HR3 := Lib.hid hR2
  have HL3 : Hid (V2.l.length ≤ 140737488351232) := Lib.hid (by rw [hl2]; exact HL.out)
  have HF3 := Lib.hid hf2
  clear hG2 hK2 hR2 hl2 hi hf2 s0
  go_upto_region 2 with fail
  obtain ⟨w3, hw3⟩ : ∃ w3, w3 = w2.setCell ⟨gf, 1, none⟩ (.int .i64 (i : Int)) := ⟨_, rfl⟩
  rw [← hw3] at HG3 HK3 ⊢
  clear hw3 c2 b2
  obtain ⟨f3, hf3⟩ : ∃ f3 : Fm, f3 = { f with id := (i : Int) } := ⟨_, rfl⟩
  rw [← hf3] at HG3
  have HR4 : Hid (R = stm1 V2 f3 k) := Lib.hid (by rw [hf3]; exact HR3.out)
  clear hf3 HR3
  have s0 := HG3.out.src.cell 0 rfl
  have HR6 : Hid (R = stm2 V2 f3 k) := Lib.hid (by rw [HR4.out]; unfold stm1; rw [if_neg H4.out])
  go_upto_region 4 with fail
  have HLf := Lib.hid (left_any w3 HG3.out.sf.vb)
  go_wp2_with fail
  refine HLf.out.mono ?_
  rintro e w6 ⟨rfl, hb6⟩
  have HG6 := Lib.hid (HG3.out.below hb6)
  have HK6 := Lib.hid (HK3.out.trans (Kept.of_below (X := fun k => k = g) hb6) (fun _ _ h => .inl h))
  clear hb6 s0
  have s0 := HG6.out.src.cell 0 rfl
  obtain ⟨m, hm⟩ : ∃ m, m = leftV V2 := ⟨_, rfl⟩
  have HR8 : Hid (R = stm3 V2 f3 k m) := Lib.hid (by rw [HR6.out, hm]; unfold stm2; rw [if_neg H2.out])
  rw [← hm]
  clear hm
  go_upto_region 7 with fail
  have s1 := HG6.out.src.cell 0 rfl
  have HT := Lib.hid (take_step HG6.out HK6.out HB.out HL3.out m (show R = nxB _ _ _ from HR8.out))
  go_wp2_with fail
  refine HT.out.mono ?_
  rintro e w8 (⟨rfl, hbad⟩ | ⟨l, V8, ra, rc, rfl, ho8, hG8, hK8, hR8, hl8, hf8, hn8⟩)
  · exact ⟨rfl, hbad⟩
  have c8 := hG8.sf.box.cell 6 rfl
  have b8 := hG8.sf.box.free 6
  have HG9 := Lib.hid (hG8.put (f' := { f3 with data := l }) (fa' := { fa with da := ra, dc := rc }) 6 (.slice ra l.length rc) rfl ⟨ho8, hG8.sf.own.cid, hG8.sf.own.spans⟩)
  have HK9 := Lib.hid (kept_put hK8 6 (.slice ra l.length rc))
  have HR9 : Hid (R = ⟨0, { f3 with data := l, fin := decide (k % 2 = 1) }, V8⟩) := Lib.hid hR8
  clear ho8 hG8 hK8 hR8 hl8 hf8 hn8
  obtain ⟨ln, hln⟩ : ∃ ln, ln = l.length := ⟨_, rfl⟩
  rw [← hln] at HG9 HK9 ⊢
  clear hln
  obtain ⟨w9, hw9⟩ : ∃ w9, w9 = w8.setCell ⟨gf, 6, none⟩ (.slice ra ln rc) := ⟨_, rfl⟩
  have HW9 := Lib.hid hw9
  rw [← hw9] at HG9 HK9
  clear hw9
  have HG10 := Lib.hid (HG9.out.put (f' := { f3 with data := l, fin := false }) (fa' := { fa with da := ra, dc := rc }) 5 (.bool false) rfl ⟨HG9.out.sf.own.data, HG9.out.sf.own.cid, HG9.out.sf.own.spans⟩)
  have HK10 := Lib.hid (kept_put HK9.out 5 (.bool false))
  have c9 := HG9.out.sf.box.cell 5 rfl
  have b9 := HG9.out.sf.box.free 5
  rw [HW9.out] at c9 b9
  go_wp2
  go_end0
  have hE : R = ⟨0, { f3 with data := l, fin := false }, V8⟩ := by rw [HR9.out]; simp [H1.out]
  rw [hE]
  rw [HW9.out] at HK10 HG10
  exact SrcF.good HK10.out HG10.out.sf
set_option maxRecDepth 100000 in
theorem sstream_001 (w : World) {B g gf : Nat} {a : Option Addr} {c : Nat} {V : Vr} {f : Fm} {fa : FA} (h : SF w B g gf a c V f fa) (hB : B ≤ w.heap.size) (hl : V.l.length ≤ 140737488351232) (k : Nat) (hk : k < 16) (h4 : ¬ k / 4 % 2 = 1) (h2 : ¬ k / 2 % 2 = 1) (h1 : Go.bits .and .i64 (k : Int) 1 = 1 ∧ k % 2 = 1) :
    Calls Try.prog 53 #[.agg #[.pointer (some ⟨g, 0, none⟩)], .pointer (some ⟨gf, 0, none⟩), .int .i64 (k : Int)] w (SrcF w B g gf a c (stmV V f k)) := by
  have HG := Lib.hid (SG.new h)
  have HK := Lib.hid (kept_first (w := w) (g := g) (gf := gf) (.cells #[.pointer (some ⟨g, 0, none⟩)] 72))
  have HB := Lib.hid hB
  have HL := Lib.hid hl
  obtain ⟨q, hq⟩ : ∃ q, q = w.heap.size := ⟨_, rfl⟩
  obtain ⟨w1, hw1⟩ : ∃ w1, w1 = w.alloc (.cells #[.pointer (some ⟨g, 0, none⟩)] 72) := ⟨_, rfl⟩
  rw [← hq, ← hw1] at HG
  rw [← hw1] at HK
  obtain ⟨R, hR⟩ : ∃ R, R = stmV V f k := ⟨_, rfl⟩
  rw [← hR]
  have HN := Lib.hid (num_step HG.out HK.out (k := fun i V => stm1 V { f with id := i } k) hR)
  have x4 := and4 k hk
  have x2 := and2 k hk
  rw [if_neg h4] at x4
  rw [if_neg h2] at x2
  have x1 := h1.1
  have H1 := Lib.hid h1.2
  have H2 := Lib.hid h2
  have H4 := Lib.hid h4
  obtain ⟨K, hK⟩ : ∃ K : Int, K = (k : Int) := ⟨_, rfl⟩
  rw [← hK] at x4 x2 x1 ⊢
  clear h hB hl hR h1 h2 h4 hk hK
  have s0 := HG.out.src.cell 0 rfl
  go_enter Try.func53, Try.ntmps53
  go_upto_region 1 with fail
  rw [← hw1, ← hq]
  clear hw1 hq
  go_wp2_with fail
  refine HN.out.mono ?_
  rintro e w2 (⟨rfl, hbad⟩ | ⟨i, V2, rfl, hi, hG2, hK2, hR2, hl2, hf2⟩)
  · exact ⟨rfl, hbad⟩
  have c2 := hG2.sf.box.cell 1 rfl
  have b2 := hG2.sf.box.free 1
  have HG3 := Lib.hid (hG2.put (f' := { f with id := (i : Int) }) (fa' := fa) 1 (.int .i64 (i : Int)) rfl ⟨hG2.sf.own.data, hG2.sf.own.cid, hG2.sf.own.spans⟩)
  have HK3 := Lib.hid (kept_put hK2 1 (.int .i64 (i : Int)))
  have HR3 := Lib.hid hR2
  have HL3 : Hid (V2.l.length ≤ 140737488351232) := Lib.hid (by rw [hl2]; exact HL.out)
  have HF3 := Lib.hid hf2
  clear hG2 hK2 hR2 hl2 hi hf2 s0
  go_upto_region 2 with fail
  obtain ⟨w3, hw3⟩ : ∃ w3, w3 = w2.setCell ⟨gf, 1, none⟩ (.int .i64 (i : Int)) := ⟨_, rfl⟩
  rw [← hw3] at HG3 HK3 ⊢
  clear hw3 c2 b2
  obtain ⟨f3, hf3⟩ : ∃ f3 : Fm, f3 = { f with id := (i : Int) } := ⟨_, rfl⟩
  rw [← hf3] at HG3
  have HR4 : Hid (R = stm1 V2 f3 k) := Lib.hid (by rw [hf3]; exact HR3.out)
  clear hf3 HR3
  have s0 := HG3.out.src.cell 0 rfl
  have HR6 : Hid (R = stm2 V2 f3 k) := Lib.hid (by rw [HR4.out]; unfold stm1; rw [if_neg H4.out])
  go_upto_region 4 with fail
  have HLf := Lib.hid (left_any w3 HG3.out.sf.vb)
  go_wp2_with fail
  refine HLf.out.mono ?_
  rintro e w6 ⟨rfl, hb6⟩
  have HG6 := Lib.hid (HG3.out.below hb6)
  have HK6 := Lib.hid (HK3.out.trans (Kept.of_below (X := fun k => k = g) hb6) (fun _ _ h => .inl h))
  clear hb6 s0
  have s0 := HG6.out.src.cell 0 rfl
  obtain ⟨m, hm⟩ : ∃ m, m = leftV V2 := ⟨_, rfl⟩
  have HR8 : Hid (R = stm3 V2 f3 k m) := Lib.hid (by rw [HR6.out, hm]; unfold stm2; rw [if_neg H2.out])
  rw [← hm]
  clear hm
  go_upto_region 7 with fail
  have s1 := HG6.out.src.cell 0 rfl
  have HT := Lib.hid (take_step HG6.out HK6.out HB.out HL3.out m (show R = nxB _ _ _ from HR8.out))
  go_wp2_with fail
  refine HT.out.mono ?_
  rintro e w8 (⟨rfl, hbad⟩ | ⟨l, V8, ra, rc, rfl, ho8, hG8, hK8, hR8, hl8, hf8, hn8⟩)
  · exact ⟨rfl, hbad⟩
  have c8 := hG8.sf.box.cell 6 rfl
  have b8 := hG8.sf.box.free 6
  have HG9 := Lib.hid (hG8.put (f' := { f3 with data := l }) (fa' := { fa with da := ra, dc := rc }) 6 (.slice ra l.length rc) rfl ⟨ho8, hG8.sf.own.cid, hG8.sf.own.spans⟩)
  have HK9 := Lib.hid (kept_put hK8 6 (.slice ra l.length rc))
  have HR9 : Hid (R = ⟨0, { f3 with data := l, fin := decide (k % 2 = 1) }, V8⟩) := Lib.hid hR8
  clear ho8 hG8 hK8 hR8 hl8 hf8 hn8
  obtain ⟨ln, hln⟩ : ∃ ln, ln = l.length := ⟨_, rfl⟩
  rw [← hln] at HG9 HK9 ⊢
  clear hln
  obtain ⟨w9, hw9⟩ : ∃ w9, w9 = w8.setCell ⟨gf, 6, none⟩ (.slice ra ln rc) := ⟨_, rfl⟩
  have HW9 := Lib.hid hw9
  rw [← hw9] at HG9 HK9
  clear hw9
  have HG10 := Lib.hid (HG9.out.put (f' := { f3 with data := l, fin := true }) (fa' := { fa with da := ra, dc := rc }) 5 (.bool true) rfl ⟨HG9.out.sf.own.data, HG9.out.sf.own.cid, HG9.out.sf.own.spans⟩)
  have HK10 := Lib.hid (kept_put HK9.out 5 (.bool true))
  have c9 := HG9.out.sf.box.cell 5 rfl
  have b9 := HG9.out.sf.box.free 5
  rw [HW9.out] at c9 b9
  go_wp2
  go_end0
  have hE : R = ⟨0, { f3 with data := l, fin := true }, V8⟩ := by rw [HR9.out]; simp [H1.out]
  rw [hE]
  rw [HW9.out] at HK10 HG10
  exact SrcF.good HK10.out HG10.out.sf
set_option maxRecDepth 100000 in
theorem sstream_010 (w : World) {B g gf : Nat} {a : Option Addr} {c : Nat} {V : Vr} {f : Fm} {fa : FA} (h : SF w B g gf a c V f fa) (hB : B ≤ w.heap.size) (hl : V.l.length ≤ 140737488351232) (k : Nat) (hk : k < 16) (h4 : ¬ k / 4 % 2 = 1) (h2 : k / 2 % 2 = 1) (h1 : Go.bits .and .i64 (k : Int) 1 = 0 ∧ ¬ k % 2 = 1) :
    Calls Try.prog 53 #[.agg #[.pointer (some ⟨g, 0, none⟩)], .pointer (some ⟨gf, 0, none⟩), .int .i64 (k : Int)] w (SrcF w B g gf a c (stmV V f k)) := by
  have HG := Lib.hid (SG.new h)
  have HK := Lib.hid (kept_first (w := w) (g := g) (gf := gf) (.cells #[.pointer (some ⟨g, 0, none⟩)] 72))
  have HB := Lib.hid hB
  have HL := Lib.hid hl
  obtain ⟨q, hq⟩ : ∃ q, q = w.heap.size := ⟨_, rfl⟩
  obtain ⟨w1, hw1⟩ : ∃ w1, w1 = w.alloc (.cells #[.pointer (some ⟨g, 0, none⟩)] 72) := ⟨_, rfl⟩
  rw [← hq, ← hw1] at HG
  rw [← hw1] at HK
  obtain ⟨R, hR⟩ : ∃ R, R = stmV V f k := ⟨_, rfl⟩
  rw [← hR]
  have HN := Lib.hid (num_step HG.out HK.out (k := fun i V => stm1 V { f with id := i } k) hR)
  have x4 := and4 k hk
  have x2 := and2 k hk
  rw [if_neg h4] at x4
  rw [if_pos h2] at x2
  have x1 := h1.1
  have H1 := Lib.hid h1.2
  have H2 := Lib.hid h2
  have H4 := Lib.hid h4
  obtain ⟨K, hK⟩ : ∃ K : Int, K = (k : Int) := ⟨_, rfl⟩
  rw [← hK] at x4 x2 x1 ⊢
  clear h hB hl hR h1 h2 h4 hk hK
  have s0 := HG.out.src.cell 0 rfl
  go_enter Try.func53, Try.ntmps53
  go_upto_region 1 with fail
  rw [← hw1, ← hq]
  clear hw1 hq
  go_wp2_with fail
  refine HN.out.mono ?_
  rintro e w2 (⟨rfl, hbad⟩ | ⟨i, V2, rfl, hi, hG2, hK2, hR2, hl2, hf2⟩)
  · exact ⟨rfl, hbad⟩
  have c2 := hG2.sf.box.cell 1 rfl
  have b2 := hG2.sf.box.free 1
  have HG3 := Lib.hid (hG2.put (f' := { f with id := (i : Int) }) (fa' := fa) 1 (.int .i64 (i : Int)) rfl ⟨hG2.sf.own.data, hG2.sf.own.cid, hG2.sf.own.spans⟩)
  have HK3 := Lib.hid (kept_put hK2 1 (.int .i64 (i : Int)))
  have HR3 := Lib.hid hR2
  have HL3 : Hid (V2.l.length ≤ 140737488351232) := Lib.hid (by rw [hl2]; exact HL.out)
  have HF3 := Lib.hid hf2
  clear hG2 hK2 hR2 hl2 hi hf2 s0
  go_upto_region 2 with fail
  obtain ⟨w3, hw3⟩ : ∃ w3, w3 = w2.setCell ⟨gf, 1, none⟩ (.int .i64 (i : Int)) := ⟨_, rfl⟩
  rw [← hw3] at HG3 HK3 ⊢
  clear hw3 c2 b2
  obtain ⟨f3, hf3⟩ : ∃ f3 : Fm, f3 = { f with id := (i : Int) } := ⟨_, rfl⟩
  rw [← hf3] at HG3
  have HR4 : Hid (R = stm1 V2 f3 k) := Lib.hid (by rw [hf3]; exact HR3.out)
  clear hf3 HR3
  have s0 := HG3.out.src.cell 0 rfl
  have HR6 : Hid (R = stm2 V2 f3 k) := Lib.hid (by rw [HR4.out]; unfold stm1; rw [if_neg H4.out])
  go_upto_region 4 with fail
  have HLf := Lib.hid (left_any w3 HG3.out.sf.vb)
  go_wp2_with fail
  refine HLf.out.mono ?_
  rintro e w6 ⟨rfl, hb6⟩
  have HG6 := Lib.hid (HG3.out.below hb6)
  have HK6 := Lib.hid (HK3.out.trans (Kept.of_below (X := fun k => k = g) hb6) (fun _ _ h => .inl h))
  clear hb6 s0
  have s0 := HG6.out.src.cell 0 rfl
  have HR7 : Hid (R = nxN V2 fun n V => stm3 V f3 k n) := Lib.hid (by rw [HR6.out]; unfold stm2; rw [if_pos H2.out])
  have HN3 := Lib.hid (num_step HG6.out HK6.out HR7.out)
  go_wp2_with fail
  refine HN3.out.mono ?_
  rintro e w7 (⟨rfl, hbad⟩ | ⟨m, V7, rfl, hm, hG7, hK7, hR7, hl7, hf7⟩)
  · exact ⟨rfl, hbad⟩
  have HG7 := Lib.hid hG7
  have HK7 := Lib.hid hK7
  have HR8 : Hid (R = stm3 V7 f3 k m) := Lib.hid hR7
  have HL7 : Hid (V7.l.length ≤ 140737488351232) := Lib.hid (by rw [hl7]; exact HL3.out)
  clear hG7 hK7 hR7 hl7 hm hf7 s0
  go_upto_region 7 with fail
  have s1 := HG7.out.src.cell 0 rfl
  have HT := Lib.hid (take_step HG7.out HK7.out HB.out HL7.out m (show R = nxB _ _ _ from HR8.out))
  go_wp2_with fail
  refine HT.out.mono ?_
  rintro e w8 (⟨rfl, hbad⟩ | ⟨l, V8, ra, rc, rfl, ho8, hG8, hK8, hR8, hl8, hf8, hn8⟩)
  · exact ⟨rfl, hbad⟩
  have c8 := hG8.sf.box.cell 6 rfl
  have b8 := hG8.sf.box.free 6
  have HG9 := Lib.hid (hG8.put (f' := { f3 with data := l }) (fa' := { fa with da := ra, dc := rc }) 6 (.slice ra l.length rc) rfl ⟨ho8, hG8.sf.own.cid, hG8.sf.own.spans⟩)
  have HK9 := Lib.hid (kept_put hK8 6 (.slice ra l.length rc))
  have HR9 : Hid (R = ⟨0, { f3 with data := l, fin := decide (k % 2 = 1) }, V8⟩) := Lib.hid hR8
  clear ho8 hG8 hK8 hR8 hl8 hf8 hn8
  obtain ⟨ln, hln⟩ : ∃ ln, ln = l.length := ⟨_, rfl⟩
  rw [← hln] at HG9 HK9 ⊢
  clear hln
  obtain ⟨w9, hw9⟩ : ∃ w9, w9 = w8.setCell ⟨gf, 6, none⟩ (.slice ra ln rc) := ⟨_, rfl⟩
  have HW9 := Lib.hid hw9
  rw [← hw9] at HG9 HK9
  clear hw9
  have HG10 := Lib.hid (HG9.out.put (f' := { f3 with data := l, fin := false }) (fa' := { fa with da := ra, dc := rc }) 5 (.bool false) rfl ⟨HG9.out.sf.own.data, HG9.out.sf.own.cid, HG9.out.sf.own.spans⟩)
  have HK10 := Lib.hid (kept_put HK9.out 5 (.bool false))
  have c9 := HG9.out.sf.box.cell 5 rfl
  have b9 := HG9.out.sf.box.free 5
  rw [HW9.out] at c9 b9
  go_wp2
  go_end0
  have hE : R = ⟨0, { f3 with data := l, fin := false }, V8⟩ := by rw [HR9.out]; simp [H1.out]
  rw [hE]
  rw [HW9.out] at HK10 HG10
  exact SrcF.good HK10.out HG10.out.sf
set_option maxRecDepth 100000 in
theorem sstream_011 (w : World) {B g gf : Nat} {a : Option Addr} {c : Nat} {V : Vr} {f : Fm} {fa : FA} (h : SF w B g gf a c V f fa) (hB : B ≤ w.heap.size) (hl : V.l.length ≤ 140737488351232) (k : Nat) (hk : k < 16) (h4 : ¬ k / 4 % 2 = 1) (h2 : k / 2 % 2 = 1) (h1 : Go.bits .and .i64 (k : Int) 1 = 1 ∧ k % 2 = 1) :
    Calls Try.prog 53 #[.agg #[.pointer (some ⟨g, 0, none⟩)], .pointer (some ⟨gf, 0, none⟩), .int .i64 (k : Int)] w (SrcF w B g gf a c (stmV V f k)) := by
  have HG := Lib.hid (SG.new h)
  have HK := Lib.hid (kept_first (w := w) (g := g) (gf := gf) (.cells #[.pointer (some ⟨g, 0, none⟩)] 72))
  have HB := Lib.hid hB
  have HL := Lib.hid hl
  obtain ⟨q, hq⟩ : ∃ q, q = w.heap.size := ⟨_, rfl⟩
  obtain ⟨w1, hw1⟩ : ∃ w1, w1 = w.alloc (.cells #[.pointer (some ⟨g, 0, none⟩)] 72) := ⟨_, rfl⟩
  rw [← hq, ← hw1] at HG
  rw [← hw1] at HK
  obtain ⟨R, hR⟩ : ∃ R, R = stmV V f k := ⟨_, rfl⟩
  rw [← hR]
  have HN := Lib.hid (num_step HG.out HK.out (k := fun i V => stm1 V { f with id := i } k) hR)
  have x4 := and4 k hk
  have x2 := and2 k hk
  rw [if_neg h4] at x4
  rw [if_pos h2] at x2
  have x1 := h1.1
  have H1 := Lib.hid h1.2
  have H2 := Lib.hid h2
  have H4 := Lib.hid h4
  obtain ⟨K, hK⟩ : ∃ K : Int, K = (k : Int) := ⟨_, rfl⟩
  rw [← hK] at x4 x2 x1 ⊢
  clear h hB hl hR h1 h2 h4 hk hK
  have s0 := HG.out.src.cell 0 rfl
  go_enter Try.func53, Try.ntmps53
  go_upto_region 1 with fail
  rw [← hw1, ← hq]
  clear hw1 hq
  go_wp2_with fail
  refine HN.out.mono ?_
  rintro e w2 (⟨rfl, hbad⟩ | ⟨i, V2, rfl, hi, hG2, hK2, hR2, hl2, hf2⟩)
  · exact ⟨rfl, hbad⟩
  have c2 := hG2.sf.box.cell 1 rfl
  have b2 := hG2.sf.box.free 1
  have HG3 := Lib.hid (hG2.put (f' := { f with id := (i : Int) }) (fa' := fa) 1 (.int .i64 (i : Int)) rfl ⟨hG2.sf.own.data, hG2.sf.own.cid, hG2.sf.own.spans⟩)
  have HK3 := Lib.hid (kept_put hK2 1 (.int .i64 (i : Int)))
  have HR3 := Lib.hid hR2
  have HL3 : Hid (V2.l.length ≤ 140737488351232) := Lib.hid (by rw [hl2]; exact HL.out)
  have HF3 := Lib.hid hf2
  clear hG2 hK2 hR2 hl2 hi hf2 s0
  go_upto_region 2 with fail
  obtain ⟨w3, hw3⟩ : ∃ w3, w3 = w2.setCell ⟨gf, 1, none⟩ (.int .i64 (i : Int)) := ⟨_, rfl⟩
  rw [← hw3] at HG3 HK3 ⊢
  clear hw3 c2 b2
  obtain ⟨f3, hf3⟩ : ∃ f3 : Fm, f3 = { f with id := (i : Int) } := ⟨_, rfl⟩
  rw [← hf3] at HG3
  have HR4 : Hid (R = stm1 V2 f3 k) := Lib.hid (by rw [hf3]; exact HR3.out)
  clear hf3 HR3
  have s0 := HG3.out.src.cell 0 rfl
  have HR6 : Hid (R = stm2 V2 f3 k) := Lib.hid (by rw [HR4.out]; unfold stm1; rw [if_neg H4.out])
  go_upto_region 4 with fail
  have HLf := Lib.hid (left_any w3 HG3.out.sf.vb)
  go_wp2_with fail
  refine HLf.out.mono ?_
  rintro e w6 ⟨rfl, hb6⟩
  have HG6 := Lib.hid (HG3.out.below hb6)
  have HK6 := Lib.hid (HK3.out.trans (Kept.of_below (X := fun k => k = g) hb6) (fun _ _ h => .inl h))
  clear hb6 s0
  have s0 := HG6.out.src.cell 0 rfl
  have HR7 : Hid (R = nxN V2 fun n V => stm3 V f3 k n) := Lib.hid (by rw [HR6.out]; unfold stm2; rw [if_pos H2.out])
  have HN3 := Lib.hid (num_step HG6.out HK6.out HR7.out)
  go_wp2_with fail
  refine HN3.out.mono ?_
  rintro e w7 (⟨rfl, hbad⟩ | ⟨m, V7, rfl, hm, hG7, hK7, hR7, hl7, hf7⟩)
  · exact ⟨rfl, hbad⟩
  have HG7 := Lib.hid hG7
  have HK7 := Lib.hid hK7
  have HR8 : Hid (R = stm3 V7 f3 k m) := Lib.hid hR7
  have HL7 : Hid (V7.l.length ≤ 140737488351232) := Lib.hid (by rw [hl7]; exact HL3.out)
  clear hG7 hK7 hR7 hl7 hm hf7 s0
  go_upto_region 7 with fail
  have s1 := HG7.out.src.cell 0 rfl
  have HT := Lib.hid (take_step HG7.out HK7.out HB.out HL7.out m (show R = nxB _ _ _ from HR8.out))
  go_wp2_with fail
  refine HT.out.mono ?_
  rintro e w8 (⟨rfl, hbad⟩ | ⟨l, V8, ra, rc, rfl, ho8, hG8, hK8, hR8, hl8, hf8, hn8⟩)
  · exact ⟨rfl, hbad⟩
  have c8 := hG8.sf.box.cell 6 rfl
  have b8 := hG8.sf.box.free 6
  have HG9 := Lib.hid (hG8.put (f' := { f3 with data := l }) (fa' := { fa with da := ra, dc := rc }) 6 (.slice ra l.length rc) rfl ⟨ho8, hG8.sf.own.cid, hG8.sf.own.spans⟩)
  have HK9 := Lib.hid (kept_put hK8 6 (.slice ra l.length rc))
  have HR9 : Hid (R = ⟨0, { f3 with data := l, fin := decide (k % 2 = 1) }, V8⟩) := Lib.hid hR8
  clear ho8 hG8 hK8 hR8 hl8 hf8 hn8
  obtain ⟨ln, hln⟩ : ∃ ln, ln = l.length := ⟨_, rfl⟩
  rw [← hln] at HG9 HK9 ⊢
  clear hln
  obtain ⟨w9, hw9⟩ : ∃ w9, w9 = w8.setCell ⟨gf, 6, none⟩ (.slice ra ln rc) := ⟨_, rfl⟩
  have HW9 := Lib.hid hw9
  rw [← hw9] at HG9 HK9
  clear hw9
  have HG10 := Lib.hid (HG9.out.put (f' := { f3 with data := l, fin := true }) (fa' := { fa with da := ra, dc := rc }) 5 (.bool true) rfl ⟨HG9.out.sf.own.data, HG9.out.sf.own.cid, HG9.out.sf.own.spans⟩)
  have HK10 := Lib.hid (kept_put HK9.out 5 (.bool true))
  have c9 := HG9.out.sf.box.cell 5 rfl
  have b9 := HG9.out.sf.box.free 5
  rw [HW9.out] at c9 b9
  go_wp2
  go_end0
  have hE : R = ⟨0, { f3 with data := l, fin := true }, V8⟩ := by rw [HR9.out]; simp [H1.out]
  rw [hE]
  rw [HW9.out] at HK10 HG10
  exact SrcF.good HK10.out HG10.out.sf
set_option maxRecDepth 100000 in
theorem sstream_100 (w : World) {B g gf : Nat} {a : Option Addr} {c : Nat} {V : Vr} {f : Fm} {fa : FA} (h : SF w B g gf a c V f fa) (hB : B ≤ w.heap.size) (hl : V.l.length ≤ 140737488351232) (k : Nat) (hk : k < 16) (h4 : k / 4 % 2 = 1) (h2 : ¬ k / 2 % 2 = 1) (h1 : Go.bits .and .i64 (k : Int) 1 = 0 ∧ ¬ k % 2 = 1) :
    Calls Try.prog 53 #[.agg #[.pointer (some ⟨g, 0, none⟩)], .pointer (some ⟨gf, 0, none⟩), .int .i64 (k : Int)] w (SrcF w B g gf a c (stmV V f k)) := by
  have HG := Lib.hid (SG.new h)
  have HK := Lib.hid (kept_first (w := w) (g := g) (gf := gf) (.cells #[.pointer (some ⟨g, 0, none⟩)] 72))
  have HB := Lib.hid hB
  have HL := Lib.hid hl
  obtain ⟨q, hq⟩ : ∃ q, q = w.heap.size := ⟨_, rfl⟩
  obtain ⟨w1, hw1⟩ : ∃ w1, w1 = w.alloc (.cells #[.pointer (some ⟨g, 0, none⟩)] 72) := ⟨_, rfl⟩
  rw [← hq, ← hw1] at HG
  rw [← hw1] at HK
  obtain ⟨R, hR⟩ : ∃ R, R = stmV V f k := ⟨_, rfl⟩
  rw [← hR]
  have HN := Lib.hid (num_step HG.out HK.out (k := fun i V => stm1 V { f with id := i } k) hR)
  have x4 := and4 k hk
  have x2 := and2 k hk
  rw [if_pos h4] at x4
  rw [if_neg h2] at x2
  have x1 := h1.1
  have H1 := Lib.hid h1.2
  have H2 := Lib.hid h2
  have H4 := Lib.hid h4
  obtain ⟨K, hK⟩ : ∃ K : Int, K = (k : Int) := ⟨_, rfl⟩
  rw [← hK] at x4 x2 x1 ⊢
  clear h hB hl hR h1 h2 h4 hk hK
  have s0 := HG.out.src.cell 0 rfl
  go_enter Try.func53, Try.ntmps53
  go_upto_region 1 with fail
  rw [← hw1, ← hq]
  clear hw1 hq
  go_wp2_with fail
  refine HN.out.mono ?_
  rintro e w2 (⟨rfl, hbad⟩ | ⟨i, V2, rfl, hi, hG2, hK2, hR2, hl2, hf2⟩)
  · exact ⟨rfl, hbad⟩
  have c2 := hG2.sf.box.cell 1 rfl
  have b2 := hG2.sf.box.free 1
  have HG3 := Lib.hid (hG2.put (f' := { f with id := (i : Int) }) (fa' := fa) 1 (.int .i64 (i : Int)) rfl ⟨hG2.sf.own.data, hG2.sf.own.cid, hG2.sf.own.spans⟩)
  have HK3 := Lib.hid (kept_put hK2 1 (.int .i64 (i : Int)))
  have HR3 := Lib.hid hR2
  have HL3 : Hid (V2.l.length ≤ 140737488351232) := Lib.hid (by rw [hl2]; exact HL.out)
  have HF3 := Lib.hid hf2
  clear hG2 hK2 hR2 hl2 hi hf2 s0
  go_upto_region 2 with fail
  obtain ⟨w3, hw3⟩ : ∃ w3, w3 = w2.setCell ⟨gf, 1, none⟩ (.int .i64 (i : Int)) := ⟨_, rfl⟩
  rw [← hw3] at HG3 HK3 ⊢
  clear hw3 c2 b2
  obtain ⟨f3, hf3⟩ : ∃ f3 : Fm, f3 = { f with id := (i : Int) } := ⟨_, rfl⟩
  rw [← hf3] at HG3
  have HR4 : Hid (R = stm1 V2 f3 k) := Lib.hid (by rw [hf3]; exact HR3.out)
  clear hf3 HR3
  have s0 := HG3.out.src.cell 0 rfl
  have HR5 : Hid (R = nxN V2 fun t V => stm2 V { f3 with at_ := t } k) := Lib.hid (by rw [HR4.out]; unfold stm1; rw [if_pos H4.out])
  have HN2 := Lib.hid (num_step HG3.out HK3.out HR5.out)
  go_wp2_with fail
  refine HN2.out.mono ?_
  rintro e w4 (⟨rfl, hbad⟩ | ⟨t, V4, rfl, ht, hG4, hK4, hR4, hl4, hf4⟩)
  · exact ⟨rfl, hbad⟩
  have c4 := hG4.sf.box.cell 2 rfl
  have b4 := hG4.sf.box.free 2
  have HG5 := Lib.hid (hG4.put (f' := { f3 with at_ := (t : Int) }) (fa' := fa) 2 (.int .i64 (t : Int)) rfl ⟨hG4.sf.own.data, hG4.sf.own.cid, hG4.sf.own.spans⟩)
  have HK5 := Lib.hid (kept_put hK4 2 (.int .i64 (t : Int)))
  have HRb := Lib.hid hR4
  have HL5 : Hid (V4.l.length ≤ 140737488351232) := Lib.hid (by rw [hl4]; exact HL3.out)
  have HF5 := Lib.hid hf4
  clear hG4 hK4 hR4 hl4 ht hf4 s0
  go_upto_region 4 with fail
  obtain ⟨w5, hw5⟩ : ∃ w5, w5 = w4.setCell ⟨gf, 2, none⟩ (.int .i64 (t : Int)) := ⟨_, rfl⟩
  rw [← hw5] at HG5 HK5 ⊢
  clear hw5 c4 b4
  obtain ⟨f5, hf5⟩ : ∃ f5 : Fm, f5 = { f3 with at_ := (t : Int) } := ⟨_, rfl⟩
  rw [← hf5] at HG5
  have HR6 : Hid (R = stm2 V4 f5 k) := Lib.hid (by rw [hf5]; exact HRb.out)
  clear hf5 HRb
  have s0 := HG5.out.src.cell 0 rfl
  have HLf := Lib.hid (left_any w5 HG5.out.sf.vb)
  go_wp2_with fail
  refine HLf.out.mono ?_
  rintro e w6 ⟨rfl, hb6⟩
  have HG6 := Lib.hid (HG5.out.below hb6)
  have HK6 := Lib.hid (HK5.out.trans (Kept.of_below (X := fun k => k = g) hb6) (fun _ _ h => .inl h))
  clear hb6 s0
  have s0 := HG6.out.src.cell 0 rfl
  obtain ⟨m, hm⟩ : ∃ m, m = leftV V4 := ⟨_, rfl⟩
  have HR8 : Hid (R = stm3 V4 f5 k m) := Lib.hid (by rw [HR6.out, hm]; unfold stm2; rw [if_neg H2.out])
  rw [← hm]
  clear hm
  go_upto_region 7 with fail
  have s1 := HG6.out.src.cell 0 rfl
  have HT := Lib.hid (take_step HG6.out HK6.out HB.out HL5.out m (show R = nxB _ _ _ from HR8.out))
  go_wp2_with fail
  refine HT.out.mono ?_
  rintro e w8 (⟨rfl, hbad⟩ | ⟨l, V8, ra, rc, rfl, ho8, hG8, hK8, hR8, hl8, hf8, hn8⟩)
  · exact ⟨rfl, hbad⟩
  have c8 := hG8.sf.box.cell 6 rfl
  have b8 := hG8.sf.box.free 6
  have HG9 := Lib.hid (hG8.put (f' := { f5 with data := l }) (fa' := { fa with da := ra, dc := rc }) 6 (.slice ra l.length rc) rfl ⟨ho8, hG8.sf.own.cid, hG8.sf.own.spans⟩)
  have HK9 := Lib.hid (kept_put hK8 6 (.slice ra l.length rc))
  have HR9 : Hid (R = ⟨0, { f5 with data := l, fin := decide (k % 2 = 1) }, V8⟩) := Lib.hid hR8
  clear ho8 hG8 hK8 hR8 hl8 hf8 hn8
  obtain ⟨ln, hln⟩ : ∃ ln, ln = l.length := ⟨_, rfl⟩
  rw [← hln] at HG9 HK9 ⊢
  clear hln
  obtain ⟨w9, hw9⟩ : ∃ w9, w9 = w8.setCell ⟨gf, 6, none⟩ (.slice ra ln rc) := ⟨_, rfl⟩
  have HW9 := Lib.hid hw9
  rw [← hw9] at HG9 HK9
  clear hw9
  have HG10 := Lib.hid (HG9.out.put (f' := { f5 with data := l, fin := false }) (fa' := { fa with da := ra, dc := rc }) 5 (.bool false) rfl ⟨HG9.out.sf.own.data, HG9.out.sf.own.cid, HG9.out.sf.own.spans⟩)
  have HK10 := Lib.hid (kept_put HK9.out 5 (.bool false))
  have c9 := HG9.out.sf.box.cell 5 rfl
  have b9 := HG9.out.sf.box.free 5
  rw [HW9.out] at c9 b9
  go_wp2
  go_end0
  have hE : R = ⟨0, { f5 with data := l, fin := false }, V8⟩ := by rw [HR9.out]; simp [H1.out]
  rw [hE]
  rw [HW9.out] at HK10 HG10
  exact SrcF.good HK10.out HG10.out.sf
set_option maxRecDepth 100000 in
theorem sstream_101 (w : World) {B g gf : Nat} {a : Option Addr} {c : Nat} {V : Vr} {f : Fm} {fa : FA} (h : SF w B g gf a c V f fa) (hB : B ≤ w.heap.size) (hl : V.l.length ≤ 140737488351232) (k : Nat) (hk : k < 16) (h4 : k / 4 % 2 = 1) (h2 : ¬ k / 2 % 2 = 1) (h1 : Go.bits .and .i64 (k : Int) 1 = 1 ∧ k % 2 = 1) :
    Calls Try.prog 53 #[.agg #[.pointer (some ⟨g, 0, none⟩)], .pointer (some ⟨gf, 0, none⟩), .int .i64 (k : Int)] w (SrcF w B g gf a c (stmV V f k)) := by
  have HG := Lib.hid (SG.new h)
  have HK := Lib.hid (kept_first (w := w) (g := g) (gf := gf) (.cells #[.pointer (some ⟨g, 0, none⟩)] 72))
  have HB := Lib.hid hB
  have HL := Lib.hid hl
  obtain ⟨q, hq⟩ : ∃ q, q = w.heap.size := ⟨_, rfl⟩
  obtain ⟨w1, hw1⟩ : ∃ w1, w1 = w.alloc (.cells #[.pointer (some ⟨g, 0, none⟩)] 72) := ⟨_, rfl⟩
  rw [← hq, ← hw1] at HG
  rw [← hw1] at HK
  obtain ⟨R, hR⟩ : ∃ R, R = stmV V f k := ⟨_, rfl⟩
  rw [← hR]
  have HN := Lib.hid (num_step HG.out HK.out (k := fun i V => stm1 V { f with id := i } k) hR)
  have x4 := and4 k hk
  have x2 := and2 k hk
  rw [if_pos h4] at x4
  rw [if_neg h2] at x2
  have x1 := h1.1
  have H1 := Lib.hid h1.2
  have H2 := Lib.hid h2
  have H4 := Lib.hid h4
  obtain ⟨K, hK⟩ : ∃ K : Int, K = (k : Int) := ⟨_, rfl⟩
  rw [← hK] at x4 x2 x1 ⊢
  clear h hB hl hR h1 h2 h4 hk hK
  have s0 := HG.out.src.cell 0 rfl
  go_enter Try.func53, Try.ntmps53
  go_upto_region 1 with fail
  rw [← hw1, ← hq]
  clear hw1 hq
  go_wp2_with fail
  refine HN.out.mono ?_
  rintro e w2 (⟨rfl, hbad⟩ | ⟨i, V2, rfl, hi, hG2, hK2, hR2, hl2, hf2⟩)
  · exact ⟨rfl, hbad⟩
  have c2 := hG2.sf.box.cell 1 rfl
  have b2 := hG2.sf.box.free 1
  have HG3 := Lib.hid (hG2.put (f' := { f with id := (i : Int) }) (fa' := fa) 1 (.int .i64 (i : Int)) rfl ⟨hG2.sf.own.data, hG2.sf.own.cid, hG2.sf.own.spans⟩)
  have HK3 := Lib.hid (kept_put hK2 1 (.int .i64 (i : Int)))
  have HR3 := Lib.hid hR2
  have HL3 : Hid (V2.l.length ≤ 140737488351232) := Lib.hid (by rw [hl2]; exact HL.out)
  have HF3 := Lib.hid hf2
  clear hG2 hK2 hR2 hl2 hi hf2 s0
  go_upto_region 2 with fail
  obtain ⟨w3, hw3⟩ : ∃ w3, w3 = w2.setCell ⟨gf, 1, none⟩ (.int .i64 (i : Int)) := ⟨_, rfl⟩
  rw [← hw3] at HG3 HK3 ⊢
  clear hw3 c2 b2
  obtain ⟨f3, hf3⟩ : ∃ f3 : Fm, f3 = { f with id := (i : Int) } := ⟨_, rfl⟩
  rw [← hf3] at HG3
  have HR4 : Hid (R = stm1 V2 f3 k) := Lib.hid (by rw [hf3]; exact HR3.out)
  clear hf3 HR3
  have s0 := HG3.out.src.cell 0 rfl
  have HR5 : Hid (R = nxN V2 fun t V => stm2 V { f3 with at_ := t } k) := Lib.hid (by rw [HR4.out]; unfold stm1; rw [if_pos H4.out])
  have HN2 := Lib.hid (num_step HG3.out HK3.out HR5.out)
  go_wp2_with fail
  refine HN2.out.mono ?_
  rintro e w4 (⟨rfl, hbad⟩ | ⟨t, V4, rfl, ht, hG4, hK4, hR4, hl4, hf4⟩)
  · exact ⟨rfl, hbad⟩
  have c4 := hG4.sf.box.cell 2 rfl
  have b4 := hG4.sf.box.free 2
  have HG5 := Lib.hid (hG4.put (f' := { f3 with at_ := (t : Int) }) (fa' := fa) 2 (.int .i64 (t : Int)) rfl ⟨hG4.sf.own.data, hG4.sf.own.cid, hG4.sf.own.spans⟩)
  have HK5 := Lib.hid (kept_put hK4 2 (.int .i64 (t : Int)))
  have HRb := Lib.hid hR4
  have HL5 : Hid (V4.l.length ≤ 140737488351232) := Lib.hid (by rw [hl4]; exact HL3.out)
  have HF5 := Lib.hid hf4
  clear hG4 hK4 hR4 hl4 ht hf4 s0
  go_upto_region 4 with fail
  obtain ⟨w5, hw5⟩ : ∃ w5, w5 = w4.setCell ⟨gf, 2, none⟩ (.int .i64 (t : Int)) := ⟨_, rfl⟩
  rw [← hw5] at HG5 HK5 ⊢
  clear hw5 c4 b4
  obtain ⟨f5, hf5⟩ : ∃ f5 : Fm, f5 = { f3 with at_ := (t : Int) } := ⟨_, rfl⟩
  rw [← hf5] at HG5
  have HR6 : Hid (R = stm2 V4 f5 k) := Lib.hid (by rw [hf5]; exact HRb.out)
  clear hf5 HRb
  have s0 := HG5.out.src.cell 0 rfl
  have HLf := Lib.hid (left_any w5 HG5.out.sf.vb)
  go_wp2_with fail
  refine HLf.out.mono ?_
  rintro e w6 ⟨rfl, hb6⟩
  have HG6 := Lib.hid (HG5.out.below hb6)
  have HK6 := Lib.hid (HK5.out.trans (Kept.of_below (X := fun k => k = g) hb6) (fun _ _ h => .inl h))
  clear hb6 s0
  have s0 := HG6.out.src.cell 0 rfl
  obtain ⟨m, hm⟩ : ∃ m, m = leftV V4 := ⟨_, rfl⟩
  have HR8 : Hid (R = stm3 V4 f5 k m) := Lib.hid (by rw [HR6.out, hm]; unfold stm2; rw [if_neg H2.out])
  rw [← hm]
  clear hm
  go_upto_region 7 with fail
  have s1 := HG6.out.src.cell 0 rfl
  have HT := Lib.hid (take_step HG6.out HK6.out HB.out HL5.out m (show R = nxB _ _ _ from HR8.out))
  go_wp2_with fail
  refine HT.out.mono ?_
  rintro e w8 (⟨rfl, hbad⟩ | ⟨l, V8, ra, rc, rfl, ho8, hG8, hK8, hR8, hl8, hf8, hn8⟩)
  · exact ⟨rfl, hbad⟩
  have c8 := hG8.sf.box.cell 6 rfl
  have b8 := hG8.sf.box.free 6
  have HG9 := Lib.hid (hG8.put (f' := { f5 with data := l }) (fa' := { fa with da := ra, dc := rc }) 6 (.slice ra l.length rc) rfl ⟨ho8, hG8.sf.own.cid, hG8.sf.own.spans⟩)
  have HK9 := Lib.hid (kept_put hK8 6 (.slice ra l.length rc))
  have HR9 : Hid (R = ⟨0, { f5 with data := l, fin := decide (k % 2 = 1) }, V8⟩) := Lib.hid hR8
  clear ho8 hG8 hK8 hR8 hl8 hf8 hn8
  obtain ⟨ln, hln⟩ : ∃ ln, ln = l.length := ⟨_, rfl⟩
  rw [← hln] at HG9 HK9 ⊢
  clear hln
  obtain ⟨w9, hw9⟩ : ∃ w9, w9 = w8.setCell ⟨gf, 6, none⟩ (.slice ra ln rc) := ⟨_, rfl⟩
  have HW9 := Lib.hid hw9
  rw [← hw9] at HG9 HK9
  clear hw9
  have HG10 := Lib.hid (HG9.out.put (f' := { f5 with data := l, fin := true }) (fa' := { fa with da := ra, dc := rc }) 5 (.bool true) rfl ⟨HG9.out.sf.own.data, HG9.out.sf.own.cid, HG9.out.sf.own.spans⟩)
  have HK10 := Lib.hid (kept_put HK9.out 5 (.bool true))
  have c9 := HG9.out.sf.box.cell 5 rfl
  have b9 := HG9.out.sf.box.free 5
  rw [HW9.out] at c9 b9
  go_wp2
  go_end0
  have hE : R = ⟨0, { f5 with data := l, fin := true }, V8⟩ := by rw [HR9.out]; simp [H1.out]
  rw [hE]
  rw [HW9.out] at HK10 HG10
  exact SrcF.good HK10.out HG10.out.sf
set_option maxRecDepth 100000 in
theorem sstream_110 (w : World) {B g gf : Nat} {a : Option Addr} {c : Nat} {V : Vr} {f : Fm} {fa : FA} (h : SF w B g gf a c V f fa) (hB : B ≤ w.heap.size) (hl : V.l.length ≤ 140737488351232) (k : Nat) (hk : k < 16) (h4 : k / 4 % 2 = 1) (h2 : k / 2 % 2 = 1) (h1 : Go.bits .and .i64 (k : Int) 1 = 0 ∧ ¬ k % 2 = 1) :
    Calls Try.prog 53 #[.agg #[.pointer (some ⟨g, 0, none⟩)], .pointer (some ⟨gf, 0, none⟩), .int .i64 (k : Int)] w (SrcF w B g gf a c (stmV V f k)) := by
  have HG := Lib.hid (SG.new h)
  have HK := Lib.hid (kept_first (w := w) (g := g) (gf := gf) (.cells #[.pointer (some ⟨g, 0, none⟩)] 72))
  have HB := Lib.hid hB
  have HL := Lib.hid hl
  obtain ⟨q, hq⟩ : ∃ q, q = w.heap.size := ⟨_, rfl⟩
  obtain ⟨w1, hw1⟩ : ∃ w1, w1 = w.alloc (.cells #[.pointer (some ⟨g, 0, none⟩)] 72) := ⟨_, rfl⟩
  rw [← hq, ← hw1] at HG
  rw [← hw1] at HK
  obtain ⟨R, hR⟩ : ∃ R, R = stmV V f k := ⟨_, rfl⟩
  rw [← hR]
  have HN := Lib.hid (num_step HG.out HK.out (k := fun i V => stm1 V { f with id := i } k) hR)
  have x4 := and4 k hk
  have x2 := and2 k hk
  rw [if_pos h4] at x4
  rw [if_pos h2] at x2
  have x1 := h1.1
  have H1 := Lib.hid h1.2
  have H2 := Lib.hid h2
  have H4 := Lib.hid h4
  obtain ⟨K, hK⟩ : ∃ K : Int, K = (k : Int) := ⟨_, rfl⟩
  rw [← hK] at x4 x2 x1 ⊢
  clear h hB hl hR h1 h2 h4 hk hK
  have s0 := HG.out.src.cell 0 rfl
  go_enter Try.func53, Try.ntmps53
  go_upto_region 1 with fail
  rw [← hw1, ← hq]
  clear hw1 hq
  go_wp2_with fail
  refine HN.out.mono ?_
  rintro e w2 (⟨rfl, hbad⟩ | ⟨i, V2, rfl, hi, hG2, hK2, hR2, hl2, hf2⟩)
  · exact ⟨rfl, hbad⟩
  have c2 := hG2.sf.box.cell 1 rfl
  have b2 := hG2.sf.box.free 1
  have HG3 := Lib.hid (hG2.put (f' := { f with id := (i : Int) }) (fa' := fa) 1 (.int .i64 (i : Int)) rfl ⟨hG2.sf.own.data, hG2.sf.own.cid, hG2.sf.own.spans⟩)
  have HK3 := Lib.hid (kept_put hK2 1 (.int .i64 (i : Int)))
  have HR3 := Lib.hid hR2
  have HL3 : Hid (V2.l.length ≤ 140737488351232) := Lib.hid (by rw [hl2]; exact HL.out)
  have HF3 := Lib.hid hf2
  clear hG2 hK2 hR2 hl2 hi hf2 s0
  go_upto_region 2 with fail
  obtain ⟨w3, hw3⟩ : ∃ w3, w3 = w2.setCell ⟨gf, 1, none⟩ (.int .i64 (i : Int)) := ⟨_, rfl⟩
  rw [← hw3] at HG3 HK3 ⊢
  clear hw3 c2 b2
  obtain ⟨f3, hf3⟩ : ∃ f3 : Fm, f3 = { f with id := (i : Int) } := ⟨_, rfl⟩
  rw [← hf3] at HG3
  have HR4 : Hid (R = stm1 V2 f3 k) := Lib.hid (by rw [hf3]; exact HR3.out)
  clear hf3 HR3
  have s0 := HG3.out.src.cell 0 rfl
  have HR5 : Hid (R = nxN V2 fun t V => stm2 V { f3 with at_ := t } k) := Lib.hid (by rw [HR4.out]; unfold stm1; rw [if_pos H4.out])
  have HN2 := Lib.hid (num_step HG3.out HK3.out HR5.out)
  go_wp2_with fail
  refine HN2.out.mono ?_
  rintro e w4 (⟨rfl, hbad⟩ | ⟨t, V4, rfl, ht, hG4, hK4, hR4, hl4, hf4⟩)
  · exact ⟨rfl, hbad⟩
  have c4 := hG4.sf.box.cell 2 rfl
  have b4 := hG4.sf.box.free 2
  have HG5 := Lib.hid (hG4.put (f' := { f3 with at_ := (t : Int) }) (fa' := fa) 2 (.int .i64 (t : Int)) rfl ⟨hG4.sf.own.data, hG4.sf.own.cid, hG4.sf.own.spans⟩)
  have HK5 := Lib.hid (kept_put hK4 2 (.int .i64 (t : Int)))
  have HRb := Lib.hid hR4
  have HL5 : Hid (V4.l.length ≤ 140737488351232) := Lib.hid (by rw [hl4]; exact HL3.out)
  have HF5 := Lib.hid hf4
  clear hG4 hK4 hR4 hl4 ht hf4 s0
  go_upto_region 4 with fail
  obtain ⟨w5, hw5⟩ : ∃ w5, w5 = w4.setCell ⟨gf, 2, none⟩ (.int .i64 (t : Int)) := ⟨_, rfl⟩
  rw [← hw5] at HG5 HK5 ⊢
  clear hw5 c4 b4
  obtain ⟨f5, hf5⟩ : ∃ f5 : Fm, f5 = { f3 with at_ := (t : Int) } := ⟨_, rfl⟩
  rw [← hf5] at HG5
  have HR6 : Hid (R = stm2 V4 f5 k) := Lib.hid (by rw [hf5]; exact HRb.out)
  clear hf5 HRb
  have s0 := HG5.out.src.cell 0 rfl
  have HLf := Lib.hid (left_any w5 HG5.out.sf.vb)
  go_wp2_with fail
  refine HLf.out.mono ?_
  rintro e w6 ⟨rfl, hb6⟩
  have HG6 := Lib.hid (HG5.out.below hb6)
  have HK6 := Lib.hid (HK5.out.trans (Kept.of_below (X := fun k => k = g) hb6) (fun _ _ h => .inl h))
  clear hb6 s0
  have s0 := HG6.out.src.cell 0 rfl
  have HR7 : Hid (R = nxN V4 fun n V => stm3 V f5 k n) := Lib.hid (by rw [HR6.out]; unfold stm2; rw [if_pos H2.out])
  have HN3 := Lib.hid (num_step HG6.out HK6.out HR7.out)
  go_wp2_with fail
  refine HN3.out.mono ?_
  rintro e w7 (⟨rfl, hbad⟩ | ⟨m, V7, rfl, hm, hG7, hK7, hR7, hl7, hf7⟩)
  · exact ⟨rfl, hbad⟩
  have HG7 := Lib.hid hG7
  have HK7 := Lib.hid hK7
  have HR8 : Hid (R = stm3 V7 f5 k m) := Lib.hid hR7
  have HL7 : Hid (V7.l.length ≤ 140737488351232) := Lib.hid (by rw [hl7]; exact HL5.out)
  clear hG7 hK7 hR7 hl7 hm hf7 s0
  go_upto_region 7 with fail
  have s1 := HG7.out.src.cell 0 rfl
  have HT := Lib.hid (take_step HG7.out HK7.out HB.out HL7.out m (show R = nxB _ _ _ from HR8.out))
  go_wp2_with fail
  refine HT.out.mono ?_
  rintro e w8 (⟨rfl, hbad⟩ | ⟨l, V8, ra, rc, rfl, ho8, hG8, hK8, hR8, hl8, hf8, hn8⟩)
  · exact ⟨rfl, hbad⟩
  have c8 := hG8.sf.box.cell 6 rfl
  have b8 := hG8.sf.box.free 6
  have HG9 := Lib.hid (hG8.put (f' := { f5 with data := l }) (fa' := { fa with da := ra, dc := rc }) 6 (.slice ra l.length rc) rfl ⟨ho8, hG8.sf.own.cid, hG8.sf.own.spans⟩)
  have HK9 := Lib.hid (kept_put hK8 6 (.slice ra l.length rc))
  have HR9 : Hid (R = ⟨0, { f5 with data := l, fin := decide (k % 2 = 1) }, V8⟩) := Lib.hid hR8
  clear ho8 hG8 hK8 hR8 hl8 hf8 hn8
  obtain ⟨ln, hln⟩ : ∃ ln, ln = l.length := ⟨_, rfl⟩
  rw [← hln] at HG9 HK9 ⊢
  clear hln
  obtain ⟨w9, hw9⟩ : ∃ w9, w9 = w8.setCell ⟨gf, 6, none⟩ (.slice ra ln rc) := ⟨_, rfl⟩
  have HW9 := Lib.hid hw9
  rw [← hw9] at HG9 HK9
  clear hw9
  have HG10 := Lib.hid (HG9.out.put (f' := { f5 with data := l, fin := false }) (fa' := { fa with da := ra, dc := rc }) 5 (.bool false) rfl ⟨HG9.out.sf.own.data, HG9.out.sf.own.cid, HG9.out.sf.own.spans⟩)
  have HK10 := Lib.hid (kept_put HK9.out 5 (.bool false))
  have c9 := HG9.out.sf.box.cell 5 rfl
  have b9 := HG9.out.sf.box.free 5
  rw [HW9.out] at c9 b9
  go_wp2
  go_end0
  have hE : R = ⟨0, { f5 with data := l, fin := false }, V8⟩ := by rw [HR9.out]; simp [H1.out]
  rw [hE]
  rw [HW9.out] at HK10 HG10
  exact SrcF.good HK10.out HG10.out.sf
set_option maxRecDepth 100000 in
theorem sstream_111 (w : World) {B g gf : Nat} {a : Option Addr} {c : Nat} {V : Vr} {f : Fm} {fa : FA} (h : SF w B g gf a c V f fa) (hB : B ≤ w.heap.size) (hl : V.l.length ≤ 140737488351232) (k : Nat) (hk : k < 16) (h4 : k / 4 % 2 = 1) (h2 : k / 2 % 2 = 1) (h1 : Go.bits .and .i64 (k : Int) 1 = 1 ∧ k % 2 = 1) :
    Calls Try.prog 53 #[.agg #[.pointer (some ⟨g, 0, none⟩)], .pointer (some ⟨gf, 0, none⟩), .int .i64 (k : Int)] w (SrcF w B g gf a c (stmV V f k)) := by
  have HG := Lib.hid (SG.new h)
  have HK := Lib.hid (kept_first (w := w) (g := g) (gf := gf) (.cells #[.pointer (some ⟨g, 0, none⟩)] 72))
  have HB := Lib.hid hB
  have HL := Lib.hid hl
  obtain ⟨q, hq⟩ : ∃ q, q = w.heap.size := ⟨_, rfl⟩
  obtain ⟨w1, hw1⟩ : ∃ w1, w1 = w.alloc (.cells #[.pointer (some ⟨g, 0, none⟩)] 72) := ⟨_, rfl⟩
  rw [← hq, ← hw1] at HG
  rw [← hw1] at HK
  obtain ⟨R, hR⟩ : ∃ R, R = stmV V f k := ⟨_, rfl⟩
  rw [← hR]
  have HN := Lib.hid (num_step HG.out HK.out (k := fun i V => stm1 V { f with id := i } k) hR)
  have x4 := and4 k hk
  have x2 := and2 k hk
  rw [if_pos h4] at x4
  rw [if_pos h2] at x2
  have x1 := h1.1
  have H1 := Lib.hid h1.2
  have H2 := Lib.hid h2
  have H4 := Lib.hid h4
  obtain ⟨K, hK⟩ : ∃ K : Int, K = (k : Int) := ⟨_, rfl⟩
  rw [← hK] at x4 x2 x1 ⊢
  clear h hB hl hR h1 h2 h4 hk hK
  have s0 := HG.out.src.cell 0 rfl
  go_enter Try.func53, Try.ntmps53
  go_upto_region 1 with fail
  rw [← hw1, ← hq]
  clear hw1 hq
  go_wp2_with fail
  refine HN.out.mono ?_
  rintro e w2 (⟨rfl, hbad⟩ | ⟨i, V2, rfl, hi, hG2, hK2, hR2, hl2, hf2⟩)
  · exact ⟨rfl, hbad⟩
  have c2 := hG2.sf.box.cell 1 rfl
  have b2 := hG2.sf.box.free 1
  have HG3 := Lib.hid (hG2.put (f' := { f with id := (i : Int) }) (fa' := fa) 1 (.int .i64 (i : Int)) rfl ⟨hG2.sf.own.data, hG2.sf.own.cid, hG2.sf.own.spans⟩)
  have HK3 := Lib.hid (kept_put hK2 1 (.int .i64 (i : Int)))
  have HR3 := Lib.hid hR2
  have HL3 : Hid (V2.l.length ≤ 140737488351232) := Lib.hid (by rw [hl2]; exact HL.out)
  have HF3 := Lib.hid hf2
  clear hG2 hK2 hR2 hl2 hi hf2 s0
  go_upto_region 2 with fail
  obtain ⟨w3, hw3⟩ : ∃ w3, w3 = w2.setCell ⟨gf, 1, none⟩ (.int .i64 (i : Int)) := ⟨_, rfl⟩
  rw [← hw3] at HG3 HK3 ⊢
  clear hw3 c2 b2
  obtain ⟨f3, hf3⟩ : ∃ f3 : Fm, f3 = { f with id := (i : Int) } := ⟨_, rfl⟩
  rw [← hf3] at HG3
  have HR4 : Hid (R = stm1 V2 f3 k) := Lib.hid (by rw [hf3]; exact HR3.out)
  clear hf3 HR3
  have s0 := HG3.out.src.cell 0 rfl
  have HR5 : Hid (R = nxN V2 fun t V => stm2 V { f3 with at_ := t } k) := Lib.hid (by rw [HR4.out]; unfold stm1; rw [if_pos H4.out])
  have HN2 := Lib.hid (num_step HG3.out HK3.out HR5.out)
  go_wp2_with fail
  refine HN2.out.mono ?_
  rintro e w4 (⟨rfl, hbad⟩ | ⟨t, V4, rfl, ht, hG4, hK4, hR4, hl4, hf4⟩)
  · exact ⟨rfl, hbad⟩
  have c4 := hG4.sf.box.cell 2 rfl
  have b4 := hG4.sf.box.free 2
  have HG5 := Lib.hid (hG4.put (f' := { f3 with at_ := (t : Int) }) (fa' := fa) 2 (.int .i64 (t : Int)) rfl ⟨hG4.sf.own.data, hG4.sf.own.cid, hG4.sf.own.spans⟩)
  have HK5 := Lib.hid (kept_put hK4 2 (.int .i64 (t : Int)))
  have HRb := Lib.hid hR4
  have HL5 : Hid (V4.l.length ≤ 140737488351232) := Lib.hid (by rw [hl4]; exact HL3.out)
  have HF5 := Lib.hid hf4
  clear hG4 hK4 hR4 hl4 ht hf4 s0
  go_upto_region 4 with fail
  obtain ⟨w5, hw5⟩ : ∃ w5, w5 = w4.setCell ⟨gf, 2, none⟩ (.int .i64 (t : Int)) := ⟨_, rfl⟩
  rw [← hw5] at HG5 HK5 ⊢
  clear hw5 c4 b4
  obtain ⟨f5, hf5⟩ : ∃ f5 : Fm, f5 = { f3 with at_ := (t : Int) } := ⟨_, rfl⟩
  rw [← hf5] at HG5
  have HR6 : Hid (R = stm2 V4 f5 k) := Lib.hid (by rw [hf5]; exact HRb.out)
  clear hf5 HRb
  have s0 := HG5.out.src.cell 0 rfl
  have HLf := Lib.hid (left_any w5 HG5.out.sf.vb)
  go_wp2_with fail
  refine HLf.out.mono ?_
  rintro e w6 ⟨rfl, hb6⟩
  have HG6 := Lib.hid (HG5.out.below hb6)
  have HK6 := Lib.hid (HK5.out.trans (Kept.of_below (X := fun k => k = g) hb6) (fun _ _ h => .inl h))
  clear hb6 s0
  have s0 := HG6.out.src.cell 0 rfl
  have HR7 : Hid (R = nxN V4 fun n V => stm3 V f5 k n) := Lib.hid (by rw [HR6.out]; unfold stm2; rw [if_pos H2.out])
  have HN3 := Lib.hid (num_step HG6.out HK6.out HR7.out)
  go_wp2_with fail
  refine HN3.out.mono ?_
  rintro e w7 (⟨rfl, hbad⟩ | ⟨m, V7, rfl, hm, hG7, hK7, hR7, hl7, hf7⟩)
  · exact ⟨rfl, hbad⟩
  have HG7 := Lib.hid hG7
  have HK7 := Lib.hid hK7
  have HR8 : Hid (R = stm3 V7 f5 k m) := Lib.hid hR7
  have HL7 : Hid (V7.l.length ≤ 140737488351232) := Lib.hid (by rw [hl7]; exact HL5.out)
  clear hG7 hK7 hR7 hl7 hm hf7 s0
  go_upto_region 7 with fail
  have s1 := HG7.out.src.cell 0 rfl
  have HT := Lib.hid (take_step HG7.out HK7.out HB.out HL7.out m (show R = nxB _ _ _ from HR8.out))
  go_wp2_with fail
  refine HT.out.mono ?_
  rintro e w8 (⟨rfl, hbad⟩ | ⟨l, V8, ra, rc, rfl, ho8, hG8, hK8, hR8, hl8, hf8, hn8⟩)
  · exact ⟨rfl, hbad⟩
  have c8 := hG8.sf.box.cell 6 rfl
  have b8 := hG8.sf.box.free 6
  have HG9 := Lib.hid (hG8.put (f' := { f5 with data := l }) (fa' := { fa with da := ra, dc := rc }) 6 (.slice ra l.length rc) rfl ⟨ho8, hG8.sf.own.cid, hG8.sf.own.spans⟩)
  have HK9 := Lib.hid (kept_put hK8 6 (.slice ra l.length rc))
  have HR9 : Hid (R = ⟨0, { f5 with data := l, fin := decide (k % 2 = 1) }, V8⟩) := Lib.hid hR8
  clear ho8 hG8 hK8 hR8 hl8 hf8 hn8
  obtain ⟨ln, hln⟩ : ∃ ln, ln = l.length := ⟨_, rfl⟩
  rw [← hln] at HG9 HK9 ⊢
  clear hln
  obtain ⟨w9, hw9⟩ : ∃ w9, w9 = w8.setCell ⟨gf, 6, none⟩ (.slice ra ln rc) := ⟨_, rfl⟩
  have HW9 := Lib.hid hw9
  rw [← hw9] at HG9 HK9
  clear hw9
  have HG10 := Lib.hid (HG9.out.put (f' := { f5 with data := l, fin := true }) (fa' := { fa with da := ra, dc := rc }) 5 (.bool true) rfl ⟨HG9.out.sf.own.data, HG9.out.sf.own.cid, HG9.out.sf.own.spans⟩)
  have HK10 := Lib.hid (kept_put HK9.out 5 (.bool true))
  have c9 := HG9.out.sf.box.cell 5 rfl
  have b9 := HG9.out.sf.box.free 5
  rw [HW9.out] at c9 b9
  go_wp2
  go_end0
  have hE : R = ⟨0, { f5 with data := l, fin := true }, V8⟩ := by rw [HR9.out]; simp [H1.out]
  rw [hE]
  rw [HW9.out] at HK10 HG10
  exact SrcF.good HK10.out HG10.out.sf
theorem sstream_any (w : World) {B g gf : Nat} {a : Option Addr} {c : Nat} {V : Vr} {f : Fm} {fa : FA} (h : SF w B g gf a c V f fa) (hB : B ≤ w.heap.size) (hl : V.l.length ≤ 140737488351232) (k : Nat) (hk : k < 16) :
    Calls Try.prog 53 #[.agg #[.pointer (some ⟨g, 0, none⟩)], .pointer (some ⟨gf, 0, none⟩), .int .i64 (k : Int)] w (SrcF w B g gf a c (stmV V f k)) := by
  by_cases h4 : k / 4 % 2 = 1
  · by_cases h2 : k / 2 % 2 = 1
    · rcases and1 k hk with h1 | h1
      · exact sstream_111 w h hB hl k hk h4 h2 h1
      · exact sstream_110 w h hB hl k hk h4 h2 h1
    · rcases and1 k hk with h1 | h1
      · exact sstream_101 w h hB hl k hk h4 h2 h1
      · exact sstream_100 w h hB hl k hk h4 h2 h1
  · by_cases h2 : k / 2 % 2 = 1
    · rcases and1 k hk with h1 | h1
      · exact sstream_011 w h hB hl k hk h4 h2 h1
      · exact sstream_010 w h hB hl k hk h4 h2 h1
    · rcases and1 k hk with h1 | h1
      · exact sstream_001 w h hB hl k hk h4 h2 h1
      · exact sstream_000 w h hB hl k hk h4 h2 h1
end Go.Proofs.Ytppkilkfmclpkaa

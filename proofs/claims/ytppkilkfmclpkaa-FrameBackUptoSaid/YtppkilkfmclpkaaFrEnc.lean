/- Contract of frame.Encode (printed by gen_frenc.py). No condition but the sizes. -/
import Derived.Test.YtppkilkfmclpkaaFrSpans
namespace Go.Proofs.Ytppkilkfmclpkaa
open Go.RowKit

def txtB (f : Fm) : List UInt8 := vl f.data.length ++ f.data
/-- a frame's bytes behind its kind -/
def itmB (f : Fm) : List UInt8 :=
  if f.kind = 2 then ackB f
  else if f.kind = 3 then ackB f ++ nB [f.e0, f.e1, f.e2]
  else if f.kind = 4 then nB [f.id, f.code, f.n]
  else if f.kind = 5 then nB [f.id, f.code]
  else if f.kind = 6 then nB [f.at_] ++ txtB f
  else if f.kind = 7 then txtB f
  else if f.kind = 17 ∨ f.kind = 21 then nB [f.id, f.n]
  else if f.kind = 24 then nB [f.n, f.at_] ++ ([UInt8.ofNat f.cid.length] ++ (f.cid ++ f.data))
  else if f.kind = 26 ∨ f.kind = 27 then f.data
  else if f.kind = 28 then nB [f.code, f.n] ++ txtB f
  else if f.kind = 29 then nB [f.code] ++ txtB f
  else if f.kind = 1 ∨ f.kind = 30 then []
  else nB [f.n]
def encB (f : Fm) : List UInt8 := if f.kind = 0 then List.replicate f.n.toNat 0 else if f.kind = 8 then stmB f else nB [f.kind] ++ itmB f
def encF (f : Fm) : List UInt8 × Int := if chkF f = 0 then (encB f, 0) else ([], chkF f)
theorem chk0 {f : Fm} (h : chkF f = 0) : knoF f.kind = true ∧ f.data.length ≤ 16384 ∧ rightV f = true := by
  unfold chkF at h
  split at h
  · cases h
  · rename_i h1
    split at h
    · cases h
    · rename_i h2
      split at h
      · cases h
      · rename_i h3
        exact ⟨by simpa using h1, by omega, by simpa using h3⟩
theorem len_nums {b : List UInt8} {zs : List Int} {m k : Nat} (h : b.length ≤ m) (hk : k = m + zs.length * 8) : (b ++ nB zs).length ≤ k := by
  have := nB_len zs
  rw [List.length_append]; omega
theorem len_app {b c : List UInt8} {m n k : Nat} (h : b.length ≤ m) (hc : c.length ≤ n) (hk : k = m + n) : (b ++ c).length ≤ k := by rw [List.length_append]; omega
theorem le_big {n m : Nat} (h : n ≤ m) (hm : m ≤ 100000000) : n ≤ 1000000000 ∧ n ≤ 900000000 ∧ n ≤ 100000000 := by omega
/-- a writer that has just been made -/
theorem ES.start {w : World} {xb : Nat} {f : Fm} {a : FA} (hx : Has w xb 26 (fcells f a)) (hf : FIn w f a) (hl : FLow w.heap.size a) : ES (w.alloc (.cells #[.slice none 0 0] 59)) w.heap.size none xb f a (w.alloc (.cells #[.slice none 0 0] 59)) [] none 0 := by
  have hal : Below w.heap.size w (w.alloc (.cells #[.slice none 0 0] 59)) := alB w _
  refine ⟨⟨Has.new _ _ _, World.ownsRow_nil _ _ _ _⟩, hx.kept (X := none') (Kept.of_below hal) (fun h => h), hf.below hal, hl, by have := hx.lt; omega, fun ⟨_, h, _⟩ => (by cases h), Kept.refl _ _, fun k ⟨_, h, _⟩ => (by cases h)⟩
theorem FLow.mono {g g' : Nat} {a : FA} (h : FLow g a) (hg : g ≤ g') : FLow g' a := fun k hk => by have := h k hk; omega
/-- what Encode gives back out of the writer -/
theorem ES.ret {w w4 w' : World} {g : Nat} {xb : Nat} {f : Fm} {a : FA} {b : List UInt8} {ba : Option Addr} {bc : Nat} (h : ES w4 g none xb f a w' b ba bc) (hb : Below w.heap.size w w4) (hg : w.heap.size ≤ g) {r : List UInt8 × Int} (hr : r = (b, 0)) {n : Nat} (hn : n = b.length) : RetBE w.heap.size w r (.returned (.tuple #[.slice ba n bc, .int .i64 0])) w' := by
  subst hr hn
  exact ⟨ba, bc, rfl, own_mono h.wb.row (by omega), hb.trans (h.kept.below hb.size (fun k e => by
    rcases e with e | ⟨_, e, _⟩
    · omega
    · cases e))⟩
theorem ES.spans {w0 : World} {g : Nat} {ba0 : Option Addr} {xb : Nat} {f : Fm} {a : FA} {w : World} {b : List UInt8} {ba : Option Addr} {bc : Nat} (h : ES w0 g ba0 xb f a w b ba bc) (hb : b.length ≤ 100000000) (hs : rspV f.spans = true) (hd : numB f.delay = true) :
    Calls Try.prog 30 #[.pointer (some ⟨g, 0, none⟩), .agg (fcells f a).toArray] w (ESR w0 g ba0 xb f a (b ++ ackB f)) :=
  (spans_any w h.wb h.inn h.low hb hs hd).mono fun _ _ hr => h.step hr
theorem ES.strm {w0 : World} {g : Nat} {ba0 : Option Addr} {xb : Nat} {f : Fm} {a : FA} {w : World} {b : List UInt8} {ba : Option Addr} {bc : Nat} (h : ES w0 g ba0 xb f a w b ba bc) (hd : f.data.length ≤ 70000) (hb : b.length ≤ 100000000) (hi : numB f.id = true) (ht : numB f.at_ = true) :
    Calls Try.prog 32 #[.pointer (some ⟨g, 0, none⟩), .agg (fcells f a).toArray] w (ESR w0 g ba0 xb f a (b ++ stmB f)) :=
  (stream_any w h.wb h.inn h.low hd hb hi ht).mono fun _ _ hr => h.step hr
theorem ES.ecn {w0 : World} {g : Nat} {ba0 : Option Addr} {xb : Nat} {f : Fm} {a : FA} {w : World} {b : List UInt8} {ba : Option Addr} {bc : Nat} (h : ES w0 g ba0 xb f a w b ba bc) (hb : b.length ≤ 1000000000) (h0 : numB f.e0 = true) (h1 : numB f.e1 = true) (h2 : numB f.e2 = true) :
    Calls Try.prog 29 #[.pointer (some ⟨g, 0, none⟩), .slice (some ⟨xb, 10, none⟩) 3 3] w (ESR w0 g ba0 xb f a (b ++ nB [f.e0, f.e1, f.e2])) := by
  refine (nums_any w h.wb (n := 3) (c := 3) (a := some ⟨xb, 10, none⟩) (zs := [f.e0, f.e1, f.e2]) ⟨rfl, Nat.le_refl _, by decide, by simp, fun _ => ⟨xb, 10, rfl, fun j hj => ?_⟩⟩ (fun k ⟨ad, e1, e2⟩ => ?_) (fun k ⟨ad, e1, e2⟩ => ?_) (by decide) hb (fun z hz => ?_)).mono fun e w' hr => h.step hr
  · match j, hj with
    | 0, _ => exact h.box.cell 10 rfl
    | 1, _ => exact h.box.cell 11 rfl
    | 2, _ => exact h.box.cell 12 rfl
  · cases e1
    have e2 : xb = k := e2
    subst e2
    exact ⟨h.xg, h.xba⟩
  · cases e1
    have e2 : xb = k := e2
    subst e2
    exact h.box.lt
  · unfold numB at h0 h1 h2
    simp at h0 h1 h2
    simp only [List.mem_cons, List.not_mem_nil, or_false] at hz
    rcases hz with rfl | rfl | rfl
    · exact h0
    · exact h1
    · exact h2
theorem ackB_len (f : Fm) (h : f.spans.length ≤ 64) : (ackB f).length ≤ 1100 := by
  unfold ackB
  split
  · have h2 := gps_len f.spans (f.spans.length - 1)
    rw [List.length_append]
    have h3 : ∀ x : Sn, (nB [x.to_, f.delay, (f.spans.length : Int) - 1, x.to_ - x.from_]).length ≤ 32 := fun x => nB_len _
    have h4 := h3 ‹_›
    omega
  · simp
set_option maxRecDepth 100000 in
set_option maxHeartbeats 4000000 in
theorem enc_bad (w : World) {f : Fm} {a : FA} (h : FIn w f a) (hc : chkF f ≠ 0) : Calls Try.prog 12 #[.agg (fcells f a).toArray] w (RetBE w.heap.size w ([], chkF f)) := by
  obtain ⟨w2, hw2⟩ : ∃ w2, w2 = w.alloc (.cells (fcells f a).toArray 26) := ⟨_, rfl⟩
  have hB : Below w.heap.size w w2 := by rw [hw2]; exact alB w _
  obtain ⟨xb, hxb⟩ : ∃ xb, xb = w.heap.size := ⟨_, rfl⟩
  have HG : Hid (Has w2 xb 26 (fcells f a)) := Lib.hid (by rw [hw2, hxb]; exact Has.new _ _ _)
  have HC := Lib.hid (checkF_any w2 (h.below hB))
  obtain ⟨R, hR⟩ : ∃ R, R = chkF f := ⟨_, rfl⟩
  rw [← hR] at HC hc ⊢
  clear hR h
  obtain ⟨k, i, t, n, c, fi, dt, ci, sp, dl, e0, e1, e2⟩ := f
  obtain ⟨da, dc, ca, cc, sa, sc⟩ := a
  obtain ⟨dn, hdn⟩ : ∃ dn, dn = dt.length := ⟨_, rfl⟩
  obtain ⟨cn, hcn⟩ : ∃ cn, cn = ci.length := ⟨_, rfl⟩
  obtain ⟨sn, hsn⟩ : ∃ sn, sn = sp.length := ⟨_, rfl⟩
  have hf : fcells ⟨k, i, t, n, c, fi, dt, ci, sp, dl, e0, e1, e2⟩ ⟨da, dc, ca, cc, sa, sc⟩ = [.int .i64 k, .int .i64 i, .int .i64 t, .int .i64 n, .int .i64 c, .bool fi, .slice da dn dc, .slice ca cn cc, .slice sa sn sc, .int .i64 dl, .int .i64 e0, .int .i64 e1, .int .i64 e2] := by rw [hdn, hcn, hsn]; rfl
  rw [hf] at HG HC hw2 ⊢
  have HB := Lib.hid hB
  replace hw2 : w2 = w.alloc (.cells #[.int .i64 k, .int .i64 i, .int .i64 t, .int .i64 n, .int .i64 c, .bool fi, .slice da dn dc, .slice ca cn cc, .slice sa sn sc, .int .i64 dl, .int .i64 e0, .int .i64 e1, .int .i64 e2] 26) := hw2
  have hz : (R == 0) = false := by simpa using hc
  clear hf hdn hcn hsn hB hc
  go_enter Try.func12, Try.ntmps12
  go_upto_region 1 with fail
  rw [← hw2, ← hxb]
  clear hw2 hxb
  have g0 := HG.out.cell 0 rfl
  have g1 := HG.out.cell 1 rfl
  have g2 := HG.out.cell 2 rfl
  have g3 := HG.out.cell 3 rfl
  have g4 := HG.out.cell 4 rfl
  have g5 := HG.out.cell 5 rfl
  have g6 := HG.out.cell 6 rfl
  have g7 := HG.out.cell 7 rfl
  have g8 := HG.out.cell 8 rfl
  have g9 := HG.out.cell 9 rfl
  have g10 := HG.out.cell 10 rfl
  have g11 := HG.out.cell 11 rfl
  have g12 := HG.out.cell 12 rfl
  go_wp2_with fail
  refine HC.out.mono ?_
  rintro e w3 ⟨rfl, hb3⟩
  have HB3 := Lib.hid (HB.out.trans (hb3.mono HB.out.size))
  clear hb3
  go_wp2
  go_ret2
  exact ⟨none, 0, rfl, World.ownsRow_nil _ _ _ _, HB3.out⟩

set_option maxRecDepth 100000 in
set_option maxHeartbeats 4000000 in
theorem enc_1 (w : World) (i t n c : Int) (fi : Bool) (dt ci : List UInt8) (sp : List Sn) (dl e0 e1 e2 : Int) (da : Option Addr) (dc : Nat) (ca : Option Addr) (cc : Nat) (sa : Option Addr) (sc : Nat) (h : FIn w ⟨1, i, t, n, c, fi, dt, ci, sp, dl, e0, e1, e2⟩ ⟨da, dc, ca, cc, sa, sc⟩) (hl : FLow w.heap.size ⟨da, dc, ca, cc, sa, sc⟩) (hc : chkF ⟨1, i, t, n, c, fi, dt, ci, sp, dl, e0, e1, e2⟩ = 0) :
    Calls Try.prog 12 #[.agg (fcells ⟨1, i, t, n, c, fi, dt, ci, sp, dl, e0, e1, e2⟩ ⟨da, dc, ca, cc, sa, sc⟩).toArray] w (RetBE w.heap.size w (encB ⟨1, i, t, n, c, fi, dt, ci, sp, dl, e0, e1, e2⟩, 0)) := by
  obtain ⟨_, hd, hr⟩ := chk0 hc
  have hr : true = true := hr
  have hd : dt.length ≤ 16384 := hd
  obtain ⟨R, hR⟩ : ∃ R, R = encB ⟨1, i, t, n, c, fi, dt, ci, sp, dl, e0, e1, e2⟩ := ⟨_, rfl⟩
  obtain ⟨dn, hdn⟩ : ∃ dn, dn = dt.length := ⟨_, rfl⟩
  obtain ⟨cn, hcn⟩ : ∃ cn, cn = ci.length := ⟨_, rfl⟩
  obtain ⟨sn, hsn⟩ : ∃ sn, sn = sp.length := ⟨_, rfl⟩
  have hf : fcells ⟨1, i, t, n, c, fi, dt, ci, sp, dl, e0, e1, e2⟩ ⟨da, dc, ca, cc, sa, sc⟩ = [.int .i64 1, .int .i64 i, .int .i64 t, .int .i64 n, .int .i64 c, .bool fi, .slice da dn dc, .slice ca cn cc, .slice sa sn sc, .int .i64 dl, .int .i64 e0, .int .i64 e1, .int .i64 e2] := by rw [hdn, hcn, hsn]; rfl
  obtain ⟨w2, hw2⟩ : ∃ w2, w2 = w.alloc (.cells #[.int .i64 1, .int .i64 i, .int .i64 t, .int .i64 n, .int .i64 c, .bool fi, .slice da dn dc, .slice ca cn cc, .slice sa sn sc, .int .i64 dl, .int .i64 e0, .int .i64 e1, .int .i64 e2] 26) := ⟨_, rfl⟩
  have hB : Below w.heap.size w w2 := by rw [hw2]; exact alB w _
  obtain ⟨xb, hxb⟩ : ∃ xb, xb = w.heap.size := ⟨_, rfl⟩
  have hG : Has w2 xb 26 [.int .i64 1, .int .i64 i, .int .i64 t, .int .i64 n, .int .i64 c, .bool fi, .slice da dn dc, .slice ca cn cc, .slice sa sn sc, .int .i64 dl, .int .i64 e0, .int .i64 e1, .int .i64 e2] := by rw [hw2, hxb]; exact Has.new _ _ _
  have HG := Lib.hid hG
  have hC := checkF_any w2 (h.below hB)
  rw [hc, hf] at hC
  have HC := Lib.hid hC
  have HSt : Hid (∀ {w3 : World}, Below w2.heap.size w2 w3 → ES (w3.alloc (.cells #[.slice none 0 0] 59)) w3.heap.size none xb ⟨1, i, t, n, c, fi, dt, ci, sp, dl, e0, e1, e2⟩ ⟨da, dc, ca, cc, sa, sc⟩ (w3.alloc (.cells #[.slice none 0 0] 59)) [] none 0) := Lib.hid (fun hb => ES.start (by rw [hf]; exact HG.out.kept (X := none') (Kept.of_below hb) (fun h => h)) ((h.below hB).below hb) (hl.mono (by have := hB.size; have := hb.size; omega)))
  have HCs : Hid (∀ {w4 w' : World} {g : Nat} {b' : List UInt8} {ba' : Option Addr} {bc' : Nat}, ES w4 g none xb ⟨1, i, t, n, c, fi, dt, ci, sp, dl, e0, e1, e2⟩ ⟨da, dc, ca, cc, sa, sc⟩ w' b' ba' bc' → Has w' xb 26 [.int .i64 1, .int .i64 i, .int .i64 t, .int .i64 n, .int .i64 c, .bool fi, .slice da dn dc, .slice ca cn cc, .slice sa sn sc, .int .i64 dl, .int .i64 e0, .int .i64 e1, .int .i64 e2]) := Lib.hid (fun h => by rw [← hf]; exact h.box)
  have HTx : Hid (∀ {w4 w' : World} {g : Nat} {b' : List UInt8} {ba' : Option Addr} {bc' : Nat}, ES w4 g none xb ⟨1, i, t, n, c, fi, dt, ci, sp, dl, e0, e1, e2⟩ ⟨da, dc, ca, cc, sa, sc⟩ w' b' ba' bc' → b'.length ≤ 900000000 → Calls Try.prog 31 #[.pointer (some ⟨g, 0, none⟩), .slice da dn dc] w' (ESR w4 g none xb ⟨1, i, t, n, c, fi, dt, ci, sp, dl, e0, e1, e2⟩ ⟨da, dc, ca, cc, sa, sc⟩ (b' ++ (vl dt.length ++ dt)))) := Lib.hid (fun h hl => by rw [hdn]; exact h.data (Nat.le_trans hd (by decide)) hl)
  rw [← hR, hf]
  have HR := Lib.hid hR
  have HB := Lib.hid hB
  have HD := Lib.hid hd
  have HDn := Lib.hid hdn
  have HCn := Lib.hid hcn
  have HSn := Lib.hid hsn
  have HF := Lib.hid hf
  clear hR hf hdn hcn hsn hB hG hC h hl hd
  go_enter Try.func12, Try.ntmps12
  go_upto_region 1 with fail
  rw [← hw2, ← hxb]
  clear hw2 hxb
  have g0 := HG.out.cell 0 rfl
  have g1 := HG.out.cell 1 rfl
  have g2 := HG.out.cell 2 rfl
  have g3 := HG.out.cell 3 rfl
  have g4 := HG.out.cell 4 rfl
  have g5 := HG.out.cell 5 rfl
  have g6 := HG.out.cell 6 rfl
  have g7 := HG.out.cell 7 rfl
  have g8 := HG.out.cell 8 rfl
  have g9 := HG.out.cell 9 rfl
  have g10 := HG.out.cell 10 rfl
  have g11 := HG.out.cell 11 rfl
  have g12 := HG.out.cell 12 rfl
  go_upto_region 4 with (refine HC.out.mono ?_; rintro e w3 ⟨rfl, hb3⟩)
  obtain ⟨g, hg⟩ : ∃ g, g = w3.heap.size := ⟨_, rfl⟩
  obtain ⟨w4, hw4⟩ : ∃ w4, w4 = w3.alloc (.cells #[.slice none 0 0] 59) := ⟨_, rfl⟩
  have HE0 := Lib.hid (HSt.out hb3)
  rw [← hw4, ← hg] at HE0
  have HB4 : Hid (Below w.heap.size w w4) := Lib.hid (by rw [hw4]; exact (HB.out.trans (hb3.mono HB.out.size)).alloc (by have := HB.out.size; have := hb3.size; omega) _)
  have HG4 : Hid (w.heap.size ≤ g) := Lib.hid (by rw [hg]; have := HB.out.size; have := hb3.size; omega)
  clear hb3 g0 g1 g2 g3 g4 g5 g6 g7 g8 g9 g10 g11 g12
  go_upto_region 5 with fail
  rw [← hw4, ← hg]
  clear hw4 hg
  have HL0 : Hid (([] : List UInt8).length ≤ 0) := Lib.hid (Nat.le_refl _)
  have H1 := Lib.hid (HE0.out.nums1 1 (le_big HL0.out (by decide)).1 rfl)
  have g0 := (HCs.out HE0.out).cell 0 rfl
  have g1 := (HCs.out HE0.out).cell 1 rfl
  have g2 := (HCs.out HE0.out).cell 2 rfl
  have g3 := (HCs.out HE0.out).cell 3 rfl
  have g4 := (HCs.out HE0.out).cell 4 rfl
  have g5 := (HCs.out HE0.out).cell 5 rfl
  have g6 := (HCs.out HE0.out).cell 6 rfl
  have g7 := (HCs.out HE0.out).cell 7 rfl
  have g8 := (HCs.out HE0.out).cell 8 rfl
  have g9 := (HCs.out HE0.out).cell 9 rfl
  have g10 := (HCs.out HE0.out).cell 10 rfl
  have g11 := (HCs.out HE0.out).cell 11 rfl
  have g12 := (HCs.out HE0.out).cell 12 rfl
  go_wp2_with fail
  refine H1.out.mono ?_
  rintro e v1 ⟨rfl, ba1, bc1, hE⟩
  have HE1 := Lib.hid hE
  have HL1 : Hid (([] ++ nB [1]).length ≤ 8) := Lib.hid (len_nums HL0.out rfl)
  clear hE g0 g1 g2 g3 g4 g5 g6 g7 g8 g9 g10 g11 g12
  obtain ⟨bb, hbb⟩ : ∃ bb, bb = ([] ++ nB [1]) := ⟨_, rfl⟩
  rw [← hbb] at HE1
  have HBb := Lib.hid hbb
  clear hbb
  have q0 := HE1.out.wb.has.cell 0 rfl
  have g0 := (HCs.out HE1.out).cell 0 rfl
  have g1 := (HCs.out HE1.out).cell 1 rfl
  have g2 := (HCs.out HE1.out).cell 2 rfl
  have g3 := (HCs.out HE1.out).cell 3 rfl
  have g4 := (HCs.out HE1.out).cell 4 rfl
  have g5 := (HCs.out HE1.out).cell 5 rfl
  have g6 := (HCs.out HE1.out).cell 6 rfl
  have g7 := (HCs.out HE1.out).cell 7 rfl
  have g8 := (HCs.out HE1.out).cell 8 rfl
  have g9 := (HCs.out HE1.out).cell 9 rfl
  have g10 := (HCs.out HE1.out).cell 10 rfl
  have g11 := (HCs.out HE1.out).cell 11 rfl
  have g12 := (HCs.out HE1.out).cell 12 rfl
  go_wp2
  go_ret2
  exact HE1.out.ret HB4.out HG4.out (by rw [HR.out, HBb.out]; simp [encB, itmB]) rfl

set_option maxRecDepth 100000 in
set_option maxHeartbeats 4000000 in
theorem enc_2 (w : World) (i t n c : Int) (fi : Bool) (dt ci : List UInt8) (sp : List Sn) (dl e0 e1 e2 : Int) (da : Option Addr) (dc : Nat) (ca : Option Addr) (cc : Nat) (sa : Option Addr) (sc : Nat) (h : FIn w ⟨2, i, t, n, c, fi, dt, ci, sp, dl, e0, e1, e2⟩ ⟨da, dc, ca, cc, sa, sc⟩) (hl : FLow w.heap.size ⟨da, dc, ca, cc, sa, sc⟩) (hc : chkF ⟨2, i, t, n, c, fi, dt, ci, sp, dl, e0, e1, e2⟩ = 0) :
    Calls Try.prog 12 #[.agg (fcells ⟨2, i, t, n, c, fi, dt, ci, sp, dl, e0, e1, e2⟩ ⟨da, dc, ca, cc, sa, sc⟩).toArray] w (RetBE w.heap.size w (encB ⟨2, i, t, n, c, fi, dt, ci, sp, dl, e0, e1, e2⟩, 0)) := by
  obtain ⟨_, hd, hr⟩ := chk0 hc
  have hr : (rspV sp && numB dl) = true := hr
  have hd : dt.length ≤ 16384 := hd
  obtain ⟨R, hR⟩ : ∃ R, R = encB ⟨2, i, t, n, c, fi, dt, ci, sp, dl, e0, e1, e2⟩ := ⟨_, rfl⟩
  obtain ⟨dn, hdn⟩ : ∃ dn, dn = dt.length := ⟨_, rfl⟩
  obtain ⟨cn, hcn⟩ : ∃ cn, cn = ci.length := ⟨_, rfl⟩
  obtain ⟨sn, hsn⟩ : ∃ sn, sn = sp.length := ⟨_, rfl⟩
  have hf : fcells ⟨2, i, t, n, c, fi, dt, ci, sp, dl, e0, e1, e2⟩ ⟨da, dc, ca, cc, sa, sc⟩ = [.int .i64 2, .int .i64 i, .int .i64 t, .int .i64 n, .int .i64 c, .bool fi, .slice da dn dc, .slice ca cn cc, .slice sa sn sc, .int .i64 dl, .int .i64 e0, .int .i64 e1, .int .i64 e2] := by rw [hdn, hcn, hsn]; rfl
  obtain ⟨w2, hw2⟩ : ∃ w2, w2 = w.alloc (.cells #[.int .i64 2, .int .i64 i, .int .i64 t, .int .i64 n, .int .i64 c, .bool fi, .slice da dn dc, .slice ca cn cc, .slice sa sn sc, .int .i64 dl, .int .i64 e0, .int .i64 e1, .int .i64 e2] 26) := ⟨_, rfl⟩
  have hB : Below w.heap.size w w2 := by rw [hw2]; exact alB w _
  obtain ⟨xb, hxb⟩ : ∃ xb, xb = w.heap.size := ⟨_, rfl⟩
  have hG : Has w2 xb 26 [.int .i64 2, .int .i64 i, .int .i64 t, .int .i64 n, .int .i64 c, .bool fi, .slice da dn dc, .slice ca cn cc, .slice sa sn sc, .int .i64 dl, .int .i64 e0, .int .i64 e1, .int .i64 e2] := by rw [hw2, hxb]; exact Has.new _ _ _
  have HG := Lib.hid hG
  have hC := checkF_any w2 (h.below hB)
  rw [hc, hf] at hC
  have HC := Lib.hid hC
  have HSt : Hid (∀ {w3 : World}, Below w2.heap.size w2 w3 → ES (w3.alloc (.cells #[.slice none 0 0] 59)) w3.heap.size none xb ⟨2, i, t, n, c, fi, dt, ci, sp, dl, e0, e1, e2⟩ ⟨da, dc, ca, cc, sa, sc⟩ (w3.alloc (.cells #[.slice none 0 0] 59)) [] none 0) := Lib.hid (fun hb => ES.start (by rw [hf]; exact HG.out.kept (X := none') (Kept.of_below hb) (fun h => h)) ((h.below hB).below hb) (hl.mono (by have := hB.size; have := hb.size; omega)))
  have HCs : Hid (∀ {w4 w' : World} {g : Nat} {b' : List UInt8} {ba' : Option Addr} {bc' : Nat}, ES w4 g none xb ⟨2, i, t, n, c, fi, dt, ci, sp, dl, e0, e1, e2⟩ ⟨da, dc, ca, cc, sa, sc⟩ w' b' ba' bc' → Has w' xb 26 [.int .i64 2, .int .i64 i, .int .i64 t, .int .i64 n, .int .i64 c, .bool fi, .slice da dn dc, .slice ca cn cc, .slice sa sn sc, .int .i64 dl, .int .i64 e0, .int .i64 e1, .int .i64 e2]) := Lib.hid (fun h => by rw [← hf]; exact h.box)
  have HTx : Hid (∀ {w4 w' : World} {g : Nat} {b' : List UInt8} {ba' : Option Addr} {bc' : Nat}, ES w4 g none xb ⟨2, i, t, n, c, fi, dt, ci, sp, dl, e0, e1, e2⟩ ⟨da, dc, ca, cc, sa, sc⟩ w' b' ba' bc' → b'.length ≤ 900000000 → Calls Try.prog 31 #[.pointer (some ⟨g, 0, none⟩), .slice da dn dc] w' (ESR w4 g none xb ⟨2, i, t, n, c, fi, dt, ci, sp, dl, e0, e1, e2⟩ ⟨da, dc, ca, cc, sa, sc⟩ (b' ++ (vl dt.length ++ dt)))) := Lib.hid (fun h hl => by rw [hdn]; exact h.data (Nat.le_trans hd (by decide)) hl)
  rw [← hR, hf]
  have HR := Lib.hid hR
  have HB := Lib.hid hB
  have HD := Lib.hid hd
  have HDn := Lib.hid hdn
  have HCn := Lib.hid hcn
  have HSn := Lib.hid hsn
  have HF := Lib.hid hf
  clear hR hf hdn hcn hsn hB hG hC h hl hd
  obtain ⟨hr1, hr2⟩ : rspV sp = true ∧ numB dl = true := by simpa using hr
  have HSl : Hid (sp.length ≤ 64) := Lib.hid (by have h1 := hr1; unfold rspV at h1; simp at h1; exact h1.2.2)
  have HSp : Hid (∀ {w4 w' : World} {g : Nat} {b' : List UInt8} {ba' : Option Addr} {bc' : Nat}, ES w4 g none xb ⟨2, i, t, n, c, fi, dt, ci, sp, dl, e0, e1, e2⟩ ⟨da, dc, ca, cc, sa, sc⟩ w' b' ba' bc' → b'.length ≤ 100000000 → Calls Try.prog 30 #[.pointer (some ⟨g, 0, none⟩), .agg #[.int .i64 2, .int .i64 i, .int .i64 t, .int .i64 n, .int .i64 c, .bool fi, .slice da dn dc, .slice ca cn cc, .slice sa sn sc, .int .i64 dl, .int .i64 e0, .int .i64 e1, .int .i64 e2]] w' (ESR w4 g none xb ⟨2, i, t, n, c, fi, dt, ci, sp, dl, e0, e1, e2⟩ ⟨da, dc, ca, cc, sa, sc⟩ (b' ++ ackB ⟨2, i, t, n, c, fi, dt, ci, sp, dl, e0, e1, e2⟩))) := Lib.hid (fun h hb => by
    have h9 := h.spans hb hr1 hr2
    rw [HF.out] at h9
    exact h9)
  go_enter Try.func12, Try.ntmps12
  go_upto_region 1 with fail
  rw [← hw2, ← hxb]
  clear hw2 hxb
  have g0 := HG.out.cell 0 rfl
  have g1 := HG.out.cell 1 rfl
  have g2 := HG.out.cell 2 rfl
  have g3 := HG.out.cell 3 rfl
  have g4 := HG.out.cell 4 rfl
  have g5 := HG.out.cell 5 rfl
  have g6 := HG.out.cell 6 rfl
  have g7 := HG.out.cell 7 rfl
  have g8 := HG.out.cell 8 rfl
  have g9 := HG.out.cell 9 rfl
  have g10 := HG.out.cell 10 rfl
  have g11 := HG.out.cell 11 rfl
  have g12 := HG.out.cell 12 rfl
  go_upto_region 4 with (refine HC.out.mono ?_; rintro e w3 ⟨rfl, hb3⟩)
  obtain ⟨g, hg⟩ : ∃ g, g = w3.heap.size := ⟨_, rfl⟩
  obtain ⟨w4, hw4⟩ : ∃ w4, w4 = w3.alloc (.cells #[.slice none 0 0] 59) := ⟨_, rfl⟩
  have HE0 := Lib.hid (HSt.out hb3)
  rw [← hw4, ← hg] at HE0
  have HB4 : Hid (Below w.heap.size w w4) := Lib.hid (by rw [hw4]; exact (HB.out.trans (hb3.mono HB.out.size)).alloc (by have := HB.out.size; have := hb3.size; omega) _)
  have HG4 : Hid (w.heap.size ≤ g) := Lib.hid (by rw [hg]; have := HB.out.size; have := hb3.size; omega)
  clear hb3 g0 g1 g2 g3 g4 g5 g6 g7 g8 g9 g10 g11 g12
  go_upto_region 5 with fail
  rw [← hw4, ← hg]
  clear hw4 hg
  have HL0 : Hid (([] : List UInt8).length ≤ 0) := Lib.hid (Nat.le_refl _)
  have H1 := Lib.hid (HE0.out.nums1 2 (le_big HL0.out (by decide)).1 rfl)
  have g0 := (HCs.out HE0.out).cell 0 rfl
  have g1 := (HCs.out HE0.out).cell 1 rfl
  have g2 := (HCs.out HE0.out).cell 2 rfl
  have g3 := (HCs.out HE0.out).cell 3 rfl
  have g4 := (HCs.out HE0.out).cell 4 rfl
  have g5 := (HCs.out HE0.out).cell 5 rfl
  have g6 := (HCs.out HE0.out).cell 6 rfl
  have g7 := (HCs.out HE0.out).cell 7 rfl
  have g8 := (HCs.out HE0.out).cell 8 rfl
  have g9 := (HCs.out HE0.out).cell 9 rfl
  have g10 := (HCs.out HE0.out).cell 10 rfl
  have g11 := (HCs.out HE0.out).cell 11 rfl
  have g12 := (HCs.out HE0.out).cell 12 rfl
  go_wp2_with fail
  refine H1.out.mono ?_
  rintro e v1 ⟨rfl, ba1, bc1, hE⟩
  have HE1 := Lib.hid hE
  have HL1 : Hid (([] ++ nB [2]).length ≤ 8) := Lib.hid (len_nums HL0.out rfl)
  clear hE g0 g1 g2 g3 g4 g5 g6 g7 g8 g9 g10 g11 g12
  have H2 := Lib.hid (HSp.out HE1.out (le_big HL1.out (by decide)).2.2)
  have g0 := (HCs.out HE1.out).cell 0 rfl
  have g1 := (HCs.out HE1.out).cell 1 rfl
  have g2 := (HCs.out HE1.out).cell 2 rfl
  have g3 := (HCs.out HE1.out).cell 3 rfl
  have g4 := (HCs.out HE1.out).cell 4 rfl
  have g5 := (HCs.out HE1.out).cell 5 rfl
  have g6 := (HCs.out HE1.out).cell 6 rfl
  have g7 := (HCs.out HE1.out).cell 7 rfl
  have g8 := (HCs.out HE1.out).cell 8 rfl
  have g9 := (HCs.out HE1.out).cell 9 rfl
  have g10 := (HCs.out HE1.out).cell 10 rfl
  have g11 := (HCs.out HE1.out).cell 11 rfl
  have g12 := (HCs.out HE1.out).cell 12 rfl
  go_wp2_with fail
  refine H2.out.mono ?_
  rintro e v2 ⟨rfl, ba2, bc2, hE⟩
  have HE2 := Lib.hid hE
  have HL2 : Hid ((([] ++ nB [2]) ++ ackB ⟨2, i, t, n, c, fi, dt, ci, sp, dl, e0, e1, e2⟩).length ≤ 1108) := Lib.hid (len_app HL1.out (n := 1100) (ackB_len _ HSl.out) rfl)
  clear hE g0 g1 g2 g3 g4 g5 g6 g7 g8 g9 g10 g11 g12
  obtain ⟨bb, hbb⟩ : ∃ bb, bb = (([] ++ nB [2]) ++ ackB ⟨2, i, t, n, c, fi, dt, ci, sp, dl, e0, e1, e2⟩) := ⟨_, rfl⟩
  rw [← hbb] at HE2
  have HBb := Lib.hid hbb
  clear hbb
  have q0 := HE2.out.wb.has.cell 0 rfl
  have g0 := (HCs.out HE2.out).cell 0 rfl
  have g1 := (HCs.out HE2.out).cell 1 rfl
  have g2 := (HCs.out HE2.out).cell 2 rfl
  have g3 := (HCs.out HE2.out).cell 3 rfl
  have g4 := (HCs.out HE2.out).cell 4 rfl
  have g5 := (HCs.out HE2.out).cell 5 rfl
  have g6 := (HCs.out HE2.out).cell 6 rfl
  have g7 := (HCs.out HE2.out).cell 7 rfl
  have g8 := (HCs.out HE2.out).cell 8 rfl
  have g9 := (HCs.out HE2.out).cell 9 rfl
  have g10 := (HCs.out HE2.out).cell 10 rfl
  have g11 := (HCs.out HE2.out).cell 11 rfl
  have g12 := (HCs.out HE2.out).cell 12 rfl
  go_wp2
  go_ret2
  exact HE2.out.ret HB4.out HG4.out (by rw [HR.out, HBb.out]; simp [encB, itmB]) rfl

set_option maxRecDepth 100000 in
set_option maxHeartbeats 4000000 in
theorem enc_3 (w : World) (i t n c : Int) (fi : Bool) (dt ci : List UInt8) (sp : List Sn) (dl e0 e1 e2 : Int) (da : Option Addr) (dc : Nat) (ca : Option Addr) (cc : Nat) (sa : Option Addr) (sc : Nat) (h : FIn w ⟨3, i, t, n, c, fi, dt, ci, sp, dl, e0, e1, e2⟩ ⟨da, dc, ca, cc, sa, sc⟩) (hl : FLow w.heap.size ⟨da, dc, ca, cc, sa, sc⟩) (hc : chkF ⟨3, i, t, n, c, fi, dt, ci, sp, dl, e0, e1, e2⟩ = 0) :
    Calls Try.prog 12 #[.agg (fcells ⟨3, i, t, n, c, fi, dt, ci, sp, dl, e0, e1, e2⟩ ⟨da, dc, ca, cc, sa, sc⟩).toArray] w (RetBE w.heap.size w (encB ⟨3, i, t, n, c, fi, dt, ci, sp, dl, e0, e1, e2⟩, 0)) := by
  obtain ⟨_, hd, hr⟩ := chk0 hc
  have hr : (rspV sp && (numB dl && [e0, e1, e2].all numB)) = true := hr
  have hd : dt.length ≤ 16384 := hd
  obtain ⟨R, hR⟩ : ∃ R, R = encB ⟨3, i, t, n, c, fi, dt, ci, sp, dl, e0, e1, e2⟩ := ⟨_, rfl⟩
  obtain ⟨dn, hdn⟩ : ∃ dn, dn = dt.length := ⟨_, rfl⟩
  obtain ⟨cn, hcn⟩ : ∃ cn, cn = ci.length := ⟨_, rfl⟩
  obtain ⟨sn, hsn⟩ : ∃ sn, sn = sp.length := ⟨_, rfl⟩
  have hf : fcells ⟨3, i, t, n, c, fi, dt, ci, sp, dl, e0, e1, e2⟩ ⟨da, dc, ca, cc, sa, sc⟩ = [.int .i64 3, .int .i64 i, .int .i64 t, .int .i64 n, .int .i64 c, .bool fi, .slice da dn dc, .slice ca cn cc, .slice sa sn sc, .int .i64 dl, .int .i64 e0, .int .i64 e1, .int .i64 e2] := by rw [hdn, hcn, hsn]; rfl
  obtain ⟨w2, hw2⟩ : ∃ w2, w2 = w.alloc (.cells #[.int .i64 3, .int .i64 i, .int .i64 t, .int .i64 n, .int .i64 c, .bool fi, .slice da dn dc, .slice ca cn cc, .slice sa sn sc, .int .i64 dl, .int .i64 e0, .int .i64 e1, .int .i64 e2] 26) := ⟨_, rfl⟩
  have hB : Below w.heap.size w w2 := by rw [hw2]; exact alB w _
  obtain ⟨xb, hxb⟩ : ∃ xb, xb = w.heap.size := ⟨_, rfl⟩
  have hG : Has w2 xb 26 [.int .i64 3, .int .i64 i, .int .i64 t, .int .i64 n, .int .i64 c, .bool fi, .slice da dn dc, .slice ca cn cc, .slice sa sn sc, .int .i64 dl, .int .i64 e0, .int .i64 e1, .int .i64 e2] := by rw [hw2, hxb]; exact Has.new _ _ _
  have HG := Lib.hid hG
  have hC := checkF_any w2 (h.below hB)
  rw [hc, hf] at hC
  have HC := Lib.hid hC
  have HSt : Hid (∀ {w3 : World}, Below w2.heap.size w2 w3 → ES (w3.alloc (.cells #[.slice none 0 0] 59)) w3.heap.size none xb ⟨3, i, t, n, c, fi, dt, ci, sp, dl, e0, e1, e2⟩ ⟨da, dc, ca, cc, sa, sc⟩ (w3.alloc (.cells #[.slice none 0 0] 59)) [] none 0) := Lib.hid (fun hb => ES.start (by rw [hf]; exact HG.out.kept (X := none') (Kept.of_below hb) (fun h => h)) ((h.below hB).below hb) (hl.mono (by have := hB.size; have := hb.size; omega)))
  have HCs : Hid (∀ {w4 w' : World} {g : Nat} {b' : List UInt8} {ba' : Option Addr} {bc' : Nat}, ES w4 g none xb ⟨3, i, t, n, c, fi, dt, ci, sp, dl, e0, e1, e2⟩ ⟨da, dc, ca, cc, sa, sc⟩ w' b' ba' bc' → Has w' xb 26 [.int .i64 3, .int .i64 i, .int .i64 t, .int .i64 n, .int .i64 c, .bool fi, .slice da dn dc, .slice ca cn cc, .slice sa sn sc, .int .i64 dl, .int .i64 e0, .int .i64 e1, .int .i64 e2]) := Lib.hid (fun h => by rw [← hf]; exact h.box)
  have HTx : Hid (∀ {w4 w' : World} {g : Nat} {b' : List UInt8} {ba' : Option Addr} {bc' : Nat}, ES w4 g none xb ⟨3, i, t, n, c, fi, dt, ci, sp, dl, e0, e1, e2⟩ ⟨da, dc, ca, cc, sa, sc⟩ w' b' ba' bc' → b'.length ≤ 900000000 → Calls Try.prog 31 #[.pointer (some ⟨g, 0, none⟩), .slice da dn dc] w' (ESR w4 g none xb ⟨3, i, t, n, c, fi, dt, ci, sp, dl, e0, e1, e2⟩ ⟨da, dc, ca, cc, sa, sc⟩ (b' ++ (vl dt.length ++ dt)))) := Lib.hid (fun h hl => by rw [hdn]; exact h.data (Nat.le_trans hd (by decide)) hl)
  rw [← hR, hf]
  have HR := Lib.hid hR
  have HB := Lib.hid hB
  have HD := Lib.hid hd
  have HDn := Lib.hid hdn
  have HCn := Lib.hid hcn
  have HSn := Lib.hid hsn
  have HF := Lib.hid hf
  clear hR hf hdn hcn hsn hB hG hC h hl hd
  obtain ⟨hr1, hr2, hr3, hr4, hr5⟩ : rspV sp = true ∧ numB dl = true ∧ numB e0 = true ∧ numB e1 = true ∧ numB e2 = true := by simpa using hr
  have HSl : Hid (sp.length ≤ 64) := Lib.hid (by have h1 := hr1; unfold rspV at h1; simp at h1; exact h1.2.2)
  have HSp : Hid (∀ {w4 w' : World} {g : Nat} {b' : List UInt8} {ba' : Option Addr} {bc' : Nat}, ES w4 g none xb ⟨3, i, t, n, c, fi, dt, ci, sp, dl, e0, e1, e2⟩ ⟨da, dc, ca, cc, sa, sc⟩ w' b' ba' bc' → b'.length ≤ 100000000 → Calls Try.prog 30 #[.pointer (some ⟨g, 0, none⟩), .agg #[.int .i64 3, .int .i64 i, .int .i64 t, .int .i64 n, .int .i64 c, .bool fi, .slice da dn dc, .slice ca cn cc, .slice sa sn sc, .int .i64 dl, .int .i64 e0, .int .i64 e1, .int .i64 e2]] w' (ESR w4 g none xb ⟨3, i, t, n, c, fi, dt, ci, sp, dl, e0, e1, e2⟩ ⟨da, dc, ca, cc, sa, sc⟩ (b' ++ ackB ⟨3, i, t, n, c, fi, dt, ci, sp, dl, e0, e1, e2⟩))) := Lib.hid (fun h hb => by
    have h9 := h.spans hb hr1 hr2
    rw [HF.out] at h9
    exact h9)
  go_enter Try.func12, Try.ntmps12
  go_upto_region 1 with fail
  rw [← hw2, ← hxb]
  clear hw2 hxb
  have g0 := HG.out.cell 0 rfl
  have g1 := HG.out.cell 1 rfl
  have g2 := HG.out.cell 2 rfl
  have g3 := HG.out.cell 3 rfl
  have g4 := HG.out.cell 4 rfl
  have g5 := HG.out.cell 5 rfl
  have g6 := HG.out.cell 6 rfl
  have g7 := HG.out.cell 7 rfl
  have g8 := HG.out.cell 8 rfl
  have g9 := HG.out.cell 9 rfl
  have g10 := HG.out.cell 10 rfl
  have g11 := HG.out.cell 11 rfl
  have g12 := HG.out.cell 12 rfl
  go_upto_region 4 with (refine HC.out.mono ?_; rintro e w3 ⟨rfl, hb3⟩)
  obtain ⟨g, hg⟩ : ∃ g, g = w3.heap.size := ⟨_, rfl⟩
  obtain ⟨w4, hw4⟩ : ∃ w4, w4 = w3.alloc (.cells #[.slice none 0 0] 59) := ⟨_, rfl⟩
  have HE0 := Lib.hid (HSt.out hb3)
  rw [← hw4, ← hg] at HE0
  have HB4 : Hid (Below w.heap.size w w4) := Lib.hid (by rw [hw4]; exact (HB.out.trans (hb3.mono HB.out.size)).alloc (by have := HB.out.size; have := hb3.size; omega) _)
  have HG4 : Hid (w.heap.size ≤ g) := Lib.hid (by rw [hg]; have := HB.out.size; have := hb3.size; omega)
  clear hb3 g0 g1 g2 g3 g4 g5 g6 g7 g8 g9 g10 g11 g12
  go_upto_region 5 with fail
  rw [← hw4, ← hg]
  clear hw4 hg
  have HL0 : Hid (([] : List UInt8).length ≤ 0) := Lib.hid (Nat.le_refl _)
  have H1 := Lib.hid (HE0.out.nums1 3 (le_big HL0.out (by decide)).1 rfl)
  have g0 := (HCs.out HE0.out).cell 0 rfl
  have g1 := (HCs.out HE0.out).cell 1 rfl
  have g2 := (HCs.out HE0.out).cell 2 rfl
  have g3 := (HCs.out HE0.out).cell 3 rfl
  have g4 := (HCs.out HE0.out).cell 4 rfl
  have g5 := (HCs.out HE0.out).cell 5 rfl
  have g6 := (HCs.out HE0.out).cell 6 rfl
  have g7 := (HCs.out HE0.out).cell 7 rfl
  have g8 := (HCs.out HE0.out).cell 8 rfl
  have g9 := (HCs.out HE0.out).cell 9 rfl
  have g10 := (HCs.out HE0.out).cell 10 rfl
  have g11 := (HCs.out HE0.out).cell 11 rfl
  have g12 := (HCs.out HE0.out).cell 12 rfl
  go_wp2_with fail
  refine H1.out.mono ?_
  rintro e v1 ⟨rfl, ba1, bc1, hE⟩
  have HE1 := Lib.hid hE
  have HL1 : Hid (([] ++ nB [3]).length ≤ 8) := Lib.hid (len_nums HL0.out rfl)
  clear hE g0 g1 g2 g3 g4 g5 g6 g7 g8 g9 g10 g11 g12
  have H2 := Lib.hid (HSp.out HE1.out (le_big HL1.out (by decide)).2.2)
  have g0 := (HCs.out HE1.out).cell 0 rfl
  have g1 := (HCs.out HE1.out).cell 1 rfl
  have g2 := (HCs.out HE1.out).cell 2 rfl
  have g3 := (HCs.out HE1.out).cell 3 rfl
  have g4 := (HCs.out HE1.out).cell 4 rfl
  have g5 := (HCs.out HE1.out).cell 5 rfl
  have g6 := (HCs.out HE1.out).cell 6 rfl
  have g7 := (HCs.out HE1.out).cell 7 rfl
  have g8 := (HCs.out HE1.out).cell 8 rfl
  have g9 := (HCs.out HE1.out).cell 9 rfl
  have g10 := (HCs.out HE1.out).cell 10 rfl
  have g11 := (HCs.out HE1.out).cell 11 rfl
  have g12 := (HCs.out HE1.out).cell 12 rfl
  go_wp2_with fail
  refine H2.out.mono ?_
  rintro e v2 ⟨rfl, ba2, bc2, hE⟩
  have HE2 := Lib.hid hE
  have HL2 : Hid ((([] ++ nB [3]) ++ ackB ⟨3, i, t, n, c, fi, dt, ci, sp, dl, e0, e1, e2⟩).length ≤ 1108) := Lib.hid (len_app HL1.out (n := 1100) (ackB_len _ HSl.out) rfl)
  clear hE g0 g1 g2 g3 g4 g5 g6 g7 g8 g9 g10 g11 g12
  have H3 := Lib.hid (HE2.out.ecn (le_big HL2.out (by decide)).1 hr3 hr4 hr5)
  have g0 := (HCs.out HE2.out).cell 0 rfl
  have g1 := (HCs.out HE2.out).cell 1 rfl
  have g2 := (HCs.out HE2.out).cell 2 rfl
  have g3 := (HCs.out HE2.out).cell 3 rfl
  have g4 := (HCs.out HE2.out).cell 4 rfl
  have g5 := (HCs.out HE2.out).cell 5 rfl
  have g6 := (HCs.out HE2.out).cell 6 rfl
  have g7 := (HCs.out HE2.out).cell 7 rfl
  have g8 := (HCs.out HE2.out).cell 8 rfl
  have g9 := (HCs.out HE2.out).cell 9 rfl
  have g10 := (HCs.out HE2.out).cell 10 rfl
  have g11 := (HCs.out HE2.out).cell 11 rfl
  have g12 := (HCs.out HE2.out).cell 12 rfl
  go_wp2_with fail
  refine H3.out.mono ?_
  rintro e v3 ⟨rfl, ba3, bc3, hE⟩
  have HE3 := Lib.hid hE
  have HL3 : Hid (((([] ++ nB [3]) ++ ackB ⟨3, i, t, n, c, fi, dt, ci, sp, dl, e0, e1, e2⟩) ++ nB [e0, e1, e2]).length ≤ 1132) := Lib.hid (len_nums HL2.out rfl)
  clear hE g0 g1 g2 g3 g4 g5 g6 g7 g8 g9 g10 g11 g12
  obtain ⟨bb, hbb⟩ : ∃ bb, bb = ((([] ++ nB [3]) ++ ackB ⟨3, i, t, n, c, fi, dt, ci, sp, dl, e0, e1, e2⟩) ++ nB [e0, e1, e2]) := ⟨_, rfl⟩
  rw [← hbb] at HE3
  have HBb := Lib.hid hbb
  clear hbb
  have q0 := HE3.out.wb.has.cell 0 rfl
  have g0 := (HCs.out HE3.out).cell 0 rfl
  have g1 := (HCs.out HE3.out).cell 1 rfl
  have g2 := (HCs.out HE3.out).cell 2 rfl
  have g3 := (HCs.out HE3.out).cell 3 rfl
  have g4 := (HCs.out HE3.out).cell 4 rfl
  have g5 := (HCs.out HE3.out).cell 5 rfl
  have g6 := (HCs.out HE3.out).cell 6 rfl
  have g7 := (HCs.out HE3.out).cell 7 rfl
  have g8 := (HCs.out HE3.out).cell 8 rfl
  have g9 := (HCs.out HE3.out).cell 9 rfl
  have g10 := (HCs.out HE3.out).cell 10 rfl
  have g11 := (HCs.out HE3.out).cell 11 rfl
  have g12 := (HCs.out HE3.out).cell 12 rfl
  go_wp2
  go_ret2
  exact HE3.out.ret HB4.out HG4.out (by rw [HR.out, HBb.out]; simp [encB, itmB]) rfl

set_option maxRecDepth 100000 in
set_option maxHeartbeats 4000000 in
theorem enc_4 (w : World) (i t n c : Int) (fi : Bool) (dt ci : List UInt8) (sp : List Sn) (dl e0 e1 e2 : Int) (da : Option Addr) (dc : Nat) (ca : Option Addr) (cc : Nat) (sa : Option Addr) (sc : Nat) (h : FIn w ⟨4, i, t, n, c, fi, dt, ci, sp, dl, e0, e1, e2⟩ ⟨da, dc, ca, cc, sa, sc⟩) (hl : FLow w.heap.size ⟨da, dc, ca, cc, sa, sc⟩) (hc : chkF ⟨4, i, t, n, c, fi, dt, ci, sp, dl, e0, e1, e2⟩ = 0) :
    Calls Try.prog 12 #[.agg (fcells ⟨4, i, t, n, c, fi, dt, ci, sp, dl, e0, e1, e2⟩ ⟨da, dc, ca, cc, sa, sc⟩).toArray] w (RetBE w.heap.size w (encB ⟨4, i, t, n, c, fi, dt, ci, sp, dl, e0, e1, e2⟩, 0)) := by
  obtain ⟨_, hd, hr⟩ := chk0 hc
  have hr : [i, c, n].all numB = true := hr
  have hd : dt.length ≤ 16384 := hd
  obtain ⟨R, hR⟩ : ∃ R, R = encB ⟨4, i, t, n, c, fi, dt, ci, sp, dl, e0, e1, e2⟩ := ⟨_, rfl⟩
  obtain ⟨dn, hdn⟩ : ∃ dn, dn = dt.length := ⟨_, rfl⟩
  obtain ⟨cn, hcn⟩ : ∃ cn, cn = ci.length := ⟨_, rfl⟩
  obtain ⟨sn, hsn⟩ : ∃ sn, sn = sp.length := ⟨_, rfl⟩
  have hf : fcells ⟨4, i, t, n, c, fi, dt, ci, sp, dl, e0, e1, e2⟩ ⟨da, dc, ca, cc, sa, sc⟩ = [.int .i64 4, .int .i64 i, .int .i64 t, .int .i64 n, .int .i64 c, .bool fi, .slice da dn dc, .slice ca cn cc, .slice sa sn sc, .int .i64 dl, .int .i64 e0, .int .i64 e1, .int .i64 e2] := by rw [hdn, hcn, hsn]; rfl
  obtain ⟨w2, hw2⟩ : ∃ w2, w2 = w.alloc (.cells #[.int .i64 4, .int .i64 i, .int .i64 t, .int .i64 n, .int .i64 c, .bool fi, .slice da dn dc, .slice ca cn cc, .slice sa sn sc, .int .i64 dl, .int .i64 e0, .int .i64 e1, .int .i64 e2] 26) := ⟨_, rfl⟩
  have hB : Below w.heap.size w w2 := by rw [hw2]; exact alB w _
  obtain ⟨xb, hxb⟩ : ∃ xb, xb = w.heap.size := ⟨_, rfl⟩
  have hG : Has w2 xb 26 [.int .i64 4, .int .i64 i, .int .i64 t, .int .i64 n, .int .i64 c, .bool fi, .slice da dn dc, .slice ca cn cc, .slice sa sn sc, .int .i64 dl, .int .i64 e0, .int .i64 e1, .int .i64 e2] := by rw [hw2, hxb]; exact Has.new _ _ _
  have HG := Lib.hid hG
  have hC := checkF_any w2 (h.below hB)
  rw [hc, hf] at hC
  have HC := Lib.hid hC
  have HSt : Hid (∀ {w3 : World}, Below w2.heap.size w2 w3 → ES (w3.alloc (.cells #[.slice none 0 0] 59)) w3.heap.size none xb ⟨4, i, t, n, c, fi, dt, ci, sp, dl, e0, e1, e2⟩ ⟨da, dc, ca, cc, sa, sc⟩ (w3.alloc (.cells #[.slice none 0 0] 59)) [] none 0) := Lib.hid (fun hb => ES.start (by rw [hf]; exact HG.out.kept (X := none') (Kept.of_below hb) (fun h => h)) ((h.below hB).below hb) (hl.mono (by have := hB.size; have := hb.size; omega)))
  have HCs : Hid (∀ {w4 w' : World} {g : Nat} {b' : List UInt8} {ba' : Option Addr} {bc' : Nat}, ES w4 g none xb ⟨4, i, t, n, c, fi, dt, ci, sp, dl, e0, e1, e2⟩ ⟨da, dc, ca, cc, sa, sc⟩ w' b' ba' bc' → Has w' xb 26 [.int .i64 4, .int .i64 i, .int .i64 t, .int .i64 n, .int .i64 c, .bool fi, .slice da dn dc, .slice ca cn cc, .slice sa sn sc, .int .i64 dl, .int .i64 e0, .int .i64 e1, .int .i64 e2]) := Lib.hid (fun h => by rw [← hf]; exact h.box)
  have HTx : Hid (∀ {w4 w' : World} {g : Nat} {b' : List UInt8} {ba' : Option Addr} {bc' : Nat}, ES w4 g none xb ⟨4, i, t, n, c, fi, dt, ci, sp, dl, e0, e1, e2⟩ ⟨da, dc, ca, cc, sa, sc⟩ w' b' ba' bc' → b'.length ≤ 900000000 → Calls Try.prog 31 #[.pointer (some ⟨g, 0, none⟩), .slice da dn dc] w' (ESR w4 g none xb ⟨4, i, t, n, c, fi, dt, ci, sp, dl, e0, e1, e2⟩ ⟨da, dc, ca, cc, sa, sc⟩ (b' ++ (vl dt.length ++ dt)))) := Lib.hid (fun h hl => by rw [hdn]; exact h.data (Nat.le_trans hd (by decide)) hl)
  rw [← hR, hf]
  have HR := Lib.hid hR
  have HB := Lib.hid hB
  have HD := Lib.hid hd
  have HDn := Lib.hid hdn
  have HCn := Lib.hid hcn
  have HSn := Lib.hid hsn
  have HF := Lib.hid hf
  clear hR hf hdn hcn hsn hB hG hC h hl hd
  obtain ⟨hr_i, hr_c, hr_n⟩ : numB i = true ∧ numB c = true ∧ numB n = true := by simpa using hr
  go_enter Try.func12, Try.ntmps12
  go_upto_region 1 with fail
  rw [← hw2, ← hxb]
  clear hw2 hxb
  have g0 := HG.out.cell 0 rfl
  have g1 := HG.out.cell 1 rfl
  have g2 := HG.out.cell 2 rfl
  have g3 := HG.out.cell 3 rfl
  have g4 := HG.out.cell 4 rfl
  have g5 := HG.out.cell 5 rfl
  have g6 := HG.out.cell 6 rfl
  have g7 := HG.out.cell 7 rfl
  have g8 := HG.out.cell 8 rfl
  have g9 := HG.out.cell 9 rfl
  have g10 := HG.out.cell 10 rfl
  have g11 := HG.out.cell 11 rfl
  have g12 := HG.out.cell 12 rfl
  go_upto_region 4 with (refine HC.out.mono ?_; rintro e w3 ⟨rfl, hb3⟩)
  obtain ⟨g, hg⟩ : ∃ g, g = w3.heap.size := ⟨_, rfl⟩
  obtain ⟨w4, hw4⟩ : ∃ w4, w4 = w3.alloc (.cells #[.slice none 0 0] 59) := ⟨_, rfl⟩
  have HE0 := Lib.hid (HSt.out hb3)
  rw [← hw4, ← hg] at HE0
  have HB4 : Hid (Below w.heap.size w w4) := Lib.hid (by rw [hw4]; exact (HB.out.trans (hb3.mono HB.out.size)).alloc (by have := HB.out.size; have := hb3.size; omega) _)
  have HG4 : Hid (w.heap.size ≤ g) := Lib.hid (by rw [hg]; have := HB.out.size; have := hb3.size; omega)
  clear hb3 g0 g1 g2 g3 g4 g5 g6 g7 g8 g9 g10 g11 g12
  go_upto_region 5 with fail
  rw [← hw4, ← hg]
  clear hw4 hg
  have HL0 : Hid (([] : List UInt8).length ≤ 0) := Lib.hid (Nat.le_refl _)
  have H1 := Lib.hid (HE0.out.nums1 4 (le_big HL0.out (by decide)).1 rfl)
  have g0 := (HCs.out HE0.out).cell 0 rfl
  have g1 := (HCs.out HE0.out).cell 1 rfl
  have g2 := (HCs.out HE0.out).cell 2 rfl
  have g3 := (HCs.out HE0.out).cell 3 rfl
  have g4 := (HCs.out HE0.out).cell 4 rfl
  have g5 := (HCs.out HE0.out).cell 5 rfl
  have g6 := (HCs.out HE0.out).cell 6 rfl
  have g7 := (HCs.out HE0.out).cell 7 rfl
  have g8 := (HCs.out HE0.out).cell 8 rfl
  have g9 := (HCs.out HE0.out).cell 9 rfl
  have g10 := (HCs.out HE0.out).cell 10 rfl
  have g11 := (HCs.out HE0.out).cell 11 rfl
  have g12 := (HCs.out HE0.out).cell 12 rfl
  go_wp2_with fail
  refine H1.out.mono ?_
  rintro e v1 ⟨rfl, ba1, bc1, hE⟩
  have HE1 := Lib.hid hE
  have HL1 : Hid (([] ++ nB [4]).length ≤ 8) := Lib.hid (len_nums HL0.out rfl)
  clear hE g0 g1 g2 g3 g4 g5 g6 g7 g8 g9 g10 g11 g12
  have H2 := Lib.hid (HE1.out.nums3 i c n (le_big HL1.out (by decide)).1 hr_i hr_c hr_n)
  have g0 := (HCs.out HE1.out).cell 0 rfl
  have g1 := (HCs.out HE1.out).cell 1 rfl
  have g2 := (HCs.out HE1.out).cell 2 rfl
  have g3 := (HCs.out HE1.out).cell 3 rfl
  have g4 := (HCs.out HE1.out).cell 4 rfl
  have g5 := (HCs.out HE1.out).cell 5 rfl
  have g6 := (HCs.out HE1.out).cell 6 rfl
  have g7 := (HCs.out HE1.out).cell 7 rfl
  have g8 := (HCs.out HE1.out).cell 8 rfl
  have g9 := (HCs.out HE1.out).cell 9 rfl
  have g10 := (HCs.out HE1.out).cell 10 rfl
  have g11 := (HCs.out HE1.out).cell 11 rfl
  have g12 := (HCs.out HE1.out).cell 12 rfl
  go_wp2_with fail
  refine H2.out.mono ?_
  rintro e v2 ⟨rfl, ba2, bc2, hE⟩
  have HE2 := Lib.hid hE
  have HL2 : Hid ((([] ++ nB [4]) ++ nB [i, c, n]).length ≤ 32) := Lib.hid (len_nums HL1.out rfl)
  clear hE g0 g1 g2 g3 g4 g5 g6 g7 g8 g9 g10 g11 g12
  obtain ⟨bb, hbb⟩ : ∃ bb, bb = (([] ++ nB [4]) ++ nB [i, c, n]) := ⟨_, rfl⟩
  rw [← hbb] at HE2
  have HBb := Lib.hid hbb
  clear hbb
  have q0 := HE2.out.wb.has.cell 0 rfl
  have g0 := (HCs.out HE2.out).cell 0 rfl
  have g1 := (HCs.out HE2.out).cell 1 rfl
  have g2 := (HCs.out HE2.out).cell 2 rfl
  have g3 := (HCs.out HE2.out).cell 3 rfl
  have g4 := (HCs.out HE2.out).cell 4 rfl
  have g5 := (HCs.out HE2.out).cell 5 rfl
  have g6 := (HCs.out HE2.out).cell 6 rfl
  have g7 := (HCs.out HE2.out).cell 7 rfl
  have g8 := (HCs.out HE2.out).cell 8 rfl
  have g9 := (HCs.out HE2.out).cell 9 rfl
  have g10 := (HCs.out HE2.out).cell 10 rfl
  have g11 := (HCs.out HE2.out).cell 11 rfl
  have g12 := (HCs.out HE2.out).cell 12 rfl
  go_wp2
  go_ret2
  exact HE2.out.ret HB4.out HG4.out (by rw [HR.out, HBb.out]; simp [encB, itmB]) rfl

set_option maxRecDepth 100000 in
set_option maxHeartbeats 4000000 in
theorem enc_5 (w : World) (i t n c : Int) (fi : Bool) (dt ci : List UInt8) (sp : List Sn) (dl e0 e1 e2 : Int) (da : Option Addr) (dc : Nat) (ca : Option Addr) (cc : Nat) (sa : Option Addr) (sc : Nat) (h : FIn w ⟨5, i, t, n, c, fi, dt, ci, sp, dl, e0, e1, e2⟩ ⟨da, dc, ca, cc, sa, sc⟩) (hl : FLow w.heap.size ⟨da, dc, ca, cc, sa, sc⟩) (hc : chkF ⟨5, i, t, n, c, fi, dt, ci, sp, dl, e0, e1, e2⟩ = 0) :
    Calls Try.prog 12 #[.agg (fcells ⟨5, i, t, n, c, fi, dt, ci, sp, dl, e0, e1, e2⟩ ⟨da, dc, ca, cc, sa, sc⟩).toArray] w (RetBE w.heap.size w (encB ⟨5, i, t, n, c, fi, dt, ci, sp, dl, e0, e1, e2⟩, 0)) := by
  obtain ⟨_, hd, hr⟩ := chk0 hc
  have hr : [i, c].all numB = true := hr
  have hd : dt.length ≤ 16384 := hd
  obtain ⟨R, hR⟩ : ∃ R, R = encB ⟨5, i, t, n, c, fi, dt, ci, sp, dl, e0, e1, e2⟩ := ⟨_, rfl⟩
  obtain ⟨dn, hdn⟩ : ∃ dn, dn = dt.length := ⟨_, rfl⟩
  obtain ⟨cn, hcn⟩ : ∃ cn, cn = ci.length := ⟨_, rfl⟩
  obtain ⟨sn, hsn⟩ : ∃ sn, sn = sp.length := ⟨_, rfl⟩
  have hf : fcells ⟨5, i, t, n, c, fi, dt, ci, sp, dl, e0, e1, e2⟩ ⟨da, dc, ca, cc, sa, sc⟩ = [.int .i64 5, .int .i64 i, .int .i64 t, .int .i64 n, .int .i64 c, .bool fi, .slice da dn dc, .slice ca cn cc, .slice sa sn sc, .int .i64 dl, .int .i64 e0, .int .i64 e1, .int .i64 e2] := by rw [hdn, hcn, hsn]; rfl
  obtain ⟨w2, hw2⟩ : ∃ w2, w2 = w.alloc (.cells #[.int .i64 5, .int .i64 i, .int .i64 t, .int .i64 n, .int .i64 c, .bool fi, .slice da dn dc, .slice ca cn cc, .slice sa sn sc, .int .i64 dl, .int .i64 e0, .int .i64 e1, .int .i64 e2] 26) := ⟨_, rfl⟩
  have hB : Below w.heap.size w w2 := by rw [hw2]; exact alB w _
  obtain ⟨xb, hxb⟩ : ∃ xb, xb = w.heap.size := ⟨_, rfl⟩
  have hG : Has w2 xb 26 [.int .i64 5, .int .i64 i, .int .i64 t, .int .i64 n, .int .i64 c, .bool fi, .slice da dn dc, .slice ca cn cc, .slice sa sn sc, .int .i64 dl, .int .i64 e0, .int .i64 e1, .int .i64 e2] := by rw [hw2, hxb]; exact Has.new _ _ _
  have HG := Lib.hid hG
  have hC := checkF_any w2 (h.below hB)
  rw [hc, hf] at hC
  have HC := Lib.hid hC
  have HSt : Hid (∀ {w3 : World}, Below w2.heap.size w2 w3 → ES (w3.alloc (.cells #[.slice none 0 0] 59)) w3.heap.size none xb ⟨5, i, t, n, c, fi, dt, ci, sp, dl, e0, e1, e2⟩ ⟨da, dc, ca, cc, sa, sc⟩ (w3.alloc (.cells #[.slice none 0 0] 59)) [] none 0) := Lib.hid (fun hb => ES.start (by rw [hf]; exact HG.out.kept (X := none') (Kept.of_below hb) (fun h => h)) ((h.below hB).below hb) (hl.mono (by have := hB.size; have := hb.size; omega)))
  have HCs : Hid (∀ {w4 w' : World} {g : Nat} {b' : List UInt8} {ba' : Option Addr} {bc' : Nat}, ES w4 g none xb ⟨5, i, t, n, c, fi, dt, ci, sp, dl, e0, e1, e2⟩ ⟨da, dc, ca, cc, sa, sc⟩ w' b' ba' bc' → Has w' xb 26 [.int .i64 5, .int .i64 i, .int .i64 t, .int .i64 n, .int .i64 c, .bool fi, .slice da dn dc, .slice ca cn cc, .slice sa sn sc, .int .i64 dl, .int .i64 e0, .int .i64 e1, .int .i64 e2]) := Lib.hid (fun h => by rw [← hf]; exact h.box)
  have HTx : Hid (∀ {w4 w' : World} {g : Nat} {b' : List UInt8} {ba' : Option Addr} {bc' : Nat}, ES w4 g none xb ⟨5, i, t, n, c, fi, dt, ci, sp, dl, e0, e1, e2⟩ ⟨da, dc, ca, cc, sa, sc⟩ w' b' ba' bc' → b'.length ≤ 900000000 → Calls Try.prog 31 #[.pointer (some ⟨g, 0, none⟩), .slice da dn dc] w' (ESR w4 g none xb ⟨5, i, t, n, c, fi, dt, ci, sp, dl, e0, e1, e2⟩ ⟨da, dc, ca, cc, sa, sc⟩ (b' ++ (vl dt.length ++ dt)))) := Lib.hid (fun h hl => by rw [hdn]; exact h.data (Nat.le_trans hd (by decide)) hl)
  rw [← hR, hf]
  have HR := Lib.hid hR
  have HB := Lib.hid hB
  have HD := Lib.hid hd
  have HDn := Lib.hid hdn
  have HCn := Lib.hid hcn
  have HSn := Lib.hid hsn
  have HF := Lib.hid hf
  clear hR hf hdn hcn hsn hB hG hC h hl hd
  obtain ⟨hr_i, hr_c⟩ : numB i = true ∧ numB c = true := by simpa using hr
  go_enter Try.func12, Try.ntmps12
  go_upto_region 1 with fail
  rw [← hw2, ← hxb]
  clear hw2 hxb
  have g0 := HG.out.cell 0 rfl
  have g1 := HG.out.cell 1 rfl
  have g2 := HG.out.cell 2 rfl
  have g3 := HG.out.cell 3 rfl
  have g4 := HG.out.cell 4 rfl
  have g5 := HG.out.cell 5 rfl
  have g6 := HG.out.cell 6 rfl
  have g7 := HG.out.cell 7 rfl
  have g8 := HG.out.cell 8 rfl
  have g9 := HG.out.cell 9 rfl
  have g10 := HG.out.cell 10 rfl
  have g11 := HG.out.cell 11 rfl
  have g12 := HG.out.cell 12 rfl
  go_upto_region 4 with (refine HC.out.mono ?_; rintro e w3 ⟨rfl, hb3⟩)
  obtain ⟨g, hg⟩ : ∃ g, g = w3.heap.size := ⟨_, rfl⟩
  obtain ⟨w4, hw4⟩ : ∃ w4, w4 = w3.alloc (.cells #[.slice none 0 0] 59) := ⟨_, rfl⟩
  have HE0 := Lib.hid (HSt.out hb3)
  rw [← hw4, ← hg] at HE0
  have HB4 : Hid (Below w.heap.size w w4) := Lib.hid (by rw [hw4]; exact (HB.out.trans (hb3.mono HB.out.size)).alloc (by have := HB.out.size; have := hb3.size; omega) _)
  have HG4 : Hid (w.heap.size ≤ g) := Lib.hid (by rw [hg]; have := HB.out.size; have := hb3.size; omega)
  clear hb3 g0 g1 g2 g3 g4 g5 g6 g7 g8 g9 g10 g11 g12
  go_upto_region 5 with fail
  rw [← hw4, ← hg]
  clear hw4 hg
  have HL0 : Hid (([] : List UInt8).length ≤ 0) := Lib.hid (Nat.le_refl _)
  have H1 := Lib.hid (HE0.out.nums1 5 (le_big HL0.out (by decide)).1 rfl)
  have g0 := (HCs.out HE0.out).cell 0 rfl
  have g1 := (HCs.out HE0.out).cell 1 rfl
  have g2 := (HCs.out HE0.out).cell 2 rfl
  have g3 := (HCs.out HE0.out).cell 3 rfl
  have g4 := (HCs.out HE0.out).cell 4 rfl
  have g5 := (HCs.out HE0.out).cell 5 rfl
  have g6 := (HCs.out HE0.out).cell 6 rfl
  have g7 := (HCs.out HE0.out).cell 7 rfl
  have g8 := (HCs.out HE0.out).cell 8 rfl
  have g9 := (HCs.out HE0.out).cell 9 rfl
  have g10 := (HCs.out HE0.out).cell 10 rfl
  have g11 := (HCs.out HE0.out).cell 11 rfl
  have g12 := (HCs.out HE0.out).cell 12 rfl
  go_wp2_with fail
  refine H1.out.mono ?_
  rintro e v1 ⟨rfl, ba1, bc1, hE⟩
  have HE1 := Lib.hid hE
  have HL1 : Hid (([] ++ nB [5]).length ≤ 8) := Lib.hid (len_nums HL0.out rfl)
  clear hE g0 g1 g2 g3 g4 g5 g6 g7 g8 g9 g10 g11 g12
  have H2 := Lib.hid (HE1.out.nums2 i c (le_big HL1.out (by decide)).1 hr_i hr_c)
  have g0 := (HCs.out HE1.out).cell 0 rfl
  have g1 := (HCs.out HE1.out).cell 1 rfl
  have g2 := (HCs.out HE1.out).cell 2 rfl
  have g3 := (HCs.out HE1.out).cell 3 rfl
  have g4 := (HCs.out HE1.out).cell 4 rfl
  have g5 := (HCs.out HE1.out).cell 5 rfl
  have g6 := (HCs.out HE1.out).cell 6 rfl
  have g7 := (HCs.out HE1.out).cell 7 rfl
  have g8 := (HCs.out HE1.out).cell 8 rfl
  have g9 := (HCs.out HE1.out).cell 9 rfl
  have g10 := (HCs.out HE1.out).cell 10 rfl
  have g11 := (HCs.out HE1.out).cell 11 rfl
  have g12 := (HCs.out HE1.out).cell 12 rfl
  go_wp2_with fail
  refine H2.out.mono ?_
  rintro e v2 ⟨rfl, ba2, bc2, hE⟩
  have HE2 := Lib.hid hE
  have HL2 : Hid ((([] ++ nB [5]) ++ nB [i, c]).length ≤ 24) := Lib.hid (len_nums HL1.out rfl)
  clear hE g0 g1 g2 g3 g4 g5 g6 g7 g8 g9 g10 g11 g12
  obtain ⟨bb, hbb⟩ : ∃ bb, bb = (([] ++ nB [5]) ++ nB [i, c]) := ⟨_, rfl⟩
  rw [← hbb] at HE2
  have HBb := Lib.hid hbb
  clear hbb
  have q0 := HE2.out.wb.has.cell 0 rfl
  have g0 := (HCs.out HE2.out).cell 0 rfl
  have g1 := (HCs.out HE2.out).cell 1 rfl
  have g2 := (HCs.out HE2.out).cell 2 rfl
  have g3 := (HCs.out HE2.out).cell 3 rfl
  have g4 := (HCs.out HE2.out).cell 4 rfl
  have g5 := (HCs.out HE2.out).cell 5 rfl
  have g6 := (HCs.out HE2.out).cell 6 rfl
  have g7 := (HCs.out HE2.out).cell 7 rfl
  have g8 := (HCs.out HE2.out).cell 8 rfl
  have g9 := (HCs.out HE2.out).cell 9 rfl
  have g10 := (HCs.out HE2.out).cell 10 rfl
  have g11 := (HCs.out HE2.out).cell 11 rfl
  have g12 := (HCs.out HE2.out).cell 12 rfl
  go_wp2
  go_ret2
  exact HE2.out.ret HB4.out HG4.out (by rw [HR.out, HBb.out]; simp [encB, itmB]) rfl

set_option maxRecDepth 100000 in
set_option maxHeartbeats 4000000 in
theorem enc_6 (w : World) (i t n c : Int) (fi : Bool) (dt ci : List UInt8) (sp : List Sn) (dl e0 e1 e2 : Int) (da : Option Addr) (dc : Nat) (ca : Option Addr) (cc : Nat) (sa : Option Addr) (sc : Nat) (h : FIn w ⟨6, i, t, n, c, fi, dt, ci, sp, dl, e0, e1, e2⟩ ⟨da, dc, ca, cc, sa, sc⟩) (hl : FLow w.heap.size ⟨da, dc, ca, cc, sa, sc⟩) (hc : chkF ⟨6, i, t, n, c, fi, dt, ci, sp, dl, e0, e1, e2⟩ = 0) :
    Calls Try.prog 12 #[.agg (fcells ⟨6, i, t, n, c, fi, dt, ci, sp, dl, e0, e1, e2⟩ ⟨da, dc, ca, cc, sa, sc⟩).toArray] w (RetBE w.heap.size w (encB ⟨6, i, t, n, c, fi, dt, ci, sp, dl, e0, e1, e2⟩, 0)) := by
  obtain ⟨_, hd, hr⟩ := chk0 hc
  have hr : (numB t && decide (t ≤ 4611686018427387903 - (dt.length : Int))) = true := hr
  have hd : dt.length ≤ 16384 := hd
  obtain ⟨R, hR⟩ : ∃ R, R = encB ⟨6, i, t, n, c, fi, dt, ci, sp, dl, e0, e1, e2⟩ := ⟨_, rfl⟩
  obtain ⟨dn, hdn⟩ : ∃ dn, dn = dt.length := ⟨_, rfl⟩
  obtain ⟨cn, hcn⟩ : ∃ cn, cn = ci.length := ⟨_, rfl⟩
  obtain ⟨sn, hsn⟩ : ∃ sn, sn = sp.length := ⟨_, rfl⟩
  have hf : fcells ⟨6, i, t, n, c, fi, dt, ci, sp, dl, e0, e1, e2⟩ ⟨da, dc, ca, cc, sa, sc⟩ = [.int .i64 6, .int .i64 i, .int .i64 t, .int .i64 n, .int .i64 c, .bool fi, .slice da dn dc, .slice ca cn cc, .slice sa sn sc, .int .i64 dl, .int .i64 e0, .int .i64 e1, .int .i64 e2] := by rw [hdn, hcn, hsn]; rfl
  obtain ⟨w2, hw2⟩ : ∃ w2, w2 = w.alloc (.cells #[.int .i64 6, .int .i64 i, .int .i64 t, .int .i64 n, .int .i64 c, .bool fi, .slice da dn dc, .slice ca cn cc, .slice sa sn sc, .int .i64 dl, .int .i64 e0, .int .i64 e1, .int .i64 e2] 26) := ⟨_, rfl⟩
  have hB : Below w.heap.size w w2 := by rw [hw2]; exact alB w _
  obtain ⟨xb, hxb⟩ : ∃ xb, xb = w.heap.size := ⟨_, rfl⟩
  have hG : Has w2 xb 26 [.int .i64 6, .int .i64 i, .int .i64 t, .int .i64 n, .int .i64 c, .bool fi, .slice da dn dc, .slice ca cn cc, .slice sa sn sc, .int .i64 dl, .int .i64 e0, .int .i64 e1, .int .i64 e2] := by rw [hw2, hxb]; exact Has.new _ _ _
  have HG := Lib.hid hG
  have hC := checkF_any w2 (h.below hB)
  rw [hc, hf] at hC
  have HC := Lib.hid hC
  have HSt : Hid (∀ {w3 : World}, Below w2.heap.size w2 w3 → ES (w3.alloc (.cells #[.slice none 0 0] 59)) w3.heap.size none xb ⟨6, i, t, n, c, fi, dt, ci, sp, dl, e0, e1, e2⟩ ⟨da, dc, ca, cc, sa, sc⟩ (w3.alloc (.cells #[.slice none 0 0] 59)) [] none 0) := Lib.hid (fun hb => ES.start (by rw [hf]; exact HG.out.kept (X := none') (Kept.of_below hb) (fun h => h)) ((h.below hB).below hb) (hl.mono (by have := hB.size; have := hb.size; omega)))
  have HCs : Hid (∀ {w4 w' : World} {g : Nat} {b' : List UInt8} {ba' : Option Addr} {bc' : Nat}, ES w4 g none xb ⟨6, i, t, n, c, fi, dt, ci, sp, dl, e0, e1, e2⟩ ⟨da, dc, ca, cc, sa, sc⟩ w' b' ba' bc' → Has w' xb 26 [.int .i64 6, .int .i64 i, .int .i64 t, .int .i64 n, .int .i64 c, .bool fi, .slice da dn dc, .slice ca cn cc, .slice sa sn sc, .int .i64 dl, .int .i64 e0, .int .i64 e1, .int .i64 e2]) := Lib.hid (fun h => by rw [← hf]; exact h.box)
  have HTx : Hid (∀ {w4 w' : World} {g : Nat} {b' : List UInt8} {ba' : Option Addr} {bc' : Nat}, ES w4 g none xb ⟨6, i, t, n, c, fi, dt, ci, sp, dl, e0, e1, e2⟩ ⟨da, dc, ca, cc, sa, sc⟩ w' b' ba' bc' → b'.length ≤ 900000000 → Calls Try.prog 31 #[.pointer (some ⟨g, 0, none⟩), .slice da dn dc] w' (ESR w4 g none xb ⟨6, i, t, n, c, fi, dt, ci, sp, dl, e0, e1, e2⟩ ⟨da, dc, ca, cc, sa, sc⟩ (b' ++ (vl dt.length ++ dt)))) := Lib.hid (fun h hl => by rw [hdn]; exact h.data (Nat.le_trans hd (by decide)) hl)
  rw [← hR, hf]
  have HR := Lib.hid hR
  have HB := Lib.hid hB
  have HD := Lib.hid hd
  have HDn := Lib.hid hdn
  have HCn := Lib.hid hcn
  have HSn := Lib.hid hsn
  have HF := Lib.hid hf
  clear hR hf hdn hcn hsn hB hG hC h hl hd
  have hr_t : numB t = true := by simp at hr; exact hr.1
  go_enter Try.func12, Try.ntmps12
  go_upto_region 1 with fail
  rw [← hw2, ← hxb]
  clear hw2 hxb
  have g0 := HG.out.cell 0 rfl
  have g1 := HG.out.cell 1 rfl
  have g2 := HG.out.cell 2 rfl
  have g3 := HG.out.cell 3 rfl
  have g4 := HG.out.cell 4 rfl
  have g5 := HG.out.cell 5 rfl
  have g6 := HG.out.cell 6 rfl
  have g7 := HG.out.cell 7 rfl
  have g8 := HG.out.cell 8 rfl
  have g9 := HG.out.cell 9 rfl
  have g10 := HG.out.cell 10 rfl
  have g11 := HG.out.cell 11 rfl
  have g12 := HG.out.cell 12 rfl
  go_upto_region 4 with (refine HC.out.mono ?_; rintro e w3 ⟨rfl, hb3⟩)
  obtain ⟨g, hg⟩ : ∃ g, g = w3.heap.size := ⟨_, rfl⟩
  obtain ⟨w4, hw4⟩ : ∃ w4, w4 = w3.alloc (.cells #[.slice none 0 0] 59) := ⟨_, rfl⟩
  have HE0 := Lib.hid (HSt.out hb3)
  rw [← hw4, ← hg] at HE0
  have HB4 : Hid (Below w.heap.size w w4) := Lib.hid (by rw [hw4]; exact (HB.out.trans (hb3.mono HB.out.size)).alloc (by have := HB.out.size; have := hb3.size; omega) _)
  have HG4 : Hid (w.heap.size ≤ g) := Lib.hid (by rw [hg]; have := HB.out.size; have := hb3.size; omega)
  clear hb3 g0 g1 g2 g3 g4 g5 g6 g7 g8 g9 g10 g11 g12
  go_upto_region 5 with fail
  rw [← hw4, ← hg]
  clear hw4 hg
  have HL0 : Hid (([] : List UInt8).length ≤ 0) := Lib.hid (Nat.le_refl _)
  have H1 := Lib.hid (HE0.out.nums1 6 (le_big HL0.out (by decide)).1 rfl)
  have g0 := (HCs.out HE0.out).cell 0 rfl
  have g1 := (HCs.out HE0.out).cell 1 rfl
  have g2 := (HCs.out HE0.out).cell 2 rfl
  have g3 := (HCs.out HE0.out).cell 3 rfl
  have g4 := (HCs.out HE0.out).cell 4 rfl
  have g5 := (HCs.out HE0.out).cell 5 rfl
  have g6 := (HCs.out HE0.out).cell 6 rfl
  have g7 := (HCs.out HE0.out).cell 7 rfl
  have g8 := (HCs.out HE0.out).cell 8 rfl
  have g9 := (HCs.out HE0.out).cell 9 rfl
  have g10 := (HCs.out HE0.out).cell 10 rfl
  have g11 := (HCs.out HE0.out).cell 11 rfl
  have g12 := (HCs.out HE0.out).cell 12 rfl
  go_wp2_with fail
  refine H1.out.mono ?_
  rintro e v1 ⟨rfl, ba1, bc1, hE⟩
  have HE1 := Lib.hid hE
  have HL1 : Hid (([] ++ nB [6]).length ≤ 8) := Lib.hid (len_nums HL0.out rfl)
  clear hE g0 g1 g2 g3 g4 g5 g6 g7 g8 g9 g10 g11 g12
  have H2 := Lib.hid (HE1.out.nums1 t (le_big HL1.out (by decide)).1 hr_t)
  have g0 := (HCs.out HE1.out).cell 0 rfl
  have g1 := (HCs.out HE1.out).cell 1 rfl
  have g2 := (HCs.out HE1.out).cell 2 rfl
  have g3 := (HCs.out HE1.out).cell 3 rfl
  have g4 := (HCs.out HE1.out).cell 4 rfl
  have g5 := (HCs.out HE1.out).cell 5 rfl
  have g6 := (HCs.out HE1.out).cell 6 rfl
  have g7 := (HCs.out HE1.out).cell 7 rfl
  have g8 := (HCs.out HE1.out).cell 8 rfl
  have g9 := (HCs.out HE1.out).cell 9 rfl
  have g10 := (HCs.out HE1.out).cell 10 rfl
  have g11 := (HCs.out HE1.out).cell 11 rfl
  have g12 := (HCs.out HE1.out).cell 12 rfl
  go_wp2_with fail
  refine H2.out.mono ?_
  rintro e v2 ⟨rfl, ba2, bc2, hE⟩
  have HE2 := Lib.hid hE
  have HL2 : Hid ((([] ++ nB [6]) ++ nB [t]).length ≤ 16) := Lib.hid (len_nums HL1.out rfl)
  clear hE g0 g1 g2 g3 g4 g5 g6 g7 g8 g9 g10 g11 g12
  have H3 := Lib.hid (HTx.out HE2.out (le_big HL2.out (by decide)).2.1)
  have g0 := (HCs.out HE2.out).cell 0 rfl
  have g1 := (HCs.out HE2.out).cell 1 rfl
  have g2 := (HCs.out HE2.out).cell 2 rfl
  have g3 := (HCs.out HE2.out).cell 3 rfl
  have g4 := (HCs.out HE2.out).cell 4 rfl
  have g5 := (HCs.out HE2.out).cell 5 rfl
  have g6 := (HCs.out HE2.out).cell 6 rfl
  have g7 := (HCs.out HE2.out).cell 7 rfl
  have g8 := (HCs.out HE2.out).cell 8 rfl
  have g9 := (HCs.out HE2.out).cell 9 rfl
  have g10 := (HCs.out HE2.out).cell 10 rfl
  have g11 := (HCs.out HE2.out).cell 11 rfl
  have g12 := (HCs.out HE2.out).cell 12 rfl
  go_wp2_with fail
  refine H3.out.mono ?_
  rintro e v3 ⟨rfl, ba3, bc3, hE⟩
  have HE3 := Lib.hid hE
  have HL3 : Hid (((([] ++ nB [6]) ++ nB [t]) ++ (vl dt.length ++ dt)).length ≤ 16408) := Lib.hid (len_app HL2.out (n := 16392) (by rw [List.length_append, vl_length]; have := (szN_pos dt.length).2; have := HD.out; omega) rfl)
  clear hE g0 g1 g2 g3 g4 g5 g6 g7 g8 g9 g10 g11 g12
  obtain ⟨bb, hbb⟩ : ∃ bb, bb = ((([] ++ nB [6]) ++ nB [t]) ++ (vl dt.length ++ dt)) := ⟨_, rfl⟩
  rw [← hbb] at HE3
  have HBb := Lib.hid hbb
  clear hbb
  have q0 := HE3.out.wb.has.cell 0 rfl
  have g0 := (HCs.out HE3.out).cell 0 rfl
  have g1 := (HCs.out HE3.out).cell 1 rfl
  have g2 := (HCs.out HE3.out).cell 2 rfl
  have g3 := (HCs.out HE3.out).cell 3 rfl
  have g4 := (HCs.out HE3.out).cell 4 rfl
  have g5 := (HCs.out HE3.out).cell 5 rfl
  have g6 := (HCs.out HE3.out).cell 6 rfl
  have g7 := (HCs.out HE3.out).cell 7 rfl
  have g8 := (HCs.out HE3.out).cell 8 rfl
  have g9 := (HCs.out HE3.out).cell 9 rfl
  have g10 := (HCs.out HE3.out).cell 10 rfl
  have g11 := (HCs.out HE3.out).cell 11 rfl
  have g12 := (HCs.out HE3.out).cell 12 rfl
  go_wp2
  go_ret2
  exact HE3.out.ret HB4.out HG4.out (by rw [HR.out, HBb.out]; simp [encB, itmB, txtB]) rfl

set_option maxRecDepth 100000 in
set_option maxHeartbeats 4000000 in
theorem enc_7 (w : World) (i t n c : Int) (fi : Bool) (dt ci : List UInt8) (sp : List Sn) (dl e0 e1 e2 : Int) (da : Option Addr) (dc : Nat) (ca : Option Addr) (cc : Nat) (sa : Option Addr) (sc : Nat) (h : FIn w ⟨7, i, t, n, c, fi, dt, ci, sp, dl, e0, e1, e2⟩ ⟨da, dc, ca, cc, sa, sc⟩) (hl : FLow w.heap.size ⟨da, dc, ca, cc, sa, sc⟩) (hc : chkF ⟨7, i, t, n, c, fi, dt, ci, sp, dl, e0, e1, e2⟩ = 0) :
    Calls Try.prog 12 #[.agg (fcells ⟨7, i, t, n, c, fi, dt, ci, sp, dl, e0, e1, e2⟩ ⟨da, dc, ca, cc, sa, sc⟩).toArray] w (RetBE w.heap.size w (encB ⟨7, i, t, n, c, fi, dt, ci, sp, dl, e0, e1, e2⟩, 0)) := by
  obtain ⟨_, hd, hr⟩ := chk0 hc
  have hr : decide (0 < dt.length) = true := hr
  have hd : dt.length ≤ 16384 := hd
  obtain ⟨R, hR⟩ : ∃ R, R = encB ⟨7, i, t, n, c, fi, dt, ci, sp, dl, e0, e1, e2⟩ := ⟨_, rfl⟩
  obtain ⟨dn, hdn⟩ : ∃ dn, dn = dt.length := ⟨_, rfl⟩
  obtain ⟨cn, hcn⟩ : ∃ cn, cn = ci.length := ⟨_, rfl⟩
  obtain ⟨sn, hsn⟩ : ∃ sn, sn = sp.length := ⟨_, rfl⟩
  have hf : fcells ⟨7, i, t, n, c, fi, dt, ci, sp, dl, e0, e1, e2⟩ ⟨da, dc, ca, cc, sa, sc⟩ = [.int .i64 7, .int .i64 i, .int .i64 t, .int .i64 n, .int .i64 c, .bool fi, .slice da dn dc, .slice ca cn cc, .slice sa sn sc, .int .i64 dl, .int .i64 e0, .int .i64 e1, .int .i64 e2] := by rw [hdn, hcn, hsn]; rfl
  obtain ⟨w2, hw2⟩ : ∃ w2, w2 = w.alloc (.cells #[.int .i64 7, .int .i64 i, .int .i64 t, .int .i64 n, .int .i64 c, .bool fi, .slice da dn dc, .slice ca cn cc, .slice sa sn sc, .int .i64 dl, .int .i64 e0, .int .i64 e1, .int .i64 e2] 26) := ⟨_, rfl⟩
  have hB : Below w.heap.size w w2 := by rw [hw2]; exact alB w _
  obtain ⟨xb, hxb⟩ : ∃ xb, xb = w.heap.size := ⟨_, rfl⟩
  have hG : Has w2 xb 26 [.int .i64 7, .int .i64 i, .int .i64 t, .int .i64 n, .int .i64 c, .bool fi, .slice da dn dc, .slice ca cn cc, .slice sa sn sc, .int .i64 dl, .int .i64 e0, .int .i64 e1, .int .i64 e2] := by rw [hw2, hxb]; exact Has.new _ _ _
  have HG := Lib.hid hG
  have hC := checkF_any w2 (h.below hB)
  rw [hc, hf] at hC
  have HC := Lib.hid hC
  have HSt : Hid (∀ {w3 : World}, Below w2.heap.size w2 w3 → ES (w3.alloc (.cells #[.slice none 0 0] 59)) w3.heap.size none xb ⟨7, i, t, n, c, fi, dt, ci, sp, dl, e0, e1, e2⟩ ⟨da, dc, ca, cc, sa, sc⟩ (w3.alloc (.cells #[.slice none 0 0] 59)) [] none 0) := Lib.hid (fun hb => ES.start (by rw [hf]; exact HG.out.kept (X := none') (Kept.of_below hb) (fun h => h)) ((h.below hB).below hb) (hl.mono (by have := hB.size; have := hb.size; omega)))
  have HCs : Hid (∀ {w4 w' : World} {g : Nat} {b' : List UInt8} {ba' : Option Addr} {bc' : Nat}, ES w4 g none xb ⟨7, i, t, n, c, fi, dt, ci, sp, dl, e0, e1, e2⟩ ⟨da, dc, ca, cc, sa, sc⟩ w' b' ba' bc' → Has w' xb 26 [.int .i64 7, .int .i64 i, .int .i64 t, .int .i64 n, .int .i64 c, .bool fi, .slice da dn dc, .slice ca cn cc, .slice sa sn sc, .int .i64 dl, .int .i64 e0, .int .i64 e1, .int .i64 e2]) := Lib.hid (fun h => by rw [← hf]; exact h.box)
  have HTx : Hid (∀ {w4 w' : World} {g : Nat} {b' : List UInt8} {ba' : Option Addr} {bc' : Nat}, ES w4 g none xb ⟨7, i, t, n, c, fi, dt, ci, sp, dl, e0, e1, e2⟩ ⟨da, dc, ca, cc, sa, sc⟩ w' b' ba' bc' → b'.length ≤ 900000000 → Calls Try.prog 31 #[.pointer (some ⟨g, 0, none⟩), .slice da dn dc] w' (ESR w4 g none xb ⟨7, i, t, n, c, fi, dt, ci, sp, dl, e0, e1, e2⟩ ⟨da, dc, ca, cc, sa, sc⟩ (b' ++ (vl dt.length ++ dt)))) := Lib.hid (fun h hl => by rw [hdn]; exact h.data (Nat.le_trans hd (by decide)) hl)
  rw [← hR, hf]
  have HR := Lib.hid hR
  have HB := Lib.hid hB
  have HD := Lib.hid hd
  have HDn := Lib.hid hdn
  have HCn := Lib.hid hcn
  have HSn := Lib.hid hsn
  have HF := Lib.hid hf
  clear hR hf hdn hcn hsn hB hG hC h hl hd
  go_enter Try.func12, Try.ntmps12
  go_upto_region 1 with fail
  rw [← hw2, ← hxb]
  clear hw2 hxb
  have g0 := HG.out.cell 0 rfl
  have g1 := HG.out.cell 1 rfl
  have g2 := HG.out.cell 2 rfl
  have g3 := HG.out.cell 3 rfl
  have g4 := HG.out.cell 4 rfl
  have g5 := HG.out.cell 5 rfl
  have g6 := HG.out.cell 6 rfl
  have g7 := HG.out.cell 7 rfl
  have g8 := HG.out.cell 8 rfl
  have g9 := HG.out.cell 9 rfl
  have g10 := HG.out.cell 10 rfl
  have g11 := HG.out.cell 11 rfl
  have g12 := HG.out.cell 12 rfl
  go_upto_region 4 with (refine HC.out.mono ?_; rintro e w3 ⟨rfl, hb3⟩)
  obtain ⟨g, hg⟩ : ∃ g, g = w3.heap.size := ⟨_, rfl⟩
  obtain ⟨w4, hw4⟩ : ∃ w4, w4 = w3.alloc (.cells #[.slice none 0 0] 59) := ⟨_, rfl⟩
  have HE0 := Lib.hid (HSt.out hb3)
  rw [← hw4, ← hg] at HE0
  have HB4 : Hid (Below w.heap.size w w4) := Lib.hid (by rw [hw4]; exact (HB.out.trans (hb3.mono HB.out.size)).alloc (by have := HB.out.size; have := hb3.size; omega) _)
  have HG4 : Hid (w.heap.size ≤ g) := Lib.hid (by rw [hg]; have := HB.out.size; have := hb3.size; omega)
  clear hb3 g0 g1 g2 g3 g4 g5 g6 g7 g8 g9 g10 g11 g12
  go_upto_region 5 with fail
  rw [← hw4, ← hg]
  clear hw4 hg
  have HL0 : Hid (([] : List UInt8).length ≤ 0) := Lib.hid (Nat.le_refl _)
  have H1 := Lib.hid (HE0.out.nums1 7 (le_big HL0.out (by decide)).1 rfl)
  have g0 := (HCs.out HE0.out).cell 0 rfl
  have g1 := (HCs.out HE0.out).cell 1 rfl
  have g2 := (HCs.out HE0.out).cell 2 rfl
  have g3 := (HCs.out HE0.out).cell 3 rfl
  have g4 := (HCs.out HE0.out).cell 4 rfl
  have g5 := (HCs.out HE0.out).cell 5 rfl
  have g6 := (HCs.out HE0.out).cell 6 rfl
  have g7 := (HCs.out HE0.out).cell 7 rfl
  have g8 := (HCs.out HE0.out).cell 8 rfl
  have g9 := (HCs.out HE0.out).cell 9 rfl
  have g10 := (HCs.out HE0.out).cell 10 rfl
  have g11 := (HCs.out HE0.out).cell 11 rfl
  have g12 := (HCs.out HE0.out).cell 12 rfl
  go_wp2_with fail
  refine H1.out.mono ?_
  rintro e v1 ⟨rfl, ba1, bc1, hE⟩
  have HE1 := Lib.hid hE
  have HL1 : Hid (([] ++ nB [7]).length ≤ 8) := Lib.hid (len_nums HL0.out rfl)
  clear hE g0 g1 g2 g3 g4 g5 g6 g7 g8 g9 g10 g11 g12
  have H2 := Lib.hid (HTx.out HE1.out (le_big HL1.out (by decide)).2.1)
  have g0 := (HCs.out HE1.out).cell 0 rfl
  have g1 := (HCs.out HE1.out).cell 1 rfl
  have g2 := (HCs.out HE1.out).cell 2 rfl
  have g3 := (HCs.out HE1.out).cell 3 rfl
  have g4 := (HCs.out HE1.out).cell 4 rfl
  have g5 := (HCs.out HE1.out).cell 5 rfl
  have g6 := (HCs.out HE1.out).cell 6 rfl
  have g7 := (HCs.out HE1.out).cell 7 rfl
  have g8 := (HCs.out HE1.out).cell 8 rfl
  have g9 := (HCs.out HE1.out).cell 9 rfl
  have g10 := (HCs.out HE1.out).cell 10 rfl
  have g11 := (HCs.out HE1.out).cell 11 rfl
  have g12 := (HCs.out HE1.out).cell 12 rfl
  go_wp2_with fail
  refine H2.out.mono ?_
  rintro e v2 ⟨rfl, ba2, bc2, hE⟩
  have HE2 := Lib.hid hE
  have HL2 : Hid ((([] ++ nB [7]) ++ (vl dt.length ++ dt)).length ≤ 16400) := Lib.hid (len_app HL1.out (n := 16392) (by rw [List.length_append, vl_length]; have := (szN_pos dt.length).2; have := HD.out; omega) rfl)
  clear hE g0 g1 g2 g3 g4 g5 g6 g7 g8 g9 g10 g11 g12
  obtain ⟨bb, hbb⟩ : ∃ bb, bb = (([] ++ nB [7]) ++ (vl dt.length ++ dt)) := ⟨_, rfl⟩
  rw [← hbb] at HE2
  have HBb := Lib.hid hbb
  clear hbb
  have q0 := HE2.out.wb.has.cell 0 rfl
  have g0 := (HCs.out HE2.out).cell 0 rfl
  have g1 := (HCs.out HE2.out).cell 1 rfl
  have g2 := (HCs.out HE2.out).cell 2 rfl
  have g3 := (HCs.out HE2.out).cell 3 rfl
  have g4 := (HCs.out HE2.out).cell 4 rfl
  have g5 := (HCs.out HE2.out).cell 5 rfl
  have g6 := (HCs.out HE2.out).cell 6 rfl
  have g7 := (HCs.out HE2.out).cell 7 rfl
  have g8 := (HCs.out HE2.out).cell 8 rfl
  have g9 := (HCs.out HE2.out).cell 9 rfl
  have g10 := (HCs.out HE2.out).cell 10 rfl
  have g11 := (HCs.out HE2.out).cell 11 rfl
  have g12 := (HCs.out HE2.out).cell 12 rfl
  go_wp2
  go_ret2
  exact HE2.out.ret HB4.out HG4.out (by rw [HR.out, HBb.out]; simp [encB, itmB, txtB]) rfl

set_option maxRecDepth 100000 in
set_option maxHeartbeats 4000000 in
theorem enc_8 (w : World) (i t n c : Int) (fi : Bool) (dt ci : List UInt8) (sp : List Sn) (dl e0 e1 e2 : Int) (da : Option Addr) (dc : Nat) (ca : Option Addr) (cc : Nat) (sa : Option Addr) (sc : Nat) (h : FIn w ⟨8, i, t, n, c, fi, dt, ci, sp, dl, e0, e1, e2⟩ ⟨da, dc, ca, cc, sa, sc⟩) (hl : FLow w.heap.size ⟨da, dc, ca, cc, sa, sc⟩) (hc : chkF ⟨8, i, t, n, c, fi, dt, ci, sp, dl, e0, e1, e2⟩ = 0) :
    Calls Try.prog 12 #[.agg (fcells ⟨8, i, t, n, c, fi, dt, ci, sp, dl, e0, e1, e2⟩ ⟨da, dc, ca, cc, sa, sc⟩).toArray] w (RetBE w.heap.size w (encB ⟨8, i, t, n, c, fi, dt, ci, sp, dl, e0, e1, e2⟩, 0)) := by
  obtain ⟨_, hd, hr⟩ := chk0 hc
  have hr : ([i, t].all numB && decide (t ≤ 4611686018427387903 - (dt.length : Int))) = true := hr
  have hd : dt.length ≤ 16384 := hd
  obtain ⟨R, hR⟩ : ∃ R, R = encB ⟨8, i, t, n, c, fi, dt, ci, sp, dl, e0, e1, e2⟩ := ⟨_, rfl⟩
  obtain ⟨dn, hdn⟩ : ∃ dn, dn = dt.length := ⟨_, rfl⟩
  obtain ⟨cn, hcn⟩ : ∃ cn, cn = ci.length := ⟨_, rfl⟩
  obtain ⟨sn, hsn⟩ : ∃ sn, sn = sp.length := ⟨_, rfl⟩
  have hf : fcells ⟨8, i, t, n, c, fi, dt, ci, sp, dl, e0, e1, e2⟩ ⟨da, dc, ca, cc, sa, sc⟩ = [.int .i64 8, .int .i64 i, .int .i64 t, .int .i64 n, .int .i64 c, .bool fi, .slice da dn dc, .slice ca cn cc, .slice sa sn sc, .int .i64 dl, .int .i64 e0, .int .i64 e1, .int .i64 e2] := by rw [hdn, hcn, hsn]; rfl
  obtain ⟨w2, hw2⟩ : ∃ w2, w2 = w.alloc (.cells #[.int .i64 8, .int .i64 i, .int .i64 t, .int .i64 n, .int .i64 c, .bool fi, .slice da dn dc, .slice ca cn cc, .slice sa sn sc, .int .i64 dl, .int .i64 e0, .int .i64 e1, .int .i64 e2] 26) := ⟨_, rfl⟩
  have hB : Below w.heap.size w w2 := by rw [hw2]; exact alB w _
  obtain ⟨xb, hxb⟩ : ∃ xb, xb = w.heap.size := ⟨_, rfl⟩
  have hG : Has w2 xb 26 [.int .i64 8, .int .i64 i, .int .i64 t, .int .i64 n, .int .i64 c, .bool fi, .slice da dn dc, .slice ca cn cc, .slice sa sn sc, .int .i64 dl, .int .i64 e0, .int .i64 e1, .int .i64 e2] := by rw [hw2, hxb]; exact Has.new _ _ _
  have HG := Lib.hid hG
  have hC := checkF_any w2 (h.below hB)
  rw [hc, hf] at hC
  have HC := Lib.hid hC
  have HSt : Hid (∀ {w3 : World}, Below w2.heap.size w2 w3 → ES (w3.alloc (.cells #[.slice none 0 0] 59)) w3.heap.size none xb ⟨8, i, t, n, c, fi, dt, ci, sp, dl, e0, e1, e2⟩ ⟨da, dc, ca, cc, sa, sc⟩ (w3.alloc (.cells #[.slice none 0 0] 59)) [] none 0) := Lib.hid (fun hb => ES.start (by rw [hf]; exact HG.out.kept (X := none') (Kept.of_below hb) (fun h => h)) ((h.below hB).below hb) (hl.mono (by have := hB.size; have := hb.size; omega)))
  have HCs : Hid (∀ {w4 w' : World} {g : Nat} {b' : List UInt8} {ba' : Option Addr} {bc' : Nat}, ES w4 g none xb ⟨8, i, t, n, c, fi, dt, ci, sp, dl, e0, e1, e2⟩ ⟨da, dc, ca, cc, sa, sc⟩ w' b' ba' bc' → Has w' xb 26 [.int .i64 8, .int .i64 i, .int .i64 t, .int .i64 n, .int .i64 c, .bool fi, .slice da dn dc, .slice ca cn cc, .slice sa sn sc, .int .i64 dl, .int .i64 e0, .int .i64 e1, .int .i64 e2]) := Lib.hid (fun h => by rw [← hf]; exact h.box)
  have HTx : Hid (∀ {w4 w' : World} {g : Nat} {b' : List UInt8} {ba' : Option Addr} {bc' : Nat}, ES w4 g none xb ⟨8, i, t, n, c, fi, dt, ci, sp, dl, e0, e1, e2⟩ ⟨da, dc, ca, cc, sa, sc⟩ w' b' ba' bc' → b'.length ≤ 900000000 → Calls Try.prog 31 #[.pointer (some ⟨g, 0, none⟩), .slice da dn dc] w' (ESR w4 g none xb ⟨8, i, t, n, c, fi, dt, ci, sp, dl, e0, e1, e2⟩ ⟨da, dc, ca, cc, sa, sc⟩ (b' ++ (vl dt.length ++ dt)))) := Lib.hid (fun h hl => by rw [hdn]; exact h.data (Nat.le_trans hd (by decide)) hl)
  rw [← hR, hf]
  have HR := Lib.hid hR
  have HB := Lib.hid hB
  have HD := Lib.hid hd
  have HDn := Lib.hid hdn
  have HCn := Lib.hid hcn
  have HSn := Lib.hid hsn
  have HF := Lib.hid hf
  clear hR hf hdn hcn hsn hB hG hC h hl hd
  obtain ⟨⟨hr1, hr2⟩, _⟩ : (numB i = true ∧ numB t = true) ∧ _ := by simpa using hr
  have HSm : Hid (∀ {w4 w' : World} {g : Nat} {b' : List UInt8} {ba' : Option Addr} {bc' : Nat}, ES w4 g none xb ⟨8, i, t, n, c, fi, dt, ci, sp, dl, e0, e1, e2⟩ ⟨da, dc, ca, cc, sa, sc⟩ w' b' ba' bc' → b'.length ≤ 100000000 → Calls Try.prog 32 #[.pointer (some ⟨g, 0, none⟩), .agg #[.int .i64 8, .int .i64 i, .int .i64 t, .int .i64 n, .int .i64 c, .bool fi, .slice da dn dc, .slice ca cn cc, .slice sa sn sc, .int .i64 dl, .int .i64 e0, .int .i64 e1, .int .i64 e2]] w' (ESR w4 g none xb ⟨8, i, t, n, c, fi, dt, ci, sp, dl, e0, e1, e2⟩ ⟨da, dc, ca, cc, sa, sc⟩ (b' ++ stmB ⟨8, i, t, n, c, fi, dt, ci, sp, dl, e0, e1, e2⟩))) := Lib.hid (fun h hb => by
    have h9 := h.strm (Nat.le_trans HD.out (by decide)) hb hr1 hr2
    rw [HF.out] at h9
    exact h9)
  go_enter Try.func12, Try.ntmps12
  go_upto_region 1 with fail
  rw [← hw2, ← hxb]
  clear hw2 hxb
  have g0 := HG.out.cell 0 rfl
  have g1 := HG.out.cell 1 rfl
  have g2 := HG.out.cell 2 rfl
  have g3 := HG.out.cell 3 rfl
  have g4 := HG.out.cell 4 rfl
  have g5 := HG.out.cell 5 rfl
  have g6 := HG.out.cell 6 rfl
  have g7 := HG.out.cell 7 rfl
  have g8 := HG.out.cell 8 rfl
  have g9 := HG.out.cell 9 rfl
  have g10 := HG.out.cell 10 rfl
  have g11 := HG.out.cell 11 rfl
  have g12 := HG.out.cell 12 rfl
  go_upto_region 4 with (refine HC.out.mono ?_; rintro e w3 ⟨rfl, hb3⟩)
  obtain ⟨g, hg⟩ : ∃ g, g = w3.heap.size := ⟨_, rfl⟩
  obtain ⟨w4, hw4⟩ : ∃ w4, w4 = w3.alloc (.cells #[.slice none 0 0] 59) := ⟨_, rfl⟩
  have HE0 := Lib.hid (HSt.out hb3)
  rw [← hw4, ← hg] at HE0
  have HB4 : Hid (Below w.heap.size w w4) := Lib.hid (by rw [hw4]; exact (HB.out.trans (hb3.mono HB.out.size)).alloc (by have := HB.out.size; have := hb3.size; omega) _)
  have HG4 : Hid (w.heap.size ≤ g) := Lib.hid (by rw [hg]; have := HB.out.size; have := hb3.size; omega)
  clear hb3 g0 g1 g2 g3 g4 g5 g6 g7 g8 g9 g10 g11 g12
  go_upto_region 5 with fail
  rw [← hw4, ← hg]
  clear hw4 hg
  have HL0 : Hid (([] : List UInt8).length ≤ 0) := Lib.hid (Nat.le_refl _)
  have H1 := Lib.hid (HSm.out HE0.out (le_big HL0.out (by decide)).2.2)
  have g0 := (HCs.out HE0.out).cell 0 rfl
  have g1 := (HCs.out HE0.out).cell 1 rfl
  have g2 := (HCs.out HE0.out).cell 2 rfl
  have g3 := (HCs.out HE0.out).cell 3 rfl
  have g4 := (HCs.out HE0.out).cell 4 rfl
  have g5 := (HCs.out HE0.out).cell 5 rfl
  have g6 := (HCs.out HE0.out).cell 6 rfl
  have g7 := (HCs.out HE0.out).cell 7 rfl
  have g8 := (HCs.out HE0.out).cell 8 rfl
  have g9 := (HCs.out HE0.out).cell 9 rfl
  have g10 := (HCs.out HE0.out).cell 10 rfl
  have g11 := (HCs.out HE0.out).cell 11 rfl
  have g12 := (HCs.out HE0.out).cell 12 rfl
  go_wp2_with fail
  refine H1.out.mono ?_
  rintro e v1 ⟨rfl, ba1, bc1, hE⟩
  have HE1 := Lib.hid hE
  clear hE g0 g1 g2 g3 g4 g5 g6 g7 g8 g9 g10 g11 g12
  obtain ⟨bb, hbb⟩ : ∃ bb, bb = ([] ++ stmB ⟨8, i, t, n, c, fi, dt, ci, sp, dl, e0, e1, e2⟩) := ⟨_, rfl⟩
  rw [← hbb] at HE1
  have HBb := Lib.hid hbb
  clear hbb
  have q0 := HE1.out.wb.has.cell 0 rfl
  have g0 := (HCs.out HE1.out).cell 0 rfl
  have g1 := (HCs.out HE1.out).cell 1 rfl
  have g2 := (HCs.out HE1.out).cell 2 rfl
  have g3 := (HCs.out HE1.out).cell 3 rfl
  have g4 := (HCs.out HE1.out).cell 4 rfl
  have g5 := (HCs.out HE1.out).cell 5 rfl
  have g6 := (HCs.out HE1.out).cell 6 rfl
  have g7 := (HCs.out HE1.out).cell 7 rfl
  have g8 := (HCs.out HE1.out).cell 8 rfl
  have g9 := (HCs.out HE1.out).cell 9 rfl
  have g10 := (HCs.out HE1.out).cell 10 rfl
  have g11 := (HCs.out HE1.out).cell 11 rfl
  have g12 := (HCs.out HE1.out).cell 12 rfl
  go_wp2
  go_ret2
  exact HE1.out.ret HB4.out HG4.out (by rw [HR.out, HBb.out]; simp [encB]) rfl

set_option maxRecDepth 100000 in
set_option maxHeartbeats 4000000 in
theorem enc_16 (w : World) (i t n c : Int) (fi : Bool) (dt ci : List UInt8) (sp : List Sn) (dl e0 e1 e2 : Int) (da : Option Addr) (dc : Nat) (ca : Option Addr) (cc : Nat) (sa : Option Addr) (sc : Nat) (h : FIn w ⟨16, i, t, n, c, fi, dt, ci, sp, dl, e0, e1, e2⟩ ⟨da, dc, ca, cc, sa, sc⟩) (hl : FLow w.heap.size ⟨da, dc, ca, cc, sa, sc⟩) (hc : chkF ⟨16, i, t, n, c, fi, dt, ci, sp, dl, e0, e1, e2⟩ = 0) :
    Calls Try.prog 12 #[.agg (fcells ⟨16, i, t, n, c, fi, dt, ci, sp, dl, e0, e1, e2⟩ ⟨da, dc, ca, cc, sa, sc⟩).toArray] w (RetBE w.heap.size w (encB ⟨16, i, t, n, c, fi, dt, ci, sp, dl, e0, e1, e2⟩, 0)) := by
  obtain ⟨_, hd, hr⟩ := chk0 hc
  have hr : [n].all numB = true := hr
  have hd : dt.length ≤ 16384 := hd
  obtain ⟨R, hR⟩ : ∃ R, R = encB ⟨16, i, t, n, c, fi, dt, ci, sp, dl, e0, e1, e2⟩ := ⟨_, rfl⟩
  obtain ⟨dn, hdn⟩ : ∃ dn, dn = dt.length := ⟨_, rfl⟩
  obtain ⟨cn, hcn⟩ : ∃ cn, cn = ci.length := ⟨_, rfl⟩
  obtain ⟨sn, hsn⟩ : ∃ sn, sn = sp.length := ⟨_, rfl⟩
  have hf : fcells ⟨16, i, t, n, c, fi, dt, ci, sp, dl, e0, e1, e2⟩ ⟨da, dc, ca, cc, sa, sc⟩ = [.int .i64 16, .int .i64 i, .int .i64 t, .int .i64 n, .int .i64 c, .bool fi, .slice da dn dc, .slice ca cn cc, .slice sa sn sc, .int .i64 dl, .int .i64 e0, .int .i64 e1, .int .i64 e2] := by rw [hdn, hcn, hsn]; rfl
  obtain ⟨w2, hw2⟩ : ∃ w2, w2 = w.alloc (.cells #[.int .i64 16, .int .i64 i, .int .i64 t, .int .i64 n, .int .i64 c, .bool fi, .slice da dn dc, .slice ca cn cc, .slice sa sn sc, .int .i64 dl, .int .i64 e0, .int .i64 e1, .int .i64 e2] 26) := ⟨_, rfl⟩
  have hB : Below w.heap.size w w2 := by rw [hw2]; exact alB w _
  obtain ⟨xb, hxb⟩ : ∃ xb, xb = w.heap.size := ⟨_, rfl⟩
  have hG : Has w2 xb 26 [.int .i64 16, .int .i64 i, .int .i64 t, .int .i64 n, .int .i64 c, .bool fi, .slice da dn dc, .slice ca cn cc, .slice sa sn sc, .int .i64 dl, .int .i64 e0, .int .i64 e1, .int .i64 e2] := by rw [hw2, hxb]; exact Has.new _ _ _
  have HG := Lib.hid hG
  have hC := checkF_any w2 (h.below hB)
  rw [hc, hf] at hC
  have HC := Lib.hid hC
  have HSt : Hid (∀ {w3 : World}, Below w2.heap.size w2 w3 → ES (w3.alloc (.cells #[.slice none 0 0] 59)) w3.heap.size none xb ⟨16, i, t, n, c, fi, dt, ci, sp, dl, e0, e1, e2⟩ ⟨da, dc, ca, cc, sa, sc⟩ (w3.alloc (.cells #[.slice none 0 0] 59)) [] none 0) := Lib.hid (fun hb => ES.start (by rw [hf]; exact HG.out.kept (X := none') (Kept.of_below hb) (fun h => h)) ((h.below hB).below hb) (hl.mono (by have := hB.size; have := hb.size; omega)))
  have HCs : Hid (∀ {w4 w' : World} {g : Nat} {b' : List UInt8} {ba' : Option Addr} {bc' : Nat}, ES w4 g none xb ⟨16, i, t, n, c, fi, dt, ci, sp, dl, e0, e1, e2⟩ ⟨da, dc, ca, cc, sa, sc⟩ w' b' ba' bc' → Has w' xb 26 [.int .i64 16, .int .i64 i, .int .i64 t, .int .i64 n, .int .i64 c, .bool fi, .slice da dn dc, .slice ca cn cc, .slice sa sn sc, .int .i64 dl, .int .i64 e0, .int .i64 e1, .int .i64 e2]) := Lib.hid (fun h => by rw [← hf]; exact h.box)
  have HTx : Hid (∀ {w4 w' : World} {g : Nat} {b' : List UInt8} {ba' : Option Addr} {bc' : Nat}, ES w4 g none xb ⟨16, i, t, n, c, fi, dt, ci, sp, dl, e0, e1, e2⟩ ⟨da, dc, ca, cc, sa, sc⟩ w' b' ba' bc' → b'.length ≤ 900000000 → Calls Try.prog 31 #[.pointer (some ⟨g, 0, none⟩), .slice da dn dc] w' (ESR w4 g none xb ⟨16, i, t, n, c, fi, dt, ci, sp, dl, e0, e1, e2⟩ ⟨da, dc, ca, cc, sa, sc⟩ (b' ++ (vl dt.length ++ dt)))) := Lib.hid (fun h hl => by rw [hdn]; exact h.data (Nat.le_trans hd (by decide)) hl)
  rw [← hR, hf]
  have HR := Lib.hid hR
  have HB := Lib.hid hB
  have HD := Lib.hid hd
  have HDn := Lib.hid hdn
  have HCn := Lib.hid hcn
  have HSn := Lib.hid hsn
  have HF := Lib.hid hf
  clear hR hf hdn hcn hsn hB hG hC h hl hd
  have hr_n : numB n = true := by simpa using hr
  go_enter Try.func12, Try.ntmps12
  go_upto_region 1 with fail
  rw [← hw2, ← hxb]
  clear hw2 hxb
  have g0 := HG.out.cell 0 rfl
  have g1 := HG.out.cell 1 rfl
  have g2 := HG.out.cell 2 rfl
  have g3 := HG.out.cell 3 rfl
  have g4 := HG.out.cell 4 rfl
  have g5 := HG.out.cell 5 rfl
  have g6 := HG.out.cell 6 rfl
  have g7 := HG.out.cell 7 rfl
  have g8 := HG.out.cell 8 rfl
  have g9 := HG.out.cell 9 rfl
  have g10 := HG.out.cell 10 rfl
  have g11 := HG.out.cell 11 rfl
  have g12 := HG.out.cell 12 rfl
  go_upto_region 4 with (refine HC.out.mono ?_; rintro e w3 ⟨rfl, hb3⟩)
  obtain ⟨g, hg⟩ : ∃ g, g = w3.heap.size := ⟨_, rfl⟩
  obtain ⟨w4, hw4⟩ : ∃ w4, w4 = w3.alloc (.cells #[.slice none 0 0] 59) := ⟨_, rfl⟩
  have HE0 := Lib.hid (HSt.out hb3)
  rw [← hw4, ← hg] at HE0
  have HB4 : Hid (Below w.heap.size w w4) := Lib.hid (by rw [hw4]; exact (HB.out.trans (hb3.mono HB.out.size)).alloc (by have := HB.out.size; have := hb3.size; omega) _)
  have HG4 : Hid (w.heap.size ≤ g) := Lib.hid (by rw [hg]; have := HB.out.size; have := hb3.size; omega)
  clear hb3 g0 g1 g2 g3 g4 g5 g6 g7 g8 g9 g10 g11 g12
  go_upto_region 5 with fail
  rw [← hw4, ← hg]
  clear hw4 hg
  have HL0 : Hid (([] : List UInt8).length ≤ 0) := Lib.hid (Nat.le_refl _)
  have H1 := Lib.hid (HE0.out.nums1 16 (le_big HL0.out (by decide)).1 rfl)
  have g0 := (HCs.out HE0.out).cell 0 rfl
  have g1 := (HCs.out HE0.out).cell 1 rfl
  have g2 := (HCs.out HE0.out).cell 2 rfl
  have g3 := (HCs.out HE0.out).cell 3 rfl
  have g4 := (HCs.out HE0.out).cell 4 rfl
  have g5 := (HCs.out HE0.out).cell 5 rfl
  have g6 := (HCs.out HE0.out).cell 6 rfl
  have g7 := (HCs.out HE0.out).cell 7 rfl
  have g8 := (HCs.out HE0.out).cell 8 rfl
  have g9 := (HCs.out HE0.out).cell 9 rfl
  have g10 := (HCs.out HE0.out).cell 10 rfl
  have g11 := (HCs.out HE0.out).cell 11 rfl
  have g12 := (HCs.out HE0.out).cell 12 rfl
  go_wp2_with fail
  refine H1.out.mono ?_
  rintro e v1 ⟨rfl, ba1, bc1, hE⟩
  have HE1 := Lib.hid hE
  have HL1 : Hid (([] ++ nB [16]).length ≤ 8) := Lib.hid (len_nums HL0.out rfl)
  clear hE g0 g1 g2 g3 g4 g5 g6 g7 g8 g9 g10 g11 g12
  have H2 := Lib.hid (HE1.out.nums1 n (le_big HL1.out (by decide)).1 hr_n)
  have g0 := (HCs.out HE1.out).cell 0 rfl
  have g1 := (HCs.out HE1.out).cell 1 rfl
  have g2 := (HCs.out HE1.out).cell 2 rfl
  have g3 := (HCs.out HE1.out).cell 3 rfl
  have g4 := (HCs.out HE1.out).cell 4 rfl
  have g5 := (HCs.out HE1.out).cell 5 rfl
  have g6 := (HCs.out HE1.out).cell 6 rfl
  have g7 := (HCs.out HE1.out).cell 7 rfl
  have g8 := (HCs.out HE1.out).cell 8 rfl
  have g9 := (HCs.out HE1.out).cell 9 rfl
  have g10 := (HCs.out HE1.out).cell 10 rfl
  have g11 := (HCs.out HE1.out).cell 11 rfl
  have g12 := (HCs.out HE1.out).cell 12 rfl
  go_wp2_with fail
  refine H2.out.mono ?_
  rintro e v2 ⟨rfl, ba2, bc2, hE⟩
  have HE2 := Lib.hid hE
  have HL2 : Hid ((([] ++ nB [16]) ++ nB [n]).length ≤ 16) := Lib.hid (len_nums HL1.out rfl)
  clear hE g0 g1 g2 g3 g4 g5 g6 g7 g8 g9 g10 g11 g12
  obtain ⟨bb, hbb⟩ : ∃ bb, bb = (([] ++ nB [16]) ++ nB [n]) := ⟨_, rfl⟩
  rw [← hbb] at HE2
  have HBb := Lib.hid hbb
  clear hbb
  have q0 := HE2.out.wb.has.cell 0 rfl
  have g0 := (HCs.out HE2.out).cell 0 rfl
  have g1 := (HCs.out HE2.out).cell 1 rfl
  have g2 := (HCs.out HE2.out).cell 2 rfl
  have g3 := (HCs.out HE2.out).cell 3 rfl
  have g4 := (HCs.out HE2.out).cell 4 rfl
  have g5 := (HCs.out HE2.out).cell 5 rfl
  have g6 := (HCs.out HE2.out).cell 6 rfl
  have g7 := (HCs.out HE2.out).cell 7 rfl
  have g8 := (HCs.out HE2.out).cell 8 rfl
  have g9 := (HCs.out HE2.out).cell 9 rfl
  have g10 := (HCs.out HE2.out).cell 10 rfl
  have g11 := (HCs.out HE2.out).cell 11 rfl
  have g12 := (HCs.out HE2.out).cell 12 rfl
  go_wp2
  go_ret2
  exact HE2.out.ret HB4.out HG4.out (by rw [HR.out, HBb.out]; simp [encB, itmB]) rfl

set_option maxRecDepth 100000 in
set_option maxHeartbeats 4000000 in
theorem enc_17 (w : World) (i t n c : Int) (fi : Bool) (dt ci : List UInt8) (sp : List Sn) (dl e0 e1 e2 : Int) (da : Option Addr) (dc : Nat) (ca : Option Addr) (cc : Nat) (sa : Option Addr) (sc : Nat) (h : FIn w ⟨17, i, t, n, c, fi, dt, ci, sp, dl, e0, e1, e2⟩ ⟨da, dc, ca, cc, sa, sc⟩) (hl : FLow w.heap.size ⟨da, dc, ca, cc, sa, sc⟩) (hc : chkF ⟨17, i, t, n, c, fi, dt, ci, sp, dl, e0, e1, e2⟩ = 0) :
    Calls Try.prog 12 #[.agg (fcells ⟨17, i, t, n, c, fi, dt, ci, sp, dl, e0, e1, e2⟩ ⟨da, dc, ca, cc, sa, sc⟩).toArray] w (RetBE w.heap.size w (encB ⟨17, i, t, n, c, fi, dt, ci, sp, dl, e0, e1, e2⟩, 0)) := by
  obtain ⟨_, hd, hr⟩ := chk0 hc
  have hr : [i, n].all numB = true := hr
  have hd : dt.length ≤ 16384 := hd
  obtain ⟨R, hR⟩ : ∃ R, R = encB ⟨17, i, t, n, c, fi, dt, ci, sp, dl, e0, e1, e2⟩ := ⟨_, rfl⟩
  obtain ⟨dn, hdn⟩ : ∃ dn, dn = dt.length := ⟨_, rfl⟩
  obtain ⟨cn, hcn⟩ : ∃ cn, cn = ci.length := ⟨_, rfl⟩
  obtain ⟨sn, hsn⟩ : ∃ sn, sn = sp.length := ⟨_, rfl⟩
  have hf : fcells ⟨17, i, t, n, c, fi, dt, ci, sp, dl, e0, e1, e2⟩ ⟨da, dc, ca, cc, sa, sc⟩ = [.int .i64 17, .int .i64 i, .int .i64 t, .int .i64 n, .int .i64 c, .bool fi, .slice da dn dc, .slice ca cn cc, .slice sa sn sc, .int .i64 dl, .int .i64 e0, .int .i64 e1, .int .i64 e2] := by rw [hdn, hcn, hsn]; rfl
  obtain ⟨w2, hw2⟩ : ∃ w2, w2 = w.alloc (.cells #[.int .i64 17, .int .i64 i, .int .i64 t, .int .i64 n, .int .i64 c, .bool fi, .slice da dn dc, .slice ca cn cc, .slice sa sn sc, .int .i64 dl, .int .i64 e0, .int .i64 e1, .int .i64 e2] 26) := ⟨_, rfl⟩
  have hB : Below w.heap.size w w2 := by rw [hw2]; exact alB w _
  obtain ⟨xb, hxb⟩ : ∃ xb, xb = w.heap.size := ⟨_, rfl⟩
  have hG : Has w2 xb 26 [.int .i64 17, .int .i64 i, .int .i64 t, .int .i64 n, .int .i64 c, .bool fi, .slice da dn dc, .slice ca cn cc, .slice sa sn sc, .int .i64 dl, .int .i64 e0, .int .i64 e1, .int .i64 e2] := by rw [hw2, hxb]; exact Has.new _ _ _
  have HG := Lib.hid hG
  have hC := checkF_any w2 (h.below hB)
  rw [hc, hf] at hC
  have HC := Lib.hid hC
  have HSt : Hid (∀ {w3 : World}, Below w2.heap.size w2 w3 → ES (w3.alloc (.cells #[.slice none 0 0] 59)) w3.heap.size none xb ⟨17, i, t, n, c, fi, dt, ci, sp, dl, e0, e1, e2⟩ ⟨da, dc, ca, cc, sa, sc⟩ (w3.alloc (.cells #[.slice none 0 0] 59)) [] none 0) := Lib.hid (fun hb => ES.start (by rw [hf]; exact HG.out.kept (X := none') (Kept.of_below hb) (fun h => h)) ((h.below hB).below hb) (hl.mono (by have := hB.size; have := hb.size; omega)))
  have HCs : Hid (∀ {w4 w' : World} {g : Nat} {b' : List UInt8} {ba' : Option Addr} {bc' : Nat}, ES w4 g none xb ⟨17, i, t, n, c, fi, dt, ci, sp, dl, e0, e1, e2⟩ ⟨da, dc, ca, cc, sa, sc⟩ w' b' ba' bc' → Has w' xb 26 [.int .i64 17, .int .i64 i, .int .i64 t, .int .i64 n, .int .i64 c, .bool fi, .slice da dn dc, .slice ca cn cc, .slice sa sn sc, .int .i64 dl, .int .i64 e0, .int .i64 e1, .int .i64 e2]) := Lib.hid (fun h => by rw [← hf]; exact h.box)
  have HTx : Hid (∀ {w4 w' : World} {g : Nat} {b' : List UInt8} {ba' : Option Addr} {bc' : Nat}, ES w4 g none xb ⟨17, i, t, n, c, fi, dt, ci, sp, dl, e0, e1, e2⟩ ⟨da, dc, ca, cc, sa, sc⟩ w' b' ba' bc' → b'.length ≤ 900000000 → Calls Try.prog 31 #[.pointer (some ⟨g, 0, none⟩), .slice da dn dc] w' (ESR w4 g none xb ⟨17, i, t, n, c, fi, dt, ci, sp, dl, e0, e1, e2⟩ ⟨da, dc, ca, cc, sa, sc⟩ (b' ++ (vl dt.length ++ dt)))) := Lib.hid (fun h hl => by rw [hdn]; exact h.data (Nat.le_trans hd (by decide)) hl)
  rw [← hR, hf]
  have HR := Lib.hid hR
  have HB := Lib.hid hB
  have HD := Lib.hid hd
  have HDn := Lib.hid hdn
  have HCn := Lib.hid hcn
  have HSn := Lib.hid hsn
  have HF := Lib.hid hf
  clear hR hf hdn hcn hsn hB hG hC h hl hd
  obtain ⟨hr_i, hr_n⟩ : numB i = true ∧ numB n = true := by simpa using hr
  go_enter Try.func12, Try.ntmps12
  go_upto_region 1 with fail
  rw [← hw2, ← hxb]
  clear hw2 hxb
  have g0 := HG.out.cell 0 rfl
  have g1 := HG.out.cell 1 rfl
  have g2 := HG.out.cell 2 rfl
  have g3 := HG.out.cell 3 rfl
  have g4 := HG.out.cell 4 rfl
  have g5 := HG.out.cell 5 rfl
  have g6 := HG.out.cell 6 rfl
  have g7 := HG.out.cell 7 rfl
  have g8 := HG.out.cell 8 rfl
  have g9 := HG.out.cell 9 rfl
  have g10 := HG.out.cell 10 rfl
  have g11 := HG.out.cell 11 rfl
  have g12 := HG.out.cell 12 rfl
  go_upto_region 4 with (refine HC.out.mono ?_; rintro e w3 ⟨rfl, hb3⟩)
  obtain ⟨g, hg⟩ : ∃ g, g = w3.heap.size := ⟨_, rfl⟩
  obtain ⟨w4, hw4⟩ : ∃ w4, w4 = w3.alloc (.cells #[.slice none 0 0] 59) := ⟨_, rfl⟩
  have HE0 := Lib.hid (HSt.out hb3)
  rw [← hw4, ← hg] at HE0
  have HB4 : Hid (Below w.heap.size w w4) := Lib.hid (by rw [hw4]; exact (HB.out.trans (hb3.mono HB.out.size)).alloc (by have := HB.out.size; have := hb3.size; omega) _)
  have HG4 : Hid (w.heap.size ≤ g) := Lib.hid (by rw [hg]; have := HB.out.size; have := hb3.size; omega)
  clear hb3 g0 g1 g2 g3 g4 g5 g6 g7 g8 g9 g10 g11 g12
  go_upto_region 5 with fail
  rw [← hw4, ← hg]
  clear hw4 hg
  have HL0 : Hid (([] : List UInt8).length ≤ 0) := Lib.hid (Nat.le_refl _)
  have H1 := Lib.hid (HE0.out.nums1 17 (le_big HL0.out (by decide)).1 rfl)
  have g0 := (HCs.out HE0.out).cell 0 rfl
  have g1 := (HCs.out HE0.out).cell 1 rfl
  have g2 := (HCs.out HE0.out).cell 2 rfl
  have g3 := (HCs.out HE0.out).cell 3 rfl
  have g4 := (HCs.out HE0.out).cell 4 rfl
  have g5 := (HCs.out HE0.out).cell 5 rfl
  have g6 := (HCs.out HE0.out).cell 6 rfl
  have g7 := (HCs.out HE0.out).cell 7 rfl
  have g8 := (HCs.out HE0.out).cell 8 rfl
  have g9 := (HCs.out HE0.out).cell 9 rfl
  have g10 := (HCs.out HE0.out).cell 10 rfl
  have g11 := (HCs.out HE0.out).cell 11 rfl
  have g12 := (HCs.out HE0.out).cell 12 rfl
  go_wp2_with fail
  refine H1.out.mono ?_
  rintro e v1 ⟨rfl, ba1, bc1, hE⟩
  have HE1 := Lib.hid hE
  have HL1 : Hid (([] ++ nB [17]).length ≤ 8) := Lib.hid (len_nums HL0.out rfl)
  clear hE g0 g1 g2 g3 g4 g5 g6 g7 g8 g9 g10 g11 g12
  have H2 := Lib.hid (HE1.out.nums2 i n (le_big HL1.out (by decide)).1 hr_i hr_n)
  have g0 := (HCs.out HE1.out).cell 0 rfl
  have g1 := (HCs.out HE1.out).cell 1 rfl
  have g2 := (HCs.out HE1.out).cell 2 rfl
  have g3 := (HCs.out HE1.out).cell 3 rfl
  have g4 := (HCs.out HE1.out).cell 4 rfl
  have g5 := (HCs.out HE1.out).cell 5 rfl
  have g6 := (HCs.out HE1.out).cell 6 rfl
  have g7 := (HCs.out HE1.out).cell 7 rfl
  have g8 := (HCs.out HE1.out).cell 8 rfl
  have g9 := (HCs.out HE1.out).cell 9 rfl
  have g10 := (HCs.out HE1.out).cell 10 rfl
  have g11 := (HCs.out HE1.out).cell 11 rfl
  have g12 := (HCs.out HE1.out).cell 12 rfl
  go_wp2_with fail
  refine H2.out.mono ?_
  rintro e v2 ⟨rfl, ba2, bc2, hE⟩
  have HE2 := Lib.hid hE
  have HL2 : Hid ((([] ++ nB [17]) ++ nB [i, n]).length ≤ 24) := Lib.hid (len_nums HL1.out rfl)
  clear hE g0 g1 g2 g3 g4 g5 g6 g7 g8 g9 g10 g11 g12
  obtain ⟨bb, hbb⟩ : ∃ bb, bb = (([] ++ nB [17]) ++ nB [i, n]) := ⟨_, rfl⟩
  rw [← hbb] at HE2
  have HBb := Lib.hid hbb
  clear hbb
  have q0 := HE2.out.wb.has.cell 0 rfl
  have g0 := (HCs.out HE2.out).cell 0 rfl
  have g1 := (HCs.out HE2.out).cell 1 rfl
  have g2 := (HCs.out HE2.out).cell 2 rfl
  have g3 := (HCs.out HE2.out).cell 3 rfl
  have g4 := (HCs.out HE2.out).cell 4 rfl
  have g5 := (HCs.out HE2.out).cell 5 rfl
  have g6 := (HCs.out HE2.out).cell 6 rfl
  have g7 := (HCs.out HE2.out).cell 7 rfl
  have g8 := (HCs.out HE2.out).cell 8 rfl
  have g9 := (HCs.out HE2.out).cell 9 rfl
  have g10 := (HCs.out HE2.out).cell 10 rfl
  have g11 := (HCs.out HE2.out).cell 11 rfl
  have g12 := (HCs.out HE2.out).cell 12 rfl
  go_wp2
  go_ret2
  exact HE2.out.ret HB4.out HG4.out (by rw [HR.out, HBb.out]; simp [encB, itmB]) rfl

set_option maxRecDepth 100000 in
set_option maxHeartbeats 4000000 in
theorem enc_18 (w : World) (i t n c : Int) (fi : Bool) (dt ci : List UInt8) (sp : List Sn) (dl e0 e1 e2 : Int) (da : Option Addr) (dc : Nat) (ca : Option Addr) (cc : Nat) (sa : Option Addr) (sc : Nat) (h : FIn w ⟨18, i, t, n, c, fi, dt, ci, sp, dl, e0, e1, e2⟩ ⟨da, dc, ca, cc, sa, sc⟩) (hl : FLow w.heap.size ⟨da, dc, ca, cc, sa, sc⟩) (hc : chkF ⟨18, i, t, n, c, fi, dt, ci, sp, dl, e0, e1, e2⟩ = 0) :
    Calls Try.prog 12 #[.agg (fcells ⟨18, i, t, n, c, fi, dt, ci, sp, dl, e0, e1, e2⟩ ⟨da, dc, ca, cc, sa, sc⟩).toArray] w (RetBE w.heap.size w (encB ⟨18, i, t, n, c, fi, dt, ci, sp, dl, e0, e1, e2⟩, 0)) := by
  obtain ⟨_, hd, hr⟩ := chk0 hc
  have hr : (decide (0 ≤ n) && decide (n ≤ 1152921504606846976)) = true := hr
  have hd : dt.length ≤ 16384 := hd
  obtain ⟨R, hR⟩ : ∃ R, R = encB ⟨18, i, t, n, c, fi, dt, ci, sp, dl, e0, e1, e2⟩ := ⟨_, rfl⟩
  obtain ⟨dn, hdn⟩ : ∃ dn, dn = dt.length := ⟨_, rfl⟩
  obtain ⟨cn, hcn⟩ : ∃ cn, cn = ci.length := ⟨_, rfl⟩
  obtain ⟨sn, hsn⟩ : ∃ sn, sn = sp.length := ⟨_, rfl⟩
  have hf : fcells ⟨18, i, t, n, c, fi, dt, ci, sp, dl, e0, e1, e2⟩ ⟨da, dc, ca, cc, sa, sc⟩ = [.int .i64 18, .int .i64 i, .int .i64 t, .int .i64 n, .int .i64 c, .bool fi, .slice da dn dc, .slice ca cn cc, .slice sa sn sc, .int .i64 dl, .int .i64 e0, .int .i64 e1, .int .i64 e2] := by rw [hdn, hcn, hsn]; rfl
  obtain ⟨w2, hw2⟩ : ∃ w2, w2 = w.alloc (.cells #[.int .i64 18, .int .i64 i, .int .i64 t, .int .i64 n, .int .i64 c, .bool fi, .slice da dn dc, .slice ca cn cc, .slice sa sn sc, .int .i64 dl, .int .i64 e0, .int .i64 e1, .int .i64 e2] 26) := ⟨_, rfl⟩
  have hB : Below w.heap.size w w2 := by rw [hw2]; exact alB w _
  obtain ⟨xb, hxb⟩ : ∃ xb, xb = w.heap.size := ⟨_, rfl⟩
  have hG : Has w2 xb 26 [.int .i64 18, .int .i64 i, .int .i64 t, .int .i64 n, .int .i64 c, .bool fi, .slice da dn dc, .slice ca cn cc, .slice sa sn sc, .int .i64 dl, .int .i64 e0, .int .i64 e1, .int .i64 e2] := by rw [hw2, hxb]; exact Has.new _ _ _
  have HG := Lib.hid hG
  have hC := checkF_any w2 (h.below hB)
  rw [hc, hf] at hC
  have HC := Lib.hid hC
  have HSt : Hid (∀ {w3 : World}, Below w2.heap.size w2 w3 → ES (w3.alloc (.cells #[.slice none 0 0] 59)) w3.heap.size none xb ⟨18, i, t, n, c, fi, dt, ci, sp, dl, e0, e1, e2⟩ ⟨da, dc, ca, cc, sa, sc⟩ (w3.alloc (.cells #[.slice none 0 0] 59)) [] none 0) := Lib.hid (fun hb => ES.start (by rw [hf]; exact HG.out.kept (X := none') (Kept.of_below hb) (fun h => h)) ((h.below hB).below hb) (hl.mono (by have := hB.size; have := hb.size; omega)))
  have HCs : Hid (∀ {w4 w' : World} {g : Nat} {b' : List UInt8} {ba' : Option Addr} {bc' : Nat}, ES w4 g none xb ⟨18, i, t, n, c, fi, dt, ci, sp, dl, e0, e1, e2⟩ ⟨da, dc, ca, cc, sa, sc⟩ w' b' ba' bc' → Has w' xb 26 [.int .i64 18, .int .i64 i, .int .i64 t, .int .i64 n, .int .i64 c, .bool fi, .slice da dn dc, .slice ca cn cc, .slice sa sn sc, .int .i64 dl, .int .i64 e0, .int .i64 e1, .int .i64 e2]) := Lib.hid (fun h => by rw [← hf]; exact h.box)
  have HTx : Hid (∀ {w4 w' : World} {g : Nat} {b' : List UInt8} {ba' : Option Addr} {bc' : Nat}, ES w4 g none xb ⟨18, i, t, n, c, fi, dt, ci, sp, dl, e0, e1, e2⟩ ⟨da, dc, ca, cc, sa, sc⟩ w' b' ba' bc' → b'.length ≤ 900000000 → Calls Try.prog 31 #[.pointer (some ⟨g, 0, none⟩), .slice da dn dc] w' (ESR w4 g none xb ⟨18, i, t, n, c, fi, dt, ci, sp, dl, e0, e1, e2⟩ ⟨da, dc, ca, cc, sa, sc⟩ (b' ++ (vl dt.length ++ dt)))) := Lib.hid (fun h hl => by rw [hdn]; exact h.data (Nat.le_trans hd (by decide)) hl)
  rw [← hR, hf]
  have HR := Lib.hid hR
  have HB := Lib.hid hB
  have HD := Lib.hid hd
  have HDn := Lib.hid hdn
  have HCn := Lib.hid hcn
  have HSn := Lib.hid hsn
  have HF := Lib.hid hf
  clear hR hf hdn hcn hsn hB hG hC h hl hd
  have hr_n : numB n = true := by simp at hr; exact numB_of (by omega)
  go_enter Try.func12, Try.ntmps12
  go_upto_region 1 with fail
  rw [← hw2, ← hxb]
  clear hw2 hxb
  have g0 := HG.out.cell 0 rfl
  have g1 := HG.out.cell 1 rfl
  have g2 := HG.out.cell 2 rfl
  have g3 := HG.out.cell 3 rfl
  have g4 := HG.out.cell 4 rfl
  have g5 := HG.out.cell 5 rfl
  have g6 := HG.out.cell 6 rfl
  have g7 := HG.out.cell 7 rfl
  have g8 := HG.out.cell 8 rfl
  have g9 := HG.out.cell 9 rfl
  have g10 := HG.out.cell 10 rfl
  have g11 := HG.out.cell 11 rfl
  have g12 := HG.out.cell 12 rfl
  go_upto_region 4 with (refine HC.out.mono ?_; rintro e w3 ⟨rfl, hb3⟩)
  obtain ⟨g, hg⟩ : ∃ g, g = w3.heap.size := ⟨_, rfl⟩
  obtain ⟨w4, hw4⟩ : ∃ w4, w4 = w3.alloc (.cells #[.slice none 0 0] 59) := ⟨_, rfl⟩
  have HE0 := Lib.hid (HSt.out hb3)
  rw [← hw4, ← hg] at HE0
  have HB4 : Hid (Below w.heap.size w w4) := Lib.hid (by rw [hw4]; exact (HB.out.trans (hb3.mono HB.out.size)).alloc (by have := HB.out.size; have := hb3.size; omega) _)
  have HG4 : Hid (w.heap.size ≤ g) := Lib.hid (by rw [hg]; have := HB.out.size; have := hb3.size; omega)
  clear hb3 g0 g1 g2 g3 g4 g5 g6 g7 g8 g9 g10 g11 g12
  go_upto_region 5 with fail
  rw [← hw4, ← hg]
  clear hw4 hg
  have HL0 : Hid (([] : List UInt8).length ≤ 0) := Lib.hid (Nat.le_refl _)
  have H1 := Lib.hid (HE0.out.nums1 18 (le_big HL0.out (by decide)).1 rfl)
  have g0 := (HCs.out HE0.out).cell 0 rfl
  have g1 := (HCs.out HE0.out).cell 1 rfl
  have g2 := (HCs.out HE0.out).cell 2 rfl
  have g3 := (HCs.out HE0.out).cell 3 rfl
  have g4 := (HCs.out HE0.out).cell 4 rfl
  have g5 := (HCs.out HE0.out).cell 5 rfl
  have g6 := (HCs.out HE0.out).cell 6 rfl
  have g7 := (HCs.out HE0.out).cell 7 rfl
  have g8 := (HCs.out HE0.out).cell 8 rfl
  have g9 := (HCs.out HE0.out).cell 9 rfl
  have g10 := (HCs.out HE0.out).cell 10 rfl
  have g11 := (HCs.out HE0.out).cell 11 rfl
  have g12 := (HCs.out HE0.out).cell 12 rfl
  go_wp2_with fail
  refine H1.out.mono ?_
  rintro e v1 ⟨rfl, ba1, bc1, hE⟩
  have HE1 := Lib.hid hE
  have HL1 : Hid (([] ++ nB [18]).length ≤ 8) := Lib.hid (len_nums HL0.out rfl)
  clear hE g0 g1 g2 g3 g4 g5 g6 g7 g8 g9 g10 g11 g12
  have H2 := Lib.hid (HE1.out.nums1 n (le_big HL1.out (by decide)).1 hr_n)
  have g0 := (HCs.out HE1.out).cell 0 rfl
  have g1 := (HCs.out HE1.out).cell 1 rfl
  have g2 := (HCs.out HE1.out).cell 2 rfl
  have g3 := (HCs.out HE1.out).cell 3 rfl
  have g4 := (HCs.out HE1.out).cell 4 rfl
  have g5 := (HCs.out HE1.out).cell 5 rfl
  have g6 := (HCs.out HE1.out).cell 6 rfl
  have g7 := (HCs.out HE1.out).cell 7 rfl
  have g8 := (HCs.out HE1.out).cell 8 rfl
  have g9 := (HCs.out HE1.out).cell 9 rfl
  have g10 := (HCs.out HE1.out).cell 10 rfl
  have g11 := (HCs.out HE1.out).cell 11 rfl
  have g12 := (HCs.out HE1.out).cell 12 rfl
  go_wp2_with fail
  refine H2.out.mono ?_
  rintro e v2 ⟨rfl, ba2, bc2, hE⟩
  have HE2 := Lib.hid hE
  have HL2 : Hid ((([] ++ nB [18]) ++ nB [n]).length ≤ 16) := Lib.hid (len_nums HL1.out rfl)
  clear hE g0 g1 g2 g3 g4 g5 g6 g7 g8 g9 g10 g11 g12
  obtain ⟨bb, hbb⟩ : ∃ bb, bb = (([] ++ nB [18]) ++ nB [n]) := ⟨_, rfl⟩
  rw [← hbb] at HE2
  have HBb := Lib.hid hbb
  clear hbb
  have q0 := HE2.out.wb.has.cell 0 rfl
  have g0 := (HCs.out HE2.out).cell 0 rfl
  have g1 := (HCs.out HE2.out).cell 1 rfl
  have g2 := (HCs.out HE2.out).cell 2 rfl
  have g3 := (HCs.out HE2.out).cell 3 rfl
  have g4 := (HCs.out HE2.out).cell 4 rfl
  have g5 := (HCs.out HE2.out).cell 5 rfl
  have g6 := (HCs.out HE2.out).cell 6 rfl
  have g7 := (HCs.out HE2.out).cell 7 rfl
  have g8 := (HCs.out HE2.out).cell 8 rfl
  have g9 := (HCs.out HE2.out).cell 9 rfl
  have g10 := (HCs.out HE2.out).cell 10 rfl
  have g11 := (HCs.out HE2.out).cell 11 rfl
  have g12 := (HCs.out HE2.out).cell 12 rfl
  go_wp2
  go_ret2
  exact HE2.out.ret HB4.out HG4.out (by rw [HR.out, HBb.out]; simp [encB, itmB]) rfl

set_option maxRecDepth 100000 in
set_option maxHeartbeats 4000000 in
theorem enc_19 (w : World) (i t n c : Int) (fi : Bool) (dt ci : List UInt8) (sp : List Sn) (dl e0 e1 e2 : Int) (da : Option Addr) (dc : Nat) (ca : Option Addr) (cc : Nat) (sa : Option Addr) (sc : Nat) (h : FIn w ⟨19, i, t, n, c, fi, dt, ci, sp, dl, e0, e1, e2⟩ ⟨da, dc, ca, cc, sa, sc⟩) (hl : FLow w.heap.size ⟨da, dc, ca, cc, sa, sc⟩) (hc : chkF ⟨19, i, t, n, c, fi, dt, ci, sp, dl, e0, e1, e2⟩ = 0) :
    Calls Try.prog 12 #[.agg (fcells ⟨19, i, t, n, c, fi, dt, ci, sp, dl, e0, e1, e2⟩ ⟨da, dc, ca, cc, sa, sc⟩).toArray] w (RetBE w.heap.size w (encB ⟨19, i, t, n, c, fi, dt, ci, sp, dl, e0, e1, e2⟩, 0)) := by
  obtain ⟨_, hd, hr⟩ := chk0 hc
  have hr : (decide (0 ≤ n) && decide (n ≤ 1152921504606846976)) = true := hr
  have hd : dt.length ≤ 16384 := hd
  obtain ⟨R, hR⟩ : ∃ R, R = encB ⟨19, i, t, n, c, fi, dt, ci, sp, dl, e0, e1, e2⟩ := ⟨_, rfl⟩
  obtain ⟨dn, hdn⟩ : ∃ dn, dn = dt.length := ⟨_, rfl⟩
  obtain ⟨cn, hcn⟩ : ∃ cn, cn = ci.length := ⟨_, rfl⟩
  obtain ⟨sn, hsn⟩ : ∃ sn, sn = sp.length := ⟨_, rfl⟩
  have hf : fcells ⟨19, i, t, n, c, fi, dt, ci, sp, dl, e0, e1, e2⟩ ⟨da, dc, ca, cc, sa, sc⟩ = [.int .i64 19, .int .i64 i, .int .i64 t, .int .i64 n, .int .i64 c, .bool fi, .slice da dn dc, .slice ca cn cc, .slice sa sn sc, .int .i64 dl, .int .i64 e0, .int .i64 e1, .int .i64 e2] := by rw [hdn, hcn, hsn]; rfl
  obtain ⟨w2, hw2⟩ : ∃ w2, w2 = w.alloc (.cells #[.int .i64 19, .int .i64 i, .int .i64 t, .int .i64 n, .int .i64 c, .bool fi, .slice da dn dc, .slice ca cn cc, .slice sa sn sc, .int .i64 dl, .int .i64 e0, .int .i64 e1, .int .i64 e2] 26) := ⟨_, rfl⟩
  have hB : Below w.heap.size w w2 := by rw [hw2]; exact alB w _
  obtain ⟨xb, hxb⟩ : ∃ xb, xb = w.heap.size := ⟨_, rfl⟩
  have hG : Has w2 xb 26 [.int .i64 19, .int .i64 i, .int .i64 t, .int .i64 n, .int .i64 c, .bool fi, .slice da dn dc, .slice ca cn cc, .slice sa sn sc, .int .i64 dl, .int .i64 e0, .int .i64 e1, .int .i64 e2] := by rw [hw2, hxb]; exact Has.new _ _ _
  have HG := Lib.hid hG
  have hC := checkF_any w2 (h.below hB)
  rw [hc, hf] at hC
  have HC := Lib.hid hC
  have HSt : Hid (∀ {w3 : World}, Below w2.heap.size w2 w3 → ES (w3.alloc (.cells #[.slice none 0 0] 59)) w3.heap.size none xb ⟨19, i, t, n, c, fi, dt, ci, sp, dl, e0, e1, e2⟩ ⟨da, dc, ca, cc, sa, sc⟩ (w3.alloc (.cells #[.slice none 0 0] 59)) [] none 0) := Lib.hid (fun hb => ES.start (by rw [hf]; exact HG.out.kept (X := none') (Kept.of_below hb) (fun h => h)) ((h.below hB).below hb) (hl.mono (by have := hB.size; have := hb.size; omega)))
  have HCs : Hid (∀ {w4 w' : World} {g : Nat} {b' : List UInt8} {ba' : Option Addr} {bc' : Nat}, ES w4 g none xb ⟨19, i, t, n, c, fi, dt, ci, sp, dl, e0, e1, e2⟩ ⟨da, dc, ca, cc, sa, sc⟩ w' b' ba' bc' → Has w' xb 26 [.int .i64 19, .int .i64 i, .int .i64 t, .int .i64 n, .int .i64 c, .bool fi, .slice da dn dc, .slice ca cn cc, .slice sa sn sc, .int .i64 dl, .int .i64 e0, .int .i64 e1, .int .i64 e2]) := Lib.hid (fun h => by rw [← hf]; exact h.box)
  have HTx : Hid (∀ {w4 w' : World} {g : Nat} {b' : List UInt8} {ba' : Option Addr} {bc' : Nat}, ES w4 g none xb ⟨19, i, t, n, c, fi, dt, ci, sp, dl, e0, e1, e2⟩ ⟨da, dc, ca, cc, sa, sc⟩ w' b' ba' bc' → b'.length ≤ 900000000 → Calls Try.prog 31 #[.pointer (some ⟨g, 0, none⟩), .slice da dn dc] w' (ESR w4 g none xb ⟨19, i, t, n, c, fi, dt, ci, sp, dl, e0, e1, e2⟩ ⟨da, dc, ca, cc, sa, sc⟩ (b' ++ (vl dt.length ++ dt)))) := Lib.hid (fun h hl => by rw [hdn]; exact h.data (Nat.le_trans hd (by decide)) hl)
  rw [← hR, hf]
  have HR := Lib.hid hR
  have HB := Lib.hid hB
  have HD := Lib.hid hd
  have HDn := Lib.hid hdn
  have HCn := Lib.hid hcn
  have HSn := Lib.hid hsn
  have HF := Lib.hid hf
  clear hR hf hdn hcn hsn hB hG hC h hl hd
  have hr_n : numB n = true := by simp at hr; exact numB_of (by omega)
  go_enter Try.func12, Try.ntmps12
  go_upto_region 1 with fail
  rw [← hw2, ← hxb]
  clear hw2 hxb
  have g0 := HG.out.cell 0 rfl
  have g1 := HG.out.cell 1 rfl
  have g2 := HG.out.cell 2 rfl
  have g3 := HG.out.cell 3 rfl
  have g4 := HG.out.cell 4 rfl
  have g5 := HG.out.cell 5 rfl
  have g6 := HG.out.cell 6 rfl
  have g7 := HG.out.cell 7 rfl
  have g8 := HG.out.cell 8 rfl
  have g9 := HG.out.cell 9 rfl
  have g10 := HG.out.cell 10 rfl
  have g11 := HG.out.cell 11 rfl
  have g12 := HG.out.cell 12 rfl
  go_upto_region 4 with (refine HC.out.mono ?_; rintro e w3 ⟨rfl, hb3⟩)
  obtain ⟨g, hg⟩ : ∃ g, g = w3.heap.size := ⟨_, rfl⟩
  obtain ⟨w4, hw4⟩ : ∃ w4, w4 = w3.alloc (.cells #[.slice none 0 0] 59) := ⟨_, rfl⟩
  have HE0 := Lib.hid (HSt.out hb3)
  rw [← hw4, ← hg] at HE0
  have HB4 : Hid (Below w.heap.size w w4) := Lib.hid (by rw [hw4]; exact (HB.out.trans (hb3.mono HB.out.size)).alloc (by have := HB.out.size; have := hb3.size; omega) _)
  have HG4 : Hid (w.heap.size ≤ g) := Lib.hid (by rw [hg]; have := HB.out.size; have := hb3.size; omega)
  clear hb3 g0 g1 g2 g3 g4 g5 g6 g7 g8 g9 g10 g11 g12
  go_upto_region 5 with fail
  rw [← hw4, ← hg]
  clear hw4 hg
  have HL0 : Hid (([] : List UInt8).length ≤ 0) := Lib.hid (Nat.le_refl _)
  have H1 := Lib.hid (HE0.out.nums1 19 (le_big HL0.out (by decide)).1 rfl)
  have g0 := (HCs.out HE0.out).cell 0 rfl
  have g1 := (HCs.out HE0.out).cell 1 rfl
  have g2 := (HCs.out HE0.out).cell 2 rfl
  have g3 := (HCs.out HE0.out).cell 3 rfl
  have g4 := (HCs.out HE0.out).cell 4 rfl
  have g5 := (HCs.out HE0.out).cell 5 rfl
  have g6 := (HCs.out HE0.out).cell 6 rfl
  have g7 := (HCs.out HE0.out).cell 7 rfl
  have g8 := (HCs.out HE0.out).cell 8 rfl
  have g9 := (HCs.out HE0.out).cell 9 rfl
  have g10 := (HCs.out HE0.out).cell 10 rfl
  have g11 := (HCs.out HE0.out).cell 11 rfl
  have g12 := (HCs.out HE0.out).cell 12 rfl
  go_wp2_with fail
  refine H1.out.mono ?_
  rintro e v1 ⟨rfl, ba1, bc1, hE⟩
  have HE1 := Lib.hid hE
  have HL1 : Hid (([] ++ nB [19]).length ≤ 8) := Lib.hid (len_nums HL0.out rfl)
  clear hE g0 g1 g2 g3 g4 g5 g6 g7 g8 g9 g10 g11 g12
  have H2 := Lib.hid (HE1.out.nums1 n (le_big HL1.out (by decide)).1 hr_n)
  have g0 := (HCs.out HE1.out).cell 0 rfl
  have g1 := (HCs.out HE1.out).cell 1 rfl
  have g2 := (HCs.out HE1.out).cell 2 rfl
  have g3 := (HCs.out HE1.out).cell 3 rfl
  have g4 := (HCs.out HE1.out).cell 4 rfl
  have g5 := (HCs.out HE1.out).cell 5 rfl
  have g6 := (HCs.out HE1.out).cell 6 rfl
  have g7 := (HCs.out HE1.out).cell 7 rfl
  have g8 := (HCs.out HE1.out).cell 8 rfl
  have g9 := (HCs.out HE1.out).cell 9 rfl
  have g10 := (HCs.out HE1.out).cell 10 rfl
  have g11 := (HCs.out HE1.out).cell 11 rfl
  have g12 := (HCs.out HE1.out).cell 12 rfl
  go_wp2_with fail
  refine H2.out.mono ?_
  rintro e v2 ⟨rfl, ba2, bc2, hE⟩
  have HE2 := Lib.hid hE
  have HL2 : Hid ((([] ++ nB [19]) ++ nB [n]).length ≤ 16) := Lib.hid (len_nums HL1.out rfl)
  clear hE g0 g1 g2 g3 g4 g5 g6 g7 g8 g9 g10 g11 g12
  obtain ⟨bb, hbb⟩ : ∃ bb, bb = (([] ++ nB [19]) ++ nB [n]) := ⟨_, rfl⟩
  rw [← hbb] at HE2
  have HBb := Lib.hid hbb
  clear hbb
  have q0 := HE2.out.wb.has.cell 0 rfl
  have g0 := (HCs.out HE2.out).cell 0 rfl
  have g1 := (HCs.out HE2.out).cell 1 rfl
  have g2 := (HCs.out HE2.out).cell 2 rfl
  have g3 := (HCs.out HE2.out).cell 3 rfl
  have g4 := (HCs.out HE2.out).cell 4 rfl
  have g5 := (HCs.out HE2.out).cell 5 rfl
  have g6 := (HCs.out HE2.out).cell 6 rfl
  have g7 := (HCs.out HE2.out).cell 7 rfl
  have g8 := (HCs.out HE2.out).cell 8 rfl
  have g9 := (HCs.out HE2.out).cell 9 rfl
  have g10 := (HCs.out HE2.out).cell 10 rfl
  have g11 := (HCs.out HE2.out).cell 11 rfl
  have g12 := (HCs.out HE2.out).cell 12 rfl
  go_wp2
  go_ret2
  exact HE2.out.ret HB4.out HG4.out (by rw [HR.out, HBb.out]; simp [encB, itmB]) rfl

set_option maxRecDepth 100000 in
set_option maxHeartbeats 4000000 in
theorem enc_20 (w : World) (i t n c : Int) (fi : Bool) (dt ci : List UInt8) (sp : List Sn) (dl e0 e1 e2 : Int) (da : Option Addr) (dc : Nat) (ca : Option Addr) (cc : Nat) (sa : Option Addr) (sc : Nat) (h : FIn w ⟨20, i, t, n, c, fi, dt, ci, sp, dl, e0, e1, e2⟩ ⟨da, dc, ca, cc, sa, sc⟩) (hl : FLow w.heap.size ⟨da, dc, ca, cc, sa, sc⟩) (hc : chkF ⟨20, i, t, n, c, fi, dt, ci, sp, dl, e0, e1, e2⟩ = 0) :
    Calls Try.prog 12 #[.agg (fcells ⟨20, i, t, n, c, fi, dt, ci, sp, dl, e0, e1, e2⟩ ⟨da, dc, ca, cc, sa, sc⟩).toArray] w (RetBE w.heap.size w (encB ⟨20, i, t, n, c, fi, dt, ci, sp, dl, e0, e1, e2⟩, 0)) := by
  obtain ⟨_, hd, hr⟩ := chk0 hc
  have hr : [n].all numB = true := hr
  have hd : dt.length ≤ 16384 := hd
  obtain ⟨R, hR⟩ : ∃ R, R = encB ⟨20, i, t, n, c, fi, dt, ci, sp, dl, e0, e1, e2⟩ := ⟨_, rfl⟩
  obtain ⟨dn, hdn⟩ : ∃ dn, dn = dt.length := ⟨_, rfl⟩
  obtain ⟨cn, hcn⟩ : ∃ cn, cn = ci.length := ⟨_, rfl⟩
  obtain ⟨sn, hsn⟩ : ∃ sn, sn = sp.length := ⟨_, rfl⟩
  have hf : fcells ⟨20, i, t, n, c, fi, dt, ci, sp, dl, e0, e1, e2⟩ ⟨da, dc, ca, cc, sa, sc⟩ = [.int .i64 20, .int .i64 i, .int .i64 t, .int .i64 n, .int .i64 c, .bool fi, .slice da dn dc, .slice ca cn cc, .slice sa sn sc, .int .i64 dl, .int .i64 e0, .int .i64 e1, .int .i64 e2] := by rw [hdn, hcn, hsn]; rfl
  obtain ⟨w2, hw2⟩ : ∃ w2, w2 = w.alloc (.cells #[.int .i64 20, .int .i64 i, .int .i64 t, .int .i64 n, .int .i64 c, .bool fi, .slice da dn dc, .slice ca cn cc, .slice sa sn sc, .int .i64 dl, .int .i64 e0, .int .i64 e1, .int .i64 e2] 26) := ⟨_, rfl⟩
  have hB : Below w.heap.size w w2 := by rw [hw2]; exact alB w _
  obtain ⟨xb, hxb⟩ : ∃ xb, xb = w.heap.size := ⟨_, rfl⟩
  have hG : Has w2 xb 26 [.int .i64 20, .int .i64 i, .int .i64 t, .int .i64 n, .int .i64 c, .bool fi, .slice da dn dc, .slice ca cn cc, .slice sa sn sc, .int .i64 dl, .int .i64 e0, .int .i64 e1, .int .i64 e2] := by rw [hw2, hxb]; exact Has.new _ _ _
  have HG := Lib.hid hG
  have hC := checkF_any w2 (h.below hB)
  rw [hc, hf] at hC
  have HC := Lib.hid hC
  have HSt : Hid (∀ {w3 : World}, Below w2.heap.size w2 w3 → ES (w3.alloc (.cells #[.slice none 0 0] 59)) w3.heap.size none xb ⟨20, i, t, n, c, fi, dt, ci, sp, dl, e0, e1, e2⟩ ⟨da, dc, ca, cc, sa, sc⟩ (w3.alloc (.cells #[.slice none 0 0] 59)) [] none 0) := Lib.hid (fun hb => ES.start (by rw [hf]; exact HG.out.kept (X := none') (Kept.of_below hb) (fun h => h)) ((h.below hB).below hb) (hl.mono (by have := hB.size; have := hb.size; omega)))
  have HCs : Hid (∀ {w4 w' : World} {g : Nat} {b' : List UInt8} {ba' : Option Addr} {bc' : Nat}, ES w4 g none xb ⟨20, i, t, n, c, fi, dt, ci, sp, dl, e0, e1, e2⟩ ⟨da, dc, ca, cc, sa, sc⟩ w' b' ba' bc' → Has w' xb 26 [.int .i64 20, .int .i64 i, .int .i64 t, .int .i64 n, .int .i64 c, .bool fi, .slice da dn dc, .slice ca cn cc, .slice sa sn sc, .int .i64 dl, .int .i64 e0, .int .i64 e1, .int .i64 e2]) := Lib.hid (fun h => by rw [← hf]; exact h.box)
  have HTx : Hid (∀ {w4 w' : World} {g : Nat} {b' : List UInt8} {ba' : Option Addr} {bc' : Nat}, ES w4 g none xb ⟨20, i, t, n, c, fi, dt, ci, sp, dl, e0, e1, e2⟩ ⟨da, dc, ca, cc, sa, sc⟩ w' b' ba' bc' → b'.length ≤ 900000000 → Calls Try.prog 31 #[.pointer (some ⟨g, 0, none⟩), .slice da dn dc] w' (ESR w4 g none xb ⟨20, i, t, n, c, fi, dt, ci, sp, dl, e0, e1, e2⟩ ⟨da, dc, ca, cc, sa, sc⟩ (b' ++ (vl dt.length ++ dt)))) := Lib.hid (fun h hl => by rw [hdn]; exact h.data (Nat.le_trans hd (by decide)) hl)
  rw [← hR, hf]
  have HR := Lib.hid hR
  have HB := Lib.hid hB
  have HD := Lib.hid hd
  have HDn := Lib.hid hdn
  have HCn := Lib.hid hcn
  have HSn := Lib.hid hsn
  have HF := Lib.hid hf
  clear hR hf hdn hcn hsn hB hG hC h hl hd
  have hr_n : numB n = true := by simpa using hr
  go_enter Try.func12, Try.ntmps12
  go_upto_region 1 with fail
  rw [← hw2, ← hxb]
  clear hw2 hxb
  have g0 := HG.out.cell 0 rfl
  have g1 := HG.out.cell 1 rfl
  have g2 := HG.out.cell 2 rfl
  have g3 := HG.out.cell 3 rfl
  have g4 := HG.out.cell 4 rfl
  have g5 := HG.out.cell 5 rfl
  have g6 := HG.out.cell 6 rfl
  have g7 := HG.out.cell 7 rfl
  have g8 := HG.out.cell 8 rfl
  have g9 := HG.out.cell 9 rfl
  have g10 := HG.out.cell 10 rfl
  have g11 := HG.out.cell 11 rfl
  have g12 := HG.out.cell 12 rfl
  go_upto_region 4 with (refine HC.out.mono ?_; rintro e w3 ⟨rfl, hb3⟩)
  obtain ⟨g, hg⟩ : ∃ g, g = w3.heap.size := ⟨_, rfl⟩
  obtain ⟨w4, hw4⟩ : ∃ w4, w4 = w3.alloc (.cells #[.slice none 0 0] 59) := ⟨_, rfl⟩
  have HE0 := Lib.hid (HSt.out hb3)
  rw [← hw4, ← hg] at HE0
  have HB4 : Hid (Below w.heap.size w w4) := Lib.hid (by rw [hw4]; exact (HB.out.trans (hb3.mono HB.out.size)).alloc (by have := HB.out.size; have := hb3.size; omega) _)
  have HG4 : Hid (w.heap.size ≤ g) := Lib.hid (by rw [hg]; have := HB.out.size; have := hb3.size; omega)
  clear hb3 g0 g1 g2 g3 g4 g5 g6 g7 g8 g9 g10 g11 g12
  go_upto_region 5 with fail
  rw [← hw4, ← hg]
  clear hw4 hg
  have HL0 : Hid (([] : List UInt8).length ≤ 0) := Lib.hid (Nat.le_refl _)
  have H1 := Lib.hid (HE0.out.nums1 20 (le_big HL0.out (by decide)).1 rfl)
  have g0 := (HCs.out HE0.out).cell 0 rfl
  have g1 := (HCs.out HE0.out).cell 1 rfl
  have g2 := (HCs.out HE0.out).cell 2 rfl
  have g3 := (HCs.out HE0.out).cell 3 rfl
  have g4 := (HCs.out HE0.out).cell 4 rfl
  have g5 := (HCs.out HE0.out).cell 5 rfl
  have g6 := (HCs.out HE0.out).cell 6 rfl
  have g7 := (HCs.out HE0.out).cell 7 rfl
  have g8 := (HCs.out HE0.out).cell 8 rfl
  have g9 := (HCs.out HE0.out).cell 9 rfl
  have g10 := (HCs.out HE0.out).cell 10 rfl
  have g11 := (HCs.out HE0.out).cell 11 rfl
  have g12 := (HCs.out HE0.out).cell 12 rfl
  go_wp2_with fail
  refine H1.out.mono ?_
  rintro e v1 ⟨rfl, ba1, bc1, hE⟩
  have HE1 := Lib.hid hE
  have HL1 : Hid (([] ++ nB [20]).length ≤ 8) := Lib.hid (len_nums HL0.out rfl)
  clear hE g0 g1 g2 g3 g4 g5 g6 g7 g8 g9 g10 g11 g12
  have H2 := Lib.hid (HE1.out.nums1 n (le_big HL1.out (by decide)).1 hr_n)
  have g0 := (HCs.out HE1.out).cell 0 rfl
  have g1 := (HCs.out HE1.out).cell 1 rfl
  have g2 := (HCs.out HE1.out).cell 2 rfl
  have g3 := (HCs.out HE1.out).cell 3 rfl
  have g4 := (HCs.out HE1.out).cell 4 rfl
  have g5 := (HCs.out HE1.out).cell 5 rfl
  have g6 := (HCs.out HE1.out).cell 6 rfl
  have g7 := (HCs.out HE1.out).cell 7 rfl
  have g8 := (HCs.out HE1.out).cell 8 rfl
  have g9 := (HCs.out HE1.out).cell 9 rfl
  have g10 := (HCs.out HE1.out).cell 10 rfl
  have g11 := (HCs.out HE1.out).cell 11 rfl
  have g12 := (HCs.out HE1.out).cell 12 rfl
  go_wp2_with fail
  refine H2.out.mono ?_
  rintro e v2 ⟨rfl, ba2, bc2, hE⟩
  have HE2 := Lib.hid hE
  have HL2 : Hid ((([] ++ nB [20]) ++ nB [n]).length ≤ 16) := Lib.hid (len_nums HL1.out rfl)
  clear hE g0 g1 g2 g3 g4 g5 g6 g7 g8 g9 g10 g11 g12
  obtain ⟨bb, hbb⟩ : ∃ bb, bb = (([] ++ nB [20]) ++ nB [n]) := ⟨_, rfl⟩
  rw [← hbb] at HE2
  have HBb := Lib.hid hbb
  clear hbb
  have q0 := HE2.out.wb.has.cell 0 rfl
  have g0 := (HCs.out HE2.out).cell 0 rfl
  have g1 := (HCs.out HE2.out).cell 1 rfl
  have g2 := (HCs.out HE2.out).cell 2 rfl
  have g3 := (HCs.out HE2.out).cell 3 rfl
  have g4 := (HCs.out HE2.out).cell 4 rfl
  have g5 := (HCs.out HE2.out).cell 5 rfl
  have g6 := (HCs.out HE2.out).cell 6 rfl
  have g7 := (HCs.out HE2.out).cell 7 rfl
  have g8 := (HCs.out HE2.out).cell 8 rfl
  have g9 := (HCs.out HE2.out).cell 9 rfl
  have g10 := (HCs.out HE2.out).cell 10 rfl
  have g11 := (HCs.out HE2.out).cell 11 rfl
  have g12 := (HCs.out HE2.out).cell 12 rfl
  go_wp2
  go_ret2
  exact HE2.out.ret HB4.out HG4.out (by rw [HR.out, HBb.out]; simp [encB, itmB]) rfl

set_option maxRecDepth 100000 in
set_option maxHeartbeats 4000000 in
theorem enc_21 (w : World) (i t n c : Int) (fi : Bool) (dt ci : List UInt8) (sp : List Sn) (dl e0 e1 e2 : Int) (da : Option Addr) (dc : Nat) (ca : Option Addr) (cc : Nat) (sa : Option Addr) (sc : Nat) (h : FIn w ⟨21, i, t, n, c, fi, dt, ci, sp, dl, e0, e1, e2⟩ ⟨da, dc, ca, cc, sa, sc⟩) (hl : FLow w.heap.size ⟨da, dc, ca, cc, sa, sc⟩) (hc : chkF ⟨21, i, t, n, c, fi, dt, ci, sp, dl, e0, e1, e2⟩ = 0) :
    Calls Try.prog 12 #[.agg (fcells ⟨21, i, t, n, c, fi, dt, ci, sp, dl, e0, e1, e2⟩ ⟨da, dc, ca, cc, sa, sc⟩).toArray] w (RetBE w.heap.size w (encB ⟨21, i, t, n, c, fi, dt, ci, sp, dl, e0, e1, e2⟩, 0)) := by
  obtain ⟨_, hd, hr⟩ := chk0 hc
  have hr : [i, n].all numB = true := hr
  have hd : dt.length ≤ 16384 := hd
  obtain ⟨R, hR⟩ : ∃ R, R = encB ⟨21, i, t, n, c, fi, dt, ci, sp, dl, e0, e1, e2⟩ := ⟨_, rfl⟩
  obtain ⟨dn, hdn⟩ : ∃ dn, dn = dt.length := ⟨_, rfl⟩
  obtain ⟨cn, hcn⟩ : ∃ cn, cn = ci.length := ⟨_, rfl⟩
  obtain ⟨sn, hsn⟩ : ∃ sn, sn = sp.length := ⟨_, rfl⟩
  have hf : fcells ⟨21, i, t, n, c, fi, dt, ci, sp, dl, e0, e1, e2⟩ ⟨da, dc, ca, cc, sa, sc⟩ = [.int .i64 21, .int .i64 i, .int .i64 t, .int .i64 n, .int .i64 c, .bool fi, .slice da dn dc, .slice ca cn cc, .slice sa sn sc, .int .i64 dl, .int .i64 e0, .int .i64 e1, .int .i64 e2] := by rw [hdn, hcn, hsn]; rfl
  obtain ⟨w2, hw2⟩ : ∃ w2, w2 = w.alloc (.cells #[.int .i64 21, .int .i64 i, .int .i64 t, .int .i64 n, .int .i64 c, .bool fi, .slice da dn dc, .slice ca cn cc, .slice sa sn sc, .int .i64 dl, .int .i64 e0, .int .i64 e1, .int .i64 e2] 26) := ⟨_, rfl⟩
  have hB : Below w.heap.size w w2 := by rw [hw2]; exact alB w _
  obtain ⟨xb, hxb⟩ : ∃ xb, xb = w.heap.size := ⟨_, rfl⟩
  have hG : Has w2 xb 26 [.int .i64 21, .int .i64 i, .int .i64 t, .int .i64 n, .int .i64 c, .bool fi, .slice da dn dc, .slice ca cn cc, .slice sa sn sc, .int .i64 dl, .int .i64 e0, .int .i64 e1, .int .i64 e2] := by rw [hw2, hxb]; exact Has.new _ _ _
  have HG := Lib.hid hG
  have hC := checkF_any w2 (h.below hB)
  rw [hc, hf] at hC
  have HC := Lib.hid hC
  have HSt : Hid (∀ {w3 : World}, Below w2.heap.size w2 w3 → ES (w3.alloc (.cells #[.slice none 0 0] 59)) w3.heap.size none xb ⟨21, i, t, n, c, fi, dt, ci, sp, dl, e0, e1, e2⟩ ⟨da, dc, ca, cc, sa, sc⟩ (w3.alloc (.cells #[.slice none 0 0] 59)) [] none 0) := Lib.hid (fun hb => ES.start (by rw [hf]; exact HG.out.kept (X := none') (Kept.of_below hb) (fun h => h)) ((h.below hB).below hb) (hl.mono (by have := hB.size; have := hb.size; omega)))
  have HCs : Hid (∀ {w4 w' : World} {g : Nat} {b' : List UInt8} {ba' : Option Addr} {bc' : Nat}, ES w4 g none xb ⟨21, i, t, n, c, fi, dt, ci, sp, dl, e0, e1, e2⟩ ⟨da, dc, ca, cc, sa, sc⟩ w' b' ba' bc' → Has w' xb 26 [.int .i64 21, .int .i64 i, .int .i64 t, .int .i64 n, .int .i64 c, .bool fi, .slice da dn dc, .slice ca cn cc, .slice sa sn sc, .int .i64 dl, .int .i64 e0, .int .i64 e1, .int .i64 e2]) := Lib.hid (fun h => by rw [← hf]; exact h.box)
  have HTx : Hid (∀ {w4 w' : World} {g : Nat} {b' : List UInt8} {ba' : Option Addr} {bc' : Nat}, ES w4 g none xb ⟨21, i, t, n, c, fi, dt, ci, sp, dl, e0, e1, e2⟩ ⟨da, dc, ca, cc, sa, sc⟩ w' b' ba' bc' → b'.length ≤ 900000000 → Calls Try.prog 31 #[.pointer (some ⟨g, 0, none⟩), .slice da dn dc] w' (ESR w4 g none xb ⟨21, i, t, n, c, fi, dt, ci, sp, dl, e0, e1, e2⟩ ⟨da, dc, ca, cc, sa, sc⟩ (b' ++ (vl dt.length ++ dt)))) := Lib.hid (fun h hl => by rw [hdn]; exact h.data (Nat.le_trans hd (by decide)) hl)
  rw [← hR, hf]
  have HR := Lib.hid hR
  have HB := Lib.hid hB
  have HD := Lib.hid hd
  have HDn := Lib.hid hdn
  have HCn := Lib.hid hcn
  have HSn := Lib.hid hsn
  have HF := Lib.hid hf
  clear hR hf hdn hcn hsn hB hG hC h hl hd
  obtain ⟨hr_i, hr_n⟩ : numB i = true ∧ numB n = true := by simpa using hr
  go_enter Try.func12, Try.ntmps12
  go_upto_region 1 with fail
  rw [← hw2, ← hxb]
  clear hw2 hxb
  have g0 := HG.out.cell 0 rfl
  have g1 := HG.out.cell 1 rfl
  have g2 := HG.out.cell 2 rfl
  have g3 := HG.out.cell 3 rfl
  have g4 := HG.out.cell 4 rfl
  have g5 := HG.out.cell 5 rfl
  have g6 := HG.out.cell 6 rfl
  have g7 := HG.out.cell 7 rfl
  have g8 := HG.out.cell 8 rfl
  have g9 := HG.out.cell 9 rfl
  have g10 := HG.out.cell 10 rfl
  have g11 := HG.out.cell 11 rfl
  have g12 := HG.out.cell 12 rfl
  go_upto_region 4 with (refine HC.out.mono ?_; rintro e w3 ⟨rfl, hb3⟩)
  obtain ⟨g, hg⟩ : ∃ g, g = w3.heap.size := ⟨_, rfl⟩
  obtain ⟨w4, hw4⟩ : ∃ w4, w4 = w3.alloc (.cells #[.slice none 0 0] 59) := ⟨_, rfl⟩
  have HE0 := Lib.hid (HSt.out hb3)
  rw [← hw4, ← hg] at HE0
  have HB4 : Hid (Below w.heap.size w w4) := Lib.hid (by rw [hw4]; exact (HB.out.trans (hb3.mono HB.out.size)).alloc (by have := HB.out.size; have := hb3.size; omega) _)
  have HG4 : Hid (w.heap.size ≤ g) := Lib.hid (by rw [hg]; have := HB.out.size; have := hb3.size; omega)
  clear hb3 g0 g1 g2 g3 g4 g5 g6 g7 g8 g9 g10 g11 g12
  go_upto_region 5 with fail
  rw [← hw4, ← hg]
  clear hw4 hg
  have HL0 : Hid (([] : List UInt8).length ≤ 0) := Lib.hid (Nat.le_refl _)
  have H1 := Lib.hid (HE0.out.nums1 21 (le_big HL0.out (by decide)).1 rfl)
  have g0 := (HCs.out HE0.out).cell 0 rfl
  have g1 := (HCs.out HE0.out).cell 1 rfl
  have g2 := (HCs.out HE0.out).cell 2 rfl
  have g3 := (HCs.out HE0.out).cell 3 rfl
  have g4 := (HCs.out HE0.out).cell 4 rfl
  have g5 := (HCs.out HE0.out).cell 5 rfl
  have g6 := (HCs.out HE0.out).cell 6 rfl
  have g7 := (HCs.out HE0.out).cell 7 rfl
  have g8 := (HCs.out HE0.out).cell 8 rfl
  have g9 := (HCs.out HE0.out).cell 9 rfl
  have g10 := (HCs.out HE0.out).cell 10 rfl
  have g11 := (HCs.out HE0.out).cell 11 rfl
  have g12 := (HCs.out HE0.out).cell 12 rfl
  go_wp2_with fail
  refine H1.out.mono ?_
  rintro e v1 ⟨rfl, ba1, bc1, hE⟩
  have HE1 := Lib.hid hE
  have HL1 : Hid (([] ++ nB [21]).length ≤ 8) := Lib.hid (len_nums HL0.out rfl)
  clear hE g0 g1 g2 g3 g4 g5 g6 g7 g8 g9 g10 g11 g12
  have H2 := Lib.hid (HE1.out.nums2 i n (le_big HL1.out (by decide)).1 hr_i hr_n)
  have g0 := (HCs.out HE1.out).cell 0 rfl
  have g1 := (HCs.out HE1.out).cell 1 rfl
  have g2 := (HCs.out HE1.out).cell 2 rfl
  have g3 := (HCs.out HE1.out).cell 3 rfl
  have g4 := (HCs.out HE1.out).cell 4 rfl
  have g5 := (HCs.out HE1.out).cell 5 rfl
  have g6 := (HCs.out HE1.out).cell 6 rfl
  have g7 := (HCs.out HE1.out).cell 7 rfl
  have g8 := (HCs.out HE1.out).cell 8 rfl
  have g9 := (HCs.out HE1.out).cell 9 rfl
  have g10 := (HCs.out HE1.out).cell 10 rfl
  have g11 := (HCs.out HE1.out).cell 11 rfl
  have g12 := (HCs.out HE1.out).cell 12 rfl
  go_wp2_with fail
  refine H2.out.mono ?_
  rintro e v2 ⟨rfl, ba2, bc2, hE⟩
  have HE2 := Lib.hid hE
  have HL2 : Hid ((([] ++ nB [21]) ++ nB [i, n]).length ≤ 24) := Lib.hid (len_nums HL1.out rfl)
  clear hE g0 g1 g2 g3 g4 g5 g6 g7 g8 g9 g10 g11 g12
  obtain ⟨bb, hbb⟩ : ∃ bb, bb = (([] ++ nB [21]) ++ nB [i, n]) := ⟨_, rfl⟩
  rw [← hbb] at HE2
  have HBb := Lib.hid hbb
  clear hbb
  have q0 := HE2.out.wb.has.cell 0 rfl
  have g0 := (HCs.out HE2.out).cell 0 rfl
  have g1 := (HCs.out HE2.out).cell 1 rfl
  have g2 := (HCs.out HE2.out).cell 2 rfl
  have g3 := (HCs.out HE2.out).cell 3 rfl
  have g4 := (HCs.out HE2.out).cell 4 rfl
  have g5 := (HCs.out HE2.out).cell 5 rfl
  have g6 := (HCs.out HE2.out).cell 6 rfl
  have g7 := (HCs.out HE2.out).cell 7 rfl
  have g8 := (HCs.out HE2.out).cell 8 rfl
  have g9 := (HCs.out HE2.out).cell 9 rfl
  have g10 := (HCs.out HE2.out).cell 10 rfl
  have g11 := (HCs.out HE2.out).cell 11 rfl
  have g12 := (HCs.out HE2.out).cell 12 rfl
  go_wp2
  go_ret2
  exact HE2.out.ret HB4.out HG4.out (by rw [HR.out, HBb.out]; simp [encB, itmB]) rfl

set_option maxRecDepth 100000 in
set_option maxHeartbeats 4000000 in
theorem enc_22 (w : World) (i t n c : Int) (fi : Bool) (dt ci : List UInt8) (sp : List Sn) (dl e0 e1 e2 : Int) (da : Option Addr) (dc : Nat) (ca : Option Addr) (cc : Nat) (sa : Option Addr) (sc : Nat) (h : FIn w ⟨22, i, t, n, c, fi, dt, ci, sp, dl, e0, e1, e2⟩ ⟨da, dc, ca, cc, sa, sc⟩) (hl : FLow w.heap.size ⟨da, dc, ca, cc, sa, sc⟩) (hc : chkF ⟨22, i, t, n, c, fi, dt, ci, sp, dl, e0, e1, e2⟩ = 0) :
    Calls Try.prog 12 #[.agg (fcells ⟨22, i, t, n, c, fi, dt, ci, sp, dl, e0, e1, e2⟩ ⟨da, dc, ca, cc, sa, sc⟩).toArray] w (RetBE w.heap.size w (encB ⟨22, i, t, n, c, fi, dt, ci, sp, dl, e0, e1, e2⟩, 0)) := by
  obtain ⟨_, hd, hr⟩ := chk0 hc
  have hr : (decide (0 ≤ n) && decide (n ≤ 1152921504606846976)) = true := hr
  have hd : dt.length ≤ 16384 := hd
  obtain ⟨R, hR⟩ : ∃ R, R = encB ⟨22, i, t, n, c, fi, dt, ci, sp, dl, e0, e1, e2⟩ := ⟨_, rfl⟩
  obtain ⟨dn, hdn⟩ : ∃ dn, dn = dt.length := ⟨_, rfl⟩
  obtain ⟨cn, hcn⟩ : ∃ cn, cn = ci.length := ⟨_, rfl⟩
  obtain ⟨sn, hsn⟩ : ∃ sn, sn = sp.length := ⟨_, rfl⟩
  have hf : fcells ⟨22, i, t, n, c, fi, dt, ci, sp, dl, e0, e1, e2⟩ ⟨da, dc, ca, cc, sa, sc⟩ = [.int .i64 22, .int .i64 i, .int .i64 t, .int .i64 n, .int .i64 c, .bool fi, .slice da dn dc, .slice ca cn cc, .slice sa sn sc, .int .i64 dl, .int .i64 e0, .int .i64 e1, .int .i64 e2] := by rw [hdn, hcn, hsn]; rfl
  obtain ⟨w2, hw2⟩ : ∃ w2, w2 = w.alloc (.cells #[.int .i64 22, .int .i64 i, .int .i64 t, .int .i64 n, .int .i64 c, .bool fi, .slice da dn dc, .slice ca cn cc, .slice sa sn sc, .int .i64 dl, .int .i64 e0, .int .i64 e1, .int .i64 e2] 26) := ⟨_, rfl⟩
  have hB : Below w.heap.size w w2 := by rw [hw2]; exact alB w _
  obtain ⟨xb, hxb⟩ : ∃ xb, xb = w.heap.size := ⟨_, rfl⟩
  have hG : Has w2 xb 26 [.int .i64 22, .int .i64 i, .int .i64 t, .int .i64 n, .int .i64 c, .bool fi, .slice da dn dc, .slice ca cn cc, .slice sa sn sc, .int .i64 dl, .int .i64 e0, .int .i64 e1, .int .i64 e2] := by rw [hw2, hxb]; exact Has.new _ _ _
  have HG := Lib.hid hG
  have hC := checkF_any w2 (h.below hB)
  rw [hc, hf] at hC
  have HC := Lib.hid hC
  have HSt : Hid (∀ {w3 : World}, Below w2.heap.size w2 w3 → ES (w3.alloc (.cells #[.slice none 0 0] 59)) w3.heap.size none xb ⟨22, i, t, n, c, fi, dt, ci, sp, dl, e0, e1, e2⟩ ⟨da, dc, ca, cc, sa, sc⟩ (w3.alloc (.cells #[.slice none 0 0] 59)) [] none 0) := Lib.hid (fun hb => ES.start (by rw [hf]; exact HG.out.kept (X := none') (Kept.of_below hb) (fun h => h)) ((h.below hB).below hb) (hl.mono (by have := hB.size; have := hb.size; omega)))
  have HCs : Hid (∀ {w4 w' : World} {g : Nat} {b' : List UInt8} {ba' : Option Addr} {bc' : Nat}, ES w4 g none xb ⟨22, i, t, n, c, fi, dt, ci, sp, dl, e0, e1, e2⟩ ⟨da, dc, ca, cc, sa, sc⟩ w' b' ba' bc' → Has w' xb 26 [.int .i64 22, .int .i64 i, .int .i64 t, .int .i64 n, .int .i64 c, .bool fi, .slice da dn dc, .slice ca cn cc, .slice sa sn sc, .int .i64 dl, .int .i64 e0, .int .i64 e1, .int .i64 e2]) := Lib.hid (fun h => by rw [← hf]; exact h.box)
  have HTx : Hid (∀ {w4 w' : World} {g : Nat} {b' : List UInt8} {ba' : Option Addr} {bc' : Nat}, ES w4 g none xb ⟨22, i, t, n, c, fi, dt, ci, sp, dl, e0, e1, e2⟩ ⟨da, dc, ca, cc, sa, sc⟩ w' b' ba' bc' → b'.length ≤ 900000000 → Calls Try.prog 31 #[.pointer (some ⟨g, 0, none⟩), .slice da dn dc] w' (ESR w4 g none xb ⟨22, i, t, n, c, fi, dt, ci, sp, dl, e0, e1, e2⟩ ⟨da, dc, ca, cc, sa, sc⟩ (b' ++ (vl dt.length ++ dt)))) := Lib.hid (fun h hl => by rw [hdn]; exact h.data (Nat.le_trans hd (by decide)) hl)
  rw [← hR, hf]
  have HR := Lib.hid hR
  have HB := Lib.hid hB
  have HD := Lib.hid hd
  have HDn := Lib.hid hdn
  have HCn := Lib.hid hcn
  have HSn := Lib.hid hsn
  have HF := Lib.hid hf
  clear hR hf hdn hcn hsn hB hG hC h hl hd
  have hr_n : numB n = true := by simp at hr; exact numB_of (by omega)
  go_enter Try.func12, Try.ntmps12
  go_upto_region 1 with fail
  rw [← hw2, ← hxb]
  clear hw2 hxb
  have g0 := HG.out.cell 0 rfl
  have g1 := HG.out.cell 1 rfl
  have g2 := HG.out.cell 2 rfl
  have g3 := HG.out.cell 3 rfl
  have g4 := HG.out.cell 4 rfl
  have g5 := HG.out.cell 5 rfl
  have g6 := HG.out.cell 6 rfl
  have g7 := HG.out.cell 7 rfl
  have g8 := HG.out.cell 8 rfl
  have g9 := HG.out.cell 9 rfl
  have g10 := HG.out.cell 10 rfl
  have g11 := HG.out.cell 11 rfl
  have g12 := HG.out.cell 12 rfl
  go_upto_region 4 with (refine HC.out.mono ?_; rintro e w3 ⟨rfl, hb3⟩)
  obtain ⟨g, hg⟩ : ∃ g, g = w3.heap.size := ⟨_, rfl⟩
  obtain ⟨w4, hw4⟩ : ∃ w4, w4 = w3.alloc (.cells #[.slice none 0 0] 59) := ⟨_, rfl⟩
  have HE0 := Lib.hid (HSt.out hb3)
  rw [← hw4, ← hg] at HE0
  have HB4 : Hid (Below w.heap.size w w4) := Lib.hid (by rw [hw4]; exact (HB.out.trans (hb3.mono HB.out.size)).alloc (by have := HB.out.size; have := hb3.size; omega) _)
  have HG4 : Hid (w.heap.size ≤ g) := Lib.hid (by rw [hg]; have := HB.out.size; have := hb3.size; omega)
  clear hb3 g0 g1 g2 g3 g4 g5 g6 g7 g8 g9 g10 g11 g12
  go_upto_region 5 with fail
  rw [← hw4, ← hg]
  clear hw4 hg
  have HL0 : Hid (([] : List UInt8).length ≤ 0) := Lib.hid (Nat.le_refl _)
  have H1 := Lib.hid (HE0.out.nums1 22 (le_big HL0.out (by decide)).1 rfl)
  have g0 := (HCs.out HE0.out).cell 0 rfl
  have g1 := (HCs.out HE0.out).cell 1 rfl
  have g2 := (HCs.out HE0.out).cell 2 rfl
  have g3 := (HCs.out HE0.out).cell 3 rfl
  have g4 := (HCs.out HE0.out).cell 4 rfl
  have g5 := (HCs.out HE0.out).cell 5 rfl
  have g6 := (HCs.out HE0.out).cell 6 rfl
  have g7 := (HCs.out HE0.out).cell 7 rfl
  have g8 := (HCs.out HE0.out).cell 8 rfl
  have g9 := (HCs.out HE0.out).cell 9 rfl
  have g10 := (HCs.out HE0.out).cell 10 rfl
  have g11 := (HCs.out HE0.out).cell 11 rfl
  have g12 := (HCs.out HE0.out).cell 12 rfl
  go_wp2_with fail
  refine H1.out.mono ?_
  rintro e v1 ⟨rfl, ba1, bc1, hE⟩
  have HE1 := Lib.hid hE
  have HL1 : Hid (([] ++ nB [22]).length ≤ 8) := Lib.hid (len_nums HL0.out rfl)
  clear hE g0 g1 g2 g3 g4 g5 g6 g7 g8 g9 g10 g11 g12
  have H2 := Lib.hid (HE1.out.nums1 n (le_big HL1.out (by decide)).1 hr_n)
  have g0 := (HCs.out HE1.out).cell 0 rfl
  have g1 := (HCs.out HE1.out).cell 1 rfl
  have g2 := (HCs.out HE1.out).cell 2 rfl
  have g3 := (HCs.out HE1.out).cell 3 rfl
  have g4 := (HCs.out HE1.out).cell 4 rfl
  have g5 := (HCs.out HE1.out).cell 5 rfl
  have g6 := (HCs.out HE1.out).cell 6 rfl
  have g7 := (HCs.out HE1.out).cell 7 rfl
  have g8 := (HCs.out HE1.out).cell 8 rfl
  have g9 := (HCs.out HE1.out).cell 9 rfl
  have g10 := (HCs.out HE1.out).cell 10 rfl
  have g11 := (HCs.out HE1.out).cell 11 rfl
  have g12 := (HCs.out HE1.out).cell 12 rfl
  go_wp2_with fail
  refine H2.out.mono ?_
  rintro e v2 ⟨rfl, ba2, bc2, hE⟩
  have HE2 := Lib.hid hE
  have HL2 : Hid ((([] ++ nB [22]) ++ nB [n]).length ≤ 16) := Lib.hid (len_nums HL1.out rfl)
  clear hE g0 g1 g2 g3 g4 g5 g6 g7 g8 g9 g10 g11 g12
  obtain ⟨bb, hbb⟩ : ∃ bb, bb = (([] ++ nB [22]) ++ nB [n]) := ⟨_, rfl⟩
  rw [← hbb] at HE2
  have HBb := Lib.hid hbb
  clear hbb
  have q0 := HE2.out.wb.has.cell 0 rfl
  have g0 := (HCs.out HE2.out).cell 0 rfl
  have g1 := (HCs.out HE2.out).cell 1 rfl
  have g2 := (HCs.out HE2.out).cell 2 rfl
  have g3 := (HCs.out HE2.out).cell 3 rfl
  have g4 := (HCs.out HE2.out).cell 4 rfl
  have g5 := (HCs.out HE2.out).cell 5 rfl
  have g6 := (HCs.out HE2.out).cell 6 rfl
  have g7 := (HCs.out HE2.out).cell 7 rfl
  have g8 := (HCs.out HE2.out).cell 8 rfl
  have g9 := (HCs.out HE2.out).cell 9 rfl
  have g10 := (HCs.out HE2.out).cell 10 rfl
  have g11 := (HCs.out HE2.out).cell 11 rfl
  have g12 := (HCs.out HE2.out).cell 12 rfl
  go_wp2
  go_ret2
  exact HE2.out.ret HB4.out HG4.out (by rw [HR.out, HBb.out]; simp [encB, itmB]) rfl

set_option maxRecDepth 100000 in
set_option maxHeartbeats 4000000 in
theorem enc_23 (w : World) (i t n c : Int) (fi : Bool) (dt ci : List UInt8) (sp : List Sn) (dl e0 e1 e2 : Int) (da : Option Addr) (dc : Nat) (ca : Option Addr) (cc : Nat) (sa : Option Addr) (sc : Nat) (h : FIn w ⟨23, i, t, n, c, fi, dt, ci, sp, dl, e0, e1, e2⟩ ⟨da, dc, ca, cc, sa, sc⟩) (hl : FLow w.heap.size ⟨da, dc, ca, cc, sa, sc⟩) (hc : chkF ⟨23, i, t, n, c, fi, dt, ci, sp, dl, e0, e1, e2⟩ = 0) :
    Calls Try.prog 12 #[.agg (fcells ⟨23, i, t, n, c, fi, dt, ci, sp, dl, e0, e1, e2⟩ ⟨da, dc, ca, cc, sa, sc⟩).toArray] w (RetBE w.heap.size w (encB ⟨23, i, t, n, c, fi, dt, ci, sp, dl, e0, e1, e2⟩, 0)) := by
  obtain ⟨_, hd, hr⟩ := chk0 hc
  have hr : (decide (0 ≤ n) && decide (n ≤ 1152921504606846976)) = true := hr
  have hd : dt.length ≤ 16384 := hd
  obtain ⟨R, hR⟩ : ∃ R, R = encB ⟨23, i, t, n, c, fi, dt, ci, sp, dl, e0, e1, e2⟩ := ⟨_, rfl⟩
  obtain ⟨dn, hdn⟩ : ∃ dn, dn = dt.length := ⟨_, rfl⟩
  obtain ⟨cn, hcn⟩ : ∃ cn, cn = ci.length := ⟨_, rfl⟩
  obtain ⟨sn, hsn⟩ : ∃ sn, sn = sp.length := ⟨_, rfl⟩
  have hf : fcells ⟨23, i, t, n, c, fi, dt, ci, sp, dl, e0, e1, e2⟩ ⟨da, dc, ca, cc, sa, sc⟩ = [.int .i64 23, .int .i64 i, .int .i64 t, .int .i64 n, .int .i64 c, .bool fi, .slice da dn dc, .slice ca cn cc, .slice sa sn sc, .int .i64 dl, .int .i64 e0, .int .i64 e1, .int .i64 e2] := by rw [hdn, hcn, hsn]; rfl
  obtain ⟨w2, hw2⟩ : ∃ w2, w2 = w.alloc (.cells #[.int .i64 23, .int .i64 i, .int .i64 t, .int .i64 n, .int .i64 c, .bool fi, .slice da dn dc, .slice ca cn cc, .slice sa sn sc, .int .i64 dl, .int .i64 e0, .int .i64 e1, .int .i64 e2] 26) := ⟨_, rfl⟩
  have hB : Below w.heap.size w w2 := by rw [hw2]; exact alB w _
  obtain ⟨xb, hxb⟩ : ∃ xb, xb = w.heap.size := ⟨_, rfl⟩
  have hG : Has w2 xb 26 [.int .i64 23, .int .i64 i, .int .i64 t, .int .i64 n, .int .i64 c, .bool fi, .slice da dn dc, .slice ca cn cc, .slice sa sn sc, .int .i64 dl, .int .i64 e0, .int .i64 e1, .int .i64 e2] := by rw [hw2, hxb]; exact Has.new _ _ _
  have HG := Lib.hid hG
  have hC := checkF_any w2 (h.below hB)
  rw [hc, hf] at hC
  have HC := Lib.hid hC
  have HSt : Hid (∀ {w3 : World}, Below w2.heap.size w2 w3 → ES (w3.alloc (.cells #[.slice none 0 0] 59)) w3.heap.size none xb ⟨23, i, t, n, c, fi, dt, ci, sp, dl, e0, e1, e2⟩ ⟨da, dc, ca, cc, sa, sc⟩ (w3.alloc (.cells #[.slice none 0 0] 59)) [] none 0) := Lib.hid (fun hb => ES.start (by rw [hf]; exact HG.out.kept (X := none') (Kept.of_below hb) (fun h => h)) ((h.below hB).below hb) (hl.mono (by have := hB.size; have := hb.size; omega)))
  have HCs : Hid (∀ {w4 w' : World} {g : Nat} {b' : List UInt8} {ba' : Option Addr} {bc' : Nat}, ES w4 g none xb ⟨23, i, t, n, c, fi, dt, ci, sp, dl, e0, e1, e2⟩ ⟨da, dc, ca, cc, sa, sc⟩ w' b' ba' bc' → Has w' xb 26 [.int .i64 23, .int .i64 i, .int .i64 t, .int .i64 n, .int .i64 c, .bool fi, .slice da dn dc, .slice ca cn cc, .slice sa sn sc, .int .i64 dl, .int .i64 e0, .int .i64 e1, .int .i64 e2]) := Lib.hid (fun h => by rw [← hf]; exact h.box)
  have HTx : Hid (∀ {w4 w' : World} {g : Nat} {b' : List UInt8} {ba' : Option Addr} {bc' : Nat}, ES w4 g none xb ⟨23, i, t, n, c, fi, dt, ci, sp, dl, e0, e1, e2⟩ ⟨da, dc, ca, cc, sa, sc⟩ w' b' ba' bc' → b'.length ≤ 900000000 → Calls Try.prog 31 #[.pointer (some ⟨g, 0, none⟩), .slice da dn dc] w' (ESR w4 g none xb ⟨23, i, t, n, c, fi, dt, ci, sp, dl, e0, e1, e2⟩ ⟨da, dc, ca, cc, sa, sc⟩ (b' ++ (vl dt.length ++ dt)))) := Lib.hid (fun h hl => by rw [hdn]; exact h.data (Nat.le_trans hd (by decide)) hl)
  rw [← hR, hf]
  have HR := Lib.hid hR
  have HB := Lib.hid hB
  have HD := Lib.hid hd
  have HDn := Lib.hid hdn
  have HCn := Lib.hid hcn
  have HSn := Lib.hid hsn
  have HF := Lib.hid hf
  clear hR hf hdn hcn hsn hB hG hC h hl hd
  have hr_n : numB n = true := by simp at hr; exact numB_of (by omega)
  go_enter Try.func12, Try.ntmps12
  go_upto_region 1 with fail
  rw [← hw2, ← hxb]
  clear hw2 hxb
  have g0 := HG.out.cell 0 rfl
  have g1 := HG.out.cell 1 rfl
  have g2 := HG.out.cell 2 rfl
  have g3 := HG.out.cell 3 rfl
  have g4 := HG.out.cell 4 rfl
  have g5 := HG.out.cell 5 rfl
  have g6 := HG.out.cell 6 rfl
  have g7 := HG.out.cell 7 rfl
  have g8 := HG.out.cell 8 rfl
  have g9 := HG.out.cell 9 rfl
  have g10 := HG.out.cell 10 rfl
  have g11 := HG.out.cell 11 rfl
  have g12 := HG.out.cell 12 rfl
  go_upto_region 4 with (refine HC.out.mono ?_; rintro e w3 ⟨rfl, hb3⟩)
  obtain ⟨g, hg⟩ : ∃ g, g = w3.heap.size := ⟨_, rfl⟩
  obtain ⟨w4, hw4⟩ : ∃ w4, w4 = w3.alloc (.cells #[.slice none 0 0] 59) := ⟨_, rfl⟩
  have HE0 := Lib.hid (HSt.out hb3)
  rw [← hw4, ← hg] at HE0
  have HB4 : Hid (Below w.heap.size w w4) := Lib.hid (by rw [hw4]; exact (HB.out.trans (hb3.mono HB.out.size)).alloc (by have := HB.out.size; have := hb3.size; omega) _)
  have HG4 : Hid (w.heap.size ≤ g) := Lib.hid (by rw [hg]; have := HB.out.size; have := hb3.size; omega)
  clear hb3 g0 g1 g2 g3 g4 g5 g6 g7 g8 g9 g10 g11 g12
  go_upto_region 5 with fail
  rw [← hw4, ← hg]
  clear hw4 hg
  have HL0 : Hid (([] : List UInt8).length ≤ 0) := Lib.hid (Nat.le_refl _)
  have H1 := Lib.hid (HE0.out.nums1 23 (le_big HL0.out (by decide)).1 rfl)
  have g0 := (HCs.out HE0.out).cell 0 rfl
  have g1 := (HCs.out HE0.out).cell 1 rfl
  have g2 := (HCs.out HE0.out).cell 2 rfl
  have g3 := (HCs.out HE0.out).cell 3 rfl
  have g4 := (HCs.out HE0.out).cell 4 rfl
  have g5 := (HCs.out HE0.out).cell 5 rfl
  have g6 := (HCs.out HE0.out).cell 6 rfl
  have g7 := (HCs.out HE0.out).cell 7 rfl
  have g8 := (HCs.out HE0.out).cell 8 rfl
  have g9 := (HCs.out HE0.out).cell 9 rfl
  have g10 := (HCs.out HE0.out).cell 10 rfl
  have g11 := (HCs.out HE0.out).cell 11 rfl
  have g12 := (HCs.out HE0.out).cell 12 rfl
  go_wp2_with fail
  refine H1.out.mono ?_
  rintro e v1 ⟨rfl, ba1, bc1, hE⟩
  have HE1 := Lib.hid hE
  have HL1 : Hid (([] ++ nB [23]).length ≤ 8) := Lib.hid (len_nums HL0.out rfl)
  clear hE g0 g1 g2 g3 g4 g5 g6 g7 g8 g9 g10 g11 g12
  have H2 := Lib.hid (HE1.out.nums1 n (le_big HL1.out (by decide)).1 hr_n)
  have g0 := (HCs.out HE1.out).cell 0 rfl
  have g1 := (HCs.out HE1.out).cell 1 rfl
  have g2 := (HCs.out HE1.out).cell 2 rfl
  have g3 := (HCs.out HE1.out).cell 3 rfl
  have g4 := (HCs.out HE1.out).cell 4 rfl
  have g5 := (HCs.out HE1.out).cell 5 rfl
  have g6 := (HCs.out HE1.out).cell 6 rfl
  have g7 := (HCs.out HE1.out).cell 7 rfl
  have g8 := (HCs.out HE1.out).cell 8 rfl
  have g9 := (HCs.out HE1.out).cell 9 rfl
  have g10 := (HCs.out HE1.out).cell 10 rfl
  have g11 := (HCs.out HE1.out).cell 11 rfl
  have g12 := (HCs.out HE1.out).cell 12 rfl
  go_wp2_with fail
  refine H2.out.mono ?_
  rintro e v2 ⟨rfl, ba2, bc2, hE⟩
  have HE2 := Lib.hid hE
  have HL2 : Hid ((([] ++ nB [23]) ++ nB [n]).length ≤ 16) := Lib.hid (len_nums HL1.out rfl)
  clear hE g0 g1 g2 g3 g4 g5 g6 g7 g8 g9 g10 g11 g12
  obtain ⟨bb, hbb⟩ : ∃ bb, bb = (([] ++ nB [23]) ++ nB [n]) := ⟨_, rfl⟩
  rw [← hbb] at HE2
  have HBb := Lib.hid hbb
  clear hbb
  have q0 := HE2.out.wb.has.cell 0 rfl
  have g0 := (HCs.out HE2.out).cell 0 rfl
  have g1 := (HCs.out HE2.out).cell 1 rfl
  have g2 := (HCs.out HE2.out).cell 2 rfl
  have g3 := (HCs.out HE2.out).cell 3 rfl
  have g4 := (HCs.out HE2.out).cell 4 rfl
  have g5 := (HCs.out HE2.out).cell 5 rfl
  have g6 := (HCs.out HE2.out).cell 6 rfl
  have g7 := (HCs.out HE2.out).cell 7 rfl
  have g8 := (HCs.out HE2.out).cell 8 rfl
  have g9 := (HCs.out HE2.out).cell 9 rfl
  have g10 := (HCs.out HE2.out).cell 10 rfl
  have g11 := (HCs.out HE2.out).cell 11 rfl
  have g12 := (HCs.out HE2.out).cell 12 rfl
  go_wp2
  go_ret2
  exact HE2.out.ret HB4.out HG4.out (by rw [HR.out, HBb.out]; simp [encB, itmB]) rfl

set_option maxRecDepth 100000 in
set_option maxHeartbeats 4000000 in
theorem enc_25 (w : World) (i t n c : Int) (fi : Bool) (dt ci : List UInt8) (sp : List Sn) (dl e0 e1 e2 : Int) (da : Option Addr) (dc : Nat) (ca : Option Addr) (cc : Nat) (sa : Option Addr) (sc : Nat) (h : FIn w ⟨25, i, t, n, c, fi, dt, ci, sp, dl, e0, e1, e2⟩ ⟨da, dc, ca, cc, sa, sc⟩) (hl : FLow w.heap.size ⟨da, dc, ca, cc, sa, sc⟩) (hc : chkF ⟨25, i, t, n, c, fi, dt, ci, sp, dl, e0, e1, e2⟩ = 0) :
    Calls Try.prog 12 #[.agg (fcells ⟨25, i, t, n, c, fi, dt, ci, sp, dl, e0, e1, e2⟩ ⟨da, dc, ca, cc, sa, sc⟩).toArray] w (RetBE w.heap.size w (encB ⟨25, i, t, n, c, fi, dt, ci, sp, dl, e0, e1, e2⟩, 0)) := by
  obtain ⟨_, hd, hr⟩ := chk0 hc
  have hr : [n].all numB = true := hr
  have hd : dt.length ≤ 16384 := hd
  obtain ⟨R, hR⟩ : ∃ R, R = encB ⟨25, i, t, n, c, fi, dt, ci, sp, dl, e0, e1, e2⟩ := ⟨_, rfl⟩
  obtain ⟨dn, hdn⟩ : ∃ dn, dn = dt.length := ⟨_, rfl⟩
  obtain ⟨cn, hcn⟩ : ∃ cn, cn = ci.length := ⟨_, rfl⟩
  obtain ⟨sn, hsn⟩ : ∃ sn, sn = sp.length := ⟨_, rfl⟩
  have hf : fcells ⟨25, i, t, n, c, fi, dt, ci, sp, dl, e0, e1, e2⟩ ⟨da, dc, ca, cc, sa, sc⟩ = [.int .i64 25, .int .i64 i, .int .i64 t, .int .i64 n, .int .i64 c, .bool fi, .slice da dn dc, .slice ca cn cc, .slice sa sn sc, .int .i64 dl, .int .i64 e0, .int .i64 e1, .int .i64 e2] := by rw [hdn, hcn, hsn]; rfl
  obtain ⟨w2, hw2⟩ : ∃ w2, w2 = w.alloc (.cells #[.int .i64 25, .int .i64 i, .int .i64 t, .int .i64 n, .int .i64 c, .bool fi, .slice da dn dc, .slice ca cn cc, .slice sa sn sc, .int .i64 dl, .int .i64 e0, .int .i64 e1, .int .i64 e2] 26) := ⟨_, rfl⟩
  have hB : Below w.heap.size w w2 := by rw [hw2]; exact alB w _
  obtain ⟨xb, hxb⟩ : ∃ xb, xb = w.heap.size := ⟨_, rfl⟩
  have hG : Has w2 xb 26 [.int .i64 25, .int .i64 i, .int .i64 t, .int .i64 n, .int .i64 c, .bool fi, .slice da dn dc, .slice ca cn cc, .slice sa sn sc, .int .i64 dl, .int .i64 e0, .int .i64 e1, .int .i64 e2] := by rw [hw2, hxb]; exact Has.new _ _ _
  have HG := Lib.hid hG
  have hC := checkF_any w2 (h.below hB)
  rw [hc, hf] at hC
  have HC := Lib.hid hC
  have HSt : Hid (∀ {w3 : World}, Below w2.heap.size w2 w3 → ES (w3.alloc (.cells #[.slice none 0 0] 59)) w3.heap.size none xb ⟨25, i, t, n, c, fi, dt, ci, sp, dl, e0, e1, e2⟩ ⟨da, dc, ca, cc, sa, sc⟩ (w3.alloc (.cells #[.slice none 0 0] 59)) [] none 0) := Lib.hid (fun hb => ES.start (by rw [hf]; exact HG.out.kept (X := none') (Kept.of_below hb) (fun h => h)) ((h.below hB).below hb) (hl.mono (by have := hB.size; have := hb.size; omega)))
  have HCs : Hid (∀ {w4 w' : World} {g : Nat} {b' : List UInt8} {ba' : Option Addr} {bc' : Nat}, ES w4 g none xb ⟨25, i, t, n, c, fi, dt, ci, sp, dl, e0, e1, e2⟩ ⟨da, dc, ca, cc, sa, sc⟩ w' b' ba' bc' → Has w' xb 26 [.int .i64 25, .int .i64 i, .int .i64 t, .int .i64 n, .int .i64 c, .bool fi, .slice da dn dc, .slice ca cn cc, .slice sa sn sc, .int .i64 dl, .int .i64 e0, .int .i64 e1, .int .i64 e2]) := Lib.hid (fun h => by rw [← hf]; exact h.box)
  have HTx : Hid (∀ {w4 w' : World} {g : Nat} {b' : List UInt8} {ba' : Option Addr} {bc' : Nat}, ES w4 g none xb ⟨25, i, t, n, c, fi, dt, ci, sp, dl, e0, e1, e2⟩ ⟨da, dc, ca, cc, sa, sc⟩ w' b' ba' bc' → b'.length ≤ 900000000 → Calls Try.prog 31 #[.pointer (some ⟨g, 0, none⟩), .slice da dn dc] w' (ESR w4 g none xb ⟨25, i, t, n, c, fi, dt, ci, sp, dl, e0, e1, e2⟩ ⟨da, dc, ca, cc, sa, sc⟩ (b' ++ (vl dt.length ++ dt)))) := Lib.hid (fun h hl => by rw [hdn]; exact h.data (Nat.le_trans hd (by decide)) hl)
  rw [← hR, hf]
  have HR := Lib.hid hR
  have HB := Lib.hid hB
  have HD := Lib.hid hd
  have HDn := Lib.hid hdn
  have HCn := Lib.hid hcn
  have HSn := Lib.hid hsn
  have HF := Lib.hid hf
  clear hR hf hdn hcn hsn hB hG hC h hl hd
  have hr_n : numB n = true := by simpa using hr
  go_enter Try.func12, Try.ntmps12
  go_upto_region 1 with fail
  rw [← hw2, ← hxb]
  clear hw2 hxb
  have g0 := HG.out.cell 0 rfl
  have g1 := HG.out.cell 1 rfl
  have g2 := HG.out.cell 2 rfl
  have g3 := HG.out.cell 3 rfl
  have g4 := HG.out.cell 4 rfl
  have g5 := HG.out.cell 5 rfl
  have g6 := HG.out.cell 6 rfl
  have g7 := HG.out.cell 7 rfl
  have g8 := HG.out.cell 8 rfl
  have g9 := HG.out.cell 9 rfl
  have g10 := HG.out.cell 10 rfl
  have g11 := HG.out.cell 11 rfl
  have g12 := HG.out.cell 12 rfl
  go_upto_region 4 with (refine HC.out.mono ?_; rintro e w3 ⟨rfl, hb3⟩)
  obtain ⟨g, hg⟩ : ∃ g, g = w3.heap.size := ⟨_, rfl⟩
  obtain ⟨w4, hw4⟩ : ∃ w4, w4 = w3.alloc (.cells #[.slice none 0 0] 59) := ⟨_, rfl⟩
  have HE0 := Lib.hid (HSt.out hb3)
  rw [← hw4, ← hg] at HE0
  have HB4 : Hid (Below w.heap.size w w4) := Lib.hid (by rw [hw4]; exact (HB.out.trans (hb3.mono HB.out.size)).alloc (by have := HB.out.size; have := hb3.size; omega) _)
  have HG4 : Hid (w.heap.size ≤ g) := Lib.hid (by rw [hg]; have := HB.out.size; have := hb3.size; omega)
  clear hb3 g0 g1 g2 g3 g4 g5 g6 g7 g8 g9 g10 g11 g12
  go_upto_region 5 with fail
  rw [← hw4, ← hg]
  clear hw4 hg
  have HL0 : Hid (([] : List UInt8).length ≤ 0) := Lib.hid (Nat.le_refl _)
  have H1 := Lib.hid (HE0.out.nums1 25 (le_big HL0.out (by decide)).1 rfl)
  have g0 := (HCs.out HE0.out).cell 0 rfl
  have g1 := (HCs.out HE0.out).cell 1 rfl
  have g2 := (HCs.out HE0.out).cell 2 rfl
  have g3 := (HCs.out HE0.out).cell 3 rfl
  have g4 := (HCs.out HE0.out).cell 4 rfl
  have g5 := (HCs.out HE0.out).cell 5 rfl
  have g6 := (HCs.out HE0.out).cell 6 rfl
  have g7 := (HCs.out HE0.out).cell 7 rfl
  have g8 := (HCs.out HE0.out).cell 8 rfl
  have g9 := (HCs.out HE0.out).cell 9 rfl
  have g10 := (HCs.out HE0.out).cell 10 rfl
  have g11 := (HCs.out HE0.out).cell 11 rfl
  have g12 := (HCs.out HE0.out).cell 12 rfl
  go_wp2_with fail
  refine H1.out.mono ?_
  rintro e v1 ⟨rfl, ba1, bc1, hE⟩
  have HE1 := Lib.hid hE
  have HL1 : Hid (([] ++ nB [25]).length ≤ 8) := Lib.hid (len_nums HL0.out rfl)
  clear hE g0 g1 g2 g3 g4 g5 g6 g7 g8 g9 g10 g11 g12
  have H2 := Lib.hid (HE1.out.nums1 n (le_big HL1.out (by decide)).1 hr_n)
  have g0 := (HCs.out HE1.out).cell 0 rfl
  have g1 := (HCs.out HE1.out).cell 1 rfl
  have g2 := (HCs.out HE1.out).cell 2 rfl
  have g3 := (HCs.out HE1.out).cell 3 rfl
  have g4 := (HCs.out HE1.out).cell 4 rfl
  have g5 := (HCs.out HE1.out).cell 5 rfl
  have g6 := (HCs.out HE1.out).cell 6 rfl
  have g7 := (HCs.out HE1.out).cell 7 rfl
  have g8 := (HCs.out HE1.out).cell 8 rfl
  have g9 := (HCs.out HE1.out).cell 9 rfl
  have g10 := (HCs.out HE1.out).cell 10 rfl
  have g11 := (HCs.out HE1.out).cell 11 rfl
  have g12 := (HCs.out HE1.out).cell 12 rfl
  go_wp2_with fail
  refine H2.out.mono ?_
  rintro e v2 ⟨rfl, ba2, bc2, hE⟩
  have HE2 := Lib.hid hE
  have HL2 : Hid ((([] ++ nB [25]) ++ nB [n]).length ≤ 16) := Lib.hid (len_nums HL1.out rfl)
  clear hE g0 g1 g2 g3 g4 g5 g6 g7 g8 g9 g10 g11 g12
  obtain ⟨bb, hbb⟩ : ∃ bb, bb = (([] ++ nB [25]) ++ nB [n]) := ⟨_, rfl⟩
  rw [← hbb] at HE2
  have HBb := Lib.hid hbb
  clear hbb
  have q0 := HE2.out.wb.has.cell 0 rfl
  have g0 := (HCs.out HE2.out).cell 0 rfl
  have g1 := (HCs.out HE2.out).cell 1 rfl
  have g2 := (HCs.out HE2.out).cell 2 rfl
  have g3 := (HCs.out HE2.out).cell 3 rfl
  have g4 := (HCs.out HE2.out).cell 4 rfl
  have g5 := (HCs.out HE2.out).cell 5 rfl
  have g6 := (HCs.out HE2.out).cell 6 rfl
  have g7 := (HCs.out HE2.out).cell 7 rfl
  have g8 := (HCs.out HE2.out).cell 8 rfl
  have g9 := (HCs.out HE2.out).cell 9 rfl
  have g10 := (HCs.out HE2.out).cell 10 rfl
  have g11 := (HCs.out HE2.out).cell 11 rfl
  have g12 := (HCs.out HE2.out).cell 12 rfl
  go_wp2
  go_ret2
  exact HE2.out.ret HB4.out HG4.out (by rw [HR.out, HBb.out]; simp [encB, itmB]) rfl

set_option maxRecDepth 100000 in
set_option maxHeartbeats 4000000 in
theorem enc_28 (w : World) (i t n c : Int) (fi : Bool) (dt ci : List UInt8) (sp : List Sn) (dl e0 e1 e2 : Int) (da : Option Addr) (dc : Nat) (ca : Option Addr) (cc : Nat) (sa : Option Addr) (sc : Nat) (h : FIn w ⟨28, i, t, n, c, fi, dt, ci, sp, dl, e0, e1, e2⟩ ⟨da, dc, ca, cc, sa, sc⟩) (hl : FLow w.heap.size ⟨da, dc, ca, cc, sa, sc⟩) (hc : chkF ⟨28, i, t, n, c, fi, dt, ci, sp, dl, e0, e1, e2⟩ = 0) :
    Calls Try.prog 12 #[.agg (fcells ⟨28, i, t, n, c, fi, dt, ci, sp, dl, e0, e1, e2⟩ ⟨da, dc, ca, cc, sa, sc⟩).toArray] w (RetBE w.heap.size w (encB ⟨28, i, t, n, c, fi, dt, ci, sp, dl, e0, e1, e2⟩, 0)) := by
  obtain ⟨_, hd, hr⟩ := chk0 hc
  have hr : [c, n].all numB = true := hr
  have hd : dt.length ≤ 16384 := hd
  obtain ⟨R, hR⟩ : ∃ R, R = encB ⟨28, i, t, n, c, fi, dt, ci, sp, dl, e0, e1, e2⟩ := ⟨_, rfl⟩
  obtain ⟨dn, hdn⟩ : ∃ dn, dn = dt.length := ⟨_, rfl⟩
  obtain ⟨cn, hcn⟩ : ∃ cn, cn = ci.length := ⟨_, rfl⟩
  obtain ⟨sn, hsn⟩ : ∃ sn, sn = sp.length := ⟨_, rfl⟩
  have hf : fcells ⟨28, i, t, n, c, fi, dt, ci, sp, dl, e0, e1, e2⟩ ⟨da, dc, ca, cc, sa, sc⟩ = [.int .i64 28, .int .i64 i, .int .i64 t, .int .i64 n, .int .i64 c, .bool fi, .slice da dn dc, .slice ca cn cc, .slice sa sn sc, .int .i64 dl, .int .i64 e0, .int .i64 e1, .int .i64 e2] := by rw [hdn, hcn, hsn]; rfl
  obtain ⟨w2, hw2⟩ : ∃ w2, w2 = w.alloc (.cells #[.int .i64 28, .int .i64 i, .int .i64 t, .int .i64 n, .int .i64 c, .bool fi, .slice da dn dc, .slice ca cn cc, .slice sa sn sc, .int .i64 dl, .int .i64 e0, .int .i64 e1, .int .i64 e2] 26) := ⟨_, rfl⟩
  have hB : Below w.heap.size w w2 := by rw [hw2]; exact alB w _
  obtain ⟨xb, hxb⟩ : ∃ xb, xb = w.heap.size := ⟨_, rfl⟩
  have hG : Has w2 xb 26 [.int .i64 28, .int .i64 i, .int .i64 t, .int .i64 n, .int .i64 c, .bool fi, .slice da dn dc, .slice ca cn cc, .slice sa sn sc, .int .i64 dl, .int .i64 e0, .int .i64 e1, .int .i64 e2] := by rw [hw2, hxb]; exact Has.new _ _ _
  have HG := Lib.hid hG
  have hC := checkF_any w2 (h.below hB)
  rw [hc, hf] at hC
  have HC := Lib.hid hC
  have HSt : Hid (∀ {w3 : World}, Below w2.heap.size w2 w3 → ES (w3.alloc (.cells #[.slice none 0 0] 59)) w3.heap.size none xb ⟨28, i, t, n, c, fi, dt, ci, sp, dl, e0, e1, e2⟩ ⟨da, dc, ca, cc, sa, sc⟩ (w3.alloc (.cells #[.slice none 0 0] 59)) [] none 0) := Lib.hid (fun hb => ES.start (by rw [hf]; exact HG.out.kept (X := none') (Kept.of_below hb) (fun h => h)) ((h.below hB).below hb) (hl.mono (by have := hB.size; have := hb.size; omega)))
  have HCs : Hid (∀ {w4 w' : World} {g : Nat} {b' : List UInt8} {ba' : Option Addr} {bc' : Nat}, ES w4 g none xb ⟨28, i, t, n, c, fi, dt, ci, sp, dl, e0, e1, e2⟩ ⟨da, dc, ca, cc, sa, sc⟩ w' b' ba' bc' → Has w' xb 26 [.int .i64 28, .int .i64 i, .int .i64 t, .int .i64 n, .int .i64 c, .bool fi, .slice da dn dc, .slice ca cn cc, .slice sa sn sc, .int .i64 dl, .int .i64 e0, .int .i64 e1, .int .i64 e2]) := Lib.hid (fun h => by rw [← hf]; exact h.box)
  have HTx : Hid (∀ {w4 w' : World} {g : Nat} {b' : List UInt8} {ba' : Option Addr} {bc' : Nat}, ES w4 g none xb ⟨28, i, t, n, c, fi, dt, ci, sp, dl, e0, e1, e2⟩ ⟨da, dc, ca, cc, sa, sc⟩ w' b' ba' bc' → b'.length ≤ 900000000 → Calls Try.prog 31 #[.pointer (some ⟨g, 0, none⟩), .slice da dn dc] w' (ESR w4 g none xb ⟨28, i, t, n, c, fi, dt, ci, sp, dl, e0, e1, e2⟩ ⟨da, dc, ca, cc, sa, sc⟩ (b' ++ (vl dt.length ++ dt)))) := Lib.hid (fun h hl => by rw [hdn]; exact h.data (Nat.le_trans hd (by decide)) hl)
  rw [← hR, hf]
  have HR := Lib.hid hR
  have HB := Lib.hid hB
  have HD := Lib.hid hd
  have HDn := Lib.hid hdn
  have HCn := Lib.hid hcn
  have HSn := Lib.hid hsn
  have HF := Lib.hid hf
  clear hR hf hdn hcn hsn hB hG hC h hl hd
  obtain ⟨hr_c, hr_n⟩ : numB c = true ∧ numB n = true := by simpa using hr
  go_enter Try.func12, Try.ntmps12
  go_upto_region 1 with fail
  rw [← hw2, ← hxb]
  clear hw2 hxb
  have g0 := HG.out.cell 0 rfl
  have g1 := HG.out.cell 1 rfl
  have g2 := HG.out.cell 2 rfl
  have g3 := HG.out.cell 3 rfl
  have g4 := HG.out.cell 4 rfl
  have g5 := HG.out.cell 5 rfl
  have g6 := HG.out.cell 6 rfl
  have g7 := HG.out.cell 7 rfl
  have g8 := HG.out.cell 8 rfl
  have g9 := HG.out.cell 9 rfl
  have g10 := HG.out.cell 10 rfl
  have g11 := HG.out.cell 11 rfl
  have g12 := HG.out.cell 12 rfl
  go_upto_region 4 with (refine HC.out.mono ?_; rintro e w3 ⟨rfl, hb3⟩)
  obtain ⟨g, hg⟩ : ∃ g, g = w3.heap.size := ⟨_, rfl⟩
  obtain ⟨w4, hw4⟩ : ∃ w4, w4 = w3.alloc (.cells #[.slice none 0 0] 59) := ⟨_, rfl⟩
  have HE0 := Lib.hid (HSt.out hb3)
  rw [← hw4, ← hg] at HE0
  have HB4 : Hid (Below w.heap.size w w4) := Lib.hid (by rw [hw4]; exact (HB.out.trans (hb3.mono HB.out.size)).alloc (by have := HB.out.size; have := hb3.size; omega) _)
  have HG4 : Hid (w.heap.size ≤ g) := Lib.hid (by rw [hg]; have := HB.out.size; have := hb3.size; omega)
  clear hb3 g0 g1 g2 g3 g4 g5 g6 g7 g8 g9 g10 g11 g12
  go_upto_region 5 with fail
  rw [← hw4, ← hg]
  clear hw4 hg
  have HL0 : Hid (([] : List UInt8).length ≤ 0) := Lib.hid (Nat.le_refl _)
  have H1 := Lib.hid (HE0.out.nums1 28 (le_big HL0.out (by decide)).1 rfl)
  have g0 := (HCs.out HE0.out).cell 0 rfl
  have g1 := (HCs.out HE0.out).cell 1 rfl
  have g2 := (HCs.out HE0.out).cell 2 rfl
  have g3 := (HCs.out HE0.out).cell 3 rfl
  have g4 := (HCs.out HE0.out).cell 4 rfl
  have g5 := (HCs.out HE0.out).cell 5 rfl
  have g6 := (HCs.out HE0.out).cell 6 rfl
  have g7 := (HCs.out HE0.out).cell 7 rfl
  have g8 := (HCs.out HE0.out).cell 8 rfl
  have g9 := (HCs.out HE0.out).cell 9 rfl
  have g10 := (HCs.out HE0.out).cell 10 rfl
  have g11 := (HCs.out HE0.out).cell 11 rfl
  have g12 := (HCs.out HE0.out).cell 12 rfl
  go_wp2_with fail
  refine H1.out.mono ?_
  rintro e v1 ⟨rfl, ba1, bc1, hE⟩
  have HE1 := Lib.hid hE
  have HL1 : Hid (([] ++ nB [28]).length ≤ 8) := Lib.hid (len_nums HL0.out rfl)
  clear hE g0 g1 g2 g3 g4 g5 g6 g7 g8 g9 g10 g11 g12
  have H2 := Lib.hid (HE1.out.nums2 c n (le_big HL1.out (by decide)).1 hr_c hr_n)
  have g0 := (HCs.out HE1.out).cell 0 rfl
  have g1 := (HCs.out HE1.out).cell 1 rfl
  have g2 := (HCs.out HE1.out).cell 2 rfl
  have g3 := (HCs.out HE1.out).cell 3 rfl
  have g4 := (HCs.out HE1.out).cell 4 rfl
  have g5 := (HCs.out HE1.out).cell 5 rfl
  have g6 := (HCs.out HE1.out).cell 6 rfl
  have g7 := (HCs.out HE1.out).cell 7 rfl
  have g8 := (HCs.out HE1.out).cell 8 rfl
  have g9 := (HCs.out HE1.out).cell 9 rfl
  have g10 := (HCs.out HE1.out).cell 10 rfl
  have g11 := (HCs.out HE1.out).cell 11 rfl
  have g12 := (HCs.out HE1.out).cell 12 rfl
  go_wp2_with fail
  refine H2.out.mono ?_
  rintro e v2 ⟨rfl, ba2, bc2, hE⟩
  have HE2 := Lib.hid hE
  have HL2 : Hid ((([] ++ nB [28]) ++ nB [c, n]).length ≤ 24) := Lib.hid (len_nums HL1.out rfl)
  clear hE g0 g1 g2 g3 g4 g5 g6 g7 g8 g9 g10 g11 g12
  have H3 := Lib.hid (HTx.out HE2.out (le_big HL2.out (by decide)).2.1)
  have g0 := (HCs.out HE2.out).cell 0 rfl
  have g1 := (HCs.out HE2.out).cell 1 rfl
  have g2 := (HCs.out HE2.out).cell 2 rfl
  have g3 := (HCs.out HE2.out).cell 3 rfl
  have g4 := (HCs.out HE2.out).cell 4 rfl
  have g5 := (HCs.out HE2.out).cell 5 rfl
  have g6 := (HCs.out HE2.out).cell 6 rfl
  have g7 := (HCs.out HE2.out).cell 7 rfl
  have g8 := (HCs.out HE2.out).cell 8 rfl
  have g9 := (HCs.out HE2.out).cell 9 rfl
  have g10 := (HCs.out HE2.out).cell 10 rfl
  have g11 := (HCs.out HE2.out).cell 11 rfl
  have g12 := (HCs.out HE2.out).cell 12 rfl
  go_wp2_with fail
  refine H3.out.mono ?_
  rintro e v3 ⟨rfl, ba3, bc3, hE⟩
  have HE3 := Lib.hid hE
  have HL3 : Hid (((([] ++ nB [28]) ++ nB [c, n]) ++ (vl dt.length ++ dt)).length ≤ 16416) := Lib.hid (len_app HL2.out (n := 16392) (by rw [List.length_append, vl_length]; have := (szN_pos dt.length).2; have := HD.out; omega) rfl)
  clear hE g0 g1 g2 g3 g4 g5 g6 g7 g8 g9 g10 g11 g12
  obtain ⟨bb, hbb⟩ : ∃ bb, bb = ((([] ++ nB [28]) ++ nB [c, n]) ++ (vl dt.length ++ dt)) := ⟨_, rfl⟩
  rw [← hbb] at HE3
  have HBb := Lib.hid hbb
  clear hbb
  have q0 := HE3.out.wb.has.cell 0 rfl
  have g0 := (HCs.out HE3.out).cell 0 rfl
  have g1 := (HCs.out HE3.out).cell 1 rfl
  have g2 := (HCs.out HE3.out).cell 2 rfl
  have g3 := (HCs.out HE3.out).cell 3 rfl
  have g4 := (HCs.out HE3.out).cell 4 rfl
  have g5 := (HCs.out HE3.out).cell 5 rfl
  have g6 := (HCs.out HE3.out).cell 6 rfl
  have g7 := (HCs.out HE3.out).cell 7 rfl
  have g8 := (HCs.out HE3.out).cell 8 rfl
  have g9 := (HCs.out HE3.out).cell 9 rfl
  have g10 := (HCs.out HE3.out).cell 10 rfl
  have g11 := (HCs.out HE3.out).cell 11 rfl
  have g12 := (HCs.out HE3.out).cell 12 rfl
  go_wp2
  go_ret2
  exact HE3.out.ret HB4.out HG4.out (by rw [HR.out, HBb.out]; simp [encB, itmB, txtB]) rfl

set_option maxRecDepth 100000 in
set_option maxHeartbeats 4000000 in
theorem enc_29 (w : World) (i t n c : Int) (fi : Bool) (dt ci : List UInt8) (sp : List Sn) (dl e0 e1 e2 : Int) (da : Option Addr) (dc : Nat) (ca : Option Addr) (cc : Nat) (sa : Option Addr) (sc : Nat) (h : FIn w ⟨29, i, t, n, c, fi, dt, ci, sp, dl, e0, e1, e2⟩ ⟨da, dc, ca, cc, sa, sc⟩) (hl : FLow w.heap.size ⟨da, dc, ca, cc, sa, sc⟩) (hc : chkF ⟨29, i, t, n, c, fi, dt, ci, sp, dl, e0, e1, e2⟩ = 0) :
    Calls Try.prog 12 #[.agg (fcells ⟨29, i, t, n, c, fi, dt, ci, sp, dl, e0, e1, e2⟩ ⟨da, dc, ca, cc, sa, sc⟩).toArray] w (RetBE w.heap.size w (encB ⟨29, i, t, n, c, fi, dt, ci, sp, dl, e0, e1, e2⟩, 0)) := by
  obtain ⟨_, hd, hr⟩ := chk0 hc
  have hr : [c].all numB = true := hr
  have hd : dt.length ≤ 16384 := hd
  obtain ⟨R, hR⟩ : ∃ R, R = encB ⟨29, i, t, n, c, fi, dt, ci, sp, dl, e0, e1, e2⟩ := ⟨_, rfl⟩
  obtain ⟨dn, hdn⟩ : ∃ dn, dn = dt.length := ⟨_, rfl⟩
  obtain ⟨cn, hcn⟩ : ∃ cn, cn = ci.length := ⟨_, rfl⟩
  obtain ⟨sn, hsn⟩ : ∃ sn, sn = sp.length := ⟨_, rfl⟩
  have hf : fcells ⟨29, i, t, n, c, fi, dt, ci, sp, dl, e0, e1, e2⟩ ⟨da, dc, ca, cc, sa, sc⟩ = [.int .i64 29, .int .i64 i, .int .i64 t, .int .i64 n, .int .i64 c, .bool fi, .slice da dn dc, .slice ca cn cc, .slice sa sn sc, .int .i64 dl, .int .i64 e0, .int .i64 e1, .int .i64 e2] := by rw [hdn, hcn, hsn]; rfl
  obtain ⟨w2, hw2⟩ : ∃ w2, w2 = w.alloc (.cells #[.int .i64 29, .int .i64 i, .int .i64 t, .int .i64 n, .int .i64 c, .bool fi, .slice da dn dc, .slice ca cn cc, .slice sa sn sc, .int .i64 dl, .int .i64 e0, .int .i64 e1, .int .i64 e2] 26) := ⟨_, rfl⟩
  have hB : Below w.heap.size w w2 := by rw [hw2]; exact alB w _
  obtain ⟨xb, hxb⟩ : ∃ xb, xb = w.heap.size := ⟨_, rfl⟩
  have hG : Has w2 xb 26 [.int .i64 29, .int .i64 i, .int .i64 t, .int .i64 n, .int .i64 c, .bool fi, .slice da dn dc, .slice ca cn cc, .slice sa sn sc, .int .i64 dl, .int .i64 e0, .int .i64 e1, .int .i64 e2] := by rw [hw2, hxb]; exact Has.new _ _ _
  have HG := Lib.hid hG
  have hC := checkF_any w2 (h.below hB)
  rw [hc, hf] at hC
  have HC := Lib.hid hC
  have HSt : Hid (∀ {w3 : World}, Below w2.heap.size w2 w3 → ES (w3.alloc (.cells #[.slice none 0 0] 59)) w3.heap.size none xb ⟨29, i, t, n, c, fi, dt, ci, sp, dl, e0, e1, e2⟩ ⟨da, dc, ca, cc, sa, sc⟩ (w3.alloc (.cells #[.slice none 0 0] 59)) [] none 0) := Lib.hid (fun hb => ES.start (by rw [hf]; exact HG.out.kept (X := none') (Kept.of_below hb) (fun h => h)) ((h.below hB).below hb) (hl.mono (by have := hB.size; have := hb.size; omega)))
  have HCs : Hid (∀ {w4 w' : World} {g : Nat} {b' : List UInt8} {ba' : Option Addr} {bc' : Nat}, ES w4 g none xb ⟨29, i, t, n, c, fi, dt, ci, sp, dl, e0, e1, e2⟩ ⟨da, dc, ca, cc, sa, sc⟩ w' b' ba' bc' → Has w' xb 26 [.int .i64 29, .int .i64 i, .int .i64 t, .int .i64 n, .int .i64 c, .bool fi, .slice da dn dc, .slice ca cn cc, .slice sa sn sc, .int .i64 dl, .int .i64 e0, .int .i64 e1, .int .i64 e2]) := Lib.hid (fun h => by rw [← hf]; exact h.box)
  have HTx : Hid (∀ {w4 w' : World} {g : Nat} {b' : List UInt8} {ba' : Option Addr} {bc' : Nat}, ES w4 g none xb ⟨29, i, t, n, c, fi, dt, ci, sp, dl, e0, e1, e2⟩ ⟨da, dc, ca, cc, sa, sc⟩ w' b' ba' bc' → b'.length ≤ 900000000 → Calls Try.prog 31 #[.pointer (some ⟨g, 0, none⟩), .slice da dn dc] w' (ESR w4 g none xb ⟨29, i, t, n, c, fi, dt, ci, sp, dl, e0, e1, e2⟩ ⟨da, dc, ca, cc, sa, sc⟩ (b' ++ (vl dt.length ++ dt)))) := Lib.hid (fun h hl => by rw [hdn]; exact h.data (Nat.le_trans hd (by decide)) hl)
  rw [← hR, hf]
  have HR := Lib.hid hR
  have HB := Lib.hid hB
  have HD := Lib.hid hd
  have HDn := Lib.hid hdn
  have HCn := Lib.hid hcn
  have HSn := Lib.hid hsn
  have HF := Lib.hid hf
  clear hR hf hdn hcn hsn hB hG hC h hl hd
  have hr_c : numB c = true := by simpa using hr
  go_enter Try.func12, Try.ntmps12
  go_upto_region 1 with fail
  rw [← hw2, ← hxb]
  clear hw2 hxb
  have g0 := HG.out.cell 0 rfl
  have g1 := HG.out.cell 1 rfl
  have g2 := HG.out.cell 2 rfl
  have g3 := HG.out.cell 3 rfl
  have g4 := HG.out.cell 4 rfl
  have g5 := HG.out.cell 5 rfl
  have g6 := HG.out.cell 6 rfl
  have g7 := HG.out.cell 7 rfl
  have g8 := HG.out.cell 8 rfl
  have g9 := HG.out.cell 9 rfl
  have g10 := HG.out.cell 10 rfl
  have g11 := HG.out.cell 11 rfl
  have g12 := HG.out.cell 12 rfl
  go_upto_region 4 with (refine HC.out.mono ?_; rintro e w3 ⟨rfl, hb3⟩)
  obtain ⟨g, hg⟩ : ∃ g, g = w3.heap.size := ⟨_, rfl⟩
  obtain ⟨w4, hw4⟩ : ∃ w4, w4 = w3.alloc (.cells #[.slice none 0 0] 59) := ⟨_, rfl⟩
  have HE0 := Lib.hid (HSt.out hb3)
  rw [← hw4, ← hg] at HE0
  have HB4 : Hid (Below w.heap.size w w4) := Lib.hid (by rw [hw4]; exact (HB.out.trans (hb3.mono HB.out.size)).alloc (by have := HB.out.size; have := hb3.size; omega) _)
  have HG4 : Hid (w.heap.size ≤ g) := Lib.hid (by rw [hg]; have := HB.out.size; have := hb3.size; omega)
  clear hb3 g0 g1 g2 g3 g4 g5 g6 g7 g8 g9 g10 g11 g12
  go_upto_region 5 with fail
  rw [← hw4, ← hg]
  clear hw4 hg
  have HL0 : Hid (([] : List UInt8).length ≤ 0) := Lib.hid (Nat.le_refl _)
  have H1 := Lib.hid (HE0.out.nums1 29 (le_big HL0.out (by decide)).1 rfl)
  have g0 := (HCs.out HE0.out).cell 0 rfl
  have g1 := (HCs.out HE0.out).cell 1 rfl
  have g2 := (HCs.out HE0.out).cell 2 rfl
  have g3 := (HCs.out HE0.out).cell 3 rfl
  have g4 := (HCs.out HE0.out).cell 4 rfl
  have g5 := (HCs.out HE0.out).cell 5 rfl
  have g6 := (HCs.out HE0.out).cell 6 rfl
  have g7 := (HCs.out HE0.out).cell 7 rfl
  have g8 := (HCs.out HE0.out).cell 8 rfl
  have g9 := (HCs.out HE0.out).cell 9 rfl
  have g10 := (HCs.out HE0.out).cell 10 rfl
  have g11 := (HCs.out HE0.out).cell 11 rfl
  have g12 := (HCs.out HE0.out).cell 12 rfl
  go_wp2_with fail
  refine H1.out.mono ?_
  rintro e v1 ⟨rfl, ba1, bc1, hE⟩
  have HE1 := Lib.hid hE
  have HL1 : Hid (([] ++ nB [29]).length ≤ 8) := Lib.hid (len_nums HL0.out rfl)
  clear hE g0 g1 g2 g3 g4 g5 g6 g7 g8 g9 g10 g11 g12
  have H2 := Lib.hid (HE1.out.nums1 c (le_big HL1.out (by decide)).1 hr_c)
  have g0 := (HCs.out HE1.out).cell 0 rfl
  have g1 := (HCs.out HE1.out).cell 1 rfl
  have g2 := (HCs.out HE1.out).cell 2 rfl
  have g3 := (HCs.out HE1.out).cell 3 rfl
  have g4 := (HCs.out HE1.out).cell 4 rfl
  have g5 := (HCs.out HE1.out).cell 5 rfl
  have g6 := (HCs.out HE1.out).cell 6 rfl
  have g7 := (HCs.out HE1.out).cell 7 rfl
  have g8 := (HCs.out HE1.out).cell 8 rfl
  have g9 := (HCs.out HE1.out).cell 9 rfl
  have g10 := (HCs.out HE1.out).cell 10 rfl
  have g11 := (HCs.out HE1.out).cell 11 rfl
  have g12 := (HCs.out HE1.out).cell 12 rfl
  go_wp2_with fail
  refine H2.out.mono ?_
  rintro e v2 ⟨rfl, ba2, bc2, hE⟩
  have HE2 := Lib.hid hE
  have HL2 : Hid ((([] ++ nB [29]) ++ nB [c]).length ≤ 16) := Lib.hid (len_nums HL1.out rfl)
  clear hE g0 g1 g2 g3 g4 g5 g6 g7 g8 g9 g10 g11 g12
  have H3 := Lib.hid (HTx.out HE2.out (le_big HL2.out (by decide)).2.1)
  have g0 := (HCs.out HE2.out).cell 0 rfl
  have g1 := (HCs.out HE2.out).cell 1 rfl
  have g2 := (HCs.out HE2.out).cell 2 rfl
  have g3 := (HCs.out HE2.out).cell 3 rfl
  have g4 := (HCs.out HE2.out).cell 4 rfl
  have g5 := (HCs.out HE2.out).cell 5 rfl
  have g6 := (HCs.out HE2.out).cell 6 rfl
  have g7 := (HCs.out HE2.out).cell 7 rfl
  have g8 := (HCs.out HE2.out).cell 8 rfl
  have g9 := (HCs.out HE2.out).cell 9 rfl
  have g10 := (HCs.out HE2.out).cell 10 rfl
  have g11 := (HCs.out HE2.out).cell 11 rfl
  have g12 := (HCs.out HE2.out).cell 12 rfl
  go_wp2_with fail
  refine H3.out.mono ?_
  rintro e v3 ⟨rfl, ba3, bc3, hE⟩
  have HE3 := Lib.hid hE
  have HL3 : Hid (((([] ++ nB [29]) ++ nB [c]) ++ (vl dt.length ++ dt)).length ≤ 16408) := Lib.hid (len_app HL2.out (n := 16392) (by rw [List.length_append, vl_length]; have := (szN_pos dt.length).2; have := HD.out; omega) rfl)
  clear hE g0 g1 g2 g3 g4 g5 g6 g7 g8 g9 g10 g11 g12
  obtain ⟨bb, hbb⟩ : ∃ bb, bb = ((([] ++ nB [29]) ++ nB [c]) ++ (vl dt.length ++ dt)) := ⟨_, rfl⟩
  rw [← hbb] at HE3
  have HBb := Lib.hid hbb
  clear hbb
  have q0 := HE3.out.wb.has.cell 0 rfl
  have g0 := (HCs.out HE3.out).cell 0 rfl
  have g1 := (HCs.out HE3.out).cell 1 rfl
  have g2 := (HCs.out HE3.out).cell 2 rfl
  have g3 := (HCs.out HE3.out).cell 3 rfl
  have g4 := (HCs.out HE3.out).cell 4 rfl
  have g5 := (HCs.out HE3.out).cell 5 rfl
  have g6 := (HCs.out HE3.out).cell 6 rfl
  have g7 := (HCs.out HE3.out).cell 7 rfl
  have g8 := (HCs.out HE3.out).cell 8 rfl
  have g9 := (HCs.out HE3.out).cell 9 rfl
  have g10 := (HCs.out HE3.out).cell 10 rfl
  have g11 := (HCs.out HE3.out).cell 11 rfl
  have g12 := (HCs.out HE3.out).cell 12 rfl
  go_wp2
  go_ret2
  exact HE3.out.ret HB4.out HG4.out (by rw [HR.out, HBb.out]; simp [encB, itmB, txtB]) rfl

set_option maxRecDepth 100000 in
set_option maxHeartbeats 4000000 in
theorem enc_30 (w : World) (i t n c : Int) (fi : Bool) (dt ci : List UInt8) (sp : List Sn) (dl e0 e1 e2 : Int) (da : Option Addr) (dc : Nat) (ca : Option Addr) (cc : Nat) (sa : Option Addr) (sc : Nat) (h : FIn w ⟨30, i, t, n, c, fi, dt, ci, sp, dl, e0, e1, e2⟩ ⟨da, dc, ca, cc, sa, sc⟩) (hl : FLow w.heap.size ⟨da, dc, ca, cc, sa, sc⟩) (hc : chkF ⟨30, i, t, n, c, fi, dt, ci, sp, dl, e0, e1, e2⟩ = 0) :
    Calls Try.prog 12 #[.agg (fcells ⟨30, i, t, n, c, fi, dt, ci, sp, dl, e0, e1, e2⟩ ⟨da, dc, ca, cc, sa, sc⟩).toArray] w (RetBE w.heap.size w (encB ⟨30, i, t, n, c, fi, dt, ci, sp, dl, e0, e1, e2⟩, 0)) := by
  obtain ⟨_, hd, hr⟩ := chk0 hc
  have hr : true = true := hr
  have hd : dt.length ≤ 16384 := hd
  obtain ⟨R, hR⟩ : ∃ R, R = encB ⟨30, i, t, n, c, fi, dt, ci, sp, dl, e0, e1, e2⟩ := ⟨_, rfl⟩
  obtain ⟨dn, hdn⟩ : ∃ dn, dn = dt.length := ⟨_, rfl⟩
  obtain ⟨cn, hcn⟩ : ∃ cn, cn = ci.length := ⟨_, rfl⟩
  obtain ⟨sn, hsn⟩ : ∃ sn, sn = sp.length := ⟨_, rfl⟩
  have hf : fcells ⟨30, i, t, n, c, fi, dt, ci, sp, dl, e0, e1, e2⟩ ⟨da, dc, ca, cc, sa, sc⟩ = [.int .i64 30, .int .i64 i, .int .i64 t, .int .i64 n, .int .i64 c, .bool fi, .slice da dn dc, .slice ca cn cc, .slice sa sn sc, .int .i64 dl, .int .i64 e0, .int .i64 e1, .int .i64 e2] := by rw [hdn, hcn, hsn]; rfl
  obtain ⟨w2, hw2⟩ : ∃ w2, w2 = w.alloc (.cells #[.int .i64 30, .int .i64 i, .int .i64 t, .int .i64 n, .int .i64 c, .bool fi, .slice da dn dc, .slice ca cn cc, .slice sa sn sc, .int .i64 dl, .int .i64 e0, .int .i64 e1, .int .i64 e2] 26) := ⟨_, rfl⟩
  have hB : Below w.heap.size w w2 := by rw [hw2]; exact alB w _
  obtain ⟨xb, hxb⟩ : ∃ xb, xb = w.heap.size := ⟨_, rfl⟩
  have hG : Has w2 xb 26 [.int .i64 30, .int .i64 i, .int .i64 t, .int .i64 n, .int .i64 c, .bool fi, .slice da dn dc, .slice ca cn cc, .slice sa sn sc, .int .i64 dl, .int .i64 e0, .int .i64 e1, .int .i64 e2] := by rw [hw2, hxb]; exact Has.new _ _ _
  have HG := Lib.hid hG
  have hC := checkF_any w2 (h.below hB)
  rw [hc, hf] at hC
  have HC := Lib.hid hC
  have HSt : Hid (∀ {w3 : World}, Below w2.heap.size w2 w3 → ES (w3.alloc (.cells #[.slice none 0 0] 59)) w3.heap.size none xb ⟨30, i, t, n, c, fi, dt, ci, sp, dl, e0, e1, e2⟩ ⟨da, dc, ca, cc, sa, sc⟩ (w3.alloc (.cells #[.slice none 0 0] 59)) [] none 0) := Lib.hid (fun hb => ES.start (by rw [hf]; exact HG.out.kept (X := none') (Kept.of_below hb) (fun h => h)) ((h.below hB).below hb) (hl.mono (by have := hB.size; have := hb.size; omega)))
  have HCs : Hid (∀ {w4 w' : World} {g : Nat} {b' : List UInt8} {ba' : Option Addr} {bc' : Nat}, ES w4 g none xb ⟨30, i, t, n, c, fi, dt, ci, sp, dl, e0, e1, e2⟩ ⟨da, dc, ca, cc, sa, sc⟩ w' b' ba' bc' → Has w' xb 26 [.int .i64 30, .int .i64 i, .int .i64 t, .int .i64 n, .int .i64 c, .bool fi, .slice da dn dc, .slice ca cn cc, .slice sa sn sc, .int .i64 dl, .int .i64 e0, .int .i64 e1, .int .i64 e2]) := Lib.hid (fun h => by rw [← hf]; exact h.box)
  have HTx : Hid (∀ {w4 w' : World} {g : Nat} {b' : List UInt8} {ba' : Option Addr} {bc' : Nat}, ES w4 g none xb ⟨30, i, t, n, c, fi, dt, ci, sp, dl, e0, e1, e2⟩ ⟨da, dc, ca, cc, sa, sc⟩ w' b' ba' bc' → b'.length ≤ 900000000 → Calls Try.prog 31 #[.pointer (some ⟨g, 0, none⟩), .slice da dn dc] w' (ESR w4 g none xb ⟨30, i, t, n, c, fi, dt, ci, sp, dl, e0, e1, e2⟩ ⟨da, dc, ca, cc, sa, sc⟩ (b' ++ (vl dt.length ++ dt)))) := Lib.hid (fun h hl => by rw [hdn]; exact h.data (Nat.le_trans hd (by decide)) hl)
  rw [← hR, hf]
  have HR := Lib.hid hR
  have HB := Lib.hid hB
  have HD := Lib.hid hd
  have HDn := Lib.hid hdn
  have HCn := Lib.hid hcn
  have HSn := Lib.hid hsn
  have HF := Lib.hid hf
  clear hR hf hdn hcn hsn hB hG hC h hl hd
  go_enter Try.func12, Try.ntmps12
  go_upto_region 1 with fail
  rw [← hw2, ← hxb]
  clear hw2 hxb
  have g0 := HG.out.cell 0 rfl
  have g1 := HG.out.cell 1 rfl
  have g2 := HG.out.cell 2 rfl
  have g3 := HG.out.cell 3 rfl
  have g4 := HG.out.cell 4 rfl
  have g5 := HG.out.cell 5 rfl
  have g6 := HG.out.cell 6 rfl
  have g7 := HG.out.cell 7 rfl
  have g8 := HG.out.cell 8 rfl
  have g9 := HG.out.cell 9 rfl
  have g10 := HG.out.cell 10 rfl
  have g11 := HG.out.cell 11 rfl
  have g12 := HG.out.cell 12 rfl
  go_upto_region 4 with (refine HC.out.mono ?_; rintro e w3 ⟨rfl, hb3⟩)
  obtain ⟨g, hg⟩ : ∃ g, g = w3.heap.size := ⟨_, rfl⟩
  obtain ⟨w4, hw4⟩ : ∃ w4, w4 = w3.alloc (.cells #[.slice none 0 0] 59) := ⟨_, rfl⟩
  have HE0 := Lib.hid (HSt.out hb3)
  rw [← hw4, ← hg] at HE0
  have HB4 : Hid (Below w.heap.size w w4) := Lib.hid (by rw [hw4]; exact (HB.out.trans (hb3.mono HB.out.size)).alloc (by have := HB.out.size; have := hb3.size; omega) _)
  have HG4 : Hid (w.heap.size ≤ g) := Lib.hid (by rw [hg]; have := HB.out.size; have := hb3.size; omega)
  clear hb3 g0 g1 g2 g3 g4 g5 g6 g7 g8 g9 g10 g11 g12
  go_upto_region 5 with fail
  rw [← hw4, ← hg]
  clear hw4 hg
  have HL0 : Hid (([] : List UInt8).length ≤ 0) := Lib.hid (Nat.le_refl _)
  have H1 := Lib.hid (HE0.out.nums1 30 (le_big HL0.out (by decide)).1 rfl)
  have g0 := (HCs.out HE0.out).cell 0 rfl
  have g1 := (HCs.out HE0.out).cell 1 rfl
  have g2 := (HCs.out HE0.out).cell 2 rfl
  have g3 := (HCs.out HE0.out).cell 3 rfl
  have g4 := (HCs.out HE0.out).cell 4 rfl
  have g5 := (HCs.out HE0.out).cell 5 rfl
  have g6 := (HCs.out HE0.out).cell 6 rfl
  have g7 := (HCs.out HE0.out).cell 7 rfl
  have g8 := (HCs.out HE0.out).cell 8 rfl
  have g9 := (HCs.out HE0.out).cell 9 rfl
  have g10 := (HCs.out HE0.out).cell 10 rfl
  have g11 := (HCs.out HE0.out).cell 11 rfl
  have g12 := (HCs.out HE0.out).cell 12 rfl
  go_wp2_with fail
  refine H1.out.mono ?_
  rintro e v1 ⟨rfl, ba1, bc1, hE⟩
  have HE1 := Lib.hid hE
  have HL1 : Hid (([] ++ nB [30]).length ≤ 8) := Lib.hid (len_nums HL0.out rfl)
  clear hE g0 g1 g2 g3 g4 g5 g6 g7 g8 g9 g10 g11 g12
  obtain ⟨bb, hbb⟩ : ∃ bb, bb = ([] ++ nB [30]) := ⟨_, rfl⟩
  rw [← hbb] at HE1
  have HBb := Lib.hid hbb
  clear hbb
  have q0 := HE1.out.wb.has.cell 0 rfl
  have g0 := (HCs.out HE1.out).cell 0 rfl
  have g1 := (HCs.out HE1.out).cell 1 rfl
  have g2 := (HCs.out HE1.out).cell 2 rfl
  have g3 := (HCs.out HE1.out).cell 3 rfl
  have g4 := (HCs.out HE1.out).cell 4 rfl
  have g5 := (HCs.out HE1.out).cell 5 rfl
  have g6 := (HCs.out HE1.out).cell 6 rfl
  have g7 := (HCs.out HE1.out).cell 7 rfl
  have g8 := (HCs.out HE1.out).cell 8 rfl
  have g9 := (HCs.out HE1.out).cell 9 rfl
  have g10 := (HCs.out HE1.out).cell 10 rfl
  have g11 := (HCs.out HE1.out).cell 11 rfl
  have g12 := (HCs.out HE1.out).cell 12 rfl
  go_wp2
  go_ret2
  exact HE1.out.ret HB4.out HG4.out (by rw [HR.out, HBb.out]; simp [encB, itmB]) rfl

end Go.Proofs.Ytppkilkfmclpkaa

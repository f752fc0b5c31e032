/- Contract of the writer's spans (printed by gen_frspans.py). No condition but the sizes. -/
import Derived.Test.YtppkilkfmclpkaaFrStream
namespace Go.Proofs.Ytppkilkfmclpkaa
open Go.RowKit

theorem spsOk_all : ∀ (l : List Sn) (last : Int), -2 ≤ last → spsOk last l = true → (∀ j (h : j < l.length), last + 1 < l[j].from_ ∧ l[j].from_ ≤ l[j].to_ ∧ l[j].to_ ≤ 4611686018427387903) ∧ ∀ j (h : j + 1 < l.length), l[j].to_ + 1 < l[j + 1].from_
  | [], _, _, _ => ⟨fun j h => absurd h (Nat.not_lt_zero _), fun j h => absurd h (Nat.not_lt_zero _)⟩
  | x :: r, last, hl, h => by
    rw [spsOk] at h
    simp only [Bool.and_eq_true, Bool.not_eq_true', Bool.or_eq_false_iff, decide_eq_false_iff_not] at h
    obtain ⟨⟨⟨h1, h2⟩, h3⟩, h4⟩ := h
    obtain ⟨i1, i2⟩ := spsOk_all r x.to_ (by omega) h4
    refine ⟨fun j hj => ?_, fun j hj => ?_⟩
    · cases j with
      | zero => exact ⟨by show last + 1 < x.from_; omega, by show x.from_ ≤ x.to_; omega, by show x.to_ ≤ _; omega⟩
      | succ j =>
        obtain ⟨a, b, c⟩ := i1 j (by simpa using hj)
        simp only [List.getElem_cons_succ]
        exact ⟨by omega, b, c⟩
    · cases j with
      | zero =>
        have := (i1 0 (by simpa using hj)).1
        simpa using this
      | succ j =>
        have := i2 j (by simpa using hj)
        simpa using this
/-- the gap ahead of span j + 1, and span j's size -/
def gp (l : List Sn) (j : Nat) : List UInt8 := match l[j]?, l[j + 1]? with
  | some x, some y => nB [y.from_ - x.to_ - 2, x.to_ - x.from_]
  | _, _ => []
theorem gp_at {l : List Sn} {j : Nat} (h : j + 1 < l.length) : gp l j = nB [l[j + 1].from_ - l[j].to_ - 2, l[j].to_ - l[j].from_] := by
  unfold gp
  rw [List.getElem?_eq_getElem (by omega), List.getElem?_eq_getElem h]
/-- the last m gaps, the last one first -/
def gps (l : List Sn) (m : Nat) : List UInt8 := (List.range m).flatMap fun t => gp l (l.length - 2 - t)
theorem gps_next (l : List Sn) (m : Nat) : gps l (m + 1) = gps l m ++ gp l (l.length - 2 - m) := by
  unfold gps
  rw [List.range_succ, List.flatMap_append]
  simp
theorem gp_len (l : List Sn) (j : Nat) : (gp l j).length ≤ 16 := by
  unfold gp
  split
  · exact nB_len _
  · simp
theorem gps_len (l : List Sn) : ∀ m, (gps l m).length ≤ m * 16
  | 0 => Nat.le_refl _
  | m + 1 => by
    have h1 := gps_len l m
    have h2 := gp_len l (l.length - 2 - m)
    rw [gps_next, List.length_append]; omega
/-- an ack's bytes -/
def ackB (f : Fm) : List UInt8 := match f.spans.getLast? with
  | some x => nB [x.to_, f.delay, (f.spans.length : Int) - 1, x.to_ - x.from_] ++ gps f.spans (f.spans.length - 1)
  | none => []
theorem ackB_at {f : Fm} (h : 0 < f.spans.length) : ackB f = nB [(f.spans[f.spans.length - 1]'(by omega)).to_, f.delay, (f.spans.length : Int) - 1, (f.spans[f.spans.length - 1]'(by omega)).to_ - (f.spans[f.spans.length - 1]'(by omega)).from_] ++ gps f.spans (f.spans.length - 1) := by
  unfold ackB
  rw [List.getLast?_eq_getElem?, List.getElem?_eq_getElem (by omega)]
theorem four_sl (w : World) {t : TypeId} (x y z v : Int) : Sl (w.alloc (.cells #[.int .i64 x, .int .i64 y, .int .i64 z, .int .i64 v] t)) (some ⟨w.heap.size, 0, none⟩) 4 4 (iv .i64 [x, y, z, v]) := by
  refine ⟨rfl, Nat.le_refl _, by decide, by simp, fun _ => ⟨_, 0, rfl, fun i hi => ?_⟩⟩
  match i, hi with
  | 0, _ => simp [iv]
  | 1, _ => simp [iv]
  | 2, _ => simp [iv]
  | 3, _ => simp [iv]
theorem wrapI {x : Int} (h1 : -9223372036854775808 ≤ x) (h2 : x ≤ 9223372036854775807) : IntKind.i64.wrap x = x := by rw [IntKind.wrap_i64]; omega
theorem wrap64I {x : Int} (h1 : -9223372036854775808 ≤ x) (h2 : x ≤ 9223372036854775807) : RowKit.wrap64 x = x := by unfold RowKit.wrap64; omega
theorem wrapm1 {j : Nat} (h : j ≤ 1000000) : IntKind.i64.wrap ((j : Int) - 1) = (j : Int) - 1 ∧ RowKit.wrap64 ((j : Int) - 1) = (j : Int) - 1 := ⟨wrapI (by omega) (by omega), wrap64I (by omega) (by omega)⟩
theorem spj {m j q sn sl : Nat} (hj : m = j + 1 + q) (hm : sn = m + 1) (hsn : sn = sl) (h64 : sn ≤ 64) : j ≤ 1000000 ∧ (j : Int) < (sn : Int) ∧ ((j + 1 : Nat) : Int) < (sn : Int) ∧ j < sn ∧ j + 1 < sn ∧ j + 1 < sl ∧ sl - 2 - q = j ∧ q ≤ 64 := by omega
theorem spw {j j1 : Nat} (h1 : j1 = j + 1) (h : j ≤ 1000000) : IntKind.i64.wrap ((j : Int) + 1) = (j1 : Int) ∧ RowKit.wrap64 ((j : Int) + 1) = (j1 : Int) := ⟨by rw [wrapI (by omega) (by omega)]; omega, by rw [wrap64I (by omega) (by omega)]; omega⟩
theorem spd {x y : Int} (h1 : -4611686018427387904 ≤ x - y) (h2 : x - y ≤ 4611686018427387904) : IntKind.i64.wrap (x - y) = x - y ∧ RowKit.wrap64 (x - y) = x - y := ⟨wrapI (by omega) (by omega), wrap64I (by omega) (by omega)⟩
theorem spb {last xf xt yf : Int} (b1 : -2 + 1 < xf) (b2 : xf ≤ xt) (b3 : xt ≤ 4611686018427387903) (b7 : xt + 1 < yf) (b8 : yf ≤ 4611686018427387903) : (-4611686018427387904 ≤ yf - xt ∧ yf - xt ≤ 4611686018427387904) ∧ (-4611686018427387904 ≤ yf - xt - 2 ∧ yf - xt - 2 ≤ 4611686018427387904) ∧ (-4611686018427387904 ≤ xt - xf ∧ xt - xf ≤ 4611686018427387904) ∧ (0 ≤ yf - xt - 2 ∧ yf - xt - 2 ≤ 4611686018427387903) ∧ (0 ≤ xt - xf ∧ xt - xf ≤ 4611686018427387903) := by omega
theorem spl {b4 gq n q : Nat} (h1 : b4 ≤ 100000032) (h2 : gq ≤ q * 16) (h3 : q ≤ 64) (hn : n = b4 + gq) : n ≤ 1000000000 := by omega
theorem spe {m q : Nat} (h : q < m) : m = m - 1 - q + 1 + q := by omega
theorem spz {m j q : Nat} {z : Int} (h : z = (m : Int) - 1 - (q : Int)) (hj : m = j + 1 + q) : z = (j : Int) := by omega
theorem spy {m j q : Nat} (hj : m = j + 1 + q) : (j : Int) - 1 = (m : Int) - 1 - ((q + 1 : Nat) : Int) := by omega
theorem spm (j : Nat) : (intOf (Value.int .i64 ((j : Int) - 1)) + 1).toNat < (intOf (Value.int .i64 (j : Int)) + 1).toNat := by
  simp only [intOf]
  omega
theorem zneg {m q : Nat} {z : Int} (h : z = (m : Int) - 1 - (q : Int)) (hq : ¬ q < m) : ¬ (0 : Int) ≤ z := by omega
theorem numB_of {x : Int} (h : 0 ≤ x ∧ x ≤ 4611686018427387903) : numB x = true := by unfold numB; simp [h.1, h.2]

set_option maxRecDepth 100000 in
set_option maxHeartbeats 4000000 in
theorem spans_any (w : World) {g : Nat} {b : List UInt8} {ba : Option Addr} {bc : Nat} (hW : WB w g b ba bc) {f : Fm} {a : FA} (h : FIn w f a) (hlow : FLow g a) (hb : b.length ≤ 100000000) (hs : rspV f.spans = true) (hd : numB f.delay = true) :
    Calls Try.prog 30 #[.pointer (some ⟨g, 0, none⟩), .agg (fcells f a).toArray] w (WrR w g ba (b ++ ackB f)) := by
  have hg := hW.has.lt
  obtain ⟨hs1, hs2, hs3⟩ : spsOk (-2) f.spans = true ∧ 0 < f.spans.length ∧ f.spans.length ≤ 64 := by
    unfold rspV at hs
    simpa using hs
  obtain ⟨hsa, hsb⟩ := spsOk_all f.spans (-2) (by decide) hs1
  have hlast := hsa (f.spans.length - 1) (by omega)
  obtain ⟨w2, hw2⟩ : ∃ w2, w2 = w.alloc (.cells (fcells f a).toArray 26) := ⟨_, rfl⟩
  have hal : Below w.heap.size w w2 := by rw [hw2]; exact alB w _
  obtain ⟨xb, hxb⟩ : ∃ xb, xb = w.heap.size := ⟨_, rfl⟩
  have hE : ES w g ba xb f a w2 b ba bc := ⟨hW.below hal, by rw [hw2, hxb]; exact Has.new _ _ _, h.below hal, hlow, by omega, fun hb => by have := hW.ne xb hb; omega, Kept.of_below hal, fun k h => .inl h⟩
  have HE := Lib.hid hE
  obtain ⟨lf, hlf⟩ : ∃ lf, lf = (f.spans[f.spans.length - 1]'(by omega)).from_ := ⟨_, rfl⟩
  obtain ⟨lt, hlt⟩ : ∃ lt, lt = (f.spans[f.spans.length - 1]'(by omega)).to_ := ⟨_, rfl⟩
  have HR : Hid (b ++ ackB f = b ++ nB [lt, f.delay, (f.spans.length : Int) - 1, lt - lf] ++ gps f.spans (f.spans.length - 1)) := Lib.hid (by rw [ackB_at hs2, ← hlf, ← hlt, List.append_assoc])
  rw [← hlf, ← hlt] at hlast
  have HLast := Lib.hid hlast
  have HA := Lib.hid hsa
  have HSb := Lib.hid hsb
  have HLf := Lib.hid hlf
  have HLt := Lib.hid hlt
  have HBl := Lib.hid hb
  have HD := Lib.hid hd
  have HN := Lib.hid (And.intro hs2 hs3)
  -- the cells of the spans
  have HC : Hid (∀ {w' : World} {b' : List UInt8} {ba' : Option Addr} {bc' : Nat}, ES w g ba xb f a w' b' ba' bc' → ∃ sb so, a.sa = some ⟨sb, so, none⟩ ∧ (∀ j (h : j < f.spans.length), w'.cell? ⟨sb, so + j * 2, none⟩ = some (.int .i64 f.spans[j].from_) ∧ w'.cell? ⟨sb, so + j * 2 + 1, none⟩ = some (.int .i64 f.spans[j].to_))) := Lib.hid (fun h => h.inn.spans.cells HN.out.1)
  have HCap : Hid (f.spans.length ≤ a.sc ∧ a.sc ≤ maxLen) := Lib.hid ⟨h.spans.cap, h.spans.max⟩
  clear hal hE hW h hlow hb hg hs hs1 hsa hsb hlast hd hlf hlt
  obtain ⟨k, i, t, n, c, fi, dt, ci, sp, dl, e0, e1, e2⟩ := f
  obtain ⟨da, dc, ca, cc, sa, sc⟩ := a
  simp only at HR HLast HA HSb HLf HLt HD HN HC HCap
  obtain ⟨dn, hdn⟩ : ∃ dn, dn = dt.length := ⟨_, rfl⟩
  obtain ⟨cn, hcn⟩ : ∃ cn, cn = ci.length := ⟨_, rfl⟩
  obtain ⟨sn, hsn⟩ : ∃ sn, sn = sp.length := ⟨_, rfl⟩
  have hf : fcells ⟨k, i, t, n, c, fi, dt, ci, sp, dl, e0, e1, e2⟩ ⟨da, dc, ca, cc, sa, sc⟩ = [.int .i64 k, .int .i64 i, .int .i64 t, .int .i64 n, .int .i64 c, .bool fi, .slice da dn dc, .slice ca cn cc, .slice sa sn sc, .int .i64 dl, .int .i64 e0, .int .i64 e1, .int .i64 e2] := by rw [hdn, hcn, hsn]; rfl
  have HCs : Hid (∀ {w' : World} {b' : List UInt8} {ba' : Option Addr} {bc' : Nat}, ES w g ba xb ⟨k, i, t, n, c, fi, dt, ci, sp, dl, e0, e1, e2⟩ ⟨da, dc, ca, cc, sa, sc⟩ w' b' ba' bc' → Has w' xb 26 [.int .i64 k, .int .i64 i, .int .i64 t, .int .i64 n, .int .i64 c, .bool fi, .slice da dn dc, .slice ca cn cc, .slice sa sn sc, .int .i64 dl, .int .i64 e0, .int .i64 e1, .int .i64 e2]) := Lib.hid (fun h => by rw [← hf]; exact h.box)
  rw [hf] at hw2 ⊢
  replace hw2 : w2 = w.alloc (.cells #[.int .i64 k, .int .i64 i, .int .i64 t, .int .i64 n, .int .i64 c, .bool fi, .slice da dn dc, .slice ca cn cc, .slice sa sn sc, .int .i64 dl, .int .i64 e0, .int .i64 e1, .int .i64 e2] 26) := hw2
  have HSn := Lib.hid hsn
  clear hf hdn hcn hsn
  obtain ⟨R, hR⟩ : ∃ R, R = b ++ ackB ⟨k, i, t, n, c, fi, dt, ci, sp, dl, e0, e1, e2⟩ := ⟨_, rfl⟩
  rw [← hR] at HR ⊢
  clear hR
  -- the numbers ahead
  obtain ⟨m, hm⟩ : ∃ m, sn = m + 1 := ⟨sn - 1, by have := HN.out.1; have := HSn.out; omega⟩
  have HM := Lib.hid hm
  clear hm
  have HN1 : Hid (∀ {w' : World} {b' : List UInt8} {ba' : Option Addr} {bc' : Nat}, ES w g ba xb ⟨k, i, t, n, c, fi, dt, ci, sp, dl, e0, e1, e2⟩ ⟨da, dc, ca, cc, sa, sc⟩ w' b' ba' bc' → b'.length ≤ 1000000000 →
      Calls Try.prog 29 #[.pointer (some ⟨g, 0, none⟩), .slice (some ⟨w'.heap.size, 0, none⟩) 4 4] (w'.alloc (.cells #[.int .i64 lt, .int .i64 dl, .int .i64 (m : Int), .int .i64 (lt - lf)] 3)) (ESR w g ba xb ⟨k, i, t, n, c, fi, dt, ci, sp, dl, e0, e1, e2⟩ ⟨da, dc, ca, cc, sa, sc⟩ (b' ++ nB [lt, dl, (m : Int), lt - lf]))) := Lib.hid (fun hE hl => hE.nums (four_sl _ _ _ _ _) (by decide) hl (fun z hz => by
        have h1 := HLast.out
        have h2 := HN.out
        have h3 := HSn.out
        have h4 := HD.out
        have h5 := HM.out
        unfold numB at h4
        simp at h4
        simp only [List.mem_cons, List.not_mem_nil, or_false] at hz
        rcases hz with rfl | rfl | rfl | rfl <;> omega))
  have hN1 : 0 < sn := by rw [HSn.out]; exact HN.out.1
  have hN64 : sn ≤ 64 := by rw [HSn.out]; exact HN.out.2
  have hcap1 : sn ≤ sc := by rw [HSn.out]; exact HCap.out.1
  have hcap2 : sc ≤ maxLen := HCap.out.2
  have hls := HLast.out
  have hmn : m < sn := by have := HM.out; omega
  have sw1 : IntKind.i64.wrap ((sn : Int) - 1) = (m : Int) := by have := HM.out; rw [IntKind.wrap_i64]; omega
  have sw2 : RowKit.wrap64 ((sn : Int) - 1) = (m : Int) := by have := HM.out; unfold RowKit.wrap64; omega
  have sw3 : IntKind.i64.wrap ((sn : Int) - 2) = (m : Int) - 1 := by have := HM.out; rw [IntKind.wrap_i64]; omega
  have sw4 : RowKit.wrap64 ((sn : Int) - 2) = (m : Int) - 1 := by have := HM.out; unfold RowKit.wrap64; omega
  have lw1 : IntKind.i64.wrap (lt - lf) = lt - lf := by rw [IntKind.wrap_i64]; omega
  have lw2 : RowKit.wrap64 (lt - lf) = lt - lf := by unfold RowKit.wrap64; omega
  go_enter Try.func30, Try.ntmps30
  go_upto_region 1 with fail
  rw [← hw2, ← hxb]
  clear hw2 hxb
  have g8 := (HCs.out HE.out).cell 8 rfl
  have g9 := (HCs.out HE.out).cell 9 rfl
  obtain ⟨sb, so, hsa, hcl⟩ := HC.out HE.out
  subst hsa
  obtain ⟨s0, s1⟩ := hcl (sp.length - 1) (by have := HN.out.1; omega)
  rw [← HLf.out] at s0
  rw [← HLt.out] at s1
  rw [show sp.length - 1 = m by have := HSn.out; have := HM.out; omega] at s0 s1
  clear hcl
  obtain ⟨w3, hw3⟩ : ∃ w3, w3 = w2.alloc (.cells #[.int .i64 lf, .int .i64 lt] 53) := ⟨_, rfl⟩
  have HE3 : Hid (ES w g ba xb ⟨k, i, t, n, c, fi, dt, ci, sp, dl, e0, e1, e2⟩ ⟨da, dc, ca, cc, some ⟨sb, so, none⟩, sc⟩ w3 b ba bc) := Lib.hid (by rw [hw3]; exact HE.out.below (alB w2 _))
  have HNm := Lib.hid (HN1.out HE3.out (by have := HBl.out; omega))
  go_upto_region 3 with fail
  rw [← hw3]
  obtain ⟨zb, hzb⟩ : ∃ zb, zb = w2.heap.size := ⟨_, rfl⟩
  rw [← hzb]
  have HZ : Hid (Has w3 zb 53 [.int .i64 lf, .int .i64 lt]) := Lib.hid (by rw [hw3, hzb]; exact Has.new _ _ _)
  clear hw3 hzb s0 s1 g8 g9
  have z0 := HZ.out.cell 0 rfl
  have z1 := HZ.out.cell 1 rfl
  have g9 := (HCs.out HE3.out).cell 9 rfl
  go_wp2_with fail
  refine HNm.out.mono ?_
  rintro e w4 ⟨rfl, ba4, bc4, hE4⟩
  have HE4 := Lib.hid hE4
  have HL4 : Hid ((b ++ nB [lt, dl, (m : Int), lt - lf]).length ≤ 100000032) := Lib.hid (by rw [List.length_append]; have := nB_len [lt, dl, (m : Int), lt - lf]; have := HBl.out; simp at *; omega)
  obtain ⟨b4, hb4⟩ : ∃ b4, b4 = b ++ nB [lt, dl, (m : Int), lt - lf] := ⟨_, rfl⟩
  rw [← hb4] at HE4 HL4
  have HF : Hid (R = b4 ++ gps sp m) := Lib.hid (by
    have h1 := HM.out
    have h2 := HSn.out
    rw [HR.out, hb4, show (sp.length : Int) - 1 = (m : Int) by omega, show sp.length - 1 = m by omega])
  clear hE4 z0 z1 g9 hb4 lw1 lw2 hls
  go_wp2_with fail
  go_loopw [6] (fun v wr => ∃ (q : Nat) (z : Int) (ba' : Option Addr) (bc' : Nat), v = .int .i64 z ∧ z = (m : Int) - 1 - (q : Int) ∧ q ≤ m ∧ ES w g ba xb ⟨k, i, t, n, c, fi, dt, ci, sp, dl, e0, e1, e2⟩ ⟨da, dc, ca, cc, some ⟨sb, so, none⟩, sc⟩ wr (b4 ++ gps sp q) ba' bc') (fun v _ => (intOf v + 1).toNat)
  case atStart => exact ⟨0, (m : Int) - 1, ba4, bc4, rfl, by simp, Nat.zero_le _, by simpa [gps] using HE4.out⟩
  case round =>
    obtain ⟨q, z, ba', bc', rfl, hzq, hq, hEr⟩ := hrel
    have HEr := Lib.hid hEr
    clear hEr
    by_cases hqm : q < m
    · obtain ⟨j, hj⟩ : ∃ j : Nat, m = j + 1 + q := ⟨m - 1 - q, spe hqm⟩
      obtain rfl : z = (j : Int) := spz hzq hj
      obtain ⟨j1, hj1⟩ : ∃ j1, j1 = j + 1 := ⟨_, rfl⟩
      obtain ⟨jb, i1, i2, i3, i4, hjl, hjq, hq64⟩ := spj hj HM.out HSn.out hN64
      obtain ⟨sb', so', hsa', hcl⟩ := HC.out HEr.out
      simp only [Option.some.injEq, Addr.mk.injEq, and_true] at hsa'
      obtain ⟨rfl, rfl⟩ := hsa'
      obtain ⟨p0, p1⟩ := hcl j (Nat.lt_of_succ_lt hjl)
      have q0 := (hcl (j + 1) hjl).1
      have HG : Hid (gps sp (q + 1) = gps sp q ++ nB [sp[j + 1].from_ - sp[j].to_ - 2, sp[j].to_ - sp[j].from_]) := Lib.hid (by
        rw [gps_next, hjq, gp_at hjl])
      obtain ⟨b1, b2, b3⟩ := HA.out j (Nat.lt_of_succ_lt hjl)
      obtain ⟨b4', b5, b6⟩ := HA.out (j + 1) hjl
      have b7 := HSb.out j hjl
      obtain ⟨xf, hxf⟩ : ∃ xf, xf = sp[j].from_ := ⟨_, rfl⟩
      obtain ⟨xt, hxt⟩ : ∃ xt, xt = sp[j].to_ := ⟨_, rfl⟩
      obtain ⟨yf, hyf⟩ : ∃ yf, yf = sp[j + 1].from_ := ⟨_, rfl⟩
      rw [← hxf] at p0 b1 b2 HG
      rw [← hxt] at p1 b2 b3 b7 HG
      rw [← hyf] at q0 b7 HG b4' b5
      rw [← hj1] at q0 i2 i4
      obtain ⟨c1, c2, c3, c4, c5⟩ := spb (last := 0) b1 b2 b3 b7 (Int.le_trans b5 b6)
      obtain ⟨d1, d2⟩ := spd c1.1 c1.2
      obtain ⟨d3, d4⟩ := spd c2.1 c2.2
      obtain ⟨d5, d6⟩ := spd c3.1 c3.2
      obtain ⟨d7, d8⟩ := spw hj1 jb
      obtain ⟨d9, d10⟩ := wrapm1 jb
      have hz : (0 : Int) ≤ (j : Int) := Int.natCast_nonneg j
      have HSat := Lib.hid (Sat.cons (w := wr.drew) q0 (Sat.cons (w := wr.drew) p1 (Sat.cons (w := wr.drew) p0 (Sat.nil _))))
      have HEd := Lib.hid (HEr.out.below (below_drewN (Below.refl wr.heap.size wr) 1))
      have HNg := Lib.hid (HEd.out.nums2 (yf - xt - 2) (xt - xf) (spl HL4.out (gps_len sp q) hq64 List.length_append) (numB_of c4) (numB_of c5))
      have HCe0 : Hid (∀ {w' : World} {b' : List UInt8} {ba' : Option Addr} {bc' : Nat}, ES w g ba xb ⟨k, i, t, n, c, fi, dt, ci, sp, dl, e0, e1, e2⟩ ⟨da, dc, ca, cc, some ⟨sb, so, none⟩, sc⟩ w' b' ba' bc' → Sat [(⟨sb, so + j1 * 2, none⟩, .int .i64 yf), (⟨sb, so + j * 2 + 1, none⟩, .int .i64 xt), (⟨sb, so + j * 2, none⟩, .int .i64 xf)] w') := Lib.hid (fun h => by
        obtain ⟨sb2, so2, e1', hcl'⟩ := HC.out h
        simp only [Option.some.injEq, Addr.mk.injEq, and_true] at e1'
        obtain ⟨rfl, rfl⟩ := e1'
        obtain ⟨r0, r1⟩ := hcl' j (Nat.lt_of_succ_lt hjl)
        have r2 := (hcl' (j + 1) hjl).1
        rw [← hxf] at r0
        rw [← hxt] at r1
        rw [← hyf, ← hj1] at r2
        exact Sat.cons r2 (Sat.cons r1 (Sat.cons r0 (Sat.nil _))))
      have HJ := Lib.hid (And.intro hj hj1)
      have HQm := Lib.hid hqm
      have D9 := Lib.hid d9
      have D10 := Lib.hid d10
      clear hzq hq hqm hj hj1 hjl hjq hq64 jb hcl p0 p1 q0 b1 b2 b3 b4' b5 b6 b7 c1 c2 c3 c4 c5 hxf hxt hyf d9 d10
      go_wp2_with fail
      refine Mx.region [] (Sat [(⟨sb, so + j1 * 2, none⟩, .int .i64 yf), (⟨sb, so + j * 2 + 1, none⟩, .int .i64 xt), (⟨sb, so + j * 2, none⟩, .int .i64 xf)]) (by kernel_rfl) (by kernel_rfl) HSat.out ?_
      repeat ((first | (refine Mx.skips (by kernel_rfl) ?_; go_big_quiet_skip) | (refine Mx.quietly rfl ?_; go_big_quiet_want; go_big_quiet_op; go_big_quiet_on)); refine Mx.done ?_)
      refine Mx.cell ⟨sb, so + j1 * 2, none⟩ (.int .i64 yf) (by kernel_rfl) (by kernel_rfl) (by kernel_rfl) Try.isAgg3 (fun w' h => h 0 _ _ rfl) ?_
      go_big_quiet_want; go_big_quiet_op; go_big_quiet_on; refine Mx.done ?_
      repeat ((first | (refine Mx.skips (by kernel_rfl) ?_; go_big_quiet_skip) | (refine Mx.quietly rfl ?_; go_big_quiet_want; go_big_quiet_op; go_big_quiet_on)); refine Mx.done ?_)
      refine Mx.cell ⟨sb, so + j * 2 + 1, none⟩ (.int .i64 xt) (by kernel_rfl) (by kernel_rfl) (by kernel_rfl) Try.isAgg3 (fun w' h => h 1 _ _ rfl) ?_
      go_big_quiet_want; go_big_quiet_op; go_big_quiet_on; refine Mx.done ?_
      repeat ((first | (refine Mx.skips (by kernel_rfl) ?_; go_big_quiet_skip) | (refine Mx.quietly rfl ?_; go_big_quiet_want; go_big_quiet_op; go_big_quiet_on)); refine Mx.done ?_)
      refine Mx.cell ⟨sb, so + j * 2 + 1, none⟩ (.int .i64 xt) (by kernel_rfl) (by kernel_rfl) (by kernel_rfl) Try.isAgg3 (fun w' h => h 1 _ _ rfl) ?_
      go_big_quiet_want; go_big_quiet_op; go_big_quiet_on; refine Mx.done ?_
      repeat ((first | (refine Mx.skips (by kernel_rfl) ?_; go_big_quiet_skip) | (refine Mx.quietly rfl ?_; go_big_quiet_want; go_big_quiet_op; go_big_quiet_on)); refine Mx.done ?_)
      refine Mx.cell ⟨sb, so + j * 2, none⟩ (.int .i64 xf) (by kernel_rfl) (by kernel_rfl) (by kernel_rfl) Try.isAgg3 (fun w' h => h 2 _ _ rfl) ?_
      go_big_quiet_want; go_big_quiet_op; go_big_quiet_on; refine Mx.done ?_
      repeat ((first | (refine Mx.skips (by kernel_rfl) ?_; go_big_quiet_skip) | (refine Mx.quietly rfl ?_; go_big_quiet_want; go_big_quiet_op; go_big_quiet_on)); refine Mx.done ?_)
      have HSat2 := Lib.hid (HSat.out.below (alB wr.drew (.cells #[.int .i64 (yf - xt - 2), .int .i64 (xt - xf)] 3)))
      have HCe : Hid (∀ {w' : World} {b' : List UInt8} {ba' : Option Addr} {bc' : Nat}, ES w g ba xb ⟨k, i, t, n, c, fi, dt, ci, sp, dl, e0, e1, e2⟩ ⟨da, dc, ca, cc, some ⟨sb, so, none⟩, sc⟩ w' b' ba' bc' → Sat [(⟨sb, so + j1 * 2, none⟩, .int .i64 yf), (⟨sb, so + j * 2 + 1, none⟩, .int .i64 xt), (⟨sb, so + j * 2, none⟩, .int .i64 xf)] w') := HCe0
      clear HCe0
      refine Mx.loudly (by kernel_rfl) (by kernel_rfl) ?_
      go_wp2_with fail
      refine ⟨HSat2.out, ?_⟩
      repeat ((first | (refine Mx.skips (by kernel_rfl) ?_; go_big_quiet_skip) | (refine Mx.quietly rfl ?_; go_big_quiet_want; go_big_quiet_op; go_big_quiet_on)); refine Mx.done ?_)
      refine Mx.loudly (by kernel_rfl) (by kernel_rfl) ?_
      go_wp2_with fail
      refine HNg.out.mono ?_
      rintro e w5 ⟨rfl, ba5, bc5, hE5⟩
      have HE5 := Lib.hid hE5
      clear hE5
      go_wp2_with fail
      refine ⟨HCe.out HE5.out, ?_⟩
      repeat ((first | (refine Mx.skips (by kernel_rfl) ?_; go_big_quiet_skip) | (refine Mx.quietly rfl ?_; go_big_quiet_want; go_big_quiet_op; go_big_quiet_on)); refine Mx.done ?_)
      refine Mx.nil ?_
      have dd9 := D9.out
      have dd10 := D10.out
      go_wp2_with fail
      go_roundw
      case rel => exact ⟨q + 1, (j : Int) - 1, ba5, bc5, rfl, spy HJ.out.1, HQm.out, by rw [HG.out, ← List.append_assoc]; exact HE5.out⟩
      case measure => exact spm j
    · obtain rfl : q = m := Nat.le_antisymm hq (Nat.not_lt.mp hqm)
      have hz : ¬ (0 : Int) ≤ z := zneg hzq hqm
      clear hzq hq hqm
      go_wp2
      (try simp only [Exit.inBlock, Exit.then]); refine bodyPost_ret (results_none rfl _ _ _) rfl ?_
      rw [HF.out]
      exact HEr.out.wr
end Go.Proofs.Ytppkilkfmclpkaa

/- The document's ackBytes and Encode. No condition but the sizes. -/
import Derived.Test.YtppkilkfmclpkaaVnRef
import Derived.Test.YtppkilkfmclpkaaFrSm
import Derived.Test.YtppkilkfmclpkaaRdB
namespace Go.Proofs.Ytppkilkfmclpkaa
open Go.RowKit

theorem rput_num (w : World) {x : Int} (h : 0 ≤ x ∧ x ≤ 4611686018427387903) : Calls Try.prog 33 #[.int .i64 x] w (RetB w (vl x.toNat)) := by
  have h1 := refput_any w x.toNat (by omega)
  rw [show ((x.toNat : Nat) : Int) = x by omega] at h1
  exact h1
theorem numB_in {x : Int} (h : numB x = true) : 0 ≤ x ∧ x ≤ 4611686018427387903 := by
  unfold numB at h
  simpa using h
/-- bytes in a row of their own, the frame's variable at xb -/
structure OE (w wr : World) (xb : Nat) (f : Fm) (fa : FA) (b : List UInt8) (ba : Option Addr) (bc : Nat) : Prop where
  own : wr.ownsRow w.heap.size 5 1 (.slice ba b.length bc) b.length (bv b)
  box : Has wr xb 34 (fcells f fa)
  bel : Below w.heap.size w wr
section
variable {w wr v : World} {xb : Nat} {f : Fm} {fa : FA} {b : List UInt8} {ba : Option Addr} {bc : Nat}
theorem OE.below (h : OE w wr xb f fa b ba bc) (hb : Below wr.heap.size wr v) : OE w v xb f fa b ba bc :=
  ⟨own_below h.own hb, h.box.kept (X := none') (Kept.of_below hb) (fun h => h), h.bel.trans (hb.mono h.bel.size)⟩
theorem OE.app (h : OE w wr xb f fa b ba bc) (tyo : TypeId) {a2 : Option Addr} {n2 c2 : Nat} {p : List UInt8} (h2 : Sl wr a2 n2 c2 (bv p)) (hs : b.length + n2 ≤ 1000000) :
    ∃ ba' bc' v, (Builtin.append_ #[22, 22] tyo #[.slice ba b.length bc, .slice a2 n2 c2]).run Try.prog wr = .ok (.slice ba' (b.length + n2) bc') v ∧ OE w v xb f fa (b ++ p) ba' bc' ∧ Kept (fun k => w.heap.size ≤ k ∧ k ≠ xb) wr v := by
  obtain ⟨ba', bc', v, hr, ho, hg, _⟩ := run_app_own (tyo := tyo) tyU8 h.own h2 (bv_one _) (by omega) (by unfold maxLen; omega) h.bel.size
  have hk := Kept.of_grown hg
  have hn := own_nty h.own h.box (by decide)
  have hlen : (b ++ p).length = b.length + n2 := by rw [List.length_append, h2.byte]
  refine ⟨ba', bc', v, hr, ⟨?_, h.box.kept hk (fun e => hn xb e rfl), h.bel.trans ?_⟩, hk.more (fun k _ e => ⟨(ownsRow_ge h.own k (blk_own e)).1, hn k e⟩)⟩
  · rw [hlen, bv_append]; exact ho
  · exact hk.below h.bel.size (fun k e => (ownsRow_ge h.own k (blk_own e)).1)
end
/-- an ack's bytes when q spans were written -/
def akB (l : List Sn) (lt dl n1 lf : Int) : Nat → List UInt8
  | 0 => nB [lt, dl, n1]
  | q + 1 => nB [lt, dl, n1, lt - lf] ++ gps l q
theorem akB_len (l : List Sn) (lt dl n1 lf : Int) (q : Nat) (h : q ≤ 64) : (akB l lt dl n1 lf q).length ≤ 1100 := by
  cases q with
  | zero =>
    have := nB_len [lt, dl, n1]
    simp only [List.length_cons, List.length_nil] at this
    show (nB [lt, dl, n1]).length ≤ _
    omega
  | succ q =>
    have h1 := nB_len [lt, dl, n1, lt - lf]
    have h2 := gps_len l q
    simp only [List.length_cons, List.length_nil] at h1
    show (nB [lt, dl, n1, lt - lf] ++ gps l q).length ≤ _
    rw [List.length_append]
    omega
theorem rej1 {q m j : Nat} (h : m = j + q) (_ : m ≤ 64) (h0 : 0 < q) : (j : Int) < (m : Int) ∧ j < m := by omega
theorem rej2 {j : Nat} (h : j ≤ 64) : IntKind.i64.wrap ((j : Int) - 1) = (j : Int) - 1 ∧ RowKit.wrap64 ((j : Int) - 1) = (j : Int) - 1 := by
  rw [IntKind.wrap_i64]; unfold RowKit.wrap64; omega
theorem rej3 {j j1 : Nat} (h : j ≤ 64) (h1 : j1 = j + 1) : IntKind.i64.wrap ((j : Int) + 1) = (j1 : Int) ∧ RowKit.wrap64 ((j : Int) + 1) = (j1 : Int) := by
  rw [IntKind.wrap_i64]; unfold RowKit.wrap64; omega
theorem rej4 {x y : Int} (h1 : 0 ≤ x) (h2 : x ≤ y) (h3 : y ≤ 4611686018427387903) : IntKind.i64.wrap (y - x) = y - x ∧ RowKit.wrap64 (y - x) = y - x ∧ 0 ≤ y - x ∧ y - x ≤ 4611686018427387903 := by
  rw [IntKind.wrap_i64]; unfold RowKit.wrap64; omega
theorem rej5 {xt yf m1 : Int} (h1 : 0 ≤ xt) (h2 : xt + 1 < yf) (h3 : yf ≤ 4611686018427387903) (hm : m1 = yf - xt - 1) : IntKind.i64.wrap (yf - xt) = yf - xt ∧ RowKit.wrap64 (yf - xt) = yf - xt ∧ IntKind.i64.wrap (yf - xt - 1) = m1 ∧ RowKit.wrap64 (yf - xt - 1) = m1 ∧ IntKind.i64.wrap (m1 - 1) = yf - xt - 2 ∧ RowKit.wrap64 (m1 - 1) = yf - xt - 2 ∧ 0 ≤ yf - xt - 2 ∧ yf - xt - 2 ≤ 4611686018427387903 := by
  rw [IntKind.wrap_i64, IntKind.wrap_i64, IntKind.wrap_i64]; unfold RowKit.wrap64; omega
theorem rek1 {m q : Nat} (h : q ≤ m) : m = (m - q) + q := by omega
theorem rek2 {m q j : Nat} {z : Int} (hz : z = (m : Int) - (q : Int)) (hj : m = j + q) : z = (j : Int) := by omega
theorem rek3 {m q j sn sl : Nat} (hj : m = j + q) (hs : sn ≤ 64) (h1 : sn = m + 1) (hM : sl = m + 1) : m ≤ 64 ∧ j < sl ∧ q ≤ 64 ∧ j ≤ 64 ∧ (j : Int) < (sn : Int) := by omega
theorem rek4 {xf last : Int} (h : -2 + 1 < xf) (_ : last = 0) : 0 ≤ xf := by omega
theorem rek5 {m q j sl : Nat} (hj : m = j + q) (h0 : q = 0) (hM : sl = m + 1) : ((j : Int) < (m : Int)) = False ∧ j = sl - 1 := ⟨eq_false (by omega), by omega⟩
theorem rek6 {m q j q1 j1 sn sl : Nat} (hj : m = j + q) (h0 : q = q1 + 1) (h1 : sn = m + 1) (hM : sl = m + 1) (hj1 : j1 = j + 1) : ((j : Int) < (m : Int)) = True ∧ j + 1 < sl ∧ sl - 2 - q1 = j ∧ (j1 : Int) < (sn : Int) := ⟨eq_true (by omega), by omega, by omega, by omega⟩
theorem rek7 {q : Nat} (h : ¬ q = 0) : q = (q - 1) + 1 := by omega
theorem rek8 {m q j : Nat} (hj : m = j + q) : (j : Int) - 1 = (m : Int) - ((q + 1 : Nat) : Int) := by omega
theorem rek9 {b n : Nat} (h : b ≤ 1108) (h2 : n ≤ 8) : b + n ≤ 1000000 := by omega
theorem rek10 {m q : Nat} {z : Int} (h : ¬ q ≤ m) (hz : z = (m : Int) - (q : Int)) (hq : q ≤ m + 1) : ¬ (0 : Int) ≤ z ∧ q = m + 1 := by omega
theorem rek11 {xf xt : Int} (h : -2 + 1 < xf) (h2 : xf ≤ xt) : 0 ≤ xt := by omega
theorem rek12 {b n : Nat} (h : b ≤ 1100) (h2 : n ≤ 8) : b + n ≤ 1108 := by omega
theorem rek13 {b n : Nat} (h : b ≤ 8) (h2 : n ≤ 8) : b + n ≤ 16 := by omega
theorem rek14 {b : Nat} (h : b ≤ 16) : b ≤ 1108 := by omega
theorem rek15 {b : Nat} (h : b ≤ 8) : b ≤ 1108 := by omega
theorem rek16 {b : Nat} (h : b ≤ 1100) : b ≤ 1108 := by omega
theorem rej6 {sn m : Nat} (h : sn = m + 1) (h64 : sn ≤ 64) : IntKind.i64.wrap ((sn : Int) - 1) = (m : Int) ∧ RowKit.wrap64 ((sn : Int) - 1) = (m : Int) ∧ (m : Int) < (sn : Int) ∧ 0 ≤ (m : Int) ∧ (m : Int) ≤ 4611686018427387903 := by
  rw [IntKind.wrap_i64]; unfold RowKit.wrap64; omega
theorem nB_cons' (z : Int) (r : List Int) : nB (z :: r) = vl z.toNat ++ nB r := rfl
theorem nB_nil' : nB [] = [] := rfl
set_option maxRecDepth 100000 in
set_option maxHeartbeats 4000000 in
theorem rackB_any (w : World) {f : Fm} {fa : FA} (h : FIn w f fa) (hs : rspV f.spans = true) (hd : numB f.delay = true) : Calls Try.prog 34 #[.agg (fcells f fa).toArray] w (RetB w (ackB f)) := by
  unfold rspV at hs
  simp only [Bool.and_eq_true, decide_eq_true_eq] at hs
  obtain ⟨hs1, hs2, hs3⟩ := hs
  obtain ⟨hsa, hsb⟩ := spsOk_all f.spans (-2) (by decide) hs1
  obtain ⟨w1, hw1⟩ : ∃ w1, w1 = w.alloc (.cells (fcells f fa).toArray 34) := ⟨_, rfl⟩
  have hal : Below w.heap.size w w1 := by rw [hw1]; exact alB w _
  obtain ⟨xb, hxb⟩ : ∃ xb, xb = w.heap.size := ⟨_, rfl⟩
  have hX : Has w1 xb 34 (fcells f fa) := by rw [hw1, hxb]; exact Has.new _ _ _
  have HX1 := Lib.hid hX
  have HAl := Lib.hid hal
  have HF := Lib.hid h
  obtain ⟨m, hm⟩ : ∃ m, f.spans.length = m + 1 := ⟨f.spans.length - 1, by omega⟩
  have hack := ackB_at hs2
  obtain ⟨lf, hlf⟩ : ∃ lf, lf = (f.spans[f.spans.length - 1]'(by omega)).from_ := ⟨_, rfl⟩
  obtain ⟨lt, hlt⟩ : ∃ lt, lt = (f.spans[f.spans.length - 1]'(by omega)).to_ := ⟨_, rfl⟩
  obtain ⟨c1, c2, c3⟩ := hsa (f.spans.length - 1) (by omega)
  rw [← hlf] at c1 c2
  rw [← hlt] at c2 c3
  rw [← hlf, ← hlt, show (f.spans.length : Int) - 1 = (m : Int) by omega, show f.spans.length - 1 = m by omega] at hack
  obtain ⟨R, hR⟩ : ∃ R, R = ackB f := ⟨_, rfl⟩
  rw [← hR] at hack ⊢
  have HR : Hid (R = akB f.spans lt f.delay (m : Int) lf (m + 1)) := Lib.hid hack
  -- the cells of the spans, in any later world
  obtain ⟨sb, so, hsa', hcl⟩ := h.spans.cells hs2
  have HC : Hid (∀ {w' : World}, Below w.heap.size w w' → ∀ j (hj : j < f.spans.length), w'.cell? ⟨sb, so + j * 2, none⟩ = some (.int .i64 f.spans[j].from_) ∧ w'.cell? ⟨sb, so + j * 2 + 1, none⟩ = some (.int .i64 f.spans[j].to_)) := Lib.hid (fun hb j hj => by
    obtain ⟨p0, p1⟩ := hcl j hj
    rw [hb.cell (World.block_lt_of_cell? _ _ p0), hb.cell (World.block_lt_of_cell? _ _ p1)]
    exact ⟨p0, p1⟩)
  have HA := Lib.hid hsa
  have HSb := Lib.hid hsb
  have HLst : Hid (∀ j (hj : j < f.spans.length), j = f.spans.length - 1 → f.spans[j].from_ = lf ∧ f.spans[j].to_ = lt) := Lib.hid (fun j hj e => by subst e; exact ⟨hlf.symm, hlt.symm⟩)
  have HM := Lib.hid hm
  have HD := Lib.hid hd
  have HL := Lib.hid (show 0 ≤ lf ∧ lf ≤ lt ∧ lt ≤ 4611686018427387903 from ⟨by omega, c2, c3⟩)
  have hcp := h.spans.cap
  have hmx := h.spans.max
  obtain ⟨k, i, t, n, c, fi, dt, ci, sp, dl, e0, e1, e2⟩ := f
  obtain ⟨da, dc, ca, cc, sa, sc⟩ := fa
  clear hlf hlt
  simp only at HR HC HA HSb HLst HM HD hm hs2 hs3 hsa' hcp hmx
  subst hsa'
  obtain ⟨dn, hdn⟩ : ∃ dn, dn = dt.length := ⟨_, rfl⟩
  obtain ⟨cn, hcn⟩ : ∃ cn, cn = ci.length := ⟨_, rfl⟩
  obtain ⟨sn, hsn⟩ : ∃ sn, sn = sp.length := ⟨_, rfl⟩
  have hf : fcells ⟨k, i, t, n, c, fi, dt, ci, sp, dl, e0, e1, e2⟩ ⟨da, dc, ca, cc, some ⟨sb, so, none⟩, sc⟩ = [.int .i64 k, .int .i64 i, .int .i64 t, .int .i64 n, .int .i64 c, .bool fi, .slice da dn dc, .slice ca cn cc, .slice (some ⟨sb, so, none⟩) sn sc, .int .i64 dl, .int .i64 e0, .int .i64 e1, .int .i64 e2] := by rw [hdn, hcn, hsn]; rfl
  rw [hf] at hw1 ⊢
  replace hw1 : w1 = w.alloc (.cells #[.int .i64 k, .int .i64 i, .int .i64 t, .int .i64 n, .int .i64 c, .bool fi, .slice da dn dc, .slice ca cn cc, .slice (some ⟨sb, so, none⟩) sn sc, .int .i64 dl, .int .i64 e0, .int .i64 e1, .int .i64 e2] 34) := hw1
  have HSn := Lib.hid hsn
  have HX8 : Hid (∀ {w' : World}, Has w' xb 34 (fcells ⟨k, i, t, n, c, fi, dt, ci, sp, dl, e0, e1, e2⟩ ⟨da, dc, ca, cc, some ⟨sb, so, none⟩, sc⟩) → w'.cell? ⟨xb, 8, none⟩ = some (.slice (some ⟨sb, so, none⟩) sn sc)) := Lib.hid (fun h => by
    have h1 := h.cell 8 rfl
    rw [hsn]; exact h1)
  have hsn1 : sn = m + 1 := by rw [hsn]; exact hm
  have hs3' : sn ≤ 64 := by rw [hsn]; exact hs3
  obtain ⟨y1, y2, y3, y4, y5⟩ := rej6 hsn1 hs3'
  have hcap : (sn : Int) ≤ (sc : Int) := by rw [hsn]; omega
  have HS3 := Lib.hid hs3'
  have HSn1 := Lib.hid hsn1
  have HP1 := Lib.hid (fun w' => rput_num w' (x := lt) (by have := HL.out; omega))
  have HP2 := Lib.hid (fun w' => rput_num w' (x := dl) (numB_in HD.out))
  have HP3 := Lib.hid (fun w' => rput_num w' (x := (m : Int)) ⟨y4, y5⟩)
  have HGm : Hid (∀ {w' : World}, Below w.heap.size w w' → w'.cell? ⟨sb, so + m * 2 + 1, none⟩ = some (.int .i64 lt)) := Lib.hid (fun hb => by
    have h1 := (HC.out hb m (by omega)).2
    rw [(HLst.out m (by omega) (by omega)).2] at h1
    exact h1)
  clear h hs1 hsa hsb hal hX hm hack hR hcl c1 c2 c3 hd hf hdn hcn hs2 hs3 hsn hsn1 hs3' hcp hmx
  go_enter Try.func34, Try.ntmps34
  go_upto_region 1 with fail
  rw [← hw1, ← hxb]
  clear hw1 hxb
  have g8 := HX8.out HX1.out
  have s1 := HGm.out HAl.out
  go_wp2_with fail
  refine (HP1.out w1).mono ?_
  rintro e w2 ⟨a2, c2, he, ho2, hb2⟩
  obtain ⟨b2, hb2'⟩ : ∃ b2, b2 = vl lt.toNat := ⟨_, rfl⟩
  rw [← hb2'] at he ho2
  obtain ⟨bn, hbn⟩ : ∃ bn, bn = b2.length := ⟨_, rfl⟩
  obtain rfl : e = .returned (.slice a2 bn c2) := by rw [he, hbn]
  have HO2 : Hid (OE w w2 xb ⟨k, i, t, n, c, fi, dt, ci, sp, dl, e0, e1, e2⟩ ⟨da, dc, ca, cc, some ⟨sb, so, none⟩, sc⟩ b2 a2 c2) := Lib.hid ⟨own_mono ho2 HAl.out.size, HX1.out.kept (X := none') (Kept.of_below hb2) (fun h => h), HAl.out.trans (hb2.mono HAl.out.size)⟩
  have HBn := Lib.hid hbn
  have HBe := Lib.hid hb2'
  have HB8 : Hid (b2.length ≤ 8) := Lib.hid (by rw [hb2', vl_length]; exact (szN_pos _).2)
  have g9 := HO2.out.box.cell 9 rfl
  clear he ho2 hb2 hb2' hbn g8 s1
  go_wp2_with fail
  refine (HP2.out w2).mono ?_
  rintro e w3 ⟨pa, pc, he, hpo, hb3⟩
  have hO3 := HO2.out.below hb3
  have hpl : (vl dl.toNat).length ≤ 8 := by rw [vl_length]; exact (szN_pos _).2
  obtain ⟨a4, c4, w4, hr4, hO4, _⟩ := hO3.app 22 (own_sl hpo) (rek9 (rek15 HB8.out) hpl)
  obtain ⟨pn, hpn⟩ : ∃ pn, pn = (vl dl.toNat).length := ⟨_, rfl⟩
  rw [← hpn, ← HBn.out] at hr4
  obtain rfl : e = .returned (.slice pa pn pc) := by rw [he, hpn]
  obtain ⟨b4, hb4⟩ : ∃ b4, b4 = b2 ++ vl dl.toNat := ⟨_, rfl⟩
  rw [← hb4] at hO4
  have HO4 := Lib.hid hO4
  have HBe4 := Lib.hid hb4
  have HL4 : Hid (bn + pn = b4.length) := Lib.hid (by rw [hb4, List.length_append, HBn.out, hpn])
  have HB16 : Hid (b4.length ≤ 16) := Lib.hid (by rw [hb4, List.length_append]; exact rek13 HB8.out hpl)
  clear he hpo hb3 hO3 hpl hO4 hpn hb4 g9
  go_wp2_with (at_builtin; refine Lib.wpList_append_run _ rfl _ _ _ _ rfl (.slice a2 bn c2) (.slice pa pn pc) rfl rfl _ _ hr4 ?_)
  refine (HP3.out w4).mono ?_
  rintro e w5 ⟨qa, qc, he, hqo, hb5⟩
  have hO5 := HO4.out.below hb5
  have hql : (vl (m : Int).toNat).length ≤ 8 := by rw [vl_length]; exact (szN_pos _).2
  obtain ⟨a6, c6, w6, hr6, hO6, _⟩ := hO5.app 22 (own_sl hqo) (rek9 (rek14 HB16.out) hql)
  obtain ⟨qn, hqn⟩ : ∃ qn, qn = (vl (m : Int).toNat).length := ⟨_, rfl⟩
  rw [← hqn, ← HL4.out] at hr6
  obtain rfl : e = .returned (.slice qa qn qc) := by rw [he, hqn]
  have hl6 : (b4 ++ vl (m : Int).toNat).length = bn + pn + qn := by rw [List.length_append, HL4.out, hqn]
  have e6 : b4 ++ vl (m : Int).toNat = akB sp lt dl (m : Int) lf 0 := by
    rw [HBe4.out, HBe.out]
    simp [akB, nB_cons', nB_nil']
  rw [e6] at hO6 hl6
  have HO6 := Lib.hid hO6
  have HL6 := Lib.hid hl6
  clear he hqo hb5 hO5 hql hO6 hqn hl6 e6 hr4
  go_wp2_with (at_builtin; refine Lib.wpList_append_run _ rfl _ _ _ _ rfl (.slice a4 (bn + pn) c4) (.slice qa qn qc) rfl rfl _ _ hr6 ?_)
  clear hr6
  go_loopw [4, 5] (fun bv_ v wr => ∃ (q : Nat) (z : Int) (ba : Option Addr) (bc : Nat) (b : List UInt8), v = .int .i64 z ∧ z = (m : Int) - (q : Int) ∧ q ≤ m + 1 ∧ bv_ = .slice ba b.length bc ∧ Hid (b = akB sp lt dl (m : Int) lf q) ∧ OE w wr xb ⟨k, i, t, n, c, fi, dt, ci, sp, dl, e0, e1, e2⟩ ⟨da, dc, ca, cc, some ⟨sb, so, none⟩, sc⟩ b ba bc) (fun _ v _ => (intOf v + 1).toNat)
  case atStart => exact ⟨0, (m : Int), a6, c6, akB sp lt dl (m : Int) lf 0, rfl, by simp, Nat.zero_le _, by rw [HL6.out], Lib.hid rfl, HO6.out⟩
  case round =>
    obtain ⟨q, z, ba, bc, b, rfl, hz, hq, rfl, HBq, hO⟩ := hrel
    have HO := Lib.hid hO
    clear hO
    obtain ⟨bl, hbl⟩ : ∃ bl, bl = b.length := ⟨_, rfl⟩
    rw [← hbl]
    have HBl := Lib.hid hbl
    clear hbl
    by_cases hqm : q ≤ m
    · obtain ⟨j, hj⟩ : ∃ j : Nat, m = j + q := ⟨m - q, rek1 hqm⟩
      obtain rfl : z = (j : Int) := rek2 hz hj
      obtain ⟨hm64, hjs, hq64, hjm64, hjsn⟩ := rek3 hj HS3.out HSn1.out HM.out
      have HBlen : Hid (b.length ≤ 1100) := Lib.hid (by rw [HBq.out]; exact akB_len _ _ _ _ _ _ hq64)
      obtain ⟨b1, b2', b3⟩ := HA.out j hjs
      have hz0 : (0 : Int) ≤ (j : Int) := Int.natCast_nonneg j
      obtain ⟨d9, d10⟩ := rej2 hjm64
      obtain ⟨xf, hxf⟩ : ∃ xf, xf = sp[j].from_ := ⟨_, rfl⟩
      obtain ⟨xt, hxt⟩ : ∃ xt, xt = sp[j].to_ := ⟨_, rfl⟩
      have HCj : Hid (∀ {w' : World}, Below w.heap.size w w' → w'.cell? ⟨sb, so + j * 2, none⟩ = some (.int .i64 xf) ∧ w'.cell? ⟨sb, so + j * 2 + 1, none⟩ = some (.int .i64 xt)) := Lib.hid (fun hb => by rw [hxf, hxt]; exact HC.out hb j hjs)
      rw [← hxf] at b1 b2'
      rw [← hxt] at b2' b3
      obtain ⟨d1, d2, d3, d4⟩ := rej4 (rek4 b1 rfl) b2' b3
      have HPx := Lib.hid (fun w' => rput_num w' (x := xt - xf) ⟨d3, d4⟩)
      have HJ := Lib.hid (And.intro hj hjm64)
      have HJs := Lib.hid hjs
      have HX64 := Lib.hid hm64
      by_cases hq0 : q = 0
      · obtain ⟨z1, hjl⟩ := rek5 hj hq0 HM.out
        have HQ0 := Lib.hid hq0
        have HQm := Lib.hid hqm
        have HB12 : Hid (xt = lt ∧ xf = lf) := Lib.hid (by
          rw [hxf, hxt]
          exact (HLst.out j hjs hjl).symm)
        clear hz hq hqm hj hm64 hjs hq64 b1 b2' b3 hxf hxt d3 d4 hq0 hjm64 hjl
        obtain ⟨wx, bx, bxl, bxa, bxc, hO0⟩ : ∃ wx bx bxl bxa bxc, wx = wr ∧ bx = b ∧ bxl = bl ∧ bxa = ba ∧ bxc = bc := ⟨_, _, _, _, _, rfl, rfl, rfl, rfl, rfl⟩
        obtain ⟨rfl, rfl, rfl, rfl, rfl⟩ := hO0
        have HOx := HO
        have HXl := HBl
        have HBx : Hid (bx.length ≤ 1108) := Lib.hid (rek16 HBlen.out)
        go_upto_region 11 with fail
        have g8 : wx.cell? ⟨xb, 8, none⟩ = some (.slice (some ⟨sb, so, none⟩) sn sc) := HX8.out HOx.out.box
        obtain ⟨p0, p1⟩ := HCj.out HOx.out.bel
        have HSat : Hid (Sat [(⟨xb, 8, none⟩, .slice (some ⟨sb, so, none⟩) sn sc), (⟨sb, so + j * 2, none⟩, .int .i64 xf), (⟨sb, so + j * 2 + 1, none⟩, .int .i64 xt)] wx.drew) := Lib.hid (Sat.cons (w := wx.drew) g8 (Sat.cons (w := wx.drew) p0 (Sat.cons (w := wx.drew) p1 (Sat.nil _))))
        clear g8 p0 p1
        refine Mx.region [] (Sat [(⟨xb, 8, none⟩, .slice (some ⟨sb, so, none⟩) sn sc), (⟨sb, so + j * 2, none⟩, .int .i64 xf), (⟨sb, so + j * 2 + 1, none⟩, .int .i64 xt)]) (by kernel_rfl) (by kernel_rfl) HSat.out ?_
        repeat ((first | (refine Mx.skips (by kernel_rfl) ?_; go_big_quiet_skip) | (refine Mx.quietly rfl ?_; go_big_quiet_want; go_big_quiet_op; go_big_quiet_on)); refine Mx.done ?_)
        refine Mx.cell ⟨xb, 8, none⟩ (.slice (some ⟨sb, so, none⟩) sn sc) (by kernel_rfl) (by kernel_rfl) (by kernel_rfl) Try.isAgg23 (fun w' h => h 0 _ _ rfl) ?_
        go_big_quiet_want; go_big_quiet_op; go_big_quiet_on; refine Mx.done ?_
        repeat ((first | (refine Mx.skips (by kernel_rfl) ?_; go_big_quiet_skip) | (refine Mx.quietly rfl ?_; go_big_quiet_want; go_big_quiet_op; go_big_quiet_on)); refine Mx.done ?_)
        refine Mx.cell ⟨sb, so + j * 2 + 1, none⟩ (.int .i64 xt) (by kernel_rfl) (by kernel_rfl) (by kernel_rfl) Try.isAgg3 (fun w' h => h 2 _ _ rfl) ?_
        go_big_quiet_want; go_big_quiet_op; go_big_quiet_on; refine Mx.done ?_
        repeat ((first | (refine Mx.skips (by kernel_rfl) ?_; go_big_quiet_skip) | (refine Mx.quietly rfl ?_; go_big_quiet_want; go_big_quiet_op; go_big_quiet_on)); refine Mx.done ?_)
        refine Mx.cell ⟨xb, 8, none⟩ (.slice (some ⟨sb, so, none⟩) sn sc) (by kernel_rfl) (by kernel_rfl) (by kernel_rfl) Try.isAgg23 (fun w' h => h 0 _ _ rfl) ?_
        go_big_quiet_want; go_big_quiet_op; go_big_quiet_on; refine Mx.done ?_
        repeat ((first | (refine Mx.skips (by kernel_rfl) ?_; go_big_quiet_skip) | (refine Mx.quietly rfl ?_; go_big_quiet_want; go_big_quiet_op; go_big_quiet_on)); refine Mx.done ?_)
        refine Mx.cell ⟨sb, so + j * 2, none⟩ (.int .i64 xf) (by kernel_rfl) (by kernel_rfl) (by kernel_rfl) Try.isAgg3 (fun w' h => h 1 _ _ rfl) ?_
        go_big_quiet_want; go_big_quiet_op; go_big_quiet_on; refine Mx.done ?_
        repeat ((first | (refine Mx.skips (by kernel_rfl) ?_; go_big_quiet_skip) | (refine Mx.quietly rfl ?_; go_big_quiet_want; go_big_quiet_op; go_big_quiet_on)); refine Mx.done ?_)
        refine Mx.loudly (by kernel_rfl) (by kernel_rfl) ?_
        go_wp2_with fail
        refine (HPx.out wx.drew).mono ?_
        rintro e w8 ⟨ra, rc, he, hro, hb8⟩
        have hO8 := (HOx.out.below (below_drewN (Below.refl _ _) 1)).below hb8
        have hrl : (vl (xt - xf).toNat).length ≤ 8 := by rw [vl_length]; exact (szN_pos _).2
        obtain ⟨a9, c9, w9, hr9, hO9, _⟩ := hO8.app 22 (own_sl hro) (rek9 HBx.out hrl)
        obtain ⟨rn, hrn⟩ : ∃ rn, rn = (vl (xt - xf).toNat).length := ⟨_, rfl⟩
        rw [← hrn, ← HXl.out] at hr9
        obtain rfl : e = .returned (.slice ra rn rc) := by rw [he, hrn]
        have hSat8 : Sat [(⟨xb, 8, none⟩, .slice (some ⟨sb, so, none⟩) sn sc), (⟨sb, so + j * 2, none⟩, .int .i64 xf), (⟨sb, so + j * 2 + 1, none⟩, .int .i64 xt)] w8 := Sat.cons (HX8.out hO8.box) (Sat.cons (HCj.out hO8.bel).1 (Sat.cons (HCj.out hO8.bel).2 (Sat.nil _)))
        have hSat9 : Sat [(⟨xb, 8, none⟩, .slice (some ⟨sb, so, none⟩) sn sc), (⟨sb, so + j * 2, none⟩, .int .i64 xf), (⟨sb, so + j * 2 + 1, none⟩, .int .i64 xt)] w9 := Sat.cons (HX8.out hO9.box) (Sat.cons (HCj.out hO9.bel).1 (Sat.cons (HCj.out hO9.bel).2 (Sat.nil _)))
        have HS8 := Lib.hid hSat8
        have HS9 := Lib.hid hSat9
        have HRel : Hid (∃ (q' : Nat) (z : Int) (ba : Option Addr) (bc : Nat) (b : List UInt8), Value.int .i64 ((j : Int) - 1) = .int .i64 z ∧ z = (m : Int) - (q' : Int) ∧ q' ≤ m + 1 ∧ Value.slice a9 (bxl + rn) c9 = .slice ba b.length bc ∧ Hid (b = akB sp lt dl (m : Int) lf q') ∧ OE w w9 xb ⟨k, i, t, n, c, fi, dt, ci, sp, dl, e0, e1, e2⟩ ⟨da, dc, ca, cc, some ⟨sb, so, none⟩, sc⟩ b ba bc) := Lib.hid ⟨q + 1, (j : Int) - 1, a9, c9, bx ++ vl (xt - xf).toNat, rfl, rek8 HJ.out.1, Nat.succ_le_succ HQm.out, by rw [List.length_append, HXl.out, hrn], Lib.hid (by rw [HBq.out, HQ0.out]; show nB [lt, dl, (m : Int)] ++ _ = nB [lt, dl, (m : Int), lt - lf] ++ gps sp 0; rw [HB12.out.1, HB12.out.2]; simp [nB_cons', nB_nil', gps]), hO9⟩
        have HD9 := Lib.hid (And.intro d9 d10)
        clear he hro hb8 hO8 hrl hO9 hrn hSat8 hSat9 d9 d10
        go_wp2_with fail
        refine ⟨HS8.out, ?_⟩
        repeat ((first | (refine Mx.skips (by kernel_rfl) ?_; go_big_quiet_skip) | (refine Mx.quietly rfl ?_; go_big_quiet_want; go_big_quiet_op; go_big_quiet_on)); refine Mx.done ?_)
        refine Mx.loudly (by kernel_rfl) (by kernel_rfl) ?_
        go_wp2_with (at_builtin; refine Lib.wpList_append_run _ rfl _ _ _ _ rfl (.slice bxa bxl bxc) (.slice ra rn rc) rfl rfl _ _ hr9 ?_)
        refine ⟨HS9.out, ?_⟩
        clear hr9
        repeat ((first | (refine Mx.skips (by kernel_rfl) ?_; go_big_quiet_skip) | (refine Mx.quietly rfl ?_; go_big_quiet_want; go_big_quiet_op; go_big_quiet_on)); refine Mx.done ?_)
        refine Mx.nil ?_
        obtain ⟨d9, d10⟩ := HD9.out
        go_wp2_with fail
        go_roundw
        case rel => exact HRel.out
        case measure => exact spm j
      · obtain ⟨q1, hq1⟩ : ∃ q1, q = q1 + 1 := ⟨q - 1, rek7 hq0⟩
        obtain ⟨j1, hj1⟩ : ∃ j1, j1 = j + 1 := ⟨_, rfl⟩
        obtain ⟨z1, hjl, hjq, hj1s⟩ := rek6 hj hq1 HSn1.out HM.out hj1
        have b7 := HSb.out j hjl
        obtain ⟨b4', b5, b6⟩ := HA.out (j + 1) hjl
        obtain ⟨yf, hyf⟩ : ∃ yf, yf = sp[j + 1].from_ := ⟨_, rfl⟩
        have HCy : Hid (∀ {w' : World}, Below w.heap.size w w' → w'.cell? ⟨sb, so + j1 * 2, none⟩ = some (.int .i64 yf)) := Lib.hid (fun hb => by rw [hyf, hj1]; exact (HC.out hb (j + 1) hjl).1)
        rw [← hxt, ← hyf] at b7
        rw [← hyf] at b4' b5
        obtain ⟨d11, d12⟩ := rej3 hjm64 hj1
        obtain ⟨m1, hm1⟩ : ∃ m1, m1 = yf - xt - 1 := ⟨_, rfl⟩
        obtain ⟨v1, v2, v3, v4, v5, v6, v7, v8⟩ := rej5 (rek11 b1 b2') b7 (Int.le_trans b5 b6) hm1
        have HPy := Lib.hid (fun w' => rput_num w' (x := yf - xt - 2) ⟨v7, v8⟩)
        have HGq : Hid (akB sp lt dl (m : Int) lf (q + 1) = (akB sp lt dl (m : Int) lf q ++ vl (yf - xt - 2).toNat) ++ vl (xt - xf).toNat) := Lib.hid (by
          rw [hq1]
          show nB [lt, dl, (m : Int), lt - lf] ++ gps sp (q1 + 1) = (nB [lt, dl, (m : Int), lt - lf] ++ gps sp q1 ++ _) ++ _
          rw [gps_next, hjq, gp_at hjl, ← hyf, ← hxt, ← hxf]
          simp [nB_cons', nB_nil'])
        have HQm := Lib.hid hqm
        clear hz hq hqm hj hm64 hjs hq64 b1 b2' b3 hxf hxt d3 d4 hq0 hjm64 hq1 hj1 hjl hjq b7 b4' b5 b6 hyf hm1 v7 v8
        have g8 : wr.cell? ⟨xb, 8, none⟩ = some (.slice (some ⟨sb, so, none⟩) sn sc) := HX8.out HO.out.box
        have p1 := (HCj.out HO.out.bel).2
        have q0 := HCy.out HO.out.bel
        have HSat0 : Hid (Sat [(⟨xb, 8, none⟩, .slice (some ⟨sb, so, none⟩) sn sc), (⟨sb, so + j1 * 2, none⟩, .int .i64 yf), (⟨sb, so + j * 2 + 1, none⟩, .int .i64 xt)] wr.drew) := Lib.hid (Sat.cons (w := wr.drew) g8 (Sat.cons (w := wr.drew) q0 (Sat.cons (w := wr.drew) p1 (Sat.nil _))))
        clear g8 p1 q0
        go_upto_region 9 with fail
        refine Mx.region [] (Sat [(⟨xb, 8, none⟩, .slice (some ⟨sb, so, none⟩) sn sc), (⟨sb, so + j1 * 2, none⟩, .int .i64 yf), (⟨sb, so + j * 2 + 1, none⟩, .int .i64 xt)]) (by kernel_rfl) (by kernel_rfl) HSat0.out ?_
        repeat ((first | (refine Mx.skips (by kernel_rfl) ?_; go_big_quiet_skip) | (refine Mx.quietly rfl ?_; go_big_quiet_want; go_big_quiet_op; go_big_quiet_on)); refine Mx.done ?_)
        refine Mx.cell ⟨xb, 8, none⟩ (.slice (some ⟨sb, so, none⟩) sn sc) (by kernel_rfl) (by kernel_rfl) (by kernel_rfl) Try.isAgg23 (fun w' h => h 0 _ _ rfl) ?_
        go_big_quiet_want; go_big_quiet_op; go_big_quiet_on; refine Mx.done ?_
        repeat ((first | (refine Mx.skips (by kernel_rfl) ?_; go_big_quiet_skip) | (refine Mx.quietly rfl ?_; go_big_quiet_want; go_big_quiet_op; go_big_quiet_on)); refine Mx.done ?_)
        refine Mx.cell ⟨sb, so + j1 * 2, none⟩ (.int .i64 yf) (by kernel_rfl) (by kernel_rfl) (by kernel_rfl) Try.isAgg3 (fun w' h => h 1 _ _ rfl) ?_
        go_big_quiet_want; go_big_quiet_op; go_big_quiet_on; refine Mx.done ?_
        repeat ((first | (refine Mx.skips (by kernel_rfl) ?_; go_big_quiet_skip) | (refine Mx.quietly rfl ?_; go_big_quiet_want; go_big_quiet_op; go_big_quiet_on)); refine Mx.done ?_)
        refine Mx.cell ⟨xb, 8, none⟩ (.slice (some ⟨sb, so, none⟩) sn sc) (by kernel_rfl) (by kernel_rfl) (by kernel_rfl) Try.isAgg23 (fun w' h => h 0 _ _ rfl) ?_
        go_big_quiet_want; go_big_quiet_op; go_big_quiet_on; refine Mx.done ?_
        repeat ((first | (refine Mx.skips (by kernel_rfl) ?_; go_big_quiet_skip) | (refine Mx.quietly rfl ?_; go_big_quiet_want; go_big_quiet_op; go_big_quiet_on)); refine Mx.done ?_)
        refine Mx.cell ⟨sb, so + j * 2 + 1, none⟩ (.int .i64 xt) (by kernel_rfl) (by kernel_rfl) (by kernel_rfl) Try.isAgg3 (fun w' h => h 2 _ _ rfl) ?_
        go_big_quiet_want; go_big_quiet_op; go_big_quiet_on; refine Mx.done ?_
        repeat ((first | (refine Mx.skips (by kernel_rfl) ?_; go_big_quiet_skip) | (refine Mx.quietly rfl ?_; go_big_quiet_want; go_big_quiet_op; go_big_quiet_on)); refine Mx.done ?_)
        refine Mx.nil ?_
        have hOd := HO.out.below (below_drewN (Below.refl _ _) 1)
        have HOd := Lib.hid hOd
        clear hOd
        go_wp2_with fail
        refine (HPy.out wr.drew).mono ?_
        rintro e w6y ⟨ya, yc, he, hyo, hb6⟩
        have hO6 := HOd.out.below hb6
        have hyl : (vl (yf - xt - 2).toNat).length ≤ 8 := by rw [vl_length]; exact (szN_pos _).2
        obtain ⟨bxa, bxc, wx, hr7, hO7, _⟩ := hO6.app 22 (own_sl hyo) (rek9 (rek16 HBlen.out) hyl)
        obtain ⟨yn, hyn⟩ : ∃ yn, yn = (vl (yf - xt - 2).toNat).length := ⟨_, rfl⟩
        rw [← hyn, ← HBl.out] at hr7
        obtain rfl : e = .returned (.slice ya yn yc) := by rw [he, hyn]
        obtain ⟨bx, hbx⟩ : ∃ bx, bx = b ++ vl (yf - xt - 2).toNat := ⟨_, rfl⟩
        rw [← hbx] at hO7
        have HOx := Lib.hid hO7
        have HBxe := Lib.hid hbx
        obtain ⟨bxl, hbxl⟩ : ∃ bxl, bxl = bl + yn := ⟨_, rfl⟩
        have HXl : Hid (bxl = bx.length) := Lib.hid (by rw [hbxl, hbx, List.length_append, HBl.out, hyn])
        have HBx : Hid (bx.length ≤ 1108) := Lib.hid (by rw [hbx, List.length_append]; exact rek12 HBlen.out hyl)
        rw [← hbxl] at hr7
        clear he hyo hb6 hO6 hyl hO7 hyn hbx hbxl
        go_upto_region 11 with (at_builtin; refine Lib.wpList_append_run _ rfl _ _ _ _ rfl (.slice ba bl bc) (.slice ya yn yc) rfl rfl _ _ hr7 ?_)
        clear hr7
        have g8 : wx.cell? ⟨xb, 8, none⟩ = some (.slice (some ⟨sb, so, none⟩) sn sc) := HX8.out HOx.out.box
        obtain ⟨p0, p1⟩ := HCj.out HOx.out.bel
        have HSat : Hid (Sat [(⟨xb, 8, none⟩, .slice (some ⟨sb, so, none⟩) sn sc), (⟨sb, so + j * 2, none⟩, .int .i64 xf), (⟨sb, so + j * 2 + 1, none⟩, .int .i64 xt)] wx.drew) := Lib.hid (Sat.cons (w := wx.drew) g8 (Sat.cons (w := wx.drew) p0 (Sat.cons (w := wx.drew) p1 (Sat.nil _))))
        clear g8 p0 p1
        refine Mx.region [] (Sat [(⟨xb, 8, none⟩, .slice (some ⟨sb, so, none⟩) sn sc), (⟨sb, so + j * 2, none⟩, .int .i64 xf), (⟨sb, so + j * 2 + 1, none⟩, .int .i64 xt)]) (by kernel_rfl) (by kernel_rfl) HSat.out ?_
        repeat ((first | (refine Mx.skips (by kernel_rfl) ?_; go_big_quiet_skip) | (refine Mx.quietly rfl ?_; go_big_quiet_want; go_big_quiet_op; go_big_quiet_on)); refine Mx.done ?_)
        refine Mx.cell ⟨xb, 8, none⟩ (.slice (some ⟨sb, so, none⟩) sn sc) (by kernel_rfl) (by kernel_rfl) (by kernel_rfl) Try.isAgg23 (fun w' h => h 0 _ _ rfl) ?_
        go_big_quiet_want; go_big_quiet_op; go_big_quiet_on; refine Mx.done ?_
        repeat ((first | (refine Mx.skips (by kernel_rfl) ?_; go_big_quiet_skip) | (refine Mx.quietly rfl ?_; go_big_quiet_want; go_big_quiet_op; go_big_quiet_on)); refine Mx.done ?_)
        refine Mx.cell ⟨sb, so + j * 2 + 1, none⟩ (.int .i64 xt) (by kernel_rfl) (by kernel_rfl) (by kernel_rfl) Try.isAgg3 (fun w' h => h 2 _ _ rfl) ?_
        go_big_quiet_want; go_big_quiet_op; go_big_quiet_on; refine Mx.done ?_
        repeat ((first | (refine Mx.skips (by kernel_rfl) ?_; go_big_quiet_skip) | (refine Mx.quietly rfl ?_; go_big_quiet_want; go_big_quiet_op; go_big_quiet_on)); refine Mx.done ?_)
        refine Mx.cell ⟨xb, 8, none⟩ (.slice (some ⟨sb, so, none⟩) sn sc) (by kernel_rfl) (by kernel_rfl) (by kernel_rfl) Try.isAgg23 (fun w' h => h 0 _ _ rfl) ?_
        go_big_quiet_want; go_big_quiet_op; go_big_quiet_on; refine Mx.done ?_
        repeat ((first | (refine Mx.skips (by kernel_rfl) ?_; go_big_quiet_skip) | (refine Mx.quietly rfl ?_; go_big_quiet_want; go_big_quiet_op; go_big_quiet_on)); refine Mx.done ?_)
        refine Mx.cell ⟨sb, so + j * 2, none⟩ (.int .i64 xf) (by kernel_rfl) (by kernel_rfl) (by kernel_rfl) Try.isAgg3 (fun w' h => h 1 _ _ rfl) ?_
        go_big_quiet_want; go_big_quiet_op; go_big_quiet_on; refine Mx.done ?_
        repeat ((first | (refine Mx.skips (by kernel_rfl) ?_; go_big_quiet_skip) | (refine Mx.quietly rfl ?_; go_big_quiet_want; go_big_quiet_op; go_big_quiet_on)); refine Mx.done ?_)
        refine Mx.loudly (by kernel_rfl) (by kernel_rfl) ?_
        go_wp2_with fail
        refine (HPx.out wx.drew).mono ?_
        rintro e w8 ⟨ra, rc, he, hro, hb8⟩
        have hO8 := (HOx.out.below (below_drewN (Below.refl _ _) 1)).below hb8
        have hrl : (vl (xt - xf).toNat).length ≤ 8 := by rw [vl_length]; exact (szN_pos _).2
        obtain ⟨a9, c9, w9, hr9, hO9, _⟩ := hO8.app 22 (own_sl hro) (rek9 HBx.out hrl)
        obtain ⟨rn, hrn⟩ : ∃ rn, rn = (vl (xt - xf).toNat).length := ⟨_, rfl⟩
        rw [← hrn, ← HXl.out] at hr9
        obtain rfl : e = .returned (.slice ra rn rc) := by rw [he, hrn]
        have hSat8 : Sat [(⟨xb, 8, none⟩, .slice (some ⟨sb, so, none⟩) sn sc), (⟨sb, so + j * 2, none⟩, .int .i64 xf), (⟨sb, so + j * 2 + 1, none⟩, .int .i64 xt)] w8 := Sat.cons (HX8.out hO8.box) (Sat.cons (HCj.out hO8.bel).1 (Sat.cons (HCj.out hO8.bel).2 (Sat.nil _)))
        have hSat9 : Sat [(⟨xb, 8, none⟩, .slice (some ⟨sb, so, none⟩) sn sc), (⟨sb, so + j * 2, none⟩, .int .i64 xf), (⟨sb, so + j * 2 + 1, none⟩, .int .i64 xt)] w9 := Sat.cons (HX8.out hO9.box) (Sat.cons (HCj.out hO9.bel).1 (Sat.cons (HCj.out hO9.bel).2 (Sat.nil _)))
        have HS8 := Lib.hid hSat8
        have HS9 := Lib.hid hSat9
        have HRel : Hid (∃ (q' : Nat) (z : Int) (ba : Option Addr) (bc : Nat) (b : List UInt8), Value.int .i64 ((j : Int) - 1) = .int .i64 z ∧ z = (m : Int) - (q' : Int) ∧ q' ≤ m + 1 ∧ Value.slice a9 (bxl + rn) c9 = .slice ba b.length bc ∧ Hid (b = akB sp lt dl (m : Int) lf q') ∧ OE w w9 xb ⟨k, i, t, n, c, fi, dt, ci, sp, dl, e0, e1, e2⟩ ⟨da, dc, ca, cc, some ⟨sb, so, none⟩, sc⟩ b ba bc) := Lib.hid ⟨q + 1, (j : Int) - 1, a9, c9, bx ++ vl (xt - xf).toNat, rfl, rek8 HJ.out.1, Nat.succ_le_succ HQm.out, by rw [List.length_append, HXl.out, hrn], Lib.hid (by rw [HGq.out, ← HBq.out, ← HBxe.out]), hO9⟩
        have HD9 := Lib.hid (And.intro d9 d10)
        clear he hro hb8 hO8 hrl hO9 hrn hSat8 hSat9 d9 d10
        go_wp2_with fail
        refine ⟨HS8.out, ?_⟩
        repeat ((first | (refine Mx.skips (by kernel_rfl) ?_; go_big_quiet_skip) | (refine Mx.quietly rfl ?_; go_big_quiet_want; go_big_quiet_op; go_big_quiet_on)); refine Mx.done ?_)
        refine Mx.loudly (by kernel_rfl) (by kernel_rfl) ?_
        go_wp2_with (at_builtin; refine Lib.wpList_append_run _ rfl _ _ _ _ rfl (.slice bxa bxl bxc) (.slice ra rn rc) rfl rfl _ _ hr9 ?_)
        refine ⟨HS9.out, ?_⟩
        clear hr9
        repeat ((first | (refine Mx.skips (by kernel_rfl) ?_; go_big_quiet_skip) | (refine Mx.quietly rfl ?_; go_big_quiet_want; go_big_quiet_op; go_big_quiet_on)); refine Mx.done ?_)
        refine Mx.nil ?_
        obtain ⟨d9, d10⟩ := HD9.out
        go_wp2_with fail
        go_roundw
        case rel => exact HRel.out
        case measure => exact spm j
    · obtain ⟨z1, hqe⟩ := rek10 hqm hz hq
      have HE : Hid (b = R) := Lib.hid (by rw [HBq.out, hqe, HR.out])
      clear hz hq hqm hqe
      go_wp2
      go_ret
      have h1 := HE.out
      subst h1
      exact RetB.mk rfl (by rw [HBl.out]; exact HO.out.own) rfl HO.out.bel
end Go.Proofs.Ytppkilkfmclpkaa

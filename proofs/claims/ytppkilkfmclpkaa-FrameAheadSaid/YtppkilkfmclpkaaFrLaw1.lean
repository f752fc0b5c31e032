/- The awake of layer 5's laws answers true; FrameElicits answers true. -/
import Derived.Test.YtppkilkfmclpkaaFrDec
import Derived.Test.YtppkilkfmclpkaaFrOpen
import Derived.Test.YtppkilkfmclpkaaConst
namespace Go.Proofs.Ytppkilkfmclpkaa
open Go.RowKit

def f8 : Fm := ⟨8, 4, 0, 0, 0, true, [104, 105], [], [], 0, 0, 0, 0⟩
theorem enc_f8 : encF f8 = ([11, 4, 2, 104, 105], 0) := by decide +kernel
theorem dec_1 : decV [1] = ([{ fzero with kind := 1 }], 0, 0) := by rfl
theorem sl_hi (w : World) : Sl (constW w [104, 105]) (some ⟨w.heap.size, 0, none⟩) 2 2 (bv [104, 105]) := sl_const w [104, 105] (by decide)
theorem map_one {L : List (Fm × FA)} {f : Fm} (h : L.map (·.1) = [f]) : ∃ p, L = [p] ∧ p.1 = f := by
  cases L with
  | nil => simp at h
  | cons p r =>
    cases r with
    | nil => exact ⟨p, rfl, by simpa using h⟩
    | cons q r => simp at h
theorem sl_bytes (w : World) (l : List UInt8) (h : l.length ≤ 1000000) : Sl (w.alloc (.cells (bv l).toArray 5)) (some ⟨w.heap.size, 0, none⟩) l.length l.length (bv l) := by
  refine ⟨bv_length l, Nat.le_refl _, by unfold maxLen; omega, by simp, fun _ => ⟨_, 0, rfl, fun i hi => ?_⟩⟩
  have hh : (w.alloc (.cells (bv l).toArray 5)).heap[w.heap.size]? = some (.cells (bv l).toArray 5 (0, 0)) := heap_alloc_new w _
  rw [cell_of_row _ _ _ _ _ _ hh]
  simp
set_option maxRecDepth 100000 in
set_option maxHeartbeats 1000000 in
theorem awake5_any (w : World) : Calls Try.prog 15 #[] w (BoolOf w true) := by
  have hcv := conv_const
  have hc1 : Below w.heap.size w (constW w [104, 105]) := constW_below (Below.refl _ _) (Nat.le_refl _) _
  have HE := Lib.hid (encode_any (constW w [104, 105]) (f := f8) (a := ⟨some ⟨w.heap.size, 0, none⟩, 2, none, 0, none, 0⟩) ⟨sl_hi w, Sl.empty _, ⟨rfl, Nat.le_refl _, Nat.zero_le _, fun h => absurd h (Nat.lt_irrefl _)⟩⟩ (fun k hk => by
    have := constW_size w [104, 105]
    rcases hk with ⟨ad, h1, h2⟩ | ⟨ad, h1, h2⟩ | ⟨ad, h1, h2⟩
    · cases h1
      have h2 : w.heap.size = k := h2
      omega
    · cases h1
    · cases h1))
  have HB1 := Lib.hid hc1
  rw [enc_f8] at HE
  clear hc1
  go_enter Try.func15, Try.ntmps15
  go_wp2_with fail
  refine HE.out.mono ?_
  rintro e w2 ⟨ea, ec, rfl, ho, hb2⟩
  have hal : Below w2.heap.size w2 (w2.alloc (.cells #[.int .u8 1] 5)) := alB w2 _
  have HB3 : Hid (Below w.heap.size w (w2.alloc (.cells #[.int .u8 1] 5))) := Lib.hid ((HB1.out.trans (hb2.mono HB1.out.size)).trans (hal.mono (Nat.le_trans HB1.out.size hb2.size)))
  have HO3 := Lib.hid (own_sl (own_below ho hal))
  have HD := Lib.hid (decode_any (w2.alloc (.cells #[.int .u8 1] 5)) (sl_bytes w2 [1] (by decide)))
  rw [dec_1] at HD
  clear ho hb2 hal hcv
  go_wp2_with fail
  refine HD.out.mono ?_
  rintro e w4 ⟨a4, c4, L4, rfl, hrow, hL, hb4⟩
  obtain ⟨p, rfl, hp⟩ : ∃ p, L4 = [p] ∧ p.1 = { fzero with kind := 1 } := map_one hL
  obtain ⟨s, rfl, hcl, _, hnc, hcm⟩ := own_fr hrow.row rfl (i := 0) (by simp)
  have p0 : w4.cell? ⟨s, 0, none⟩ = some (.int .i64 1) := by
    have h0 : w4.cell? ⟨s, 0, none⟩ = some (.int .i64 p.1.kind) := by
      have h1 := hcl 0 (by decide)
      simp only [Nat.zero_mul, Nat.zero_add, List.getElem_cons_zero] at h1
      rw [h1]; rfl
    have hk : p.1.kind = 1 := by rw [hp]
    rw [h0, hk]
  have hst : (convert 22 9 (.slice ea 5 ec)).run Try.prog w4 = .ok (.string (strB [11, 4, 2, 104, 105])) w4 := run_str (P := Try.prog) (HO3.out.below hb4) 22 5 9 Try.underlying22 Try.underlying5 Try.underlying9
  have e1 : strB [11, 4, 2, 104, 105] = { data := #[11, 4, 2, 104, 105] } := rfl
  rw [e1] at hst
  have HB4 := Lib.hid (HB3.out.trans (hb4.mono HB3.out.size))
  clear hrow hL hb4 hcl e1 hp
  go_wp2
  go_ret
  exact ⟨rfl, HB4.out⟩
theorem elic_cases (k : Int) : (knoF k = false ∧ elic k = false) ∨ (knoF k = true ∧ ((k = 0 ∧ elic k = false) ∨ (k = 2 ∧ elic k = false) ∨ (k = 3 ∧ elic k = false) ∨ (k = 28 ∧ elic k = false) ∨ (k = 29 ∧ elic k = false) ∨ (¬ k = 0 ∧ ¬ k = 2 ∧ ¬ k = 3 ∧ ¬ k = 28 ∧ ¬ k = 29 ∧ elic k = true))) := by
  cases hk : knoF k with
  | false => exact .inl ⟨rfl, by unfold elic; rw [hk]; rfl⟩
  | true =>
    refine .inr ⟨rfl, ?_⟩
    by_cases h0 : k = 0
    · subst h0; exact .inl ⟨rfl, rfl⟩
    by_cases h2 : k = 2
    · subst h2; exact .inr (.inl ⟨rfl, rfl⟩)
    by_cases h3 : k = 3
    · subst h3; exact .inr (.inr (.inl ⟨rfl, rfl⟩))
    by_cases h28 : k = 28
    · subst h28; exact .inr (.inr (.inr (.inl ⟨rfl, rfl⟩)))
    by_cases h29 : k = 29
    · subst h29; exact .inr (.inr (.inr (.inr (.inl ⟨rfl, rfl⟩))))
    refine .inr (.inr (.inr (.inr (.inr ⟨h0, h2, h3, h28, h29, ?_⟩))))
    unfold elic
    simp [hk, h0, h2, h3, h28, h29]
set_option maxRecDepth 100000 in
set_option maxHeartbeats 4000000 in
/-- FrameElicits -/
theorem elicits5_any (w : World) (f : Fm) (a : FA) (h : FIn w f a) (_ : FI f) (hz : FSz f) : Calls Try.prog 9 #[.agg (fcells f a).toArray] w (BoolOf w true) := by
  obtain ⟨w2, hw2⟩ : ∃ w2, w2 = w.alloc (.cells (fcells f a).toArray 26) := ⟨_, rfl⟩
  obtain ⟨xb, hxb⟩ : ∃ xb, xb = w.heap.size := ⟨_, rfl⟩
  have hal : Below w.heap.size w w2 := by rw [hw2]; exact alB w _
  have HX : Hid (Has w2 xb 26 (fcells f a)) := Lib.hid (by rw [hw2, hxb]; exact Has.new _ _ _)
  have HIn := Lib.hid (h.below hal)
  have HZ := Lib.hid hz
  have HB := Lib.hid hal
  have HIt := Lib.hid (items_any w2 f.kind)
  have HKn : Hid ((itm f.kind).2 = knoF f.kind) := Lib.hid (itm_known f.kind)
  obtain ⟨k, hk⟩ : ∃ k, k = f.kind := ⟨_, rfl⟩
  have HKk := Lib.hid hk
  rw [← hk] at HIt HKn
  obtain ⟨kb, hkb⟩ : ∃ kb, kb = (itm k).2 := ⟨_, rfl⟩
  obtain ⟨ks, hks⟩ : ∃ ks, ks = str (itm k).1 := ⟨_, rfl⟩
  unfold StrR at HIt
  rw [← hkb, ← hks] at HIt
  rw [← hkb] at HKn
  clear hal h hz hk hkb hks
  have HCase : Hid ((kb = false ∧ elic k = false) ∨ (kb = true ∧ ((k = 0 ∧ elic k = false) ∨ (k = 2 ∧ elic k = false) ∨ (k = 3 ∧ elic k = false) ∨ (k = 28 ∧ elic k = false) ∨ (k = 29 ∧ elic k = false) ∨ (¬ k = 0 ∧ ¬ k = 2 ∧ ¬ k = 3 ∧ ¬ k = 28 ∧ ¬ k = 29 ∧ elic k = true)))) := Lib.hid (by
    rw [HKn.out]
    exact elic_cases k)
  have HW2 := Lib.hid hw2
  have HXb := Lib.hid hxb
  clear hw2 hxb HKn
  change Calls Try.prog 9 #[.agg #[.int .i64 f.kind, .int .i64 f.id, .int .i64 f.at_, .int .i64 f.n, .int .i64 f.code, .bool f.fin, .slice a.da f.data.length a.dc, .slice a.ca f.cid.length a.cc, .slice a.sa f.spans.length a.sc, .int .i64 f.delay, .int .i64 f.e0, .int .i64 f.e1, .int .i64 f.e2]] w (BoolOf w true)
  go_enter Try.func9, Try.ntmps9
  go_upto_region 1 with fail
  rw [show w.alloc (.cells #[.int .i64 f.kind, .int .i64 f.id, .int .i64 f.at_, .int .i64 f.n, .int .i64 f.code, .bool f.fin, .slice a.da f.data.length a.dc, .slice a.ca f.cid.length a.cc, .slice a.sa f.spans.length a.sc, .int .i64 f.delay, .int .i64 f.e0, .int .i64 f.e1, .int .i64 f.e2] 26) = w2 from HW2.out.symm, ← HXb.out]
  have g0 : w2.cell? ⟨xb, 0, none⟩ = some (.int .i64 k) := by rw [HKk.out]; exact HX.out.cell 0 rfl
  go_wp2_with fail
  refine HIt.out.mono ?_
  rintro e w3 ⟨rfl, rfl⟩
  have HCo : Hid (Calls Try.prog 10 #[.agg #[.int .i64 k, .int .i64 f.id, .int .i64 f.at_, .int .i64 f.n, .int .i64 f.code, .bool f.fin, .slice a.da f.data.length a.dc, .slice a.ca f.cid.length a.cc, .slice a.sa f.spans.length a.sc, .int .i64 f.delay, .int .i64 f.e0, .int .i64 f.e1, .int .i64 f.e2]] w3 (NewF w3 f)) := Lib.hid (by rw [HKk.out]; exact copied_any w3 HIn.out HZ.out)
  rcases HCase.out with ⟨c0, c1⟩ | ⟨c0, ⟨rfl, c1⟩ | ⟨rfl, c1⟩ | ⟨rfl, c1⟩ | ⟨rfl, c1⟩ | ⟨rfl, c1⟩ | ⟨d0, d1, d2, d3, d4, c1⟩⟩
  all_goals
    subst c0
    have HC1 := Lib.hid c1
    clear c1
    have g1 := HX.out.cell 1 rfl
    have g2 := HX.out.cell 2 rfl
    have g3 := HX.out.cell 3 rfl
    have g4 := HX.out.cell 4 rfl
    have g5 := HX.out.cell 5 rfl
    have g6 := HX.out.cell 6 rfl
    have g7 := HX.out.cell 7 rfl
    have g8 := HX.out.cell 8 rfl
    have g9 := HX.out.cell 9 rfl
    have g10 := HX.out.cell 10 rfl
    have g11 := HX.out.cell 11 rfl
    have g12 := HX.out.cell 12 rfl
    go_wp2_with fail
    refine HCo.out.mono ?_
    rintro e w4 ⟨a', he, ho4, hb4⟩
    obtain rfl : e = .returned (.agg #[.int .i64 f.kind, .int .i64 f.id, .int .i64 f.at_, .int .i64 f.n, .int .i64 f.code, .bool f.fin, .slice a'.da f.data.length a'.dc, .slice a'.ca f.cid.length a'.cc, .slice a'.sa f.spans.length a'.sc, .int .i64 f.delay, .int .i64 f.e0, .int .i64 f.e1, .int .i64 f.e2]) := he
    have HEl := Lib.hid (elicits_any w4 f a')
    rw [← HKk.out, HC1.out] at HEl
    have HB4 := Lib.hid (HB.out.trans (hb4.mono HB.out.size))
    clear ho4 hb4
    go_wp2_with fail
    refine HEl.out.mono ?_
    rintro e w5 ⟨rfl, hb5⟩
    have HB5 := Lib.hid (HB4.out.trans (hb5.mono HB4.out.size))
    have HAw := Lib.hid (awake5_any w5)
    clear hb5
    go_wp2_with fail
    refine HAw.out.mono ?_
    rintro e w6 ⟨rfl, hb6⟩
    have HB6 := Lib.hid (HB5.out.trans (hb6.mono HB5.out.size))
    clear hb6
    go_wp2
    go_ret
    first
      | exact ⟨rfl, HB6.out⟩
      | exact ⟨ret_bool (b := true) (by simp [d0, d1, d2, d3, d4]), HB6.out⟩
end Go.Proofs.Ytppkilkfmclpkaa

/- Contracts of frame.Check, frame.Elicits, turnpikeref05.Items (printed by gen_frcheck.py). No condition but the slices' sizes. -/
import Derived.Test.YtppkilkfmclpkaaFrRight
namespace Go.Proofs.Ytppkilkfmclpkaa
open Go.RowKit

/-- what is wrong in a frame -/
def chkF (f : Fm) : Int := if knoF f.kind = false then 50 else if 16384 < f.data.length then 52 else if rightV f = false then 51 else 0
set_option maxRecDepth 100000 in
set_option maxHeartbeats 4000000 in
theorem checkF_any (w : World) {f : Fm} {a : FA} (h : FIn w f a) : Calls Try.prog 11 #[.agg (fcells f a).toArray] w (IntOf w (chkF f)) := by
  obtain ⟨w2, hw2⟩ : ∃ w2, w2 = w.alloc (.cells (fcells f a).toArray 26) := ⟨_, rfl⟩
  have hB : Below w.heap.size w w2 := by rw [hw2]; exact alB w _
  obtain ⟨xb, hxb⟩ : ∃ xb, xb = w.heap.size := ⟨_, rfl⟩
  have HG : Hid (Has w2 xb 26 (fcells f a)) := Lib.hid (by rw [hw2, hxb]; exact Has.new _ _ _)
  have HRt : Hid (∀ w', Below w2.heap.size w2 w' → f.data.length ≤ 140737488351232 → knoF f.kind = true → Calls Try.prog 28 #[.agg (fcells f a).toArray] w' (BoolOf w' (rightV f))) := Lib.hid (fun w' hw hz hk => right_any w' ((h.below hB).below hw) hz hk)
  obtain ⟨R, hR⟩ : ∃ R, R = chkF f := ⟨_, rfl⟩
  rw [← hR]
  obtain ⟨rv, hrv⟩ : ∃ rv, rv = rightV f := ⟨_, rfl⟩
  have HR : Hid (R = if knoF f.kind = false then 50 else if 16384 < f.data.length then 52 else if rv = false then 51 else 0) := Lib.hid (by rw [hR, hrv]; rfl)
  rw [← hrv] at HRt
  clear hR hrv
  obtain ⟨k, i, t, n, c, fi, dt, ci, sp, dl, e0, e1, e2⟩ := f
  obtain ⟨da, dc, ca, cc, sa, sc⟩ := a
  obtain ⟨dn, hdn⟩ : ∃ dn, dn = dt.length := ⟨_, rfl⟩
  obtain ⟨cn, hcn⟩ : ∃ cn, cn = ci.length := ⟨_, rfl⟩
  obtain ⟨sn, hsn⟩ : ∃ sn, sn = sp.length := ⟨_, rfl⟩
  have hf : fcells ⟨k, i, t, n, c, fi, dt, ci, sp, dl, e0, e1, e2⟩ ⟨da, dc, ca, cc, sa, sc⟩ = [.int .i64 k, .int .i64 i, .int .i64 t, .int .i64 n, .int .i64 c, .bool fi, .slice da dn dc, .slice ca cn cc, .slice sa sn sc, .int .i64 dl, .int .i64 e0, .int .i64 e1, .int .i64 e2] := by rw [hdn, hcn, hsn]; rfl
  rw [hf] at HG HRt hw2 ⊢
  simp only [← hdn] at HRt HR
  have HB := Lib.hid hB
  replace hw2 : w2 = w.alloc (.cells #[.int .i64 k, .int .i64 i, .int .i64 t, .int .i64 n, .int .i64 c, .bool fi, .slice da dn dc, .slice ca cn cc, .slice sa sn sc, .int .i64 dl, .int .i64 e0, .int .i64 e1, .int .i64 e2] 26) := hw2
  clear hf hdn hcn hsn hB h
  have HK := Lib.hid (knownF_any w2 k)
  go_enter Try.func11, Try.ntmps11
  go_upto_region 1 with fail
  rw [← hw2, ← hxb]
  clear hw2 hxb
  have g0 := HG.out.cell 0 rfl
  cases hk : knoF k with
  | false =>
    rw [hk] at HK
    have HF : Hid (R = 50) := Lib.hid (by rw [HR.out, if_pos hk])
    clear hk
    go_wp2_with fail
    refine HK.out.mono ?_
    rintro e w3 ⟨rfl, hb3⟩
    have HB3 := Lib.hid (HB.out.trans (hb3.mono HB.out.size))
    clear hb3
    go_wp2
    go_ret
    exact ⟨ret_int HF.out.symm, HB3.out⟩
  | true =>
    rw [hk] at HK
    have HHk := Lib.hid hk
    clear hk
    by_cases c1 : 16384 < dn
    · have d1 : (16384 : Int) < (dn : Int) := by omega
      have HF : Hid (R = 52) := Lib.hid (by rw [HR.out, if_neg (by rw [HHk.out]; decide), if_pos c1])
      clear c1
      go_wp2_with fail
      refine HK.out.mono ?_
      rintro e w3 ⟨rfl, hb3⟩
      have HB3 := Lib.hid (HB.out.trans (hb3.mono HB.out.size))
      have g6 := (HG.out.kept (Kept.of_below (X := none') hb3) (fun h => h)).cell 6 rfl
      clear hb3
      go_wp2
      go_ret
      exact ⟨ret_int HF.out.symm, HB3.out⟩
    · have d1 : ¬ (16384 : Int) < (dn : Int) := by omega
      have HC1 := Lib.hid c1
      clear c1
      go_wp2_with fail
      refine HK.out.mono ?_
      rintro e w3 ⟨rfl, hb3⟩
      have HB3 := Lib.hid (HB.out.trans (hb3.mono HB.out.size))
      have HG3 := Lib.hid (HG.out.kept (Kept.of_below (X := none') hb3) (fun h => h))
      have HR3 := Lib.hid (HRt.out w3 hb3 (by have := HC1.out; omega) HHk.out)
      clear hb3 g0
      have g0 := HG3.out.cell 0 rfl
      have g1 := HG3.out.cell 1 rfl
      have g2 := HG3.out.cell 2 rfl
      have g3 := HG3.out.cell 3 rfl
      have g4 := HG3.out.cell 4 rfl
      have g5 := HG3.out.cell 5 rfl
      have g6 := HG3.out.cell 6 rfl
      have g7 := HG3.out.cell 7 rfl
      have g8 := HG3.out.cell 8 rfl
      have g9 := HG3.out.cell 9 rfl
      have g10 := HG3.out.cell 10 rfl
      have g11 := HG3.out.cell 11 rfl
      have g12 := HG3.out.cell 12 rfl
      have hR3 := HR3.out
      go_wp2_with fail
      refine HR3.out.mono ?_
      rintro e w4 ⟨rfl, hb4⟩
      have HB4 := Lib.hid (HB3.out.trans (hb4.mono HB3.out.size))
      clear hb4
      cases rv with
      | true =>
        have HF : Hid (R = 0) := Lib.hid (by rw [HR.out, if_neg (by rw [HHk.out]; decide), if_neg HC1.out, if_neg (by decide)])
        go_wp2
        go_ret
        exact ⟨ret_int HF.out.symm, HB4.out⟩
      | false =>
        have HF : Hid (R = 51) := Lib.hid (by rw [HR.out, if_neg (by rw [HHk.out]; decide), if_neg HC1.out, if_pos rfl])
        go_wp2
        go_ret
        exact ⟨ret_int HF.out.symm, HB4.out⟩

/-- does it ask for an acknowledgement? -/
def elic (k : Int) : Bool := knoF k && (k != 0 && (k != 2 && (k != 3 && (k != 28 && k != 29))))
set_option maxRecDepth 100000 in
set_option maxHeartbeats 4000000 in
theorem elicits_any (w : World) (f : Fm) (a : FA) : Calls Try.prog 25 #[.agg (fcells f a).toArray] w (BoolOf w (elic f.kind)) := by
  obtain ⟨k, i, t, n, c, fi, dt, ci, sp, dl, e0, e1, e2⟩ := f
  obtain ⟨da, dc, ca, cc, sa, sc⟩ := a
  obtain ⟨dn, hdn⟩ : ∃ dn, dn = dt.length := ⟨_, rfl⟩
  obtain ⟨cn, hcn⟩ : ∃ cn, cn = ci.length := ⟨_, rfl⟩
  obtain ⟨sn, hsn⟩ : ∃ sn, sn = sp.length := ⟨_, rfl⟩
  have hf : fcells ⟨k, i, t, n, c, fi, dt, ci, sp, dl, e0, e1, e2⟩ ⟨da, dc, ca, cc, sa, sc⟩ = [.int .i64 k, .int .i64 i, .int .i64 t, .int .i64 n, .int .i64 c, .bool fi, .slice da dn dc, .slice ca cn cc, .slice sa sn sc, .int .i64 dl, .int .i64 e0, .int .i64 e1, .int .i64 e2] := by rw [hdn, hcn, hsn]; rfl
  rw [hf]
  show Calls Try.prog 25 _ w (BoolOf w (elic k))
  clear hf hdn hcn hsn
  obtain ⟨w2, hw2⟩ : ∃ w2, w2 = w.alloc (.cells #[.int .i64 k, .int .i64 i, .int .i64 t, .int .i64 n, .int .i64 c, .bool fi, .slice da dn dc, .slice ca cn cc, .slice sa sn sc, .int .i64 dl, .int .i64 e0, .int .i64 e1, .int .i64 e2] 26) := ⟨_, rfl⟩
  have HB : Hid (Below w.heap.size w w2) := Lib.hid (by rw [hw2]; exact alB w _)
  obtain ⟨xb, hxb⟩ : ∃ xb, xb = w.heap.size := ⟨_, rfl⟩
  have HG : Hid (Has w2 xb 26 [.int .i64 k, .int .i64 i, .int .i64 t, .int .i64 n, .int .i64 c, .bool fi, .slice da dn dc, .slice ca cn cc, .slice sa sn sc, .int .i64 dl, .int .i64 e0, .int .i64 e1, .int .i64 e2]) := Lib.hid (by rw [hw2, hxb]; exact Has.new _ _ _)
  have HK := Lib.hid (knownF_any w2 k)
  obtain ⟨R, hR⟩ : ∃ R, R = elic k := ⟨_, rfl⟩
  rw [← hR]
  have hc : ((k = 0 ∨ k = 2 ∨ k = 3 ∨ k = 28 ∨ k = 29) ∧ R = false) ∨ ((¬ k = 0 ∧ ¬ k = 2 ∧ ¬ k = 3 ∧ ¬ k = 28 ∧ ¬ k = 29) ∧ R = knoF k) := by
    by_cases h : k = 0 ∨ k = 2 ∨ k = 3 ∨ k = 28 ∨ k = 29
    · refine .inl ⟨h, ?_⟩
      rw [hR]
      rcases h with rfl | rfl | rfl | rfl | rfl <;> rfl
    · refine .inr ⟨by omega, ?_⟩
      rw [hR]
      unfold elic
      have h1 : k ≠ 0 ∧ k ≠ 2 ∧ k ≠ 3 ∧ k ≠ 28 ∧ k ≠ 29 := by omega
      simp [h1]
  clear hR
  go_enter Try.func25, Try.ntmps25
  go_upto_region 1 with fail
  rw [← hw2, ← hxb]
  clear hw2 hxb
  have g0 := HG.out.cell 0 rfl
  rcases hc with ⟨h, e⟩ | ⟨⟨h1, h2, h3, h4, h5⟩, e⟩
  · have HF := Lib.hid e
    clear e HK
    rcases h with rfl | rfl | rfl | rfl | rfl
    all_goals
      go_wp2
      go_ret
      exact ⟨ret_bool HF.out.symm, HB.out⟩
  · obtain ⟨kv, hkv⟩ : ∃ kv, kv = knoF k := ⟨_, rfl⟩
    rw [← hkv] at HK e
    have HF := Lib.hid e
    clear e hkv
    go_wp2_with fail
    refine HK.out.mono ?_
    rintro e w3 ⟨rfl, hb3⟩
    have HB3 := Lib.hid (HB.out.trans (hb3.mono HB.out.size))
    clear hb3
    go_wp2
    go_ret
    exact ⟨ret_bool HF.out.symm, HB3.out⟩

/-- the items of a kind -/
def itm (k : Int) : List UInt8 × Bool :=
  if k = 0 ∨ k = 1 ∨ k = 30 then ([], true)
  else if k = 2 then ([115], true)
  else if k = 3 then ([115, 101], true)
  else if k = 4 then ([105, 99, 110], true)
  else if k = 5 then ([105, 99], true)
  else if k = 6 then ([97, 100], true)
  else if k = 7 then ([100], true)
  else if k = 8 then ([105, 97, 100], true)
  else if k = 17 ∨ k = 21 then ([105, 110], true)
  else if k = 16 ∨ k = 18 ∨ k = 19 ∨ k = 20 ∨ k = 22 ∨ k = 23 ∨ k = 25 then ([110], true)
  else if k = 24 then ([110, 97, 107, 116], true)
  else if k = 26 ∨ k = 27 then ([112], true)
  else if k = 28 then ([99, 110, 100], true)
  else if k = 29 then ([99, 100], true)
  else ([], false)
def str (l : List UInt8) : ByteArray := ⟨l.toArray⟩
def StrR (w : World) (r : List UInt8 × Bool) (e : Ending) (w' : World) : Prop := e = .returned (.tuple #[.string (str r.1), .bool r.2]) ∧ w' = w
set_option maxRecDepth 100000 in
theorem itm_0 (w : World) : Calls Try.prog 24 #[.int .i64 0] w (StrR w (itm 0)) := by
  go_enter Try.func24, Try.ntmps24
  go_wp2
  go_ret2
  exact ⟨rfl, rfl⟩
set_option maxRecDepth 100000 in
theorem itm_1 (w : World) : Calls Try.prog 24 #[.int .i64 1] w (StrR w (itm 1)) := by
  go_enter Try.func24, Try.ntmps24
  go_wp2
  go_ret2
  exact ⟨rfl, rfl⟩
set_option maxRecDepth 100000 in
theorem itm_2 (w : World) : Calls Try.prog 24 #[.int .i64 2] w (StrR w (itm 2)) := by
  go_enter Try.func24, Try.ntmps24
  go_wp2
  go_ret2
  exact ⟨rfl, rfl⟩
set_option maxRecDepth 100000 in
theorem itm_3 (w : World) : Calls Try.prog 24 #[.int .i64 3] w (StrR w (itm 3)) := by
  go_enter Try.func24, Try.ntmps24
  go_wp2
  go_ret2
  exact ⟨rfl, rfl⟩
set_option maxRecDepth 100000 in
theorem itm_4 (w : World) : Calls Try.prog 24 #[.int .i64 4] w (StrR w (itm 4)) := by
  go_enter Try.func24, Try.ntmps24
  go_wp2
  go_ret2
  exact ⟨rfl, rfl⟩
set_option maxRecDepth 100000 in
theorem itm_5 (w : World) : Calls Try.prog 24 #[.int .i64 5] w (StrR w (itm 5)) := by
  go_enter Try.func24, Try.ntmps24
  go_wp2
  go_ret2
  exact ⟨rfl, rfl⟩
set_option maxRecDepth 100000 in
theorem itm_6 (w : World) : Calls Try.prog 24 #[.int .i64 6] w (StrR w (itm 6)) := by
  go_enter Try.func24, Try.ntmps24
  go_wp2
  go_ret2
  exact ⟨rfl, rfl⟩
set_option maxRecDepth 100000 in
theorem itm_7 (w : World) : Calls Try.prog 24 #[.int .i64 7] w (StrR w (itm 7)) := by
  go_enter Try.func24, Try.ntmps24
  go_wp2
  go_ret2
  exact ⟨rfl, rfl⟩
set_option maxRecDepth 100000 in
theorem itm_8 (w : World) : Calls Try.prog 24 #[.int .i64 8] w (StrR w (itm 8)) := by
  go_enter Try.func24, Try.ntmps24
  go_wp2
  go_ret2
  exact ⟨rfl, rfl⟩
set_option maxRecDepth 100000 in
theorem itm_16 (w : World) : Calls Try.prog 24 #[.int .i64 16] w (StrR w (itm 16)) := by
  go_enter Try.func24, Try.ntmps24
  go_wp2
  go_ret2
  exact ⟨rfl, rfl⟩
set_option maxRecDepth 100000 in
theorem itm_17 (w : World) : Calls Try.prog 24 #[.int .i64 17] w (StrR w (itm 17)) := by
  go_enter Try.func24, Try.ntmps24
  go_wp2
  go_ret2
  exact ⟨rfl, rfl⟩
set_option maxRecDepth 100000 in
theorem itm_18 (w : World) : Calls Try.prog 24 #[.int .i64 18] w (StrR w (itm 18)) := by
  go_enter Try.func24, Try.ntmps24
  go_wp2
  go_ret2
  exact ⟨rfl, rfl⟩
set_option maxRecDepth 100000 in
theorem itm_19 (w : World) : Calls Try.prog 24 #[.int .i64 19] w (StrR w (itm 19)) := by
  go_enter Try.func24, Try.ntmps24
  go_wp2
  go_ret2
  exact ⟨rfl, rfl⟩
set_option maxRecDepth 100000 in
theorem itm_20 (w : World) : Calls Try.prog 24 #[.int .i64 20] w (StrR w (itm 20)) := by
  go_enter Try.func24, Try.ntmps24
  go_wp2
  go_ret2
  exact ⟨rfl, rfl⟩
set_option maxRecDepth 100000 in
theorem itm_21 (w : World) : Calls Try.prog 24 #[.int .i64 21] w (StrR w (itm 21)) := by
  go_enter Try.func24, Try.ntmps24
  go_wp2
  go_ret2
  exact ⟨rfl, rfl⟩
set_option maxRecDepth 100000 in
theorem itm_22 (w : World) : Calls Try.prog 24 #[.int .i64 22] w (StrR w (itm 22)) := by
  go_enter Try.func24, Try.ntmps24
  go_wp2
  go_ret2
  exact ⟨rfl, rfl⟩
set_option maxRecDepth 100000 in
theorem itm_23 (w : World) : Calls Try.prog 24 #[.int .i64 23] w (StrR w (itm 23)) := by
  go_enter Try.func24, Try.ntmps24
  go_wp2
  go_ret2
  exact ⟨rfl, rfl⟩
set_option maxRecDepth 100000 in
theorem itm_24 (w : World) : Calls Try.prog 24 #[.int .i64 24] w (StrR w (itm 24)) := by
  go_enter Try.func24, Try.ntmps24
  go_wp2
  go_ret2
  exact ⟨rfl, rfl⟩
set_option maxRecDepth 100000 in
theorem itm_25 (w : World) : Calls Try.prog 24 #[.int .i64 25] w (StrR w (itm 25)) := by
  go_enter Try.func24, Try.ntmps24
  go_wp2
  go_ret2
  exact ⟨rfl, rfl⟩
set_option maxRecDepth 100000 in
theorem itm_26 (w : World) : Calls Try.prog 24 #[.int .i64 26] w (StrR w (itm 26)) := by
  go_enter Try.func24, Try.ntmps24
  go_wp2
  go_ret2
  exact ⟨rfl, rfl⟩
set_option maxRecDepth 100000 in
theorem itm_27 (w : World) : Calls Try.prog 24 #[.int .i64 27] w (StrR w (itm 27)) := by
  go_enter Try.func24, Try.ntmps24
  go_wp2
  go_ret2
  exact ⟨rfl, rfl⟩
set_option maxRecDepth 100000 in
theorem itm_28 (w : World) : Calls Try.prog 24 #[.int .i64 28] w (StrR w (itm 28)) := by
  go_enter Try.func24, Try.ntmps24
  go_wp2
  go_ret2
  exact ⟨rfl, rfl⟩
set_option maxRecDepth 100000 in
theorem itm_29 (w : World) : Calls Try.prog 24 #[.int .i64 29] w (StrR w (itm 29)) := by
  go_enter Try.func24, Try.ntmps24
  go_wp2
  go_ret2
  exact ⟨rfl, rfl⟩
set_option maxRecDepth 100000 in
theorem itm_30 (w : World) : Calls Try.prog 24 #[.int .i64 30] w (StrR w (itm 30)) := by
  go_enter Try.func24, Try.ntmps24
  go_wp2
  go_ret2
  exact ⟨rfl, rfl⟩
set_option maxRecDepth 100000 in
theorem itm_x (w : World) (k : Int) (hk : ¬ k = 0 ∧ ¬ k = 1 ∧ ¬ k = 2 ∧ ¬ k = 3 ∧ ¬ k = 4 ∧ ¬ k = 5 ∧ ¬ k = 6 ∧ ¬ k = 7 ∧ ¬ k = 8 ∧ ¬ k = 16 ∧ ¬ k = 17 ∧ ¬ k = 18 ∧ ¬ k = 19 ∧ ¬ k = 20 ∧ ¬ k = 21 ∧ ¬ k = 22 ∧ ¬ k = 23 ∧ ¬ k = 24 ∧ ¬ k = 25 ∧ ¬ k = 26 ∧ ¬ k = 27 ∧ ¬ k = 28 ∧ ¬ k = 29 ∧ ¬ k = 30) : Calls Try.prog 24 #[.int .i64 k] w (StrR w ([], false)) := by
  obtain ⟨h0, h1, h2, h3, h4, h5, h6, h7, h8, h16, h17, h18, h19, h20, h21, h22, h23, h24, h25, h26, h27, h28, h29, h30⟩ := hk
  go_enter Try.func24, Try.ntmps24
  go_wp2
  go_ret2
  exact ⟨rfl, rfl⟩
theorem items_any (w : World) (k : Int) : Calls Try.prog 24 #[.int .i64 k] w (StrR w (itm k)) := by
  by_cases hk : k = 0 ∨ k = 1 ∨ k = 2 ∨ k = 3 ∨ k = 4 ∨ k = 5 ∨ k = 6 ∨ k = 7 ∨ k = 8 ∨ k = 16 ∨ k = 17 ∨ k = 18 ∨ k = 19 ∨ k = 20 ∨ k = 21 ∨ k = 22 ∨ k = 23 ∨ k = 24 ∨ k = 25 ∨ k = 26 ∨ k = 27 ∨ k = 28 ∨ k = 29 ∨ k = 30
  · rcases hk with rfl | rfl | rfl | rfl | rfl | rfl | rfl | rfl | rfl | rfl | rfl | rfl | rfl | rfl | rfl | rfl | rfl | rfl | rfl | rfl | rfl | rfl | rfl | rfl
    · exact itm_0 w
    · exact itm_1 w
    · exact itm_2 w
    · exact itm_3 w
    · exact itm_4 w
    · exact itm_5 w
    · exact itm_6 w
    · exact itm_7 w
    · exact itm_8 w
    · exact itm_16 w
    · exact itm_17 w
    · exact itm_18 w
    · exact itm_19 w
    · exact itm_20 w
    · exact itm_21 w
    · exact itm_22 w
    · exact itm_23 w
    · exact itm_24 w
    · exact itm_25 w
    · exact itm_26 w
    · exact itm_27 w
    · exact itm_28 w
    · exact itm_29 w
    · exact itm_30 w
  · have e : itm k = ([], false) := by
      unfold itm
      rw [if_neg (by omega), if_neg (by omega), if_neg (by omega), if_neg (by omega), if_neg (by omega), if_neg (by omega), if_neg (by omega), if_neg (by omega), if_neg (by omega), if_neg (by omega), if_neg (by omega), if_neg (by omega), if_neg (by omega), if_neg (by omega)]
    rw [e]
    exact itm_x w k (by omega)
theorem itm_known (k : Int) : (itm k).2 = knoF k := by
  by_cases hk : k = 0 ∨ k = 1 ∨ k = 2 ∨ k = 3 ∨ k = 4 ∨ k = 5 ∨ k = 6 ∨ k = 7 ∨ k = 8 ∨ k = 16 ∨ k = 17 ∨ k = 18 ∨ k = 19 ∨ k = 20 ∨ k = 21 ∨ k = 22 ∨ k = 23 ∨ k = 24 ∨ k = 25 ∨ k = 26 ∨ k = 27 ∨ k = 28 ∨ k = 29 ∨ k = 30
  · rcases hk with rfl | rfl | rfl | rfl | rfl | rfl | rfl | rfl | rfl | rfl | rfl | rfl | rfl | rfl | rfl | rfl | rfl | rfl | rfl | rfl | rfl | rfl | rfl | rfl <;> rfl
  · have e : itm k = ([], false) := by
      unfold itm
      rw [if_neg (by omega), if_neg (by omega), if_neg (by omega), if_neg (by omega), if_neg (by omega), if_neg (by omega), if_neg (by omega), if_neg (by omega), if_neg (by omega), if_neg (by omega), if_neg (by omega), if_neg (by omega), if_neg (by omega), if_neg (by omega)]
    rw [e]
    unfold knoF
    simp
    omega
end Go.Proofs.Ytppkilkfmclpkaa

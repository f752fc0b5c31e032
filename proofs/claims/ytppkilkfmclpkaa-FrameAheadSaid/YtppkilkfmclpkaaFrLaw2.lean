/- FrameAhead answers true. -/
import Derived.Test.YtppkilkfmclpkaaFrLaw1
import Derived.Test.YtppkilkfmclpkaaFrLoc
namespace Go.Proofs.Ytppkilkfmclpkaa
open Go.RowKit

theorem ahj1 {x t : Nat} (h : t ≤ x) : ¬ (t : Int) < 0 ∧ ¬ (x : Int) < (t : Int) := by omega
theorem ahj2 {L : List (Fm × FA)} {fs : List Fm} (h : L.map (·.1) = fs) (h2 : fs ≠ []) : (0 : Int) < (L.length : Int) := by
  cases L with
  | nil => exact absurd h.symm h2
  | cons p r => simp only [List.length_cons]; omega
set_option maxRecDepth 100000 in
set_option maxHeartbeats 4000000 in
/-- FrameAhead -/
theorem ahead_any (w : World) {a : Option Addr} {n c : Nat} {l : List UInt8} (h : Sl w a n c (bv l)) (hn : n * 1 ≤ 140737488351232) : Calls Try.prog 7 #[.slice a n c] w (BoolOf w true) := by
  have hnl := h.byte
  have hnc := h.cap_le
  have hcm := h.cap_max
  have HCo := Lib.hid (copy_any w h (by omega))
  have HS := Lib.hid h
  have HN := Lib.hid hn
  have HNl := Lib.hid hnl
  obtain ⟨P1, P2⟩ := dec_ahead l
  have HP1 := Lib.hid P1
  have HP2 := Lib.hid P2
  clear h hn hnl P1 P2
  go_enter Try.func7, Try.ntmps7
  go_wp2_with fail
  refine HCo.out.mono ?_
  rintro e w2 ⟨a2, c2, rfl, ho2, hb2⟩
  have HD := Lib.hid (decode_any w2 (own_sl ho2))
  have HB2 := Lib.hid hb2
  clear ho2 hb2
  obtain ⟨r, hr⟩ : ∃ r, r = decV l := ⟨_, rfl⟩
  rw [← hr] at HD HP1 HP2
  obtain ⟨fs, t, er⟩ := r
  have HR := Lib.hid hr
  clear hr
  simp only at HP1 HP2
  go_wp2_with fail
  refine HD.out.mono ?_
  rintro e w3 ⟨a3, c3, L3, he, hrow3, hL3, hb3⟩
  obtain ⟨n3, hn3⟩ : ∃ n3, n3 = L3.length := ⟨_, rfl⟩
  obtain rfl : e = .returned (.tuple #[.slice a3 n3 c3, .int .i64 (t : Int), .int .i64 er]) := by rw [hn3]; exact he
  have HB3 := Lib.hid (HB2.out.trans (hb3.mono HB2.out.size))
  have HAw := Lib.hid (awake5_any w3)
  have HLen : Hid (er = 0 → (0 : Int) < (n3 : Int)) := Lib.hid (fun h0 => by rw [hn3]; exact ahj2 hL3 (HP1.out h0))
  clear hrow3 hL3 hb3 he hn3
  by_cases h0 : er = 0
  · have y1 := HLen.out h0
    subst h0
    go_wp2_with fail
    refine HAw.out.mono ?_
    rintro e w4 ⟨rfl, hb4⟩
    have HB4 := Lib.hid (HB3.out.trans (hb4.mono HB3.out.size))
    clear hb4
    go_wp2
    go_ret
    exact ⟨rfl, HB4.out⟩
  have y1 := onj11 h0
  obtain ⟨htl, hP⟩ := HP2.out h0
  by_cases ht0 : t = 0
  · subst ht0
    clear hP
    go_wp2_with fail
    refine HAw.out.mono ?_
    rintro e w4 ⟨rfl, hb4⟩
    have HB4 := Lib.hid (HB3.out.trans (hb4.mono HB3.out.size))
    clear hb4
    go_wp2
    go_ret
    exact ⟨rfl, HB4.out⟩
  obtain ⟨q1, q2, q3⟩ := hP ht0
  have htn : t ≤ n := by rw [← HNl.out]; exact htl
  have y2 := onj8 ht0
  obtain ⟨y3, y4⟩ := ahj1 htn
  have y5 : (t : Int) ≤ (c : Int) := by omega
  have HQ := Lib.hid (And.intro q1 (And.intro q2 q3))
  have HSt : Hid (Sl w3 a t c (bv (l.take t))) := Lib.hid (by rw [bv_take]; exact sl_take (HS.out.below HB3.out) htn)
  have HCo2 := Lib.hid (copy_any w3 HSt.out (by have := HN.out; omega))
  clear hP q1 q2 q3 htl
  go_wp2_with fail
  refine HCo2.out.mono ?_
  rintro e w4 ⟨a4, c4, he, ho4, hb4⟩
  have hlt : (l.take t).length = t := by rw [List.length_take]; have := HNl.out; omega
  have HD2 : Hid (Calls Try.prog 20 #[.slice a4 t c4] w4 (DecR w4 (decV (l.take t)))) := Lib.hid (by have h1 := decode_any w4 (own_sl ho4); rw [hlt] at h1; exact h1)
  obtain rfl : e = .returned (.slice a4 t c4) := by rw [he, hlt]
  clear he hlt
  have HB4 := Lib.hid (HB3.out.trans (hb4.mono HB3.out.size))
  obtain ⟨r2, hr2⟩ : ∃ r2, r2 = decV (l.take t) := ⟨_, rfl⟩
  rw [← hr2] at HD2
  have HQ2 := HQ.out
  rw [← hr2] at HQ2
  obtain ⟨fs2, t2, er2⟩ := r2
  obtain ⟨q1, q2, q3⟩ := HQ2
  simp only at q1 q2 q3
  subst q1; subst q2
  have HQ3 := Lib.hid q3
  clear ho4 hb4 hr2 q3
  go_wp2_with fail
  refine HD2.out.mono ?_
  rintro e w5 ⟨a5, c5, L5, he, hrow5, hL5, hb5⟩
  obtain ⟨n5, hn5⟩ : ∃ n5, n5 = L5.length := ⟨_, rfl⟩
  obtain rfl : e = .returned (.tuple #[.slice a5 n5 c5, .int .i64 0, .int .i64 0]) := by rw [hn5]; exact he
  have HB5 := Lib.hid (HB4.out.trans (hb5.mono HB4.out.size))
  have HAw5 := Lib.hid (awake5_any w5)
  have y6 : (0 : Int) < (n5 : Int) := by rw [hn5]; exact ahj2 hL5 HQ3.out
  clear hrow5 hL5 hb5 he hn5
  go_wp2_with fail
  refine HAw5.out.mono ?_
  rintro e w6 ⟨rfl, hb6⟩
  have HB6 := Lib.hid (HB5.out.trans (hb6.mono HB5.out.size))
  clear hb6
  go_wp2
  go_ret
  exact ⟨rfl, HB6.out⟩
end Go.Proofs.Ytppkilkfmclpkaa

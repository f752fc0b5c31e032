/- FrameDecodes answers true. -/
import Derived.Test.YtppkilkfmclpkaaFrAwk
import Derived.Test.YtppkilkfmclpkaaFrSm
import Derived.Test.YtppkilkfmclpkaaRdC
namespace Go.Proofs.Ytppkilkfmclpkaa
open Go.RowKit

set_option maxRecDepth 100000 in
set_option maxHeartbeats 4000000 in
/-- FrameDecodes -/
theorem decodes_any (w : World) {a : Option Addr} {n c : Nat} {l : List UInt8} (h : Sl w a n c (bv l)) (hn : n * 1 ≤ 140737488351232) : Calls Try.prog 4 #[.slice a n c] w (BoolOf w true) := by
  have HCo := Lib.hid (copy_any w h (by omega))
  have HS := Lib.hid h
  have HNl := Lib.hid h.byte
  clear h hn
  go_enter Try.func4, Try.ntmps4
  go_wp2_with fail
  refine HCo.out.mono ?_
  rintro e w2 ⟨a2, c2, he, ho2, hb2⟩
  obtain rfl : e = .returned (.slice a2 n c2) := by rw [he, HNl.out]
  have hs2 := own_sl ho2
  rw [HNl.out] at hs2
  have HS2 := Lib.hid hs2
  have HD := Lib.hid (decode_any w2 hs2)
  have HB2 := Lib.hid hb2
  clear ho2 hb2 he hs2
  obtain ⟨r, hr⟩ : ∃ r, r = decV l := ⟨_, rfl⟩
  rw [← hr] at HD
  have HR := Lib.hid hr
  clear hr
  obtain ⟨fs, t, er⟩ := r
  go_wp2_with fail
  refine HD.out.mono ?_
  rintro e w3 ⟨a3, c3, L3, he, hrow3, hL3, hb3⟩
  have HB3 := Lib.hid (HB2.out.trans (hb3.mono HB2.out.size))
  have HS3 := Lib.hid (HS2.out.below hb3)
  have HRd := Lib.hid (rdecode_any w3 (HS.out.below HB3.out))
  rw [← HR.out] at HRd
  have HRow3 := Lib.hid hrow3
  have HL3 := Lib.hid hL3
  obtain ⟨n3, hn3⟩ : ∃ n3, n3 = L3.length := ⟨_, rfl⟩
  obtain rfl : e = .returned (.tuple #[.slice a3 n3 c3, .int .i64 (t : Int), .int .i64 er]) := by rw [hn3]; exact he
  have HN3 := Lib.hid hn3
  clear hrow3 hL3 hb3 he hn3
  go_wp2_with fail
  refine HRd.out.mono ?_
  rintro e w4 ⟨a4, c4, L4, he, hrow4, hL4, hb4⟩
  have HB4 := Lib.hid (HB3.out.trans (hb4.mono HB3.out.size))
  have HS4 := Lib.hid (HS3.out.below hb4)
  have HRow34 := Lib.hid (HRow3.out.below hb4)
  have HRow4 := Lib.hid hrow4
  have HL4 := Lib.hid hL4
  obtain ⟨n4, hn4⟩ : ∃ n4, n4 = L4.length := ⟨_, rfl⟩
  obtain rfl : e = .returned (.tuple #[.slice a4 n4 c4, .int .i64 (t : Int), .int .i64 er]) := by rw [hn4]; exact he
  have HN4 := Lib.hid hn4
  have HAw := Lib.hid (awake5_any w4)
  clear hrow4 hL4 hb4 he hn4
  go_wp2_with fail
  refine HAw.out.mono ?_
  rintro e w5 ⟨rfl, hb5⟩
  have HB5 := Lib.hid (HB4.out.trans (hb5.mono HB4.out.size))
  have HS5 := Lib.hid (HS4.out.below hb5)
  have hsm := lsame_eq w5 (HRow34.out.below hb5) (HRow4.out.below hb5) (HL3.out.trans HL4.out.symm)
  rw [← HN3.out, ← HN4.out] at hsm
  have HSm := Lib.hid hsm
  clear hb5 hsm
  go_wp2_with fail
  refine HSm.out.mono ?_
  rintro e w6 ⟨rfl, hb6⟩
  have HB6 := Lib.hid (HB5.out.trans (hb6.mono HB5.out.size))
  have hss := same_any w6 (HS5.out.below hb6) (HS.out.below HB6.out)
  simp only [decide_true] at hss
  have HSs := Lib.hid hss
  clear hb6 hss
  go_wp2_with fail
  refine HSs.out.mono ?_
  rintro e w7 ⟨rfl, hb7⟩
  have HB7 := Lib.hid (HB6.out.trans (hb7.mono HB6.out.size))
  clear hb7
  go_wp2
  go_ret
  exact ⟨rfl, HB7.out⟩
end Go.Proofs.Ytppkilkfmclpkaa

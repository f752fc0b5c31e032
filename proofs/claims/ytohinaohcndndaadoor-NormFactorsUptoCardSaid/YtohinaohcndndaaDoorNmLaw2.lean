/- NormResponses answers true. Premises: the tables, the sizes. -/
import Derived.Test.YtohinaohcndndaaDoorNmLoc
import Derived.Test.YtohinaohcndndaaDoorNmAwk
namespace Go.Proofs.YtohinaohcndndaaDoor

open Go.RowKit

theorem sls_own2 {w : World} {B : Nat} {a : Option Addr} {c n : Nat} {l : List Fd} (h : Sps w B a c l) (hn : l.length = n) : SlS w a n c l := by subst hn; exact h.sl
set_option maxRecDepth 100000 in
set_option maxHeartbeats 4000000 in
theorem responses_any (w : World) (ht : Tabs w) (st : Int) (_ : -9223372036854775808 ≤ st) (_ : st ≤ 9223372036854775807) {a : Option Addr} {n c : Nat} {fs : List Fd} (h : SlS w a n c fs) (hz : fdz fs ≤ 1048576) :
    Calls Tryd.prog 8 #[.int .i64 st, .slice a n c] w (BoolOf w true) := by
  have HT := Lib.hid ht
  have HS := Lib.hid h
  have HL := Lib.hid h.len
  have HZ := Lib.hid hz
  have HM2 : Hid (n * 32 ≤ 140737488351232) := Lib.hid (by have := fdz_len fs; have := h.len; omega)
  have HCp := Lib.hid (copys_any w h HM2.out)
  obtain ⟨R, hR⟩ : ∃ R, R = respL st fs := ⟨_, rfl⟩
  have HR := Lib.hid hR
  clear ht h hz hR
  go_enter Tryd.func8, Tryd.ntmps8
  go_wp2_with fail
  refine HCp.out.mono ?_
  rintro e w2 ⟨a2, c2, he, ho2, hb2⟩
  obtain rfl : e = .returned (.slice a2 n c2) := by rw [he, HL.out]
  have HS2 : Hid (SlS w2 a2 n c2 fs) := Lib.hid (sls_own2 ho2 HL.out)
  have HB2 := Lib.hid hb2
  have HRs := Lib.hid (resp_any w2 st HS2.out HZ.out (HT.out.below hb2).pow)
  rw [← HR.out] at HRs
  clear ho2 hb2 he
  obtain ⟨l, er⟩ := R
  go_wp2_with fail
  refine HRs.out.mono ?_
  rintro e w3 ⟨a3, c3, he, hs3, hb3⟩
  obtain ⟨k, hk⟩ : ∃ k, l.length = k := ⟨_, rfl⟩
  obtain rfl : e = .returned (.tuple #[.slice a3 k c3, .int .i64 er]) := by rw [he]; simp only [hk]
  have HK := Lib.hid hk
  have HS3 : Hid (SlS w3 a3 k c3 l) := Lib.hid (sls_own2 hs3 hk)
  have HB3 : Hid (Below w.heap.size w w3) := Lib.hid (HB2.out.trans (hb3.mono HB2.out.size))
  have HS23 : Hid (SlS w3 a2 n c2 fs) := Lib.hid (HS2.out.below hb3)
  have HRr := Lib.hid (rresp_any w3 st (HS.out.below HB3.out) HZ.out)
  rw [← HR.out] at HRr
  clear hs3 hb3 he hk
  go_wp2_with fail
  refine HRr.out.mono ?_
  rintro e w4 ⟨a4, c4, he, hs4, hb4⟩
  obtain rfl : e = .returned (.tuple #[.slice a4 k c4, .int .i64 er]) := by rw [he]; simp only [HK.out]
  have HS4 : Hid (SlS w4 a4 k c4 l) := Lib.hid (sls_own2 hs4 HK.out)
  have HS34 : Hid (SlS w4 a3 k c3 l) := Lib.hid (HS3.out.below hb4)
  have HS24 : Hid (SlS w4 a2 n c2 fs) := Lib.hid (HS23.out.below hb4)
  have HB4 : Hid (Below w.heap.size w w4) := Lib.hid (HB3.out.trans (hb4.mono HB3.out.size))
  have HSm1 := Lib.hid (sames_eq w4 HS34.out HS4.out)
  clear hs4 hb4 he
  have er1 : (er != er) = false := by simp
  go_wp2_with fail
  refine HSm1.out.mono ?_
  rintro e w5 ⟨rfl, hb5⟩
  have HS25 : Hid (SlS w5 a2 n c2 fs) := Lib.hid (HS24.out.below hb5)
  have HB5 : Hid (Below w.heap.size w w5) := Lib.hid (HB4.out.trans (hb5.mono HB4.out.size))
  have HSm2 := Lib.hid (sames_eq w5 HS25.out (HS.out.below HB5.out))
  clear hb5
  go_wp2_with fail
  refine HSm2.out.mono ?_
  rintro e w6 ⟨rfl, hb6⟩
  have HB6 : Hid (Below w.heap.size w w6) := Lib.hid (HB5.out.trans (hb6.mono HB5.out.size))
  have HT6 := Lib.hid (HT.out.below HB6.out)
  clear hb6
  rcases loc_cases st with rfl | rfl | rfl | rfl | rfl | rfl | rfl | hno
  · have HLo := Lib.hid (loc_400 w6 HT6.out.pow)
    go_wp2_with fail
    refine HLo.out.mono ?_
    rintro e w7 ⟨a7, b7, g7, c7, he, hs7, hbt7, hb7⟩
    obtain rfl : e = .returned (.tuple #[.slice a7 3 b7, .slice (some ⟨g7, 0, none⟩) 11 c7, .int .i64 0]) := he
    have HS7 : Hid (SlS w7 a7 3 b7 (locF 400)) := Lib.hid (sls_own2 hs7 rfl)
    have HBt7 := Lib.hid hbt7
    have HB7 : Hid (Below w.heap.size w w7) := Lib.hid (HB6.out.trans (hb7.mono HB6.out.size))
    have HRl := Lib.hid (rloc_400 w7)
    clear hs7 hbt7 hb7
    go_wp2_with fail
    refine HRl.out.mono ?_
    rintro e w8 ⟨rfl, rfl⟩
    have hne1 : ((strB (locT 400)).toList == []) = false := by decide +kernel
    have hne2 : (strB (locT 400)).toList.isEmpty = false := by decide +kernel
    have hcv : (convert 28 9 (.slice (some ⟨g7, 0, none⟩) 11 c7)).run Tryd.prog w8 = .ok (.string (strB (locT 400))) w8 := run_convert_bytes_back (P := Tryd.prog) w8 28 9 5 ⟨g7, 0, none⟩ c7 (locT 400) Tryd.underlying28 Tryd.underlying5 Tryd.underlying9 (fun j hj => by
      rw [addr_add, Nat.zero_add]
      exact HBt7.out.cell j hj)
    have hsz : (strB (locT 400)).size = 11 := rfl
    have HD1 := Lib.hid (digits_any w8 400 (by decide))
    go_wp2_with fail
    refine HD1.out.mono ?_
    rintro e w9 ⟨rfl, hb9⟩
    have HS9 := Lib.hid (HS7.out.below hb9)
    have HB9 : Hid (Below w.heap.size w w9) := Lib.hid (HB7.out.trans (hb9.mono HB7.out.size))
    have HD2 := Lib.hid (digits_any w9 11 (by decide))
    clear hb9 hcv
    go_wp2_with fail
    refine HD2.out.mono ?_
    rintro e w10 ⟨rfl, hb10⟩
    have HS10 := Lib.hid (HS9.out.below hb10)
    have HB10 : Hid (Below w.heap.size w w10) := Lib.hid (HB9.out.trans (hb10.mono HB9.out.size))
    clear hb10
    have HE : Hid ((sv (locF 400)).toArray = #[.string ⟨#[58, 115, 116, 97, 116, 117, 115]⟩, .string (strB (Lib.decDigits 400)), .string ⟨#[99, 111, 110, 116, 101, 110, 116, 45, 116, 121, 112, 101]⟩, .string ⟨#[116, 101, 120, 116, 47, 112, 108, 97, 105, 110]⟩, .string ⟨#[99, 111, 110, 116, 101, 110, 116, 45, 108, 101, 110, 103, 116, 104]⟩, .string (strB (Lib.decDigits 11))]) := Lib.hid (by
      have e1 := itoa_nat 400
      have e2 := itoa_nat 11
      simp only [locF, statF, sv, scells, show (((locT 400).length : Nat) : Int) = ((11 : Nat) : Int) from rfl, e2]
      rw [show Lib.itoa 400 = Lib.decDigits 400 from e1]
      rfl)
    have hn11 := sps_new w10 (locF 400) (by decide) (by decide)
    rw [HE.out] at hn11
    have hal : Below w10.heap.size w10 (w10.alloc (.cells #[.string ⟨#[58, 115, 116, 97, 116, 117, 115]⟩, .string (strB (Lib.decDigits 400)), .string ⟨#[99, 111, 110, 116, 101, 110, 116, 45, 116, 121, 112, 101]⟩, .string ⟨#[116, 101, 120, 116, 47, 112, 108, 97, 105, 110]⟩, .string ⟨#[99, 111, 110, 116, 101, 110, 116, 45, 108, 101, 110, 103, 116, 104]⟩, .string (strB (Lib.decDigits 11))] 64)) := (Below.refl _ w10).alloc (Nat.le_refl _) _
    have HSm3 := Lib.hid (sames_eq _ (HS10.out.below hal) (sls_own2 hn11 rfl))
    have HBa := Lib.hid hal
    clear hn11 hal
    go_wp2_with fail
    refine HSm3.out.mono ?_
    rintro e w12 ⟨rfl, hb12⟩
    have HB12 : Hid (Below w.heap.size w w12) := Lib.hid (HB10.out.trans ((HBa.out.trans (hb12.mono HBa.out.size)).mono HB10.out.size))
    have HAw := Lib.hid (awake19_any w12 (HT.out.below HB12.out))
    clear hb12
    go_wp2_with fail
    refine HAw.out.mono ?_
    rintro e w13 ⟨rfl, hb13⟩
    have HB13 : Hid (Below w.heap.size w w13) := Lib.hid (HB12.out.trans (hb13.mono HB12.out.size))
    clear hb13
    go_wp2
    go_ret
    exact ⟨rfl, HB13.out⟩
  · have HLo := Lib.hid (loc_413 w6 HT6.out.pow)
    go_wp2_with fail
    refine HLo.out.mono ?_
    rintro e w7 ⟨a7, b7, g7, c7, he, hs7, hbt7, hb7⟩
    obtain rfl : e = .returned (.tuple #[.slice a7 3 b7, .slice (some ⟨g7, 0, none⟩) 9 c7, .int .i64 0]) := he
    have HS7 : Hid (SlS w7 a7 3 b7 (locF 413)) := Lib.hid (sls_own2 hs7 rfl)
    have HBt7 := Lib.hid hbt7
    have HB7 : Hid (Below w.heap.size w w7) := Lib.hid (HB6.out.trans (hb7.mono HB6.out.size))
    have HRl := Lib.hid (rloc_413 w7)
    clear hs7 hbt7 hb7
    go_wp2_with fail
    refine HRl.out.mono ?_
    rintro e w8 ⟨rfl, rfl⟩
    have hne1 : ((strB (locT 413)).toList == []) = false := by decide +kernel
    have hne2 : (strB (locT 413)).toList.isEmpty = false := by decide +kernel
    have hcv : (convert 28 9 (.slice (some ⟨g7, 0, none⟩) 9 c7)).run Tryd.prog w8 = .ok (.string (strB (locT 413))) w8 := run_convert_bytes_back (P := Tryd.prog) w8 28 9 5 ⟨g7, 0, none⟩ c7 (locT 413) Tryd.underlying28 Tryd.underlying5 Tryd.underlying9 (fun j hj => by
      rw [addr_add, Nat.zero_add]
      exact HBt7.out.cell j hj)
    have hsz : (strB (locT 413)).size = 9 := rfl
    have HD1 := Lib.hid (digits_any w8 413 (by decide))
    go_wp2_with fail
    refine HD1.out.mono ?_
    rintro e w9 ⟨rfl, hb9⟩
    have HS9 := Lib.hid (HS7.out.below hb9)
    have HB9 : Hid (Below w.heap.size w w9) := Lib.hid (HB7.out.trans (hb9.mono HB7.out.size))
    have HD2 := Lib.hid (digits_any w9 9 (by decide))
    clear hb9 hcv
    go_wp2_with fail
    refine HD2.out.mono ?_
    rintro e w10 ⟨rfl, hb10⟩
    have HS10 := Lib.hid (HS9.out.below hb10)
    have HB10 : Hid (Below w.heap.size w w10) := Lib.hid (HB9.out.trans (hb10.mono HB9.out.size))
    clear hb10
    have HE : Hid ((sv (locF 413)).toArray = #[.string ⟨#[58, 115, 116, 97, 116, 117, 115]⟩, .string (strB (Lib.decDigits 413)), .string ⟨#[99, 111, 110, 116, 101, 110, 116, 45, 116, 121, 112, 101]⟩, .string ⟨#[116, 101, 120, 116, 47, 112, 108, 97, 105, 110]⟩, .string ⟨#[99, 111, 110, 116, 101, 110, 116, 45, 108, 101, 110, 103, 116, 104]⟩, .string (strB (Lib.decDigits 9))]) := Lib.hid (by
      have e1 := itoa_nat 413
      have e2 := itoa_nat 9
      simp only [locF, statF, sv, scells, show (((locT 413).length : Nat) : Int) = ((9 : Nat) : Int) from rfl, e2]
      rw [show Lib.itoa 413 = Lib.decDigits 413 from e1]
      rfl)
    have hn11 := sps_new w10 (locF 413) (by decide) (by decide)
    rw [HE.out] at hn11
    have hal : Below w10.heap.size w10 (w10.alloc (.cells #[.string ⟨#[58, 115, 116, 97, 116, 117, 115]⟩, .string (strB (Lib.decDigits 413)), .string ⟨#[99, 111, 110, 116, 101, 110, 116, 45, 116, 121, 112, 101]⟩, .string ⟨#[116, 101, 120, 116, 47, 112, 108, 97, 105, 110]⟩, .string ⟨#[99, 111, 110, 116, 101, 110, 116, 45, 108, 101, 110, 103, 116, 104]⟩, .string (strB (Lib.decDigits 9))] 64)) := (Below.refl _ w10).alloc (Nat.le_refl _) _
    have HSm3 := Lib.hid (sames_eq _ (HS10.out.below hal) (sls_own2 hn11 rfl))
    have HBa := Lib.hid hal
    clear hn11 hal
    go_wp2_with fail
    refine HSm3.out.mono ?_
    rintro e w12 ⟨rfl, hb12⟩
    have HB12 : Hid (Below w.heap.size w w12) := Lib.hid (HB10.out.trans ((HBa.out.trans (hb12.mono HBa.out.size)).mono HB10.out.size))
    have HAw := Lib.hid (awake19_any w12 (HT.out.below HB12.out))
    clear hb12
    go_wp2_with fail
    refine HAw.out.mono ?_
    rintro e w13 ⟨rfl, hb13⟩
    have HB13 : Hid (Below w.heap.size w w13) := Lib.hid (HB12.out.trans (hb13.mono HB12.out.size))
    clear hb13
    go_wp2
    go_ret
    exact ⟨rfl, HB13.out⟩
  · have HLo := Lib.hid (loc_431 w6 HT6.out.pow)
    go_wp2_with fail
    refine HLo.out.mono ?_
    rintro e w7 ⟨a7, b7, g7, c7, he, hs7, hbt7, hb7⟩
    obtain rfl : e = .returned (.tuple #[.slice a7 3 b7, .slice (some ⟨g7, 0, none⟩) 16 c7, .int .i64 0]) := he
    have HS7 : Hid (SlS w7 a7 3 b7 (locF 431)) := Lib.hid (sls_own2 hs7 rfl)
    have HBt7 := Lib.hid hbt7
    have HB7 : Hid (Below w.heap.size w w7) := Lib.hid (HB6.out.trans (hb7.mono HB6.out.size))
    have HRl := Lib.hid (rloc_431 w7)
    clear hs7 hbt7 hb7
    go_wp2_with fail
    refine HRl.out.mono ?_
    rintro e w8 ⟨rfl, rfl⟩
    have hne1 : ((strB (locT 431)).toList == []) = false := by decide +kernel
    have hne2 : (strB (locT 431)).toList.isEmpty = false := by decide +kernel
    have hcv : (convert 28 9 (.slice (some ⟨g7, 0, none⟩) 16 c7)).run Tryd.prog w8 = .ok (.string (strB (locT 431))) w8 := run_convert_bytes_back (P := Tryd.prog) w8 28 9 5 ⟨g7, 0, none⟩ c7 (locT 431) Tryd.underlying28 Tryd.underlying5 Tryd.underlying9 (fun j hj => by
      rw [addr_add, Nat.zero_add]
      exact HBt7.out.cell j hj)
    have hsz : (strB (locT 431)).size = 16 := rfl
    have HD1 := Lib.hid (digits_any w8 431 (by decide))
    go_wp2_with fail
    refine HD1.out.mono ?_
    rintro e w9 ⟨rfl, hb9⟩
    have HS9 := Lib.hid (HS7.out.below hb9)
    have HB9 : Hid (Below w.heap.size w w9) := Lib.hid (HB7.out.trans (hb9.mono HB7.out.size))
    have HD2 := Lib.hid (digits_any w9 16 (by decide))
    clear hb9 hcv
    go_wp2_with fail
    refine HD2.out.mono ?_
    rintro e w10 ⟨rfl, hb10⟩
    have HS10 := Lib.hid (HS9.out.below hb10)
    have HB10 : Hid (Below w.heap.size w w10) := Lib.hid (HB9.out.trans (hb10.mono HB9.out.size))
    clear hb10
    have HE : Hid ((sv (locF 431)).toArray = #[.string ⟨#[58, 115, 116, 97, 116, 117, 115]⟩, .string (strB (Lib.decDigits 431)), .string ⟨#[99, 111, 110, 116, 101, 110, 116, 45, 116, 121, 112, 101]⟩, .string ⟨#[116, 101, 120, 116, 47, 112, 108, 97, 105, 110]⟩, .string ⟨#[99, 111, 110, 116, 101, 110, 116, 45, 108, 101, 110, 103, 116, 104]⟩, .string (strB (Lib.decDigits 16))]) := Lib.hid (by
      have e1 := itoa_nat 431
      have e2 := itoa_nat 16
      simp only [locF, statF, sv, scells, show (((locT 431).length : Nat) : Int) = ((16 : Nat) : Int) from rfl, e2]
      rw [show Lib.itoa 431 = Lib.decDigits 431 from e1]
      rfl)
    have hn11 := sps_new w10 (locF 431) (by decide) (by decide)
    rw [HE.out] at hn11
    have hal : Below w10.heap.size w10 (w10.alloc (.cells #[.string ⟨#[58, 115, 116, 97, 116, 117, 115]⟩, .string (strB (Lib.decDigits 431)), .string ⟨#[99, 111, 110, 116, 101, 110, 116, 45, 116, 121, 112, 101]⟩, .string ⟨#[116, 101, 120, 116, 47, 112, 108, 97, 105, 110]⟩, .string ⟨#[99, 111, 110, 116, 101, 110, 116, 45, 108, 101, 110, 103, 116, 104]⟩, .string (strB (Lib.decDigits 16))] 64)) := (Below.refl _ w10).alloc (Nat.le_refl _) _
    have HSm3 := Lib.hid (sames_eq _ (HS10.out.below hal) (sls_own2 hn11 rfl))
    have HBa := Lib.hid hal
    clear hn11 hal
    go_wp2_with fail
    refine HSm3.out.mono ?_
    rintro e w12 ⟨rfl, hb12⟩
    have HB12 : Hid (Below w.heap.size w w12) := Lib.hid (HB10.out.trans ((HBa.out.trans (hb12.mono HBa.out.size)).mono HB10.out.size))
    have HAw := Lib.hid (awake19_any w12 (HT.out.below HB12.out))
    clear hb12
    go_wp2_with fail
    refine HAw.out.mono ?_
    rintro e w13 ⟨rfl, hb13⟩
    have HB13 : Hid (Below w.heap.size w w13) := Lib.hid (HB12.out.trans (hb13.mono HB12.out.size))
    clear hb13
    go_wp2
    go_ret
    exact ⟨rfl, HB13.out⟩
  · have HLo := Lib.hid (loc_501 w6 HT6.out.pow)
    go_wp2_with fail
    refine HLo.out.mono ?_
    rintro e w7 ⟨a7, b7, g7, c7, he, hs7, hbt7, hb7⟩
    obtain rfl : e = .returned (.tuple #[.slice a7 3 b7, .slice (some ⟨g7, 0, none⟩) 15 c7, .int .i64 0]) := he
    have HS7 : Hid (SlS w7 a7 3 b7 (locF 501)) := Lib.hid (sls_own2 hs7 rfl)
    have HBt7 := Lib.hid hbt7
    have HB7 : Hid (Below w.heap.size w w7) := Lib.hid (HB6.out.trans (hb7.mono HB6.out.size))
    have HRl := Lib.hid (rloc_501 w7)
    clear hs7 hbt7 hb7
    go_wp2_with fail
    refine HRl.out.mono ?_
    rintro e w8 ⟨rfl, rfl⟩
    have hne1 : ((strB (locT 501)).toList == []) = false := by decide +kernel
    have hne2 : (strB (locT 501)).toList.isEmpty = false := by decide +kernel
    have hcv : (convert 28 9 (.slice (some ⟨g7, 0, none⟩) 15 c7)).run Tryd.prog w8 = .ok (.string (strB (locT 501))) w8 := run_convert_bytes_back (P := Tryd.prog) w8 28 9 5 ⟨g7, 0, none⟩ c7 (locT 501) Tryd.underlying28 Tryd.underlying5 Tryd.underlying9 (fun j hj => by
      rw [addr_add, Nat.zero_add]
      exact HBt7.out.cell j hj)
    have hsz : (strB (locT 501)).size = 15 := rfl
    have HD1 := Lib.hid (digits_any w8 501 (by decide))
    go_wp2_with fail
    refine HD1.out.mono ?_
    rintro e w9 ⟨rfl, hb9⟩
    have HS9 := Lib.hid (HS7.out.below hb9)
    have HB9 : Hid (Below w.heap.size w w9) := Lib.hid (HB7.out.trans (hb9.mono HB7.out.size))
    have HD2 := Lib.hid (digits_any w9 15 (by decide))
    clear hb9 hcv
    go_wp2_with fail
    refine HD2.out.mono ?_
    rintro e w10 ⟨rfl, hb10⟩
    have HS10 := Lib.hid (HS9.out.below hb10)
    have HB10 : Hid (Below w.heap.size w w10) := Lib.hid (HB9.out.trans (hb10.mono HB9.out.size))
    clear hb10
    have HE : Hid ((sv (locF 501)).toArray = #[.string ⟨#[58, 115, 116, 97, 116, 117, 115]⟩, .string (strB (Lib.decDigits 501)), .string ⟨#[99, 111, 110, 116, 101, 110, 116, 45, 116, 121, 112, 101]⟩, .string ⟨#[116, 101, 120, 116, 47, 112, 108, 97, 105, 110]⟩, .string ⟨#[99, 111, 110, 116, 101, 110, 116, 45, 108, 101, 110, 103, 116, 104]⟩, .string (strB (Lib.decDigits 15))]) := Lib.hid (by
      have e1 := itoa_nat 501
      have e2 := itoa_nat 15
      simp only [locF, statF, sv, scells, show (((locT 501).length : Nat) : Int) = ((15 : Nat) : Int) from rfl, e2]
      rw [show Lib.itoa 501 = Lib.decDigits 501 from e1]
      rfl)
    have hn11 := sps_new w10 (locF 501) (by decide) (by decide)
    rw [HE.out] at hn11
    have hal : Below w10.heap.size w10 (w10.alloc (.cells #[.string ⟨#[58, 115, 116, 97, 116, 117, 115]⟩, .string (strB (Lib.decDigits 501)), .string ⟨#[99, 111, 110, 116, 101, 110, 116, 45, 116, 121, 112, 101]⟩, .string ⟨#[116, 101, 120, 116, 47, 112, 108, 97, 105, 110]⟩, .string ⟨#[99, 111, 110, 116, 101, 110, 116, 45, 108, 101, 110, 103, 116, 104]⟩, .string (strB (Lib.decDigits 15))] 64)) := (Below.refl _ w10).alloc (Nat.le_refl _) _
    have HSm3 := Lib.hid (sames_eq _ (HS10.out.below hal) (sls_own2 hn11 rfl))
    have HBa := Lib.hid hal
    clear hn11 hal
    go_wp2_with fail
    refine HSm3.out.mono ?_
    rintro e w12 ⟨rfl, hb12⟩
    have HB12 : Hid (Below w.heap.size w w12) := Lib.hid (HB10.out.trans ((HBa.out.trans (hb12.mono HBa.out.size)).mono HB10.out.size))
    have HAw := Lib.hid (awake19_any w12 (HT.out.below HB12.out))
    clear hb12
    go_wp2_with fail
    refine HAw.out.mono ?_
    rintro e w13 ⟨rfl, hb13⟩
    have HB13 : Hid (Below w.heap.size w w13) := Lib.hid (HB12.out.trans (hb13.mono HB12.out.size))
    clear hb13
    go_wp2
    go_ret
    exact ⟨rfl, HB13.out⟩
  · have HLo := Lib.hid (loc_502 w6 HT6.out.pow)
    go_wp2_with fail
    refine HLo.out.mono ?_
    rintro e w7 ⟨a7, b7, g7, c7, he, hs7, hbt7, hb7⟩
    obtain rfl : e = .returned (.tuple #[.slice a7 3 b7, .slice (some ⟨g7, 0, none⟩) 11 c7, .int .i64 0]) := he
    have HS7 : Hid (SlS w7 a7 3 b7 (locF 502)) := Lib.hid (sls_own2 hs7 rfl)
    have HBt7 := Lib.hid hbt7
    have HB7 : Hid (Below w.heap.size w w7) := Lib.hid (HB6.out.trans (hb7.mono HB6.out.size))
    have HRl := Lib.hid (rloc_502 w7)
    clear hs7 hbt7 hb7
    go_wp2_with fail
    refine HRl.out.mono ?_
    rintro e w8 ⟨rfl, rfl⟩
    have hne1 : ((strB (locT 502)).toList == []) = false := by decide +kernel
    have hne2 : (strB (locT 502)).toList.isEmpty = false := by decide +kernel
    have hcv : (convert 28 9 (.slice (some ⟨g7, 0, none⟩) 11 c7)).run Tryd.prog w8 = .ok (.string (strB (locT 502))) w8 := run_convert_bytes_back (P := Tryd.prog) w8 28 9 5 ⟨g7, 0, none⟩ c7 (locT 502) Tryd.underlying28 Tryd.underlying5 Tryd.underlying9 (fun j hj => by
      rw [addr_add, Nat.zero_add]
      exact HBt7.out.cell j hj)
    have hsz : (strB (locT 502)).size = 11 := rfl
    have HD1 := Lib.hid (digits_any w8 502 (by decide))
    go_wp2_with fail
    refine HD1.out.mono ?_
    rintro e w9 ⟨rfl, hb9⟩
    have HS9 := Lib.hid (HS7.out.below hb9)
    have HB9 : Hid (Below w.heap.size w w9) := Lib.hid (HB7.out.trans (hb9.mono HB7.out.size))
    have HD2 := Lib.hid (digits_any w9 11 (by decide))
    clear hb9 hcv
    go_wp2_with fail
    refine HD2.out.mono ?_
    rintro e w10 ⟨rfl, hb10⟩
    have HS10 := Lib.hid (HS9.out.below hb10)
    have HB10 : Hid (Below w.heap.size w w10) := Lib.hid (HB9.out.trans (hb10.mono HB9.out.size))
    clear hb10
    have HE : Hid ((sv (locF 502)).toArray = #[.string ⟨#[58, 115, 116, 97, 116, 117, 115]⟩, .string (strB (Lib.decDigits 502)), .string ⟨#[99, 111, 110, 116, 101, 110, 116, 45, 116, 121, 112, 101]⟩, .string ⟨#[116, 101, 120, 116, 47, 112, 108, 97, 105, 110]⟩, .string ⟨#[99, 111, 110, 116, 101, 110, 116, 45, 108, 101, 110, 103, 116, 104]⟩, .string (strB (Lib.decDigits 11))]) := Lib.hid (by
      have e1 := itoa_nat 502
      have e2 := itoa_nat 11
      simp only [locF, statF, sv, scells, show (((locT 502).length : Nat) : Int) = ((11 : Nat) : Int) from rfl, e2]
      rw [show Lib.itoa 502 = Lib.decDigits 502 from e1]
      rfl)
    have hn11 := sps_new w10 (locF 502) (by decide) (by decide)
    rw [HE.out] at hn11
    have hal : Below w10.heap.size w10 (w10.alloc (.cells #[.string ⟨#[58, 115, 116, 97, 116, 117, 115]⟩, .string (strB (Lib.decDigits 502)), .string ⟨#[99, 111, 110, 116, 101, 110, 116, 45, 116, 121, 112, 101]⟩, .string ⟨#[116, 101, 120, 116, 47, 112, 108, 97, 105, 110]⟩, .string ⟨#[99, 111, 110, 116, 101, 110, 116, 45, 108, 101, 110, 103, 116, 104]⟩, .string (strB (Lib.decDigits 11))] 64)) := (Below.refl _ w10).alloc (Nat.le_refl _) _
    have HSm3 := Lib.hid (sames_eq _ (HS10.out.below hal) (sls_own2 hn11 rfl))
    have HBa := Lib.hid hal
    clear hn11 hal
    go_wp2_with fail
    refine HSm3.out.mono ?_
    rintro e w12 ⟨rfl, hb12⟩
    have HB12 : Hid (Below w.heap.size w w12) := Lib.hid (HB10.out.trans ((HBa.out.trans (hb12.mono HBa.out.size)).mono HB10.out.size))
    have HAw := Lib.hid (awake19_any w12 (HT.out.below HB12.out))
    clear hb12
    go_wp2_with fail
    refine HAw.out.mono ?_
    rintro e w13 ⟨rfl, hb13⟩
    have HB13 : Hid (Below w.heap.size w w13) := Lib.hid (HB12.out.trans (hb13.mono HB12.out.size))
    clear hb13
    go_wp2
    go_ret
    exact ⟨rfl, HB13.out⟩
  · have HLo := Lib.hid (loc_503 w6 HT6.out.pow)
    go_wp2_with fail
    refine HLo.out.mono ?_
    rintro e w7 ⟨a7, b7, g7, c7, he, hs7, hbt7, hb7⟩
    obtain rfl : e = .returned (.tuple #[.slice a7 3 b7, .slice (some ⟨g7, 0, none⟩) 11 c7, .int .i64 0]) := he
    have HS7 : Hid (SlS w7 a7 3 b7 (locF 503)) := Lib.hid (sls_own2 hs7 rfl)
    have HBt7 := Lib.hid hbt7
    have HB7 : Hid (Below w.heap.size w w7) := Lib.hid (HB6.out.trans (hb7.mono HB6.out.size))
    have HRl := Lib.hid (rloc_503 w7)
    clear hs7 hbt7 hb7
    go_wp2_with fail
    refine HRl.out.mono ?_
    rintro e w8 ⟨rfl, rfl⟩
    have hne1 : ((strB (locT 503)).toList == []) = false := by decide +kernel
    have hne2 : (strB (locT 503)).toList.isEmpty = false := by decide +kernel
    have hcv : (convert 28 9 (.slice (some ⟨g7, 0, none⟩) 11 c7)).run Tryd.prog w8 = .ok (.string (strB (locT 503))) w8 := run_convert_bytes_back (P := Tryd.prog) w8 28 9 5 ⟨g7, 0, none⟩ c7 (locT 503) Tryd.underlying28 Tryd.underlying5 Tryd.underlying9 (fun j hj => by
      rw [addr_add, Nat.zero_add]
      exact HBt7.out.cell j hj)
    have hsz : (strB (locT 503)).size = 11 := rfl
    have HD1 := Lib.hid (digits_any w8 503 (by decide))
    go_wp2_with fail
    refine HD1.out.mono ?_
    rintro e w9 ⟨rfl, hb9⟩
    have HS9 := Lib.hid (HS7.out.below hb9)
    have HB9 : Hid (Below w.heap.size w w9) := Lib.hid (HB7.out.trans (hb9.mono HB7.out.size))
    have HD2 := Lib.hid (digits_any w9 11 (by decide))
    clear hb9 hcv
    go_wp2_with fail
    refine HD2.out.mono ?_
    rintro e w10 ⟨rfl, hb10⟩
    have HS10 := Lib.hid (HS9.out.below hb10)
    have HB10 : Hid (Below w.heap.size w w10) := Lib.hid (HB9.out.trans (hb10.mono HB9.out.size))
    clear hb10
    have HE : Hid ((sv (locF 503)).toArray = #[.string ⟨#[58, 115, 116, 97, 116, 117, 115]⟩, .string (strB (Lib.decDigits 503)), .string ⟨#[99, 111, 110, 116, 101, 110, 116, 45, 116, 121, 112, 101]⟩, .string ⟨#[116, 101, 120, 116, 47, 112, 108, 97, 105, 110]⟩, .string ⟨#[99, 111, 110, 116, 101, 110, 116, 45, 108, 101, 110, 103, 116, 104]⟩, .string (strB (Lib.decDigits 11))]) := Lib.hid (by
      have e1 := itoa_nat 503
      have e2 := itoa_nat 11
      simp only [locF, statF, sv, scells, show (((locT 503).length : Nat) : Int) = ((11 : Nat) : Int) from rfl, e2]
      rw [show Lib.itoa 503 = Lib.decDigits 503 from e1]
      rfl)
    have hn11 := sps_new w10 (locF 503) (by decide) (by decide)
    rw [HE.out] at hn11
    have hal : Below w10.heap.size w10 (w10.alloc (.cells #[.string ⟨#[58, 115, 116, 97, 116, 117, 115]⟩, .string (strB (Lib.decDigits 503)), .string ⟨#[99, 111, 110, 116, 101, 110, 116, 45, 116, 121, 112, 101]⟩, .string ⟨#[116, 101, 120, 116, 47, 112, 108, 97, 105, 110]⟩, .string ⟨#[99, 111, 110, 116, 101, 110, 116, 45, 108, 101, 110, 103, 116, 104]⟩, .string (strB (Lib.decDigits 11))] 64)) := (Below.refl _ w10).alloc (Nat.le_refl _) _
    have HSm3 := Lib.hid (sames_eq _ (HS10.out.below hal) (sls_own2 hn11 rfl))
    have HBa := Lib.hid hal
    clear hn11 hal
    go_wp2_with fail
    refine HSm3.out.mono ?_
    rintro e w12 ⟨rfl, hb12⟩
    have HB12 : Hid (Below w.heap.size w w12) := Lib.hid (HB10.out.trans ((HBa.out.trans (hb12.mono HBa.out.size)).mono HB10.out.size))
    have HAw := Lib.hid (awake19_any w12 (HT.out.below HB12.out))
    clear hb12
    go_wp2_with fail
    refine HAw.out.mono ?_
    rintro e w13 ⟨rfl, hb13⟩
    have HB13 : Hid (Below w.heap.size w w13) := Lib.hid (HB12.out.trans (hb13.mono HB12.out.size))
    clear hb13
    go_wp2
    go_ret
    exact ⟨rfl, HB13.out⟩
  · have HLo := Lib.hid (loc_504 w6 HT6.out.pow)
    go_wp2_with fail
    refine HLo.out.mono ?_
    rintro e w7 ⟨a7, b7, g7, c7, he, hs7, hbt7, hb7⟩
    obtain rfl : e = .returned (.tuple #[.slice a7 3 b7, .slice (some ⟨g7, 0, none⟩) 7 c7, .int .i64 0]) := he
    have HS7 : Hid (SlS w7 a7 3 b7 (locF 504)) := Lib.hid (sls_own2 hs7 rfl)
    have HBt7 := Lib.hid hbt7
    have HB7 : Hid (Below w.heap.size w w7) := Lib.hid (HB6.out.trans (hb7.mono HB6.out.size))
    have HRl := Lib.hid (rloc_504 w7)
    clear hs7 hbt7 hb7
    go_wp2_with fail
    refine HRl.out.mono ?_
    rintro e w8 ⟨rfl, rfl⟩
    have hne1 : ((strB (locT 504)).toList == []) = false := by decide +kernel
    have hne2 : (strB (locT 504)).toList.isEmpty = false := by decide +kernel
    have hcv : (convert 28 9 (.slice (some ⟨g7, 0, none⟩) 7 c7)).run Tryd.prog w8 = .ok (.string (strB (locT 504))) w8 := run_convert_bytes_back (P := Tryd.prog) w8 28 9 5 ⟨g7, 0, none⟩ c7 (locT 504) Tryd.underlying28 Tryd.underlying5 Tryd.underlying9 (fun j hj => by
      rw [addr_add, Nat.zero_add]
      exact HBt7.out.cell j hj)
    have hsz : (strB (locT 504)).size = 7 := rfl
    have HD1 := Lib.hid (digits_any w8 504 (by decide))
    go_wp2_with fail
    refine HD1.out.mono ?_
    rintro e w9 ⟨rfl, hb9⟩
    have HS9 := Lib.hid (HS7.out.below hb9)
    have HB9 : Hid (Below w.heap.size w w9) := Lib.hid (HB7.out.trans (hb9.mono HB7.out.size))
    have HD2 := Lib.hid (digits_any w9 7 (by decide))
    clear hb9 hcv
    go_wp2_with fail
    refine HD2.out.mono ?_
    rintro e w10 ⟨rfl, hb10⟩
    have HS10 := Lib.hid (HS9.out.below hb10)
    have HB10 : Hid (Below w.heap.size w w10) := Lib.hid (HB9.out.trans (hb10.mono HB9.out.size))
    clear hb10
    have HE : Hid ((sv (locF 504)).toArray = #[.string ⟨#[58, 115, 116, 97, 116, 117, 115]⟩, .string (strB (Lib.decDigits 504)), .string ⟨#[99, 111, 110, 116, 101, 110, 116, 45, 116, 121, 112, 101]⟩, .string ⟨#[116, 101, 120, 116, 47, 112, 108, 97, 105, 110]⟩, .string ⟨#[99, 111, 110, 116, 101, 110, 116, 45, 108, 101, 110, 103, 116, 104]⟩, .string (strB (Lib.decDigits 7))]) := Lib.hid (by
      have e1 := itoa_nat 504
      have e2 := itoa_nat 7
      simp only [locF, statF, sv, scells, show (((locT 504).length : Nat) : Int) = ((7 : Nat) : Int) from rfl, e2]
      rw [show Lib.itoa 504 = Lib.decDigits 504 from e1]
      rfl)
    have hn11 := sps_new w10 (locF 504) (by decide) (by decide)
    rw [HE.out] at hn11
    have hal : Below w10.heap.size w10 (w10.alloc (.cells #[.string ⟨#[58, 115, 116, 97, 116, 117, 115]⟩, .string (strB (Lib.decDigits 504)), .string ⟨#[99, 111, 110, 116, 101, 110, 116, 45, 116, 121, 112, 101]⟩, .string ⟨#[116, 101, 120, 116, 47, 112, 108, 97, 105, 110]⟩, .string ⟨#[99, 111, 110, 116, 101, 110, 116, 45, 108, 101, 110, 103, 116, 104]⟩, .string (strB (Lib.decDigits 7))] 64)) := (Below.refl _ w10).alloc (Nat.le_refl _) _
    have HSm3 := Lib.hid (sames_eq _ (HS10.out.below hal) (sls_own2 hn11 rfl))
    have HBa := Lib.hid hal
    clear hn11 hal
    go_wp2_with fail
    refine HSm3.out.mono ?_
    rintro e w12 ⟨rfl, hb12⟩
    have HB12 : Hid (Below w.heap.size w w12) := Lib.hid (HB10.out.trans ((HBa.out.trans (hb12.mono HBa.out.size)).mono HB10.out.size))
    have HAw := Lib.hid (awake19_any w12 (HT.out.below HB12.out))
    clear hb12
    go_wp2_with fail
    refine HAw.out.mono ?_
    rintro e w13 ⟨rfl, hb13⟩
    have HB13 : Hid (Below w.heap.size w w13) := Lib.hid (HB12.out.trans (hb13.mono HB12.out.size))
    clear hb13
    go_wp2
    go_ret
    exact ⟨rfl, HB13.out⟩
  · have HLo := Lib.hid (loc_none w6 st hno)
    have HRl := Lib.hid (rloc_none w6 st hno)
    have HAw := Lib.hid (awake19_any w6 HT6.out)
    clear hno
    go_wp2_with fail
    refine HLo.out.mono ?_
    rintro e w7 ⟨rfl, rfl⟩
    go_wp2_with fail
    refine HRl.out.mono ?_
    rintro e w8 ⟨rfl, rfl⟩
    have hne1 : ((strB []).toList == []) = true := by decide +kernel
    have hne2 : (strB []).toList.isEmpty = true := by decide +kernel
    go_wp2_with fail
    refine HAw.out.mono ?_
    rintro e w9 ⟨rfl, hb9⟩
    have HB9 : Hid (Below w.heap.size w w9) := Lib.hid (HB6.out.trans (hb9.mono HB6.out.size))
    clear hb9
    go_wp2
    go_ret
    exact ⟨rfl, HB9.out⟩
end Go.Proofs.YtohinaohcndndaaDoor

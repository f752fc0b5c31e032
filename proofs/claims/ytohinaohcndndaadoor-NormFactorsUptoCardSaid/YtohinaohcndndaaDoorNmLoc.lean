/- norm.Local, turnpikeref19.Local: the gateway's own replies. Condition: the table of powers of ten. -/
import Derived.Test.YtohinaohcndndaaDoorResp
namespace Go.Proofs.YtohinaohcndndaaDoor
open Go.RowKit

/-- a reply's text; none: [] -/
def locT (st : Int) : List UInt8 := if st = 400 then [98, 97, 100, 32, 114, 101, 113, 117, 101, 115, 116] else if st = 413 then [116, 111, 111, 32, 108, 97, 114, 103, 101] else if st = 431 then [102, 105, 101, 108, 100, 115, 32, 116, 111, 111, 32, 108, 97, 114, 103, 101] else if st = 501 then [110, 111, 116, 32, 105, 109, 112, 108, 101, 109, 101, 110, 116, 101, 100] else if st = 502 then [98, 97, 100, 32, 103, 97, 116, 101, 119, 97, 121] else if st = 503 then [117, 110, 97, 118, 97, 105, 108, 97, 98, 108, 101] else if st = 504 then [116, 105, 109, 101, 111, 117, 116] else []
def locF (st : Int) : List Fd := [statF st, ⟨strB [99, 111, 110, 116, 101, 110, 116, 45, 116, 121, 112, 101], strB [116, 101, 120, 116, 47, 112, 108, 97, 105, 110]⟩, ⟨strB [99, 111, 110, 116, 101, 110, 116, 45, 108, 101, 110, 103, 116, 104], strB (Lib.itoa ((locT st).length : Int))⟩]
theorem loc_no {st : Int} (h : st ≠ 400 ∧ st ≠ 413 ∧ st ≠ 431 ∧ st ≠ 501 ∧ st ≠ 502 ∧ st ≠ 503 ∧ st ≠ 504) : locT st = [] := by
  obtain ⟨h0, h1, h2, h3, h4, h5, h6⟩ := h
  unfold locT
  rw [if_neg h0, if_neg h1, if_neg h2, if_neg h3, if_neg h4, if_neg h5, if_neg h6]
theorem loc_cases (st : Int) : st = 400 ∨ st = 413 ∨ st = 431 ∨ st = 501 ∨ st = 502 ∨ st = 503 ∨ st = 504 ∨ (st ≠ 400 ∧ st ≠ 413 ∧ st ≠ 431 ∧ st ≠ 501 ∧ st ≠ 502 ∧ st ≠ 503 ∧ st ≠ 504) := by omega
theorem sps_new (w : World) (l : List Fd) (h : l.length ≤ 1000) (h0 : 0 < l.length) : Sps (w.alloc (.cells (sv l).toArray 64)) w.heap.size (some ⟨w.heap.size, 0, none⟩) l.length l := by
  refine ⟨sv_length l, .inr ⟨w.heap.size, l.length, _, rfl, Nat.le_refl _, heap_alloc_new w _, Nat.le_refl _, by unfold maxLen; omega, by simp [sv_length], ?_⟩⟩
  show (sv l).toArray.toList.take (l.length * 2) = sv l
  rw [List.take_of_length_le (by simp [sv_length])]
/-- the reply: fields, bytes -/
def LocP (w : World) (st : Int) (e : Ending) (w' : World) : Prop := ∃ a b g c, e = .returned (.tuple #[.slice a 3 b, .slice (some ⟨g, 0, none⟩) (locT st).length c, .int .i64 0]) ∧ Sps w' w.heap.size a b (locF st) ∧ Bts w' g (locT st) ∧ Below w.heap.size w w'
theorem Sps.kept {_ : Nat → Prop} {w w' : World} {B : Nat} {a : Option Addr} {c : Nat} {l : List Fd} (h : Sps w B a c l) (hb : Below w.heap.size w w') : Sps w' B a c l := own_below h hb

set_option maxRecDepth 100000 in
theorem loc_400 (w : World) (htab : Lib.TabIs Tryd.prog w "internal/strconv.uint64pow10" .u64 Lib.pow10Tab) : Calls Tryd.prog 30 #[.int .i64 400] w (LocP w 400) := by
  have HIt := Lib.hid (Tryd.strconv_Itoa 400 (by decide) (by decide) w htab)
  have HTab := Lib.hid htab
  have hsz : (ByteArray.mk #[98, 97, 100, 32, 114, 101, 113, 117, 101, 115, 116]).size = 11 := rfl
  clear htab
  go_enter Tryd.func30, Tryd.ntmps30
  go_wp2_with fail
  refine HIt.out.mono ?_
  rintro e w2 ⟨rfl, kk, os, hw2⟩
  have hb2 : Below w.heap.size w w2 := by rw [hw2]; exact below_gr w kk os
  have HB2 := Lib.hid hb2
  have HI2 := Lib.hid (Tryd.strconv_Itoa 11 (by decide) (by decide) w2 (tab_below HTab.out hb2))
  clear hw2 hb2
  go_wp2_with fail
  refine HI2.out.mono ?_
  rintro e w3 ⟨rfl, kk3, os3, hw3⟩
  have hb3 : Below w2.heap.size w2 w3 := by rw [hw3]; exact below_gr w2 kk3 os3
  have HB3 : Hid (Below w.heap.size w w3) := Lib.hid (HB2.out.trans (hb3.mono HB2.out.size))
  clear hw3 hb3
  obtain ⟨w4, hw4⟩ : ∃ w4, w4 = w3.alloc (.cells (sv (locF 400)).toArray 64) := ⟨_, rfl⟩
  obtain ⟨g1, hg1⟩ : ∃ g1, g1 = w3.heap.size := ⟨_, rfl⟩
  have HSp : Hid (Sps w4 w.heap.size (some ⟨g1, 0, none⟩) 3 (locF 400)) := Lib.hid (by rw [hw4, hg1]; exact own_mono (sps_new w3 (locF 400) (by decide) (by decide)) HB3.out.size)
  have hal : Below w3.heap.size w3 w4 := by rw [hw4]; exact (Below.refl _ w3).alloc (Nat.le_refl _) _
  have HB4 : Hid (Below w.heap.size w w4) := Lib.hid (HB3.out.trans (hal.mono HB3.out.size))
  have HW4 : Hid (w3.alloc (.cells #[.string ⟨#[58, 115, 116, 97, 116, 117, 115]⟩, .string ⟨(Lib.itoa 400).toArray⟩, .string ⟨#[99, 111, 110, 116, 101, 110, 116, 45, 116, 121, 112, 101]⟩, .string ⟨#[116, 101, 120, 116, 47, 112, 108, 97, 105, 110]⟩, .string ⟨#[99, 111, 110, 116, 101, 110, 116, 45, 108, 101, 110, 103, 116, 104]⟩, .string ⟨(Lib.itoa 11).toArray⟩] 64) = w4) := Lib.hid (by rw [hw4]; rfl)
  have HG1 := Lib.hid hg1
  obtain ⟨c5, w5, hcv, hbt, hb5⟩ := conv_bts w4 ⟨#[98, 97, 100, 32, 114, 101, 113, 117, 101, 115, 116]⟩
  have HBt := Lib.hid hbt
  have HB5 := Lib.hid hb5
  obtain ⟨g5, hg5⟩ : ∃ g5, g5 = w4.heap.size := ⟨_, rfl⟩
  rw [← hg5] at hcv HBt
  clear hw4 hg1 hal hbt hb5 hg5
  go_upto_region 19 with fail
  rw [HW4.out, ← HG1.out]
  go_wp2_with fail
  refine bodyPost_ret (results_tmp3 rfl _ _ _) rfl ?_
  exact ⟨_, 3, g5, c5, rfl, own_below HSp.out HB5.out, HBt.out, HB4.out.trans (HB5.out.mono HB4.out.size)⟩
set_option maxRecDepth 100000 in
theorem rloc_400 (w : World) : Calls Tryd.prog 31 #[.int .i64 400] w fun e w' => e = .returned (.string (strB (locT 400))) ∧ w' = w := by
  go_enter Tryd.func31, Tryd.ntmps31
  go_wp2
  go_ret
  exact ⟨rfl, rfl⟩

set_option maxRecDepth 100000 in
theorem loc_413 (w : World) (htab : Lib.TabIs Tryd.prog w "internal/strconv.uint64pow10" .u64 Lib.pow10Tab) : Calls Tryd.prog 30 #[.int .i64 413] w (LocP w 413) := by
  have HIt := Lib.hid (Tryd.strconv_Itoa 413 (by decide) (by decide) w htab)
  have HTab := Lib.hid htab
  have hsz : (ByteArray.mk #[116, 111, 111, 32, 108, 97, 114, 103, 101]).size = 9 := rfl
  clear htab
  go_enter Tryd.func30, Tryd.ntmps30
  go_wp2_with fail
  refine HIt.out.mono ?_
  rintro e w2 ⟨rfl, kk, os, hw2⟩
  have hb2 : Below w.heap.size w w2 := by rw [hw2]; exact below_gr w kk os
  have HB2 := Lib.hid hb2
  have HI2 := Lib.hid (Tryd.strconv_Itoa 9 (by decide) (by decide) w2 (tab_below HTab.out hb2))
  clear hw2 hb2
  go_wp2_with fail
  refine HI2.out.mono ?_
  rintro e w3 ⟨rfl, kk3, os3, hw3⟩
  have hb3 : Below w2.heap.size w2 w3 := by rw [hw3]; exact below_gr w2 kk3 os3
  have HB3 : Hid (Below w.heap.size w w3) := Lib.hid (HB2.out.trans (hb3.mono HB2.out.size))
  clear hw3 hb3
  obtain ⟨w4, hw4⟩ : ∃ w4, w4 = w3.alloc (.cells (sv (locF 413)).toArray 64) := ⟨_, rfl⟩
  obtain ⟨g1, hg1⟩ : ∃ g1, g1 = w3.heap.size := ⟨_, rfl⟩
  have HSp : Hid (Sps w4 w.heap.size (some ⟨g1, 0, none⟩) 3 (locF 413)) := Lib.hid (by rw [hw4, hg1]; exact own_mono (sps_new w3 (locF 413) (by decide) (by decide)) HB3.out.size)
  have hal : Below w3.heap.size w3 w4 := by rw [hw4]; exact (Below.refl _ w3).alloc (Nat.le_refl _) _
  have HB4 : Hid (Below w.heap.size w w4) := Lib.hid (HB3.out.trans (hal.mono HB3.out.size))
  have HW4 : Hid (w3.alloc (.cells #[.string ⟨#[58, 115, 116, 97, 116, 117, 115]⟩, .string ⟨(Lib.itoa 413).toArray⟩, .string ⟨#[99, 111, 110, 116, 101, 110, 116, 45, 116, 121, 112, 101]⟩, .string ⟨#[116, 101, 120, 116, 47, 112, 108, 97, 105, 110]⟩, .string ⟨#[99, 111, 110, 116, 101, 110, 116, 45, 108, 101, 110, 103, 116, 104]⟩, .string ⟨(Lib.itoa 9).toArray⟩] 64) = w4) := Lib.hid (by rw [hw4]; rfl)
  have HG1 := Lib.hid hg1
  obtain ⟨c5, w5, hcv, hbt, hb5⟩ := conv_bts w4 ⟨#[116, 111, 111, 32, 108, 97, 114, 103, 101]⟩
  have HBt := Lib.hid hbt
  have HB5 := Lib.hid hb5
  obtain ⟨g5, hg5⟩ : ∃ g5, g5 = w4.heap.size := ⟨_, rfl⟩
  rw [← hg5] at hcv HBt
  clear hw4 hg1 hal hbt hb5 hg5
  go_upto_region 19 with fail
  rw [HW4.out, ← HG1.out]
  go_wp2_with fail
  refine bodyPost_ret (results_tmp3 rfl _ _ _) rfl ?_
  exact ⟨_, 3, g5, c5, rfl, own_below HSp.out HB5.out, HBt.out, HB4.out.trans (HB5.out.mono HB4.out.size)⟩
set_option maxRecDepth 100000 in
theorem rloc_413 (w : World) : Calls Tryd.prog 31 #[.int .i64 413] w fun e w' => e = .returned (.string (strB (locT 413))) ∧ w' = w := by
  go_enter Tryd.func31, Tryd.ntmps31
  go_wp2
  go_ret
  exact ⟨rfl, rfl⟩

set_option maxRecDepth 100000 in
theorem loc_431 (w : World) (htab : Lib.TabIs Tryd.prog w "internal/strconv.uint64pow10" .u64 Lib.pow10Tab) : Calls Tryd.prog 30 #[.int .i64 431] w (LocP w 431) := by
  have HIt := Lib.hid (Tryd.strconv_Itoa 431 (by decide) (by decide) w htab)
  have HTab := Lib.hid htab
  have hsz : (ByteArray.mk #[102, 105, 101, 108, 100, 115, 32, 116, 111, 111, 32, 108, 97, 114, 103, 101]).size = 16 := rfl
  clear htab
  go_enter Tryd.func30, Tryd.ntmps30
  go_wp2_with fail
  refine HIt.out.mono ?_
  rintro e w2 ⟨rfl, kk, os, hw2⟩
  have hb2 : Below w.heap.size w w2 := by rw [hw2]; exact below_gr w kk os
  have HB2 := Lib.hid hb2
  have HI2 := Lib.hid (Tryd.strconv_Itoa 16 (by decide) (by decide) w2 (tab_below HTab.out hb2))
  clear hw2 hb2
  go_wp2_with fail
  refine HI2.out.mono ?_
  rintro e w3 ⟨rfl, kk3, os3, hw3⟩
  have hb3 : Below w2.heap.size w2 w3 := by rw [hw3]; exact below_gr w2 kk3 os3
  have HB3 : Hid (Below w.heap.size w w3) := Lib.hid (HB2.out.trans (hb3.mono HB2.out.size))
  clear hw3 hb3
  obtain ⟨w4, hw4⟩ : ∃ w4, w4 = w3.alloc (.cells (sv (locF 431)).toArray 64) := ⟨_, rfl⟩
  obtain ⟨g1, hg1⟩ : ∃ g1, g1 = w3.heap.size := ⟨_, rfl⟩
  have HSp : Hid (Sps w4 w.heap.size (some ⟨g1, 0, none⟩) 3 (locF 431)) := Lib.hid (by rw [hw4, hg1]; exact own_mono (sps_new w3 (locF 431) (by decide) (by decide)) HB3.out.size)
  have hal : Below w3.heap.size w3 w4 := by rw [hw4]; exact (Below.refl _ w3).alloc (Nat.le_refl _) _
  have HB4 : Hid (Below w.heap.size w w4) := Lib.hid (HB3.out.trans (hal.mono HB3.out.size))
  have HW4 : Hid (w3.alloc (.cells #[.string ⟨#[58, 115, 116, 97, 116, 117, 115]⟩, .string ⟨(Lib.itoa 431).toArray⟩, .string ⟨#[99, 111, 110, 116, 101, 110, 116, 45, 116, 121, 112, 101]⟩, .string ⟨#[116, 101, 120, 116, 47, 112, 108, 97, 105, 110]⟩, .string ⟨#[99, 111, 110, 116, 101, 110, 116, 45, 108, 101, 110, 103, 116, 104]⟩, .string ⟨(Lib.itoa 16).toArray⟩] 64) = w4) := Lib.hid (by rw [hw4]; rfl)
  have HG1 := Lib.hid hg1
  obtain ⟨c5, w5, hcv, hbt, hb5⟩ := conv_bts w4 ⟨#[102, 105, 101, 108, 100, 115, 32, 116, 111, 111, 32, 108, 97, 114, 103, 101]⟩
  have HBt := Lib.hid hbt
  have HB5 := Lib.hid hb5
  obtain ⟨g5, hg5⟩ : ∃ g5, g5 = w4.heap.size := ⟨_, rfl⟩
  rw [← hg5] at hcv HBt
  clear hw4 hg1 hal hbt hb5 hg5
  go_upto_region 19 with fail
  rw [HW4.out, ← HG1.out]
  go_wp2_with fail
  refine bodyPost_ret (results_tmp3 rfl _ _ _) rfl ?_
  exact ⟨_, 3, g5, c5, rfl, own_below HSp.out HB5.out, HBt.out, HB4.out.trans (HB5.out.mono HB4.out.size)⟩
set_option maxRecDepth 100000 in
theorem rloc_431 (w : World) : Calls Tryd.prog 31 #[.int .i64 431] w fun e w' => e = .returned (.string (strB (locT 431))) ∧ w' = w := by
  go_enter Tryd.func31, Tryd.ntmps31
  go_wp2
  go_ret
  exact ⟨rfl, rfl⟩

set_option maxRecDepth 100000 in
theorem loc_501 (w : World) (htab : Lib.TabIs Tryd.prog w "internal/strconv.uint64pow10" .u64 Lib.pow10Tab) : Calls Tryd.prog 30 #[.int .i64 501] w (LocP w 501) := by
  have HIt := Lib.hid (Tryd.strconv_Itoa 501 (by decide) (by decide) w htab)
  have HTab := Lib.hid htab
  have hsz : (ByteArray.mk #[110, 111, 116, 32, 105, 109, 112, 108, 101, 109, 101, 110, 116, 101, 100]).size = 15 := rfl
  clear htab
  go_enter Tryd.func30, Tryd.ntmps30
  go_wp2_with fail
  refine HIt.out.mono ?_
  rintro e w2 ⟨rfl, kk, os, hw2⟩
  have hb2 : Below w.heap.size w w2 := by rw [hw2]; exact below_gr w kk os
  have HB2 := Lib.hid hb2
  have HI2 := Lib.hid (Tryd.strconv_Itoa 15 (by decide) (by decide) w2 (tab_below HTab.out hb2))
  clear hw2 hb2
  go_wp2_with fail
  refine HI2.out.mono ?_
  rintro e w3 ⟨rfl, kk3, os3, hw3⟩
  have hb3 : Below w2.heap.size w2 w3 := by rw [hw3]; exact below_gr w2 kk3 os3
  have HB3 : Hid (Below w.heap.size w w3) := Lib.hid (HB2.out.trans (hb3.mono HB2.out.size))
  clear hw3 hb3
  obtain ⟨w4, hw4⟩ : ∃ w4, w4 = w3.alloc (.cells (sv (locF 501)).toArray 64) := ⟨_, rfl⟩
  obtain ⟨g1, hg1⟩ : ∃ g1, g1 = w3.heap.size := ⟨_, rfl⟩
  have HSp : Hid (Sps w4 w.heap.size (some ⟨g1, 0, none⟩) 3 (locF 501)) := Lib.hid (by rw [hw4, hg1]; exact own_mono (sps_new w3 (locF 501) (by decide) (by decide)) HB3.out.size)
  have hal : Below w3.heap.size w3 w4 := by rw [hw4]; exact (Below.refl _ w3).alloc (Nat.le_refl _) _
  have HB4 : Hid (Below w.heap.size w w4) := Lib.hid (HB3.out.trans (hal.mono HB3.out.size))
  have HW4 : Hid (w3.alloc (.cells #[.string ⟨#[58, 115, 116, 97, 116, 117, 115]⟩, .string ⟨(Lib.itoa 501).toArray⟩, .string ⟨#[99, 111, 110, 116, 101, 110, 116, 45, 116, 121, 112, 101]⟩, .string ⟨#[116, 101, 120, 116, 47, 112, 108, 97, 105, 110]⟩, .string ⟨#[99, 111, 110, 116, 101, 110, 116, 45, 108, 101, 110, 103, 116, 104]⟩, .string ⟨(Lib.itoa 15).toArray⟩] 64) = w4) := Lib.hid (by rw [hw4]; rfl)
  have HG1 := Lib.hid hg1
  obtain ⟨c5, w5, hcv, hbt, hb5⟩ := conv_bts w4 ⟨#[110, 111, 116, 32, 105, 109, 112, 108, 101, 109, 101, 110, 116, 101, 100]⟩
  have HBt := Lib.hid hbt
  have HB5 := Lib.hid hb5
  obtain ⟨g5, hg5⟩ : ∃ g5, g5 = w4.heap.size := ⟨_, rfl⟩
  rw [← hg5] at hcv HBt
  clear hw4 hg1 hal hbt hb5 hg5
  go_upto_region 19 with fail
  rw [HW4.out, ← HG1.out]
  go_wp2_with fail
  refine bodyPost_ret (results_tmp3 rfl _ _ _) rfl ?_
  exact ⟨_, 3, g5, c5, rfl, own_below HSp.out HB5.out, HBt.out, HB4.out.trans (HB5.out.mono HB4.out.size)⟩
set_option maxRecDepth 100000 in
theorem rloc_501 (w : World) : Calls Tryd.prog 31 #[.int .i64 501] w fun e w' => e = .returned (.string (strB (locT 501))) ∧ w' = w := by
  go_enter Tryd.func31, Tryd.ntmps31
  go_wp2
  go_ret
  exact ⟨rfl, rfl⟩

set_option maxRecDepth 100000 in
theorem loc_502 (w : World) (htab : Lib.TabIs Tryd.prog w "internal/strconv.uint64pow10" .u64 Lib.pow10Tab) : Calls Tryd.prog 30 #[.int .i64 502] w (LocP w 502) := by
  have HIt := Lib.hid (Tryd.strconv_Itoa 502 (by decide) (by decide) w htab)
  have HTab := Lib.hid htab
  have hsz : (ByteArray.mk #[98, 97, 100, 32, 103, 97, 116, 101, 119, 97, 121]).size = 11 := rfl
  clear htab
  go_enter Tryd.func30, Tryd.ntmps30
  go_wp2_with fail
  refine HIt.out.mono ?_
  rintro e w2 ⟨rfl, kk, os, hw2⟩
  have hb2 : Below w.heap.size w w2 := by rw [hw2]; exact below_gr w kk os
  have HB2 := Lib.hid hb2
  have HI2 := Lib.hid (Tryd.strconv_Itoa 11 (by decide) (by decide) w2 (tab_below HTab.out hb2))
  clear hw2 hb2
  go_wp2_with fail
  refine HI2.out.mono ?_
  rintro e w3 ⟨rfl, kk3, os3, hw3⟩
  have hb3 : Below w2.heap.size w2 w3 := by rw [hw3]; exact below_gr w2 kk3 os3
  have HB3 : Hid (Below w.heap.size w w3) := Lib.hid (HB2.out.trans (hb3.mono HB2.out.size))
  clear hw3 hb3
  obtain ⟨w4, hw4⟩ : ∃ w4, w4 = w3.alloc (.cells (sv (locF 502)).toArray 64) := ⟨_, rfl⟩
  obtain ⟨g1, hg1⟩ : ∃ g1, g1 = w3.heap.size := ⟨_, rfl⟩
  have HSp : Hid (Sps w4 w.heap.size (some ⟨g1, 0, none⟩) 3 (locF 502)) := Lib.hid (by rw [hw4, hg1]; exact own_mono (sps_new w3 (locF 502) (by decide) (by decide)) HB3.out.size)
  have hal : Below w3.heap.size w3 w4 := by rw [hw4]; exact (Below.refl _ w3).alloc (Nat.le_refl _) _
  have HB4 : Hid (Below w.heap.size w w4) := Lib.hid (HB3.out.trans (hal.mono HB3.out.size))
  have HW4 : Hid (w3.alloc (.cells #[.string ⟨#[58, 115, 116, 97, 116, 117, 115]⟩, .string ⟨(Lib.itoa 502).toArray⟩, .string ⟨#[99, 111, 110, 116, 101, 110, 116, 45, 116, 121, 112, 101]⟩, .string ⟨#[116, 101, 120, 116, 47, 112, 108, 97, 105, 110]⟩, .string ⟨#[99, 111, 110, 116, 101, 110, 116, 45, 108, 101, 110, 103, 116, 104]⟩, .string ⟨(Lib.itoa 11).toArray⟩] 64) = w4) := Lib.hid (by rw [hw4]; rfl)
  have HG1 := Lib.hid hg1
  obtain ⟨c5, w5, hcv, hbt, hb5⟩ := conv_bts w4 ⟨#[98, 97, 100, 32, 103, 97, 116, 101, 119, 97, 121]⟩
  have HBt := Lib.hid hbt
  have HB5 := Lib.hid hb5
  obtain ⟨g5, hg5⟩ : ∃ g5, g5 = w4.heap.size := ⟨_, rfl⟩
  rw [← hg5] at hcv HBt
  clear hw4 hg1 hal hbt hb5 hg5
  go_upto_region 19 with fail
  rw [HW4.out, ← HG1.out]
  go_wp2_with fail
  refine bodyPost_ret (results_tmp3 rfl _ _ _) rfl ?_
  exact ⟨_, 3, g5, c5, rfl, own_below HSp.out HB5.out, HBt.out, HB4.out.trans (HB5.out.mono HB4.out.size)⟩
set_option maxRecDepth 100000 in
theorem rloc_502 (w : World) : Calls Tryd.prog 31 #[.int .i64 502] w fun e w' => e = .returned (.string (strB (locT 502))) ∧ w' = w := by
  go_enter Tryd.func31, Tryd.ntmps31
  go_wp2
  go_ret
  exact ⟨rfl, rfl⟩

set_option maxRecDepth 100000 in
theorem loc_503 (w : World) (htab : Lib.TabIs Tryd.prog w "internal/strconv.uint64pow10" .u64 Lib.pow10Tab) : Calls Tryd.prog 30 #[.int .i64 503] w (LocP w 503) := by
  have HIt := Lib.hid (Tryd.strconv_Itoa 503 (by decide) (by decide) w htab)
  have HTab := Lib.hid htab
  have hsz : (ByteArray.mk #[117, 110, 97, 118, 97, 105, 108, 97, 98, 108, 101]).size = 11 := rfl
  clear htab
  go_enter Tryd.func30, Tryd.ntmps30
  go_wp2_with fail
  refine HIt.out.mono ?_
  rintro e w2 ⟨rfl, kk, os, hw2⟩
  have hb2 : Below w.heap.size w w2 := by rw [hw2]; exact below_gr w kk os
  have HB2 := Lib.hid hb2
  have HI2 := Lib.hid (Tryd.strconv_Itoa 11 (by decide) (by decide) w2 (tab_below HTab.out hb2))
  clear hw2 hb2
  go_wp2_with fail
  refine HI2.out.mono ?_
  rintro e w3 ⟨rfl, kk3, os3, hw3⟩
  have hb3 : Below w2.heap.size w2 w3 := by rw [hw3]; exact below_gr w2 kk3 os3
  have HB3 : Hid (Below w.heap.size w w3) := Lib.hid (HB2.out.trans (hb3.mono HB2.out.size))
  clear hw3 hb3
  obtain ⟨w4, hw4⟩ : ∃ w4, w4 = w3.alloc (.cells (sv (locF 503)).toArray 64) := ⟨_, rfl⟩
  obtain ⟨g1, hg1⟩ : ∃ g1, g1 = w3.heap.size := ⟨_, rfl⟩
  have HSp : Hid (Sps w4 w.heap.size (some ⟨g1, 0, none⟩) 3 (locF 503)) := Lib.hid (by rw [hw4, hg1]; exact own_mono (sps_new w3 (locF 503) (by decide) (by decide)) HB3.out.size)
  have hal : Below w3.heap.size w3 w4 := by rw [hw4]; exact (Below.refl _ w3).alloc (Nat.le_refl _) _
  have HB4 : Hid (Below w.heap.size w w4) := Lib.hid (HB3.out.trans (hal.mono HB3.out.size))
  have HW4 : Hid (w3.alloc (.cells #[.string ⟨#[58, 115, 116, 97, 116, 117, 115]⟩, .string ⟨(Lib.itoa 503).toArray⟩, .string ⟨#[99, 111, 110, 116, 101, 110, 116, 45, 116, 121, 112, 101]⟩, .string ⟨#[116, 101, 120, 116, 47, 112, 108, 97, 105, 110]⟩, .string ⟨#[99, 111, 110, 116, 101, 110, 116, 45, 108, 101, 110, 103, 116, 104]⟩, .string ⟨(Lib.itoa 11).toArray⟩] 64) = w4) := Lib.hid (by rw [hw4]; rfl)
  have HG1 := Lib.hid hg1
  obtain ⟨c5, w5, hcv, hbt, hb5⟩ := conv_bts w4 ⟨#[117, 110, 97, 118, 97, 105, 108, 97, 98, 108, 101]⟩
  have HBt := Lib.hid hbt
  have HB5 := Lib.hid hb5
  obtain ⟨g5, hg5⟩ : ∃ g5, g5 = w4.heap.size := ⟨_, rfl⟩
  rw [← hg5] at hcv HBt
  clear hw4 hg1 hal hbt hb5 hg5
  go_upto_region 19 with fail
  rw [HW4.out, ← HG1.out]
  go_wp2_with fail
  refine bodyPost_ret (results_tmp3 rfl _ _ _) rfl ?_
  exact ⟨_, 3, g5, c5, rfl, own_below HSp.out HB5.out, HBt.out, HB4.out.trans (HB5.out.mono HB4.out.size)⟩
set_option maxRecDepth 100000 in
theorem rloc_503 (w : World) : Calls Tryd.prog 31 #[.int .i64 503] w fun e w' => e = .returned (.string (strB (locT 503))) ∧ w' = w := by
  go_enter Tryd.func31, Tryd.ntmps31
  go_wp2
  go_ret
  exact ⟨rfl, rfl⟩

set_option maxRecDepth 100000 in
theorem loc_504 (w : World) (htab : Lib.TabIs Tryd.prog w "internal/strconv.uint64pow10" .u64 Lib.pow10Tab) : Calls Tryd.prog 30 #[.int .i64 504] w (LocP w 504) := by
  have HIt := Lib.hid (Tryd.strconv_Itoa 504 (by decide) (by decide) w htab)
  have HTab := Lib.hid htab
  have hsz : (ByteArray.mk #[116, 105, 109, 101, 111, 117, 116]).size = 7 := rfl
  clear htab
  go_enter Tryd.func30, Tryd.ntmps30
  go_wp2_with fail
  refine HIt.out.mono ?_
  rintro e w2 ⟨rfl, kk, os, hw2⟩
  have hb2 : Below w.heap.size w w2 := by rw [hw2]; exact below_gr w kk os
  have HB2 := Lib.hid hb2
  have HI2 := Lib.hid (Tryd.strconv_Itoa 7 (by decide) (by decide) w2 (tab_below HTab.out hb2))
  clear hw2 hb2
  go_wp2_with fail
  refine HI2.out.mono ?_
  rintro e w3 ⟨rfl, kk3, os3, hw3⟩
  have hb3 : Below w2.heap.size w2 w3 := by rw [hw3]; exact below_gr w2 kk3 os3
  have HB3 : Hid (Below w.heap.size w w3) := Lib.hid (HB2.out.trans (hb3.mono HB2.out.size))
  clear hw3 hb3
  obtain ⟨w4, hw4⟩ : ∃ w4, w4 = w3.alloc (.cells (sv (locF 504)).toArray 64) := ⟨_, rfl⟩
  obtain ⟨g1, hg1⟩ : ∃ g1, g1 = w3.heap.size := ⟨_, rfl⟩
  have HSp : Hid (Sps w4 w.heap.size (some ⟨g1, 0, none⟩) 3 (locF 504)) := Lib.hid (by rw [hw4, hg1]; exact own_mono (sps_new w3 (locF 504) (by decide) (by decide)) HB3.out.size)
  have hal : Below w3.heap.size w3 w4 := by rw [hw4]; exact (Below.refl _ w3).alloc (Nat.le_refl _) _
  have HB4 : Hid (Below w.heap.size w w4) := Lib.hid (HB3.out.trans (hal.mono HB3.out.size))
  have HW4 : Hid (w3.alloc (.cells #[.string ⟨#[58, 115, 116, 97, 116, 117, 115]⟩, .string ⟨(Lib.itoa 504).toArray⟩, .string ⟨#[99, 111, 110, 116, 101, 110, 116, 45, 116, 121, 112, 101]⟩, .string ⟨#[116, 101, 120, 116, 47, 112, 108, 97, 105, 110]⟩, .string ⟨#[99, 111, 110, 116, 101, 110, 116, 45, 108, 101, 110, 103, 116, 104]⟩, .string ⟨(Lib.itoa 7).toArray⟩] 64) = w4) := Lib.hid (by rw [hw4]; rfl)
  have HG1 := Lib.hid hg1
  obtain ⟨c5, w5, hcv, hbt, hb5⟩ := conv_bts w4 ⟨#[116, 105, 109, 101, 111, 117, 116]⟩
  have HBt := Lib.hid hbt
  have HB5 := Lib.hid hb5
  obtain ⟨g5, hg5⟩ : ∃ g5, g5 = w4.heap.size := ⟨_, rfl⟩
  rw [← hg5] at hcv HBt
  clear hw4 hg1 hal hbt hb5 hg5
  go_upto_region 19 with fail
  rw [HW4.out, ← HG1.out]
  go_wp2_with fail
  refine bodyPost_ret (results_tmp3 rfl _ _ _) rfl ?_
  exact ⟨_, 3, g5, c5, rfl, own_below HSp.out HB5.out, HBt.out, HB4.out.trans (HB5.out.mono HB4.out.size)⟩
set_option maxRecDepth 100000 in
theorem rloc_504 (w : World) : Calls Tryd.prog 31 #[.int .i64 504] w fun e w' => e = .returned (.string (strB (locT 504))) ∧ w' = w := by
  go_enter Tryd.func31, Tryd.ntmps31
  go_wp2
  go_ret
  exact ⟨rfl, rfl⟩

set_option maxRecDepth 100000 in
theorem loc_none (w : World) (st : Int) (h : st ≠ 400 ∧ st ≠ 413 ∧ st ≠ 431 ∧ st ≠ 501 ∧ st ≠ 502 ∧ st ≠ 503 ∧ st ≠ 504) : Calls Tryd.prog 30 #[.int .i64 st] w fun e w' => e = .returned (.tuple #[.slice none 0 0, .slice none 0 0, .int .i64 200]) ∧ w' = w := by
  obtain ⟨h0, h1, h2, h3, h4, h5, h6⟩ := h
  have e0 : ((st : Int) == 400) = false := by simpa using h0
  have e1 : ((st : Int) == 413) = false := by simpa using h1
  have e2 : ((st : Int) == 431) = false := by simpa using h2
  have e3 : ((st : Int) == 501) = false := by simpa using h3
  have e4 : ((st : Int) == 502) = false := by simpa using h4
  have e5 : ((st : Int) == 503) = false := by simpa using h5
  have e6 : ((st : Int) == 504) = false := by simpa using h6
  clear h0 h1 h2 h3 h4 h5 h6
  go_enter Tryd.func30, Tryd.ntmps30
  go_wp2
  refine bodyPost_ret (results_tmp3 rfl _ _ _) rfl ?_
  exact ⟨rfl, rfl⟩
set_option maxRecDepth 100000 in
theorem rloc_none (w : World) (st : Int) (h : st ≠ 400 ∧ st ≠ 413 ∧ st ≠ 431 ∧ st ≠ 501 ∧ st ≠ 502 ∧ st ≠ 503 ∧ st ≠ 504) : Calls Tryd.prog 31 #[.int .i64 st] w fun e w' => e = .returned (.string (strB [])) ∧ w' = w := by
  obtain ⟨h0, h1, h2, h3, h4, h5, h6⟩ := h
  have e0 : ((st : Int) == 400) = false := by simpa using h0
  have e1 : ((st : Int) == 413) = false := by simpa using h1
  have e2 : ((st : Int) == 431) = false := by simpa using h2
  have e3 : ((st : Int) == 501) = false := by simpa using h3
  have e4 : ((st : Int) == 502) = false := by simpa using h4
  have e5 : ((st : Int) == 503) = false := by simpa using h5
  have e6 : ((st : Int) == 504) = false := by simpa using h6
  clear h0 h1 h2 h3 h4 h5 h6
  go_enter Tryd.func31, Tryd.ntmps31
  go_wp2
  go_ret
  exact ⟨rfl, rfl⟩
end Go.Proofs.YtohinaohcndndaaDoor

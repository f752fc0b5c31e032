/- turnpikeref18.Check walked. Conditions: the sizes. Printed by gen_chk6.py. -/
import Derived.Test.YtohinaohcndndaaDoorChk5
namespace Go.Proofs.YtohinaohcndndaaDoor
open Go.RowKit

set_option maxRecDepth 100000 in
set_option maxHeartbeats 8000000 in
theorem check_any (w : World) {a : Option Addr} {n c : Nat} {fs : List Fd} (h : SlS w a n c fs) (hz : fdz fs ≤ 1048576) (cnt sz : Int) : Calls Tryd.prog 14 #[.slice a n c, .int .i64 cnt, .int .i64 sz] w (CkR w (chkF fs cnt sz)) := by
  have HS := Lib.hid h
  have HZ := Lib.hid hz
  have HL := Lib.hid h.len
  have HN : Hid (n ≤ 1048576) := Lib.hid (by rw [← h.len]; exact Nat.le_trans (fdz_len fs) hz)
  obtain ⟨R, hR⟩ : ∃ R, R = chkF fs cnt sz := ⟨_, rfl⟩
  rw [← hR]
  have HR := Lib.hid hR
  clear h hz hR
  go_enter Tryd.func14, Tryd.ntmps14
  go_upto_region 1 with fail
  obtain ⟨w2, hw2⟩ : ∃ w2, w2 = w.alloc (.cells rq0C.toArray 34) := ⟨_, rfl⟩
  obtain ⟨g2, hg2⟩ : ∃ g2, g2 = w.heap.size := ⟨_, rfl⟩
  have HH2 : Hid (Has w2 g2 34 rq0C) := Lib.hid (by rw [hw2, hg2]; exact Has.new w 34 rq0C.toArray)
  have HB2 : Hid (Below w.heap.size w w2) := Lib.hid (by rw [hw2]; exact (Below.refl _ w).alloc (Nat.le_refl _) _)
  have HG2 : Hid (w.heap.size ≤ g2) := Lib.hid (by rw [hg2]; exact Nat.le_refl _)
  have HW2 : Hid (w.alloc (.cells #[.string ⟨#[]⟩, .string ⟨#[]⟩, .string ⟨#[]⟩, .string ⟨#[]⟩, .slice none 0 0, .int .i64 0] 34) = w2) := Lib.hid (by rw [hw2]; rfl)
  have HMu := Lib.hid (much_any w2 (HS.out.below HB2.out) HZ.out cnt sz)
  rw [HW2.out, ← hg2]
  clear hw2 hg2 HW2
  by_cases hm : muchL fs cnt sz = true
  · obtain rfl : R = Ck.bad 185 := by rw [HR.out, chkF, if_pos hm]
    rw [hm] at HMu
    clear hm
    go_wp2_with fail
    refine HMu.out.mono ?_
    rintro e w3 ⟨rfl, hb3⟩
    have HH3 : Hid (Has w3 g2 34 rq0C) := Lib.hid (HH2.out.kept (Kept.of_below (X := none') hb3) (fun h => h))
    have HB3 : Hid (Below w.heap.size w w3) := Lib.hid (HB2.out.trans (hb3.mono HB2.out.size))
    clear hb3
    have hth := HH3.out.there (n := 6) rfl
    have ho1 := rqC_one ⟨#[]⟩ ⟨#[]⟩ ⟨#[]⟩ ⟨#[]⟩ none 0 0 0
    go_wp2_with (refine wpList_store_mid rfl 34 (.tmp 6) (.tmp 24) rfl g2 0 #[.string ⟨#[]⟩, .string ⟨#[]⟩, .string ⟨#[]⟩, .string ⟨#[]⟩, .slice none 0 0, .int .i64 0] rfl rfl hth infoRq ho1 ?_)
    refine bodyPost_ret (results_rq2 rfl _ rfl (HH3.out.store rfl) rfl) rfl ?_
    exact ck_bad 185 HB3.out HG2.out
  have hmf : muchL fs cnt sz = false := by simpa using hm
  rw [hmf] at HMu
  have HR2 : Hid (R = if errF fs ≠ 0 then Ck.bad (errF fs) else chkM fs) := Lib.hid (by rw [HR.out, chkF, if_neg hm])
  clear hm hmf HR
  go_wp2_with fail
  refine HMu.out.mono ?_
  rintro e w3 ⟨rfl, hb3⟩
  have HH3 : Hid (Has w3 g2 34 rq0C) := Lib.hid (HH2.out.kept (Kept.of_below (X := none') hb3) (fun h => h))
  have HB3 : Hid (Below w.heap.size w w3) := Lib.hid (HB2.out.trans (hb3.mono HB2.out.size))
  clear hb3 HMu
  go_wp2_with fail
  go_loopw [8, 9] (fun v _ wr => ∃ i : Nat, v = .int .i64 (i : Int) ∧ i ≤ n ∧ Hid (∀ k, k < i → oneAt fs k = 0) ∧ Below w3.heap.size w3 wr) (fun v _ _ => n - (intOf v).toNat)
  case atStart => exact ⟨0, rfl, Nat.zero_le _, Lib.hid (fun k hk => absurd hk (Nat.not_lt_zero k)), Below.refl _ _⟩
  case round =>
    obtain ⟨i, rfl, hi, HA, hb⟩ := hrel
    have HBr : Hid (Below w.heap.size w wr) := Lib.hid (HB3.out.trans (hb.mono HB3.out.size))
    have HBq := Lib.hid hb
    have HHr : Hid (Has wr g2 34 rq0C) := Lib.hid (HH3.out.kept (Kept.of_below (X := none') hb) (fun h => h))
    clear hb
    by_cases hin : i < n
    · have HI := Lib.hid hin
      obtain ⟨z1, z2, z3⟩ := inj1 hin (Nat.le_trans HN.out (by decide))
      have hil : i < fs.length := by rw [HL.out]; exact hin
      have hOn := one_any wr (HS.out.below HBr.out) HZ.out i hil
      rw [← one_at hil] at hOn
      have HE : Hid (oneAt fs i ≠ 0 → errF fs = oneAt fs i) := Lib.hid (err_at hil HA.out)
      have HAn : Hid (oneAt fs i = 0 → ∀ k, k < i + 1 → oneAt fs k = 0) := Lib.hid (fun h k hk => by
        by_cases hki : k = i
        · rw [hki]; exact h
        · exact HA.out k (by omega))
      obtain ⟨q, hq⟩ : ∃ q, q = oneAt fs i := ⟨_, rfl⟩
      rw [← hq] at hOn HE HAn
      have HOn := Lib.hid hOn
      clear hi hin hil hOn hq HA
      by_cases h0 : q = 0
      · have HA2 := Lib.hid (HAn.out h0)
        subst q
        go_wp2_with fail
        refine HOn.out.mono ?_
        rintro e w4 ⟨rfl, hb4⟩
        have HB4 : Hid (Below w3.heap.size w3 w4) := Lib.hid (HBq.out.trans (hb4.mono HBq.out.size))
        clear hb4
        go_wp2_with fail
        go_roundw
        case rel => exact ⟨i + 1, by first | rfl | (push_cast; rfl), HI.out, HA2, HB4.out⟩
        case measure => exact nbj3 HI.out
      · obtain rfl : R = Ck.bad q := by rw [HR2.out, HE.out h0, if_pos h0]
        have y1 : (q == 0) = false := by simpa using h0
        obtain ⟨y2, y3⟩ := neqs y1
        clear h0
        go_wp2_with fail
        refine HOn.out.mono ?_
        rintro e w4 ⟨rfl, hb4⟩
        have HH4 : Hid (Has w4 g2 34 rq0C) := Lib.hid (HHr.out.kept (Kept.of_below (X := none') hb4) (fun h => h))
        have HB4 : Hid (Below w.heap.size w w4) := Lib.hid (HBr.out.trans (hb4.mono HBr.out.size))
        clear hb4
        have hth := HH4.out.there (n := 6) rfl
        have ho1 := rqC_one ⟨#[]⟩ ⟨#[]⟩ ⟨#[]⟩ ⟨#[]⟩ none 0 0 0
        go_wp2_with (refine wpList_store_mid rfl 34 (.tmp 6) (.tmp 36) rfl g2 0 #[.string ⟨#[]⟩, .string ⟨#[]⟩, .string ⟨#[]⟩, .string ⟨#[]⟩, .slice none 0 0, .int .i64 0] rfl rfl hth infoRq ho1 ?_)
        refine bodyPost_ret (results_rq2 rfl _ rfl (HH4.out.store rfl) rfl) rfl ?_
        exact ck_bad q HB4.out HG2.out
    · have z1 := inj2 hin
      have HR3 : Hid (R = chkM fs) := Lib.hid (by rw [HR2.out, err_z (fun k hk => HA.out k (by rw [HL.out] at hk; omega))]; rfl)
      clear hi hin HA HR2
      go_upto_region 10 with fail
      obtain ⟨w5, hw5⟩ : ∃ w5, w5 = wr.alloc (.cells #[.string ⟨#[]⟩, .string ⟨#[]⟩, .string ⟨#[]⟩, .string ⟨#[]⟩, .slice none 0 0, .int .i64 (-1)] 34) := ⟨_, rfl⟩
      obtain ⟨g5, hg5⟩ : ∃ g5, g5 = wr.heap.size := ⟨_, rfl⟩
      have hb5 : Below wr.heap.size wr w5 := by rw [hw5]; exact (Below.refl _ wr).alloc (Nat.le_refl _) _
      have HG5 : Hid (w.heap.size ≤ g5) := Lib.hid (by rw [hg5]; exact HBr.out.size)
      have HG25 : Hid (g2 ≠ g5) := Lib.hid (by rw [hg5]; exact Nat.ne_of_lt HHr.out.lt)
      have HH5 : Hid (Has w5 g2 34 rq0C) := Lib.hid (HHr.out.kept (Kept.of_below (X := none') hb5) (fun h => h))
      have HR5 : Hid (Has w5 g5 34 (rqC ⟨#[]⟩ ⟨#[]⟩ ⟨#[]⟩ ⟨#[]⟩ none 0 0 (-1))) := Lib.hid (by rw [hw5, hg5]; exact Has.new wr 34 #[.string ⟨#[]⟩, .string ⟨#[]⟩, .string ⟨#[]⟩, .string ⟨#[]⟩, .slice none 0 0, .int .i64 (-1)])
      have HB5 : Hid (Below w.heap.size w w5) := Lib.hid (HBr.out.trans (hb5.mono HBr.out.size))
      have HSw : Hid (SlS w5 a n c fs) := Lib.hid (HS.out.below HB5.out)
      rw [← hw5, ← hg5]
      clear hw5 hg5 hb5 HBr HHr HBq HH3 HB3 HB2 HH2
      unfold chkM at HR3
      have HFm := Lib.hid (find_any w5 HSw.out ⟨#[58, 109, 101, 116, 104, 111, 100]⟩)
      rw [show bl ⟨#[58, 109, 101, 116, 104, 111, 100]⟩ = metS from rfl] at HFm
      obtain ⟨om, hom⟩ : ∃ om, om = findF fs metS := ⟨_, rfl⟩
      rw [← hom] at HFm
      have HFs := Lib.hid (find_any w5 HSw.out ⟨#[58, 115, 99, 104, 101, 109, 101]⟩)
      rw [show bl ⟨#[58, 115, 99, 104, 101, 109, 101]⟩ = schS from rfl] at HFs
      obtain ⟨os, hos⟩ : ∃ os, os = findF fs schS := ⟨_, rfl⟩
      rw [← hos] at HFs
      have HFp := Lib.hid (find_any w5 HSw.out ⟨#[58, 112, 97, 116, 104]⟩)
      rw [show bl ⟨#[58, 112, 97, 116, 104]⟩ = patS from rfl] at HFp
      obtain ⟨oq, hoq⟩ : ∃ oq, oq = findF fs patS := ⟨_, rfl⟩
      rw [← hoq] at HFp
      have HFa := Lib.hid (find_any w5 HSw.out ⟨#[58, 97, 117, 116, 104, 111, 114, 105, 116, 121]⟩)
      rw [show bl ⟨#[58, 97, 117, 116, 104, 111, 114, 105, 116, 121]⟩ = autN from rfl] at HFa
      obtain ⟨oa, hoa⟩ : ∃ oa, oa = findF fs autN := ⟨_, rfl⟩
      rw [← hoa] at HFa
      have HFh := Lib.hid (find_any w5 HSw.out ⟨#[104, 111, 115, 116]⟩)
      rw [show bl ⟨#[104, 111, 115, 116]⟩ = hostS from rfl] at HFh
      obtain ⟨oh, hoh⟩ : ∃ oh, oh = findF fs hostS := ⟨_, rfl⟩
      rw [← hoh] at HFh
      rw [← hom, ← hos, ← hoq, ← hoa] at HR3
      have HZm : Hid (∀ v, om = some v → v.size ≤ 1048576) := Lib.hid (fun v h => find_le HZ.out (by rw [← hom]; exact h))
      have HZq : Hid (∀ v, oq = some v → v.size ≤ 1048576) := Lib.hid (fun v h => find_le HZ.out (by rw [← hoq]; exact h))
      have HZa : Hid (∀ v, oa = some v → v.size ≤ 1048576) := Lib.hid (fun v h => find_le HZ.out (by rw [← hoa]; exact h))
      have HZh : Hid (∀ v, oh = some v → v.size ≤ 1048576) := Lib.hid (fun v h => find_le HZ.out (by rw [← hoh]; exact h))
      have HOh := Lib.hid hoh
      clear hom hos hoq hoa hoh
      cases om with
      | none =>
        obtain rfl : R = Ck.bad 183 := HR3.out
        unfold findV at HFm
        go_wp2_with fail
        refine HFm.out.mono ?_
        rintro e w8 ⟨rfl, rfl⟩
        have hth := HH5.out.there (n := 6) rfl
        have ho1 := rqC_one ⟨#[]⟩ ⟨#[]⟩ ⟨#[]⟩ ⟨#[]⟩ none 0 0 0
        go_wp2_with (refine wpList_store_mid rfl 34 (.tmp 6) (.tmp 46) rfl g2 0 #[.string ⟨#[]⟩, .string ⟨#[]⟩, .string ⟨#[]⟩, .string ⟨#[]⟩, .slice none 0 0, .int .i64 0] rfl rfl hth infoRq ho1 ?_)
        refine bodyPost_ret (results_rq2 rfl _ rfl (HH5.out.store rfl) rfl) rfl ?_
        exact ck_bad 183 HB5.out HG2.out
      | some me =>
        have HTk : Hid (∀ W : World, Calls Tryd.prog 41 #[.string me] W (Ret W (.bool (tokenL (bl me))))) := Lib.hid (fun W => by have h := token_any W (bl me) (by rw [← bl_size]; exact Nat.le_trans (HZm.out me rfl) (by decide)); rwa [strB_bl] at h)
        unfold findV at HFm
        by_cases htk : tokenL (bl me) = true
        · have HTw := Lib.hid (HTk.out w5)
          rw [htk] at HTw
          have HR4 : Hid (R = if bl me = conS then (if (os.isSome || oq.isSome) = true then Ck.bad 182 else if oa.isNone = true then Ck.bad 183 else chkHost fs me (getB os) (getB oq) oa) else (if (os.isNone || oq.isNone) = true then Ck.bad 183 else if (!okSch (bl (getB os)) || !pathL (bl me) (bl (getB oq))) = true then Ck.bad 182 else chkHost fs me (getB os) (getB oq) oa)) := Lib.hid (by rw [HR3.out]; simp only [htk]; rfl)
          clear htk HR3 HTk
          by_cases hc : bl me = conS
          · obtain ⟨m1, m2⟩ := eqT2 (s := me) (l := [67, 79, 78, 78, 69, 67, 84]) hc
            have HR6 : Hid (R = (if (os.isSome || oq.isSome) = true then Ck.bad 182 else if oa.isNone = true then Ck.bad 183 else chkHost fs me (getB os) (getB oq) oa)) := Lib.hid (by rw [HR4.out, if_pos hc])
            clear hc HR4
            cases os with
            | some sc =>
              obtain rfl : R = Ck.bad 182 := HR6.out
              unfold findV at HFs
              cases oq with
              | some pa =>
                unfold findV at HFp
                cases oa with
                | some au =>
                  unfold findV at HFa
                  go_wp2_with fail
                  refine HFm.out.mono ?_
                  rintro e w8 ⟨rfl, rfl⟩
                  go_wp2_with fail
                  refine HTw.out.mono ?_
                  rintro e w8 ⟨rfl, rfl⟩
                  go_wp2_with fail
                  refine HFs.out.mono ?_
                  rintro e w8 ⟨rfl, rfl⟩
                  go_wp2_with fail
                  refine HFp.out.mono ?_
                  rintro e w8 ⟨rfl, rfl⟩
                  go_wp2_with fail
                  refine HFa.out.mono ?_
                  rintro e w8 ⟨rfl, rfl⟩
                  have hth := HH5.out.there (n := 6) rfl
                  have ho1 := rqC_one ⟨#[]⟩ ⟨#[]⟩ ⟨#[]⟩ ⟨#[]⟩ none 0 0 0
                  go_wp2_with (refine wpList_store_mid rfl 34 (.tmp 6) (.tmp 72) rfl g2 0 #[.string ⟨#[]⟩, .string ⟨#[]⟩, .string ⟨#[]⟩, .string ⟨#[]⟩, .slice none 0 0, .int .i64 0] rfl rfl hth infoRq ho1 ?_)
                  refine bodyPost_ret (results_rq2 rfl _ rfl (HH5.out.store rfl) rfl) rfl ?_
                  exact ck_bad 182 HB5.out HG2.out
                | none =>
                  unfold findV at HFa
                  go_wp2_with fail
                  refine HFm.out.mono ?_
                  rintro e w8 ⟨rfl, rfl⟩
                  go_wp2_with fail
                  refine HTw.out.mono ?_
                  rintro e w8 ⟨rfl, rfl⟩
                  go_wp2_with fail
                  refine HFs.out.mono ?_
                  rintro e w8 ⟨rfl, rfl⟩
                  go_wp2_with fail
                  refine HFp.out.mono ?_
                  rintro e w8 ⟨rfl, rfl⟩
                  go_wp2_with fail
                  refine HFa.out.mono ?_
                  rintro e w8 ⟨rfl, rfl⟩
                  have hth := HH5.out.there (n := 6) rfl
                  have ho1 := rqC_one ⟨#[]⟩ ⟨#[]⟩ ⟨#[]⟩ ⟨#[]⟩ none 0 0 0
                  go_wp2_with (refine wpList_store_mid rfl 34 (.tmp 6) (.tmp 72) rfl g2 0 #[.string ⟨#[]⟩, .string ⟨#[]⟩, .string ⟨#[]⟩, .string ⟨#[]⟩, .slice none 0 0, .int .i64 0] rfl rfl hth infoRq ho1 ?_)
                  refine bodyPost_ret (results_rq2 rfl _ rfl (HH5.out.store rfl) rfl) rfl ?_
                  exact ck_bad 182 HB5.out HG2.out
              | none =>
                unfold findV at HFp
                cases oa with
                | some au =>
                  unfold findV at HFa
                  go_wp2_with fail
                  refine HFm.out.mono ?_
                  rintro e w8 ⟨rfl, rfl⟩
                  go_wp2_with fail
                  refine HTw.out.mono ?_
                  rintro e w8 ⟨rfl, rfl⟩
                  go_wp2_with fail
                  refine HFs.out.mono ?_
                  rintro e w8 ⟨rfl, rfl⟩
                  go_wp2_with fail
                  refine HFp.out.mono ?_
                  rintro e w8 ⟨rfl, rfl⟩
                  go_wp2_with fail
                  refine HFa.out.mono ?_
                  rintro e w8 ⟨rfl, rfl⟩
                  have hth := HH5.out.there (n := 6) rfl
                  have ho1 := rqC_one ⟨#[]⟩ ⟨#[]⟩ ⟨#[]⟩ ⟨#[]⟩ none 0 0 0
                  go_wp2_with (refine wpList_store_mid rfl 34 (.tmp 6) (.tmp 72) rfl g2 0 #[.string ⟨#[]⟩, .string ⟨#[]⟩, .string ⟨#[]⟩, .string ⟨#[]⟩, .slice none 0 0, .int .i64 0] rfl rfl hth infoRq ho1 ?_)
                  refine bodyPost_ret (results_rq2 rfl _ rfl (HH5.out.store rfl) rfl) rfl ?_
                  exact ck_bad 182 HB5.out HG2.out
                | none =>
                  unfold findV at HFa
                  go_wp2_with fail
                  refine HFm.out.mono ?_
                  rintro e w8 ⟨rfl, rfl⟩
                  go_wp2_with fail
                  refine HTw.out.mono ?_
                  rintro e w8 ⟨rfl, rfl⟩
                  go_wp2_with fail
                  refine HFs.out.mono ?_
                  rintro e w8 ⟨rfl, rfl⟩
                  go_wp2_with fail
                  refine HFp.out.mono ?_
                  rintro e w8 ⟨rfl, rfl⟩
                  go_wp2_with fail
                  refine HFa.out.mono ?_
                  rintro e w8 ⟨rfl, rfl⟩
                  have hth := HH5.out.there (n := 6) rfl
                  have ho1 := rqC_one ⟨#[]⟩ ⟨#[]⟩ ⟨#[]⟩ ⟨#[]⟩ none 0 0 0
                  go_wp2_with (refine wpList_store_mid rfl 34 (.tmp 6) (.tmp 72) rfl g2 0 #[.string ⟨#[]⟩, .string ⟨#[]⟩, .string ⟨#[]⟩, .string ⟨#[]⟩, .slice none 0 0, .int .i64 0] rfl rfl hth infoRq ho1 ?_)
                  refine bodyPost_ret (results_rq2 rfl _ rfl (HH5.out.store rfl) rfl) rfl ?_
                  exact ck_bad 182 HB5.out HG2.out
            | none =>
              unfold findV at HFs
              cases oq with
              | some pa =>
                obtain rfl : R = Ck.bad 182 := HR6.out
                unfold findV at HFp
                cases oa with
                | some au =>
                  unfold findV at HFa
                  go_wp2_with fail
                  refine HFm.out.mono ?_
                  rintro e w8 ⟨rfl, rfl⟩
                  go_wp2_with fail
                  refine HTw.out.mono ?_
                  rintro e w8 ⟨rfl, rfl⟩
                  go_wp2_with fail
                  refine HFs.out.mono ?_
                  rintro e w8 ⟨rfl, rfl⟩
                  go_wp2_with fail
                  refine HFp.out.mono ?_
                  rintro e w8 ⟨rfl, rfl⟩
                  go_wp2_with fail
                  refine HFa.out.mono ?_
                  rintro e w8 ⟨rfl, rfl⟩
                  have hth := HH5.out.there (n := 6) rfl
                  have ho1 := rqC_one ⟨#[]⟩ ⟨#[]⟩ ⟨#[]⟩ ⟨#[]⟩ none 0 0 0
                  go_wp2_with (refine wpList_store_mid rfl 34 (.tmp 6) (.tmp 72) rfl g2 0 #[.string ⟨#[]⟩, .string ⟨#[]⟩, .string ⟨#[]⟩, .string ⟨#[]⟩, .slice none 0 0, .int .i64 0] rfl rfl hth infoRq ho1 ?_)
                  refine bodyPost_ret (results_rq2 rfl _ rfl (HH5.out.store rfl) rfl) rfl ?_
                  exact ck_bad 182 HB5.out HG2.out
                | none =>
                  unfold findV at HFa
                  go_wp2_with fail
                  refine HFm.out.mono ?_
                  rintro e w8 ⟨rfl, rfl⟩
                  go_wp2_with fail
                  refine HTw.out.mono ?_
                  rintro e w8 ⟨rfl, rfl⟩
                  go_wp2_with fail
                  refine HFs.out.mono ?_
                  rintro e w8 ⟨rfl, rfl⟩
                  go_wp2_with fail
                  refine HFp.out.mono ?_
                  rintro e w8 ⟨rfl, rfl⟩
                  go_wp2_with fail
                  refine HFa.out.mono ?_
                  rintro e w8 ⟨rfl, rfl⟩
                  have hth := HH5.out.there (n := 6) rfl
                  have ho1 := rqC_one ⟨#[]⟩ ⟨#[]⟩ ⟨#[]⟩ ⟨#[]⟩ none 0 0 0
                  go_wp2_with (refine wpList_store_mid rfl 34 (.tmp 6) (.tmp 72) rfl g2 0 #[.string ⟨#[]⟩, .string ⟨#[]⟩, .string ⟨#[]⟩, .string ⟨#[]⟩, .slice none 0 0, .int .i64 0] rfl rfl hth infoRq ho1 ?_)
                  refine bodyPost_ret (results_rq2 rfl _ rfl (HH5.out.store rfl) rfl) rfl ?_
                  exact ck_bad 182 HB5.out HG2.out
              | none =>
                unfold findV at HFp
                cases oa with
                | none =>
                  obtain rfl : R = Ck.bad 183 := HR6.out
                  unfold findV at HFa
                  go_wp2_with fail
                  refine HFm.out.mono ?_
                  rintro e w8 ⟨rfl, rfl⟩
                  go_wp2_with fail
                  refine HTw.out.mono ?_
                  rintro e w8 ⟨rfl, rfl⟩
                  go_wp2_with fail
                  refine HFs.out.mono ?_
                  rintro e w8 ⟨rfl, rfl⟩
                  go_wp2_with fail
                  refine HFp.out.mono ?_
                  rintro e w8 ⟨rfl, rfl⟩
                  go_wp2_with fail
                  refine HFa.out.mono ?_
                  rintro e w8 ⟨rfl, rfl⟩
                  have hth := HH5.out.there (n := 6) rfl
                  have ho1 := rqC_one ⟨#[]⟩ ⟨#[]⟩ ⟨#[]⟩ ⟨#[]⟩ none 0 0 0
                  go_wp2_with (refine wpList_store_mid rfl 34 (.tmp 6) (.tmp 75) rfl g2 0 #[.string ⟨#[]⟩, .string ⟨#[]⟩, .string ⟨#[]⟩, .string ⟨#[]⟩, .slice none 0 0, .int .i64 0] rfl rfl hth infoRq ho1 ?_)
                  refine bodyPost_ret (results_rq2 rfl _ rfl (HH5.out.store rfl) rfl) rfl ?_
                  exact ck_bad 183 HB5.out HG2.out
                | some au =>
                  have HRa : Hid (R = chkAut fs me ⟨#[]⟩ ⟨#[]⟩ (some au)) := HR6
                  have HZu := Lib.hid (HZa.out au rfl)
                  unfold findV at HFa
                  clear HR6 HZa HZq HZm HZh HFh HOh
                  go_wp2_with fail
                  refine HFm.out.mono ?_
                  rintro e w8 ⟨rfl, rfl⟩
                  go_wp2_with fail
                  refine HTw.out.mono ?_
                  rintro e w8 ⟨rfl, rfl⟩
                  go_wp2_with fail
                  refine HFs.out.mono ?_
                  rintro e w8 ⟨rfl, rfl⟩
                  go_wp2_with fail
                  refine HFp.out.mono ?_
                  rintro e w8 ⟨rfl, rfl⟩
                  go_wp2_with fail
                  refine HFa.out.mono ?_
                  rintro e w8 ⟨rfl, rfl⟩
                  go_upto_region 31 with fail
                  clear m1 m2 HFm HTw HFs HFp HFa
                  have HAu : Hid (∀ W : World, Calls Tryd.prog 43 #[.string au] W (Ret W (.bool (authL (bl au))))) := Lib.hid (fun W => by have h := auth_any W (bl au) (by rw [← bl_size]; exact Nat.le_trans HZu.out (by decide)); rwa [strB_bl] at h)
                  have HAw := HAu.out w8
                  by_cases hau : authL (bl au) = true
                  · have HRe : Hid (R = chkEnd fs me ⟨#[]⟩ ⟨#[]⟩ au) := Lib.hid (by rw [HRa.out, chkAut]; simp only [hau]; rfl)
                    rw [hau] at HAw
                    clear hau HAu HRa HZu
                    go_wp2_with fail
                    refine HAw.mono ?_
                    rintro e w8 ⟨rfl, rfl⟩
                    clear HAw
                    go_wp2_with fail
                    go_loopw [19] (fun v wr => ∃ (i k : Nat) (a' : Option Addr) (c' : Nat), v = .int .i64 (i : Int) ∧ i ≤ n ∧ Hid ((fs.take i).any (hostBad (bl au)) = false) ∧ Hid (k = ((fs.take i).filter keepF).length) ∧ Hid (Has wr g5 34 (rqC ⟨#[]⟩ ⟨#[]⟩ ⟨#[]⟩ ⟨#[]⟩ a' k c' ((fs.take i).foldl lastL' (-1)))) ∧ Hid (Sps wr w.heap.size a' c' ((fs.take i).filter keepF)) ∧ Hid (Has wr g2 34 rq0C) ∧ Below w.heap.size w wr) (fun v _ => n - (intOf v).toNat)
                    case atStart => exact ⟨0, 0, none, 0, rfl, Nat.zero_le _, Lib.hid rfl, Lib.hid rfl, Lib.hid HR5.out, Lib.hid (World.ownsRow_nil _ _ _ _), Lib.hid HH5.out, HB5.out⟩
                    case round =>
                      clear HSw HR5 HH5 HB5
                      obtain ⟨i, k, a', c', rfl, hi, HAn, HKl, HRw, HSpw, HHw, hb⟩ := hrel
                      have HBw := Lib.hid hb
                      clear hb
                      by_cases hin : i < n
                      · have HI := Lib.hid hin
                        obtain ⟨z1, z2, z3⟩ := inj1 hin (Nat.le_trans HN.out (by decide))
                        have hil : i < fs.length := by rw [HL.out]; exact hin
                        obtain ⟨b, o, rfl, hc⟩ := HS.out.cells (Nat.lt_of_le_of_lt (Nat.zero_le _) hin)
                        obtain ⟨p0, p1⟩ := hc i hil
                        have HAny : Hid (hostBad (bl au) fs[i] = false → (fs.take (i + 1)).any (hostBad (bl au)) = false) := Lib.hid (any_on hil HAn.out)
                        have HBad : Hid (hostBad (bl au) fs[i] = true → fs.any (hostBad (bl au)) = true) := Lib.hid (fun h => List.any_eq_true.2 ⟨fs[i], List.getElem_mem _, h⟩)
                        have HFil : Hid ((fs.take (i + 1)).filter keepF = (fs.take i).filter keepF ++ (if keepF fs[i] = true then [fs[i]] else [])) := Lib.hid (by rw [List.take_succ_eq_append_getElem hil, List.filter_append, List.filter_cons]; rfl)
                        have HLast : Hid ((fs.take (i + 1)).foldl lastL' (-1) = lastL' ((fs.take i).foldl lastL' (-1)) fs[i]) := Lib.hid (by rw [List.take_succ_eq_append_getElem hil, List.foldl_append]; rfl)
                        have HKn : Hid (k ≤ 2097152) := Lib.hid (by
                          rw [HKl.out]
                          have h1 := List.length_filter_le keepF (fs.take i)
                          have h2 := List.length_take_le i fs
                          have := HN.out
                          omega)
                        obtain ⟨f, hf⟩ : ∃ f, f = fs[i] := ⟨_, rfl⟩
                        rw [← hf] at p0 p1 HAny HBad HFil HLast
                        obtain ⟨nm, hnm⟩ : ∃ nm, nm = f.nm := ⟨_, rfl⟩
                        obtain ⟨va, hva⟩ : ∃ va, va = f.va := ⟨_, rfl⟩
                        rw [← hnm] at p0
                        rw [← hva] at p1
                        have HF := Lib.hid (And.intro hnm hva)
                        have HFe : Hid (f = ⟨nm, va⟩) := Lib.hid (by rw [hnm, hva])
                        have HP0 := Lib.hid p0
                        have HP1 := Lib.hid p1
                        have HPb : Hid (b < w.heap.size) := Lib.hid (World.block_lt_of_cell? _ _ p0)
                        rw [← HBw.out.cell (World.block_lt_of_cell? _ _ p0)] at p0
                        rw [← HBw.out.cell (World.block_lt_of_cell? _ _ p1)] at p1
                        have HPs : Hid (∀ W : World, Calls Tryd.prog 45 #[.string nm] W (Ret W (.bool (psL (bl nm))))) := Lib.hid (fun W => by have h := pseudo_any W (bl nm); rwa [strB_bl] at h)
                        clear hi hin hil hc hf hnm hva HAn
                        by_cases hh : bl nm = hostS
                        · obtain ⟨e1, e2⟩ := eqT2 (s := nm) (l := [104, 111, 115, 116]) hh
                          obtain ⟨e3, e4⟩ := eqF2 (s := nm) (l := [99, 111, 110, 116, 101, 110, 116, 45, 108, 101, 110, 103, 116, 104]) (by rw [hh]; decide)
                          by_cases hv : bl va = bl au
                          · have HAny2 := Lib.hid (HAny.out (by rw [hostBad, ← HF.out.2, hv]; simp))
                            have HFil2 : Hid ((fs.take (i + 1)).filter keepF = (fs.take i).filter keepF) := Lib.hid (by rw [HFil.out, keepF, ← HF.out.1, hh]; simp)
                            have HLast2 : Hid ((fs.take (i + 1)).foldl lastL' (-1) = (fs.take i).foldl lastL' (-1)) := Lib.hid (by rw [HLast.out, lastL', ← HF.out.1, hh, if_neg (by decide)])
                            obtain rfl : va = au := eqS' hv
                            clear hv hh
                            go_wp2_with fail
                            go_roundw
                            case rel => exact ⟨i + 1, k, a', c', by first | rfl | (push_cast; rfl), HI.out, HAny2, Lib.hid (by rw [HFil2.out]; exact HKl.out), Lib.hid (by rw [HLast2.out]; exact HRw.out), Lib.hid (by rw [HFil2.out]; exact HSpw.out), HHw, HBw.out⟩
                            case measure => exact nbj3 HI.out
                          · have e5 := eqS hv
                            obtain rfl : R = Ck.bad 182 := by rw [HRe.out, chkEnd, if_pos (HBad.out (by rw [hostBad, ← HF.out.1, ← HF.out.2, hh]; simp [hv]))]
                            clear hv hh
                            have hth := HHw.out.there (n := 6) rfl
                            have ho1 := rqC_one ⟨#[]⟩ ⟨#[]⟩ ⟨#[]⟩ ⟨#[]⟩ none 0 0 0
                            go_wp2_with (refine wpList_store_mid rfl 34 (.tmp 6) (.tmp 131) rfl g2 0 #[.string ⟨#[]⟩, .string ⟨#[]⟩, .string ⟨#[]⟩, .string ⟨#[]⟩, .slice none 0 0, .int .i64 0] rfl rfl hth infoRq ho1 ?_)
                            refine bodyPost_ret (results_rq2 rfl _ rfl (HHw.out.store rfl) rfl) rfl ?_
                            exact ck_bad 182 HBw.out HG2.out
                        · obtain ⟨e1, e2⟩ := eqF2 (s := nm) (l := [104, 111, 115, 116]) hh
                          have HAny2 := Lib.hid (HAny.out (by rw [hostBad, ← HF.out.1]; simp [hh]))
                          by_cases hcl : bl nm = clS
                          · obtain ⟨e3, e4⟩ := eqT2 (s := nm) (l := [99, 111, 110, 116, 101, 110, 116, 45, 108, 101, 110, 103, 116, 104]) hcl
                            have HPn := HPs.out
                            have hps : psL (bl nm) = false := by rw [hcl]; decide
                            rw [hps] at HPs
                            have HFil2 : Hid ((fs.take (i + 1)).filter keepF = (fs.take i).filter keepF ++ [⟨nm, va⟩]) := Lib.hid (by rw [HFil.out, keepF, ← HF.out.1, hps]; simp [hh, HFe.out])
                            have HLast2 : Hid ((fs.take (i + 1)).foldl lastL' (-1) = lenL (bl va)) := Lib.hid (by rw [HLast.out, lastL', ← HF.out.1, ← HF.out.2, if_pos hcl])
                            have HLn : Hid (Calls Tryd.prog 44 #[.string va] wr (Ret wr (.int .i64 (lenL (bl va))))) := Lib.hid (by have h := length_any wr (bl va); rwa [strB_bl] at h)
                            obtain ⟨lz, hlz⟩ : ∃ lz, lz = (fs.take i).foldl lastL' (-1) := ⟨_, rfl⟩
                            rw [← hlz] at HRw
                            have g5c : wr.cell? ⟨g5, 5, none⟩ = some (.int .i64 lz) := HRw.out.cell 5 rfl
                            have g5f : wr.frozen? ⟨g5, 5, none⟩ = false := HRw.out.free 5
                            obtain ⟨lv, hlv⟩ : ∃ lv, lv = lenL (bl va) := ⟨_, rfl⟩
                            rw [← hlv] at HLn HLast2
                            clear hh hcl hps HPn hlz hlv
                            go_wp2_with fail
                            refine HLn.out.mono ?_
                            rintro e w9 ⟨rfl, rfl⟩
                            go_upto_region 40 with fail
                            obtain ⟨W, hW⟩ : ∃ W, W = w9.setCell ⟨g5, 5, none⟩ (.int .i64 lv) := ⟨_, rfl⟩
                            have HRw2 : Hid (Has W g5 34 (rqC ⟨#[]⟩ ⟨#[]⟩ ⟨#[]⟩ ⟨#[]⟩ a' k c' lv)) := Lib.hid (by rw [hW]; exact HRw.out.set 5 _)
                            have HHw2 : Hid (Has W g2 34 rq0C) := Lib.hid (by rw [hW]; exact HHw.out.other HG25.out 5 _)
                            have HSpw2 : Hid (Sps W w.heap.size a' c' ((fs.take i).filter keepF)) := Lib.hid (by rw [hW]; exact own_kept HSpw.out (Kept.set w9 g5 5 _) (fun q hq e => own_nbox HSpw.out HRw.out (by decide) hq e))
                            have HBw2 : Hid (Below w.heap.size w W) := Lib.hid (by rw [hW]; exact HBw.out.setCell (p := ⟨g5, 5, none⟩) HG5.out _)
                            rw [← hW]
                            clear g5c g5f hW HRw HHw HSpw HBw p0 p1
                            have HRw := HRw2
                            have HHw := HHw2
                            have HSpw := HSpw2
                            have HBw := HBw2
                            clear HRw2 HHw2 HSpw2 HBw2
                            have p0 := HP0.out
                            rw [← HBw.out.cell HPb.out] at p0
                            have p1 := HP1.out
                            rw [← HBw.out.cell HPb.out] at p1
                            have HPq := HPs.out W
                            go_wp2_with fail
                            refine HPq.mono ?_
                            rintro e w9 ⟨rfl, rfl⟩
                            clear HPq
                            have hbd : Below w9.heap.size w9 w9.drew := below_drewN (Below.refl w9.heap.size w9) 1
                            have HWs : Hid (w.heap.size ≤ w9.heap.size) := Lib.hid HBw.out.size
                            have HRd : Hid (Has w9.drew g5 34 (rqC ⟨#[]⟩ ⟨#[]⟩ ⟨#[]⟩ ⟨#[]⟩ a' k c' (lv))) := Lib.hid (HRw.out.kept (Kept.of_below (X := none') hbd) (fun h => h))
                            have HHd : Hid (Has w9.drew g2 34 rq0C) := Lib.hid (HHw.out.kept (Kept.of_below (X := none') hbd) (fun h => h))
                            have HSpd : Hid (Sps w9.drew w.heap.size a' c' ((fs.take i).filter keepF)) := Lib.hid (own_below HSpw.out hbd)
                            have HBd : Hid (Below w.heap.size w w9.drew) := Lib.hid (HBw.out.trans (hbd.mono HBw.out.size))
                            have HSa : Hid (Sat [(⟨g5, 4, none⟩, .slice a' k c'), (⟨b, o + i * 2, none⟩, .string nm), (⟨b, o + i * 2 + 1, none⟩, .string va)] w9.drew) := Lib.hid (Sat.cons (HRd.out.cell 4 rfl) (Sat.below (w := w9) (Sat.cons p0 (Sat.cons p1 (Sat.nil _))) hbd))
                            obtain ⟨a6, c6, w6, hr6, hsp6, hb6, hk6⟩ := app_fd (tyo := 22) ⟨nm, va⟩ HSpd.out HKl.out.symm HKn.out HBd.out.size
                            have hspk : w9.drew.ownsRow w.heap.size 64 2 (.slice a' k c') k (sv ((fs.take i).filter keepF)) := by have h := HSpd.out; unfold Sps at h; rw [← HKl.out] at h; exact h
                            have HR6 : Hid (Has w6 g5 34 (rqC ⟨#[]⟩ ⟨#[]⟩ ⟨#[]⟩ ⟨#[]⟩ a' k c' (lv))) := Lib.hid (HRd.out.kept hk6 (fun e => own_nbox hspk HRd.out (by decide) e rfl))
                            have HH6 : Hid (Has w6 g2 34 rq0C) := Lib.hid (HHd.out.kept hk6 (fun e => own_nbox hspk HHd.out (by decide) e rfl))
                            have HB6 : Hid (Below w.heap.size w w6) := Lib.hid (HBd.out.trans hb6)
                            have HSp6 := Lib.hid hsp6
                            have hal : Below w9.drew.heap.size w9.drew (w9.drew.alloc (.cells #[.string nm, .string va] 64)) := (Below.refl _ _).alloc (Nat.le_refl _) _
                            have HSal : Hid (Sat [(⟨g5, 4, none⟩, .slice a' k c'), (⟨b, o + i * 2, none⟩, .string nm), (⟨b, o + i * 2 + 1, none⟩, .string va)] (w9.drew.alloc (.cells #[.string nm, .string va] 64))) := Lib.hid (HSa.out.below hal)
                            have HSa6 : Hid (Sat [(⟨g5, 4, none⟩, .slice a' k c'), (⟨b, o + i * 2, none⟩, .string nm), (⟨b, o + i * 2 + 1, none⟩, .string va)] w6) := Lib.hid (Sat.cons (HR6.out.cell 4 rfl) (Sat.cons (by rw [HB6.out.cell (HPb.out)]; exact HP0.out) (Sat.cons (by rw [HB6.out.cell (HPb.out)]; exact HP1.out) (Sat.nil _))))
                            have k6 : w6.cell? ⟨g5, 4, none⟩ = some (.slice a' k c') := HR6.out.cell 4 rfl
                            have f6 : w6.frozen? ⟨g5, 4, none⟩ = false := HR6.out.free 4
                            clear hbd hb6 hk6 hsp6 hspk hal p0 p1
                            go_upto_region 41 with fail
                            refine Mx.regionZ [] (Sat [(⟨g5, 4, none⟩, .slice a' k c'), (⟨b, o + i * 2, none⟩, .string nm), (⟨b, o + i * 2 + 1, none⟩, .string va)]) (by kernel_rfl) (by kernel_rfl) HSa.out ?_
                            repeat ((first | (refine Mx.skips (by kernel_rfl) ?_; go_big_quiet_skip) | (refine Mx.quietly rfl ?_; go_big_quiet_want; go_big_quiet_op; go_big_quiet_on)); refine Mx.done ?_)
                            refine Mx.cell ⟨g5, 4, none⟩ (.slice a' k c') (by kernel_rfl) (by kernel_rfl) (by kernel_rfl) Tryd.isAgg22 (fun w' h => h 0 _ _ rfl) ?_
                            go_big_quiet_want; go_big_quiet_op; go_big_quiet_on; refine Mx.done ?_
                            repeat ((first | (refine Mx.skips (by kernel_rfl) ?_; go_big_quiet_skip) | (refine Mx.quietly rfl ?_; go_big_quiet_want; go_big_quiet_op; go_big_quiet_on)); refine Mx.done ?_)
                            refine Mx.mid b (o + i * 2) [.string nm, .string va] _ (by kernel_rfl) (by kernel_rfl) (by kernel_rfl) Tryd.underlying64 rfl (by kernel_rfl) (fun w' h => mid2 (h 1 _ _ rfl) (h 2 _ _ rfl)) ?_
                            go_big_quiet_want; go_big_quiet_op; go_big_quiet_on; refine Mx.done ?_
                            repeat ((first | (refine Mx.skips (by kernel_rfl) ?_; go_big_quiet_skip) | (refine Mx.quietly rfl ?_; go_big_quiet_want; go_big_quiet_op; go_big_quiet_on)); refine Mx.done ?_)
                            refine Mx.loudly (by kernel_rfl) (by kernel_rfl) ?_
                            go_wp2_with fail
                            refine ⟨HSal.out, ?_⟩
                            repeat ((first | (refine Mx.skips (by kernel_rfl) ?_; go_big_quiet_skip) | (refine Mx.quietly rfl ?_; go_big_quiet_want; go_big_quiet_op; go_big_quiet_on)); refine Mx.done ?_)
                            refine Mx.loudly (by kernel_rfl) (by kernel_rfl) ?_
                            go_wp2_with (at_builtin; refine Lib.wpList_append_run _ rfl _ _ _ _ rfl (.slice a' k c') (.slice (some ⟨w9.heap.size, 0, none⟩) 1 1) rfl rfl _ _ hr6 ?_)
                            refine ⟨HSa6.out, ?_⟩
                            repeat ((first | (refine Mx.skips (by kernel_rfl) ?_; go_big_quiet_skip) | (refine Mx.quietly rfl ?_; go_big_quiet_want; go_big_quiet_op; go_big_quiet_on)); refine Mx.done ?_)
                            refine Mx.atLast (by kernel_rfl) (by kernel_rfl) ?_
                            clear hr6
                            go_wp2_with fail
                            go_roundw
                            case rel => exact ⟨i + 1, k + 1, a6, c6, by first | rfl | (push_cast; rfl), HI.out, HAny2, Lib.hid (by rw [HFil2.out, List.length_append, ← HKl.out]; rfl), Lib.hid (by rw [HLast2.out]; exact HR6.out.set 4 _), Lib.hid (by rw [HFil2.out]; exact own_kept HSp6.out (Kept.set w6 g5 4 _) (fun q hq e => own_nbox HSp6.out HR6.out (by decide) hq e)), Lib.hid (HH6.out.other HG25.out 4 _), HB6.out.setCell (p := ⟨g5, 4, none⟩) HG5.out _⟩
                            case measure => exact nbj3 HI.out
                          · obtain ⟨e3, e4⟩ := eqF2 (s := nm) (l := [99, 111, 110, 116, 101, 110, 116, 45, 108, 101, 110, 103, 116, 104]) hcl
                            have HLast2 : Hid ((fs.take (i + 1)).foldl lastL' (-1) = (fs.take i).foldl lastL' (-1)) := Lib.hid (by rw [HLast.out, lastL', ← HF.out.1, if_neg hcl])
                            have HPq := HPs.out wr
                            by_cases hps : psL (bl nm) = true
                            · rw [hps] at HPq
                              have HFil2 : Hid ((fs.take (i + 1)).filter keepF = (fs.take i).filter keepF) := Lib.hid (by rw [HFil.out, keepF, ← HF.out.1, hps]; simp)
                              clear hps hh hcl
                              go_wp2_with fail
                              refine HPq.mono ?_
                              rintro e w9 ⟨rfl, rfl⟩
                              clear HPq
                              go_wp2_with fail
                              go_roundw
                              case rel => exact ⟨i + 1, k, a', c', by first | rfl | (push_cast; rfl), HI.out, HAny2, Lib.hid (by rw [HFil2.out]; exact HKl.out), Lib.hid (by rw [HLast2.out]; exact HRw.out), Lib.hid (by rw [HFil2.out]; exact HSpw.out), HHw, HBw.out⟩
                              case measure => exact nbj3 HI.out
                            · have hpf : psL (bl nm) = false := by simpa using hps
                              rw [hpf] at HPq
                              have HFil2 : Hid ((fs.take (i + 1)).filter keepF = (fs.take i).filter keepF ++ [⟨nm, va⟩]) := Lib.hid (by rw [HFil.out, keepF, ← HF.out.1, hpf]; simp [hh, HFe.out])
                              obtain ⟨lz, hlz⟩ : ∃ lz, lz = (fs.take i).foldl lastL' (-1) := ⟨_, rfl⟩
                              rw [← hlz] at HRw HLast2
                              clear hps hpf hh hcl hlz
                              go_wp2_with fail
                              refine HPq.mono ?_
                              rintro e w9 ⟨rfl, rfl⟩
                              clear HPq
                              have hbd : Below w9.heap.size w9 w9.drew := below_drewN (Below.refl w9.heap.size w9) 1
                              have HWs : Hid (w.heap.size ≤ w9.heap.size) := Lib.hid HBw.out.size
                              have HRd : Hid (Has w9.drew g5 34 (rqC ⟨#[]⟩ ⟨#[]⟩ ⟨#[]⟩ ⟨#[]⟩ a' k c' (lz))) := Lib.hid (HRw.out.kept (Kept.of_below (X := none') hbd) (fun h => h))
                              have HHd : Hid (Has w9.drew g2 34 rq0C) := Lib.hid (HHw.out.kept (Kept.of_below (X := none') hbd) (fun h => h))
                              have HSpd : Hid (Sps w9.drew w.heap.size a' c' ((fs.take i).filter keepF)) := Lib.hid (own_below HSpw.out hbd)
                              have HBd : Hid (Below w.heap.size w w9.drew) := Lib.hid (HBw.out.trans (hbd.mono HBw.out.size))
                              have HSa : Hid (Sat [(⟨g5, 4, none⟩, .slice a' k c'), (⟨b, o + i * 2, none⟩, .string nm), (⟨b, o + i * 2 + 1, none⟩, .string va)] w9.drew) := Lib.hid (Sat.cons (HRd.out.cell 4 rfl) (Sat.below (w := w9) (Sat.cons p0 (Sat.cons p1 (Sat.nil _))) hbd))
                              obtain ⟨a6, c6, w6, hr6, hsp6, hb6, hk6⟩ := app_fd (tyo := 22) ⟨nm, va⟩ HSpd.out HKl.out.symm HKn.out HBd.out.size
                              have hspk : w9.drew.ownsRow w.heap.size 64 2 (.slice a' k c') k (sv ((fs.take i).filter keepF)) := by have h := HSpd.out; unfold Sps at h; rw [← HKl.out] at h; exact h
                              have HR6 : Hid (Has w6 g5 34 (rqC ⟨#[]⟩ ⟨#[]⟩ ⟨#[]⟩ ⟨#[]⟩ a' k c' (lz))) := Lib.hid (HRd.out.kept hk6 (fun e => own_nbox hspk HRd.out (by decide) e rfl))
                              have HH6 : Hid (Has w6 g2 34 rq0C) := Lib.hid (HHd.out.kept hk6 (fun e => own_nbox hspk HHd.out (by decide) e rfl))
                              have HB6 : Hid (Below w.heap.size w w6) := Lib.hid (HBd.out.trans hb6)
                              have HSp6 := Lib.hid hsp6
                              have hal : Below w9.drew.heap.size w9.drew (w9.drew.alloc (.cells #[.string nm, .string va] 64)) := (Below.refl _ _).alloc (Nat.le_refl _) _
                              have HSal : Hid (Sat [(⟨g5, 4, none⟩, .slice a' k c'), (⟨b, o + i * 2, none⟩, .string nm), (⟨b, o + i * 2 + 1, none⟩, .string va)] (w9.drew.alloc (.cells #[.string nm, .string va] 64))) := Lib.hid (HSa.out.below hal)
                              have HSa6 : Hid (Sat [(⟨g5, 4, none⟩, .slice a' k c'), (⟨b, o + i * 2, none⟩, .string nm), (⟨b, o + i * 2 + 1, none⟩, .string va)] w6) := Lib.hid (Sat.cons (HR6.out.cell 4 rfl) (Sat.cons (by rw [HB6.out.cell (HPb.out)]; exact HP0.out) (Sat.cons (by rw [HB6.out.cell (HPb.out)]; exact HP1.out) (Sat.nil _))))
                              have k6 : w6.cell? ⟨g5, 4, none⟩ = some (.slice a' k c') := HR6.out.cell 4 rfl
                              have f6 : w6.frozen? ⟨g5, 4, none⟩ = false := HR6.out.free 4
                              clear hbd hb6 hk6 hsp6 hspk hal p0 p1
                              go_upto_region 41 with fail
                              refine Mx.regionZ [] (Sat [(⟨g5, 4, none⟩, .slice a' k c'), (⟨b, o + i * 2, none⟩, .string nm), (⟨b, o + i * 2 + 1, none⟩, .string va)]) (by kernel_rfl) (by kernel_rfl) HSa.out ?_
                              repeat ((first | (refine Mx.skips (by kernel_rfl) ?_; go_big_quiet_skip) | (refine Mx.quietly rfl ?_; go_big_quiet_want; go_big_quiet_op; go_big_quiet_on)); refine Mx.done ?_)
                              refine Mx.cell ⟨g5, 4, none⟩ (.slice a' k c') (by kernel_rfl) (by kernel_rfl) (by kernel_rfl) Tryd.isAgg22 (fun w' h => h 0 _ _ rfl) ?_
                              go_big_quiet_want; go_big_quiet_op; go_big_quiet_on; refine Mx.done ?_
                              repeat ((first | (refine Mx.skips (by kernel_rfl) ?_; go_big_quiet_skip) | (refine Mx.quietly rfl ?_; go_big_quiet_want; go_big_quiet_op; go_big_quiet_on)); refine Mx.done ?_)
                              refine Mx.mid b (o + i * 2) [.string nm, .string va] _ (by kernel_rfl) (by kernel_rfl) (by kernel_rfl) Tryd.underlying64 rfl (by kernel_rfl) (fun w' h => mid2 (h 1 _ _ rfl) (h 2 _ _ rfl)) ?_
                              go_big_quiet_want; go_big_quiet_op; go_big_quiet_on; refine Mx.done ?_
                              repeat ((first | (refine Mx.skips (by kernel_rfl) ?_; go_big_quiet_skip) | (refine Mx.quietly rfl ?_; go_big_quiet_want; go_big_quiet_op; go_big_quiet_on)); refine Mx.done ?_)
                              refine Mx.loudly (by kernel_rfl) (by kernel_rfl) ?_
                              go_wp2_with fail
                              refine ⟨HSal.out, ?_⟩
                              repeat ((first | (refine Mx.skips (by kernel_rfl) ?_; go_big_quiet_skip) | (refine Mx.quietly rfl ?_; go_big_quiet_want; go_big_quiet_op; go_big_quiet_on)); refine Mx.done ?_)
                              refine Mx.loudly (by kernel_rfl) (by kernel_rfl) ?_
                              go_wp2_with (at_builtin; refine Lib.wpList_append_run _ rfl _ _ _ _ rfl (.slice a' k c') (.slice (some ⟨w9.heap.size, 0, none⟩) 1 1) rfl rfl _ _ hr6 ?_)
                              refine ⟨HSa6.out, ?_⟩
                              repeat ((first | (refine Mx.skips (by kernel_rfl) ?_; go_big_quiet_skip) | (refine Mx.quietly rfl ?_; go_big_quiet_want; go_big_quiet_op; go_big_quiet_on)); refine Mx.done ?_)
                              refine Mx.atLast (by kernel_rfl) (by kernel_rfl) ?_
                              clear hr6
                              go_wp2_with fail
                              go_roundw
                              case rel => exact ⟨i + 1, k + 1, a6, c6, by first | rfl | (push_cast; rfl), HI.out, HAny2, Lib.hid (by rw [HFil2.out, List.length_append, ← HKl.out]; rfl), Lib.hid (by rw [HLast2.out]; exact HR6.out.set 4 _), Lib.hid (by rw [HFil2.out]; exact own_kept HSp6.out (Kept.set w6 g5 4 _) (fun q hq e => own_nbox HSp6.out HR6.out (by decide) hq e)), Lib.hid (HH6.out.other HG25.out 4 _), HB6.out.setCell (p := ⟨g5, 4, none⟩) HG5.out _⟩
                              case measure => exact nbj3 HI.out
                      · have z1 := inj2 hin
                        obtain rfl : i = n := Nat.le_antisymm hi (Nat.le_of_not_lt hin)
                        have et : fs.take i = fs := List.take_of_length_le (by rw [HL.out]; exact Nat.le_refl _)
                        rw [et] at HAn HKl HRw HSpw
                        obtain rfl : R = ⟨⟨me, ⟨#[]⟩, au, ⟨#[]⟩, fs.filter keepF, fs.foldl lastL' (-1)⟩, 0⟩ := by rw [HRe.out, chkEnd, if_neg (by rw [HAn.out]; decide)]
                        obtain ⟨lz, hlz⟩ : ∃ lz, lz = fs.foldl lastL' (-1) := ⟨_, rfl⟩
                        obtain ⟨fl, hfl⟩ : ∃ fl, fl = fs.filter keepF := ⟨_, rfl⟩
                        rw [← hlz] at HRw
                        rw [← hfl] at HKl HSpw
                        have HLz := Lib.hid hlz
                        have HFl := Lib.hid hfl
                        have b0 : wr.cell? ⟨g5, 0, none⟩ = some (.string ⟨#[]⟩) := HRw.out.cell 0 rfl
                        have b1 : wr.cell? ⟨g5, 1, none⟩ = some (.string ⟨#[]⟩) := HRw.out.cell 1 rfl
                        have b2 : wr.cell? ⟨g5, 2, none⟩ = some (.string ⟨#[]⟩) := HRw.out.cell 2 rfl
                        have b3 : wr.cell? ⟨g5, 3, none⟩ = some (.string ⟨#[]⟩) := HRw.out.cell 3 rfl
                        have d0 : wr.frozen? ⟨g5, 0, none⟩ = false := HRw.out.free 0
                        have d1 : wr.frozen? ⟨g5, 1, none⟩ = false := HRw.out.free 1
                        have d2 : wr.frozen? ⟨g5, 2, none⟩ = false := HRw.out.free 2
                        have d3 : wr.frozen? ⟨g5, 3, none⟩ = false := HRw.out.free 3
                        clear hi hin et hlz hfl HAn HRe
                        go_upto_region 43 with fail
                        obtain ⟨W, hW⟩ : ∃ W, W = wr.setCells g5 0 [.string me, .string ⟨#[]⟩, .string au, .string ⟨#[]⟩] := ⟨_, rfl⟩
                        have HRW : Hid (Has W g5 34 (rqC me ⟨#[]⟩ au ⟨#[]⟩ a' k c' lz)) := Lib.hid (by rw [hW]; exact (((HRw.out.set 0 _).set 1 _).set 2 _).set 3 _)
                        have HHW : Hid (Has W g2 34 rq0C) := Lib.hid (by rw [hW]; exact HHw.out.kept (Kept.sets g5 _ 0 wr) HG25.out)
                        have HSpW : Hid (Sps W w.heap.size a' c' fl) := Lib.hid (by rw [hW]; exact own_kept HSpw.out (Kept.sets g5 _ 0 wr) (fun q hq e => own_nbox HSpw.out HRw.out (by decide) hq e))
                        have HBW : Hid (Below w.heap.size w W) := Lib.hid (by rw [hW]; exact HBw.out.trans ((Kept.sets g5 _ 0 wr).below HBw.out.size (fun q hq => by rw [hq]; exact HG5.out)))
                        rw [show (((wr.setCell ⟨g5, 0, none⟩ (.string me)).setCell ⟨g5, 1, none⟩ (.string ⟨#[]⟩)).setCell ⟨g5, 2, none⟩ (.string au)).setCell ⟨g5, 3, none⟩ (.string ⟨#[]⟩) = W from hW.symm]
                        clear hW b0 b1 b2 b3 d0 d1 d2 d3 HRw HHw HSpw HBw
                        have b0 : W.cell? ⟨g5, 0, none⟩ = some (.string me) := HRW.out.cell 0 rfl
                        have b1 : W.cell? ⟨g5, 1, none⟩ = some (.string ⟨#[]⟩) := HRW.out.cell 1 rfl
                        have b2 : W.cell? ⟨g5, 2, none⟩ = some (.string au) := HRW.out.cell 2 rfl
                        have b3 : W.cell? ⟨g5, 3, none⟩ = some (.string ⟨#[]⟩) := HRW.out.cell 3 rfl
                        have b4 : W.cell? ⟨g5, 4, none⟩ = some (.slice a' k c') := HRW.out.cell 4 rfl
                        have b5 : W.cell? ⟨g5, 5, none⟩ = some (.int .i64 lz) := HRW.out.cell 5 rfl
                        have hth := HHW.out.there (n := 6) rfl
                        have ho1 := rqC_one me ⟨#[]⟩ au ⟨#[]⟩ a' k c' lz
                        go_wp2_with (refine wpList_store_mid rfl 34 (.tmp 6) (.tmp 177) rfl g2 0 #[.string me, .string ⟨#[]⟩, .string au, .string ⟨#[]⟩, .slice a' k c', .int .i64 lz] rfl rfl hth infoRq ho1 ?_)
                        refine bodyPost_ret (results_rq2 rfl _ rfl (HHW.out.store (vs := rqC me ⟨#[]⟩ au ⟨#[]⟩ a' k c' lz) rfl) rfl) rfl ?_
                        show CkR w ⟨⟨me, ⟨#[]⟩, au, ⟨#[]⟩, fs.filter keepF, fs.foldl lastL' (-1)⟩, 0⟩ _ _
                        rw [← HFl.out, ← HLz.out]
                        refine ⟨a', c', ?_, ?_, ?_⟩
                        · show Ending.returned _ = Ending.returned (.tuple #[.agg #[.string me, .string ⟨#[]⟩, .string au, .string ⟨#[]⟩, .slice a' fl.length c', .int .i64 lz], .int .i64 0])
                          rw [← HKl.out]
                          rfl
                        · exact own_kept HSpW.out (Kept.sets g2 _ 0 W) (fun q hq e => own_nbox HSpW.out HHW.out (by decide) hq e)
                        · exact HBW.out.trans ((Kept.sets g2 _ 0 W).below HBW.out.size (fun q hq => by rw [hq]; exact HG2.out))
                  · have haf : authL (bl au) = false := by simpa using hau
                    rw [haf] at HAw
                    obtain rfl : R = Ck.bad 182 := by rw [HRa.out, chkAut, if_pos haf]
                    clear hau haf
                    go_wp2_with fail
                    refine HAw.mono ?_
                    rintro e w8 ⟨rfl, rfl⟩
                    clear HAw
                    have hth := HH5.out.there (n := 6) rfl
                    have ho1 := rqC_one ⟨#[]⟩ ⟨#[]⟩ ⟨#[]⟩ ⟨#[]⟩ none 0 0 0
                    go_wp2_with (refine wpList_store_mid rfl 34 (.tmp 6) (.tmp 109) rfl g2 0 #[.string ⟨#[]⟩, .string ⟨#[]⟩, .string ⟨#[]⟩, .string ⟨#[]⟩, .slice none 0 0, .int .i64 0] rfl rfl hth infoRq ho1 ?_)
                    refine bodyPost_ret (results_rq2 rfl _ rfl (HH5.out.store rfl) rfl) rfl ?_
                    exact ck_bad 182 HB5.out HG2.out
          · obtain ⟨m1, m2⟩ := eqF2 (s := me) (l := [67, 79, 78, 78, 69, 67, 84]) hc
            have HR6 : Hid (R = (if (os.isNone || oq.isNone) = true then Ck.bad 183 else if (!okSch (bl (getB os)) || !pathL (bl me) (bl (getB oq))) = true then Ck.bad 182 else chkHost fs me (getB os) (getB oq) oa)) := Lib.hid (by rw [HR4.out, if_neg hc])
            clear hc HR4
            cases os with
            | none =>
              obtain rfl : R = Ck.bad 183 := HR6.out
              unfold findV at HFs
              cases oq with
              | some pa =>
                unfold findV at HFp
                cases oa with
                | some au =>
                  unfold findV at HFa
                  go_wp2_with fail
                  refine HFm.out.mono ?_
                  rintro e w8 ⟨rfl, rfl⟩
                  go_wp2_with fail
                  refine HTw.out.mono ?_
                  rintro e w8 ⟨rfl, rfl⟩
                  go_wp2_with fail
                  refine HFs.out.mono ?_
                  rintro e w8 ⟨rfl, rfl⟩
                  go_wp2_with fail
                  refine HFp.out.mono ?_
                  rintro e w8 ⟨rfl, rfl⟩
                  go_wp2_with fail
                  refine HFa.out.mono ?_
                  rintro e w8 ⟨rfl, rfl⟩
                  have hth := HH5.out.there (n := 6) rfl
                  have ho1 := rqC_one ⟨#[]⟩ ⟨#[]⟩ ⟨#[]⟩ ⟨#[]⟩ none 0 0 0
                  go_wp2_with (refine wpList_store_mid rfl 34 (.tmp 6) (.tmp 82) rfl g2 0 #[.string ⟨#[]⟩, .string ⟨#[]⟩, .string ⟨#[]⟩, .string ⟨#[]⟩, .slice none 0 0, .int .i64 0] rfl rfl hth infoRq ho1 ?_)
                  refine bodyPost_ret (results_rq2 rfl _ rfl (HH5.out.store rfl) rfl) rfl ?_
                  exact ck_bad 183 HB5.out HG2.out
                | none =>
                  unfold findV at HFa
                  go_wp2_with fail
                  refine HFm.out.mono ?_
                  rintro e w8 ⟨rfl, rfl⟩
                  go_wp2_with fail
                  refine HTw.out.mono ?_
                  rintro e w8 ⟨rfl, rfl⟩
                  go_wp2_with fail
                  refine HFs.out.mono ?_
                  rintro e w8 ⟨rfl, rfl⟩
                  go_wp2_with fail
                  refine HFp.out.mono ?_
                  rintro e w8 ⟨rfl, rfl⟩
                  go_wp2_with fail
                  refine HFa.out.mono ?_
                  rintro e w8 ⟨rfl, rfl⟩
                  have hth := HH5.out.there (n := 6) rfl
                  have ho1 := rqC_one ⟨#[]⟩ ⟨#[]⟩ ⟨#[]⟩ ⟨#[]⟩ none 0 0 0
                  go_wp2_with (refine wpList_store_mid rfl 34 (.tmp 6) (.tmp 82) rfl g2 0 #[.string ⟨#[]⟩, .string ⟨#[]⟩, .string ⟨#[]⟩, .string ⟨#[]⟩, .slice none 0 0, .int .i64 0] rfl rfl hth infoRq ho1 ?_)
                  refine bodyPost_ret (results_rq2 rfl _ rfl (HH5.out.store rfl) rfl) rfl ?_
                  exact ck_bad 183 HB5.out HG2.out
              | none =>
                unfold findV at HFp
                cases oa with
                | some au =>
                  unfold findV at HFa
                  go_wp2_with fail
                  refine HFm.out.mono ?_
                  rintro e w8 ⟨rfl, rfl⟩
                  go_wp2_with fail
                  refine HTw.out.mono ?_
                  rintro e w8 ⟨rfl, rfl⟩
                  go_wp2_with fail
                  refine HFs.out.mono ?_
                  rintro e w8 ⟨rfl, rfl⟩
                  go_wp2_with fail
                  refine HFp.out.mono ?_
                  rintro e w8 ⟨rfl, rfl⟩
                  go_wp2_with fail
                  refine HFa.out.mono ?_
                  rintro e w8 ⟨rfl, rfl⟩
                  have hth := HH5.out.there (n := 6) rfl
                  have ho1 := rqC_one ⟨#[]⟩ ⟨#[]⟩ ⟨#[]⟩ ⟨#[]⟩ none 0 0 0
                  go_wp2_with (refine wpList_store_mid rfl 34 (.tmp 6) (.tmp 82) rfl g2 0 #[.string ⟨#[]⟩, .string ⟨#[]⟩, .string ⟨#[]⟩, .string ⟨#[]⟩, .slice none 0 0, .int .i64 0] rfl rfl hth infoRq ho1 ?_)
                  refine bodyPost_ret (results_rq2 rfl _ rfl (HH5.out.store rfl) rfl) rfl ?_
                  exact ck_bad 183 HB5.out HG2.out
                | none =>
                  unfold findV at HFa
                  go_wp2_with fail
                  refine HFm.out.mono ?_
                  rintro e w8 ⟨rfl, rfl⟩
                  go_wp2_with fail
                  refine HTw.out.mono ?_
                  rintro e w8 ⟨rfl, rfl⟩
                  go_wp2_with fail
                  refine HFs.out.mono ?_
                  rintro e w8 ⟨rfl, rfl⟩
                  go_wp2_with fail
                  refine HFp.out.mono ?_
                  rintro e w8 ⟨rfl, rfl⟩
                  go_wp2_with fail
                  refine HFa.out.mono ?_
                  rintro e w8 ⟨rfl, rfl⟩
                  have hth := HH5.out.there (n := 6) rfl
                  have ho1 := rqC_one ⟨#[]⟩ ⟨#[]⟩ ⟨#[]⟩ ⟨#[]⟩ none 0 0 0
                  go_wp2_with (refine wpList_store_mid rfl 34 (.tmp 6) (.tmp 82) rfl g2 0 #[.string ⟨#[]⟩, .string ⟨#[]⟩, .string ⟨#[]⟩, .string ⟨#[]⟩, .slice none 0 0, .int .i64 0] rfl rfl hth infoRq ho1 ?_)
                  refine bodyPost_ret (results_rq2 rfl _ rfl (HH5.out.store rfl) rfl) rfl ?_
                  exact ck_bad 183 HB5.out HG2.out
            | some sc =>
              unfold findV at HFs
              cases oq with
              | none =>
                obtain rfl : R = Ck.bad 183 := HR6.out
                unfold findV at HFp
                cases oa with
                | some au =>
                  unfold findV at HFa
                  go_wp2_with fail
                  refine HFm.out.mono ?_
                  rintro e w8 ⟨rfl, rfl⟩
                  go_wp2_with fail
                  refine HTw.out.mono ?_
                  rintro e w8 ⟨rfl, rfl⟩
                  go_wp2_with fail
                  refine HFs.out.mono ?_
                  rintro e w8 ⟨rfl, rfl⟩
                  go_wp2_with fail
                  refine HFp.out.mono ?_
                  rintro e w8 ⟨rfl, rfl⟩
                  go_wp2_with fail
                  refine HFa.out.mono ?_
                  rintro e w8 ⟨rfl, rfl⟩
                  have hth := HH5.out.there (n := 6) rfl
                  have ho1 := rqC_one ⟨#[]⟩ ⟨#[]⟩ ⟨#[]⟩ ⟨#[]⟩ none 0 0 0
                  go_wp2_with (refine wpList_store_mid rfl 34 (.tmp 6) (.tmp 82) rfl g2 0 #[.string ⟨#[]⟩, .string ⟨#[]⟩, .string ⟨#[]⟩, .string ⟨#[]⟩, .slice none 0 0, .int .i64 0] rfl rfl hth infoRq ho1 ?_)
                  refine bodyPost_ret (results_rq2 rfl _ rfl (HH5.out.store rfl) rfl) rfl ?_
                  exact ck_bad 183 HB5.out HG2.out
                | none =>
                  unfold findV at HFa
                  go_wp2_with fail
                  refine HFm.out.mono ?_
                  rintro e w8 ⟨rfl, rfl⟩
                  go_wp2_with fail
                  refine HTw.out.mono ?_
                  rintro e w8 ⟨rfl, rfl⟩
                  go_wp2_with fail
                  refine HFs.out.mono ?_
                  rintro e w8 ⟨rfl, rfl⟩
                  go_wp2_with fail
                  refine HFp.out.mono ?_
                  rintro e w8 ⟨rfl, rfl⟩
                  go_wp2_with fail
                  refine HFa.out.mono ?_
                  rintro e w8 ⟨rfl, rfl⟩
                  have hth := HH5.out.there (n := 6) rfl
                  have ho1 := rqC_one ⟨#[]⟩ ⟨#[]⟩ ⟨#[]⟩ ⟨#[]⟩ none 0 0 0
                  go_wp2_with (refine wpList_store_mid rfl 34 (.tmp 6) (.tmp 82) rfl g2 0 #[.string ⟨#[]⟩, .string ⟨#[]⟩, .string ⟨#[]⟩, .string ⟨#[]⟩, .slice none 0 0, .int .i64 0] rfl rfl hth infoRq ho1 ?_)
                  refine bodyPost_ret (results_rq2 rfl _ rfl (HH5.out.store rfl) rfl) rfl ?_
                  exact ck_bad 183 HB5.out HG2.out
              | some pa =>
                unfold findV at HFp
                have HPa : Hid (∀ W : World, Calls Tryd.prog 42 #[.string me, .string pa] W (Ret W (.bool (pathL (bl me) (bl pa))))) := Lib.hid (fun W => by have h := path_any W me (bl pa) (by rw [← bl_size]; exact Nat.le_trans (HZq.out pa rfl) (by decide)); rwa [strB_bl] at h)
                have HR7 : Hid (R = if (!okSch (bl sc) || !pathL (bl me) (bl pa)) = true then Ck.bad 182 else chkHost fs me sc pa oa) := HR6
                clear HR6
                by_cases hs1 : bl sc = [104, 116, 116, 112]
                · obtain ⟨s1, s2⟩ := eqT2 (s := sc) (l := [104, 116, 116, 112]) hs1
                  have hok : okSch (bl sc) = true := by rw [hs1]; rfl
                  have HR8 : Hid (R = if (!pathL (bl me) (bl pa)) = true then Ck.bad 182 else chkHost fs me sc pa oa) := Lib.hid (by rw [HR7.out, hok]; rfl)
                  clear hs1 hok HR7
                  by_cases hp : pathL (bl me) (bl pa) = true
                  · have HPw := HPa.out w5
                    rw [hp] at HPw
                    have HPh := Lib.hid HPw
                    have HR9 : Hid (R = chkHost fs me sc pa oa) := Lib.hid (by rw [HR8.out, hp]; rfl)
                    clear hp HPw HPa HR8
                    cases oa with
                    | some au =>
                      have HRa : Hid (R = chkAut fs me sc pa (some au)) := HR9
                      have HZu := Lib.hid (HZa.out au rfl)
                      unfold findV at HFa
                      clear HR9 HZa HZq HZm HZh HFh HOh
                      go_wp2_with fail
                      refine HFm.out.mono ?_
                      rintro e w8 ⟨rfl, rfl⟩
                      go_wp2_with fail
                      refine HTw.out.mono ?_
                      rintro e w8 ⟨rfl, rfl⟩
                      go_wp2_with fail
                      refine HFs.out.mono ?_
                      rintro e w8 ⟨rfl, rfl⟩
                      go_wp2_with fail
                      refine HFp.out.mono ?_
                      rintro e w8 ⟨rfl, rfl⟩
                      go_wp2_with fail
                      refine HFa.out.mono ?_
                      rintro e w8 ⟨rfl, rfl⟩
                      go_wp2_with fail
                      refine HPh.out.mono ?_
                      rintro e w8 ⟨rfl, rfl⟩
                      go_upto_region 31 with fail
                      clear m1 m2 HFm HTw HFs HFp HFa HPh
                      have HAu : Hid (∀ W : World, Calls Tryd.prog 43 #[.string au] W (Ret W (.bool (authL (bl au))))) := Lib.hid (fun W => by have h := auth_any W (bl au) (by rw [← bl_size]; exact Nat.le_trans HZu.out (by decide)); rwa [strB_bl] at h)
                      have HAw := HAu.out w8
                      by_cases hau : authL (bl au) = true
                      · have HRe : Hid (R = chkEnd fs me sc pa au) := Lib.hid (by rw [HRa.out, chkAut]; simp only [hau]; rfl)
                        rw [hau] at HAw
                        clear hau HAu HRa HZu
                        go_wp2_with fail
                        refine HAw.mono ?_
                        rintro e w8 ⟨rfl, rfl⟩
                        clear HAw
                        go_wp2_with fail
                        go_loopw [19] (fun v wr => ∃ (i k : Nat) (a' : Option Addr) (c' : Nat), v = .int .i64 (i : Int) ∧ i ≤ n ∧ Hid ((fs.take i).any (hostBad (bl au)) = false) ∧ Hid (k = ((fs.take i).filter keepF).length) ∧ Hid (Has wr g5 34 (rqC ⟨#[]⟩ ⟨#[]⟩ ⟨#[]⟩ ⟨#[]⟩ a' k c' ((fs.take i).foldl lastL' (-1)))) ∧ Hid (Sps wr w.heap.size a' c' ((fs.take i).filter keepF)) ∧ Hid (Has wr g2 34 rq0C) ∧ Below w.heap.size w wr) (fun v _ => n - (intOf v).toNat)
                        case atStart => exact ⟨0, 0, none, 0, rfl, Nat.zero_le _, Lib.hid rfl, Lib.hid rfl, Lib.hid HR5.out, Lib.hid (World.ownsRow_nil _ _ _ _), Lib.hid HH5.out, HB5.out⟩
                        case round =>
                          clear HSw HR5 HH5 HB5
                          obtain ⟨i, k, a', c', rfl, hi, HAn, HKl, HRw, HSpw, HHw, hb⟩ := hrel
                          have HBw := Lib.hid hb
                          clear hb
                          by_cases hin : i < n
                          · have HI := Lib.hid hin
                            obtain ⟨z1, z2, z3⟩ := inj1 hin (Nat.le_trans HN.out (by decide))
                            have hil : i < fs.length := by rw [HL.out]; exact hin
                            obtain ⟨b, o, rfl, hc⟩ := HS.out.cells (Nat.lt_of_le_of_lt (Nat.zero_le _) hin)
                            obtain ⟨p0, p1⟩ := hc i hil
                            have HAny : Hid (hostBad (bl au) fs[i] = false → (fs.take (i + 1)).any (hostBad (bl au)) = false) := Lib.hid (any_on hil HAn.out)
                            have HBad : Hid (hostBad (bl au) fs[i] = true → fs.any (hostBad (bl au)) = true) := Lib.hid (fun h => List.any_eq_true.2 ⟨fs[i], List.getElem_mem _, h⟩)
                            have HFil : Hid ((fs.take (i + 1)).filter keepF = (fs.take i).filter keepF ++ (if keepF fs[i] = true then [fs[i]] else [])) := Lib.hid (by rw [List.take_succ_eq_append_getElem hil, List.filter_append, List.filter_cons]; rfl)
                            have HLast : Hid ((fs.take (i + 1)).foldl lastL' (-1) = lastL' ((fs.take i).foldl lastL' (-1)) fs[i]) := Lib.hid (by rw [List.take_succ_eq_append_getElem hil, List.foldl_append]; rfl)
                            have HKn : Hid (k ≤ 2097152) := Lib.hid (by
                              rw [HKl.out]
                              have h1 := List.length_filter_le keepF (fs.take i)
                              have h2 := List.length_take_le i fs
                              have := HN.out
                              omega)
                            obtain ⟨f, hf⟩ : ∃ f, f = fs[i] := ⟨_, rfl⟩
                            rw [← hf] at p0 p1 HAny HBad HFil HLast
                            obtain ⟨nm, hnm⟩ : ∃ nm, nm = f.nm := ⟨_, rfl⟩
                            obtain ⟨va, hva⟩ : ∃ va, va = f.va := ⟨_, rfl⟩
                            rw [← hnm] at p0
                            rw [← hva] at p1
                            have HF := Lib.hid (And.intro hnm hva)
                            have HFe : Hid (f = ⟨nm, va⟩) := Lib.hid (by rw [hnm, hva])
                            have HP0 := Lib.hid p0
                            have HP1 := Lib.hid p1
                            have HPb : Hid (b < w.heap.size) := Lib.hid (World.block_lt_of_cell? _ _ p0)
                            rw [← HBw.out.cell (World.block_lt_of_cell? _ _ p0)] at p0
                            rw [← HBw.out.cell (World.block_lt_of_cell? _ _ p1)] at p1
                            have HPs : Hid (∀ W : World, Calls Tryd.prog 45 #[.string nm] W (Ret W (.bool (psL (bl nm))))) := Lib.hid (fun W => by have h := pseudo_any W (bl nm); rwa [strB_bl] at h)
                            clear hi hin hil hc hf hnm hva HAn
                            by_cases hh : bl nm = hostS
                            · obtain ⟨e1, e2⟩ := eqT2 (s := nm) (l := [104, 111, 115, 116]) hh
                              obtain ⟨e3, e4⟩ := eqF2 (s := nm) (l := [99, 111, 110, 116, 101, 110, 116, 45, 108, 101, 110, 103, 116, 104]) (by rw [hh]; decide)
                              by_cases hv : bl va = bl au
                              · have HAny2 := Lib.hid (HAny.out (by rw [hostBad, ← HF.out.2, hv]; simp))
                                have HFil2 : Hid ((fs.take (i + 1)).filter keepF = (fs.take i).filter keepF) := Lib.hid (by rw [HFil.out, keepF, ← HF.out.1, hh]; simp)
                                have HLast2 : Hid ((fs.take (i + 1)).foldl lastL' (-1) = (fs.take i).foldl lastL' (-1)) := Lib.hid (by rw [HLast.out, lastL', ← HF.out.1, hh, if_neg (by decide)])
                                obtain rfl : va = au := eqS' hv
                                clear hv hh
                                go_wp2_with fail
                                go_roundw
                                case rel => exact ⟨i + 1, k, a', c', by first | rfl | (push_cast; rfl), HI.out, HAny2, Lib.hid (by rw [HFil2.out]; exact HKl.out), Lib.hid (by rw [HLast2.out]; exact HRw.out), Lib.hid (by rw [HFil2.out]; exact HSpw.out), HHw, HBw.out⟩
                                case measure => exact nbj3 HI.out
                              · have e5 := eqS hv
                                obtain rfl : R = Ck.bad 182 := by rw [HRe.out, chkEnd, if_pos (HBad.out (by rw [hostBad, ← HF.out.1, ← HF.out.2, hh]; simp [hv]))]
                                clear hv hh
                                have hth := HHw.out.there (n := 6) rfl
                                have ho1 := rqC_one ⟨#[]⟩ ⟨#[]⟩ ⟨#[]⟩ ⟨#[]⟩ none 0 0 0
                                go_wp2_with (refine wpList_store_mid rfl 34 (.tmp 6) (.tmp 131) rfl g2 0 #[.string ⟨#[]⟩, .string ⟨#[]⟩, .string ⟨#[]⟩, .string ⟨#[]⟩, .slice none 0 0, .int .i64 0] rfl rfl hth infoRq ho1 ?_)
                                refine bodyPost_ret (results_rq2 rfl _ rfl (HHw.out.store rfl) rfl) rfl ?_
                                exact ck_bad 182 HBw.out HG2.out
                            · obtain ⟨e1, e2⟩ := eqF2 (s := nm) (l := [104, 111, 115, 116]) hh
                              have HAny2 := Lib.hid (HAny.out (by rw [hostBad, ← HF.out.1]; simp [hh]))
                              by_cases hcl : bl nm = clS
                              · obtain ⟨e3, e4⟩ := eqT2 (s := nm) (l := [99, 111, 110, 116, 101, 110, 116, 45, 108, 101, 110, 103, 116, 104]) hcl
                                have HPn := HPs.out
                                have hps : psL (bl nm) = false := by rw [hcl]; decide
                                rw [hps] at HPs
                                have HFil2 : Hid ((fs.take (i + 1)).filter keepF = (fs.take i).filter keepF ++ [⟨nm, va⟩]) := Lib.hid (by rw [HFil.out, keepF, ← HF.out.1, hps]; simp [hh, HFe.out])
                                have HLast2 : Hid ((fs.take (i + 1)).foldl lastL' (-1) = lenL (bl va)) := Lib.hid (by rw [HLast.out, lastL', ← HF.out.1, ← HF.out.2, if_pos hcl])
                                have HLn : Hid (Calls Tryd.prog 44 #[.string va] wr (Ret wr (.int .i64 (lenL (bl va))))) := Lib.hid (by have h := length_any wr (bl va); rwa [strB_bl] at h)
                                obtain ⟨lz, hlz⟩ : ∃ lz, lz = (fs.take i).foldl lastL' (-1) := ⟨_, rfl⟩
                                rw [← hlz] at HRw
                                have g5c : wr.cell? ⟨g5, 5, none⟩ = some (.int .i64 lz) := HRw.out.cell 5 rfl
                                have g5f : wr.frozen? ⟨g5, 5, none⟩ = false := HRw.out.free 5
                                obtain ⟨lv, hlv⟩ : ∃ lv, lv = lenL (bl va) := ⟨_, rfl⟩
                                rw [← hlv] at HLn HLast2
                                clear hh hcl hps HPn hlz hlv
                                go_wp2_with fail
                                refine HLn.out.mono ?_
                                rintro e w9 ⟨rfl, rfl⟩
                                go_upto_region 40 with fail
                                obtain ⟨W, hW⟩ : ∃ W, W = w9.setCell ⟨g5, 5, none⟩ (.int .i64 lv) := ⟨_, rfl⟩
                                have HRw2 : Hid (Has W g5 34 (rqC ⟨#[]⟩ ⟨#[]⟩ ⟨#[]⟩ ⟨#[]⟩ a' k c' lv)) := Lib.hid (by rw [hW]; exact HRw.out.set 5 _)
                                have HHw2 : Hid (Has W g2 34 rq0C) := Lib.hid (by rw [hW]; exact HHw.out.other HG25.out 5 _)
                                have HSpw2 : Hid (Sps W w.heap.size a' c' ((fs.take i).filter keepF)) := Lib.hid (by rw [hW]; exact own_kept HSpw.out (Kept.set w9 g5 5 _) (fun q hq e => own_nbox HSpw.out HRw.out (by decide) hq e))
                                have HBw2 : Hid (Below w.heap.size w W) := Lib.hid (by rw [hW]; exact HBw.out.setCell (p := ⟨g5, 5, none⟩) HG5.out _)
                                rw [← hW]
                                clear g5c g5f hW HRw HHw HSpw HBw p0 p1
                                have HRw := HRw2
                                have HHw := HHw2
                                have HSpw := HSpw2
                                have HBw := HBw2
                                clear HRw2 HHw2 HSpw2 HBw2
                                have p0 := HP0.out
                                rw [← HBw.out.cell HPb.out] at p0
                                have p1 := HP1.out
                                rw [← HBw.out.cell HPb.out] at p1
                                have HPq := HPs.out W
                                go_wp2_with fail
                                refine HPq.mono ?_
                                rintro e w9 ⟨rfl, rfl⟩
                                clear HPq
                                have hbd : Below w9.heap.size w9 w9.drew := below_drewN (Below.refl w9.heap.size w9) 1
                                have HWs : Hid (w.heap.size ≤ w9.heap.size) := Lib.hid HBw.out.size
                                have HRd : Hid (Has w9.drew g5 34 (rqC ⟨#[]⟩ ⟨#[]⟩ ⟨#[]⟩ ⟨#[]⟩ a' k c' (lv))) := Lib.hid (HRw.out.kept (Kept.of_below (X := none') hbd) (fun h => h))
                                have HHd : Hid (Has w9.drew g2 34 rq0C) := Lib.hid (HHw.out.kept (Kept.of_below (X := none') hbd) (fun h => h))
                                have HSpd : Hid (Sps w9.drew w.heap.size a' c' ((fs.take i).filter keepF)) := Lib.hid (own_below HSpw.out hbd)
                                have HBd : Hid (Below w.heap.size w w9.drew) := Lib.hid (HBw.out.trans (hbd.mono HBw.out.size))
                                have HSa : Hid (Sat [(⟨g5, 4, none⟩, .slice a' k c'), (⟨b, o + i * 2, none⟩, .string nm), (⟨b, o + i * 2 + 1, none⟩, .string va)] w9.drew) := Lib.hid (Sat.cons (HRd.out.cell 4 rfl) (Sat.below (w := w9) (Sat.cons p0 (Sat.cons p1 (Sat.nil _))) hbd))
                                obtain ⟨a6, c6, w6, hr6, hsp6, hb6, hk6⟩ := app_fd (tyo := 22) ⟨nm, va⟩ HSpd.out HKl.out.symm HKn.out HBd.out.size
                                have hspk : w9.drew.ownsRow w.heap.size 64 2 (.slice a' k c') k (sv ((fs.take i).filter keepF)) := by have h := HSpd.out; unfold Sps at h; rw [← HKl.out] at h; exact h
                                have HR6 : Hid (Has w6 g5 34 (rqC ⟨#[]⟩ ⟨#[]⟩ ⟨#[]⟩ ⟨#[]⟩ a' k c' (lv))) := Lib.hid (HRd.out.kept hk6 (fun e => own_nbox hspk HRd.out (by decide) e rfl))
                                have HH6 : Hid (Has w6 g2 34 rq0C) := Lib.hid (HHd.out.kept hk6 (fun e => own_nbox hspk HHd.out (by decide) e rfl))
                                have HB6 : Hid (Below w.heap.size w w6) := Lib.hid (HBd.out.trans hb6)
                                have HSp6 := Lib.hid hsp6
                                have hal : Below w9.drew.heap.size w9.drew (w9.drew.alloc (.cells #[.string nm, .string va] 64)) := (Below.refl _ _).alloc (Nat.le_refl _) _
                                have HSal : Hid (Sat [(⟨g5, 4, none⟩, .slice a' k c'), (⟨b, o + i * 2, none⟩, .string nm), (⟨b, o + i * 2 + 1, none⟩, .string va)] (w9.drew.alloc (.cells #[.string nm, .string va] 64))) := Lib.hid (HSa.out.below hal)
                                have HSa6 : Hid (Sat [(⟨g5, 4, none⟩, .slice a' k c'), (⟨b, o + i * 2, none⟩, .string nm), (⟨b, o + i * 2 + 1, none⟩, .string va)] w6) := Lib.hid (Sat.cons (HR6.out.cell 4 rfl) (Sat.cons (by rw [HB6.out.cell (HPb.out)]; exact HP0.out) (Sat.cons (by rw [HB6.out.cell (HPb.out)]; exact HP1.out) (Sat.nil _))))
                                have k6 : w6.cell? ⟨g5, 4, none⟩ = some (.slice a' k c') := HR6.out.cell 4 rfl
                                have f6 : w6.frozen? ⟨g5, 4, none⟩ = false := HR6.out.free 4
                                clear hbd hb6 hk6 hsp6 hspk hal p0 p1
                                go_upto_region 41 with fail
                                refine Mx.regionZ [] (Sat [(⟨g5, 4, none⟩, .slice a' k c'), (⟨b, o + i * 2, none⟩, .string nm), (⟨b, o + i * 2 + 1, none⟩, .string va)]) (by kernel_rfl) (by kernel_rfl) HSa.out ?_
                                repeat ((first | (refine Mx.skips (by kernel_rfl) ?_; go_big_quiet_skip) | (refine Mx.quietly rfl ?_; go_big_quiet_want; go_big_quiet_op; go_big_quiet_on)); refine Mx.done ?_)
                                refine Mx.cell ⟨g5, 4, none⟩ (.slice a' k c') (by kernel_rfl) (by kernel_rfl) (by kernel_rfl) Tryd.isAgg22 (fun w' h => h 0 _ _ rfl) ?_
                                go_big_quiet_want; go_big_quiet_op; go_big_quiet_on; refine Mx.done ?_
                                repeat ((first | (refine Mx.skips (by kernel_rfl) ?_; go_big_quiet_skip) | (refine Mx.quietly rfl ?_; go_big_quiet_want; go_big_quiet_op; go_big_quiet_on)); refine Mx.done ?_)
                                refine Mx.mid b (o + i * 2) [.string nm, .string va] _ (by kernel_rfl) (by kernel_rfl) (by kernel_rfl) Tryd.underlying64 rfl (by kernel_rfl) (fun w' h => mid2 (h 1 _ _ rfl) (h 2 _ _ rfl)) ?_
                                go_big_quiet_want; go_big_quiet_op; go_big_quiet_on; refine Mx.done ?_
                                repeat ((first | (refine Mx.skips (by kernel_rfl) ?_; go_big_quiet_skip) | (refine Mx.quietly rfl ?_; go_big_quiet_want; go_big_quiet_op; go_big_quiet_on)); refine Mx.done ?_)
                                refine Mx.loudly (by kernel_rfl) (by kernel_rfl) ?_
                                go_wp2_with fail
                                refine ⟨HSal.out, ?_⟩
                                repeat ((first | (refine Mx.skips (by kernel_rfl) ?_; go_big_quiet_skip) | (refine Mx.quietly rfl ?_; go_big_quiet_want; go_big_quiet_op; go_big_quiet_on)); refine Mx.done ?_)
                                refine Mx.loudly (by kernel_rfl) (by kernel_rfl) ?_
                                go_wp2_with (at_builtin; refine Lib.wpList_append_run _ rfl _ _ _ _ rfl (.slice a' k c') (.slice (some ⟨w9.heap.size, 0, none⟩) 1 1) rfl rfl _ _ hr6 ?_)
                                refine ⟨HSa6.out, ?_⟩
                                repeat ((first | (refine Mx.skips (by kernel_rfl) ?_; go_big_quiet_skip) | (refine Mx.quietly rfl ?_; go_big_quiet_want; go_big_quiet_op; go_big_quiet_on)); refine Mx.done ?_)
                                refine Mx.atLast (by kernel_rfl) (by kernel_rfl) ?_
                                clear hr6
                                go_wp2_with fail
                                go_roundw
                                case rel => exact ⟨i + 1, k + 1, a6, c6, by first | rfl | (push_cast; rfl), HI.out, HAny2, Lib.hid (by rw [HFil2.out, List.length_append, ← HKl.out]; rfl), Lib.hid (by rw [HLast2.out]; exact HR6.out.set 4 _), Lib.hid (by rw [HFil2.out]; exact own_kept HSp6.out (Kept.set w6 g5 4 _) (fun q hq e => own_nbox HSp6.out HR6.out (by decide) hq e)), Lib.hid (HH6.out.other HG25.out 4 _), HB6.out.setCell (p := ⟨g5, 4, none⟩) HG5.out _⟩
                                case measure => exact nbj3 HI.out
                              · obtain ⟨e3, e4⟩ := eqF2 (s := nm) (l := [99, 111, 110, 116, 101, 110, 116, 45, 108, 101, 110, 103, 116, 104]) hcl
                                have HLast2 : Hid ((fs.take (i + 1)).foldl lastL' (-1) = (fs.take i).foldl lastL' (-1)) := Lib.hid (by rw [HLast.out, lastL', ← HF.out.1, if_neg hcl])
                                have HPq := HPs.out wr
                                by_cases hps : psL (bl nm) = true
                                · rw [hps] at HPq
                                  have HFil2 : Hid ((fs.take (i + 1)).filter keepF = (fs.take i).filter keepF) := Lib.hid (by rw [HFil.out, keepF, ← HF.out.1, hps]; simp)
                                  clear hps hh hcl
                                  go_wp2_with fail
                                  refine HPq.mono ?_
                                  rintro e w9 ⟨rfl, rfl⟩
                                  clear HPq
                                  go_wp2_with fail
                                  go_roundw
                                  case rel => exact ⟨i + 1, k, a', c', by first | rfl | (push_cast; rfl), HI.out, HAny2, Lib.hid (by rw [HFil2.out]; exact HKl.out), Lib.hid (by rw [HLast2.out]; exact HRw.out), Lib.hid (by rw [HFil2.out]; exact HSpw.out), HHw, HBw.out⟩
                                  case measure => exact nbj3 HI.out
                                · have hpf : psL (bl nm) = false := by simpa using hps
                                  rw [hpf] at HPq
                                  have HFil2 : Hid ((fs.take (i + 1)).filter keepF = (fs.take i).filter keepF ++ [⟨nm, va⟩]) := Lib.hid (by rw [HFil.out, keepF, ← HF.out.1, hpf]; simp [hh, HFe.out])
                                  obtain ⟨lz, hlz⟩ : ∃ lz, lz = (fs.take i).foldl lastL' (-1) := ⟨_, rfl⟩
                                  rw [← hlz] at HRw HLast2
                                  clear hps hpf hh hcl hlz
                                  go_wp2_with fail
                                  refine HPq.mono ?_
                                  rintro e w9 ⟨rfl, rfl⟩
                                  clear HPq
                                  have hbd : Below w9.heap.size w9 w9.drew := below_drewN (Below.refl w9.heap.size w9) 1
                                  have HWs : Hid (w.heap.size ≤ w9.heap.size) := Lib.hid HBw.out.size
                                  have HRd : Hid (Has w9.drew g5 34 (rqC ⟨#[]⟩ ⟨#[]⟩ ⟨#[]⟩ ⟨#[]⟩ a' k c' (lz))) := Lib.hid (HRw.out.kept (Kept.of_below (X := none') hbd) (fun h => h))
                                  have HHd : Hid (Has w9.drew g2 34 rq0C) := Lib.hid (HHw.out.kept (Kept.of_below (X := none') hbd) (fun h => h))
                                  have HSpd : Hid (Sps w9.drew w.heap.size a' c' ((fs.take i).filter keepF)) := Lib.hid (own_below HSpw.out hbd)
                                  have HBd : Hid (Below w.heap.size w w9.drew) := Lib.hid (HBw.out.trans (hbd.mono HBw.out.size))
                                  have HSa : Hid (Sat [(⟨g5, 4, none⟩, .slice a' k c'), (⟨b, o + i * 2, none⟩, .string nm), (⟨b, o + i * 2 + 1, none⟩, .string va)] w9.drew) := Lib.hid (Sat.cons (HRd.out.cell 4 rfl) (Sat.below (w := w9) (Sat.cons p0 (Sat.cons p1 (Sat.nil _))) hbd))
                                  obtain ⟨a6, c6, w6, hr6, hsp6, hb6, hk6⟩ := app_fd (tyo := 22) ⟨nm, va⟩ HSpd.out HKl.out.symm HKn.out HBd.out.size
                                  have hspk : w9.drew.ownsRow w.heap.size 64 2 (.slice a' k c') k (sv ((fs.take i).filter keepF)) := by have h := HSpd.out; unfold Sps at h; rw [← HKl.out] at h; exact h
                                  have HR6 : Hid (Has w6 g5 34 (rqC ⟨#[]⟩ ⟨#[]⟩ ⟨#[]⟩ ⟨#[]⟩ a' k c' (lz))) := Lib.hid (HRd.out.kept hk6 (fun e => own_nbox hspk HRd.out (by decide) e rfl))
                                  have HH6 : Hid (Has w6 g2 34 rq0C) := Lib.hid (HHd.out.kept hk6 (fun e => own_nbox hspk HHd.out (by decide) e rfl))
                                  have HB6 : Hid (Below w.heap.size w w6) := Lib.hid (HBd.out.trans hb6)
                                  have HSp6 := Lib.hid hsp6
                                  have hal : Below w9.drew.heap.size w9.drew (w9.drew.alloc (.cells #[.string nm, .string va] 64)) := (Below.refl _ _).alloc (Nat.le_refl _) _
                                  have HSal : Hid (Sat [(⟨g5, 4, none⟩, .slice a' k c'), (⟨b, o + i * 2, none⟩, .string nm), (⟨b, o + i * 2 + 1, none⟩, .string va)] (w9.drew.alloc (.cells #[.string nm, .string va] 64))) := Lib.hid (HSa.out.below hal)
                                  have HSa6 : Hid (Sat [(⟨g5, 4, none⟩, .slice a' k c'), (⟨b, o + i * 2, none⟩, .string nm), (⟨b, o + i * 2 + 1, none⟩, .string va)] w6) := Lib.hid (Sat.cons (HR6.out.cell 4 rfl) (Sat.cons (by rw [HB6.out.cell (HPb.out)]; exact HP0.out) (Sat.cons (by rw [HB6.out.cell (HPb.out)]; exact HP1.out) (Sat.nil _))))
                                  have k6 : w6.cell? ⟨g5, 4, none⟩ = some (.slice a' k c') := HR6.out.cell 4 rfl
                                  have f6 : w6.frozen? ⟨g5, 4, none⟩ = false := HR6.out.free 4
                                  clear hbd hb6 hk6 hsp6 hspk hal p0 p1
                                  go_upto_region 41 with fail
                                  refine Mx.regionZ [] (Sat [(⟨g5, 4, none⟩, .slice a' k c'), (⟨b, o + i * 2, none⟩, .string nm), (⟨b, o + i * 2 + 1, none⟩, .string va)]) (by kernel_rfl) (by kernel_rfl) HSa.out ?_
                                  repeat ((first | (refine Mx.skips (by kernel_rfl) ?_; go_big_quiet_skip) | (refine Mx.quietly rfl ?_; go_big_quiet_want; go_big_quiet_op; go_big_quiet_on)); refine Mx.done ?_)
                                  refine Mx.cell ⟨g5, 4, none⟩ (.slice a' k c') (by kernel_rfl) (by kernel_rfl) (by kernel_rfl) Tryd.isAgg22 (fun w' h => h 0 _ _ rfl) ?_
                                  go_big_quiet_want; go_big_quiet_op; go_big_quiet_on; refine Mx.done ?_
                                  repeat ((first | (refine Mx.skips (by kernel_rfl) ?_; go_big_quiet_skip) | (refine Mx.quietly rfl ?_; go_big_quiet_want; go_big_quiet_op; go_big_quiet_on)); refine Mx.done ?_)
                                  refine Mx.mid b (o + i * 2) [.string nm, .string va] _ (by kernel_rfl) (by kernel_rfl) (by kernel_rfl) Tryd.underlying64 rfl (by kernel_rfl) (fun w' h => mid2 (h 1 _ _ rfl) (h 2 _ _ rfl)) ?_
                                  go_big_quiet_want; go_big_quiet_op; go_big_quiet_on; refine Mx.done ?_
                                  repeat ((first | (refine Mx.skips (by kernel_rfl) ?_; go_big_quiet_skip) | (refine Mx.quietly rfl ?_; go_big_quiet_want; go_big_quiet_op; go_big_quiet_on)); refine Mx.done ?_)
                                  refine Mx.loudly (by kernel_rfl) (by kernel_rfl) ?_
                                  go_wp2_with fail
                                  refine ⟨HSal.out, ?_⟩
                                  repeat ((first | (refine Mx.skips (by kernel_rfl) ?_; go_big_quiet_skip) | (refine Mx.quietly rfl ?_; go_big_quiet_want; go_big_quiet_op; go_big_quiet_on)); refine Mx.done ?_)
                                  refine Mx.loudly (by kernel_rfl) (by kernel_rfl) ?_
                                  go_wp2_with (at_builtin; refine Lib.wpList_append_run _ rfl _ _ _ _ rfl (.slice a' k c') (.slice (some ⟨w9.heap.size, 0, none⟩) 1 1) rfl rfl _ _ hr6 ?_)
                                  refine ⟨HSa6.out, ?_⟩
                                  repeat ((first | (refine Mx.skips (by kernel_rfl) ?_; go_big_quiet_skip) | (refine Mx.quietly rfl ?_; go_big_quiet_want; go_big_quiet_op; go_big_quiet_on)); refine Mx.done ?_)
                                  refine Mx.atLast (by kernel_rfl) (by kernel_rfl) ?_
                                  clear hr6
                                  go_wp2_with fail
                                  go_roundw
                                  case rel => exact ⟨i + 1, k + 1, a6, c6, by first | rfl | (push_cast; rfl), HI.out, HAny2, Lib.hid (by rw [HFil2.out, List.length_append, ← HKl.out]; rfl), Lib.hid (by rw [HLast2.out]; exact HR6.out.set 4 _), Lib.hid (by rw [HFil2.out]; exact own_kept HSp6.out (Kept.set w6 g5 4 _) (fun q hq e => own_nbox HSp6.out HR6.out (by decide) hq e)), Lib.hid (HH6.out.other HG25.out 4 _), HB6.out.setCell (p := ⟨g5, 4, none⟩) HG5.out _⟩
                                  case measure => exact nbj3 HI.out
                          · have z1 := inj2 hin
                            obtain rfl : i = n := Nat.le_antisymm hi (Nat.le_of_not_lt hin)
                            have et : fs.take i = fs := List.take_of_length_le (by rw [HL.out]; exact Nat.le_refl _)
                            rw [et] at HAn HKl HRw HSpw
                            obtain rfl : R = ⟨⟨me, sc, au, pa, fs.filter keepF, fs.foldl lastL' (-1)⟩, 0⟩ := by rw [HRe.out, chkEnd, if_neg (by rw [HAn.out]; decide)]
                            obtain ⟨lz, hlz⟩ : ∃ lz, lz = fs.foldl lastL' (-1) := ⟨_, rfl⟩
                            obtain ⟨fl, hfl⟩ : ∃ fl, fl = fs.filter keepF := ⟨_, rfl⟩
                            rw [← hlz] at HRw
                            rw [← hfl] at HKl HSpw
                            have HLz := Lib.hid hlz
                            have HFl := Lib.hid hfl
                            have b0 : wr.cell? ⟨g5, 0, none⟩ = some (.string ⟨#[]⟩) := HRw.out.cell 0 rfl
                            have b1 : wr.cell? ⟨g5, 1, none⟩ = some (.string ⟨#[]⟩) := HRw.out.cell 1 rfl
                            have b2 : wr.cell? ⟨g5, 2, none⟩ = some (.string ⟨#[]⟩) := HRw.out.cell 2 rfl
                            have b3 : wr.cell? ⟨g5, 3, none⟩ = some (.string ⟨#[]⟩) := HRw.out.cell 3 rfl
                            have d0 : wr.frozen? ⟨g5, 0, none⟩ = false := HRw.out.free 0
                            have d1 : wr.frozen? ⟨g5, 1, none⟩ = false := HRw.out.free 1
                            have d2 : wr.frozen? ⟨g5, 2, none⟩ = false := HRw.out.free 2
                            have d3 : wr.frozen? ⟨g5, 3, none⟩ = false := HRw.out.free 3
                            clear hi hin et hlz hfl HAn HRe
                            go_upto_region 43 with fail
                            obtain ⟨W, hW⟩ : ∃ W, W = wr.setCells g5 0 [.string me, .string sc, .string au, .string pa] := ⟨_, rfl⟩
                            have HRW : Hid (Has W g5 34 (rqC me sc au pa a' k c' lz)) := Lib.hid (by rw [hW]; exact (((HRw.out.set 0 _).set 1 _).set 2 _).set 3 _)
                            have HHW : Hid (Has W g2 34 rq0C) := Lib.hid (by rw [hW]; exact HHw.out.kept (Kept.sets g5 _ 0 wr) HG25.out)
                            have HSpW : Hid (Sps W w.heap.size a' c' fl) := Lib.hid (by rw [hW]; exact own_kept HSpw.out (Kept.sets g5 _ 0 wr) (fun q hq e => own_nbox HSpw.out HRw.out (by decide) hq e))
                            have HBW : Hid (Below w.heap.size w W) := Lib.hid (by rw [hW]; exact HBw.out.trans ((Kept.sets g5 _ 0 wr).below HBw.out.size (fun q hq => by rw [hq]; exact HG5.out)))
                            rw [show (((wr.setCell ⟨g5, 0, none⟩ (.string me)).setCell ⟨g5, 1, none⟩ (.string sc)).setCell ⟨g5, 2, none⟩ (.string au)).setCell ⟨g5, 3, none⟩ (.string pa) = W from hW.symm]
                            clear hW b0 b1 b2 b3 d0 d1 d2 d3 HRw HHw HSpw HBw
                            have b0 : W.cell? ⟨g5, 0, none⟩ = some (.string me) := HRW.out.cell 0 rfl
                            have b1 : W.cell? ⟨g5, 1, none⟩ = some (.string sc) := HRW.out.cell 1 rfl
                            have b2 : W.cell? ⟨g5, 2, none⟩ = some (.string au) := HRW.out.cell 2 rfl
                            have b3 : W.cell? ⟨g5, 3, none⟩ = some (.string pa) := HRW.out.cell 3 rfl
                            have b4 : W.cell? ⟨g5, 4, none⟩ = some (.slice a' k c') := HRW.out.cell 4 rfl
                            have b5 : W.cell? ⟨g5, 5, none⟩ = some (.int .i64 lz) := HRW.out.cell 5 rfl
                            have hth := HHW.out.there (n := 6) rfl
                            have ho1 := rqC_one me sc au pa a' k c' lz
                            go_wp2_with (refine wpList_store_mid rfl 34 (.tmp 6) (.tmp 177) rfl g2 0 #[.string me, .string sc, .string au, .string pa, .slice a' k c', .int .i64 lz] rfl rfl hth infoRq ho1 ?_)
                            refine bodyPost_ret (results_rq2 rfl _ rfl (HHW.out.store (vs := rqC me sc au pa a' k c' lz) rfl) rfl) rfl ?_
                            show CkR w ⟨⟨me, sc, au, pa, fs.filter keepF, fs.foldl lastL' (-1)⟩, 0⟩ _ _
                            rw [← HFl.out, ← HLz.out]
                            refine ⟨a', c', ?_, ?_, ?_⟩
                            · show Ending.returned _ = Ending.returned (.tuple #[.agg #[.string me, .string sc, .string au, .string pa, .slice a' fl.length c', .int .i64 lz], .int .i64 0])
                              rw [← HKl.out]
                              rfl
                            · exact own_kept HSpW.out (Kept.sets g2 _ 0 W) (fun q hq e => own_nbox HSpW.out HHW.out (by decide) hq e)
                            · exact HBW.out.trans ((Kept.sets g2 _ 0 W).below HBW.out.size (fun q hq => by rw [hq]; exact HG2.out))
                      · have haf : authL (bl au) = false := by simpa using hau
                        rw [haf] at HAw
                        obtain rfl : R = Ck.bad 182 := by rw [HRa.out, chkAut, if_pos haf]
                        clear hau haf
                        go_wp2_with fail
                        refine HAw.mono ?_
                        rintro e w8 ⟨rfl, rfl⟩
                        clear HAw
                        have hth := HH5.out.there (n := 6) rfl
                        have ho1 := rqC_one ⟨#[]⟩ ⟨#[]⟩ ⟨#[]⟩ ⟨#[]⟩ none 0 0 0
                        go_wp2_with (refine wpList_store_mid rfl 34 (.tmp 6) (.tmp 109) rfl g2 0 #[.string ⟨#[]⟩, .string ⟨#[]⟩, .string ⟨#[]⟩, .string ⟨#[]⟩, .slice none 0 0, .int .i64 0] rfl rfl hth infoRq ho1 ?_)
                        refine bodyPost_ret (results_rq2 rfl _ rfl (HH5.out.store rfl) rfl) rfl ?_
                        exact ck_bad 182 HB5.out HG2.out
                    | none =>
                      have HRa : Hid (R = chkAut fs me sc pa oh) := Lib.hid (by rw [HR9.out, chkHost, HOh.out])
                      unfold findV at HFa
                      clear HR9 HZa HZq HZm HOh
                      cases oh with
                      | none =>
                        obtain rfl : R = Ck.bad 183 := HRa.out
                        unfold findV at HFh
                        go_wp2_with fail
                        refine HFm.out.mono ?_
                        rintro e w8 ⟨rfl, rfl⟩
                        go_wp2_with fail
                        refine HTw.out.mono ?_
                        rintro e w8 ⟨rfl, rfl⟩
                        go_wp2_with fail
                        refine HFs.out.mono ?_
                        rintro e w8 ⟨rfl, rfl⟩
                        go_wp2_with fail
                        refine HFp.out.mono ?_
                        rintro e w8 ⟨rfl, rfl⟩
                        go_wp2_with fail
                        refine HFa.out.mono ?_
                        rintro e w8 ⟨rfl, rfl⟩
                        go_wp2_with fail
                        refine HPh.out.mono ?_
                        rintro e w8 ⟨rfl, rfl⟩
                        go_wp2_with fail
                        refine HFh.out.mono ?_
                        rintro e w8 ⟨rfl, rfl⟩
                        have hth := HH5.out.there (n := 6) rfl
                        have ho1 := rqC_one ⟨#[]⟩ ⟨#[]⟩ ⟨#[]⟩ ⟨#[]⟩ none 0 0 0
                        go_wp2_with (refine wpList_store_mid rfl 34 (.tmp 6) (.tmp 105) rfl g2 0 #[.string ⟨#[]⟩, .string ⟨#[]⟩, .string ⟨#[]⟩, .string ⟨#[]⟩, .slice none 0 0, .int .i64 0] rfl rfl hth infoRq ho1 ?_)
                        refine bodyPost_ret (results_rq2 rfl _ rfl (HH5.out.store rfl) rfl) rfl ?_
                        exact ck_bad 183 HB5.out HG2.out
                      | some au =>
                        have HZu := Lib.hid (HZh.out au rfl)
                        unfold findV at HFh
                        clear HZh
                        go_wp2_with fail
                        refine HFm.out.mono ?_
                        rintro e w8 ⟨rfl, rfl⟩
                        go_wp2_with fail
                        refine HTw.out.mono ?_
                        rintro e w8 ⟨rfl, rfl⟩
                        go_wp2_with fail
                        refine HFs.out.mono ?_
                        rintro e w8 ⟨rfl, rfl⟩
                        go_wp2_with fail
                        refine HFp.out.mono ?_
                        rintro e w8 ⟨rfl, rfl⟩
                        go_wp2_with fail
                        refine HFa.out.mono ?_
                        rintro e w8 ⟨rfl, rfl⟩
                        go_wp2_with fail
                        refine HPh.out.mono ?_
                        rintro e w8 ⟨rfl, rfl⟩
                        go_wp2_with fail
                        refine HFh.out.mono ?_
                        rintro e w8 ⟨rfl, rfl⟩
                        go_upto_region 31 with fail
                        clear m1 m2 HFm HTw HFs HFp HFa HPh HFh
                        have HAu : Hid (∀ W : World, Calls Tryd.prog 43 #[.string au] W (Ret W (.bool (authL (bl au))))) := Lib.hid (fun W => by have h := auth_any W (bl au) (by rw [← bl_size]; exact Nat.le_trans HZu.out (by decide)); rwa [strB_bl] at h)
                        have HAw := HAu.out w8
                        by_cases hau : authL (bl au) = true
                        · have HRe : Hid (R = chkEnd fs me sc pa au) := Lib.hid (by rw [HRa.out, chkAut]; simp only [hau]; rfl)
                          rw [hau] at HAw
                          clear hau HAu HRa HZu
                          go_wp2_with fail
                          refine HAw.mono ?_
                          rintro e w8 ⟨rfl, rfl⟩
                          clear HAw
                          go_wp2_with fail
                          go_loopw [19] (fun v wr => ∃ (i k : Nat) (a' : Option Addr) (c' : Nat), v = .int .i64 (i : Int) ∧ i ≤ n ∧ Hid ((fs.take i).any (hostBad (bl au)) = false) ∧ Hid (k = ((fs.take i).filter keepF).length) ∧ Hid (Has wr g5 34 (rqC ⟨#[]⟩ ⟨#[]⟩ ⟨#[]⟩ ⟨#[]⟩ a' k c' ((fs.take i).foldl lastL' (-1)))) ∧ Hid (Sps wr w.heap.size a' c' ((fs.take i).filter keepF)) ∧ Hid (Has wr g2 34 rq0C) ∧ Below w.heap.size w wr) (fun v _ => n - (intOf v).toNat)
                          case atStart => exact ⟨0, 0, none, 0, rfl, Nat.zero_le _, Lib.hid rfl, Lib.hid rfl, Lib.hid HR5.out, Lib.hid (World.ownsRow_nil _ _ _ _), Lib.hid HH5.out, HB5.out⟩
                          case round =>
                            clear HSw HR5 HH5 HB5
                            obtain ⟨i, k, a', c', rfl, hi, HAn, HKl, HRw, HSpw, HHw, hb⟩ := hrel
                            have HBw := Lib.hid hb
                            clear hb
                            by_cases hin : i < n
                            · have HI := Lib.hid hin
                              obtain ⟨z1, z2, z3⟩ := inj1 hin (Nat.le_trans HN.out (by decide))
                              have hil : i < fs.length := by rw [HL.out]; exact hin
                              obtain ⟨b, o, rfl, hc⟩ := HS.out.cells (Nat.lt_of_le_of_lt (Nat.zero_le _) hin)
                              obtain ⟨p0, p1⟩ := hc i hil
                              have HAny : Hid (hostBad (bl au) fs[i] = false → (fs.take (i + 1)).any (hostBad (bl au)) = false) := Lib.hid (any_on hil HAn.out)
                              have HBad : Hid (hostBad (bl au) fs[i] = true → fs.any (hostBad (bl au)) = true) := Lib.hid (fun h => List.any_eq_true.2 ⟨fs[i], List.getElem_mem _, h⟩)
                              have HFil : Hid ((fs.take (i + 1)).filter keepF = (fs.take i).filter keepF ++ (if keepF fs[i] = true then [fs[i]] else [])) := Lib.hid (by rw [List.take_succ_eq_append_getElem hil, List.filter_append, List.filter_cons]; rfl)
                              have HLast : Hid ((fs.take (i + 1)).foldl lastL' (-1) = lastL' ((fs.take i).foldl lastL' (-1)) fs[i]) := Lib.hid (by rw [List.take_succ_eq_append_getElem hil, List.foldl_append]; rfl)
                              have HKn : Hid (k ≤ 2097152) := Lib.hid (by
                                rw [HKl.out]
                                have h1 := List.length_filter_le keepF (fs.take i)
                                have h2 := List.length_take_le i fs
                                have := HN.out
                                omega)
                              obtain ⟨f, hf⟩ : ∃ f, f = fs[i] := ⟨_, rfl⟩
                              rw [← hf] at p0 p1 HAny HBad HFil HLast
                              obtain ⟨nm, hnm⟩ : ∃ nm, nm = f.nm := ⟨_, rfl⟩
                              obtain ⟨va, hva⟩ : ∃ va, va = f.va := ⟨_, rfl⟩
                              rw [← hnm] at p0
                              rw [← hva] at p1
                              have HF := Lib.hid (And.intro hnm hva)
                              have HFe : Hid (f = ⟨nm, va⟩) := Lib.hid (by rw [hnm, hva])
                              have HP0 := Lib.hid p0
                              have HP1 := Lib.hid p1
                              have HPb : Hid (b < w.heap.size) := Lib.hid (World.block_lt_of_cell? _ _ p0)
                              rw [← HBw.out.cell (World.block_lt_of_cell? _ _ p0)] at p0
                              rw [← HBw.out.cell (World.block_lt_of_cell? _ _ p1)] at p1
                              have HPs : Hid (∀ W : World, Calls Tryd.prog 45 #[.string nm] W (Ret W (.bool (psL (bl nm))))) := Lib.hid (fun W => by have h := pseudo_any W (bl nm); rwa [strB_bl] at h)
                              clear hi hin hil hc hf hnm hva HAn
                              by_cases hh : bl nm = hostS
                              · obtain ⟨e1, e2⟩ := eqT2 (s := nm) (l := [104, 111, 115, 116]) hh
                                obtain ⟨e3, e4⟩ := eqF2 (s := nm) (l := [99, 111, 110, 116, 101, 110, 116, 45, 108, 101, 110, 103, 116, 104]) (by rw [hh]; decide)
                                by_cases hv : bl va = bl au
                                · have HAny2 := Lib.hid (HAny.out (by rw [hostBad, ← HF.out.2, hv]; simp))
                                  have HFil2 : Hid ((fs.take (i + 1)).filter keepF = (fs.take i).filter keepF) := Lib.hid (by rw [HFil.out, keepF, ← HF.out.1, hh]; simp)
                                  have HLast2 : Hid ((fs.take (i + 1)).foldl lastL' (-1) = (fs.take i).foldl lastL' (-1)) := Lib.hid (by rw [HLast.out, lastL', ← HF.out.1, hh, if_neg (by decide)])
                                  obtain rfl : va = au := eqS' hv
                                  clear hv hh
                                  go_wp2_with fail
                                  go_roundw
                                  case rel => exact ⟨i + 1, k, a', c', by first | rfl | (push_cast; rfl), HI.out, HAny2, Lib.hid (by rw [HFil2.out]; exact HKl.out), Lib.hid (by rw [HLast2.out]; exact HRw.out), Lib.hid (by rw [HFil2.out]; exact HSpw.out), HHw, HBw.out⟩
                                  case measure => exact nbj3 HI.out
                                · have e5 := eqS hv
                                  obtain rfl : R = Ck.bad 182 := by rw [HRe.out, chkEnd, if_pos (HBad.out (by rw [hostBad, ← HF.out.1, ← HF.out.2, hh]; simp [hv]))]
                                  clear hv hh
                                  have hth := HHw.out.there (n := 6) rfl
                                  have ho1 := rqC_one ⟨#[]⟩ ⟨#[]⟩ ⟨#[]⟩ ⟨#[]⟩ none 0 0 0
                                  go_wp2_with (refine wpList_store_mid rfl 34 (.tmp 6) (.tmp 131) rfl g2 0 #[.string ⟨#[]⟩, .string ⟨#[]⟩, .string ⟨#[]⟩, .string ⟨#[]⟩, .slice none 0 0, .int .i64 0] rfl rfl hth infoRq ho1 ?_)
                                  refine bodyPost_ret (results_rq2 rfl _ rfl (HHw.out.store rfl) rfl) rfl ?_
                                  exact ck_bad 182 HBw.out HG2.out
                              · obtain ⟨e1, e2⟩ := eqF2 (s := nm) (l := [104, 111, 115, 116]) hh
                                have HAny2 := Lib.hid (HAny.out (by rw [hostBad, ← HF.out.1]; simp [hh]))
                                by_cases hcl : bl nm = clS
                                · obtain ⟨e3, e4⟩ := eqT2 (s := nm) (l := [99, 111, 110, 116, 101, 110, 116, 45, 108, 101, 110, 103, 116, 104]) hcl
                                  have HPn := HPs.out
                                  have hps : psL (bl nm) = false := by rw [hcl]; decide
                                  rw [hps] at HPs
                                  have HFil2 : Hid ((fs.take (i + 1)).filter keepF = (fs.take i).filter keepF ++ [⟨nm, va⟩]) := Lib.hid (by rw [HFil.out, keepF, ← HF.out.1, hps]; simp [hh, HFe.out])
                                  have HLast2 : Hid ((fs.take (i + 1)).foldl lastL' (-1) = lenL (bl va)) := Lib.hid (by rw [HLast.out, lastL', ← HF.out.1, ← HF.out.2, if_pos hcl])
                                  have HLn : Hid (Calls Tryd.prog 44 #[.string va] wr (Ret wr (.int .i64 (lenL (bl va))))) := Lib.hid (by have h := length_any wr (bl va); rwa [strB_bl] at h)
                                  obtain ⟨lz, hlz⟩ : ∃ lz, lz = (fs.take i).foldl lastL' (-1) := ⟨_, rfl⟩
                                  rw [← hlz] at HRw
                                  have g5c : wr.cell? ⟨g5, 5, none⟩ = some (.int .i64 lz) := HRw.out.cell 5 rfl
                                  have g5f : wr.frozen? ⟨g5, 5, none⟩ = false := HRw.out.free 5
                                  obtain ⟨lv, hlv⟩ : ∃ lv, lv = lenL (bl va) := ⟨_, rfl⟩
                                  rw [← hlv] at HLn HLast2
                                  clear hh hcl hps HPn hlz hlv
                                  go_wp2_with fail
                                  refine HLn.out.mono ?_
                                  rintro e w9 ⟨rfl, rfl⟩
                                  go_upto_region 40 with fail
                                  obtain ⟨W, hW⟩ : ∃ W, W = w9.setCell ⟨g5, 5, none⟩ (.int .i64 lv) := ⟨_, rfl⟩
                                  have HRw2 : Hid (Has W g5 34 (rqC ⟨#[]⟩ ⟨#[]⟩ ⟨#[]⟩ ⟨#[]⟩ a' k c' lv)) := Lib.hid (by rw [hW]; exact HRw.out.set 5 _)
                                  have HHw2 : Hid (Has W g2 34 rq0C) := Lib.hid (by rw [hW]; exact HHw.out.other HG25.out 5 _)
                                  have HSpw2 : Hid (Sps W w.heap.size a' c' ((fs.take i).filter keepF)) := Lib.hid (by rw [hW]; exact own_kept HSpw.out (Kept.set w9 g5 5 _) (fun q hq e => own_nbox HSpw.out HRw.out (by decide) hq e))
                                  have HBw2 : Hid (Below w.heap.size w W) := Lib.hid (by rw [hW]; exact HBw.out.setCell (p := ⟨g5, 5, none⟩) HG5.out _)
                                  rw [← hW]
                                  clear g5c g5f hW HRw HHw HSpw HBw p0 p1
                                  have HRw := HRw2
                                  have HHw := HHw2
                                  have HSpw := HSpw2
                                  have HBw := HBw2
                                  clear HRw2 HHw2 HSpw2 HBw2
                                  have p0 := HP0.out
                                  rw [← HBw.out.cell HPb.out] at p0
                                  have p1 := HP1.out
                                  rw [← HBw.out.cell HPb.out] at p1
                                  have HPq := HPs.out W
                                  go_wp2_with fail
                                  refine HPq.mono ?_
                                  rintro e w9 ⟨rfl, rfl⟩
                                  clear HPq
                                  have hbd : Below w9.heap.size w9 w9.drew := below_drewN (Below.refl w9.heap.size w9) 1
                                  have HWs : Hid (w.heap.size ≤ w9.heap.size) := Lib.hid HBw.out.size
                                  have HRd : Hid (Has w9.drew g5 34 (rqC ⟨#[]⟩ ⟨#[]⟩ ⟨#[]⟩ ⟨#[]⟩ a' k c' (lv))) := Lib.hid (HRw.out.kept (Kept.of_below (X := none') hbd) (fun h => h))
                                  have HHd : Hid (Has w9.drew g2 34 rq0C) := Lib.hid (HHw.out.kept (Kept.of_below (X := none') hbd) (fun h => h))
                                  have HSpd : Hid (Sps w9.drew w.heap.size a' c' ((fs.take i).filter keepF)) := Lib.hid (own_below HSpw.out hbd)
                                  have HBd : Hid (Below w.heap.size w w9.drew) := Lib.hid (HBw.out.trans (hbd.mono HBw.out.size))
                                  have HSa : Hid (Sat [(⟨g5, 4, none⟩, .slice a' k c'), (⟨b, o + i * 2, none⟩, .string nm), (⟨b, o + i * 2 + 1, none⟩, .string va)] w9.drew) := Lib.hid (Sat.cons (HRd.out.cell 4 rfl) (Sat.below (w := w9) (Sat.cons p0 (Sat.cons p1 (Sat.nil _))) hbd))
                                  obtain ⟨a6, c6, w6, hr6, hsp6, hb6, hk6⟩ := app_fd (tyo := 22) ⟨nm, va⟩ HSpd.out HKl.out.symm HKn.out HBd.out.size
                                  have hspk : w9.drew.ownsRow w.heap.size 64 2 (.slice a' k c') k (sv ((fs.take i).filter keepF)) := by have h := HSpd.out; unfold Sps at h; rw [← HKl.out] at h; exact h
                                  have HR6 : Hid (Has w6 g5 34 (rqC ⟨#[]⟩ ⟨#[]⟩ ⟨#[]⟩ ⟨#[]⟩ a' k c' (lv))) := Lib.hid (HRd.out.kept hk6 (fun e => own_nbox hspk HRd.out (by decide) e rfl))
                                  have HH6 : Hid (Has w6 g2 34 rq0C) := Lib.hid (HHd.out.kept hk6 (fun e => own_nbox hspk HHd.out (by decide) e rfl))
                                  have HB6 : Hid (Below w.heap.size w w6) := Lib.hid (HBd.out.trans hb6)
                                  have HSp6 := Lib.hid hsp6
                                  have hal : Below w9.drew.heap.size w9.drew (w9.drew.alloc (.cells #[.string nm, .string va] 64)) := (Below.refl _ _).alloc (Nat.le_refl _) _
                                  have HSal : Hid (Sat [(⟨g5, 4, none⟩, .slice a' k c'), (⟨b, o + i * 2, none⟩, .string nm), (⟨b, o + i * 2 + 1, none⟩, .string va)] (w9.drew.alloc (.cells #[.string nm, .string va] 64))) := Lib.hid (HSa.out.below hal)
                                  have HSa6 : Hid (Sat [(⟨g5, 4, none⟩, .slice a' k c'), (⟨b, o + i * 2, none⟩, .string nm), (⟨b, o + i * 2 + 1, none⟩, .string va)] w6) := Lib.hid (Sat.cons (HR6.out.cell 4 rfl) (Sat.cons (by rw [HB6.out.cell (HPb.out)]; exact HP0.out) (Sat.cons (by rw [HB6.out.cell (HPb.out)]; exact HP1.out) (Sat.nil _))))
                                  have k6 : w6.cell? ⟨g5, 4, none⟩ = some (.slice a' k c') := HR6.out.cell 4 rfl
                                  have f6 : w6.frozen? ⟨g5, 4, none⟩ = false := HR6.out.free 4
                                  clear hbd hb6 hk6 hsp6 hspk hal p0 p1
                                  go_upto_region 41 with fail
                                  refine Mx.regionZ [] (Sat [(⟨g5, 4, none⟩, .slice a' k c'), (⟨b, o + i * 2, none⟩, .string nm), (⟨b, o + i * 2 + 1, none⟩, .string va)]) (by kernel_rfl) (by kernel_rfl) HSa.out ?_
                                  repeat ((first | (refine Mx.skips (by kernel_rfl) ?_; go_big_quiet_skip) | (refine Mx.quietly rfl ?_; go_big_quiet_want; go_big_quiet_op; go_big_quiet_on)); refine Mx.done ?_)
                                  refine Mx.cell ⟨g5, 4, none⟩ (.slice a' k c') (by kernel_rfl) (by kernel_rfl) (by kernel_rfl) Tryd.isAgg22 (fun w' h => h 0 _ _ rfl) ?_
                                  go_big_quiet_want; go_big_quiet_op; go_big_quiet_on; refine Mx.done ?_
                                  repeat ((first | (refine Mx.skips (by kernel_rfl) ?_; go_big_quiet_skip) | (refine Mx.quietly rfl ?_; go_big_quiet_want; go_big_quiet_op; go_big_quiet_on)); refine Mx.done ?_)
                                  refine Mx.mid b (o + i * 2) [.string nm, .string va] _ (by kernel_rfl) (by kernel_rfl) (by kernel_rfl) Tryd.underlying64 rfl (by kernel_rfl) (fun w' h => mid2 (h 1 _ _ rfl) (h 2 _ _ rfl)) ?_
                                  go_big_quiet_want; go_big_quiet_op; go_big_quiet_on; refine Mx.done ?_
                                  repeat ((first | (refine Mx.skips (by kernel_rfl) ?_; go_big_quiet_skip) | (refine Mx.quietly rfl ?_; go_big_quiet_want; go_big_quiet_op; go_big_quiet_on)); refine Mx.done ?_)
                                  refine Mx.loudly (by kernel_rfl) (by kernel_rfl) ?_
                                  go_wp2_with fail
                                  refine ⟨HSal.out, ?_⟩
                                  repeat ((first | (refine Mx.skips (by kernel_rfl) ?_; go_big_quiet_skip) | (refine Mx.quietly rfl ?_; go_big_quiet_want; go_big_quiet_op; go_big_quiet_on)); refine Mx.done ?_)
                                  refine Mx.loudly (by kernel_rfl) (by kernel_rfl) ?_
                                  go_wp2_with (at_builtin; refine Lib.wpList_append_run _ rfl _ _ _ _ rfl (.slice a' k c') (.slice (some ⟨w9.heap.size, 0, none⟩) 1 1) rfl rfl _ _ hr6 ?_)
                                  refine ⟨HSa6.out, ?_⟩
                                  repeat ((first | (refine Mx.skips (by kernel_rfl) ?_; go_big_quiet_skip) | (refine Mx.quietly rfl ?_; go_big_quiet_want; go_big_quiet_op; go_big_quiet_on)); refine Mx.done ?_)
                                  refine Mx.atLast (by kernel_rfl) (by kernel_rfl) ?_
                                  clear hr6
                                  go_wp2_with fail
                                  go_roundw
                                  case rel => exact ⟨i + 1, k + 1, a6, c6, by first | rfl | (push_cast; rfl), HI.out, HAny2, Lib.hid (by rw [HFil2.out, List.length_append, ← HKl.out]; rfl), Lib.hid (by rw [HLast2.out]; exact HR6.out.set 4 _), Lib.hid (by rw [HFil2.out]; exact own_kept HSp6.out (Kept.set w6 g5 4 _) (fun q hq e => own_nbox HSp6.out HR6.out (by decide) hq e)), Lib.hid (HH6.out.other HG25.out 4 _), HB6.out.setCell (p := ⟨g5, 4, none⟩) HG5.out _⟩
                                  case measure => exact nbj3 HI.out
                                · obtain ⟨e3, e4⟩ := eqF2 (s := nm) (l := [99, 111, 110, 116, 101, 110, 116, 45, 108, 101, 110, 103, 116, 104]) hcl
                                  have HLast2 : Hid ((fs.take (i + 1)).foldl lastL' (-1) = (fs.take i).foldl lastL' (-1)) := Lib.hid (by rw [HLast.out, lastL', ← HF.out.1, if_neg hcl])
                                  have HPq := HPs.out wr
                                  by_cases hps : psL (bl nm) = true
                                  · rw [hps] at HPq
                                    have HFil2 : Hid ((fs.take (i + 1)).filter keepF = (fs.take i).filter keepF) := Lib.hid (by rw [HFil.out, keepF, ← HF.out.1, hps]; simp)
                                    clear hps hh hcl
                                    go_wp2_with fail
                                    refine HPq.mono ?_
                                    rintro e w9 ⟨rfl, rfl⟩
                                    clear HPq
                                    go_wp2_with fail
                                    go_roundw
                                    case rel => exact ⟨i + 1, k, a', c', by first | rfl | (push_cast; rfl), HI.out, HAny2, Lib.hid (by rw [HFil2.out]; exact HKl.out), Lib.hid (by rw [HLast2.out]; exact HRw.out), Lib.hid (by rw [HFil2.out]; exact HSpw.out), HHw, HBw.out⟩
                                    case measure => exact nbj3 HI.out
                                  · have hpf : psL (bl nm) = false := by simpa using hps
                                    rw [hpf] at HPq
                                    have HFil2 : Hid ((fs.take (i + 1)).filter keepF = (fs.take i).filter keepF ++ [⟨nm, va⟩]) := Lib.hid (by rw [HFil.out, keepF, ← HF.out.1, hpf]; simp [hh, HFe.out])
                                    obtain ⟨lz, hlz⟩ : ∃ lz, lz = (fs.take i).foldl lastL' (-1) := ⟨_, rfl⟩
                                    rw [← hlz] at HRw HLast2
                                    clear hps hpf hh hcl hlz
                                    go_wp2_with fail
                                    refine HPq.mono ?_
                                    rintro e w9 ⟨rfl, rfl⟩
                                    clear HPq
                                    have hbd : Below w9.heap.size w9 w9.drew := below_drewN (Below.refl w9.heap.size w9) 1
                                    have HWs : Hid (w.heap.size ≤ w9.heap.size) := Lib.hid HBw.out.size
                                    have HRd : Hid (Has w9.drew g5 34 (rqC ⟨#[]⟩ ⟨#[]⟩ ⟨#[]⟩ ⟨#[]⟩ a' k c' (lz))) := Lib.hid (HRw.out.kept (Kept.of_below (X := none') hbd) (fun h => h))
                                    have HHd : Hid (Has w9.drew g2 34 rq0C) := Lib.hid (HHw.out.kept (Kept.of_below (X := none') hbd) (fun h => h))
                                    have HSpd : Hid (Sps w9.drew w.heap.size a' c' ((fs.take i).filter keepF)) := Lib.hid (own_below HSpw.out hbd)
                                    have HBd : Hid (Below w.heap.size w w9.drew) := Lib.hid (HBw.out.trans (hbd.mono HBw.out.size))
                                    have HSa : Hid (Sat [(⟨g5, 4, none⟩, .slice a' k c'), (⟨b, o + i * 2, none⟩, .string nm), (⟨b, o + i * 2 + 1, none⟩, .string va)] w9.drew) := Lib.hid (Sat.cons (HRd.out.cell 4 rfl) (Sat.below (w := w9) (Sat.cons p0 (Sat.cons p1 (Sat.nil _))) hbd))
                                    obtain ⟨a6, c6, w6, hr6, hsp6, hb6, hk6⟩ := app_fd (tyo := 22) ⟨nm, va⟩ HSpd.out HKl.out.symm HKn.out HBd.out.size
                                    have hspk : w9.drew.ownsRow w.heap.size 64 2 (.slice a' k c') k (sv ((fs.take i).filter keepF)) := by have h := HSpd.out; unfold Sps at h; rw [← HKl.out] at h; exact h
                                    have HR6 : Hid (Has w6 g5 34 (rqC ⟨#[]⟩ ⟨#[]⟩ ⟨#[]⟩ ⟨#[]⟩ a' k c' (lz))) := Lib.hid (HRd.out.kept hk6 (fun e => own_nbox hspk HRd.out (by decide) e rfl))
                                    have HH6 : Hid (Has w6 g2 34 rq0C) := Lib.hid (HHd.out.kept hk6 (fun e => own_nbox hspk HHd.out (by decide) e rfl))
                                    have HB6 : Hid (Below w.heap.size w w6) := Lib.hid (HBd.out.trans hb6)
                                    have HSp6 := Lib.hid hsp6
                                    have hal : Below w9.drew.heap.size w9.drew (w9.drew.alloc (.cells #[.string nm, .string va] 64)) := (Below.refl _ _).alloc (Nat.le_refl _) _
                                    have HSal : Hid (Sat [(⟨g5, 4, none⟩, .slice a' k c'), (⟨b, o + i * 2, none⟩, .string nm), (⟨b, o + i * 2 + 1, none⟩, .string va)] (w9.drew.alloc (.cells #[.string nm, .string va] 64))) := Lib.hid (HSa.out.below hal)
                                    have HSa6 : Hid (Sat [(⟨g5, 4, none⟩, .slice a' k c'), (⟨b, o + i * 2, none⟩, .string nm), (⟨b, o + i * 2 + 1, none⟩, .string va)] w6) := Lib.hid (Sat.cons (HR6.out.cell 4 rfl) (Sat.cons (by rw [HB6.out.cell (HPb.out)]; exact HP0.out) (Sat.cons (by rw [HB6.out.cell (HPb.out)]; exact HP1.out) (Sat.nil _))))
                                    have k6 : w6.cell? ⟨g5, 4, none⟩ = some (.slice a' k c') := HR6.out.cell 4 rfl
                                    have f6 : w6.frozen? ⟨g5, 4, none⟩ = false := HR6.out.free 4
                                    clear hbd hb6 hk6 hsp6 hspk hal p0 p1
                                    go_upto_region 41 with fail
                                    refine Mx.regionZ [] (Sat [(⟨g5, 4, none⟩, .slice a' k c'), (⟨b, o + i * 2, none⟩, .string nm), (⟨b, o + i * 2 + 1, none⟩, .string va)]) (by kernel_rfl) (by kernel_rfl) HSa.out ?_
                                    repeat ((first | (refine Mx.skips (by kernel_rfl) ?_; go_big_quiet_skip) | (refine Mx.quietly rfl ?_; go_big_quiet_want; go_big_quiet_op; go_big_quiet_on)); refine Mx.done ?_)
                                    refine Mx.cell ⟨g5, 4, none⟩ (.slice a' k c') (by kernel_rfl) (by kernel_rfl) (by kernel_rfl) Tryd.isAgg22 (fun w' h => h 0 _ _ rfl) ?_
                                    go_big_quiet_want; go_big_quiet_op; go_big_quiet_on; refine Mx.done ?_
                                    repeat ((first | (refine Mx.skips (by kernel_rfl) ?_; go_big_quiet_skip) | (refine Mx.quietly rfl ?_; go_big_quiet_want; go_big_quiet_op; go_big_quiet_on)); refine Mx.done ?_)
                                    refine Mx.mid b (o + i * 2) [.string nm, .string va] _ (by kernel_rfl) (by kernel_rfl) (by kernel_rfl) Tryd.underlying64 rfl (by kernel_rfl) (fun w' h => mid2 (h 1 _ _ rfl) (h 2 _ _ rfl)) ?_
                                    go_big_quiet_want; go_big_quiet_op; go_big_quiet_on; refine Mx.done ?_
                                    repeat ((first | (refine Mx.skips (by kernel_rfl) ?_; go_big_quiet_skip) | (refine Mx.quietly rfl ?_; go_big_quiet_want; go_big_quiet_op; go_big_quiet_on)); refine Mx.done ?_)
                                    refine Mx.loudly (by kernel_rfl) (by kernel_rfl) ?_
                                    go_wp2_with fail
                                    refine ⟨HSal.out, ?_⟩
                                    repeat ((first | (refine Mx.skips (by kernel_rfl) ?_; go_big_quiet_skip) | (refine Mx.quietly rfl ?_; go_big_quiet_want; go_big_quiet_op; go_big_quiet_on)); refine Mx.done ?_)
                                    refine Mx.loudly (by kernel_rfl) (by kernel_rfl) ?_
                                    go_wp2_with (at_builtin; refine Lib.wpList_append_run _ rfl _ _ _ _ rfl (.slice a' k c') (.slice (some ⟨w9.heap.size, 0, none⟩) 1 1) rfl rfl _ _ hr6 ?_)
                                    refine ⟨HSa6.out, ?_⟩
                                    repeat ((first | (refine Mx.skips (by kernel_rfl) ?_; go_big_quiet_skip) | (refine Mx.quietly rfl ?_; go_big_quiet_want; go_big_quiet_op; go_big_quiet_on)); refine Mx.done ?_)
                                    refine Mx.atLast (by kernel_rfl) (by kernel_rfl) ?_
                                    clear hr6
                                    go_wp2_with fail
                                    go_roundw
                                    case rel => exact ⟨i + 1, k + 1, a6, c6, by first | rfl | (push_cast; rfl), HI.out, HAny2, Lib.hid (by rw [HFil2.out, List.length_append, ← HKl.out]; rfl), Lib.hid (by rw [HLast2.out]; exact HR6.out.set 4 _), Lib.hid (by rw [HFil2.out]; exact own_kept HSp6.out (Kept.set w6 g5 4 _) (fun q hq e => own_nbox HSp6.out HR6.out (by decide) hq e)), Lib.hid (HH6.out.other HG25.out 4 _), HB6.out.setCell (p := ⟨g5, 4, none⟩) HG5.out _⟩
                                    case measure => exact nbj3 HI.out
                            · have z1 := inj2 hin
                              obtain rfl : i = n := Nat.le_antisymm hi (Nat.le_of_not_lt hin)
                              have et : fs.take i = fs := List.take_of_length_le (by rw [HL.out]; exact Nat.le_refl _)
                              rw [et] at HAn HKl HRw HSpw
                              obtain rfl : R = ⟨⟨me, sc, au, pa, fs.filter keepF, fs.foldl lastL' (-1)⟩, 0⟩ := by rw [HRe.out, chkEnd, if_neg (by rw [HAn.out]; decide)]
                              obtain ⟨lz, hlz⟩ : ∃ lz, lz = fs.foldl lastL' (-1) := ⟨_, rfl⟩
                              obtain ⟨fl, hfl⟩ : ∃ fl, fl = fs.filter keepF := ⟨_, rfl⟩
                              rw [← hlz] at HRw
                              rw [← hfl] at HKl HSpw
                              have HLz := Lib.hid hlz
                              have HFl := Lib.hid hfl
                              have b0 : wr.cell? ⟨g5, 0, none⟩ = some (.string ⟨#[]⟩) := HRw.out.cell 0 rfl
                              have b1 : wr.cell? ⟨g5, 1, none⟩ = some (.string ⟨#[]⟩) := HRw.out.cell 1 rfl
                              have b2 : wr.cell? ⟨g5, 2, none⟩ = some (.string ⟨#[]⟩) := HRw.out.cell 2 rfl
                              have b3 : wr.cell? ⟨g5, 3, none⟩ = some (.string ⟨#[]⟩) := HRw.out.cell 3 rfl
                              have d0 : wr.frozen? ⟨g5, 0, none⟩ = false := HRw.out.free 0
                              have d1 : wr.frozen? ⟨g5, 1, none⟩ = false := HRw.out.free 1
                              have d2 : wr.frozen? ⟨g5, 2, none⟩ = false := HRw.out.free 2
                              have d3 : wr.frozen? ⟨g5, 3, none⟩ = false := HRw.out.free 3
                              clear hi hin et hlz hfl HAn HRe
                              go_upto_region 43 with fail
                              obtain ⟨W, hW⟩ : ∃ W, W = wr.setCells g5 0 [.string me, .string sc, .string au, .string pa] := ⟨_, rfl⟩
                              have HRW : Hid (Has W g5 34 (rqC me sc au pa a' k c' lz)) := Lib.hid (by rw [hW]; exact (((HRw.out.set 0 _).set 1 _).set 2 _).set 3 _)
                              have HHW : Hid (Has W g2 34 rq0C) := Lib.hid (by rw [hW]; exact HHw.out.kept (Kept.sets g5 _ 0 wr) HG25.out)
                              have HSpW : Hid (Sps W w.heap.size a' c' fl) := Lib.hid (by rw [hW]; exact own_kept HSpw.out (Kept.sets g5 _ 0 wr) (fun q hq e => own_nbox HSpw.out HRw.out (by decide) hq e))
                              have HBW : Hid (Below w.heap.size w W) := Lib.hid (by rw [hW]; exact HBw.out.trans ((Kept.sets g5 _ 0 wr).below HBw.out.size (fun q hq => by rw [hq]; exact HG5.out)))
                              rw [show (((wr.setCell ⟨g5, 0, none⟩ (.string me)).setCell ⟨g5, 1, none⟩ (.string sc)).setCell ⟨g5, 2, none⟩ (.string au)).setCell ⟨g5, 3, none⟩ (.string pa) = W from hW.symm]
                              clear hW b0 b1 b2 b3 d0 d1 d2 d3 HRw HHw HSpw HBw
                              have b0 : W.cell? ⟨g5, 0, none⟩ = some (.string me) := HRW.out.cell 0 rfl
                              have b1 : W.cell? ⟨g5, 1, none⟩ = some (.string sc) := HRW.out.cell 1 rfl
                              have b2 : W.cell? ⟨g5, 2, none⟩ = some (.string au) := HRW.out.cell 2 rfl
                              have b3 : W.cell? ⟨g5, 3, none⟩ = some (.string pa) := HRW.out.cell 3 rfl
                              have b4 : W.cell? ⟨g5, 4, none⟩ = some (.slice a' k c') := HRW.out.cell 4 rfl
                              have b5 : W.cell? ⟨g5, 5, none⟩ = some (.int .i64 lz) := HRW.out.cell 5 rfl
                              have hth := HHW.out.there (n := 6) rfl
                              have ho1 := rqC_one me sc au pa a' k c' lz
                              go_wp2_with (refine wpList_store_mid rfl 34 (.tmp 6) (.tmp 177) rfl g2 0 #[.string me, .string sc, .string au, .string pa, .slice a' k c', .int .i64 lz] rfl rfl hth infoRq ho1 ?_)
                              refine bodyPost_ret (results_rq2 rfl _ rfl (HHW.out.store (vs := rqC me sc au pa a' k c' lz) rfl) rfl) rfl ?_
                              show CkR w ⟨⟨me, sc, au, pa, fs.filter keepF, fs.foldl lastL' (-1)⟩, 0⟩ _ _
                              rw [← HFl.out, ← HLz.out]
                              refine ⟨a', c', ?_, ?_, ?_⟩
                              · show Ending.returned _ = Ending.returned (.tuple #[.agg #[.string me, .string sc, .string au, .string pa, .slice a' fl.length c', .int .i64 lz], .int .i64 0])
                                rw [← HKl.out]
                                rfl
                              · exact own_kept HSpW.out (Kept.sets g2 _ 0 W) (fun q hq e => own_nbox HSpW.out HHW.out (by decide) hq e)
                              · exact HBW.out.trans ((Kept.sets g2 _ 0 W).below HBW.out.size (fun q hq => by rw [hq]; exact HG2.out))
                        · have haf : authL (bl au) = false := by simpa using hau
                          rw [haf] at HAw
                          obtain rfl : R = Ck.bad 182 := by rw [HRa.out, chkAut, if_pos haf]
                          clear hau haf
                          go_wp2_with fail
                          refine HAw.mono ?_
                          rintro e w8 ⟨rfl, rfl⟩
                          clear HAw
                          have hth := HH5.out.there (n := 6) rfl
                          have ho1 := rqC_one ⟨#[]⟩ ⟨#[]⟩ ⟨#[]⟩ ⟨#[]⟩ none 0 0 0
                          go_wp2_with (refine wpList_store_mid rfl 34 (.tmp 6) (.tmp 109) rfl g2 0 #[.string ⟨#[]⟩, .string ⟨#[]⟩, .string ⟨#[]⟩, .string ⟨#[]⟩, .slice none 0 0, .int .i64 0] rfl rfl hth infoRq ho1 ?_)
                          refine bodyPost_ret (results_rq2 rfl _ rfl (HH5.out.store rfl) rfl) rfl ?_
                          exact ck_bad 182 HB5.out HG2.out
                  · have hpf : pathL (bl me) (bl pa) = false := by simpa using hp
                    have HPw := HPa.out w5
                    rw [hpf] at HPw
                    have HPh := Lib.hid HPw
                    obtain rfl : R = Ck.bad 182 := by rw [HR8.out, hpf]; rfl
                    clear hp hpf HPw HPa HR8
                    cases oa with
                    | some au =>
                      unfold findV at HFa
                      go_wp2_with fail
                      refine HFm.out.mono ?_
                      rintro e w8 ⟨rfl, rfl⟩
                      go_wp2_with fail
                      refine HTw.out.mono ?_
                      rintro e w8 ⟨rfl, rfl⟩
                      go_wp2_with fail
                      refine HFs.out.mono ?_
                      rintro e w8 ⟨rfl, rfl⟩
                      go_wp2_with fail
                      refine HFp.out.mono ?_
                      rintro e w8 ⟨rfl, rfl⟩
                      go_wp2_with fail
                      refine HFa.out.mono ?_
                      rintro e w8 ⟨rfl, rfl⟩
                      go_wp2_with fail
                      refine HPh.out.mono ?_
                      rintro e w8 ⟨rfl, rfl⟩
                      have hth := HH5.out.there (n := 6) rfl
                      have ho1 := rqC_one ⟨#[]⟩ ⟨#[]⟩ ⟨#[]⟩ ⟨#[]⟩ none 0 0 0
                      go_wp2_with (refine wpList_store_mid rfl 34 (.tmp 6) (.tmp 95) rfl g2 0 #[.string ⟨#[]⟩, .string ⟨#[]⟩, .string ⟨#[]⟩, .string ⟨#[]⟩, .slice none 0 0, .int .i64 0] rfl rfl hth infoRq ho1 ?_)
                      refine bodyPost_ret (results_rq2 rfl _ rfl (HH5.out.store rfl) rfl) rfl ?_
                      exact ck_bad 182 HB5.out HG2.out
                    | none =>
                      unfold findV at HFa
                      go_wp2_with fail
                      refine HFm.out.mono ?_
                      rintro e w8 ⟨rfl, rfl⟩
                      go_wp2_with fail
                      refine HTw.out.mono ?_
                      rintro e w8 ⟨rfl, rfl⟩
                      go_wp2_with fail
                      refine HFs.out.mono ?_
                      rintro e w8 ⟨rfl, rfl⟩
                      go_wp2_with fail
                      refine HFp.out.mono ?_
                      rintro e w8 ⟨rfl, rfl⟩
                      go_wp2_with fail
                      refine HFa.out.mono ?_
                      rintro e w8 ⟨rfl, rfl⟩
                      go_wp2_with fail
                      refine HPh.out.mono ?_
                      rintro e w8 ⟨rfl, rfl⟩
                      have hth := HH5.out.there (n := 6) rfl
                      have ho1 := rqC_one ⟨#[]⟩ ⟨#[]⟩ ⟨#[]⟩ ⟨#[]⟩ none 0 0 0
                      go_wp2_with (refine wpList_store_mid rfl 34 (.tmp 6) (.tmp 95) rfl g2 0 #[.string ⟨#[]⟩, .string ⟨#[]⟩, .string ⟨#[]⟩, .string ⟨#[]⟩, .slice none 0 0, .int .i64 0] rfl rfl hth infoRq ho1 ?_)
                      refine bodyPost_ret (results_rq2 rfl _ rfl (HH5.out.store rfl) rfl) rfl ?_
                      exact ck_bad 182 HB5.out HG2.out
                · obtain ⟨s1, s2⟩ := eqF2 (s := sc) (l := [104, 116, 116, 112]) hs1
                  by_cases hs3 : bl sc = [104, 116, 116, 112, 115]
                  · obtain ⟨s3, s4⟩ := eqT2 (s := sc) (l := [104, 116, 116, 112, 115]) hs3
                    have hok : okSch (bl sc) = true := by rw [hs3]; rfl
                    have HR8 : Hid (R = if (!pathL (bl me) (bl pa)) = true then Ck.bad 182 else chkHost fs me sc pa oa) := Lib.hid (by rw [HR7.out, hok]; rfl)
                    clear hs1 hs3 hok HR7
                    by_cases hp : pathL (bl me) (bl pa) = true
                    · have HPw := HPa.out w5
                      rw [hp] at HPw
                      have HPh := Lib.hid HPw
                      have HR9 : Hid (R = chkHost fs me sc pa oa) := Lib.hid (by rw [HR8.out, hp]; rfl)
                      clear hp HPw HPa HR8
                      cases oa with
                      | some au =>
                        have HRa : Hid (R = chkAut fs me sc pa (some au)) := HR9
                        have HZu := Lib.hid (HZa.out au rfl)
                        unfold findV at HFa
                        clear HR9 HZa HZq HZm HZh HFh HOh
                        go_wp2_with fail
                        refine HFm.out.mono ?_
                        rintro e w8 ⟨rfl, rfl⟩
                        go_wp2_with fail
                        refine HTw.out.mono ?_
                        rintro e w8 ⟨rfl, rfl⟩
                        go_wp2_with fail
                        refine HFs.out.mono ?_
                        rintro e w8 ⟨rfl, rfl⟩
                        go_wp2_with fail
                        refine HFp.out.mono ?_
                        rintro e w8 ⟨rfl, rfl⟩
                        go_wp2_with fail
                        refine HFa.out.mono ?_
                        rintro e w8 ⟨rfl, rfl⟩
                        go_wp2_with fail
                        refine HPh.out.mono ?_
                        rintro e w8 ⟨rfl, rfl⟩
                        go_upto_region 31 with fail
                        clear m1 m2 HFm HTw HFs HFp HFa HPh
                        have HAu : Hid (∀ W : World, Calls Tryd.prog 43 #[.string au] W (Ret W (.bool (authL (bl au))))) := Lib.hid (fun W => by have h := auth_any W (bl au) (by rw [← bl_size]; exact Nat.le_trans HZu.out (by decide)); rwa [strB_bl] at h)
                        have HAw := HAu.out w8
                        by_cases hau : authL (bl au) = true
                        · have HRe : Hid (R = chkEnd fs me sc pa au) := Lib.hid (by rw [HRa.out, chkAut]; simp only [hau]; rfl)
                          rw [hau] at HAw
                          clear hau HAu HRa HZu
                          go_wp2_with fail
                          refine HAw.mono ?_
                          rintro e w8 ⟨rfl, rfl⟩
                          clear HAw
                          go_wp2_with fail
                          go_loopw [19] (fun v wr => ∃ (i k : Nat) (a' : Option Addr) (c' : Nat), v = .int .i64 (i : Int) ∧ i ≤ n ∧ Hid ((fs.take i).any (hostBad (bl au)) = false) ∧ Hid (k = ((fs.take i).filter keepF).length) ∧ Hid (Has wr g5 34 (rqC ⟨#[]⟩ ⟨#[]⟩ ⟨#[]⟩ ⟨#[]⟩ a' k c' ((fs.take i).foldl lastL' (-1)))) ∧ Hid (Sps wr w.heap.size a' c' ((fs.take i).filter keepF)) ∧ Hid (Has wr g2 34 rq0C) ∧ Below w.heap.size w wr) (fun v _ => n - (intOf v).toNat)
                          case atStart => exact ⟨0, 0, none, 0, rfl, Nat.zero_le _, Lib.hid rfl, Lib.hid rfl, Lib.hid HR5.out, Lib.hid (World.ownsRow_nil _ _ _ _), Lib.hid HH5.out, HB5.out⟩
                          case round =>
                            clear HSw HR5 HH5 HB5
                            obtain ⟨i, k, a', c', rfl, hi, HAn, HKl, HRw, HSpw, HHw, hb⟩ := hrel
                            have HBw := Lib.hid hb
                            clear hb
                            by_cases hin : i < n
                            · have HI := Lib.hid hin
                              obtain ⟨z1, z2, z3⟩ := inj1 hin (Nat.le_trans HN.out (by decide))
                              have hil : i < fs.length := by rw [HL.out]; exact hin
                              obtain ⟨b, o, rfl, hc⟩ := HS.out.cells (Nat.lt_of_le_of_lt (Nat.zero_le _) hin)
                              obtain ⟨p0, p1⟩ := hc i hil
                              have HAny : Hid (hostBad (bl au) fs[i] = false → (fs.take (i + 1)).any (hostBad (bl au)) = false) := Lib.hid (any_on hil HAn.out)
                              have HBad : Hid (hostBad (bl au) fs[i] = true → fs.any (hostBad (bl au)) = true) := Lib.hid (fun h => List.any_eq_true.2 ⟨fs[i], List.getElem_mem _, h⟩)
                              have HFil : Hid ((fs.take (i + 1)).filter keepF = (fs.take i).filter keepF ++ (if keepF fs[i] = true then [fs[i]] else [])) := Lib.hid (by rw [List.take_succ_eq_append_getElem hil, List.filter_append, List.filter_cons]; rfl)
                              have HLast : Hid ((fs.take (i + 1)).foldl lastL' (-1) = lastL' ((fs.take i).foldl lastL' (-1)) fs[i]) := Lib.hid (by rw [List.take_succ_eq_append_getElem hil, List.foldl_append]; rfl)
                              have HKn : Hid (k ≤ 2097152) := Lib.hid (by
                                rw [HKl.out]
                                have h1 := List.length_filter_le keepF (fs.take i)
                                have h2 := List.length_take_le i fs
                                have := HN.out
                                omega)
                              obtain ⟨f, hf⟩ : ∃ f, f = fs[i] := ⟨_, rfl⟩
                              rw [← hf] at p0 p1 HAny HBad HFil HLast
                              obtain ⟨nm, hnm⟩ : ∃ nm, nm = f.nm := ⟨_, rfl⟩
                              obtain ⟨va, hva⟩ : ∃ va, va = f.va := ⟨_, rfl⟩
                              rw [← hnm] at p0
                              rw [← hva] at p1
                              have HF := Lib.hid (And.intro hnm hva)
                              have HFe : Hid (f = ⟨nm, va⟩) := Lib.hid (by rw [hnm, hva])
                              have HP0 := Lib.hid p0
                              have HP1 := Lib.hid p1
                              have HPb : Hid (b < w.heap.size) := Lib.hid (World.block_lt_of_cell? _ _ p0)
                              rw [← HBw.out.cell (World.block_lt_of_cell? _ _ p0)] at p0
                              rw [← HBw.out.cell (World.block_lt_of_cell? _ _ p1)] at p1
                              have HPs : Hid (∀ W : World, Calls Tryd.prog 45 #[.string nm] W (Ret W (.bool (psL (bl nm))))) := Lib.hid (fun W => by have h := pseudo_any W (bl nm); rwa [strB_bl] at h)
                              clear hi hin hil hc hf hnm hva HAn
                              by_cases hh : bl nm = hostS
                              · obtain ⟨e1, e2⟩ := eqT2 (s := nm) (l := [104, 111, 115, 116]) hh
                                obtain ⟨e3, e4⟩ := eqF2 (s := nm) (l := [99, 111, 110, 116, 101, 110, 116, 45, 108, 101, 110, 103, 116, 104]) (by rw [hh]; decide)
                                by_cases hv : bl va = bl au
                                · have HAny2 := Lib.hid (HAny.out (by rw [hostBad, ← HF.out.2, hv]; simp))
                                  have HFil2 : Hid ((fs.take (i + 1)).filter keepF = (fs.take i).filter keepF) := Lib.hid (by rw [HFil.out, keepF, ← HF.out.1, hh]; simp)
                                  have HLast2 : Hid ((fs.take (i + 1)).foldl lastL' (-1) = (fs.take i).foldl lastL' (-1)) := Lib.hid (by rw [HLast.out, lastL', ← HF.out.1, hh, if_neg (by decide)])
                                  obtain rfl : va = au := eqS' hv
                                  clear hv hh
                                  go_wp2_with fail
                                  go_roundw
                                  case rel => exact ⟨i + 1, k, a', c', by first | rfl | (push_cast; rfl), HI.out, HAny2, Lib.hid (by rw [HFil2.out]; exact HKl.out), Lib.hid (by rw [HLast2.out]; exact HRw.out), Lib.hid (by rw [HFil2.out]; exact HSpw.out), HHw, HBw.out⟩
                                  case measure => exact nbj3 HI.out
                                · have e5 := eqS hv
                                  obtain rfl : R = Ck.bad 182 := by rw [HRe.out, chkEnd, if_pos (HBad.out (by rw [hostBad, ← HF.out.1, ← HF.out.2, hh]; simp [hv]))]
                                  clear hv hh
                                  have hth := HHw.out.there (n := 6) rfl
                                  have ho1 := rqC_one ⟨#[]⟩ ⟨#[]⟩ ⟨#[]⟩ ⟨#[]⟩ none 0 0 0
                                  go_wp2_with (refine wpList_store_mid rfl 34 (.tmp 6) (.tmp 131) rfl g2 0 #[.string ⟨#[]⟩, .string ⟨#[]⟩, .string ⟨#[]⟩, .string ⟨#[]⟩, .slice none 0 0, .int .i64 0] rfl rfl hth infoRq ho1 ?_)
                                  refine bodyPost_ret (results_rq2 rfl _ rfl (HHw.out.store rfl) rfl) rfl ?_
                                  exact ck_bad 182 HBw.out HG2.out
                              · obtain ⟨e1, e2⟩ := eqF2 (s := nm) (l := [104, 111, 115, 116]) hh
                                have HAny2 := Lib.hid (HAny.out (by rw [hostBad, ← HF.out.1]; simp [hh]))
                                by_cases hcl : bl nm = clS
                                · obtain ⟨e3, e4⟩ := eqT2 (s := nm) (l := [99, 111, 110, 116, 101, 110, 116, 45, 108, 101, 110, 103, 116, 104]) hcl
                                  have HPn := HPs.out
                                  have hps : psL (bl nm) = false := by rw [hcl]; decide
                                  rw [hps] at HPs
                                  have HFil2 : Hid ((fs.take (i + 1)).filter keepF = (fs.take i).filter keepF ++ [⟨nm, va⟩]) := Lib.hid (by rw [HFil.out, keepF, ← HF.out.1, hps]; simp [hh, HFe.out])
                                  have HLast2 : Hid ((fs.take (i + 1)).foldl lastL' (-1) = lenL (bl va)) := Lib.hid (by rw [HLast.out, lastL', ← HF.out.1, ← HF.out.2, if_pos hcl])
                                  have HLn : Hid (Calls Tryd.prog 44 #[.string va] wr (Ret wr (.int .i64 (lenL (bl va))))) := Lib.hid (by have h := length_any wr (bl va); rwa [strB_bl] at h)
                                  obtain ⟨lz, hlz⟩ : ∃ lz, lz = (fs.take i).foldl lastL' (-1) := ⟨_, rfl⟩
                                  rw [← hlz] at HRw
                                  have g5c : wr.cell? ⟨g5, 5, none⟩ = some (.int .i64 lz) := HRw.out.cell 5 rfl
                                  have g5f : wr.frozen? ⟨g5, 5, none⟩ = false := HRw.out.free 5
                                  obtain ⟨lv, hlv⟩ : ∃ lv, lv = lenL (bl va) := ⟨_, rfl⟩
                                  rw [← hlv] at HLn HLast2
                                  clear hh hcl hps HPn hlz hlv
                                  go_wp2_with fail
                                  refine HLn.out.mono ?_
                                  rintro e w9 ⟨rfl, rfl⟩
                                  go_upto_region 40 with fail
                                  obtain ⟨W, hW⟩ : ∃ W, W = w9.setCell ⟨g5, 5, none⟩ (.int .i64 lv) := ⟨_, rfl⟩
                                  have HRw2 : Hid (Has W g5 34 (rqC ⟨#[]⟩ ⟨#[]⟩ ⟨#[]⟩ ⟨#[]⟩ a' k c' lv)) := Lib.hid (by rw [hW]; exact HRw.out.set 5 _)
                                  have HHw2 : Hid (Has W g2 34 rq0C) := Lib.hid (by rw [hW]; exact HHw.out.other HG25.out 5 _)
                                  have HSpw2 : Hid (Sps W w.heap.size a' c' ((fs.take i).filter keepF)) := Lib.hid (by rw [hW]; exact own_kept HSpw.out (Kept.set w9 g5 5 _) (fun q hq e => own_nbox HSpw.out HRw.out (by decide) hq e))
                                  have HBw2 : Hid (Below w.heap.size w W) := Lib.hid (by rw [hW]; exact HBw.out.setCell (p := ⟨g5, 5, none⟩) HG5.out _)
                                  rw [← hW]
                                  clear g5c g5f hW HRw HHw HSpw HBw p0 p1
                                  have HRw := HRw2
                                  have HHw := HHw2
                                  have HSpw := HSpw2
                                  have HBw := HBw2
                                  clear HRw2 HHw2 HSpw2 HBw2
                                  have p0 := HP0.out
                                  rw [← HBw.out.cell HPb.out] at p0
                                  have p1 := HP1.out
                                  rw [← HBw.out.cell HPb.out] at p1
                                  have HPq := HPs.out W
                                  go_wp2_with fail
                                  refine HPq.mono ?_
                                  rintro e w9 ⟨rfl, rfl⟩
                                  clear HPq
                                  have hbd : Below w9.heap.size w9 w9.drew := below_drewN (Below.refl w9.heap.size w9) 1
                                  have HWs : Hid (w.heap.size ≤ w9.heap.size) := Lib.hid HBw.out.size
                                  have HRd : Hid (Has w9.drew g5 34 (rqC ⟨#[]⟩ ⟨#[]⟩ ⟨#[]⟩ ⟨#[]⟩ a' k c' (lv))) := Lib.hid (HRw.out.kept (Kept.of_below (X := none') hbd) (fun h => h))
                                  have HHd : Hid (Has w9.drew g2 34 rq0C) := Lib.hid (HHw.out.kept (Kept.of_below (X := none') hbd) (fun h => h))
                                  have HSpd : Hid (Sps w9.drew w.heap.size a' c' ((fs.take i).filter keepF)) := Lib.hid (own_below HSpw.out hbd)
                                  have HBd : Hid (Below w.heap.size w w9.drew) := Lib.hid (HBw.out.trans (hbd.mono HBw.out.size))
                                  have HSa : Hid (Sat [(⟨g5, 4, none⟩, .slice a' k c'), (⟨b, o + i * 2, none⟩, .string nm), (⟨b, o + i * 2 + 1, none⟩, .string va)] w9.drew) := Lib.hid (Sat.cons (HRd.out.cell 4 rfl) (Sat.below (w := w9) (Sat.cons p0 (Sat.cons p1 (Sat.nil _))) hbd))
                                  obtain ⟨a6, c6, w6, hr6, hsp6, hb6, hk6⟩ := app_fd (tyo := 22) ⟨nm, va⟩ HSpd.out HKl.out.symm HKn.out HBd.out.size
                                  have hspk : w9.drew.ownsRow w.heap.size 64 2 (.slice a' k c') k (sv ((fs.take i).filter keepF)) := by have h := HSpd.out; unfold Sps at h; rw [← HKl.out] at h; exact h
                                  have HR6 : Hid (Has w6 g5 34 (rqC ⟨#[]⟩ ⟨#[]⟩ ⟨#[]⟩ ⟨#[]⟩ a' k c' (lv))) := Lib.hid (HRd.out.kept hk6 (fun e => own_nbox hspk HRd.out (by decide) e rfl))
                                  have HH6 : Hid (Has w6 g2 34 rq0C) := Lib.hid (HHd.out.kept hk6 (fun e => own_nbox hspk HHd.out (by decide) e rfl))
                                  have HB6 : Hid (Below w.heap.size w w6) := Lib.hid (HBd.out.trans hb6)
                                  have HSp6 := Lib.hid hsp6
                                  have hal : Below w9.drew.heap.size w9.drew (w9.drew.alloc (.cells #[.string nm, .string va] 64)) := (Below.refl _ _).alloc (Nat.le_refl _) _
                                  have HSal : Hid (Sat [(⟨g5, 4, none⟩, .slice a' k c'), (⟨b, o + i * 2, none⟩, .string nm), (⟨b, o + i * 2 + 1, none⟩, .string va)] (w9.drew.alloc (.cells #[.string nm, .string va] 64))) := Lib.hid (HSa.out.below hal)
                                  have HSa6 : Hid (Sat [(⟨g5, 4, none⟩, .slice a' k c'), (⟨b, o + i * 2, none⟩, .string nm), (⟨b, o + i * 2 + 1, none⟩, .string va)] w6) := Lib.hid (Sat.cons (HR6.out.cell 4 rfl) (Sat.cons (by rw [HB6.out.cell (HPb.out)]; exact HP0.out) (Sat.cons (by rw [HB6.out.cell (HPb.out)]; exact HP1.out) (Sat.nil _))))
                                  have k6 : w6.cell? ⟨g5, 4, none⟩ = some (.slice a' k c') := HR6.out.cell 4 rfl
                                  have f6 : w6.frozen? ⟨g5, 4, none⟩ = false := HR6.out.free 4
                                  clear hbd hb6 hk6 hsp6 hspk hal p0 p1
                                  go_upto_region 41 with fail
                                  refine Mx.regionZ [] (Sat [(⟨g5, 4, none⟩, .slice a' k c'), (⟨b, o + i * 2, none⟩, .string nm), (⟨b, o + i * 2 + 1, none⟩, .string va)]) (by kernel_rfl) (by kernel_rfl) HSa.out ?_
                                  repeat ((first | (refine Mx.skips (by kernel_rfl) ?_; go_big_quiet_skip) | (refine Mx.quietly rfl ?_; go_big_quiet_want; go_big_quiet_op; go_big_quiet_on)); refine Mx.done ?_)
                                  refine Mx.cell ⟨g5, 4, none⟩ (.slice a' k c') (by kernel_rfl) (by kernel_rfl) (by kernel_rfl) Tryd.isAgg22 (fun w' h => h 0 _ _ rfl) ?_
                                  go_big_quiet_want; go_big_quiet_op; go_big_quiet_on; refine Mx.done ?_
                                  repeat ((first | (refine Mx.skips (by kernel_rfl) ?_; go_big_quiet_skip) | (refine Mx.quietly rfl ?_; go_big_quiet_want; go_big_quiet_op; go_big_quiet_on)); refine Mx.done ?_)
                                  refine Mx.mid b (o + i * 2) [.string nm, .string va] _ (by kernel_rfl) (by kernel_rfl) (by kernel_rfl) Tryd.underlying64 rfl (by kernel_rfl) (fun w' h => mid2 (h 1 _ _ rfl) (h 2 _ _ rfl)) ?_
                                  go_big_quiet_want; go_big_quiet_op; go_big_quiet_on; refine Mx.done ?_
                                  repeat ((first | (refine Mx.skips (by kernel_rfl) ?_; go_big_quiet_skip) | (refine Mx.quietly rfl ?_; go_big_quiet_want; go_big_quiet_op; go_big_quiet_on)); refine Mx.done ?_)
                                  refine Mx.loudly (by kernel_rfl) (by kernel_rfl) ?_
                                  go_wp2_with fail
                                  refine ⟨HSal.out, ?_⟩
                                  repeat ((first | (refine Mx.skips (by kernel_rfl) ?_; go_big_quiet_skip) | (refine Mx.quietly rfl ?_; go_big_quiet_want; go_big_quiet_op; go_big_quiet_on)); refine Mx.done ?_)
                                  refine Mx.loudly (by kernel_rfl) (by kernel_rfl) ?_
                                  go_wp2_with (at_builtin; refine Lib.wpList_append_run _ rfl _ _ _ _ rfl (.slice a' k c') (.slice (some ⟨w9.heap.size, 0, none⟩) 1 1) rfl rfl _ _ hr6 ?_)
                                  refine ⟨HSa6.out, ?_⟩
                                  repeat ((first | (refine Mx.skips (by kernel_rfl) ?_; go_big_quiet_skip) | (refine Mx.quietly rfl ?_; go_big_quiet_want; go_big_quiet_op; go_big_quiet_on)); refine Mx.done ?_)
                                  refine Mx.atLast (by kernel_rfl) (by kernel_rfl) ?_
                                  clear hr6
                                  go_wp2_with fail
                                  go_roundw
                                  case rel => exact ⟨i + 1, k + 1, a6, c6, by first | rfl | (push_cast; rfl), HI.out, HAny2, Lib.hid (by rw [HFil2.out, List.length_append, ← HKl.out]; rfl), Lib.hid (by rw [HLast2.out]; exact HR6.out.set 4 _), Lib.hid (by rw [HFil2.out]; exact own_kept HSp6.out (Kept.set w6 g5 4 _) (fun q hq e => own_nbox HSp6.out HR6.out (by decide) hq e)), Lib.hid (HH6.out.other HG25.out 4 _), HB6.out.setCell (p := ⟨g5, 4, none⟩) HG5.out _⟩
                                  case measure => exact nbj3 HI.out
                                · obtain ⟨e3, e4⟩ := eqF2 (s := nm) (l := [99, 111, 110, 116, 101, 110, 116, 45, 108, 101, 110, 103, 116, 104]) hcl
                                  have HLast2 : Hid ((fs.take (i + 1)).foldl lastL' (-1) = (fs.take i).foldl lastL' (-1)) := Lib.hid (by rw [HLast.out, lastL', ← HF.out.1, if_neg hcl])
                                  have HPq := HPs.out wr
                                  by_cases hps : psL (bl nm) = true
                                  · rw [hps] at HPq
                                    have HFil2 : Hid ((fs.take (i + 1)).filter keepF = (fs.take i).filter keepF) := Lib.hid (by rw [HFil.out, keepF, ← HF.out.1, hps]; simp)
                                    clear hps hh hcl
                                    go_wp2_with fail
                                    refine HPq.mono ?_
                                    rintro e w9 ⟨rfl, rfl⟩
                                    clear HPq
                                    go_wp2_with fail
                                    go_roundw
                                    case rel => exact ⟨i + 1, k, a', c', by first | rfl | (push_cast; rfl), HI.out, HAny2, Lib.hid (by rw [HFil2.out]; exact HKl.out), Lib.hid (by rw [HLast2.out]; exact HRw.out), Lib.hid (by rw [HFil2.out]; exact HSpw.out), HHw, HBw.out⟩
                                    case measure => exact nbj3 HI.out
                                  · have hpf : psL (bl nm) = false := by simpa using hps
                                    rw [hpf] at HPq
                                    have HFil2 : Hid ((fs.take (i + 1)).filter keepF = (fs.take i).filter keepF ++ [⟨nm, va⟩]) := Lib.hid (by rw [HFil.out, keepF, ← HF.out.1, hpf]; simp [hh, HFe.out])
                                    obtain ⟨lz, hlz⟩ : ∃ lz, lz = (fs.take i).foldl lastL' (-1) := ⟨_, rfl⟩
                                    rw [← hlz] at HRw HLast2
                                    clear hps hpf hh hcl hlz
                                    go_wp2_with fail
                                    refine HPq.mono ?_
                                    rintro e w9 ⟨rfl, rfl⟩
                                    clear HPq
                                    have hbd : Below w9.heap.size w9 w9.drew := below_drewN (Below.refl w9.heap.size w9) 1
                                    have HWs : Hid (w.heap.size ≤ w9.heap.size) := Lib.hid HBw.out.size
                                    have HRd : Hid (Has w9.drew g5 34 (rqC ⟨#[]⟩ ⟨#[]⟩ ⟨#[]⟩ ⟨#[]⟩ a' k c' (lz))) := Lib.hid (HRw.out.kept (Kept.of_below (X := none') hbd) (fun h => h))
                                    have HHd : Hid (Has w9.drew g2 34 rq0C) := Lib.hid (HHw.out.kept (Kept.of_below (X := none') hbd) (fun h => h))
                                    have HSpd : Hid (Sps w9.drew w.heap.size a' c' ((fs.take i).filter keepF)) := Lib.hid (own_below HSpw.out hbd)
                                    have HBd : Hid (Below w.heap.size w w9.drew) := Lib.hid (HBw.out.trans (hbd.mono HBw.out.size))
                                    have HSa : Hid (Sat [(⟨g5, 4, none⟩, .slice a' k c'), (⟨b, o + i * 2, none⟩, .string nm), (⟨b, o + i * 2 + 1, none⟩, .string va)] w9.drew) := Lib.hid (Sat.cons (HRd.out.cell 4 rfl) (Sat.below (w := w9) (Sat.cons p0 (Sat.cons p1 (Sat.nil _))) hbd))
                                    obtain ⟨a6, c6, w6, hr6, hsp6, hb6, hk6⟩ := app_fd (tyo := 22) ⟨nm, va⟩ HSpd.out HKl.out.symm HKn.out HBd.out.size
                                    have hspk : w9.drew.ownsRow w.heap.size 64 2 (.slice a' k c') k (sv ((fs.take i).filter keepF)) := by have h := HSpd.out; unfold Sps at h; rw [← HKl.out] at h; exact h
                                    have HR6 : Hid (Has w6 g5 34 (rqC ⟨#[]⟩ ⟨#[]⟩ ⟨#[]⟩ ⟨#[]⟩ a' k c' (lz))) := Lib.hid (HRd.out.kept hk6 (fun e => own_nbox hspk HRd.out (by decide) e rfl))
                                    have HH6 : Hid (Has w6 g2 34 rq0C) := Lib.hid (HHd.out.kept hk6 (fun e => own_nbox hspk HHd.out (by decide) e rfl))
                                    have HB6 : Hid (Below w.heap.size w w6) := Lib.hid (HBd.out.trans hb6)
                                    have HSp6 := Lib.hid hsp6
                                    have hal : Below w9.drew.heap.size w9.drew (w9.drew.alloc (.cells #[.string nm, .string va] 64)) := (Below.refl _ _).alloc (Nat.le_refl _) _
                                    have HSal : Hid (Sat [(⟨g5, 4, none⟩, .slice a' k c'), (⟨b, o + i * 2, none⟩, .string nm), (⟨b, o + i * 2 + 1, none⟩, .string va)] (w9.drew.alloc (.cells #[.string nm, .string va] 64))) := Lib.hid (HSa.out.below hal)
                                    have HSa6 : Hid (Sat [(⟨g5, 4, none⟩, .slice a' k c'), (⟨b, o + i * 2, none⟩, .string nm), (⟨b, o + i * 2 + 1, none⟩, .string va)] w6) := Lib.hid (Sat.cons (HR6.out.cell 4 rfl) (Sat.cons (by rw [HB6.out.cell (HPb.out)]; exact HP0.out) (Sat.cons (by rw [HB6.out.cell (HPb.out)]; exact HP1.out) (Sat.nil _))))
                                    have k6 : w6.cell? ⟨g5, 4, none⟩ = some (.slice a' k c') := HR6.out.cell 4 rfl
                                    have f6 : w6.frozen? ⟨g5, 4, none⟩ = false := HR6.out.free 4
                                    clear hbd hb6 hk6 hsp6 hspk hal p0 p1
                                    go_upto_region 41 with fail
                                    refine Mx.regionZ [] (Sat [(⟨g5, 4, none⟩, .slice a' k c'), (⟨b, o + i * 2, none⟩, .string nm), (⟨b, o + i * 2 + 1, none⟩, .string va)]) (by kernel_rfl) (by kernel_rfl) HSa.out ?_
                                    repeat ((first | (refine Mx.skips (by kernel_rfl) ?_; go_big_quiet_skip) | (refine Mx.quietly rfl ?_; go_big_quiet_want; go_big_quiet_op; go_big_quiet_on)); refine Mx.done ?_)
                                    refine Mx.cell ⟨g5, 4, none⟩ (.slice a' k c') (by kernel_rfl) (by kernel_rfl) (by kernel_rfl) Tryd.isAgg22 (fun w' h => h 0 _ _ rfl) ?_
                                    go_big_quiet_want; go_big_quiet_op; go_big_quiet_on; refine Mx.done ?_
                                    repeat ((first | (refine Mx.skips (by kernel_rfl) ?_; go_big_quiet_skip) | (refine Mx.quietly rfl ?_; go_big_quiet_want; go_big_quiet_op; go_big_quiet_on)); refine Mx.done ?_)
                                    refine Mx.mid b (o + i * 2) [.string nm, .string va] _ (by kernel_rfl) (by kernel_rfl) (by kernel_rfl) Tryd.underlying64 rfl (by kernel_rfl) (fun w' h => mid2 (h 1 _ _ rfl) (h 2 _ _ rfl)) ?_
                                    go_big_quiet_want; go_big_quiet_op; go_big_quiet_on; refine Mx.done ?_
                                    repeat ((first | (refine Mx.skips (by kernel_rfl) ?_; go_big_quiet_skip) | (refine Mx.quietly rfl ?_; go_big_quiet_want; go_big_quiet_op; go_big_quiet_on)); refine Mx.done ?_)
                                    refine Mx.loudly (by kernel_rfl) (by kernel_rfl) ?_
                                    go_wp2_with fail
                                    refine ⟨HSal.out, ?_⟩
                                    repeat ((first | (refine Mx.skips (by kernel_rfl) ?_; go_big_quiet_skip) | (refine Mx.quietly rfl ?_; go_big_quiet_want; go_big_quiet_op; go_big_quiet_on)); refine Mx.done ?_)
                                    refine Mx.loudly (by kernel_rfl) (by kernel_rfl) ?_
                                    go_wp2_with (at_builtin; refine Lib.wpList_append_run _ rfl _ _ _ _ rfl (.slice a' k c') (.slice (some ⟨w9.heap.size, 0, none⟩) 1 1) rfl rfl _ _ hr6 ?_)
                                    refine ⟨HSa6.out, ?_⟩
                                    repeat ((first | (refine Mx.skips (by kernel_rfl) ?_; go_big_quiet_skip) | (refine Mx.quietly rfl ?_; go_big_quiet_want; go_big_quiet_op; go_big_quiet_on)); refine Mx.done ?_)
                                    refine Mx.atLast (by kernel_rfl) (by kernel_rfl) ?_
                                    clear hr6
                                    go_wp2_with fail
                                    go_roundw
                                    case rel => exact ⟨i + 1, k + 1, a6, c6, by first | rfl | (push_cast; rfl), HI.out, HAny2, Lib.hid (by rw [HFil2.out, List.length_append, ← HKl.out]; rfl), Lib.hid (by rw [HLast2.out]; exact HR6.out.set 4 _), Lib.hid (by rw [HFil2.out]; exact own_kept HSp6.out (Kept.set w6 g5 4 _) (fun q hq e => own_nbox HSp6.out HR6.out (by decide) hq e)), Lib.hid (HH6.out.other HG25.out 4 _), HB6.out.setCell (p := ⟨g5, 4, none⟩) HG5.out _⟩
                                    case measure => exact nbj3 HI.out
                            · have z1 := inj2 hin
                              obtain rfl : i = n := Nat.le_antisymm hi (Nat.le_of_not_lt hin)
                              have et : fs.take i = fs := List.take_of_length_le (by rw [HL.out]; exact Nat.le_refl _)
                              rw [et] at HAn HKl HRw HSpw
                              obtain rfl : R = ⟨⟨me, sc, au, pa, fs.filter keepF, fs.foldl lastL' (-1)⟩, 0⟩ := by rw [HRe.out, chkEnd, if_neg (by rw [HAn.out]; decide)]
                              obtain ⟨lz, hlz⟩ : ∃ lz, lz = fs.foldl lastL' (-1) := ⟨_, rfl⟩
                              obtain ⟨fl, hfl⟩ : ∃ fl, fl = fs.filter keepF := ⟨_, rfl⟩
                              rw [← hlz] at HRw
                              rw [← hfl] at HKl HSpw
                              have HLz := Lib.hid hlz
                              have HFl := Lib.hid hfl
                              have b0 : wr.cell? ⟨g5, 0, none⟩ = some (.string ⟨#[]⟩) := HRw.out.cell 0 rfl
                              have b1 : wr.cell? ⟨g5, 1, none⟩ = some (.string ⟨#[]⟩) := HRw.out.cell 1 rfl
                              have b2 : wr.cell? ⟨g5, 2, none⟩ = some (.string ⟨#[]⟩) := HRw.out.cell 2 rfl
                              have b3 : wr.cell? ⟨g5, 3, none⟩ = some (.string ⟨#[]⟩) := HRw.out.cell 3 rfl
                              have d0 : wr.frozen? ⟨g5, 0, none⟩ = false := HRw.out.free 0
                              have d1 : wr.frozen? ⟨g5, 1, none⟩ = false := HRw.out.free 1
                              have d2 : wr.frozen? ⟨g5, 2, none⟩ = false := HRw.out.free 2
                              have d3 : wr.frozen? ⟨g5, 3, none⟩ = false := HRw.out.free 3
                              clear hi hin et hlz hfl HAn HRe
                              go_upto_region 43 with fail
                              obtain ⟨W, hW⟩ : ∃ W, W = wr.setCells g5 0 [.string me, .string sc, .string au, .string pa] := ⟨_, rfl⟩
                              have HRW : Hid (Has W g5 34 (rqC me sc au pa a' k c' lz)) := Lib.hid (by rw [hW]; exact (((HRw.out.set 0 _).set 1 _).set 2 _).set 3 _)
                              have HHW : Hid (Has W g2 34 rq0C) := Lib.hid (by rw [hW]; exact HHw.out.kept (Kept.sets g5 _ 0 wr) HG25.out)
                              have HSpW : Hid (Sps W w.heap.size a' c' fl) := Lib.hid (by rw [hW]; exact own_kept HSpw.out (Kept.sets g5 _ 0 wr) (fun q hq e => own_nbox HSpw.out HRw.out (by decide) hq e))
                              have HBW : Hid (Below w.heap.size w W) := Lib.hid (by rw [hW]; exact HBw.out.trans ((Kept.sets g5 _ 0 wr).below HBw.out.size (fun q hq => by rw [hq]; exact HG5.out)))
                              rw [show (((wr.setCell ⟨g5, 0, none⟩ (.string me)).setCell ⟨g5, 1, none⟩ (.string sc)).setCell ⟨g5, 2, none⟩ (.string au)).setCell ⟨g5, 3, none⟩ (.string pa) = W from hW.symm]
                              clear hW b0 b1 b2 b3 d0 d1 d2 d3 HRw HHw HSpw HBw
                              have b0 : W.cell? ⟨g5, 0, none⟩ = some (.string me) := HRW.out.cell 0 rfl
                              have b1 : W.cell? ⟨g5, 1, none⟩ = some (.string sc) := HRW.out.cell 1 rfl
                              have b2 : W.cell? ⟨g5, 2, none⟩ = some (.string au) := HRW.out.cell 2 rfl
                              have b3 : W.cell? ⟨g5, 3, none⟩ = some (.string pa) := HRW.out.cell 3 rfl
                              have b4 : W.cell? ⟨g5, 4, none⟩ = some (.slice a' k c') := HRW.out.cell 4 rfl
                              have b5 : W.cell? ⟨g5, 5, none⟩ = some (.int .i64 lz) := HRW.out.cell 5 rfl
                              have hth := HHW.out.there (n := 6) rfl
                              have ho1 := rqC_one me sc au pa a' k c' lz
                              go_wp2_with (refine wpList_store_mid rfl 34 (.tmp 6) (.tmp 177) rfl g2 0 #[.string me, .string sc, .string au, .string pa, .slice a' k c', .int .i64 lz] rfl rfl hth infoRq ho1 ?_)
                              refine bodyPost_ret (results_rq2 rfl _ rfl (HHW.out.store (vs := rqC me sc au pa a' k c' lz) rfl) rfl) rfl ?_
                              show CkR w ⟨⟨me, sc, au, pa, fs.filter keepF, fs.foldl lastL' (-1)⟩, 0⟩ _ _
                              rw [← HFl.out, ← HLz.out]
                              refine ⟨a', c', ?_, ?_, ?_⟩
                              · show Ending.returned _ = Ending.returned (.tuple #[.agg #[.string me, .string sc, .string au, .string pa, .slice a' fl.length c', .int .i64 lz], .int .i64 0])
                                rw [← HKl.out]
                                rfl
                              · exact own_kept HSpW.out (Kept.sets g2 _ 0 W) (fun q hq e => own_nbox HSpW.out HHW.out (by decide) hq e)
                              · exact HBW.out.trans ((Kept.sets g2 _ 0 W).below HBW.out.size (fun q hq => by rw [hq]; exact HG2.out))
                        · have haf : authL (bl au) = false := by simpa using hau
                          rw [haf] at HAw
                          obtain rfl : R = Ck.bad 182 := by rw [HRa.out, chkAut, if_pos haf]
                          clear hau haf
                          go_wp2_with fail
                          refine HAw.mono ?_
                          rintro e w8 ⟨rfl, rfl⟩
                          clear HAw
                          have hth := HH5.out.there (n := 6) rfl
                          have ho1 := rqC_one ⟨#[]⟩ ⟨#[]⟩ ⟨#[]⟩ ⟨#[]⟩ none 0 0 0
                          go_wp2_with (refine wpList_store_mid rfl 34 (.tmp 6) (.tmp 109) rfl g2 0 #[.string ⟨#[]⟩, .string ⟨#[]⟩, .string ⟨#[]⟩, .string ⟨#[]⟩, .slice none 0 0, .int .i64 0] rfl rfl hth infoRq ho1 ?_)
                          refine bodyPost_ret (results_rq2 rfl _ rfl (HH5.out.store rfl) rfl) rfl ?_
                          exact ck_bad 182 HB5.out HG2.out
                      | none =>
                        have HRa : Hid (R = chkAut fs me sc pa oh) := Lib.hid (by rw [HR9.out, chkHost, HOh.out])
                        unfold findV at HFa
                        clear HR9 HZa HZq HZm HOh
                        cases oh with
                        | none =>
                          obtain rfl : R = Ck.bad 183 := HRa.out
                          unfold findV at HFh
                          go_wp2_with fail
                          refine HFm.out.mono ?_
                          rintro e w8 ⟨rfl, rfl⟩
                          go_wp2_with fail
                          refine HTw.out.mono ?_
                          rintro e w8 ⟨rfl, rfl⟩
                          go_wp2_with fail
                          refine HFs.out.mono ?_
                          rintro e w8 ⟨rfl, rfl⟩
                          go_wp2_with fail
                          refine HFp.out.mono ?_
                          rintro e w8 ⟨rfl, rfl⟩
                          go_wp2_with fail
                          refine HFa.out.mono ?_
                          rintro e w8 ⟨rfl, rfl⟩
                          go_wp2_with fail
                          refine HPh.out.mono ?_
                          rintro e w8 ⟨rfl, rfl⟩
                          go_wp2_with fail
                          refine HFh.out.mono ?_
                          rintro e w8 ⟨rfl, rfl⟩
                          have hth := HH5.out.there (n := 6) rfl
                          have ho1 := rqC_one ⟨#[]⟩ ⟨#[]⟩ ⟨#[]⟩ ⟨#[]⟩ none 0 0 0
                          go_wp2_with (refine wpList_store_mid rfl 34 (.tmp 6) (.tmp 105) rfl g2 0 #[.string ⟨#[]⟩, .string ⟨#[]⟩, .string ⟨#[]⟩, .string ⟨#[]⟩, .slice none 0 0, .int .i64 0] rfl rfl hth infoRq ho1 ?_)
                          refine bodyPost_ret (results_rq2 rfl _ rfl (HH5.out.store rfl) rfl) rfl ?_
                          exact ck_bad 183 HB5.out HG2.out
                        | some au =>
                          have HZu := Lib.hid (HZh.out au rfl)
                          unfold findV at HFh
                          clear HZh
                          go_wp2_with fail
                          refine HFm.out.mono ?_
                          rintro e w8 ⟨rfl, rfl⟩
                          go_wp2_with fail
                          refine HTw.out.mono ?_
                          rintro e w8 ⟨rfl, rfl⟩
                          go_wp2_with fail
                          refine HFs.out.mono ?_
                          rintro e w8 ⟨rfl, rfl⟩
                          go_wp2_with fail
                          refine HFp.out.mono ?_
                          rintro e w8 ⟨rfl, rfl⟩
                          go_wp2_with fail
                          refine HFa.out.mono ?_
                          rintro e w8 ⟨rfl, rfl⟩
                          go_wp2_with fail
                          refine HPh.out.mono ?_
                          rintro e w8 ⟨rfl, rfl⟩
                          go_wp2_with fail
                          refine HFh.out.mono ?_
                          rintro e w8 ⟨rfl, rfl⟩
                          go_upto_region 31 with fail
                          clear m1 m2 HFm HTw HFs HFp HFa HPh HFh
                          have HAu : Hid (∀ W : World, Calls Tryd.prog 43 #[.string au] W (Ret W (.bool (authL (bl au))))) := Lib.hid (fun W => by have h := auth_any W (bl au) (by rw [← bl_size]; exact Nat.le_trans HZu.out (by decide)); rwa [strB_bl] at h)
                          have HAw := HAu.out w8
                          by_cases hau : authL (bl au) = true
                          · have HRe : Hid (R = chkEnd fs me sc pa au) := Lib.hid (by rw [HRa.out, chkAut]; simp only [hau]; rfl)
                            rw [hau] at HAw
                            clear hau HAu HRa HZu
                            go_wp2_with fail
                            refine HAw.mono ?_
                            rintro e w8 ⟨rfl, rfl⟩
                            clear HAw
                            go_wp2_with fail
                            go_loopw [19] (fun v wr => ∃ (i k : Nat) (a' : Option Addr) (c' : Nat), v = .int .i64 (i : Int) ∧ i ≤ n ∧ Hid ((fs.take i).any (hostBad (bl au)) = false) ∧ Hid (k = ((fs.take i).filter keepF).length) ∧ Hid (Has wr g5 34 (rqC ⟨#[]⟩ ⟨#[]⟩ ⟨#[]⟩ ⟨#[]⟩ a' k c' ((fs.take i).foldl lastL' (-1)))) ∧ Hid (Sps wr w.heap.size a' c' ((fs.take i).filter keepF)) ∧ Hid (Has wr g2 34 rq0C) ∧ Below w.heap.size w wr) (fun v _ => n - (intOf v).toNat)
                            case atStart => exact ⟨0, 0, none, 0, rfl, Nat.zero_le _, Lib.hid rfl, Lib.hid rfl, Lib.hid HR5.out, Lib.hid (World.ownsRow_nil _ _ _ _), Lib.hid HH5.out, HB5.out⟩
                            case round =>
                              clear HSw HR5 HH5 HB5
                              obtain ⟨i, k, a', c', rfl, hi, HAn, HKl, HRw, HSpw, HHw, hb⟩ := hrel
                              have HBw := Lib.hid hb
                              clear hb
                              by_cases hin : i < n
                              · have HI := Lib.hid hin
                                obtain ⟨z1, z2, z3⟩ := inj1 hin (Nat.le_trans HN.out (by decide))
                                have hil : i < fs.length := by rw [HL.out]; exact hin
                                obtain ⟨b, o, rfl, hc⟩ := HS.out.cells (Nat.lt_of_le_of_lt (Nat.zero_le _) hin)
                                obtain ⟨p0, p1⟩ := hc i hil
                                have HAny : Hid (hostBad (bl au) fs[i] = false → (fs.take (i + 1)).any (hostBad (bl au)) = false) := Lib.hid (any_on hil HAn.out)
                                have HBad : Hid (hostBad (bl au) fs[i] = true → fs.any (hostBad (bl au)) = true) := Lib.hid (fun h => List.any_eq_true.2 ⟨fs[i], List.getElem_mem _, h⟩)
                                have HFil : Hid ((fs.take (i + 1)).filter keepF = (fs.take i).filter keepF ++ (if keepF fs[i] = true then [fs[i]] else [])) := Lib.hid (by rw [List.take_succ_eq_append_getElem hil, List.filter_append, List.filter_cons]; rfl)
                                have HLast : Hid ((fs.take (i + 1)).foldl lastL' (-1) = lastL' ((fs.take i).foldl lastL' (-1)) fs[i]) := Lib.hid (by rw [List.take_succ_eq_append_getElem hil, List.foldl_append]; rfl)
                                have HKn : Hid (k ≤ 2097152) := Lib.hid (by
                                  rw [HKl.out]
                                  have h1 := List.length_filter_le keepF (fs.take i)
                                  have h2 := List.length_take_le i fs
                                  have := HN.out
                                  omega)
                                obtain ⟨f, hf⟩ : ∃ f, f = fs[i] := ⟨_, rfl⟩
                                rw [← hf] at p0 p1 HAny HBad HFil HLast
                                obtain ⟨nm, hnm⟩ : ∃ nm, nm = f.nm := ⟨_, rfl⟩
                                obtain ⟨va, hva⟩ : ∃ va, va = f.va := ⟨_, rfl⟩
                                rw [← hnm] at p0
                                rw [← hva] at p1
                                have HF := Lib.hid (And.intro hnm hva)
                                have HFe : Hid (f = ⟨nm, va⟩) := Lib.hid (by rw [hnm, hva])
                                have HP0 := Lib.hid p0
                                have HP1 := Lib.hid p1
                                have HPb : Hid (b < w.heap.size) := Lib.hid (World.block_lt_of_cell? _ _ p0)
                                rw [← HBw.out.cell (World.block_lt_of_cell? _ _ p0)] at p0
                                rw [← HBw.out.cell (World.block_lt_of_cell? _ _ p1)] at p1
                                have HPs : Hid (∀ W : World, Calls Tryd.prog 45 #[.string nm] W (Ret W (.bool (psL (bl nm))))) := Lib.hid (fun W => by have h := pseudo_any W (bl nm); rwa [strB_bl] at h)
                                clear hi hin hil hc hf hnm hva HAn
                                by_cases hh : bl nm = hostS
                                · obtain ⟨e1, e2⟩ := eqT2 (s := nm) (l := [104, 111, 115, 116]) hh
                                  obtain ⟨e3, e4⟩ := eqF2 (s := nm) (l := [99, 111, 110, 116, 101, 110, 116, 45, 108, 101, 110, 103, 116, 104]) (by rw [hh]; decide)
                                  by_cases hv : bl va = bl au
                                  · have HAny2 := Lib.hid (HAny.out (by rw [hostBad, ← HF.out.2, hv]; simp))
                                    have HFil2 : Hid ((fs.take (i + 1)).filter keepF = (fs.take i).filter keepF) := Lib.hid (by rw [HFil.out, keepF, ← HF.out.1, hh]; simp)
                                    have HLast2 : Hid ((fs.take (i + 1)).foldl lastL' (-1) = (fs.take i).foldl lastL' (-1)) := Lib.hid (by rw [HLast.out, lastL', ← HF.out.1, hh, if_neg (by decide)])
                                    obtain rfl : va = au := eqS' hv
                                    clear hv hh
                                    go_wp2_with fail
                                    go_roundw
                                    case rel => exact ⟨i + 1, k, a', c', by first | rfl | (push_cast; rfl), HI.out, HAny2, Lib.hid (by rw [HFil2.out]; exact HKl.out), Lib.hid (by rw [HLast2.out]; exact HRw.out), Lib.hid (by rw [HFil2.out]; exact HSpw.out), HHw, HBw.out⟩
                                    case measure => exact nbj3 HI.out
                                  · have e5 := eqS hv
                                    obtain rfl : R = Ck.bad 182 := by rw [HRe.out, chkEnd, if_pos (HBad.out (by rw [hostBad, ← HF.out.1, ← HF.out.2, hh]; simp [hv]))]
                                    clear hv hh
                                    have hth := HHw.out.there (n := 6) rfl
                                    have ho1 := rqC_one ⟨#[]⟩ ⟨#[]⟩ ⟨#[]⟩ ⟨#[]⟩ none 0 0 0
                                    go_wp2_with (refine wpList_store_mid rfl 34 (.tmp 6) (.tmp 131) rfl g2 0 #[.string ⟨#[]⟩, .string ⟨#[]⟩, .string ⟨#[]⟩, .string ⟨#[]⟩, .slice none 0 0, .int .i64 0] rfl rfl hth infoRq ho1 ?_)
                                    refine bodyPost_ret (results_rq2 rfl _ rfl (HHw.out.store rfl) rfl) rfl ?_
                                    exact ck_bad 182 HBw.out HG2.out
                                · obtain ⟨e1, e2⟩ := eqF2 (s := nm) (l := [104, 111, 115, 116]) hh
                                  have HAny2 := Lib.hid (HAny.out (by rw [hostBad, ← HF.out.1]; simp [hh]))
                                  by_cases hcl : bl nm = clS
                                  · obtain ⟨e3, e4⟩ := eqT2 (s := nm) (l := [99, 111, 110, 116, 101, 110, 116, 45, 108, 101, 110, 103, 116, 104]) hcl
                                    have HPn := HPs.out
                                    have hps : psL (bl nm) = false := by rw [hcl]; decide
                                    rw [hps] at HPs
                                    have HFil2 : Hid ((fs.take (i + 1)).filter keepF = (fs.take i).filter keepF ++ [⟨nm, va⟩]) := Lib.hid (by rw [HFil.out, keepF, ← HF.out.1, hps]; simp [hh, HFe.out])
                                    have HLast2 : Hid ((fs.take (i + 1)).foldl lastL' (-1) = lenL (bl va)) := Lib.hid (by rw [HLast.out, lastL', ← HF.out.1, ← HF.out.2, if_pos hcl])
                                    have HLn : Hid (Calls Tryd.prog 44 #[.string va] wr (Ret wr (.int .i64 (lenL (bl va))))) := Lib.hid (by have h := length_any wr (bl va); rwa [strB_bl] at h)
                                    obtain ⟨lz, hlz⟩ : ∃ lz, lz = (fs.take i).foldl lastL' (-1) := ⟨_, rfl⟩
                                    rw [← hlz] at HRw
                                    have g5c : wr.cell? ⟨g5, 5, none⟩ = some (.int .i64 lz) := HRw.out.cell 5 rfl
                                    have g5f : wr.frozen? ⟨g5, 5, none⟩ = false := HRw.out.free 5
                                    obtain ⟨lv, hlv⟩ : ∃ lv, lv = lenL (bl va) := ⟨_, rfl⟩
                                    rw [← hlv] at HLn HLast2
                                    clear hh hcl hps HPn hlz hlv
                                    go_wp2_with fail
                                    refine HLn.out.mono ?_
                                    rintro e w9 ⟨rfl, rfl⟩
                                    go_upto_region 40 with fail
                                    obtain ⟨W, hW⟩ : ∃ W, W = w9.setCell ⟨g5, 5, none⟩ (.int .i64 lv) := ⟨_, rfl⟩
                                    have HRw2 : Hid (Has W g5 34 (rqC ⟨#[]⟩ ⟨#[]⟩ ⟨#[]⟩ ⟨#[]⟩ a' k c' lv)) := Lib.hid (by rw [hW]; exact HRw.out.set 5 _)
                                    have HHw2 : Hid (Has W g2 34 rq0C) := Lib.hid (by rw [hW]; exact HHw.out.other HG25.out 5 _)
                                    have HSpw2 : Hid (Sps W w.heap.size a' c' ((fs.take i).filter keepF)) := Lib.hid (by rw [hW]; exact own_kept HSpw.out (Kept.set w9 g5 5 _) (fun q hq e => own_nbox HSpw.out HRw.out (by decide) hq e))
                                    have HBw2 : Hid (Below w.heap.size w W) := Lib.hid (by rw [hW]; exact HBw.out.setCell (p := ⟨g5, 5, none⟩) HG5.out _)
                                    rw [← hW]
                                    clear g5c g5f hW HRw HHw HSpw HBw p0 p1
                                    have HRw := HRw2
                                    have HHw := HHw2
                                    have HSpw := HSpw2
                                    have HBw := HBw2
                                    clear HRw2 HHw2 HSpw2 HBw2
                                    have p0 := HP0.out
                                    rw [← HBw.out.cell HPb.out] at p0
                                    have p1 := HP1.out
                                    rw [← HBw.out.cell HPb.out] at p1
                                    have HPq := HPs.out W
                                    go_wp2_with fail
                                    refine HPq.mono ?_
                                    rintro e w9 ⟨rfl, rfl⟩
                                    clear HPq
                                    have hbd : Below w9.heap.size w9 w9.drew := below_drewN (Below.refl w9.heap.size w9) 1
                                    have HWs : Hid (w.heap.size ≤ w9.heap.size) := Lib.hid HBw.out.size
                                    have HRd : Hid (Has w9.drew g5 34 (rqC ⟨#[]⟩ ⟨#[]⟩ ⟨#[]⟩ ⟨#[]⟩ a' k c' (lv))) := Lib.hid (HRw.out.kept (Kept.of_below (X := none') hbd) (fun h => h))
                                    have HHd : Hid (Has w9.drew g2 34 rq0C) := Lib.hid (HHw.out.kept (Kept.of_below (X := none') hbd) (fun h => h))
                                    have HSpd : Hid (Sps w9.drew w.heap.size a' c' ((fs.take i).filter keepF)) := Lib.hid (own_below HSpw.out hbd)
                                    have HBd : Hid (Below w.heap.size w w9.drew) := Lib.hid (HBw.out.trans (hbd.mono HBw.out.size))
                                    have HSa : Hid (Sat [(⟨g5, 4, none⟩, .slice a' k c'), (⟨b, o + i * 2, none⟩, .string nm), (⟨b, o + i * 2 + 1, none⟩, .string va)] w9.drew) := Lib.hid (Sat.cons (HRd.out.cell 4 rfl) (Sat.below (w := w9) (Sat.cons p0 (Sat.cons p1 (Sat.nil _))) hbd))
                                    obtain ⟨a6, c6, w6, hr6, hsp6, hb6, hk6⟩ := app_fd (tyo := 22) ⟨nm, va⟩ HSpd.out HKl.out.symm HKn.out HBd.out.size
                                    have hspk : w9.drew.ownsRow w.heap.size 64 2 (.slice a' k c') k (sv ((fs.take i).filter keepF)) := by have h := HSpd.out; unfold Sps at h; rw [← HKl.out] at h; exact h
                                    have HR6 : Hid (Has w6 g5 34 (rqC ⟨#[]⟩ ⟨#[]⟩ ⟨#[]⟩ ⟨#[]⟩ a' k c' (lv))) := Lib.hid (HRd.out.kept hk6 (fun e => own_nbox hspk HRd.out (by decide) e rfl))
                                    have HH6 : Hid (Has w6 g2 34 rq0C) := Lib.hid (HHd.out.kept hk6 (fun e => own_nbox hspk HHd.out (by decide) e rfl))
                                    have HB6 : Hid (Below w.heap.size w w6) := Lib.hid (HBd.out.trans hb6)
                                    have HSp6 := Lib.hid hsp6
                                    have hal : Below w9.drew.heap.size w9.drew (w9.drew.alloc (.cells #[.string nm, .string va] 64)) := (Below.refl _ _).alloc (Nat.le_refl _) _
                                    have HSal : Hid (Sat [(⟨g5, 4, none⟩, .slice a' k c'), (⟨b, o + i * 2, none⟩, .string nm), (⟨b, o + i * 2 + 1, none⟩, .string va)] (w9.drew.alloc (.cells #[.string nm, .string va] 64))) := Lib.hid (HSa.out.below hal)
                                    have HSa6 : Hid (Sat [(⟨g5, 4, none⟩, .slice a' k c'), (⟨b, o + i * 2, none⟩, .string nm), (⟨b, o + i * 2 + 1, none⟩, .string va)] w6) := Lib.hid (Sat.cons (HR6.out.cell 4 rfl) (Sat.cons (by rw [HB6.out.cell (HPb.out)]; exact HP0.out) (Sat.cons (by rw [HB6.out.cell (HPb.out)]; exact HP1.out) (Sat.nil _))))
                                    have k6 : w6.cell? ⟨g5, 4, none⟩ = some (.slice a' k c') := HR6.out.cell 4 rfl
                                    have f6 : w6.frozen? ⟨g5, 4, none⟩ = false := HR6.out.free 4
                                    clear hbd hb6 hk6 hsp6 hspk hal p0 p1
                                    go_upto_region 41 with fail
                                    refine Mx.regionZ [] (Sat [(⟨g5, 4, none⟩, .slice a' k c'), (⟨b, o + i * 2, none⟩, .string nm), (⟨b, o + i * 2 + 1, none⟩, .string va)]) (by kernel_rfl) (by kernel_rfl) HSa.out ?_
                                    repeat ((first | (refine Mx.skips (by kernel_rfl) ?_; go_big_quiet_skip) | (refine Mx.quietly rfl ?_; go_big_quiet_want; go_big_quiet_op; go_big_quiet_on)); refine Mx.done ?_)
                                    refine Mx.cell ⟨g5, 4, none⟩ (.slice a' k c') (by kernel_rfl) (by kernel_rfl) (by kernel_rfl) Tryd.isAgg22 (fun w' h => h 0 _ _ rfl) ?_
                                    go_big_quiet_want; go_big_quiet_op; go_big_quiet_on; refine Mx.done ?_
                                    repeat ((first | (refine Mx.skips (by kernel_rfl) ?_; go_big_quiet_skip) | (refine Mx.quietly rfl ?_; go_big_quiet_want; go_big_quiet_op; go_big_quiet_on)); refine Mx.done ?_)
                                    refine Mx.mid b (o + i * 2) [.string nm, .string va] _ (by kernel_rfl) (by kernel_rfl) (by kernel_rfl) Tryd.underlying64 rfl (by kernel_rfl) (fun w' h => mid2 (h 1 _ _ rfl) (h 2 _ _ rfl)) ?_
                                    go_big_quiet_want; go_big_quiet_op; go_big_quiet_on; refine Mx.done ?_
                                    repeat ((first | (refine Mx.skips (by kernel_rfl) ?_; go_big_quiet_skip) | (refine Mx.quietly rfl ?_; go_big_quiet_want; go_big_quiet_op; go_big_quiet_on)); refine Mx.done ?_)
                                    refine Mx.loudly (by kernel_rfl) (by kernel_rfl) ?_
                                    go_wp2_with fail
                                    refine ⟨HSal.out, ?_⟩
                                    repeat ((first | (refine Mx.skips (by kernel_rfl) ?_; go_big_quiet_skip) | (refine Mx.quietly rfl ?_; go_big_quiet_want; go_big_quiet_op; go_big_quiet_on)); refine Mx.done ?_)
                                    refine Mx.loudly (by kernel_rfl) (by kernel_rfl) ?_
                                    go_wp2_with (at_builtin; refine Lib.wpList_append_run _ rfl _ _ _ _ rfl (.slice a' k c') (.slice (some ⟨w9.heap.size, 0, none⟩) 1 1) rfl rfl _ _ hr6 ?_)
                                    refine ⟨HSa6.out, ?_⟩
                                    repeat ((first | (refine Mx.skips (by kernel_rfl) ?_; go_big_quiet_skip) | (refine Mx.quietly rfl ?_; go_big_quiet_want; go_big_quiet_op; go_big_quiet_on)); refine Mx.done ?_)
                                    refine Mx.atLast (by kernel_rfl) (by kernel_rfl) ?_
                                    clear hr6
                                    go_wp2_with fail
                                    go_roundw
                                    case rel => exact ⟨i + 1, k + 1, a6, c6, by first | rfl | (push_cast; rfl), HI.out, HAny2, Lib.hid (by rw [HFil2.out, List.length_append, ← HKl.out]; rfl), Lib.hid (by rw [HLast2.out]; exact HR6.out.set 4 _), Lib.hid (by rw [HFil2.out]; exact own_kept HSp6.out (Kept.set w6 g5 4 _) (fun q hq e => own_nbox HSp6.out HR6.out (by decide) hq e)), Lib.hid (HH6.out.other HG25.out 4 _), HB6.out.setCell (p := ⟨g5, 4, none⟩) HG5.out _⟩
                                    case measure => exact nbj3 HI.out
                                  · obtain ⟨e3, e4⟩ := eqF2 (s := nm) (l := [99, 111, 110, 116, 101, 110, 116, 45, 108, 101, 110, 103, 116, 104]) hcl
                                    have HLast2 : Hid ((fs.take (i + 1)).foldl lastL' (-1) = (fs.take i).foldl lastL' (-1)) := Lib.hid (by rw [HLast.out, lastL', ← HF.out.1, if_neg hcl])
                                    have HPq := HPs.out wr
                                    by_cases hps : psL (bl nm) = true
                                    · rw [hps] at HPq
                                      have HFil2 : Hid ((fs.take (i + 1)).filter keepF = (fs.take i).filter keepF) := Lib.hid (by rw [HFil.out, keepF, ← HF.out.1, hps]; simp)
                                      clear hps hh hcl
                                      go_wp2_with fail
                                      refine HPq.mono ?_
                                      rintro e w9 ⟨rfl, rfl⟩
                                      clear HPq
                                      go_wp2_with fail
                                      go_roundw
                                      case rel => exact ⟨i + 1, k, a', c', by first | rfl | (push_cast; rfl), HI.out, HAny2, Lib.hid (by rw [HFil2.out]; exact HKl.out), Lib.hid (by rw [HLast2.out]; exact HRw.out), Lib.hid (by rw [HFil2.out]; exact HSpw.out), HHw, HBw.out⟩
                                      case measure => exact nbj3 HI.out
                                    · have hpf : psL (bl nm) = false := by simpa using hps
                                      rw [hpf] at HPq
                                      have HFil2 : Hid ((fs.take (i + 1)).filter keepF = (fs.take i).filter keepF ++ [⟨nm, va⟩]) := Lib.hid (by rw [HFil.out, keepF, ← HF.out.1, hpf]; simp [hh, HFe.out])
                                      obtain ⟨lz, hlz⟩ : ∃ lz, lz = (fs.take i).foldl lastL' (-1) := ⟨_, rfl⟩
                                      rw [← hlz] at HRw HLast2
                                      clear hps hpf hh hcl hlz
                                      go_wp2_with fail
                                      refine HPq.mono ?_
                                      rintro e w9 ⟨rfl, rfl⟩
                                      clear HPq
                                      have hbd : Below w9.heap.size w9 w9.drew := below_drewN (Below.refl w9.heap.size w9) 1
                                      have HWs : Hid (w.heap.size ≤ w9.heap.size) := Lib.hid HBw.out.size
                                      have HRd : Hid (Has w9.drew g5 34 (rqC ⟨#[]⟩ ⟨#[]⟩ ⟨#[]⟩ ⟨#[]⟩ a' k c' (lz))) := Lib.hid (HRw.out.kept (Kept.of_below (X := none') hbd) (fun h => h))
                                      have HHd : Hid (Has w9.drew g2 34 rq0C) := Lib.hid (HHw.out.kept (Kept.of_below (X := none') hbd) (fun h => h))
                                      have HSpd : Hid (Sps w9.drew w.heap.size a' c' ((fs.take i).filter keepF)) := Lib.hid (own_below HSpw.out hbd)
                                      have HBd : Hid (Below w.heap.size w w9.drew) := Lib.hid (HBw.out.trans (hbd.mono HBw.out.size))
                                      have HSa : Hid (Sat [(⟨g5, 4, none⟩, .slice a' k c'), (⟨b, o + i * 2, none⟩, .string nm), (⟨b, o + i * 2 + 1, none⟩, .string va)] w9.drew) := Lib.hid (Sat.cons (HRd.out.cell 4 rfl) (Sat.below (w := w9) (Sat.cons p0 (Sat.cons p1 (Sat.nil _))) hbd))
                                      obtain ⟨a6, c6, w6, hr6, hsp6, hb6, hk6⟩ := app_fd (tyo := 22) ⟨nm, va⟩ HSpd.out HKl.out.symm HKn.out HBd.out.size
                                      have hspk : w9.drew.ownsRow w.heap.size 64 2 (.slice a' k c') k (sv ((fs.take i).filter keepF)) := by have h := HSpd.out; unfold Sps at h; rw [← HKl.out] at h; exact h
                                      have HR6 : Hid (Has w6 g5 34 (rqC ⟨#[]⟩ ⟨#[]⟩ ⟨#[]⟩ ⟨#[]⟩ a' k c' (lz))) := Lib.hid (HRd.out.kept hk6 (fun e => own_nbox hspk HRd.out (by decide) e rfl))
                                      have HH6 : Hid (Has w6 g2 34 rq0C) := Lib.hid (HHd.out.kept hk6 (fun e => own_nbox hspk HHd.out (by decide) e rfl))
                                      have HB6 : Hid (Below w.heap.size w w6) := Lib.hid (HBd.out.trans hb6)
                                      have HSp6 := Lib.hid hsp6
                                      have hal : Below w9.drew.heap.size w9.drew (w9.drew.alloc (.cells #[.string nm, .string va] 64)) := (Below.refl _ _).alloc (Nat.le_refl _) _
                                      have HSal : Hid (Sat [(⟨g5, 4, none⟩, .slice a' k c'), (⟨b, o + i * 2, none⟩, .string nm), (⟨b, o + i * 2 + 1, none⟩, .string va)] (w9.drew.alloc (.cells #[.string nm, .string va] 64))) := Lib.hid (HSa.out.below hal)
                                      have HSa6 : Hid (Sat [(⟨g5, 4, none⟩, .slice a' k c'), (⟨b, o + i * 2, none⟩, .string nm), (⟨b, o + i * 2 + 1, none⟩, .string va)] w6) := Lib.hid (Sat.cons (HR6.out.cell 4 rfl) (Sat.cons (by rw [HB6.out.cell (HPb.out)]; exact HP0.out) (Sat.cons (by rw [HB6.out.cell (HPb.out)]; exact HP1.out) (Sat.nil _))))
                                      have k6 : w6.cell? ⟨g5, 4, none⟩ = some (.slice a' k c') := HR6.out.cell 4 rfl
                                      have f6 : w6.frozen? ⟨g5, 4, none⟩ = false := HR6.out.free 4
                                      clear hbd hb6 hk6 hsp6 hspk hal p0 p1
                                      go_upto_region 41 with fail
                                      refine Mx.regionZ [] (Sat [(⟨g5, 4, none⟩, .slice a' k c'), (⟨b, o + i * 2, none⟩, .string nm), (⟨b, o + i * 2 + 1, none⟩, .string va)]) (by kernel_rfl) (by kernel_rfl) HSa.out ?_
                                      repeat ((first | (refine Mx.skips (by kernel_rfl) ?_; go_big_quiet_skip) | (refine Mx.quietly rfl ?_; go_big_quiet_want; go_big_quiet_op; go_big_quiet_on)); refine Mx.done ?_)
                                      refine Mx.cell ⟨g5, 4, none⟩ (.slice a' k c') (by kernel_rfl) (by kernel_rfl) (by kernel_rfl) Tryd.isAgg22 (fun w' h => h 0 _ _ rfl) ?_
                                      go_big_quiet_want; go_big_quiet_op; go_big_quiet_on; refine Mx.done ?_
                                      repeat ((first | (refine Mx.skips (by kernel_rfl) ?_; go_big_quiet_skip) | (refine Mx.quietly rfl ?_; go_big_quiet_want; go_big_quiet_op; go_big_quiet_on)); refine Mx.done ?_)
                                      refine Mx.mid b (o + i * 2) [.string nm, .string va] _ (by kernel_rfl) (by kernel_rfl) (by kernel_rfl) Tryd.underlying64 rfl (by kernel_rfl) (fun w' h => mid2 (h 1 _ _ rfl) (h 2 _ _ rfl)) ?_
                                      go_big_quiet_want; go_big_quiet_op; go_big_quiet_on; refine Mx.done ?_
                                      repeat ((first | (refine Mx.skips (by kernel_rfl) ?_; go_big_quiet_skip) | (refine Mx.quietly rfl ?_; go_big_quiet_want; go_big_quiet_op; go_big_quiet_on)); refine Mx.done ?_)
                                      refine Mx.loudly (by kernel_rfl) (by kernel_rfl) ?_
                                      go_wp2_with fail
                                      refine ⟨HSal.out, ?_⟩
                                      repeat ((first | (refine Mx.skips (by kernel_rfl) ?_; go_big_quiet_skip) | (refine Mx.quietly rfl ?_; go_big_quiet_want; go_big_quiet_op; go_big_quiet_on)); refine Mx.done ?_)
                                      refine Mx.loudly (by kernel_rfl) (by kernel_rfl) ?_
                                      go_wp2_with (at_builtin; refine Lib.wpList_append_run _ rfl _ _ _ _ rfl (.slice a' k c') (.slice (some ⟨w9.heap.size, 0, none⟩) 1 1) rfl rfl _ _ hr6 ?_)
                                      refine ⟨HSa6.out, ?_⟩
                                      repeat ((first | (refine Mx.skips (by kernel_rfl) ?_; go_big_quiet_skip) | (refine Mx.quietly rfl ?_; go_big_quiet_want; go_big_quiet_op; go_big_quiet_on)); refine Mx.done ?_)
                                      refine Mx.atLast (by kernel_rfl) (by kernel_rfl) ?_
                                      clear hr6
                                      go_wp2_with fail
                                      go_roundw
                                      case rel => exact ⟨i + 1, k + 1, a6, c6, by first | rfl | (push_cast; rfl), HI.out, HAny2, Lib.hid (by rw [HFil2.out, List.length_append, ← HKl.out]; rfl), Lib.hid (by rw [HLast2.out]; exact HR6.out.set 4 _), Lib.hid (by rw [HFil2.out]; exact own_kept HSp6.out (Kept.set w6 g5 4 _) (fun q hq e => own_nbox HSp6.out HR6.out (by decide) hq e)), Lib.hid (HH6.out.other HG25.out 4 _), HB6.out.setCell (p := ⟨g5, 4, none⟩) HG5.out _⟩
                                      case measure => exact nbj3 HI.out
                              · have z1 := inj2 hin
                                obtain rfl : i = n := Nat.le_antisymm hi (Nat.le_of_not_lt hin)
                                have et : fs.take i = fs := List.take_of_length_le (by rw [HL.out]; exact Nat.le_refl _)
                                rw [et] at HAn HKl HRw HSpw
                                obtain rfl : R = ⟨⟨me, sc, au, pa, fs.filter keepF, fs.foldl lastL' (-1)⟩, 0⟩ := by rw [HRe.out, chkEnd, if_neg (by rw [HAn.out]; decide)]
                                obtain ⟨lz, hlz⟩ : ∃ lz, lz = fs.foldl lastL' (-1) := ⟨_, rfl⟩
                                obtain ⟨fl, hfl⟩ : ∃ fl, fl = fs.filter keepF := ⟨_, rfl⟩
                                rw [← hlz] at HRw
                                rw [← hfl] at HKl HSpw
                                have HLz := Lib.hid hlz
                                have HFl := Lib.hid hfl
                                have b0 : wr.cell? ⟨g5, 0, none⟩ = some (.string ⟨#[]⟩) := HRw.out.cell 0 rfl
                                have b1 : wr.cell? ⟨g5, 1, none⟩ = some (.string ⟨#[]⟩) := HRw.out.cell 1 rfl
                                have b2 : wr.cell? ⟨g5, 2, none⟩ = some (.string ⟨#[]⟩) := HRw.out.cell 2 rfl
                                have b3 : wr.cell? ⟨g5, 3, none⟩ = some (.string ⟨#[]⟩) := HRw.out.cell 3 rfl
                                have d0 : wr.frozen? ⟨g5, 0, none⟩ = false := HRw.out.free 0
                                have d1 : wr.frozen? ⟨g5, 1, none⟩ = false := HRw.out.free 1
                                have d2 : wr.frozen? ⟨g5, 2, none⟩ = false := HRw.out.free 2
                                have d3 : wr.frozen? ⟨g5, 3, none⟩ = false := HRw.out.free 3
                                clear hi hin et hlz hfl HAn HRe
                                go_upto_region 43 with fail
                                obtain ⟨W, hW⟩ : ∃ W, W = wr.setCells g5 0 [.string me, .string sc, .string au, .string pa] := ⟨_, rfl⟩
                                have HRW : Hid (Has W g5 34 (rqC me sc au pa a' k c' lz)) := Lib.hid (by rw [hW]; exact (((HRw.out.set 0 _).set 1 _).set 2 _).set 3 _)
                                have HHW : Hid (Has W g2 34 rq0C) := Lib.hid (by rw [hW]; exact HHw.out.kept (Kept.sets g5 _ 0 wr) HG25.out)
                                have HSpW : Hid (Sps W w.heap.size a' c' fl) := Lib.hid (by rw [hW]; exact own_kept HSpw.out (Kept.sets g5 _ 0 wr) (fun q hq e => own_nbox HSpw.out HRw.out (by decide) hq e))
                                have HBW : Hid (Below w.heap.size w W) := Lib.hid (by rw [hW]; exact HBw.out.trans ((Kept.sets g5 _ 0 wr).below HBw.out.size (fun q hq => by rw [hq]; exact HG5.out)))
                                rw [show (((wr.setCell ⟨g5, 0, none⟩ (.string me)).setCell ⟨g5, 1, none⟩ (.string sc)).setCell ⟨g5, 2, none⟩ (.string au)).setCell ⟨g5, 3, none⟩ (.string pa) = W from hW.symm]
                                clear hW b0 b1 b2 b3 d0 d1 d2 d3 HRw HHw HSpw HBw
                                have b0 : W.cell? ⟨g5, 0, none⟩ = some (.string me) := HRW.out.cell 0 rfl
                                have b1 : W.cell? ⟨g5, 1, none⟩ = some (.string sc) := HRW.out.cell 1 rfl
                                have b2 : W.cell? ⟨g5, 2, none⟩ = some (.string au) := HRW.out.cell 2 rfl
                                have b3 : W.cell? ⟨g5, 3, none⟩ = some (.string pa) := HRW.out.cell 3 rfl
                                have b4 : W.cell? ⟨g5, 4, none⟩ = some (.slice a' k c') := HRW.out.cell 4 rfl
                                have b5 : W.cell? ⟨g5, 5, none⟩ = some (.int .i64 lz) := HRW.out.cell 5 rfl
                                have hth := HHW.out.there (n := 6) rfl
                                have ho1 := rqC_one me sc au pa a' k c' lz
                                go_wp2_with (refine wpList_store_mid rfl 34 (.tmp 6) (.tmp 177) rfl g2 0 #[.string me, .string sc, .string au, .string pa, .slice a' k c', .int .i64 lz] rfl rfl hth infoRq ho1 ?_)
                                refine bodyPost_ret (results_rq2 rfl _ rfl (HHW.out.store (vs := rqC me sc au pa a' k c' lz) rfl) rfl) rfl ?_
                                show CkR w ⟨⟨me, sc, au, pa, fs.filter keepF, fs.foldl lastL' (-1)⟩, 0⟩ _ _
                                rw [← HFl.out, ← HLz.out]
                                refine ⟨a', c', ?_, ?_, ?_⟩
                                · show Ending.returned _ = Ending.returned (.tuple #[.agg #[.string me, .string sc, .string au, .string pa, .slice a' fl.length c', .int .i64 lz], .int .i64 0])
                                  rw [← HKl.out]
                                  rfl
                                · exact own_kept HSpW.out (Kept.sets g2 _ 0 W) (fun q hq e => own_nbox HSpW.out HHW.out (by decide) hq e)
                                · exact HBW.out.trans ((Kept.sets g2 _ 0 W).below HBW.out.size (fun q hq => by rw [hq]; exact HG2.out))
                          · have haf : authL (bl au) = false := by simpa using hau
                            rw [haf] at HAw
                            obtain rfl : R = Ck.bad 182 := by rw [HRa.out, chkAut, if_pos haf]
                            clear hau haf
                            go_wp2_with fail
                            refine HAw.mono ?_
                            rintro e w8 ⟨rfl, rfl⟩
                            clear HAw
                            have hth := HH5.out.there (n := 6) rfl
                            have ho1 := rqC_one ⟨#[]⟩ ⟨#[]⟩ ⟨#[]⟩ ⟨#[]⟩ none 0 0 0
                            go_wp2_with (refine wpList_store_mid rfl 34 (.tmp 6) (.tmp 109) rfl g2 0 #[.string ⟨#[]⟩, .string ⟨#[]⟩, .string ⟨#[]⟩, .string ⟨#[]⟩, .slice none 0 0, .int .i64 0] rfl rfl hth infoRq ho1 ?_)
                            refine bodyPost_ret (results_rq2 rfl _ rfl (HH5.out.store rfl) rfl) rfl ?_
                            exact ck_bad 182 HB5.out HG2.out
                    · have hpf : pathL (bl me) (bl pa) = false := by simpa using hp
                      have HPw := HPa.out w5
                      rw [hpf] at HPw
                      have HPh := Lib.hid HPw
                      obtain rfl : R = Ck.bad 182 := by rw [HR8.out, hpf]; rfl
                      clear hp hpf HPw HPa HR8
                      cases oa with
                      | some au =>
                        unfold findV at HFa
                        go_wp2_with fail
                        refine HFm.out.mono ?_
                        rintro e w8 ⟨rfl, rfl⟩
                        go_wp2_with fail
                        refine HTw.out.mono ?_
                        rintro e w8 ⟨rfl, rfl⟩
                        go_wp2_with fail
                        refine HFs.out.mono ?_
                        rintro e w8 ⟨rfl, rfl⟩
                        go_wp2_with fail
                        refine HFp.out.mono ?_
                        rintro e w8 ⟨rfl, rfl⟩
                        go_wp2_with fail
                        refine HFa.out.mono ?_
                        rintro e w8 ⟨rfl, rfl⟩
                        go_wp2_with fail
                        refine HPh.out.mono ?_
                        rintro e w8 ⟨rfl, rfl⟩
                        have hth := HH5.out.there (n := 6) rfl
                        have ho1 := rqC_one ⟨#[]⟩ ⟨#[]⟩ ⟨#[]⟩ ⟨#[]⟩ none 0 0 0
                        go_wp2_with (refine wpList_store_mid rfl 34 (.tmp 6) (.tmp 95) rfl g2 0 #[.string ⟨#[]⟩, .string ⟨#[]⟩, .string ⟨#[]⟩, .string ⟨#[]⟩, .slice none 0 0, .int .i64 0] rfl rfl hth infoRq ho1 ?_)
                        refine bodyPost_ret (results_rq2 rfl _ rfl (HH5.out.store rfl) rfl) rfl ?_
                        exact ck_bad 182 HB5.out HG2.out
                      | none =>
                        unfold findV at HFa
                        go_wp2_with fail
                        refine HFm.out.mono ?_
                        rintro e w8 ⟨rfl, rfl⟩
                        go_wp2_with fail
                        refine HTw.out.mono ?_
                        rintro e w8 ⟨rfl, rfl⟩
                        go_wp2_with fail
                        refine HFs.out.mono ?_
                        rintro e w8 ⟨rfl, rfl⟩
                        go_wp2_with fail
                        refine HFp.out.mono ?_
                        rintro e w8 ⟨rfl, rfl⟩
                        go_wp2_with fail
                        refine HFa.out.mono ?_
                        rintro e w8 ⟨rfl, rfl⟩
                        go_wp2_with fail
                        refine HPh.out.mono ?_
                        rintro e w8 ⟨rfl, rfl⟩
                        have hth := HH5.out.there (n := 6) rfl
                        have ho1 := rqC_one ⟨#[]⟩ ⟨#[]⟩ ⟨#[]⟩ ⟨#[]⟩ none 0 0 0
                        go_wp2_with (refine wpList_store_mid rfl 34 (.tmp 6) (.tmp 95) rfl g2 0 #[.string ⟨#[]⟩, .string ⟨#[]⟩, .string ⟨#[]⟩, .string ⟨#[]⟩, .slice none 0 0, .int .i64 0] rfl rfl hth infoRq ho1 ?_)
                        refine bodyPost_ret (results_rq2 rfl _ rfl (HH5.out.store rfl) rfl) rfl ?_
                        exact ck_bad 182 HB5.out HG2.out
                  · obtain ⟨s3, s4⟩ := eqF2 (s := sc) (l := [104, 116, 116, 112, 115]) hs3
                    obtain rfl : R = Ck.bad 182 := by
                      have hok : okSch (bl sc) = false := by simp [okSch, hs1, hs3]
                      rw [HR7.out, hok]; rfl
                    clear hs1 hs3 HR7
                    cases oa with
                    | some au =>
                      unfold findV at HFa
                      go_wp2_with fail
                      refine HFm.out.mono ?_
                      rintro e w8 ⟨rfl, rfl⟩
                      go_wp2_with fail
                      refine HTw.out.mono ?_
                      rintro e w8 ⟨rfl, rfl⟩
                      go_wp2_with fail
                      refine HFs.out.mono ?_
                      rintro e w8 ⟨rfl, rfl⟩
                      go_wp2_with fail
                      refine HFp.out.mono ?_
                      rintro e w8 ⟨rfl, rfl⟩
                      go_wp2_with fail
                      refine HFa.out.mono ?_
                      rintro e w8 ⟨rfl, rfl⟩
                      have hth := HH5.out.there (n := 6) rfl
                      have ho1 := rqC_one ⟨#[]⟩ ⟨#[]⟩ ⟨#[]⟩ ⟨#[]⟩ none 0 0 0
                      go_wp2_with (refine wpList_store_mid rfl 34 (.tmp 6) (.tmp 95) rfl g2 0 #[.string ⟨#[]⟩, .string ⟨#[]⟩, .string ⟨#[]⟩, .string ⟨#[]⟩, .slice none 0 0, .int .i64 0] rfl rfl hth infoRq ho1 ?_)
                      refine bodyPost_ret (results_rq2 rfl _ rfl (HH5.out.store rfl) rfl) rfl ?_
                      exact ck_bad 182 HB5.out HG2.out
                    | none =>
                      unfold findV at HFa
                      go_wp2_with fail
                      refine HFm.out.mono ?_
                      rintro e w8 ⟨rfl, rfl⟩
                      go_wp2_with fail
                      refine HTw.out.mono ?_
                      rintro e w8 ⟨rfl, rfl⟩
                      go_wp2_with fail
                      refine HFs.out.mono ?_
                      rintro e w8 ⟨rfl, rfl⟩
                      go_wp2_with fail
                      refine HFp.out.mono ?_
                      rintro e w8 ⟨rfl, rfl⟩
                      go_wp2_with fail
                      refine HFa.out.mono ?_
                      rintro e w8 ⟨rfl, rfl⟩
                      have hth := HH5.out.there (n := 6) rfl
                      have ho1 := rqC_one ⟨#[]⟩ ⟨#[]⟩ ⟨#[]⟩ ⟨#[]⟩ none 0 0 0
                      go_wp2_with (refine wpList_store_mid rfl 34 (.tmp 6) (.tmp 95) rfl g2 0 #[.string ⟨#[]⟩, .string ⟨#[]⟩, .string ⟨#[]⟩, .string ⟨#[]⟩, .slice none 0 0, .int .i64 0] rfl rfl hth infoRq ho1 ?_)
                      refine bodyPost_ret (results_rq2 rfl _ rfl (HH5.out.store rfl) rfl) rfl ?_
                      exact ck_bad 182 HB5.out HG2.out
        · have htf : tokenL (bl me) = false := by simpa using htk
          obtain rfl : R = Ck.bad 182 := by rw [HR3.out]; simp only [htf]; rfl
          have HTw := HTk.out w5
          rw [htf] at HTw
          clear htk htf
          go_wp2_with fail
          refine HFm.out.mono ?_
          rintro e w8 ⟨rfl, rfl⟩
          go_wp2_with fail
          refine HTw.mono ?_
          rintro e w8 ⟨rfl, rfl⟩
          have hth := HH5.out.there (n := 6) rfl
          have ho1 := rqC_one ⟨#[]⟩ ⟨#[]⟩ ⟨#[]⟩ ⟨#[]⟩ none 0 0 0
          go_wp2_with (refine wpList_store_mid rfl 34 (.tmp 6) (.tmp 50) rfl g2 0 #[.string ⟨#[]⟩, .string ⟨#[]⟩, .string ⟨#[]⟩, .string ⟨#[]⟩, .slice none 0 0, .int .i64 0] rfl rfl hth infoRq ho1 ?_)
          refine bodyPost_ret (results_rq2 rfl _ rfl (HH5.out.store rfl) rfl) rfl ?_
          exact ck_bad 182 HB5.out HG2.out
end Go.Proofs.YtohinaohcndndaaDoor

/- FrameOnce answers true. -/
import Derived.Test.YtppkilkfmclpkaaFrAwk
import Derived.Test.YtppkilkfmclpkaaFrSm
import Derived.Test.YtppkilkfmclpkaaFrInv2
import Derived.Test.YtppkilkfmclpkaaFrLoc
namespace Go.Proofs.Ytppkilkfmclpkaa
open Go.RowKit

theorem fown_low {w : World} {B : Nat} {f : Fm} {a : FA} (h : FOwn w B f a) : FLow w.heap.size a := fun k hk => by
  rcases hk with hk | hk | hk
  · exact (ownsRow_ge h.data k hk).2
  · exact (ownsRow_ge h.cid k hk).2
  · exact (ownsRow_ge h.spans k hk).2
theorem flat_take (fs : List Fm) (i : Nat) (h : i < fs.length) : (fs.take (i + 1)).flatMap encB = (fs.take i).flatMap encB ++ encB fs[i] := by
  rw [List.take_succ_eq_append_getElem h, List.flatMap_append]
  simp
/-- a frame of a row is laid as a variable -/
theorem at_cells {w : World} {s i : Nat} {f : Fm} {fa : FA} (h : ∀ j, j < 13 → w.cell? ⟨s, i * 13 + j, none⟩ = (fcells f fa)[j]?) : ∀ j v, (fcells f fa)[j]? = some v → w.cell? ⟨s, i * 13 + j, none⟩ = some v := fun j v hv => by
  have hj : j < 13 := by rw [← fcells_length f fa]; exact (List.getElem?_eq_some_iff.1 hv).1
  rw [h j hj, hv]
theorem frames_len (fs : List Fm) (h : ∀ f ∈ fs, chkF f = 0) : ∀ i, i ≤ fs.length → ((fs.take i).flatMap encB).length ≤ i * 100000
  | 0, _ => by simp
  | i + 1, hi => by
    rw [flat_take fs i (by omega), List.length_append]
    have h1 := frames_len fs h i (by omega)
    have h2 := encB_len (h fs[i] (List.getElem_mem _))
    omega
theorem flim {x i m : Nat} (h : x ≤ i * 100000) (h2 : i < m) (h3 : m ≤ 16384) : x ≤ 1638400000 := by omega
set_option maxRecDepth 100000 in
set_option maxHeartbeats 4000000 in
/-- FrameOnce -/
theorem once_any (w : World) {a : Option Addr} {n c : Nat} {l : List UInt8} (h : Sl w a n c (bv l)) (hn : n * 1 ≤ 140737488351232) : Calls Try.prog 6 #[.slice a n c] w (BoolOf w true) := by
  have HCo := Lib.hid (copy_any w h (by omega))
  have HNl := Lib.hid h.byte
  have hle := h.cap_le
  have hmx := h.cap_max
  have HNm : Hid (n ≤ maxLen) := Lib.hid (Nat.le_trans hle hmx)
  clear h hn hle hmx
  go_enter Try.func6, Try.ntmps6
  go_wp2_with fail
  refine HCo.out.mono ?_
  rintro e w2 ⟨a2, c2, he, ho2, hb2⟩
  obtain rfl : e = .returned (.slice a2 n c2) := by rw [he, HNl.out]
  rw [HNl.out] at ho2
  have HD := Lib.hid (decode_any w2 (own_sl ho2))
  have HB2 := Lib.hid hb2
  clear ho2 hb2 he
  obtain ⟨P1, _⟩ := dec_ahead l
  have PT := @decV_told l
  have PE := @decV_err l
  have hsz : (decV l).2.2 = 0 → l.length ≤ 16384 := fun h => by
    unfold decV at h
    by_cases h1 : 16384 < l.length
    · rw [if_pos h1] at h; cases h
    · omega
  have hcnt := decV_cnt l
  obtain ⟨r, hr⟩ : ∃ r, r = decV l := ⟨_, rfl⟩
  rw [← hr] at HD P1 PT PE hsz hcnt
  clear hr
  obtain ⟨fs, t, er⟩ := r
  simp only at P1 PT PE hsz hcnt
  have HP1 := Lib.hid P1
  have HPT := Lib.hid PT
  have HPE := Lib.hid PE
  have HCnt := Lib.hid (fun h => Nat.le_trans hcnt (hsz h))
  clear P1 PT PE hsz hcnt
  go_wp2_with fail
  refine HD.out.mono ?_
  rintro e w3 ⟨a3, c3, L3, he, hrow3, hL3, hb3⟩
  have HB3 := Lib.hid (HB2.out.trans (hb3.mono HB2.out.size))
  have HRow3 := Lib.hid hrow3
  have HL3 := Lib.hid hL3
  obtain ⟨n3, hn3⟩ : ∃ n3, n3 = L3.length := ⟨_, rfl⟩
  obtain rfl : e = .returned (.tuple #[.slice a3 n3 c3, .int .i64 (t : Int), .int .i64 er]) := by rw [hn3]; exact he
  have HN3 := Lib.hid hn3
  have HAw := Lib.hid (fun w' => awake5_any w')
  clear hrow3 hL3 hb3 he hn3
  by_cases h0 : ¬ er = 0
  · have y1 := onj11 h0
    obtain ⟨q1, q2⟩ := HPE.out h0
    have y2 : n3 = 0 := by
      have h1 := HL3.out
      rw [q1] at h1
      rw [HN3.out]
      simpa using h1
    have y0 : ¬ er = 0 := h0
    clear h0
    subst y2
    have y3 : (t : Int) ≤ (n : Int) := by have := HNl.out; omega
    have y4 : (0 : Int) ≤ (t : Int) := by omega
    have HAw3 := Lib.hid (HAw.out w3)
    clear q1 q2
    go_wp2_with fail
    refine HAw3.out.mono ?_
    rintro e w4 ⟨rfl, hb4⟩
    have HB4 := Lib.hid (HB3.out.trans (hb4.mono HB3.out.size))
    clear hb4
    go_wp2
    go_ret
    exact ⟨rfl, HB4.out⟩
  have h1 : er = 0 := Decidable.not_not.1 h0
  subst h1
  obtain ⟨p1, p2⟩ := HPT.out rfl
  have HCk := Lib.hid (fun f hf => (p1 f hf).1)
  have HBr := Lib.hid (fun f hf => (p1 f hf).2)
  have HFo := Lib.hid p2
  have HNe := Lib.hid (HP1.out rfl)
  have HC16 := Lib.hid (HCnt.out rfl)
  have HFl : Hid (n3 = fs.length) := Lib.hid (by have h := congrArg List.length HL3.out; rw [List.length_map] at h; rw [HN3.out]; exact h)
  clear p1 p2 h0
  go_wp2_with fail
  go_loopw [6, 42] (fun cv v wr => ∃ (i : Nat) (ba : Option Addr) (bc : Nat) (b : List UInt8), v = .int .i64 (i : Int) ∧ cv = .slice ba b.length bc ∧ i ≤ n3 ∧ Hid (b = (fs.take i).flatMap encB) ∧ wr.ownsRow w3.heap.size 5 1 (.slice ba b.length bc) b.length (bv b) ∧ Below w3.heap.size w3 wr) (fun _ v _ => n3 - (intOf v).toNat)
  case atStart => exact ⟨0, none, 0, [], rfl, rfl, Nat.zero_le _, Lib.hid (by simp), World.ownsRow_nil _ _ _ _, Below.refl _ _⟩
  case round =>
    obtain ⟨i, ba, bc, b, rfl, rfl, hin, HBb, hown, hbr⟩ := hrel
    have HOwn := Lib.hid hown
    have HBr3 := Lib.hid hbr
    obtain ⟨bn, hbn⟩ : ∃ bn, bn = b.length := ⟨_, rfl⟩
    rw [← hbn]
    have HBn := Lib.hid hbn
    clear hown hbr hbn
    by_cases hi : i < n3
    · have HI := Lib.hid hi
      have hi3 : i < L3.length := by rw [← HN3.out]; exact hi
      have hif : i < fs.length := by rw [← HFl.out]; exact hi
      have hrw := HRow3.out.below HBr3.out
      obtain ⟨s3, hs3, hc3, -, hn1, hn2⟩ := own_fr hrw.row rfl hi3
      obtain ⟨z1, z2, z3⟩ := slj1 hi3 hn1 hn2
      rw [← HN3.out] at z1
      have hfo := hrw.own _ (List.getElem_mem hi3)
      have hfe : L3[i].1 = fs[i] := by
        have h3 : (L3.map (·.1))[i]'(by simpa using hi3) = fs[i] := by simp only [HL3.out]
        simpa using h3
      obtain ⟨p, hp⟩ : ∃ p, p = L3[i] := ⟨_, rfl⟩
      rw [← hp] at hc3 hfo hfe
      clear hp
      obtain ⟨f, fa⟩ := p
      simp only at hfe hfo hc3
      have HCf : Hid (chkF f = 0) := Lib.hid (by rw [hfe]; exact HCk.out _ (List.getElem_mem hif))
      have HBf : Hid (bareF f = f) := Lib.hid (by rw [hfe]; exact HBr.out _ (List.getElem_mem hif))
      have HBn1 : Hid (b ++ encB f = (fs.take (i + 1)).flatMap encB) := Lib.hid (by rw [flat_take fs i hif, HBb.out, hfe])
      have HBl : Hid (b.length ≤ 1638400000) := Lib.hid (by
        have h1 := frames_len fs HCk.out i (Nat.le_of_lt hif)
        rw [← HBb.out] at h1
        exact flim h1 hif HC16.out)
      have k0 : wr.cell? ⟨s3, i * 13, none⟩ = some (.int .i64 f.kind) := at_cells hc3 0 _ rfl
      have k1 : wr.cell? ⟨s3, i * 13 + 1, none⟩ = some (.int .i64 f.id) := at_cells hc3 1 _ rfl
      have k2 : wr.cell? ⟨s3, i * 13 + 2, none⟩ = some (.int .i64 f.at_) := at_cells hc3 2 _ rfl
      have k3 : wr.cell? ⟨s3, i * 13 + 3, none⟩ = some (.int .i64 f.n) := at_cells hc3 3 _ rfl
      have k4 : wr.cell? ⟨s3, i * 13 + 4, none⟩ = some (.int .i64 f.code) := at_cells hc3 4 _ rfl
      have k5 : wr.cell? ⟨s3, i * 13 + 5, none⟩ = some (.bool f.fin) := at_cells hc3 5 _ rfl
      have k6 : wr.cell? ⟨s3, i * 13 + 6, none⟩ = some (.slice fa.da f.data.length fa.dc) := at_cells hc3 6 _ rfl
      have k7 : wr.cell? ⟨s3, i * 13 + 7, none⟩ = some (.slice fa.ca f.cid.length fa.cc) := at_cells hc3 7 _ rfl
      have k8 : wr.cell? ⟨s3, i * 13 + 8, none⟩ = some (.slice fa.sa f.spans.length fa.sc) := at_cells hc3 8 _ rfl
      have k9 : wr.cell? ⟨s3, i * 13 + 9, none⟩ = some (.int .i64 f.delay) := at_cells hc3 9 _ rfl
      have k10 : wr.cell? ⟨s3, i * 13 + 10, none⟩ = some (.int .i64 f.e0) := at_cells hc3 10 _ rfl
      have k11 : wr.cell? ⟨s3, i * 13 + 11, none⟩ = some (.int .i64 f.e1) := at_cells hc3 11 _ rfl
      have k12 : wr.cell? ⟨s3, i * 13 + 12, none⟩ = some (.int .i64 f.e2) := at_cells hc3 12 _ rfl
      obtain ⟨wv, hwv⟩ : ∃ wv, wv = wr.alloc (.cells #[.int .i64 f.kind, .int .i64 f.id, .int .i64 f.at_, .int .i64 f.n, .int .i64 f.code, .bool f.fin, .slice fa.da f.data.length fa.dc, .slice fa.ca f.cid.length fa.cc, .slice fa.sa f.spans.length fa.sc, .int .i64 f.delay, .int .i64 f.e0, .int .i64 f.e1, .int .i64 f.e2] 26) := ⟨_, rfl⟩
      obtain ⟨xb, hxb⟩ : ∃ xb, xb = wr.heap.size := ⟨_, rfl⟩
      have hal : Below wr.heap.size wr wv := by rw [hwv]; exact alB wr _
      have HX := Lib.hid (show Has wv xb 26 (fcells f fa) by rw [hwv, hxb]; exact Has.new _ _ _)
      have HFo1 := Lib.hid (hfo.below hal)
      have HBv := Lib.hid (HBr3.out.trans (hal.mono HBr3.out.size))
      have HOwv := Lib.hid (own_below HOwn.out hal)
      have HCp := Lib.hid (copied_any wv (hfo.below hal).fin (told_sz HCf.out HBf.out))
      clear hi hi3 hif hrw hc3 hn1 hn2 hfo hfe hal hin
      subst hs3
      go_upto_region 8 with fail
      rw [← hwv, ← hxb]
      clear hwv hxb k0 k1 k2 k3 k4 k5 k6 k7 k8 k9 k10 k11 k12
      have g0 := HX.out.cell 0 rfl
      have g1 := HX.out.cell 1 rfl
      have g2 := HX.out.cell 2 rfl
      have g3 := HX.out.cell 3 rfl
      have g4 := HX.out.cell 4 rfl
      have g5 := HX.out.cell 5 rfl
      have g6 := HX.out.cell 6 rfl
      have g7 := HX.out.cell 7 rfl
      have g8 := HX.out.cell 8 rfl
      have g9 := HX.out.cell 9 rfl
      have g10 := HX.out.cell 10 rfl
      have g11 := HX.out.cell 11 rfl
      have g12 := HX.out.cell 12 rfl
      go_wp2_with fail
      refine HCp.out.mono ?_
      rintro e v1 ⟨fb, rfl, hfb, hb1⟩
      have HX1 := Lib.hid (HX.out.kept (X := none') (Kept.of_below hb1) (fun h => h))
      have HB1 := Lib.hid (HBv.out.trans (hb1.mono HBv.out.size))
      have HO1 := Lib.hid (own_below HOwv.out hb1)
      have HF1 := Lib.hid (HFo1.out.below hb1)
      have HEn := Lib.hid (encode_any v1 hfb.fin (fown_low hfb))
      rw [show encF f = (encB f, 0) by unfold encF; rw [if_pos HCf.out]] at HEn
      obtain ⟨eb, heb⟩ : ∃ eb, eb = encB f := ⟨_, rfl⟩
      rw [← heb] at HEn HBn1
      have HEl : Hid (eb.length ≤ 100000) := Lib.hid (by rw [heb]; exact encB_len HCf.out)
      clear hfb hb1 heb g0 g1 g2 g3 g4 g5 g6 g7 g8 g9 g10 g11 g12
      go_wp2_with fail
      refine HEn.out.mono ?_
      rintro e v2 ⟨pa, pc, he, hpo, hb2⟩
      obtain ⟨pn, hpn⟩ : ∃ pn, pn = eb.length := ⟨_, rfl⟩
      obtain rfl : e = .returned (.tuple #[.slice pa pn pc, .int .i64 0]) := by rw [he, hpn]
      have HPn := Lib.hid hpn
      rw [← hpn] at hpo
      have HP2 := Lib.hid (own_sl hpo)
      have HX2 := Lib.hid (HX1.out.kept (X := none') (Kept.of_below hb2) (fun h => h))
      have HB2' := Lib.hid (HB1.out.trans (hb2.mono HB1.out.size))
      have HO2 := Lib.hid (own_below HO1.out hb2)
      have HF2 := Lib.hid (HF1.out.below hb2)
      have HCp2 := Lib.hid (copied_any v2 HF2.out.fin (told_sz HCf.out HBf.out))
      clear he hpn hpo hb2
      have g0 := HX2.out.cell 0 rfl
      have g1 := HX2.out.cell 1 rfl
      have g2 := HX2.out.cell 2 rfl
      have g3 := HX2.out.cell 3 rfl
      have g4 := HX2.out.cell 4 rfl
      have g5 := HX2.out.cell 5 rfl
      have g6 := HX2.out.cell 6 rfl
      have g7 := HX2.out.cell 7 rfl
      have g8 := HX2.out.cell 8 rfl
      have g9 := HX2.out.cell 9 rfl
      have g10 := HX2.out.cell 10 rfl
      have g11 := HX2.out.cell 11 rfl
      have g12 := HX2.out.cell 12 rfl
      go_wp2_with fail
      refine HCp2.out.mono ?_
      rintro e v3 ⟨fb, rfl, hfb, hb3⟩
      have HP3 := Lib.hid (HP2.out.below hb3)
      have HB3' := Lib.hid (HB2'.out.trans (hb3.mono HB2'.out.size))
      have HO3 := Lib.hid (own_below HO2.out hb3)
      have HCk3 := Lib.hid (checkF_any v3 hfb.fin)
      rw [HCf.out] at HCk3
      clear hfb hb3 g0 g1 g2 g3 g4 g5 g6 g7 g8 g9 g10 g11 g12
      go_wp2_with fail
      refine HCk3.out.mono ?_
      rintro e v4 ⟨rfl, hb4⟩
      have HP4 := Lib.hid (HP3.out.below hb4)
      have HB4' := Lib.hid (HB3'.out.trans (hb4.mono HB3'.out.size))
      have ho4 := own_below HO3.out hb4
      obtain ⟨ba', bc', v5, hr5, ho5, hg5, _⟩ := run_app_own (tyo := 22) tyU8 ho4 HP4.out (bv_one _) (by have := HBl.out; have := HEl.out; have := HPn.out; omega) (by have := HBl.out; have := HEl.out; have := HPn.out; unfold maxLen; omega) HB4'.out.size
      have HRel : Hid (∃ (j : Nat) (ba : Option Addr) (bc : Nat) (b' : List UInt8), Value.int .i64 ((i + 1 : Nat) : Int) = .int .i64 (j : Int) ∧ Value.slice ba' (bn + pn) bc' = .slice ba b'.length bc ∧ j ≤ n3 ∧ Hid (b' = (fs.take j).flatMap encB) ∧ v5.ownsRow w3.heap.size 5 1 (.slice ba b'.length bc) b'.length (bv b') ∧ Below w3.heap.size w3 v5) := Lib.hid (by
        have hlen : (b ++ eb).length = bn + pn := by rw [List.length_append, HBn.out, HPn.out]
        refine ⟨i + 1, ba', bc', b ++ eb, rfl, by rw [hlen], HI.out, Lib.hid HBn1.out, ?_, HB4'.out.grown hg5 HB4'.out.size (fun k hk => (ownsRow_ge ho4 k (blk_own hk)).1)⟩
        rw [hlen, bv_append, HBn.out]
        exact ho5)
      rw [← HBn.out] at hr5
      clear hb4 ho4 ho5 hg5
      go_wp2_with (at_builtin; refine Lib.wpList_append_run _ rfl _ _ _ _ rfl (.slice ba bn bc) (.slice pa pn pc) rfl rfl _ _ hr5 ?_)
      go_roundw
      case rel => exact HRel.out
      case measure => exact ssj3 HI.out
    · have z1 := ssj2 hi
      have HBe : Hid (b = fs.flatMap encB) := Lib.hid (by
        rw [HBb.out, List.take_of_length_le (by rw [← HFl.out]; omega)])
      have HBr4 := Lib.hid (HB3.out.trans (HBr3.out.mono HB3.out.size))
      have HAwr := Lib.hid (HAw.out wr)
      clear hi hin
      by_cases hbig : 16384 < bn
      · have y1 := dcj2 hbig
        clear hbig
        go_wp2_with fail
        refine HAwr.out.mono ?_
        rintro e w4 ⟨rfl, hb4⟩
        have HB4 := Lib.hid (HBr4.out.trans (hb4.mono HBr4.out.size))
        clear hb4
        go_wp2
        go_ret
        exact ⟨rfl, HB4.out⟩
      have y1 : ¬ (16384 : Int) < (bn : Int) := by omega
      have hdv : decV b = (fs, 0, 0) := by
        have h1 := HBe.out
        have h2 := HBn.out
        rw [h1]
        rw [h1] at h2
        rw [decV_back fs HCk.out (by omega) (flat_pos HCk.out HNe.out), HFo.out]
      have hd2 := decode_any wr (own_sl HOwn.out)
      rw [hdv, ← HBn.out] at hd2
      have HD2 := Lib.hid hd2
      clear hbig hdv hd2
      go_wp2_with fail
      refine HD2.out.mono ?_
      rintro e w7 ⟨a7, c7, L7, he, hrow7, hL7, hb7⟩
      have hlen7 : L7.length = n3 := by
        have h1 := congrArg List.length hL7
        rw [HFl.out]
        simpa using h1
      obtain rfl : e = .returned (.tuple #[.slice a7 n3 c7, .int .i64 0, .int .i64 0]) := by rw [← hlen7]; exact he
      have HB7 := Lib.hid (HBr4.out.trans (hb7.mono HBr4.out.size))
      have HRow7 := Lib.hid hrow7
      have HRow37 := Lib.hid ((HRow3.out.below HBr3.out).below hb7)
      have HL7 := Lib.hid hL7
      have HLn7 := Lib.hid hlen7
      have hne : ((n3 : Int) != (n3 : Int)) = false := by simp
      clear he hrow7 hL7 hb7 hlen7 z1
      go_wp2_with fail
      go_loopw [85] (fun v wr => ∃ k : Nat, v = .int .i64 (k : Int) ∧ Below w7.heap.size w7 wr) (fun v _ => n3 - (intOf v).toNat)
      case atStart => exact ⟨0, rfl, Below.refl _ _⟩
      case round =>
        obtain ⟨k, rfl, hb⟩ := hrel
        have HBk := Lib.hid hb
        clear hb
        by_cases hlt : k < n3
        · have HLt := Lib.hid hlt
          have hk1 : k < L7.length := by rw [HLn7.out]; exact hlt
          have hk2 : k < L3.length := by rw [← HN3.out]; exact hlt
          obtain ⟨s1, hs1, hc1, -, hnc1, hcm1⟩ := own_fr HRow7.out.row rfl hk1
          obtain ⟨s2, hs2, hc2, -, hnc2, hcm2⟩ := own_fr HRow37.out.row rfl hk2
          obtain ⟨z1, z2, z3⟩ := slj1 hk1 hnc1 hcm1
          rw [HLn7.out] at z1
          have hf : L3[k].1 = L7[k].1 := by
            have h3 : (L3.map (·.1))[k]'(by simpa using hk2) = (L7.map (·.1))[k]'(by simpa using hk1) := by simp only [HL3.out, HL7.out]
            simpa using h3
          have ho1 := HRow7.out.own _ (List.getElem_mem hk1)
          have ho2 := HRow37.out.own _ (List.getElem_mem hk2)
          obtain ⟨p, hp⟩ : ∃ p, p = L7[k] := ⟨_, rfl⟩
          obtain ⟨q, hq⟩ : ∃ q, q = L3[k] := ⟨_, rfl⟩
          rw [← hp] at hc1 ho1 hf
          rw [← hq] at hc2 ho2 hf
          obtain ⟨f, fa⟩ := p
          obtain ⟨f2, fb⟩ := q
          simp only at hf ho1 ho2 hc1 hc2
          subst hf
          have hb2 : Below w7.heap.size w7 wr.drew := HBk.out.trans ((below_drewN (Below.refl wr.heap.size wr) 1).mono HBk.out.size)
          have HB2k := Lib.hid hb2
          have hTw : Two s1 (k * 13) (fcells f2 fa) s2 (k * 13) (fcells f2 fb) w7 := ⟨fr_range hc1, fr_range hc2⟩
          have HTw := Lib.hid (hTw.below hb2)
          have HF1 := Lib.hid (ho1.fin.below hb2)
          have HF2 := Lib.hid (ho2.fin.below hb2)
          clear hlt hk1 hk2 hc1 hc2 hnc1 hcm1 hnc2 hcm2 ho1 ho2 hp hq hb2 hTw
          subst hs1 hs2
          go_upto_region 21 with fail
          refine Mx.region [] (Two s1 (k * 13) (fcells f2 fa) s2 (k * 13) (fcells f2 fb)) (by kernel_rfl) (by kernel_rfl) HTw.out ?_
          repeat ((first | (refine Mx.skips (by kernel_rfl) ?_; go_big_quiet_skip) | (refine Mx.quietly rfl ?_; go_big_quiet_want; go_big_quiet_op; go_big_quiet_on)); refine Mx.done ?_)
          refine Mx.mid s1 (k * 13) (fcells f2 fa) _ (by kernel_rfl) (by kernel_rfl) (by kernel_rfl) Try.underlying26 rfl (by rw [infoFr]; rfl) (fun w' h => h.1) ?_
          go_big_quiet_want; go_big_quiet_op; go_big_quiet_on; refine Mx.done ?_
          repeat ((first | (refine Mx.skips (by kernel_rfl) ?_; go_big_quiet_skip) | (refine Mx.quietly rfl ?_; go_big_quiet_want; go_big_quiet_op; go_big_quiet_on)); refine Mx.done ?_)
          refine Mx.loudly (by kernel_rfl) (by kernel_rfl) ?_
          go_wp2_with fail
          refine (of_any wr.drew f2 fa).mono ?_
          rintro e w8 ⟨rfl, hb8⟩
          have HTw8 := Lib.hid (HTw.out.below hb8)
          have HF18 := Lib.hid (HF1.out.below hb8)
          have HF28 := Lib.hid (HF2.out.below hb8)
          have HB8 := Lib.hid (HB2k.out.trans (hb8.mono HB2k.out.size))
          clear hb8
          go_wp2_with fail
          refine ⟨HTw8.out, ?_⟩
          repeat ((first | (refine Mx.skips (by kernel_rfl) ?_; go_big_quiet_skip) | (refine Mx.quietly rfl ?_; go_big_quiet_want; go_big_quiet_op; go_big_quiet_on)); refine Mx.done ?_)
          refine Mx.mid s2 (k * 13) (fcells f2 fb) _ (by kernel_rfl) (by kernel_rfl) (by kernel_rfl) Try.underlying26 rfl (by rw [infoFr]; rfl) (fun w' h => h.2) ?_
          go_big_quiet_want; go_big_quiet_op; go_big_quiet_on; refine Mx.done ?_
          repeat ((first | (refine Mx.skips (by kernel_rfl) ?_; go_big_quiet_skip) | (refine Mx.quietly rfl ?_; go_big_quiet_want; go_big_quiet_op; go_big_quiet_on)); refine Mx.done ?_)
          refine Mx.loudly (by kernel_rfl) (by kernel_rfl) ?_
          go_wp2_with fail
          refine (of_any w8 f2 fb).mono ?_
          rintro e w9 ⟨rfl, hb9⟩
          have HTw9 := Lib.hid (HTw8.out.below hb9)
          have HF19 := Lib.hid (HF18.out.below hb9)
          have HF29 := Lib.hid (HF28.out.below hb9)
          have HB9 := Lib.hid (HB8.out.trans (hb9.mono HB8.out.size))
          clear hb9
          go_wp2_with fail
          refine ⟨HTw9.out, ?_⟩
          repeat ((first | (refine Mx.skips (by kernel_rfl) ?_; go_big_quiet_skip) | (refine Mx.quietly rfl ?_; go_big_quiet_want; go_big_quiet_op; go_big_quiet_on)); refine Mx.done ?_)
          refine Mx.loudly (by kernel_rfl) (by kernel_rfl) ?_
          go_wp2_with fail
          refine (same5_eq w9 HF19.out HF29.out).mono ?_
          rintro e w10 ⟨rfl, hb10⟩
          have HTw10 := Lib.hid (HTw9.out.below hb10)
          have HB10 := Lib.hid (HB9.out.trans (hb10.mono HB9.out.size))
          clear hb10
          go_wp2_with fail
          refine ⟨HTw10.out, ?_⟩
          repeat ((first | (refine Mx.skips (by kernel_rfl) ?_; go_big_quiet_skip) | (refine Mx.quietly rfl ?_; go_big_quiet_want; go_big_quiet_op; go_big_quiet_on)); refine Mx.done ?_)
          refine Mx.nil ?_
          go_wp2_with fail
          go_roundw
          case rel => exact ⟨k + 1, rfl, HB10.out⟩
          case measure => exact ssj3 HLt.out
        · have z1 := ssj2 hlt
          clear hlt
          have HBw := Lib.hid (HB7.out.trans (HBk.out.mono HB7.out.size))
          have HAw8 := Lib.hid (HAw.out wr)
          go_wp2_with fail
          refine HAw8.out.mono ?_
          rintro e w11 ⟨rfl, hb11⟩
          have HB11 := Lib.hid (HBw.out.trans (hb11.mono HBw.out.size))
          clear hb11
          go_wp2
          go_ret
          exact ⟨rfl, HB11.out⟩
end Go.Proofs.Ytppkilkfmclpkaa

/- NormHides answers true. Premises: the tables, the sizes. -/
import Derived.Test.YtohinaohcndndaaDoorNmLaw2
import Derived.Test.YtohinaohcndndaaDoorFldSame
namespace Go.Proofs.YtohinaohcndndaaDoor
open Go.RowKit

theorem smallB_idem (b : UInt8) : smallB (smallB b) = smallB b := by
  by_cases h : 65 ≤ b.toNat ∧ b.toNat ≤ 90
  · refine smb_out ?_
    have h1 := smb_in h.1 h.2
    omega
  · rw [smb_out h, smb_out h]
theorem smallL_idem (l : List UInt8) : smallL (smallL l) = smallL l := by
  simp only [smallL, List.map_map]
  refine List.map_congr_left fun b _ => smallB_idem b
theorem smallL_len (l : List UInt8) : (smallL l).length = l.length := by simp [smallL]
theorem bl_strB (l : List UInt8) : bl (strB l) = l := strB_toList l
/-- a field that is told on is small and is none of those that are dropped -/
theorem mid_mem {g : List (List UInt8)} {fs : List Fd} {f : Fd} (hz : fdz fs ≤ 1048576) (h : f ∈ fs.flatMap (outF g)) : smallL (bl f.nm) = bl f.nm ∧ bl f.nm ∉ g ∧ f.nm.size ≤ 1048576 := by
  obtain ⟨x, hx, hf⟩ := List.mem_flatMap.1 h
  obtain ⟨i, hi, rfl⟩ := List.getElem_of_mem hx
  unfold outF at hf
  split at hf
  · cases hf
  · rename_i hn
    simp only [List.mem_singleton] at hf
    subst hf
    have hs := fdz_at fs i hi
    refine ⟨by simp only [bl_strB, smallL_idem], by simpa only [bl_strB] using hn, ?_⟩
    rw [bl_size, bl_strB, smallL_len, ← bl_size]
    omega
theorem gone_in {fs : List Fd} {l : List UInt8} (h : l ∉ goneL fs) : l ∉ gone0 := fun hm => h (by unfold goneL; exact List.mem_append_left _ hm)
/-- the rest's first field is found, or passed by -/
theorem drop_at {g : List (List UInt8)} {fs : List Fd} {f : Fd} {r : List Fd} {i : Nat} (h : (fs.drop i).flatMap (outF g) = f :: r) : ∃ hi : i < fs.length, ((strB (smallL (bl fs[i].nm)) = f.nm ∧ fs[i].va = f.va) → bl f.nm ∉ g → (fs.drop (i + 1)).flatMap (outF g) = r) ∧ (¬ (strB (smallL (bl fs[i].nm)) = f.nm ∧ fs[i].va = f.va) → (fs.drop (i + 1)).flatMap (outF g) = f :: r) := by
  have hi : i < fs.length := by
    refine Classical.byContradiction fun hn => ?_
    rw [List.drop_eq_nil_of_le (by omega)] at h
    simp at h
  refine ⟨hi, ?_, ?_⟩
  · rintro ⟨h1, h2⟩ h3
    rw [List.drop_eq_getElem_cons hi, List.flatMap_cons, outF, if_neg (by rw [← h1, bl_strB] at h3; exact h3)] at h
    simpa using (List.cons.inj h).2
  · intro hn
    rw [List.drop_eq_getElem_cons hi, List.flatMap_cons, outF] at h
    split at h
    · simpa using h
    · exfalso
      have h1 := (List.cons.inj h).1
      exact hn (by rw [← h1]; exact ⟨rfl, rfl⟩)
theorem hdj1 {m k k1 : Nat} (hk : k = m + 2) (h1 : k1 = m + 1) (hm : m ≤ 1048576) : ((k : Int) < 2) = False ∧ RowKit.wrap64 ((k : Int) - 1) = (k1 : Int) ∧ IntKind.i64.wrap ((k : Int) - 1) = (k1 : Int) ∧ (k1 : Int) < (k : Int) ∧ (1 : Int) ≤ (k1 : Int) ∧ (k1 : Int) ≤ (k : Int) ∧ (0 : Int) < (k : Int) ∧ ((k1 : Int) - 1).toNat = m ∧ k1 - 1 = m ∧ k1 < k ∧ 0 < k := by
  rw [IntKind.wrap_i64]; unfold RowKit.wrap64; refine ⟨eq_false ?_, ?_⟩ <;> omega

set_option maxRecDepth 100000 in
set_option maxHeartbeats 4000000 in
theorem hides_any (w : World) (ht : Tabs w) (st : Int) (_ : -9223372036854775808 ≤ st) (_ : st ≤ 9223372036854775807) {a : Option Addr} {n c : Nat} {fs : List Fd} (h : SlS w a n c fs) (hz : fdz fs ≤ 1048576) :
    Calls Tryd.prog 7 #[.int .i64 st, .slice a n c] w (BoolOf w true) := by
  have HT := Lib.hid ht
  have HS := Lib.hid h
  have HL := Lib.hid h.len
  have HZ := Lib.hid hz
  have HN : Hid (n ≤ 1048576) := Lib.hid (by have := fdz_len fs; have := h.len; omega)
  have HM2 : Hid (n * 32 ≤ 140737488351232) := Lib.hid (by have := fdz_len fs; have := h.len; omega)
  have HCp := Lib.hid (copys_any w h HM2.out)
  obtain ⟨R, hR⟩ : ∃ R, R = respL st fs := ⟨_, rfl⟩
  have HR := Lib.hid hR
  clear ht h hz hR
  go_enter Tryd.func7, Tryd.ntmps7
  go_wp2_with fail
  refine HCp.out.mono ?_
  rintro e w2 ⟨a2, c2, he, ho2, hb2⟩
  obtain rfl : e = .returned (.slice a2 n c2) := by rw [he, HL.out]
  have HS2 : Hid (SlS w2 a2 n c2 fs) := Lib.hid (sls_own2 ho2 HL.out)
  have HB2 := Lib.hid hb2
  have HRs := Lib.hid (resp_any w2 st HS2.out HZ.out (HT.out.below hb2).pow)
  rw [← HR.out] at HRs
  clear ho2 hb2 he
  by_cases hst : st < 100 ∨ 599 < st
  · obtain rfl : R = ([], 200) := by rw [HR.out, respL, if_pos hst]
    go_wp2_with fail
    refine HRs.out.mono ?_
    rintro e w3 ⟨a3, c3, he, hs3, hb3⟩
    obtain rfl : e = .returned (.tuple #[.slice a3 0 c3, .int .i64 200]) := he
    have HB3 : Hid (Below w.heap.size w w3) := Lib.hid (HB2.out.trans (hb3.mono HB2.out.size))
    have HAw := Lib.hid (awake19_any w3 (HT.out.below HB3.out))
    clear hs3 hb3 HRs HR
    by_cases h1 : st < 100
    · have y1 : (st < 100) = True := eq_true h1
      clear hst h1
      go_wp2_with fail
      refine HAw.out.mono ?_
      rintro e w4 ⟨rfl, hb4⟩
      have HB4 : Hid (Below w.heap.size w w4) := Lib.hid (HB3.out.trans (hb4.mono HB3.out.size))
      clear hb4
      go_wp2
      go_ret
      exact ⟨rfl, HB4.out⟩
    · have y1 : (st < 100) = False := eq_false h1
      have y2 : (599 < st) = True := eq_true (hst.resolve_left h1)
      clear hst h1
      go_wp2_with fail
      refine HAw.out.mono ?_
      rintro e w4 ⟨rfl, hb4⟩
      have HB4 : Hid (Below w.heap.size w w4) := Lib.hid (HB3.out.trans (hb4.mono HB3.out.size))
      clear hb4
      go_wp2
      go_ret
      exact ⟨rfl, HB4.out⟩
  obtain ⟨mid, hmid⟩ : ∃ mid, mid = fs.flatMap (outF (goneL fs)) := ⟨_, rfl⟩
  have HMid := Lib.hid hmid
  obtain rfl : R = ([statF st] ++ mid ++ [viaF], 0) := by rw [HR.out, respL, if_neg hst, ← hmid]
  obtain ⟨m, hm⟩ : ∃ m, m = mid.length := ⟨_, rfl⟩
  have HM := Lib.hid hm
  have HMn : Hid (m ≤ 1048576) := Lib.hid (by
    rw [hm, hmid]
    exact Nat.le_trans (out_le (goneL fs) fs) (by rw [HL.out]; exact HN.out))
  obtain ⟨k, hk⟩ : ∃ k, k = m + 2 := ⟨_, rfl⟩
  obtain ⟨k1, hk1⟩ : ∃ k1, k1 = m + 1 := ⟨_, rfl⟩
  obtain ⟨y1, y2, y3, y4, y5, y6, y7, y8, y9, y10, y11⟩ := hdj1 hk hk1 HMn.out
  have HK := Lib.hid hk
  have HK1 := Lib.hid hk1
  clear hst hmid hm hk hk1
  go_wp2_with fail
  refine HRs.out.mono ?_
  rintro e w3 ⟨a3, c3, he, hs3, hb3⟩
  have hkl : ([statF st] ++ mid ++ [viaF]).length = k := by rw [HK.out, HM.out]; simp
  obtain rfl : e = .returned (.tuple #[.slice a3 k c3, .int .i64 0]) := by rw [he]; simp only [hkl]
  have HS3 : Hid (SlS w3 a3 k c3 ([statF st] ++ mid ++ [viaF])) := Lib.hid (sls_own2 hs3 hkl)
  have HB3 : Hid (Below w.heap.size w w3) := Lib.hid (HB2.out.trans (hb3.mono HB2.out.size))
  obtain ⟨b, o, rfl, hc⟩ := HS3.out.cells (by rw [HK.out]; exact Nat.succ_pos _)
  have q0 : w3.cell? ⟨b, o, none⟩ = some (.string ⟨#[58, 115, 116, 97, 116, 117, 115]⟩) := by have h := (hc 0 (by rw [hkl, HK.out]; exact Nat.succ_pos _)).1; simp only [Nat.zero_mul, Nat.add_zero] at h; exact h
  have hl1 : k1 < ([statF st] ++ mid ++ [viaF]).length := by rw [hkl]; exact y10
  have hvi : ([statF st] ++ mid ++ [viaF])[k1] = viaF := by
    rw [List.getElem_append_right (by rw [HK1.out, HM.out]; simp)]
    simp
  have q1 : w3.cell? ⟨b, o + k1 * 2, none⟩ = some (.string ⟨#[118, 105, 97]⟩) := by rw [(hc k1 hl1).1, hvi]; rfl
  have q2 : w3.cell? ⟨b, o + k1 * 2 + 1, none⟩ = some (.string ⟨#[49, 46, 49, 32, 116, 117, 114, 110, 112, 105, 107, 101]⟩) := by rw [(hc k1 hl1).2, hvi]; rfl
  have HC : Hid (∀ i (h : i < mid.length), w3.cell? ⟨b, o + (i + 1) * 2, none⟩ = some (.string mid[i].nm) ∧ w3.cell? ⟨b, o + (i + 1) * 2 + 1, none⟩ = some (.string mid[i].va)) := Lib.hid (fun i hi => by
    have h2 : i + 1 < ([statF st] ++ mid ++ [viaF]).length := by simp; omega
    have h3 : ([statF st] ++ mid ++ [viaF])[i + 1] = mid[i] := by
      rw [List.getElem_append_left (by simp; omega)]
      simp
    have h4 := hc (i + 1) h2
    rw [h3] at h4
    exact h4)
  have y12 : (k : Int) ≤ (c3 : Int) := Int.ofNat_le.2 HS3.out.cap
  clear hs3 hb3 hc hl1 hvi hkl he
  go_upto_region 8 with fail
  obtain ⟨o2, ho2⟩ : ∃ o2, o2 = o + 2 := ⟨_, rfl⟩
  obtain ⟨c5, hc5⟩ : ∃ c5, c5 = c3 - 1 := ⟨_, rfl⟩
  rw [← ho2, ← hc5]
  have HC2 : Hid (∀ i (h : i < mid.length), w3.cell? ⟨b, o2 + i * 2, none⟩ = some (.string mid[i].nm) ∧ w3.cell? ⟨b, o2 + i * 2 + 1, none⟩ = some (.string mid[i].va)) := Lib.hid (fun i hi => by
    have h := HC.out i hi
    rw [show o + (i + 1) * 2 = o2 + i * 2 by rw [ho2]; omega] at h
    exact h)
  clear y1 y2 y3 y4 y5 y6 y7 y8 y9 y10 y11 y12 ho2 hc5 q0 q1 q2 HC HS3 HS2 HB2 HRs HCp HK HK1
  go_wp2_with fail
  go_loopw [7, 54] (fun u v wr => ∃ i j : Nat, u = .int .i64 (j : Int) ∧ v = .int .i64 (i : Int) ∧ i ≤ m ∧ j ≤ n ∧ Hid ((fs.drop j).flatMap (outF (goneL fs)) = mid.drop i) ∧ Below w3.heap.size w3 wr) (fun _ v _ => m - (intOf v).toNat)
  case atStart => exact ⟨0, 0, rfl, rfl, Nat.zero_le _, Nat.zero_le _, Lib.hid (by rw [HMid.out]; simp), Below.refl _ _⟩
  case round =>
    obtain ⟨i, j, rfl, rfl, hi, hj, HD, hb⟩ := hrel
    have HBw := Lib.hid hb
    have HJ := Lib.hid hj
    clear hb hj
    by_cases him : i < m
    · have HI := Lib.hid him
      obtain ⟨z1, z2, z3⟩ := inj1 him (Nat.le_trans HMn.out (by decide))
      have hil : i < mid.length := by rw [← HM.out]; exact him
      obtain ⟨p0, p1⟩ := HC2.out i hil
      rw [← HBw.out.cell (World.block_lt_of_cell? _ _ p0)] at p0
      rw [← HBw.out.cell (World.block_lt_of_cell? _ _ p1)] at p1
      have hmm := mid_mem (g := goneL fs) (fs := fs) (f := mid[i]) HZ.out (by rw [← HMid.out]; exact List.getElem_mem _)
      have hdr := HD.out
      rw [List.drop_eq_getElem_cons hil] at hdr
      obtain ⟨f, hf⟩ : ∃ f, f = mid[i] := ⟨_, rfl⟩
      rw [← hf] at p0 p1 hmm hdr
      obtain ⟨fn, hfn⟩ : ∃ fn, fn = f.nm := ⟨_, rfl⟩
      obtain ⟨fv, hfv⟩ : ∃ fv, fv = f.va := ⟨_, rfl⟩
      rw [← hfn] at p0 hmm
      rw [← hfv] at p1
      have HF := Lib.hid (And.intro hfn hfv)
      have HDr := Lib.hid hdr
      obtain ⟨hm1, hm2, hm3⟩ := hmm
      have HG := Lib.hid hm2
      have hg0 := gone_in hm2
      have e1 : (fn.toList == [99, 111, 110, 110, 101, 99, 116, 105, 111, 110]) = false := eqF fun e => hg0 (by rw [e]; decide)
      have e2 : (fn.toList == [116, 114, 97, 110, 115, 102, 101, 114, 45, 101, 110, 99, 111, 100, 105, 110, 103]) = false := eqF fun e => hg0 (by rw [e]; decide)
      have e3 : (fn.toList == [107, 101, 101, 112, 45, 97, 108, 105, 118, 101]) = false := eqF fun e => hg0 (by rw [e]; decide)
      have e4 : (fn.toList == [117, 112, 103, 114, 97, 100, 101]) = false := eqF fun e => hg0 (by rw [e]; decide)
      have e5 : (fn.toList == [112, 114, 111, 120, 121, 45, 99, 111, 110, 110, 101, 99, 116, 105, 111, 110]) = false := eqF fun e => hg0 (by rw [e]; decide)
      have HFz := Lib.hid hm3
      have HSf : ∀ W : World, Calls Tryd.prog 28 #[.string fn] W (fun e w' => e = .returned (.string fn) ∧ Below W.heap.size W w') := fun W => by
        have h := rsmall_any W fn (Nat.le_trans HFz.out (by decide))
        rw [hm1] at h
        refine h.mono ?_
        rintro e w' ⟨rfl, hb⟩
        exact ⟨by rw [strB_bl], hb⟩
      clear hi him hil hdr hf hfn hfv hm1 hm2 hm3 hg0
      go_upto_region 10 with fail
      obtain ⟨w4, hw4⟩ : ∃ w4, w4 = wr.alloc (.cells #[.string fn, .string fv] 64) := ⟨_, rfl⟩
      obtain ⟨g2, hg2⟩ : ∃ g2, g2 = wr.heap.size := ⟨_, rfl⟩
      have hh4 : Has w4 g2 64 [.string fn, .string fv] := by rw [hw4, hg2]; exact Has.new wr 64 #[.string fn, .string fv]
      have hb4 : Below wr.heap.size wr w4 := by rw [hw4]; exact (Below.refl _ wr).alloc (Nat.le_refl _) _
      have HB4 : Hid (Below w3.heap.size w3 w4) := Lib.hid (HBw.out.trans (hb4.mono HBw.out.size))
      have HSt4 : Hid (Sat [(⟨g2, 0, none⟩, .string fn), (⟨g2, 1, none⟩, .string fv)] w4) := Lib.hid (Sat.cons (hh4.cell 0 rfl) (Sat.cons (hh4.cell 1 rfl) (Sat.nil w4)))
      have HSt4d : Hid (Sat [(⟨g2, 0, none⟩, .string fn), (⟨g2, 1, none⟩, .string fv)] w4.drew) := Lib.hid (HSt4.out.below (below_drewN (Below.refl w4.heap.size w4) 1))
      have HB4d : Hid (Below w3.heap.size w3 w4.drew) := Lib.hid (HB4.out.trans ((below_drewN (Below.refl w4.heap.size w4) 1).mono HB4.out.size))
      rw [← hw4, ← hg2]
      clear hw4 hg2 hh4 hb4 p0 p1
      refine Mx.region [] (Sat [(⟨g2, 0, none⟩, .string fn), (⟨g2, 1, none⟩, .string fv)]) (by kernel_rfl) (by kernel_rfl) HSt4d.out ?_
      repeat ((first | (refine Mx.skips (by kernel_rfl) ?_; go_big_quiet_skip) | (refine Mx.quietly rfl ?_; go_big_quiet_want; go_big_quiet_op; go_big_quiet_on)); refine Mx.done ?_)
      refine Mx.cell ⟨g2, 0, none⟩ (.string fn) (by kernel_rfl) (by kernel_rfl) (by kernel_rfl) Tryd.isAgg9 (fun w' h => h 0 _ _ rfl) ?_
      go_big_quiet_want; go_big_quiet_op; go_big_quiet_on; refine Mx.done ?_
      repeat ((first | (refine Mx.skips (by kernel_rfl) ?_; go_big_quiet_skip) | (refine Mx.quietly rfl ?_; go_big_quiet_want; go_big_quiet_op; go_big_quiet_on)); refine Mx.done ?_)
      refine Mx.cell ⟨g2, 0, none⟩ (.string fn) (by kernel_rfl) (by kernel_rfl) (by kernel_rfl) Tryd.isAgg9 (fun w' h => h 0 _ _ rfl) ?_
      go_big_quiet_want; go_big_quiet_op; go_big_quiet_on; refine Mx.done ?_
      repeat ((first | (refine Mx.skips (by kernel_rfl) ?_; go_big_quiet_skip) | (refine Mx.quietly rfl ?_; go_big_quiet_want; go_big_quiet_op; go_big_quiet_on)); refine Mx.done ?_)
      refine Mx.loudly (by kernel_rfl) (by kernel_rfl) ?_
      go_wp2_with fail
      refine (HSf w4.drew).mono ?_
      rintro e w5 ⟨rfl, hb5⟩
      have HB5 : Hid (Below w3.heap.size w3 w5) := Lib.hid (HB4d.out.trans (hb5.mono HB4d.out.size))
      have HSt5 : Hid (Sat [(⟨g2, 0, none⟩, .string fn), (⟨g2, 1, none⟩, .string fv)] w5) := Lib.hid (HSt4d.out.below hb5)
      clear hb5
      go_wp2_with fail
      refine ⟨HSt5.out, ?_⟩
      repeat ((first | (refine Mx.skips (by kernel_rfl) ?_; go_big_quiet_skip) | (refine Mx.quietly rfl ?_; go_big_quiet_want; go_big_quiet_op; go_big_quiet_on)); refine Mx.done ?_)
      iterate 5
        refine Mx.cell ⟨g2, 0, none⟩ (.string fn) (by kernel_rfl) (by kernel_rfl) (by kernel_rfl) Tryd.isAgg9 (fun w' h => h 0 _ _ rfl) ?_
        go_big_quiet_want; go_big_quiet_op; go_big_quiet_on; refine Mx.done ?_
        repeat ((first | (refine Mx.skips (by kernel_rfl) ?_; go_big_quiet_skip) | (refine Mx.quietly rfl ?_; go_big_quiet_want; go_big_quiet_op; go_big_quiet_on)); refine Mx.done ?_)
      refine Mx.nil ?_
      go_wp2_with fail
      go_loopw [7] (fun u wy => ∃ j : Nat, u = .int .i64 (j : Int) ∧ Hid ((fs.drop j).flatMap (outF (goneL fs)) = f :: mid.drop (i + 1)) ∧ Below w3.heap.size w3 wy ∧ Hid (Sat [(⟨g2, 0, none⟩, .string fn), (⟨g2, 1, none⟩, .string fv)] wy)) (fun u _ => n - (intOf u).toNat)
      case atStart => exact ⟨j, rfl, Lib.hid HDr.out, HB5.out, HSt5⟩
      case round =>
        clear HJ HD HDr HB5 HSt5 HB4 HSt4 HSt4d HB4d HBw z1 z2 z3 e1 e2 e3 e4 e5
        obtain ⟨t, rfl, HE, hb, HSt⟩ := hrel
        have HBy := Lib.hid hb
        obtain ⟨hjl, hj1, hj2⟩ := drop_at HE.out
        have hjn : t < n := by rw [← HL.out]; exact hjl
        have HJ := Lib.hid hjn
        obtain ⟨z1, z2, z3⟩ := inj1 hjn (Nat.le_trans HN.out (by decide))
        obtain ⟨bf, of, ha, hc⟩ := HS.out.cells (Nat.lt_of_le_of_lt (Nat.zero_le _) hjn)
        obtain rfl := ha
        obtain ⟨p0, p1⟩ := hc t hjl
        have hfz := fdz_at fs t hjl
        have hbw : Below w.heap.size w wr.drew := (HB3.out.trans (hb.mono HB3.out.size)).trans ((below_drewN (Below.refl wr.heap.size wr) 1).mono (Nat.le_trans HB3.out.size hb.size))
        have HBd : Hid (Below w3.heap.size w3 wr.drew) := Lib.hid (hb.trans ((below_drewN (Below.refl wr.heap.size wr) 1).mono hb.size))
        rw [← hbw.cell (World.block_lt_of_cell? _ _ p0)] at p0
        rw [← hbw.cell (World.block_lt_of_cell? _ _ p1)] at p1
        obtain ⟨x, hx⟩ : ∃ x, x = fs[t] := ⟨_, rfl⟩
        rw [← hx] at p0 p1 hj1 hj2 hfz
        obtain ⟨xn, hxn⟩ : ∃ xn, xn = x.nm := ⟨_, rfl⟩
        obtain ⟨xv, hxv⟩ : ∃ xv, xv = x.va := ⟨_, rfl⟩
        rw [← hxn] at p0 hj1 hj2
        rw [← hxv] at p1 hj1 hj2
        have HSm := Lib.hid (rsmall_any wr.drew xn (Nat.le_trans (by have := HZ.out; rw [hxn]; omega : xn.size ≤ 1048576) (by decide)))
        have HSd := HSt.out.below (below_drewN (Below.refl wr.heap.size wr) 1)
        have HSa : Hid (Sat [(⟨bf, of + t * 2, none⟩, .string xn), (⟨bf, of + t * 2 + 1, none⟩, .string xv), (⟨g2, 0, none⟩, .string fn), (⟨g2, 1, none⟩, .string fv)] wr.drew) := Lib.hid (Sat.cons p0 (Sat.cons p1 HSd))
        obtain ⟨sx, hsx⟩ : ∃ sx, sx = strB (smallL (bl xn)) := ⟨_, rfl⟩
        rw [← HF.out.1, ← HF.out.2] at hj1 hj2
        unfold StrOf at HSm
        rw [← hsx] at HSm hj1 hj2
        have HJ1 := Lib.hid hj1
        have HJ2 := Lib.hid hj2
        clear hb hjl hj1 hj2 hjn hc p0 p1 hfz hbw hx hxn hxv HSd hsx
        by_cases hs : sx = fn
        · subst sx
          by_cases hv : xv = fv
          · subst xv
            obtain ⟨_, x2, x3⟩ := inj1 HI.out (Nat.le_trans HMn.out (by decide))
            have y1 : (((t : Nat) : Int) == ((n : Nat) : Int)) = false := by rw [beq_eq_false_iff_ne]; have := HJ.out; omega
            have y2 : ((t : Int) = (n : Int)) = False := eq_false (by have := HJ.out; omega)
            go_upto_region 12 with fail
            refine Mx.region [] (Sat [(⟨bf, of + t * 2, none⟩, .string xn), (⟨bf, of + t * 2 + 1, none⟩, .string fv), (⟨g2, 0, none⟩, .string fn), (⟨g2, 1, none⟩, .string fv)]) (by kernel_rfl) (by kernel_rfl) HSa.out ?_
            repeat ((first | (refine Mx.skips (by kernel_rfl) ?_; go_big_quiet_skip) | (refine Mx.quietly rfl ?_; go_big_quiet_want; go_big_quiet_op; go_big_quiet_on)); refine Mx.done ?_)
            refine Mx.cell ⟨bf, of + t * 2, none⟩ (.string xn) (by kernel_rfl) (by kernel_rfl) (by kernel_rfl) Tryd.isAgg9 (fun w' h => h 0 _ _ rfl) ?_
            go_big_quiet_want; go_big_quiet_op; go_big_quiet_on; refine Mx.done ?_
            repeat ((first | (refine Mx.skips (by kernel_rfl) ?_; go_big_quiet_skip) | (refine Mx.quietly rfl ?_; go_big_quiet_want; go_big_quiet_op; go_big_quiet_on)); refine Mx.done ?_)
            refine Mx.loudly (by kernel_rfl) (by kernel_rfl) ?_
            go_wp2_with fail
            refine HSm.out.mono ?_
            rintro e w7 ⟨rfl, hb7⟩
            have HB7 : Hid (Below w3.heap.size w3 w7) := Lib.hid (HBd.out.trans (hb7.mono HBd.out.size))
            have HSa7 : Hid (Sat [(⟨bf, of + t * 2, none⟩, .string xn), (⟨bf, of + t * 2 + 1, none⟩, .string fv), (⟨g2, 0, none⟩, .string fn), (⟨g2, 1, none⟩, .string fv)] w7) := Lib.hid (HSa.out.below hb7)
            have HSt7 := Lib.hid ((HSt.out.below (below_drewN (Below.refl wr.heap.size wr) 1)).below hb7)
            clear hb7
            go_wp2_with fail
            refine ⟨HSa7.out, ?_⟩
            repeat ((first | (refine Mx.skips (by kernel_rfl) ?_; go_big_quiet_skip) | (refine Mx.quietly rfl ?_; go_big_quiet_want; go_big_quiet_op; go_big_quiet_on)); refine Mx.done ?_)
            refine Mx.cell ⟨g2, 0, none⟩ (.string fn) (by kernel_rfl) (by kernel_rfl) (by kernel_rfl) Tryd.isAgg9 (fun w' h => h 2 _ _ rfl) ?_
            go_big_quiet_want; go_big_quiet_op; go_big_quiet_on; refine Mx.done ?_
            repeat ((first | (refine Mx.skips (by kernel_rfl) ?_; go_big_quiet_skip) | (refine Mx.quietly rfl ?_; go_big_quiet_want; go_big_quiet_op; go_big_quiet_on)); refine Mx.done ?_)
            refine Mx.cell ⟨bf, of + t * 2 + 1, none⟩ (.string fv) (by kernel_rfl) (by kernel_rfl) (by kernel_rfl) Tryd.isAgg9 (fun w' h => h 1 _ _ rfl) ?_
            go_big_quiet_want; go_big_quiet_op; go_big_quiet_on; refine Mx.done ?_
            repeat ((first | (refine Mx.skips (by kernel_rfl) ?_; go_big_quiet_skip) | (refine Mx.quietly rfl ?_; go_big_quiet_want; go_big_quiet_op; go_big_quiet_on)); refine Mx.done ?_)
            refine Mx.cell ⟨g2, 1, none⟩ (.string fv) (by kernel_rfl) (by kernel_rfl) (by kernel_rfl) Tryd.isAgg9 (fun w' h => h 3 _ _ rfl) ?_
            go_big_quiet_want; go_big_quiet_op; go_big_quiet_on; refine Mx.done ?_
            repeat ((first | (refine Mx.skips (by kernel_rfl) ?_; go_big_quiet_skip) | (refine Mx.quietly rfl ?_; go_big_quiet_want; go_big_quiet_op; go_big_quiet_on)); refine Mx.done ?_)
            refine Mx.nil ?_
            go_wp2_with fail
            go_roundw
            case rel => exact ⟨i + 1, t + 1, by first | rfl | (push_cast; rfl), by first | rfl | (push_cast; rfl), HI.out, HJ.out, Lib.hid (HJ1.out (by simp) HG.out), HB7.out⟩
            case measure => exact nbj3 HI.out
          · have e1 : (xv.toList == fv.toList) = false := by
              rw [beq_eq_false_iff_ne, ByteArray.toList_eq, ByteArray.toList_eq]
              exact fun e => hv (by have := congrArg strB e; rwa [strB_of, strB_of] at this)
            go_upto_region 12 with fail
            refine Mx.region [] (Sat [(⟨bf, of + t * 2, none⟩, .string xn), (⟨bf, of + t * 2 + 1, none⟩, .string xv), (⟨g2, 0, none⟩, .string fn), (⟨g2, 1, none⟩, .string fv)]) (by kernel_rfl) (by kernel_rfl) HSa.out ?_
            repeat ((first | (refine Mx.skips (by kernel_rfl) ?_; go_big_quiet_skip) | (refine Mx.quietly rfl ?_; go_big_quiet_want; go_big_quiet_op; go_big_quiet_on)); refine Mx.done ?_)
            refine Mx.cell ⟨bf, of + t * 2, none⟩ (.string xn) (by kernel_rfl) (by kernel_rfl) (by kernel_rfl) Tryd.isAgg9 (fun w' h => h 0 _ _ rfl) ?_
            go_big_quiet_want; go_big_quiet_op; go_big_quiet_on; refine Mx.done ?_
            repeat ((first | (refine Mx.skips (by kernel_rfl) ?_; go_big_quiet_skip) | (refine Mx.quietly rfl ?_; go_big_quiet_want; go_big_quiet_op; go_big_quiet_on)); refine Mx.done ?_)
            refine Mx.loudly (by kernel_rfl) (by kernel_rfl) ?_
            go_wp2_with fail
            refine HSm.out.mono ?_
            rintro e w7 ⟨rfl, hb7⟩
            have HB7 : Hid (Below w3.heap.size w3 w7) := Lib.hid (HBd.out.trans (hb7.mono HBd.out.size))
            have HSa7 : Hid (Sat [(⟨bf, of + t * 2, none⟩, .string xn), (⟨bf, of + t * 2 + 1, none⟩, .string xv), (⟨g2, 0, none⟩, .string fn), (⟨g2, 1, none⟩, .string fv)] w7) := Lib.hid (HSa.out.below hb7)
            have HSt7 := Lib.hid ((HSt.out.below (below_drewN (Below.refl wr.heap.size wr) 1)).below hb7)
            clear hb7
            go_wp2_with fail
            refine ⟨HSa7.out, ?_⟩
            repeat ((first | (refine Mx.skips (by kernel_rfl) ?_; go_big_quiet_skip) | (refine Mx.quietly rfl ?_; go_big_quiet_want; go_big_quiet_op; go_big_quiet_on)); refine Mx.done ?_)
            refine Mx.cell ⟨g2, 0, none⟩ (.string fn) (by kernel_rfl) (by kernel_rfl) (by kernel_rfl) Tryd.isAgg9 (fun w' h => h 2 _ _ rfl) ?_
            go_big_quiet_want; go_big_quiet_op; go_big_quiet_on; refine Mx.done ?_
            repeat ((first | (refine Mx.skips (by kernel_rfl) ?_; go_big_quiet_skip) | (refine Mx.quietly rfl ?_; go_big_quiet_want; go_big_quiet_op; go_big_quiet_on)); refine Mx.done ?_)
            refine Mx.cell ⟨bf, of + t * 2 + 1, none⟩ (.string xv) (by kernel_rfl) (by kernel_rfl) (by kernel_rfl) Tryd.isAgg9 (fun w' h => h 1 _ _ rfl) ?_
            go_big_quiet_want; go_big_quiet_op; go_big_quiet_on; refine Mx.done ?_
            repeat ((first | (refine Mx.skips (by kernel_rfl) ?_; go_big_quiet_skip) | (refine Mx.quietly rfl ?_; go_big_quiet_want; go_big_quiet_op; go_big_quiet_on)); refine Mx.done ?_)
            refine Mx.cell ⟨g2, 1, none⟩ (.string fv) (by kernel_rfl) (by kernel_rfl) (by kernel_rfl) Tryd.isAgg9 (fun w' h => h 3 _ _ rfl) ?_
            go_big_quiet_want; go_big_quiet_op; go_big_quiet_on; refine Mx.done ?_
            repeat ((first | (refine Mx.skips (by kernel_rfl) ?_; go_big_quiet_skip) | (refine Mx.quietly rfl ?_; go_big_quiet_want; go_big_quiet_op; go_big_quiet_on)); refine Mx.done ?_)
            refine Mx.nil ?_
            go_wp2_with fail
            go_roundw
            case rel => exact ⟨t + 1, by first | rfl | (push_cast; rfl), Lib.hid (HJ2.out (fun h => hv h.2)), HB7.out, HSt7⟩
            case measure => exact nbj3 HJ.out
        · have e1 : (sx.toList == fn.toList) = false := by
            rw [beq_eq_false_iff_ne, ByteArray.toList_eq, ByteArray.toList_eq]
            exact fun e => hs (by have := congrArg strB e; rwa [strB_of, strB_of] at this)
          go_upto_region 12 with fail
          refine Mx.region [] (Sat [(⟨bf, of + t * 2, none⟩, .string xn), (⟨bf, of + t * 2 + 1, none⟩, .string xv), (⟨g2, 0, none⟩, .string fn), (⟨g2, 1, none⟩, .string fv)]) (by kernel_rfl) (by kernel_rfl) HSa.out ?_
          repeat ((first | (refine Mx.skips (by kernel_rfl) ?_; go_big_quiet_skip) | (refine Mx.quietly rfl ?_; go_big_quiet_want; go_big_quiet_op; go_big_quiet_on)); refine Mx.done ?_)
          refine Mx.cell ⟨bf, of + t * 2, none⟩ (.string xn) (by kernel_rfl) (by kernel_rfl) (by kernel_rfl) Tryd.isAgg9 (fun w' h => h 0 _ _ rfl) ?_
          go_big_quiet_want; go_big_quiet_op; go_big_quiet_on; refine Mx.done ?_
          repeat ((first | (refine Mx.skips (by kernel_rfl) ?_; go_big_quiet_skip) | (refine Mx.quietly rfl ?_; go_big_quiet_want; go_big_quiet_op; go_big_quiet_on)); refine Mx.done ?_)
          refine Mx.loudly (by kernel_rfl) (by kernel_rfl) ?_
          go_wp2_with fail
          refine HSm.out.mono ?_
          rintro e w7 ⟨rfl, hb7⟩
          have HB7 : Hid (Below w3.heap.size w3 w7) := Lib.hid (HBd.out.trans (hb7.mono HBd.out.size))
          have HSa7 : Hid (Sat [(⟨bf, of + t * 2, none⟩, .string xn), (⟨bf, of + t * 2 + 1, none⟩, .string xv), (⟨g2, 0, none⟩, .string fn), (⟨g2, 1, none⟩, .string fv)] w7) := Lib.hid (HSa.out.below hb7)
          have HSt7 := Lib.hid ((HSt.out.below (below_drewN (Below.refl wr.heap.size wr) 1)).below hb7)
          clear hb7
          go_wp2_with fail
          refine ⟨HSa7.out, ?_⟩
          repeat ((first | (refine Mx.skips (by kernel_rfl) ?_; go_big_quiet_skip) | (refine Mx.quietly rfl ?_; go_big_quiet_want; go_big_quiet_op; go_big_quiet_on)); refine Mx.done ?_)
          refine Mx.cell ⟨g2, 0, none⟩ (.string fn) (by kernel_rfl) (by kernel_rfl) (by kernel_rfl) Tryd.isAgg9 (fun w' h => h 2 _ _ rfl) ?_
          go_big_quiet_want; go_big_quiet_op; go_big_quiet_on; refine Mx.done ?_
          repeat ((first | (refine Mx.skips (by kernel_rfl) ?_; go_big_quiet_skip) | (refine Mx.quietly rfl ?_; go_big_quiet_want; go_big_quiet_op; go_big_quiet_on)); refine Mx.done ?_)
          refine Mx.nil ?_
          go_wp2_with fail
          go_roundw
          case rel => exact ⟨t + 1, by first | rfl | (push_cast; rfl), Lib.hid (HJ2.out (fun h => hs h.1)), HB7.out, HSt7⟩
          case measure => exact nbj3 HJ.out
    · have z1 := inj2 him
      have HBz : Hid (Below w.heap.size w wr) := Lib.hid (HB3.out.trans (HBw.out.mono HB3.out.size))
      have HAw := Lib.hid (awake19_any wr (HT.out.below HBz.out))
      clear hi him HJ HD
      go_wp2_with fail
      refine HAw.out.mono ?_
      rintro e w4 ⟨rfl, hb4⟩
      have HB4 : Hid (Below w.heap.size w w4) := Lib.hid (HBz.out.trans (hb4.mono HBz.out.size))
      clear hb4
      go_wp2
      go_ret
      exact ⟨rfl, HB4.out⟩
end Go.Proofs.YtohinaohcndndaaDoor

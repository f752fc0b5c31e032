/- NormBegins answers true. Premises: the tables, the sizes. -/
import Derived.Test.YtohinaohcndndaaDoorGramW
import Derived.Test.YtohinaohcndndaaDoorNmBnd
import Derived.Test.YtohinaohcndndaaDoorNmAwk
namespace Go.Proofs.YtohinaohcndndaaDoor
open Go.RowKit

theorem headF_le (cv : List UInt8) : ∀ l : List Fd, (headF cv true l).length ≤ fsz l + 4 * l.length ∧ (headF cv false l).length ≤ fsz l + 4 * l.length + cv.length
  | [] => ⟨Nat.zero_le _, Nat.zero_le _⟩
  | f :: r => by
    obtain ⟨i1, i2⟩ := headF_le cv r
    have e : fsz (f :: r) = (f.nm.size + f.va.size) + fsz r := by simp [fsz]
    have el : (lineL f).length = f.nm.size + (2 + (f.va.size + 2)) := line_len f
    have en : (bl f.nm).length = f.nm.size := (bl_size f.nm).symm
    constructor
    · unfold headF
      split
      · rw [e, List.length_cons]; omega
      · split
        · rw [if_pos rfl, e, List.length_cons]; omega
        · rw [e, List.length_append, List.length_cons, el]; omega
    · unfold headF
      split
      · rw [e, List.length_cons]; omega
      · split
        · rw [if_neg (by decide), e]
          simp only [List.length_append, List.length_cons, List.length_nil, en]; omega
        · rw [e, List.length_append, List.length_cons, el]; omega
/-- the head is short enough for the grammar's walk -/
theorem head_small {r : Rq} (h1 : r.me.size ≤ 1048576) (h2 : r.au.size ≤ 1048576) (h3 : r.pa.size ≤ 1048576) (hz : fdz r.fs ≤ 1048576) (h4 : -1 ≤ r.len) (h5 : r.len < 1000000000000000) (body : Bool) : (headL r body).1.length ≤ 16777216 := by
  have hn := fdz_len r.fs
  have hf := fsz_fdz r.fs
  have hc : (cookL r.fs).length ≤ fsz r.fs + 2 * r.fs.length := by
    have h := cook_len (l := r.fs) r.fs.length (Nat.le_refl _)
    rwa [List.take_length] at h
  have hh := (headF_le (cookL r.fs) r.fs).2
  have e3 : (framT r body).length ≤ 60 := by
    unfold framT
    split
    · have h := Lib.itoa_length_le (max r.len 0) (by omega) (by omega)
      simp only [List.length_append, List.length_cons, List.length_nil]
      omega
    · split
      · decide
      · decide
  unfold headL
  split
  · exact Nat.zero_le _
  · have e4 : viaT.length = 19 := rfl
    rw [bl_size] at h1 h2 h3
    simp only [List.length_append, head1, head2, List.length_cons, List.length_nil]
    omega
/-- a whole body tells its fields -/
theorem body_fs {me tg : List UInt8} {fs : List Fd} {p a b : List UInt8} {c : List Fd} {d : List UInt8} {e : List Fd} {R : List UInt8} (h : bodyV me tg fs p = .ok a b c d e R) : c = fs := by
  unfold bodyV at h
  split at h
  · cases h
  · split at h
    · cases h
    · split at h
      · cases hq : chunksL p with
        | short => rw [hq] at h; cases h
        | bad => rw [hq] at h; cases h
        | ok b3 t3 r3 => rw [hq] at h; simp only [RR.ofC, RR.ok.injEq] at h; exact h.2.2.1.symm
      · split at h
        · split at h
          · cases h
          · simp only [RR.ok.injEq] at h; exact h.2.2.1.symm
        · simp only [RR.ok.injEq] at h; exact h.2.2.1.symm
theorem begin_short {r : Rq} (h : Good r) (body : Bool) (hf : framL r body = 0 ∨ (framL r body = 1 ∧ r.len ≤ 0)) {k : Nat} (hk : k < (headL r body).1.length) :
    cutL ((headL r body).1.take k) = none ∨ ∃ x r1 m t, cutL ((headL r body).1.take k) = some (x, r1) ∧ startV x = (m, t, true) ∧ fldsL r1 = .short := by
  have hw := read_none h body hf
  have hs := read_begin hw hk
  obtain ⟨H, hH⟩ : ∃ H, H = (headL r body).1 := ⟨_, rfl⟩
  rw [← hH] at hw hs hk ⊢
  obtain ⟨p, hp⟩ : ∃ p, p = H.take k := ⟨_, rfl⟩
  obtain ⟨q, hq⟩ : ∃ q, q = H.drop k := ⟨_, rfl⟩
  have e0 : H = p ++ q := by rw [hp, hq, List.take_append_drop]
  rw [← hp] at hs ⊢
  cases hc : cutL p with
  | none => exact .inl rfl
  | some xr =>
    obtain ⟨x, r1⟩ := xr
    refine .inr ⟨x, r1, (startV x).1, (startV x).2.1, rfl, ?_⟩
    unfold readV at hs
    rw [hc] at hs
    simp only at hs
    split at hs
    · cases hs
    · rename_i hst
      have ht : (startV x).2.2 = true := by simpa using hst
      refine ⟨by rw [← ht], ?_⟩
      cases hfl : fldsL r1 with
      | short => rfl
      | bad => rw [hfl] at hs; cases hs
      | ok fs r2 =>
        exfalso
        rw [hfl] at hs
        simp only at hs
        have hw2 := hw
        rw [e0] at hw2
        unfold readV at hw2
        rw [cut_on q hc] at hw2
        simp only at hw2
        rw [if_neg hst, (flds_on q (r1.length + 1) r1 (by omega)).1 _ _ hfl] at hw2
        simp only at hw2
        have e1 := body_fs hw2
        rw [← e1] at hs
        unfold bodyV at hs
        rw [hd_heads h body] at hs
        rcases hf with hf | ⟨hf, hl⟩
        · rw [hf] at hs
          simp at hs
        · rw [hf, if_pos rfl] at hs
          simp only at hs
          rw [if_neg (by simp), if_neg (by decide), if_neg (by omega)] at hs
          cases hs
theorem bgj1 {n k : Nat} (h1 : 1 ≤ k) (h2 : k < n) : ((k : Int) < 1) = False ∧ ((n : Int) ≤ (k : Int)) = False ∧ (0 : Int) ≤ (k : Int) ∧ (k : Int) ≤ (n : Int) := ⟨eq_false (by omega), eq_false (by omega), by omega, by omega⟩
set_option maxRecDepth 100000 in
set_option maxHeartbeats 8000000 in
theorem begins_any (w : World) (ht : Tabs w) {a : Option Addr} {n c : Nat} {fs : List Fd} (h : SlS w a n c fs) (hz : fdz fs ≤ 1048576) (cut : Int) (_ : -9223372036854775808 ≤ cut) (_ : cut ≤ 9223372036854775807) :
    Calls Tryd.prog 4 #[.slice a n c, .int .i64 cut] w (BoolOf w true) := by
  have HT := Lib.hid ht
  have hbd := chkF_bnd hz 1048576 1073741824
  have hgd : (madeF fs).er = 0 → ¬ bl (madeF fs).rq.me = conS → Good (madeF fs).rq := fun h1 h2 => chk_good h1 h2 (last_lt fs (-1) (by omega))
  rw [show chkF fs 1048576 1073741824 = madeF fs by rw [madeF]] at hbd
  have HMd := Lib.hid (made_any w h hz (Nat.le_trans (fdz_len _) hbd.fs))
  obtain ⟨R, hR⟩ : ∃ R, R = madeF fs := ⟨_, rfl⟩
  rw [← hR] at hbd HMd hgd
  have HBd := Lib.hid hbd
  have HGd := Lib.hid hgd
  obtain ⟨⟨me, sc, au, pa, fl, len⟩, er⟩ := R
  obtain ⟨k, hk⟩ : ∃ k, k = fl.length := ⟨_, rfl⟩
  have HK := Lib.hid hk
  clear ht h hz hbd hR hgd
  go_enter Tryd.func4, Tryd.ntmps4
  go_wp2_with fail
  refine HMd.out.mono ?_
  rintro e w2 ⟨a3, c3, rfl, hs2, hb2⟩
  have HB2 := Lib.hid hb2
  unfold rqV
  simp only at hs2 ⊢
  rw [← hk] at hs2 ⊢
  have HS2 := Lib.hid hs2
  clear hs2 hb2 hk HMd
  go_upto_region 2 with fail
  obtain ⟨w3, hw3⟩ : ∃ w3, w3 = w2.alloc (.cells #[.string me, .string sc, .string au, .string pa, .slice a3 k c3, .int .i64 len] 24) := ⟨_, rfl⟩
  obtain ⟨g5, hg5⟩ : ∃ g5, g5 = w2.heap.size := ⟨_, rfl⟩
  have hb3 : Below w2.heap.size w2 w3 := by rw [hw3]; exact (Below.refl _ w2).alloc (Nat.le_refl _) _
  have HH3 : Hid (Has w3 g5 24 (rqC me sc au pa a3 k c3 len)) := Lib.hid (by rw [hw3, hg5]; exact Has.new w2 24 (rqC me sc au pa a3 k c3 len).toArray)
  have HS3 : Hid (SlS w3 a3 k c3 fl) := Lib.hid (HS2.out.below hb3)
  have HB3 : Hid (Below w.heap.size w w3) := Lib.hid (HB2.out.trans (hb3.mono HB2.out.size))
  rw [← hw3, ← hg5]
  clear hw3 hg5 hb3
  have HAw := Lib.hid (fun w' (hb : Below w.heap.size w w') => awake19_any w' (HT.out.below hb))
  by_cases h0 : er = 0
  · subst er
    have b0 := HH3.out.cell 0 rfl
    have b1 := HH3.out.cell 1 rfl
    have b2 := HH3.out.cell 2 rfl
    have b3 := HH3.out.cell 3 rfl
    have b4 := HH3.out.cell 4 rfl
    have b5 := HH3.out.cell 5 rfl
    by_cases hcon : bl me = [67, 79, 78, 78, 69, 67, 84]
    · obtain ⟨t1, t2⟩ := eqT2 hcon
      have HA3 := Lib.hid (HAw.out w3 HB3.out)
      clear hcon
      go_wp2_with fail
      refine HA3.out.mono ?_
      rintro e w4 ⟨rfl, hb4⟩
      have HB4 : Hid (Below w.heap.size w w4) := Lib.hid (HB3.out.trans (hb4.mono HB3.out.size))
      clear hb4
      go_wp2
      go_ret
      exact ⟨rfl, HB4.out⟩
    · obtain ⟨t1, t2⟩ := eqF2 hcon
      by_cases hl0 : 0 < len
      · have y1 : ((0 : Int) < len) = True := eq_true hl0
        have HA3 := Lib.hid (HAw.out w3 HB3.out)
        clear hcon hl0
        go_wp2_with fail
        refine HA3.out.mono ?_
        rintro e w4 ⟨rfl, hb4⟩
        have HB4 : Hid (Below w.heap.size w w4) := Lib.hid (HB3.out.trans (hb4.mono HB3.out.size))
        clear hb4
        go_wp2
        go_ret
        exact ⟨rfl, HB4.out⟩
      · have y1 : ((0 : Int) < len) = False := eq_false hl0
        have hG : Good ⟨me, sc, au, pa, fl, len⟩ := HGd.out rfl hcon
        have hfr : framL ⟨me, sc, au, pa, fl, len⟩ false = 0 ∨ (framL ⟨me, sc, au, pa, fl, len⟩ false = 1 ∧ (⟨me, sc, au, pa, fl, len⟩ : Rq).len ≤ 0) := by
          unfold framL
          simp only
          split
          · exact .inr ⟨rfl, by omega⟩
          · rw [if_neg (by decide)]
            split
            · exact .inr ⟨rfl, by omega⟩
            · exact .inl rfl
        obtain ⟨q1, q2⟩ := head_bnd HBd.out.me HBd.out.au HBd.out.pa HBd.out.fs HBd.out.lo HBd.out.hi false
        have hsm := head_small HBd.out.me HBd.out.au HBd.out.pa HBd.out.fs HBd.out.lo HBd.out.hi false
        have hbs := fun k hk => begin_short hG false hfr (k := k) hk
        have hHd := head_any w3 ⟨me, sc, au, pa, fl, len⟩ (a := a3) (c := c3) (by rw [← HK.out]; exact HS3.out) false (by have h1 := HBd.out.lo; have h2 := HBd.out.hi; simp only at h1 h2 ⊢; omega) (Nat.le_trans (Nat.le_trans (fdz_len _) HBd.out.fs) (by decide)) (Nat.le_trans q1 (by decide)) q2 (HT.out.below HB3.out).pow
        have he0 : (headL ⟨me, sc, au, pa, fl, len⟩ false).2 = 0 := by unfold headL; rw [if_neg hcon]
        obtain ⟨H, hH⟩ : ∃ H, H = headL ⟨me, sc, au, pa, fl, len⟩ false := ⟨_, rfl⟩
        rw [← hH] at hHd he0 hsm hbs
        obtain ⟨bL, hE⟩ := H
        simp only at he0 hsm hbs
        subst he0
        obtain ⟨bn, hbn⟩ : ∃ bn, bn = bL.length := ⟨_, rfl⟩
        have HBn := Lib.hid hbn
        have HSm : Hid (bn ≤ 16777216) := Lib.hid (by rw [hbn]; exact hsm)
        have HBs := Lib.hid hbs
        unfold rqV at hHd
        simp only [← HK.out] at hHd
        have HHd := Lib.hid hHd
        clear q1 q2 hHd hcon hl0 hG hfr hsm hbs hH hbn
        go_wp2_with fail
        refine HHd.out.mono ?_
        rintro e w4 ⟨ba, bc, he, ho4, hb4⟩
        simp only at he ho4
        obtain rfl : e = .returned (.tuple #[.slice ba bn bc, .int .i64 0]) := by rw [he, HBn.out]
        have HSl4 : Hid (Sl w4 ba bn bc (bv bL)) := Lib.hid (by rw [HBn.out]; exact own_sl ho4)
        have HB4 : Hid (Below w.heap.size w w4) := Lib.hid (HB3.out.trans (hb4.mono HB3.out.size))
        clear he ho4 hb4 b0 b1 b2 b3 b4 b5 HHd t1 t2 y1
        by_cases hc1 : 1 ≤ cut ∧ cut < (bn : Int)
        · obtain ⟨ct, hct⟩ : ∃ ct : Nat, cut = (ct : Int) := ⟨cut.toNat, by omega⟩
          subst hct
          obtain ⟨z1, z2, z3, z4⟩ := bgj1 (n := bn) (k := ct) (by omega) (by omega)
          have z5 : (ct : Int) ≤ (bc : Int) := by have := HSl4.out.cap_le; omega
          have hlt : ct < bL.length := by rw [← HBn.out]; omega
          have hstr := run_str (P := Tryd.prog) (by rw [bv_take]; exact sl_take HSl4.out (k := ct) (by rw [HBn.out]; omega) : Sl w4 ba ct bc (bv (bL.take ct))) 28 5 9 Tryd.underlying28 Tryd.underlying5 Tryd.underlying9
          have hpl : (bL.take ct).length = ct := by rw [List.length_take]; omega
          have hfc := fun w' => factor_short w' (bL.take ct) (by rw [hpl]; have := HSm.out; omega) (by intro e; rw [e] at hpl; simp at hpl; omega) (HBs.out ct hlt)
          obtain ⟨S, hS⟩ : ∃ S, S = strB (bL.take ct) := ⟨_, rfl⟩
          have hsz : S.size = ct := by rw [hS, strB_size, hpl]
          rw [← hS] at hfc hstr
          have HFc := Lib.hid (hfc w4)
          clear hfc hS hpl hlt hc1
          go_wp2_with fail
          refine HFc.out.mono ?_
          rintro e w5 ⟨rfl, hb5⟩
          have HB5 : Hid (Below w.heap.size w w5) := Lib.hid (HB4.out.trans (hb5.mono HB4.out.size))
          have HA5 := Lib.hid (HAw.out w5 HB5.out)
          clear hb5 hstr
          go_wp2_with fail
          refine HA5.out.mono ?_
          rintro e w6 ⟨rfl, hb6⟩
          have HB6 : Hid (Below w.heap.size w w6) := Lib.hid (HB5.out.trans (hb6.mono HB5.out.size))
          clear hb6
          go_wp2
          go_ret
          exact ⟨rfl, HB6.out⟩
        · have HA4 := Lib.hid (HAw.out w4 HB4.out)
          rcases (by omega : cut < 1 ∨ (¬ cut < 1 ∧ (bn : Int) ≤ cut)) with hlo | ⟨hlo, hhi⟩
          · have z1 : (cut < 1) = True := eq_true hlo
            clear hc1 hlo
            go_wp2_with fail
            refine HA4.out.mono ?_
            rintro e w5 ⟨rfl, hb5⟩
            have HB5 : Hid (Below w.heap.size w w5) := Lib.hid (HB4.out.trans (hb5.mono HB4.out.size))
            clear hb5
            go_wp2
            go_ret
            exact ⟨rfl, HB5.out⟩
          · have z1 : (cut < 1) = False := eq_false hlo
            have z2 : ((bn : Int) ≤ cut) = True := eq_true hhi
            clear hc1 hlo hhi
            go_wp2_with fail
            refine HA4.out.mono ?_
            rintro e w5 ⟨rfl, hb5⟩
            have HB5 : Hid (Below w.heap.size w w5) := Lib.hid (HB4.out.trans (hb5.mono HB4.out.size))
            clear hb5
            go_wp2
            go_ret
            exact ⟨rfl, HB5.out⟩
  · have y1 : (er == 0) = false := by simpa using h0
    have HA3 := Lib.hid (HAw.out w3 HB3.out)
    rw [y1]
    clear h0 y1
    go_wp2_with fail
    refine HA3.out.mono ?_
    rintro e w4 ⟨rfl, hb4⟩
    have HB4 : Hid (Below w.heap.size w w4) := Lib.hid (HB3.out.trans (hb4.mono HB3.out.size))
    clear hb4
    go_wp2
    go_ret
    exact ⟨rfl, HB4.out⟩
end Go.Proofs.YtohinaohcndndaaDoor

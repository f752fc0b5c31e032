/- HoneStrict answers true. Premises: the library's variables, the sizes. -/
import Derived.Test.YtfffefhchjnfjaaGreatDoorHoGd
import Derived.Test.YtfffefhchjnfjaaGreatDoorHoLaw1
namespace Go.Proofs.YtfffefhchjnfjaaGreatDoor
open Go.RowKit

/-- the lines that make a head bad -/
def bads : Nat → List (List UInt8)
  | 0 => [[67, 111, 110, 116, 101, 110, 116, 45, 76, 101, 110, 103, 116, 104, 58, 32, 49], [84, 114, 97, 110, 115, 102, 101, 114, 45, 69, 110, 99, 111, 100, 105, 110, 103, 58, 32, 99, 104, 117, 110, 107, 101, 100]]
  | 1 => [[67, 111, 110, 116, 101, 110, 116, 45, 76, 101, 110, 103, 116, 104, 58, 32, 49], [67, 111, 110, 116, 101, 110, 116, 45, 76, 101, 110, 103, 116, 104, 58, 32, 50]]
  | 2 => [[84, 114, 97, 110, 115, 102, 101, 114, 45, 69, 110, 99, 111, 100, 105, 110, 103, 58, 32, 103, 122, 105, 112, 44, 32, 99, 104, 117, 110, 107, 101, 100]]
  | 3 => [[84, 114, 97, 110, 115, 102, 101, 114, 45, 69, 110, 99, 111, 100, 105, 110, 103, 58, 32, 99, 104, 117, 110, 107, 101, 100], [84, 114, 97, 110, 115, 102, 101, 114, 45, 69, 110, 99, 111, 100, 105, 110, 103, 58, 32, 99, 104, 117, 110, 107, 101, 100]]
  | 4 => [[67, 111, 110, 116, 101, 110, 116, 45, 76, 101, 110, 103, 116, 104, 58, 32, 43, 49]]
  | 5 => [[67, 111, 110, 116, 101, 110, 116, 45, 76, 101, 110, 103, 116, 104, 58, 32, 49, 44, 32, 49]]
  | 6 => [[67, 111, 110, 116, 101, 110, 116, 45, 76, 101, 110, 103, 116, 104, 32, 58, 32, 49]]
  | 7 => [[70, 111, 108, 100, 101, 100, 58, 32, 97], [32, 98]]
  | 8 => [[66, 97, 114, 101, 58, 32, 97, 13, 98]]
  | 9 => [[66, 97, 114, 101, 58, 32, 97, 10, 98]]
  | _ => []
def badA : Array Value := #[.string ⟨#[67, 111, 110, 116, 101, 110, 116, 45, 76, 101, 110, 103, 116, 104, 58, 32, 49, 13, 10, 84, 114, 97, 110, 115, 102, 101, 114, 45, 69, 110, 99, 111, 100, 105, 110, 103, 58, 32, 99, 104, 117, 110, 107, 101, 100, 13, 10]⟩, .string ⟨#[67, 111, 110, 116, 101, 110, 116, 45, 76, 101, 110, 103, 116, 104, 58, 32, 49, 13, 10, 67, 111, 110, 116, 101, 110, 116, 45, 76, 101, 110, 103, 116, 104, 58, 32, 50, 13, 10]⟩, .string ⟨#[84, 114, 97, 110, 115, 102, 101, 114, 45, 69, 110, 99, 111, 100, 105, 110, 103, 58, 32, 103, 122, 105, 112, 44, 32, 99, 104, 117, 110, 107, 101, 100, 13, 10]⟩, .string ⟨#[84, 114, 97, 110, 115, 102, 101, 114, 45, 69, 110, 99, 111, 100, 105, 110, 103, 58, 32, 99, 104, 117, 110, 107, 101, 100, 13, 10, 84, 114, 97, 110, 115, 102, 101, 114, 45, 69, 110, 99, 111, 100, 105, 110, 103, 58, 32, 99, 104, 117, 110, 107, 101, 100, 13, 10]⟩, .string ⟨#[67, 111, 110, 116, 101, 110, 116, 45, 76, 101, 110, 103, 116, 104, 58, 32, 43, 49, 13, 10]⟩, .string ⟨#[67, 111, 110, 116, 101, 110, 116, 45, 76, 101, 110, 103, 116, 104, 58, 32, 49, 44, 32, 49, 13, 10]⟩, .string ⟨#[67, 111, 110, 116, 101, 110, 116, 45, 76, 101, 110, 103, 116, 104, 32, 58, 32, 49, 13, 10]⟩, .string ⟨#[70, 111, 108, 100, 101, 100, 58, 32, 97, 13, 10, 32, 98, 13, 10]⟩, .string ⟨#[66, 97, 114, 101, 58, 32, 97, 13, 98, 13, 10]⟩, .string ⟨#[66, 97, 114, 101, 58, 32, 97, 10, 98, 13, 10]⟩]
theorem badA_at : ∀ k : Nat, k < 10 → badA[k]? = some (.string (strB (linesE (bads k)))) ∧ (linesE (bads k)).length ≤ 60
  | 0, _ => ⟨rfl, by decide⟩
  | 1, _ => ⟨rfl, by decide⟩
  | 2, _ => ⟨rfl, by decide⟩
  | 3, _ => ⟨rfl, by decide⟩
  | 4, _ => ⟨rfl, by decide⟩
  | 5, _ => ⟨rfl, by decide⟩
  | 6, _ => ⟨rfl, by decide⟩
  | 7, _ => ⟨rfl, by decide⟩
  | 8, _ => ⟨rfl, by decide⟩
  | 9, _ => ⟨rfl, by decide⟩
  | k + 10, h => by omega
theorem ln_bare (l : List UInt8) (h1 : Cl l) (h2 : l ≠ []) (h3 : crS.isPrefixOf (l ++ [13]) = false) (h4 : cutL l = none) : LnOk l := ⟨h1, h2, h3, h4⟩
theorem badL_of {bs : List (List UInt8)} (h : ∀ x ∈ bs, LnOk x) (h2 : (∃ z, fieldsH bs = .bad z) ∨ ∃ l z, fieldsH bs = .ok l ∧ frameH false l false none = .bad z) : BadL bs := ⟨h, h2⟩
theorem bads_ln : ∀ k : Nat, k < 10 → ∀ x ∈ bads k, LnOk x := by
  intro k hk x hx
  by_cases h8 : k = 8
  · subst h8
    have hx : x = [66, 97, 114, 101, 58, 32, 97, 13, 98] := by simpa [bads] using hx
    subst hx
    exact ⟨fun r => by simp [cutL], by decide, by decide, by decide⟩
  · have h : ∀ k, k < 10 → k ≠ 8 → ∀ x ∈ bads k, (∀ b ∈ x, b ≠ 13) ∧ x ≠ [] := by decide
    obtain ⟨h1, h2⟩ := h k hk h8 x hx
    exact ln_of h1 h2
def exB (x : Ex (List Fd)) : Bool := match x with
  | .bad _ => true
  | .ok l => match frameH false l false none with
    | .bad _ => true
    | .ok _ => false
theorem exB_of {bs : List (List UInt8)} (h : exB (fieldsH bs) = true) : (∃ z, fieldsH bs = .bad z) ∨ ∃ l z, fieldsH bs = .ok l ∧ frameH false l false none = .bad z := by
  unfold exB at h
  cases hf : fieldsH bs with
  | bad z => exact .inl ⟨z, rfl⟩
  | ok l =>
    rw [hf] at h
    simp only at h
    cases hr : frameH false l false none with
    | bad z => exact .inr ⟨l, z, rfl, hr⟩
    | ok v => rw [hr] at h; cases h
theorem bads_ex : ∀ k : Nat, k < 10 → exB (fieldsH (bads k)) = true := by decide +kernel
theorem bads_bad (k : Nat) (h : k < 10) : BadL (bads k) := ⟨bads_ln k h, exB_of (bads_ex k h)⟩
def strT (fs : List Fd) (k : Nat) (rest : List UInt8) : List UInt8 := linesE (okL :: (fs.map fline ++ bads k)) ++ 13 :: 10 :: rest
theorem strT_str (fs : List Fd) (k : Nat) (rest : List UInt8) : strB [72, 84, 84, 80, 47, 49, 46, 49, 32, 50, 48, 48, 32, 79, 75, 13, 10] ++ strB (linesE (fs.map fline)) ++ strB (linesE (bads k)) ++ strB [13, 10] ++ strB rest = strB (strT fs k rest) := by
  simp only [strB_append]
  congr 1
  simp [strT, linesE, linesE_app, okL]
theorem stj1 {ln bn kn : Nat} (h1 : ln ≤ 1048576) (h2 : bn ≤ 1048576) (h3 : kn ≤ 60) : ¬ 9223372036854775807 < 17 + ln ∧ ¬ 9223372036854775807 < 17 + ln + kn ∧ ¬ 9223372036854775807 < 17 + ln + kn + 2 ∧ ¬ 9223372036854775807 < 17 + ln + kn + 2 + bn := by omega
set_option maxRecDepth 100000 in
set_option maxHeartbeats 8000000 in
theorem strict_any (w : World) (ht : Tab w) (which : Int) (_ : -9223372036854775808 ≤ which) (_ : which ≤ 9223372036854775807) {fa : Option Addr} {fn fc : Nat} {fs : List Fd} (hf : SlS w fa fn fc fs) (hfz : fdz fs ≤ 1048576) {ba : Option Addr} {bn bc : Nat} {b : List UInt8} (hb : Sl w ba bn bc (bv b)) (hbz : bn ≤ 1048576) :
    Calls Tryz.prog 6 #[.int .i64 which, .slice fa fn fc, .slice ba bn bc] w (BoolOf w true) := by
  obtain ⟨w1, hw1⟩ : ∃ w1, w1 = w.alloc (.cells badA 9) := ⟨_, rfl⟩
  obtain ⟨g1, hg1⟩ : ∃ g1, g1 = w.heap.size := ⟨_, rfl⟩
  have hh1 : Has w1 g1 9 badA.toList := by rw [hw1, hg1]; exact Has.new w 9 badA
  have hb1 : Below w.heap.size w w1 := by rw [hw1]; exact (Below.refl _ w).alloc (Nat.le_refl _) _
  have HB1 := Lib.hid hb1
  have HB := Lib.hid (hb.below hb1)
  have HF := Lib.hid (hf.below hb1)
  have HH1 := Lib.hid hh1
  have HBn : Hid (b.length = bn ∧ bn ≤ 1048576) := Lib.hid ⟨hb.byte, hbz⟩
  have HFz := Lib.hid hfz
  have HT := Lib.hid ht
  have HAw : Hid (∀ w', Below w.heap.size w w' → Calls Tryz.prog 7 #[] w' (BoolOf w true)) := Lib.hid (fun w' (hb : Below w.heap.size w w') => (awake20_any w' (HT.out.below hb)).mono (by
    rintro e w7 ⟨h1, h2⟩
    exact ⟨h1, hb.trans (h2.mono hb.size)⟩))
  have HGd := Lib.hid (good_any w1 HF.out hfz)
  clear ht hf hfz hb hbz hh1 hb1
  obtain ⟨G, hG⟩ : ∃ G, G = fs.all gdB := ⟨_, rfl⟩
  rw [← hG] at HGd
  have HG := Lib.hid hG
  clear hG
  unfold badA at hw1
  by_cases h0 : which < 0
  · have y1 : (which < 0) = True := eq_true h0
    clear h0 HGd
    go_enter Tryz.func6, Tryz.ntmps6
    go_upto_region 2 with fail
    rw [← hw1, ← hg1]
    clear hw1 hg1
    go_wp2_with fail
    refine (HAw.out w1 HB1.out).mono ?_
    rintro e w7 ⟨rfl, hb7⟩
    have HB7 := Lib.hid hb7
    clear hb7
    go_wp2
    go_ret
    exact ⟨ret_bool (by simp), HB7.out⟩
  obtain ⟨k, rfl⟩ : ∃ k : Nat, which = (k : Int) := ⟨which.toNat, by omega⟩
  have y1 : ((k : Int) < 0) = False := eq_false h0
  clear h0
  by_cases h10 : 10 ≤ k
  · have y2 : ((10 : Int) ≤ (k : Int)) = True := eq_true (by omega)
    clear h10 HGd
    go_enter Tryz.func6, Tryz.ntmps6
    go_upto_region 2 with fail
    rw [← hw1, ← hg1]
    clear hw1 hg1
    go_wp2_with fail
    refine (HAw.out w1 HB1.out).mono ?_
    rintro e w7 ⟨rfl, hb7⟩
    have HB7 := Lib.hid hb7
    clear hb7
    go_wp2
    go_ret
    exact ⟨ret_bool (by simp), HB7.out⟩
  have y2 : ((10 : Int) ≤ (k : Int)) = False := eq_false (by omega)
  have y3 : ((k : Int) < 10) = True := eq_true (by omega)
  have y4 : ((0 : Int) ≤ (k : Int)) = True := eq_true (by omega)
  have HK : Hid (k < 10) := Lib.hid (by omega)
  clear h10
  by_cases hgd : G = true
  rotate_left
  · obtain rfl : G = false := by simpa using hgd
    clear hgd
    go_enter Tryz.func6, Tryz.ntmps6
    go_upto_region 2 with fail
    rw [← hw1, ← hg1]
    clear hw1 hg1
    go_wp2_with fail
    refine HGd.out.mono ?_
    rintro e w2 ⟨rfl, hb2⟩
    have HB2 : Hid (Below w.heap.size w w2) := Lib.hid (HB1.out.trans (hb2.mono HB1.out.size))
    clear hb2
    go_wp2_with fail
    refine (HAw.out w2 HB2.out).mono ?_
    rintro e w7 ⟨rfl, hb7⟩
    have HB7 := Lib.hid hb7
    clear hb7
    go_wp2
    go_ret
    exact ⟨ret_bool (by simp), HB7.out⟩
  · subst hgd
    obtain ⟨T, hT⟩ : ∃ T, T = strT fs k b := ⟨_, rfl⟩
    have HTe := Lib.hid hT
    clear hT
    go_enter Tryz.func6, Tryz.ntmps6
    go_upto_region 2 with fail
    rw [← hw1, ← hg1]
    clear hw1 hg1
    go_wp2_with fail
    refine HGd.out.mono ?_
    rintro e w2 ⟨rfl, hb2⟩
    have HB2 : Hid (Below w.heap.size w w2) := Lib.hid (HB1.out.trans (hb2.mono HB1.out.size))
    have hbd : Below w1.heap.size w1 w2.drew := hb2.trans ⟨rfl, rfl, rfl, Nat.le_refl _, fun _ _ => rfl⟩
    obtain ⟨bk, hbk⟩ : ∃ bk, bk = linesE (bads k) := ⟨_, rfl⟩
    obtain ⟨kn, hkn⟩ : ∃ kn, kn = bk.length := ⟨_, rfl⟩
    obtain ⟨c1, c2⟩ := badA_at k HK.out
    rw [← hbk] at c1 c2
    have HS2 : Hid (w2.drew.cell? ⟨g1, k, none⟩ = some (.string (strB bk)) ∧ Sl w2.drew ba bn bc (bv b)) := Lib.hid ⟨(HH1.out.kept (Kept.of_below (X := none') hbd) (fun h => h)).cell k (by rw [Array.getElem?_toList]; exact c1), HB.out.below hbd⟩
    have HBd : Hid (Below w.heap.size w w2.drew) := Lib.hid (HB1.out.trans (hbd.mono HB1.out.size))
    have HLn := Lib.hid (lines_any w2.drew (HF.out.below hbd) HFz.out)
    obtain ⟨L, hL⟩ : ∃ L, L = linesE (fs.map fline) := ⟨_, rfl⟩
    rw [← hL] at HLn
    obtain ⟨ln, hln⟩ : ∃ ln, ln = L.length := ⟨_, rfl⟩
    have s1 : (strB L).size = ln := by rw [strB_size, hln]
    have s2 : (strB bk).size = kn := by rw [strB_size, hkn]
    have s3 : (strB b).size = bn := by rw [strB_size]; exact HBn.out.1
    have hl1 : ln ≤ 1048576 := by rw [hln, hL, lnE_len]; exact HFz.out
    have hk1 : kn ≤ 60 := by rw [hkn]; exact c2
    obtain ⟨u1, u2, u3, u4⟩ := stj1 hl1 HBn.out.2 hk1
    have HTs : Hid (strB [72, 84, 84, 80, 47, 49, 46, 49, 32, 50, 48, 48, 32, 79, 75, 13, 10] ++ strB L ++ strB bk ++ strB [13, 10] ++ strB b = strB T) := Lib.hid (by rw [hL, hbk, HTe.out]; exact strT_str fs k b)
    have HTl : Hid (T.length ≤ 2097300) := Lib.hid (by
      have h := congrArg ByteArray.size HTs.out
      simp only [ByteArray.size_append, s1, s2, s3] at h
      rw [strB_size, strB_size, strB_size] at h
      simp only [List.length_cons, List.length_nil] at h
      have := HBn.out.2
      omega)
    clear hb2 hbd hbk hkn c1 c2 hL hln hl1 hk1 HGd
    go_upto_region 4 with fail
    refine Mx.region [] (fun w' => w'.cell? ⟨g1, k, none⟩ = some (.string (strB bk)) ∧ Sl w' ba bn bc (bv b)) (by kernel_rfl) (by kernel_rfl) HS2.out ?_
    repeat ((first | (refine Mx.skips (by kernel_rfl) ?_; go_big_quiet_skip) | (refine Mx.quietly rfl ?_; go_big_quiet_want; go_big_quiet_op; go_big_quiet_on)); refine Mx.done ?_)
    refine Mx.loudly (by kernel_rfl) (by kernel_rfl) ?_
    go_wp2_with fail
    refine HLn.out.mono ?_
    rintro e w3 ⟨rfl, hb3⟩
    have HB3 : Hid (Below w.heap.size w w3) := Lib.hid (HBd.out.trans (hb3.mono HBd.out.size))
    have HS3 : Hid (w3.cell? ⟨g1, k, none⟩ = some (.string (strB bk)) ∧ Sl w3 ba bn bc (bv b)) := Lib.hid ⟨by rw [hb3.cell (World.block_lt_of_cell? _ _ HS2.out.1)]; exact HS2.out.1, HS2.out.2.below hb3⟩
    clear hb3
    go_wp2_with fail
    refine ⟨HS3.out, ?_⟩
    repeat ((first | (refine Mx.skips (by kernel_rfl) ?_; go_big_quiet_skip) | (refine Mx.quietly rfl ?_; go_big_quiet_want; go_big_quiet_op; go_big_quiet_on)); refine Mx.done ?_)
    refine Mx.cell ⟨g1, k, none⟩ (.string (strB bk)) (by kernel_rfl) (by kernel_rfl) (by kernel_rfl) Tryz.isAgg9 (fun w' h => h.1) ?_
    go_big_quiet_want; go_big_quiet_op; go_big_quiet_on; refine Mx.done ?_
    repeat ((first | (refine Mx.skips (by kernel_rfl) ?_; go_big_quiet_skip) | (refine Mx.quietly rfl ?_; go_big_quiet_want; go_big_quiet_op; go_big_quiet_on)); refine Mx.done ?_)
    refine Mx.conv (.string (strB b)) (by kernel_rfl) (by kernel_rfl) (by kernel_rfl) (fun w' h => run_str (P := Tryz.prog) h.2 23 5 9 Tryz.underlying23 Tryz.underlying5 Tryz.underlying9) ?_
    go_big_quiet_want; go_big_quiet_op; go_big_quiet_on; refine Mx.done ?_
    repeat ((first | (refine Mx.skips (by kernel_rfl) ?_; go_big_quiet_skip) | (refine Mx.quietly rfl ?_; go_big_quiet_want; go_big_quiet_op; go_big_quiet_on)); refine Mx.done ?_)
    refine Mx.nil ?_
    have hx : (⟨#[72, 84, 84, 80, 47, 49, 46, 49, 32, 50, 48, 48, 32, 79, 75, 13, 10]⟩ : ByteArray) ++ strB L ++ strB bk ++ ⟨#[13, 10]⟩ ++ strB b = strB T := HTs.out
    rw [hx]
    clear hx s1 s2 s3 u1 u2 u3 u4 y1 y2 y3 y4
    obtain ⟨m, hm⟩ : ∃ m, m = T.length := ⟨_, rfl⟩
    have s1 : (strB T).size = m := by rw [strB_size, hm]
    have HM := Lib.hid hm
    by_cases hbig : 524288 < m
    · have y5 : ((524288 : Int) < (m : Int)) = True := eq_true (by omega)
      clear hbig hm
      go_wp2_with fail
      refine (HAw.out w3 HB3.out).mono ?_
      rintro e w7 ⟨rfl, hb7⟩
      have HB7 := Lib.hid hb7
      clear hb7
      go_wp2
      go_ret
      exact ⟨ret_bool (by simp), HB7.out⟩
    · have y5 : ((524288 : Int) < (m : Int)) = False := eq_false (by omega)
      obtain ⟨h1, h2⟩ := strict_plain (fs := fs) (bs := bads k) (rest := b) HG.out.symm (bads_bad k HK.out) (by
        show (strT fs k b).length ≤ 1048576
        rw [← HTe.out, ← hm]; omega) true
      have hte : strT fs k b = T := HTe.out.symm
      rw [show linesE (okL :: (fs.map fline ++ bads k)) ++ 13 :: 10 :: b = T from hte] at h1 h2
      have HP := Lib.hid (And.intro h1 h2)
      obtain ⟨c4, w4, hcv, hbt, ⟨hc1, hc2⟩, hb4⟩ := conv_bts2 w3 T (by have := HTl.out; unfold maxLen; omega)
      obtain ⟨g4, hg4⟩ : ∃ g4, g4 = w3.heap.size := ⟨_, rfl⟩
      rw [← hg4] at hcv hbt
      rw [← hm] at hcv
      have hsl := bts_sl hbt c4 hc1 hc2
      rw [← hm] at hsl
      have HB4 : Hid (Below w.heap.size w w4) := Lib.hid (HB3.out.trans (hb4.mono HB3.out.size))
      have HA1 := Lib.hid (all_any w4 (HT.out.below HB4.out) false hsl (by omega) (cuts := []) (ca := none) (cn := 0) (cc := 0) (Sl.empty w4) true)
      clear hbt hc1 hc2 hb4 hg4 hsl h1 h2 hte hbig hm
      go_wp2_with fail
      refine HA1.out.mono ?_
      rintro e w5 ⟨x, rfl, hb5, hok, hft, hdn, hlf⟩
      rw [HP.out.2] at hok
      have hne : x.ft ≠ 0 := by rw [hft]; exact HP.out.1
      obtain ⟨f1, f2⟩ := field_bad_ne hne
      obtain ⟨w6, hw6⟩ : ∃ w6, w6 = w5.alloc (.cells #[.int .i64 x.k, .int .i64 x.st, .slice x.fa x.fn x.fc, .int .i64 x.fr, .slice none 0 0, .slice x.ba x.bn x.bc, .slice x.ta x.tn x.tc, .int .i64 x.ft, .bool x.dn, .int .i64 x.lf] 35) := ⟨_, rfl⟩
      obtain ⟨g6, hg6⟩ : ∃ g6, g6 = w5.heap.size := ⟨_, rfl⟩
      have hb6 : Below w5.heap.size w5 w6 := by rw [hw6]; exact (Below.refl _ w5).alloc (Nat.le_refl _) _
      have hh6 : Has w6 g6 35 x.cs := by rw [hw6, hg6]; exact Has.new w5 35 _
      have HB6 : Hid (Below w.heap.size w w6) := Lib.hid ((HB4.out.trans (hb5.mono HB4.out.size)).trans (hb6.mono (HB4.out.trans (hb5.mono HB4.out.size)).size))
      have p7 : w6.cell? ⟨g6, 7, none⟩ = some (.int .i64 x.ft) := hh6.cell 7 rfl
      have e0 : x.k = 0 := hok.hd.1
      have e1 : x.bn = 0 := hok.bn
      have p0 : w6.cell? ⟨g6, 0, none⟩ = some (.int .i64 0) := by rw [← e0]; exact hh6.cell 0 rfl
      have p5 : w6.cell? ⟨g6, 5, none⟩ = some (.slice x.ba 0 x.bc) := by rw [← e1]; exact hh6.cell 5 rfl
      have HA6 := Lib.hid (HAw.out w6 HB6.out)
      clear hb5 hok hft hdn hlf hb6 HA1 hcv hh6 hne e0 e1
      simp only [Xr.cs]
      go_upto_region 8 with fail
      rw [← hw6, ← hg6]
      clear hw6 hg6
      go_wp2_with fail
      refine HA6.out.mono ?_
      rintro e w7 ⟨rfl, hb7⟩
      have HB7 := Lib.hid hb7
      clear hb7
      go_wp2
      go_ret
      exact ⟨ret_bool (by simp), HB7.out⟩
end Go.Proofs.YtfffefhchjnfjaaGreatDoor

/- NormChunks answers true. Premises: the tables, the sizes. -/
import Derived.Test.YtohinaohcndndaaDoorNmAwk
import Derived.Test.YtohinaohcndndaaDoorFldOpen
import Derived.Test.YtohinaohcndndaaDoorCopy
import Derived.Test.YtohinaohcndndaaDoorMixS
namespace Go.Proofs.YtohinaohcndndaaDoor
open Go.RowKit

theorem lines_fdz : ∀ l : List Fd, (linesL l).length ≤ fdz l + l.length
  | [] => Nat.le_refl _
  | f :: r => by
    have h := lines_fdz r
    have h2 := line_len f
    have e : linesL (f :: r) = lineL f ++ linesL r := by simp [linesL]
    rw [e, List.length_append, h2]
    simp only [fdz, List.length_cons]
    omega
theorem last_fdz {l : List Fd} (h : fdz l ≤ 1048576) : (lastL l).length ≤ 3000000 := by
  have e : (lastL l).length = 3 + ((linesL l).length + 2) := by simp [lastL]; omega
  have h1 := lines_fdz l
  have h2 := fdz_len l
  omega
theorem sls_own {w : World} {B : Nat} {a : Option Addr} {c n : Nat} {l : List Fd} (h : Sps w B a c l) (hn : l.length = n) : SlS w a n c l := by subst hn; exact h.sl
set_option maxRecDepth 100000 in
set_option maxHeartbeats 4000000 in
theorem chunks_any (w : World) (ht : Tabs w) {a : Option Addr} {n c : Nat} {d : List UInt8} (h1 : Sl w a n c (bv d)) (hm : n ≤ 1048576) {a2 : Option Addr} {n2 c2 : Nat} {l : List Fd} (h2 : SlS w a2 n2 c2 l) (hz : fdz l ≤ 1048576) :
    Calls Tryd.prog 5 #[.slice a n c, .slice a2 n2 c2] w (BoolOf w true) := by
  have HT := Lib.hid ht
  have HD := Lib.hid h1
  have HF := Lib.hid h2
  have HCo := Lib.hid (copy_any w h1 (by omega))
  have HNd := Lib.hid h1.byte
  have HNl := Lib.hid h2.len
  have HL3 := Lib.hid (last_fdz hz)
  have HM2 : Hid (n2 * 32 ≤ 140737488351232) := Lib.hid (by have := fdz_len l; have := h2.len; omega)
  obtain ⟨R, hR⟩ : ∃ R, R = chunkL d := ⟨_, rfl⟩
  obtain ⟨Z, hZ⟩ : ∃ Z, Z = lastL l := ⟨_, rfl⟩
  rw [← hZ] at HL3
  have HR := Lib.hid hR
  have HZ := Lib.hid hZ
  clear ht h1 hm h2 hz hR hZ
  go_enter Tryd.func5, Tryd.ntmps5
  go_wp2_with fail
  refine HCo.out.mono ?_
  rintro e w3 ⟨a3, c3, he, ho3, hb3⟩
  obtain rfl : e = .returned (.slice a3 n c3) := by rw [he, HNd.out]
  have hs3 := own_sl ho3
  rw [HNd.out] at hs3
  have HCk := Lib.hid (chunk_any w3 hs3 (HT.out.below hb3).tz)
  rw [← HR.out] at HCk
  have HB3 := Lib.hid hb3
  have HBs3 := Lib.hid hb3.size
  clear ho3 hb3 hs3 he
  obtain ⟨r1, r2⟩ := R
  go_wp2_with fail
  refine HCk.out.mono ?_
  rintro e w4 ⟨a4, c4, he, ho4, hb4⟩
  obtain ⟨n4, hn4⟩ : ∃ n4, n4 = r1.length := ⟨_, rfl⟩
  have HN4 := Lib.hid hn4
  obtain rfl : e = .returned (.tuple #[.slice a4 n4 c4, .int .i64 r2]) := by rw [he, hn4]
  have hs4 := own_sl ho4
  simp only [] at hs4
  rw [← hn4] at hs4
  have HS4 := Lib.hid hs4
  have HB4 : Hid (Below w.heap.size w w4) := Lib.hid (HB3.out.trans (hb4.mono HBs3.out))
  have HBs4 := Lib.hid HB4.out.size
  have HRc := Lib.hid (rchunk_any w4 (HD.out.below HB4.out))
  rw [← HR.out] at HRc
  clear ho4 hb4 hs4 he hn4
  go_wp2_with fail
  refine HRc.out.mono ?_
  rintro e w5 ⟨rfl, hb5⟩
  have HS5 := Lib.hid (HS4.out.below hb5)
  have HB5 : Hid (Below w.heap.size w w5) := Lib.hid (HB4.out.trans (hb5.mono HBs4.out))
  have HBs5 := Lib.hid HB5.out.size
  clear hb5
  go_upto_region 3 with fail
  refine MixS.region [] 15 [16] (fun w' => Sl w' a4 n4 c4 (bv r1)) (by kernel_rfl) (by kernel_rfl) (by kernel_rfl) (HS5.out.below (below_drewN (Below.refl _ _) 1)) ?_
  repeat ((first | (refine MixS.skips (by kernel_rfl) ?_; go_big_quiet_skip) | (refine MixS.quietly rfl ?_; go_big_quiet_want; go_big_quiet_op; go_big_quiet_on)); refine Mx.done ?_)
  refine MixS.loudlyTo (by kernel_rfl) (by kernel_rfl) ?_
  have hbd : Below w5.heap.size w5 w5.drew := below_drewN (Below.refl _ _) 1
  have HAw := Lib.hid (awake19_any w5.drew (HT.out.below (HB5.out.trans (hbd.mono HBs5.out))))
  have HBd := Lib.hid hbd
  clear hbd
  go_wp2_with fail
  refine HAw.out.mono ?_
  rintro e w6 ⟨rfl, hb6⟩
  have hb56 := HBd.out.trans hb6
  have HS6 := Lib.hid (HS5.out.below hb56)
  have HB6 : Hid (Below w.heap.size w w6) := Lib.hid (HB5.out.trans (hb56.mono HBs5.out))
  have HBs6 := Lib.hid HB6.out.size
  clear hb6 hb56
  go_wp2_with fail
  refine ⟨_, MixS.same _ _ _, HS6.out, ?_⟩
  repeat ((first | (refine MixS.skips (by kernel_rfl) ?_; go_big_quiet_skip) | (refine MixS.quietly rfl ?_; go_big_quiet_want; go_big_quiet_op; go_big_quiet_on)); refine Mx.done ?_)
  refine MixS.conv (.string (strB r1)) (by kernel_rfl) (by kernel_rfl) (by kernel_rfl) (fun w' h => run_str (P := Tryd.prog) h 28 5 9 Tryd.underlying28 Tryd.underlying5 Tryd.underlying9) ?_
  go_big_quiet_want; go_big_quiet_op; go_big_quiet_on; refine Mx.done ?_
  repeat ((first | (refine MixS.skips (by kernel_rfl) ?_; go_big_quiet_skip) | (refine MixS.quietly rfl ?_; go_big_quiet_want; go_big_quiet_op; go_big_quiet_on)); refine Mx.done ?_)
  refine MixS.loudlyTo (by kernel_rfl) (by kernel_rfl) ?_
  have HCp := Lib.hid (copys_any w6 (HF.out.below HB6.out) HM2.out)
  go_wp2_with fail
  refine HCp.out.mono ?_
  rintro e w7 ⟨a7, c7, he, ho7, hb7⟩
  obtain rfl : e = .returned (.slice a7 n2 c7) := by rw [he, HNl.out]
  have HS7 := Lib.hid (HS6.out.below hb7)
  have HF7 : Hid (SlS w7 a7 n2 c7 l) := Lib.hid (sls_own ho7 HNl.out)
  have HB7 : Hid (Below w.heap.size w w7) := Lib.hid (HB6.out.trans (hb7.mono HBs6.out))
  have HBs7 := Lib.hid HB7.out.size
  clear hb7 ho7 he
  go_wp2_with fail
  refine ⟨_, MixS.same _ _ _, HS7.out, ?_⟩
  repeat ((first | (refine MixS.skips (by kernel_rfl) ?_; go_big_quiet_skip) | (refine MixS.quietly rfl ?_; go_big_quiet_want; go_big_quiet_op; go_big_quiet_on)); refine Mx.done ?_)
  refine MixS.loudlyTo (by kernel_rfl) (by kernel_rfl) ?_
  have HLs := Lib.hid (last_any w7 HF7.out (by rw [← HZ.out]; exact Nat.le_trans HL3.out (by decide)))
  rw [← HZ.out] at HLs
  obtain ⟨n8, hn8⟩ : ∃ n8, n8 = Z.length := ⟨_, rfl⟩
  have HN8 := Lib.hid hn8
  clear hn8
  go_wp2_with fail
  refine HLs.out.mono ?_
  rintro e w8 ⟨a8, c8, he, ho8, hb8⟩
  obtain rfl : e = .returned (.slice a8 n8 c8) := by rw [he, HN8.out]
  have hs8 := own_sl ho8
  rw [← HN8.out] at hs8
  have HS8 := Lib.hid (HS7.out.below hb8)
  have HG8 := Lib.hid hs8
  have HB8 : Hid (Below w.heap.size w w8) := Lib.hid (HB7.out.trans (hb8.mono HBs7.out))
  have HBs8 := Lib.hid HB8.out.size
  clear hb8 ho8 he hs8
  go_wp2_with fail
  refine ⟨(fun w' => Sl w' a4 n4 c4 (bv r1) ∧ Sl w' a8 n8 c8 (bv Z)), MixS.more _ (fun w' h => h.1), ⟨HS8.out, HG8.out⟩, ?_⟩
  repeat ((first | (refine MixS.skips (by kernel_rfl) ?_; go_big_quiet_skip) | (refine MixS.quietly rfl ?_; go_big_quiet_want; go_big_quiet_op; go_big_quiet_on)); refine Mx.done ?_)
  refine MixS.conv (.string (strB Z)) (by kernel_rfl) (by kernel_rfl) (by kernel_rfl) (fun w' h => run_str (P := Tryd.prog) (show Sl _ a8 n8 c8 (bv Z) from h.2) 28 5 9 Tryd.underlying28 Tryd.underlying5 Tryd.underlying9) ?_
  go_big_quiet_want; go_big_quiet_op; go_big_quiet_on; refine Mx.done ?_
  repeat ((first | (refine MixS.skips (by kernel_rfl) ?_; go_big_quiet_skip) | (refine MixS.quietly rfl ?_; go_big_quiet_want; go_big_quiet_op; go_big_quiet_on)); refine Mx.done ?_)
  refine MixS.loudlyTo (by kernel_rfl) (by kernel_rfl) ?_
  have HRl := Lib.hid (rlast_any w8 (HF.out.below HB8.out) (by rw [← HZ.out]; exact Nat.le_trans HL3.out (by decide)))
  rw [← HZ.out] at HRl
  go_wp2_with fail
  refine HRl.out.mono ?_
  rintro e w9 ⟨rfl, hb9⟩
  have HS9 := Lib.hid (HS8.out.below hb9)
  have HG9 := Lib.hid (HG8.out.below hb9)
  have HB9 : Hid (Below w.heap.size w w9) := Lib.hid (HB8.out.trans (hb9.mono HBs8.out))
  clear hb9
  go_wp2_with fail
  refine ⟨_, MixS.same _ _ _, ⟨HS9.out, HG9.out⟩, ?_⟩
  repeat ((first | (refine MixS.skips (by kernel_rfl) ?_; go_big_quiet_skip) | (refine MixS.quietly rfl ?_; go_big_quiet_want; go_big_quiet_op; go_big_quiet_on)); refine Mx.done ?_)
  refine MixS.nil ?_
  go_wp2
  go_ret
  exact ⟨rfl, HB9.out⟩
end Go.Proofs.YtohinaohcndndaaDoor

/- HoneBack answers true. Premises: the library's variables, the sizes. -/
import Derived.Test.YtfffefhchjnfjaaGreatDoorHoGd
import Derived.Test.YtfffefhchjnfjaaGreatDoorHoRep
import Derived.Test.YtfffefhchjnfjaaGreatDoorHoDig
import Derived.Test.YtfffefhchjnfjaaGreatDoorNmRef
import Derived.Deep.CutBlock
namespace Go.Proofs.YtfffefhchjnfjaaGreatDoor
open Go.RowKit

/-- a written response's cells -/
def rpC (st fr : Int) (fa : Option Addr) (fn fc : Nat) (ba : Option Addr) (bn bc : Nat) (ca : Option Addr) (cn cc : Nat) (ta : Option Addr) (tn tc : Nat) (ha : Option Addr) (hn hc : Nat) : List Value := [.int .i64 st, .slice fa fn fc, .slice ba bn bc, .int .i64 fr, .slice ca cn cc, .slice ta tn tc, .slice ha hn hc]
theorem below_dr {B : Nat} (w : World) : Below B w w.drew := ⟨rfl, rfl, rfl, Nat.le_refl _, fun _ _ => rfl⟩
theorem sls_take {w : World} {a : Option Addr} {m c : Nat} {l e : List Fd} (h : SlS w a m c (l ++ e)) : SlS w a l.length c l := by
  have hl := h.len
  rw [List.length_append] at hl
  refine ⟨rfl, by have := h.cap; omega, h.max, fun h0 => ?_⟩
  obtain ⟨b, off, ha, hc⟩ := h.cells (by omega)
  refine ⟨b, off, ha, fun i hi => ?_⟩
  have := hc i (by rw [List.length_append]; omega)
  rw [List.getElem_append_left hi] at this
  exact this
theorem bk_hd (s : Nat) (fs : List Fd) : strB [72, 84, 84, 80, 47, 49, 46, 49, 32] ++ strB (Lib.decDigits s) ++ strB [32, 13, 10] ++ strB (linesE (fs.map fline)) = strB (linesE (stLn s :: fs.map fline)) := by
  simp only [strB_append]
  congr 1
  simp [linesE, stLn, stP]
theorem bk_t1 (s : Nat) (fs : List Fd) (b h : List UInt8) : strB (linesE (stLn s :: fs.map fline)) ++ (strB [67, 111, 110, 116, 101, 110, 116, 45, 76, 101, 110, 103, 116, 104, 58, 32] ++ strB (Lib.decDigits b.length) ++ strB [13, 10, 13, 10] ++ strB b) ++ strB h = strB (bkT s fs [lenLn b.length] (b ++ h)) := by
  simp only [strB_append]
  congr 1
  simp [bkT, linesE, linesE_app, lenLn, lenP]
theorem bk_t3 (s : Nat) (fs : List Fd) (b : List UInt8) : strB (linesE (stLn s :: fs.map fline)) ++ (strB [13, 10] ++ strB b) = strB (bkT s fs [] b) := by
  simp only [strB_append]
  congr 1
  simp [bkT, linesE]
theorem bk_t2 (s : Nat) (fs ts : List Fd) (ds : List (List UInt8)) (h : List UInt8) : strB (linesE (stLn s :: fs.map fline)) ++ strB [84, 114, 97, 110, 115, 102, 101, 114, 45, 69, 110, 99, 111, 100, 105, 110, 103, 58, 32, 67, 104, 117, 110, 107, 101, 100, 13, 10, 13, 10] ++ strB (ds.flatMap chkT) ++ strB (lastL ts) ++ strB h = strB (bkT s fs [chkLn2] (ds.flatMap chkT ++ (lastL ts ++ h))) := by
  simp only [strB_append]
  congr 1
  simp [bkT, linesE, linesE_app, chkLn2]
theorem hd_len {s : Nat} {fs : List Fd} (h1 : s < 600) (h2 : fdz fs ≤ 1048576) : (linesE (stLn s :: fs.map fline)).length ≤ 1048600 := by
  have h3 := dec_lt 2 s (by omega)
  rw [linesE, List.length_append, List.length_cons, List.length_cons, lnE_len]
  simp only [stLn, stP, List.length_append, List.length_cons, List.length_nil]
  omega
theorem bqkj1 {s : Nat} (h1 : 200 ≤ s) (h2 : s < 600) (h4 : s ≠ 204) (h5 : s ≠ 304) : ((s : Int) < 200) = False ∧ ((599 : Int) < (s : Int)) = False ∧ ((s : Int) == 204) = false ∧ ((s : Int) == 304) = false ∧ ¬ (s : Int) = 204 ∧ ¬ (s : Int) = 304 := by
  refine ⟨eq_false (by omega), eq_false (by omega), ?_, ?_, by omega, by omega⟩ <;> (rw [beq_eq_false_iff_ne]; omega)
theorem bqkj2 {dn ln : Nat} (h : dn ≤ 5) (h2 : ln ≤ 1048576) : ¬ 9223372036854775807 < 9 + dn ∧ ¬ 9223372036854775807 < 9 + dn + 3 ∧ ¬ 9223372036854775807 < 9 + dn + 3 + ln := by omega
theorem bqkj3 {x dn bn : Nat} (h : dn ≤ 5) (h2 : bn ≤ 16384) (h3 : x ≤ 1048600) : ¬ 9223372036854775807 < 16 + dn ∧ ¬ 9223372036854775807 < 16 + dn + 4 ∧ ¬ 9223372036854775807 < 16 + dn + 4 + bn ∧ ¬ 9223372036854775807 < x + (16 + dn + 4 + bn) := by omega
theorem bqkj4 {x y : Nat} (h1 : x ≤ 8388608) (h2 : y ≤ 8388608) : ¬ 9223372036854775807 < x + y := by omega
theorem bqkj5 {x bn : Nat} (h1 : x ≤ 1048600) (h2 : bn ≤ 16384) : ¬ 9223372036854775807 < 2 + bn ∧ ¬ 9223372036854775807 < x + (2 + bn) := by omega
theorem chunkL_T {d : List UInt8} (h1 : 1 ≤ d.length) (h2 : d.length ≤ 16384) : chunkL d = (chkT d, 0) ∧ (chkT d).length ≤ 9 * d.length := by
  have h3 := (hexL_props h2).2.1
  unfold chunkL
  rw [if_neg (by omega), if_neg (by omega)]
  refine ⟨by simp [chkT], ?_⟩
  simp only [chkT, List.length_append, List.length_cons, List.length_nil]
  omega
/-- chunks so far: p bytes of the body -/
structure ChSt (b T : List UInt8) (ds : List (List UInt8)) (p : Nat) : Prop where
  le : p ≤ b.length
  txt : T = ds.flatMap chkT
  all : ds.flatten = b.take p
  siz : ∀ d ∈ ds, 1 ≤ d.length ∧ d.length ≤ 16384
  len : T.length ≤ 9 * p
theorem ChSt.start (b : List UInt8) : ChSt b [] [] 0 := ⟨Nat.zero_le _, rfl, rfl, fun d h => by simp at h, Nat.zero_le _⟩
theorem ChSt.on {b T : List UInt8} {ds : List (List UInt8)} {p : Nat} (h : ChSt b T ds p) {k : Nat} (h1 : 1 ≤ k) (hk : k ≤ b.length - p) (hb : b.length ≤ 16384) : ChSt b (T ++ chkT ((b.drop p).take k)) (ds ++ [(b.drop p).take k]) (p + k) := by
  have hl : ((b.drop p).take k).length = k := by rw [List.length_take, List.length_drop]; omega
  have hc := (chunkL_T (d := (b.drop p).take k) (by omega) (by omega)).2
  refine ⟨by omega, ?_, ?_, ?_, ?_⟩
  · rw [h.txt]; simp
  · rw [List.flatten_append, h.all, List.take_add]; simp
  · intro d hd
    rcases List.mem_append.1 hd with hd | hd
    · exact h.siz d hd
    · rw [List.mem_singleton.1 hd, hl]; omega
  · rw [List.length_append]
    have := h.len
    omega
def lenOf (v : Value) : Nat := match v with | .slice _ n _ => n | _ => 0
theorem fcj1 {N rn p bn bl : Nat} (h1 : rn = bn - p) (h2 : N ≤ rn) (hb : bl = bn) : N ≤ bl - p := by omega
theorem fcj2 {xn tl cl N : Nat} (h1 : xn ≤ 16777216) (h2 : tl ≤ 147456) (h3 : cl ≤ 9 * N) (h4 : N ≤ 16384) : ¬ 9223372036854775807 < xn + tl + cl := by omega
theorem fcj3 {N rn rk : Nat} (h1 : N ≤ rn) (h2 : rn ≤ rk) : (0 : Int) ≤ (N : Int) ∧ (N : Int) ≤ (rn : Int) ∧ (N : Int) ≤ (rk : Int) := by omega
theorem fcj4 {i i1 p bn : Nat} (hi : i ≤ p) (hp : p ≤ bn) (hb : bn ≤ 16384) (h : i1 = i + 1) : RowKit.wrap64 ((i : Int) + 1) = (i1 : Int) ∧ IntKind.i64.wrap ((i : Int) + 1) = (i1 : Int) := by
  rw [IntKind.wrap_i64]; unfold RowKit.wrap64; omega
theorem fcj5 {i i1 p N rn bn : Nat} (hi : i ≤ p) (h : i1 = i + 1) (h1 : 1 ≤ N) (h2 : N ≤ rn) (h3 : rn = bn - p) (hp : p ≤ bn) : i1 ≤ p + N ∧ rn - N = bn - (p + N) ∧ rn - N < rn := by omega
theorem fcj6 {N rn rk p bn bl : Nat} (h1 : N ≤ rn) (h2 : rn ≤ rk) (hk : rk = N) (h3 : rn = bn - p) (hb : bl = bn) : rn = N ∧ bl ≤ p + N := by omega
theorem fcj7 {N rn p bn : Nat} (h2 : N ≤ rn) (h3 : rn = bn - p) (hb : bn ≤ 16384) : N ≤ 16384 ∧ N ≤ 140737488351232 := by omega
theorem last_sm {ts : List Fd} (h : fdz ts ≤ 1048576) : (lastL ts).length ≤ 2097160 := by
  have key : ∀ ts : List Fd, (linesL ts).length ≤ 2 * fdz ts := by
    intro ts
    induction ts with
    | nil => simp [linesL]
    | cons f r ih =>
      show (lineL f ++ linesL r).length ≤ 2 * fdz (f :: r)
      rw [List.length_append]
      simp only [lineL, fdz, List.length_append, List.length_cons, List.length_nil]
      rw [← bl_size, ← bl_size]
      omega
  have := key ts
  simp only [lastL, List.length_append, List.length_cons, List.length_nil]
  omega
set_option maxRecDepth 100000 in
set_option maxHeartbeats 8000000 in
theorem back_fr1 (w : World) (ht : Tab w) (s : Nat) (hs : 200 ≤ s ∧ s < 600 ∧ s ≠ 204 ∧ s ≠ 304) {fa : Option Addr} {fn fc : Nat} {fs : List Fd} {ba : Option Addr} {bn bc : Nat} {b : List UInt8} {ca : Option Addr} {cn cc : Nat} {zs : List Int} {ta : Option Addr} {tn tc : Nat} {ts : List Fd} {ha : Option Addr} {hn hc : Nat} {h : List UInt8} (hr : RepAt w fa fn fc fs ba bn bc b ca cn cc zs ta tn tc ts ha hn hc h) (hg : fs.all gdB = true ∧ ts.all gdB = true) (hbg : bn ≤ 16384) :
    Calls Tryz.prog 5 #[.agg #[.int .i64 (s : Int), .slice fa fn fc, .slice ba bn bc, .int .i64 1, .slice ca cn cc, .slice ta tn tc, .slice ha hn hc]] w (BoolOf w true) := by
  obtain ⟨w1, hw1⟩ : ∃ w1, w1 = w.alloc (.cells #[.int .i64 (s : Int), .slice fa fn fc, .slice ba bn bc, .int .i64 1, .slice ca cn cc, .slice ta tn tc, .slice ha hn hc] 26) := ⟨_, rfl⟩
  obtain ⟨g1, hg1⟩ : ∃ g1, g1 = w.heap.size := ⟨_, rfl⟩
  have hh1 : Has w1 g1 26 (rpC (s : Int) 1 fa fn fc ba bn bc ca cn cc ta tn tc ha hn hc) := by rw [hw1, hg1]; exact Has.new w 26 _
  have hb1 : Below w.heap.size w w1 := by rw [hw1]; exact (Below.refl _ w).alloc (Nat.le_refl _) _
  have HB1 := Lib.hid hb1
  have HR := Lib.hid hr
  have HT := Lib.hid ht
  have HAw : Hid (∀ w', Below w.heap.size w w' → Calls Tryz.prog 7 #[] w' (BoolOf w true)) := Lib.hid (fun w' (hb : Below w.heap.size w w') => (awake20_any w' (HT.out.below hb)).mono (by
    rintro e w7 ⟨h1, h2⟩
    exact ⟨h1, hb.trans (h2.mono hb.size)⟩))
  have HGf : Hid (∀ w', Below w.heap.size w w' → Calls Tryz.prog 14 #[.slice fa fn fc] w' (BoolOf w' (fs.all gdB))) := Lib.hid (fun w' hb => good_any w' (HR.out.sf.below hb) HR.out.fz)
  have HGt : Hid (∀ w', Below w.heap.size w w' → Calls Tryz.prog 14 #[.slice ta tn tc] w' (BoolOf w' (ts.all gdB))) := Lib.hid (fun w' hb => good_any w' (HR.out.st.below hb) HR.out.tz)
  have HH1 := Lib.hid hh1
  have HSt := Lib.hid hs
  have HG := Lib.hid hg
  have HBg := Lib.hid hbg
  obtain ⟨y1, y2, y3, y4, y5, y6⟩ := bqkj1 hs.1 hs.2.1 hs.2.2.1 hs.2.2.2
  have y7 : ((16384 : Int) < (bn : Int)) = False := eq_false (by omega)
  rw [hg.1] at HGf
  rw [hg.2] at HGt
  have p0 := HH1.out.cell 0 rfl
  have p1 := HH1.out.cell 1 rfl
  have p2 := HH1.out.cell 2 rfl
  have p3 := HH1.out.cell 3 rfl
  have p5 := HH1.out.cell 5 rfl
  clear ht hr hs hg hbg hh1 hb1
  go_enter Tryz.func5, Tryz.ntmps5
  go_upto_region 1 with fail
  rw [← hw1, ← hg1]
  clear hw1 hg1
  go_wp2_with fail
  refine (HGf.out w1 HB1.out).mono ?_
  rintro e w2 ⟨rfl, hb2⟩
  have HB2 : Hid (Below w.heap.size w w2) := Lib.hid (HB1.out.trans (hb2.mono HB1.out.size))
  have HH2 : Hid (Has w2 g1 26 (rpC (s : Int) 1 fa fn fc ba bn bc ca cn cc ta tn tc ha hn hc)) := Lib.hid (HH1.out.kept (Kept.of_below (X := none') hb2) (fun h => h))
  clear hb2 p0 p1 p2 p3 p5
  have p2 := HH2.out.cell 2 rfl
  have p3 := HH2.out.cell 3 rfl
  have p5 := HH2.out.cell 5 rfl
  go_wp2_with fail
  refine (HGt.out w2 HB2.out).mono ?_
  rintro e w3 ⟨rfl, hb3⟩
  have HB3 : Hid (Below w.heap.size w w3) := Lib.hid (HB2.out.trans (hb3.mono HB2.out.size))
  have HH3 : Hid (Has w3 g1 26 (rpC (s : Int) 1 fa fn fc ba bn bc ca cn cc ta tn tc ha hn hc)) := Lib.hid (HH2.out.kept (Kept.of_below (X := none') hb3) (fun h => h))
  clear hb3 p2 p3 p5
  have p2 := HH3.out.cell 2 rfl
  have p3 := HH3.out.cell 3 rfl
  -- the head
  have HB3d : Hid (Below w.heap.size w w3.drew) := Lib.hid (HB3.out.trans (below_dr w3))
  have HS3 : Hid (Has w3.drew g1 26 (rpC (s : Int) 1 fa fn fc ba bn bc ca cn cc ta tn tc ha hn hc)) := Lib.hid (HH3.out.kept (Kept.drew none' w3) (fun h => h))
  have HDs := Lib.hid (fun w' => digits_any w' s (by have := HSt.out; omega))
  obtain ⟨L, hL⟩ : ∃ L, L = linesE (fs.map fline) := ⟨_, rfl⟩
  have HLn : Hid (∀ w', Below w.heap.size w w' → Calls Tryz.prog 15 #[.slice fa fn fc] w' (StrOf w' L)) := Lib.hid (fun w' hb => by rw [hL]; exact lines_any w' (HR.out.sf.below hb) HR.out.fz)
  obtain ⟨dn, hdn⟩ : ∃ dn, dn = (Lib.decDigits s).length := ⟨_, rfl⟩
  obtain ⟨ln, hln⟩ : ∃ ln, ln = L.length := ⟨_, rfl⟩
  have s1 : (strB (Lib.decDigits s)).size = dn := by rw [strB_size, hdn]
  have s2 : (strB L).size = ln := by rw [strB_size, hln]
  obtain ⟨u1, u2, u3⟩ := bqkj2 (dn := dn) (ln := ln) (by rw [hdn]; exact dec_lt 4 s (by have := HSt.out; omega)) (by rw [hln, hL, lnE_len]; exact HR.out.fz)
  obtain ⟨Hd, hHd⟩ : ∃ Hd, Hd = linesE (stLn s :: fs.map fline) := ⟨_, rfl⟩
  have HHd : Hid (Hd = linesE (stLn s :: fs.map fline) ∧ Hd.length ≤ 1048600) := Lib.hid ⟨hHd, by rw [hHd]; exact hd_len (by have := HSt.out; omega) HR.out.fz⟩
  have HX : Hid ((⟨#[72, 84, 84, 80, 47, 49, 46, 49, 32]⟩ : ByteArray) ++ strB (Lib.decDigits s) ++ (⟨#[32, 13, 10]⟩ : ByteArray) ++ strB L = strB Hd) := Lib.hid (by rw [hL, hHd]; exact bk_hd s fs)
  clear hL hdn hln hHd
  go_upto_region 3 with fail
  clear p2 p3 y1 y2 y3 y4 y5 y6 y7
  refine Mx.region [] (fun w' => Has w' g1 26 (rpC (s : Int) 1 fa fn fc ba bn bc ca cn cc ta tn tc ha hn hc)) (by kernel_rfl) (by kernel_rfl) HS3.out ?_
  repeat ((first | (refine Mx.skips (by kernel_rfl) ?_; go_big_quiet_skip) | (refine Mx.quietly rfl ?_; go_big_quiet_want; go_big_quiet_op; go_big_quiet_on)); refine Mx.done ?_)
  refine Mx.cell ⟨g1, 0, none⟩ (.int .i64 (s : Int)) (by kernel_rfl) (by kernel_rfl) (by kernel_rfl) Tryz.isAgg3 (fun w' h => h.cell 0 rfl) ?_
  go_big_quiet_want; go_big_quiet_op; go_big_quiet_on; refine Mx.done ?_
  repeat ((first | (refine Mx.skips (by kernel_rfl) ?_; go_big_quiet_skip) | (refine Mx.quietly rfl ?_; go_big_quiet_want; go_big_quiet_op; go_big_quiet_on)); refine Mx.done ?_)
  refine Mx.loudly (by kernel_rfl) (by kernel_rfl) ?_
  go_wp2_with fail
  refine (HDs.out _).mono ?_
  rintro e w4 ⟨rfl, hb4⟩
  have HB4 : Hid (Below w.heap.size w w4) := Lib.hid (HB3d.out.trans (hb4.mono HB3d.out.size))
  have HS4 : Hid (Has w4 g1 26 (rpC (s : Int) 1 fa fn fc ba bn bc ca cn cc ta tn tc ha hn hc)) := Lib.hid (HS3.out.kept (Kept.of_below (X := none') hb4) (fun h => h))
  clear hb4
  go_wp2_with fail
  refine ⟨HS4.out, ?_⟩
  repeat ((first | (refine Mx.skips (by kernel_rfl) ?_; go_big_quiet_skip) | (refine Mx.quietly rfl ?_; go_big_quiet_want; go_big_quiet_op; go_big_quiet_on)); refine Mx.done ?_)
  refine Mx.cell ⟨g1, 1, none⟩ (.slice fa fn fc) (by kernel_rfl) (by kernel_rfl) (by kernel_rfl) Tryz.isAgg22 (fun w' h => h.cell 1 rfl) ?_
  go_big_quiet_want; go_big_quiet_op; go_big_quiet_on; refine Mx.done ?_
  repeat ((first | (refine Mx.skips (by kernel_rfl) ?_; go_big_quiet_skip) | (refine Mx.quietly rfl ?_; go_big_quiet_want; go_big_quiet_op; go_big_quiet_on)); refine Mx.done ?_)
  refine Mx.loudly (by kernel_rfl) (by kernel_rfl) ?_
  go_wp2_with fail
  refine (HLn.out _ HB4.out).mono ?_
  rintro e w5 ⟨rfl, hb5⟩
  have HB5 : Hid (Below w.heap.size w w5) := Lib.hid (HB4.out.trans (hb5.mono HB4.out.size))
  have HH5 : Hid (Has w5 g1 26 (rpC (s : Int) 1 fa fn fc ba bn bc ca cn cc ta tn tc ha hn hc)) := Lib.hid (HS4.out.kept (Kept.of_below (X := none') hb5) (fun h => h))
  clear hb5
  go_wp2_with fail
  refine ⟨HH5.out, ?_⟩
  repeat ((first | (refine Mx.skips (by kernel_rfl) ?_; go_big_quiet_skip) | (refine Mx.quietly rfl ?_; go_big_quiet_want; go_big_quiet_op; go_big_quiet_on)); refine Mx.done ?_)
  refine Mx.nil ?_
  have hx := HX.out
  rw [hx]
  clear hx s1 s2 u1 u2 u3 HX HDs HLn HS3 HS4
  obtain ⟨xn, hxn⟩ : ∃ xn, xn = Hd.length := ⟨_, rfl⟩
  have s1 : (strB Hd).size = xn := by rw [strB_size, hxn]
  have HXn : Hid (xn = Hd.length ∧ xn ≤ 1048600) := Lib.hid ⟨hxn, by rw [hxn]; exact HHd.out.2⟩
  clear hxn
  have s2 : (strB b).size = bn := by rw [strB_size]; exact HR.out.sb.byte
  have s3 : (strB h).size = hn := by rw [strB_size]; exact HR.out.sh.byte
  have p2 := HH5.out.cell 2 rfl
  have p3 := HH5.out.cell 3 rfl
  have HB5d : Hid (Below w.heap.size w w5.drew) := Lib.hid (HB5.out.trans (below_dr w5))
  have HS5 : Hid (Has w5.drew g1 26 (rpC (s : Int) 1 fa fn fc ba bn bc ca cn cc ta tn tc ha hn hc) ∧ Sl w5.drew ba bn bc (bv b)) := Lib.hid ⟨HH5.out.kept (Kept.drew none' w5) (fun h => h), HR.out.sb.below HB5d.out⟩
  have HDb := Lib.hid (fun w' => digits_any w' bn (by have := HBg.out; omega))
  obtain ⟨dn, hdn⟩ : ∃ dn, dn = (Lib.decDigits bn).length := ⟨_, rfl⟩
  have s4 : (strB (Lib.decDigits bn)).size = dn := by rw [strB_size, hdn]
  obtain ⟨u1, u2, u3, u4⟩ := bqkj3 (x := xn) (dn := dn) (bn := bn) (by rw [hdn]; exact dec_lt 4 bn (by have := HBg.out; omega)) HBg.out HXn.out.2
  clear hdn
  go_upto_region 6 with fail
  refine Mx.region [] (fun w' => Has w' g1 26 (rpC (s : Int) 1 fa fn fc ba bn bc ca cn cc ta tn tc ha hn hc) ∧ Sl w' ba bn bc (bv b)) (by kernel_rfl) (by kernel_rfl) HS5.out ?_
  repeat ((first | (refine Mx.skips (by kernel_rfl) ?_; go_big_quiet_skip) | (refine Mx.quietly rfl ?_; go_big_quiet_want; go_big_quiet_op; go_big_quiet_on)); refine Mx.done ?_)
  refine Mx.cell ⟨g1, 2, none⟩ (.slice ba bn bc) (by kernel_rfl) (by kernel_rfl) (by kernel_rfl) Tryz.isAgg23 (fun w' h => h.1.cell 2 rfl) ?_
  go_big_quiet_want; go_big_quiet_op; go_big_quiet_on; refine Mx.done ?_
  repeat ((first | (refine Mx.skips (by kernel_rfl) ?_; go_big_quiet_skip) | (refine Mx.quietly rfl ?_; go_big_quiet_want; go_big_quiet_op; go_big_quiet_on)); refine Mx.done ?_)
  refine Mx.loudly (by kernel_rfl) (by kernel_rfl) ?_
  go_wp2_with fail
  refine (HDb.out _).mono ?_
  rintro e w6 ⟨rfl, hb6⟩
  have HB6 : Hid (Below w.heap.size w w6) := Lib.hid (HB5d.out.trans (hb6.mono HB5d.out.size))
  have HS6 : Hid (Has w6 g1 26 (rpC (s : Int) 1 fa fn fc ba bn bc ca cn cc ta tn tc ha hn hc) ∧ Sl w6 ba bn bc (bv b)) := Lib.hid ⟨HS5.out.1.kept (Kept.of_below (X := none') hb6) (fun h => h), HS5.out.2.below hb6⟩
  clear hb6
  go_wp2_with fail
  refine ⟨HS6.out, ?_⟩
  repeat ((first | (refine Mx.skips (by kernel_rfl) ?_; go_big_quiet_skip) | (refine Mx.quietly rfl ?_; go_big_quiet_want; go_big_quiet_op; go_big_quiet_on)); refine Mx.done ?_)
  refine Mx.cell ⟨g1, 2, none⟩ (.slice ba bn bc) (by kernel_rfl) (by kernel_rfl) (by kernel_rfl) Tryz.isAgg23 (fun w' h => h.1.cell 2 rfl) ?_
  go_big_quiet_want; go_big_quiet_op; go_big_quiet_on; refine Mx.done ?_
  repeat ((first | (refine Mx.skips (by kernel_rfl) ?_; go_big_quiet_skip) | (refine Mx.quietly rfl ?_; go_big_quiet_want; go_big_quiet_op; go_big_quiet_on)); refine Mx.done ?_)
  refine Mx.conv (.string (strB b)) (by kernel_rfl) (by kernel_rfl) (by kernel_rfl) (fun w' h => run_str (P := Tryz.prog) h.2 23 5 9 Tryz.underlying23 Tryz.underlying5 Tryz.underlying9) ?_
  go_big_quiet_want; go_big_quiet_op; go_big_quiet_on; refine Mx.done ?_
  repeat ((first | (refine Mx.skips (by kernel_rfl) ?_; go_big_quiet_skip) | (refine Mx.quietly rfl ?_; go_big_quiet_want; go_big_quiet_op; go_big_quiet_on)); refine Mx.done ?_)
  refine Mx.nil ?_
  obtain ⟨Y, hY⟩ : ∃ Y, Y = strB Hd ++ ((⟨#[67, 111, 110, 116, 101, 110, 116, 45, 76, 101, 110, 103, 116, 104, 58, 32]⟩ : ByteArray) ++ strB (Lib.decDigits bn) ++ (⟨#[13, 10, 13, 10]⟩ : ByteArray) ++ strB b) := ⟨_, rfl⟩
  have HY := Lib.hid hY
  obtain ⟨yn, hyn⟩ : ∃ yn, yn = Y.size := ⟨_, rfl⟩
  have s5 : Y.size = yn := hyn.symm
  have HYn : Hid (yn ≤ 8388608) := Lib.hid (by
    have h1 := HXn.out.2
    have h2 := HBg.out
    have h3 := dec_lt 4 bn (by omega)
    rw [hyn, hY]
    simp only [ByteArray.size_append, s1, s2, strB_size]
    show xn + (16 + _ + 4 + bn) ≤ _
    omega)
  rw [← hY]
  clear hY hyn u1 u2 u3 u4 s1 s4 p2 p3 HS5 HDb
  have hcv := run_str (P := Tryz.prog) (HR.out.sh.below HB6.out) 23 5 9 Tryz.underlying23 Tryz.underlying5 Tryz.underlying9
  have p3 := HS6.out.1.cell 3 rfl
  have p6 := HS6.out.1.cell 6 rfl
  have u1 := bqkj4 (x := yn) (y := hn) HYn.out (Nat.le_trans HR.out.hz (by decide))
  go_upto_region 24 with fail
  have hx : Y ++ strB h = strB (bkT s fs [lenLn b.length] (b ++ h)) := by rw [HY.out, HHd.out.1, ← bk_t1, HR.out.sb.byte]; rfl
  rw [hx]
  have hbyt : b.length = bn := HR.out.sb.byte
  obtain ⟨T, hT⟩ : ∃ T, T = bkT s fs [lenLn b.length] (b ++ h) := ⟨_, rfl⟩
  have HTl : Hid (T.length ≤ 16777216) := Lib.hid (by
    have h1 := congrArg ByteArray.size hx
    rw [← hT, strB_size, ByteArray.size_append, s5, s3] at h1
    have := HYn.out
    have := HR.out.hz
    omega)
  rw [← hT]
  have HA : Hid (T.length ≤ 1048576 → allV false T [] false = (⟨h, false, 0, .length, true, false, 1, 0⟩, ⟨some (s, fs.map smF ++ [⟨strB lenN, strB (Lib.decDigits b.length)⟩], 1), b, []⟩, 0)) := Lib.hid (fun hl => by
    rw [hT] at hl ⊢
    exact back1 HSt.out.1 HSt.out.2.1 HSt.out.2.2.1 HSt.out.2.2.2 HG.out.1 (by rw [hbyt]; exact HBg.out) hl)
  clear hx hT hbyt u1 hcv p3 p6 s2 s5
  have HHt : Hid (Has w6 g1 26 (rpC (s : Int) 1 fa fn fc ba bn bc ca cn cc ta tn tc ha hn hc)) := Lib.hid HS6.out.1
  have HBt := Lib.hid HB6.out
  obtain ⟨wt, hwt⟩ : ∃ wt, wt = w6 := ⟨_, rfl⟩
  rw [← hwt] at HHt HBt ⊢
  clear hwt
  obtain ⟨m, hm⟩ : ∃ m, m = T.length := ⟨_, rfl⟩
  have t1 : (strB T).size = m := by rw [strB_size, hm]
  by_cases hbig : 1048576 < m
  · have y5 : ((1048576 : Int) < (m : Int)) = True := eq_true (by omega)
    clear hbig hm
    have HAz := Lib.hid (HAw.out wt HBt.out)
    go_wp2_with fail
    refine HAz.out.mono ?_
    rintro e wz ⟨rfl, hbz⟩
    have HBz := Lib.hid hbz
    clear hbz
    go_wp2
    go_ret
    exact ⟨ret_bool (by simp), HBz.out⟩
  have y5 : ((1048576 : Int) < (m : Int)) = False := eq_false (by omega)
  have hAV := HA.out (by omega)
  have HAV := Lib.hid hAV
  obtain ⟨c7, w7, hcv, hbt, ⟨hc1, hc2⟩, hb7⟩ := conv_bts2 wt T (by have := HTl.out; unfold maxLen; omega)
  obtain ⟨g7, hg7⟩ : ∃ g7, g7 = wt.heap.size := ⟨_, rfl⟩
  rw [← hg7] at hcv hbt
  rw [← hm] at hcv
  have hsl := bts_sl hbt c7 hc1 hc2
  rw [← hm] at hsl
  have HB7 : Hid (Below w.heap.size w w7) := Lib.hid (HBt.out.trans (hb7.mono HBt.out.size))
  have HH7 : Hid (Has w7 g1 26 (rpC (s : Int) 1 fa fn fc ba bn bc ca cn cc ta tn tc ha hn hc)) := Lib.hid (HHt.out.kept (Kept.of_below (X := none') hb7) (fun h => h))
  have HA1 := Lib.hid (all_any w7 (HT.out.below HB7.out) false hsl (by omega) (cuts := []) (ca := none) (cn := 0) (cc := 0) (Sl.empty w7) false)
  clear hbt hc1 hc2 hb7 hg7 hsl hbig hm hAV HA HTl
  have p3 := HH7.out.cell 3 rfl
  go_wp2_with fail
  refine HA1.out.mono ?_
  rintro e w8 ⟨x, rfl, hb8, hok, hft, hdn, hlf⟩
  rw [HAV.out] at hok hft hdn hlf
  obtain ⟨w9, hw9⟩ : ∃ w9, w9 = w8.alloc (.cells #[.int .i64 x.k, .int .i64 x.st, .slice x.fa x.fn x.fc, .int .i64 x.fr, .slice none 0 0, .slice x.ba x.bn x.bc, .slice x.ta x.tn x.tc, .int .i64 x.ft, .bool x.dn, .int .i64 x.lf] 35) := ⟨_, rfl⟩
  obtain ⟨g9, hg9⟩ : ∃ g9, g9 = w8.heap.size := ⟨_, rfl⟩
  have hb9 : Below w8.heap.size w8 w9 := by rw [hw9]; exact (Below.refl _ w8).alloc (Nat.le_refl _) _
  have HX9 : Hid (Has w9 g9 35 x.cs) := Lib.hid (by rw [hw9, hg9]; exact Has.new w8 35 _)
  have hb79 : Below w7.heap.size w7 w9 := hb8.trans (hb9.mono hb8.size)
  have HB9 : Hid (Below w.heap.size w w9) := Lib.hid (HB7.out.trans (hb79.mono HB7.out.size))
  have HH9 : Hid (Has w9 g1 26 (rpC (s : Int) 1 fa fn fc ba bn bc ca cn cc ta tn tc ha hn hc)) := Lib.hid (HH7.out.kept (Kept.of_below (X := none') hb79) (fun h => h))
  have hok9 := hok.kept (X := none') (Kept.of_below hb9) (fun _ _ h => h)
  obtain ⟨h1, h2, h3⟩ := hok9.hd.sl
  have h4 : x.fr = 1 := hok9.hd.2.2.2.1
  have h5 : x.bn = bn := hok9.bn.trans HR.out.sb.byte
  have hbd := (Tl.of hok9.bd).sl
  obtain ⟨h6, h7⟩ := hok9.trs
  have hst : x.st = (s : Int) := h1
  replace hlf : x.lf = (hn : Nat) := by rw [hlf, ← HR.out.sh.byte]; rfl
  replace hft : x.ft = 0 := hft
  replace hdn : x.dn = true := hdn
  have HF9 : Hid (SlS w9 x.fa x.fn x.fc (fs.map smF ++ [⟨strB lenN, strB (Lib.decDigits b.length)⟩])) := Lib.hid (h3)
  have HTr9 : Hid (SlS w9 x.ta x.tn x.tc ([])) := Lib.hid h7
  have HFn : Hid (x.fn = fn + 1) := Lib.hid (by rw [h2]; show (fs.map smF ++ [⟨strB lenN, strB (Lib.decDigits b.length)⟩] : List Fd).length = _; rw [List.length_append, List.length_map, HR.out.sf.len]; rfl)
  have HTn : Hid (x.tn = 0) := Lib.hid (by rw [h6]; rfl)
  have HSb := Lib.hid (same_any w9 hbd (HR.out.sb.below HB9.out))
  have q1 : w9.cell? ⟨g9, 1, none⟩ = some (.int .i64 (s : Int)) := by rw [← hst]; exact HX9.out.cell 1 rfl
  have q3 : w9.cell? ⟨g9, 3, none⟩ = some (.int .i64 1) := by rw [← h4]; exact HX9.out.cell 3 rfl
  have q5 : w9.cell? ⟨g9, 5, none⟩ = some (.slice x.ba x.bn x.bc) := HX9.out.cell 5 rfl
  have q7 : w9.cell? ⟨g9, 7, none⟩ = some (.int .i64 0) := by rw [← hft]; exact HX9.out.cell 7 rfl
  have q8 : w9.cell? ⟨g9, 8, none⟩ = some (.bool true) := by rw [← hdn]; exact HX9.out.cell 8 rfl
  have HQ9 : Hid (w9.cell? ⟨g9, 9, none⟩ = some (.int .i64 (hn : Nat))) := Lib.hid (by rw [← hlf]; exact HX9.out.cell 9 rfl)
  clear hb8 hb9 hb79 hok hok9 hft hdn hlf h1 h2 h3 h4 h5 h6 h7 hbd hst HA1 HAV hcv p3
  simp only [Xr.cs]
  go_upto_region 27 with fail
  rw [← hw9, ← hg9]
  clear hw9 hg9
  have p0 := HH9.out.cell 0 rfl
  have p2 := HH9.out.cell 2 rfl
  have p3 := HH9.out.cell 3 rfl
  have hsb := HSb.out
  simp only [decide_true] at hsb
  have HSb2 := Lib.hid hsb
  clear hsb HSb
  go_wp2_with fail
  refine HSb2.out.mono ?_
  rintro e wa ⟨rfl, hba⟩
  have HBa : Hid (Below w9.heap.size w9 wa) := Lib.hid hba
  have HBaw : Hid (Below w.heap.size w wa) := Lib.hid (HB9.out.trans (hba.mono HB9.out.size))
  have HSa : Hid (Has wa.drew g9 35 x.cs ∧ Has wa.drew g1 26 (rpC (s : Int) 1 fa fn fc ba bn bc ca cn cc ta tn tc ha hn hc)) := Lib.hid ⟨(HX9.out.kept (Kept.of_below (X := none') hba) (fun h => h)).kept (Kept.drew none' wa) (fun h => h), (HH9.out.kept (Kept.of_below (X := none') hba) (fun h => h)).kept (Kept.drew none' wa) (fun h => h)⟩
  have p1 : wa.cell? ⟨g1, 1, none⟩ = some (.slice fa fn fc) := (HH9.out.kept (Kept.of_below (X := none') hba) (fun h => h)).cell 1 rfl
  clear hba p0 p2 p3 q1 q3 q5 q7 q8 HSb2
  have HSm : Hid (∀ w', Below w.heap.size w w' → Calls Tryz.prog 17 #[.slice fa fn fc] w' (CopyP w' (fs.map smF))) := Lib.hid (fun w' hb => smalls_any w' (HR.out.sf.below hb) HR.out.fz)
  have HFt : Hid (∀ w', Below w9.heap.size w9 w' → SlS w' x.fa fn x.fc (fs.map smF)) := Lib.hid (fun w' hb => by
    have h1 := sls_take (HF9.out.below hb)
    rwa [List.length_map, HR.out.sf.len] at h1)
  have hcap : fn ≤ x.fc := (HFt.out w9 (Below.refl _ _)).cap
  have v1 : decide ((x.fn : Int) < (fn : Int)) = false := by have := HFn.out; exact decide_eq_false (by omega)
  have v2 : ((x.fn : Int) < (fn : Int)) = False := by have := HFn.out; exact eq_false (by omega)
  have v3 : (fn : Int) ≤ (x.fc : Int) := by omega
  have v4 : (0 : Int) ≤ (fn : Int) := by omega
  clear hcap
  have HBad : Hid (Below w9.heap.size w9 wa.drew ∧ Below w.heap.size w wa.drew) := Lib.hid ⟨HBa.out.trans (below_dr wa), HBaw.out.trans (below_dr wa)⟩
  go_upto_region 30 with fail
  refine Mx.region [] (fun w' => Has w' g9 35 x.cs ∧ Has w' g1 26 (rpC (s : Int) 1 fa fn fc ba bn bc ca cn cc ta tn tc ha hn hc)) (by kernel_rfl) (by kernel_rfl) HSa.out ?_
  repeat ((first | (refine Mx.skips (by kernel_rfl) ?_; go_big_quiet_skip) | (refine Mx.quietly rfl ?_; go_big_quiet_want; go_big_quiet_op; go_big_quiet_on)); refine Mx.done ?_)
  refine Mx.cell ⟨g9, 2, none⟩ (.slice x.fa x.fn x.fc) (by kernel_rfl) (by kernel_rfl) (by kernel_rfl) Tryz.isAgg22 (fun w' h => h.1.cell 2 rfl) ?_
  go_big_quiet_want; go_big_quiet_op; go_big_quiet_on; refine Mx.done ?_
  repeat ((first | (refine Mx.skips (by kernel_rfl) ?_; go_big_quiet_skip) | (refine Mx.quietly rfl ?_; go_big_quiet_want; go_big_quiet_op; go_big_quiet_on)); refine Mx.done ?_)
  refine Mx.cell ⟨g9, 2, none⟩ (.slice x.fa x.fn x.fc) (by kernel_rfl) (by kernel_rfl) (by kernel_rfl) Tryz.isAgg22 (fun w' h => h.1.cell 2 rfl) ?_
  go_big_quiet_want; go_big_quiet_op; go_big_quiet_on; refine Mx.done ?_
  repeat ((first | (refine Mx.skips (by kernel_rfl) ?_; go_big_quiet_skip) | (refine Mx.quietly rfl ?_; go_big_quiet_want; go_big_quiet_op; go_big_quiet_on)); refine Mx.done ?_)
  refine Mx.cell ⟨g1, 1, none⟩ (.slice fa fn fc) (by kernel_rfl) (by kernel_rfl) (by kernel_rfl) Tryz.isAgg22 (fun w' h => h.2.cell 1 rfl) ?_
  go_big_quiet_want; go_big_quiet_op; go_big_quiet_on; refine Mx.done ?_
  repeat ((first | (refine Mx.skips (by kernel_rfl) ?_; go_big_quiet_skip) | (refine Mx.quietly rfl ?_; go_big_quiet_want; go_big_quiet_op; go_big_quiet_on)); refine Mx.done ?_)
  refine Mx.loudly (by kernel_rfl) (by kernel_rfl) ?_
  go_wp2_with fail
  refine (HSm.out _ HBad.out.2).mono ?_
  rintro e wb ⟨a2, c2, he, ho2, hb2⟩
  obtain rfl : e = .returned (.slice a2 fn c2) := by rw [he, List.length_map, HR.out.sf.len]
  have HBb : Hid (Below w9.heap.size w9 wb ∧ Below w.heap.size w wb) := Lib.hid ⟨HBad.out.1.trans (hb2.mono HBad.out.1.size), HBad.out.2.trans (hb2.mono HBad.out.2.size)⟩
  have HSb : Hid (Has wb g9 35 x.cs ∧ Has wb g1 26 (rpC (s : Int) 1 fa fn fc ba bn bc ca cn cc ta tn tc ha hn hc)) := Lib.hid ⟨HSa.out.1.kept (Kept.of_below (X := none') hb2) (fun h => h), HSa.out.2.kept (Kept.of_below (X := none') hb2) (fun h => h)⟩
  have hsl2 : SlS wb a2 fn c2 (fs.map smF) := by have h1 := ho2.sl; rwa [List.length_map, HR.out.sf.len] at h1
  have HSame := Lib.hid (sames_eq wb (HFt.out wb HBb.out.1) hsl2)
  clear he ho2 hb2 hsl2 HSm
  go_wp2_with fail
  refine ⟨HSb.out, ?_⟩
  repeat ((first | (refine Mx.skips (by kernel_rfl) ?_; go_big_quiet_skip) | (refine Mx.quietly rfl ?_; go_big_quiet_want; go_big_quiet_op; go_big_quiet_on)); refine Mx.done ?_)
  refine Mx.loudly (by kernel_rfl) (by kernel_rfl) ?_
  go_wp2_with fail
  refine HSame.out.mono ?_
  rintro e wc ⟨rfl, hbc⟩
  have HBc : Hid (Below w9.heap.size w9 wc ∧ Below w.heap.size w wc) := Lib.hid ⟨HBb.out.1.trans (hbc.mono HBb.out.1.size), HBb.out.2.trans (hbc.mono HBb.out.2.size)⟩
  have HSc : Hid (Has wc g9 35 x.cs ∧ Has wc g1 26 (rpC (s : Int) 1 fa fn fc ba bn bc ca cn cc ta tn tc ha hn hc)) := Lib.hid ⟨HSb.out.1.kept (Kept.of_below (X := none') hbc) (fun h => h), HSb.out.2.kept (Kept.of_below (X := none') hbc) (fun h => h)⟩
  clear hbc HSame
  go_wp2_with fail
  refine ⟨HSc.out, ?_⟩
  repeat ((first | (refine Mx.skips (by kernel_rfl) ?_; go_big_quiet_skip) | (refine Mx.quietly rfl ?_; go_big_quiet_want; go_big_quiet_op; go_big_quiet_on)); refine Mx.done ?_)
  refine Mx.nil ?_
  have HScd : Hid (Has wc.drew g9 35 x.cs ∧ Has wc.drew g1 26 (rpC (s : Int) 1 fa fn fc ba bn bc ca cn cc ta tn tc ha hn hc)) := Lib.hid ⟨HSc.out.1.kept (Kept.drew none' wc) (fun h => h), HSc.out.2.kept (Kept.drew none' wc) (fun h => h)⟩
  have HBcd : Hid (Below w9.heap.size w9 wc.drew ∧ Below w.heap.size w wc.drew) := Lib.hid ⟨HBc.out.1.trans (below_dr wc), HBc.out.2.trans (below_dr wc)⟩
  clear v1 v2 v3 v4
  go_upto_region 32 with fail
  refine Mx.region [] (fun w' => Has w' g9 35 x.cs ∧ Has w' g1 26 (rpC (s : Int) 1 fa fn fc ba bn bc ca cn cc ta tn tc ha hn hc)) (by kernel_rfl) (by kernel_rfl) HScd.out ?_
  repeat ((first | (refine Mx.skips (by kernel_rfl) ?_; go_big_quiet_skip) | (refine Mx.quietly rfl ?_; go_big_quiet_want; go_big_quiet_op; go_big_quiet_on)); refine Mx.done ?_)
  refine Mx.cell ⟨g1, 3, none⟩ (.int .i64 1) (by kernel_rfl) (by kernel_rfl) (by kernel_rfl) Tryz.isAgg3 (fun w' h => h.2.cell 3 rfl) ?_
  go_big_quiet_want; go_big_quiet_op; go_big_quiet_on; refine Mx.done ?_
  repeat ((first | (refine Mx.skips (by kernel_rfl) ?_; go_big_quiet_skip) | (refine Mx.quietly rfl ?_; go_big_quiet_want; go_big_quiet_op; go_big_quiet_on)); refine Mx.done ?_)
  refine Mx.nil ?_
  have HBf := HBcd
  have HSf := HScd
  have p3 := HSf.out.2.cell 3 rfl
  have p6 := HSf.out.2.cell 6 rfl
  have q9 : World.cell? wc.drew ⟨g9, 9, none⟩ = some (.int .i64 (hn : Nat)) := by rw [HBf.out.1.cell (World.block_lt_of_cell? _ _ HQ9.out)]; exact HQ9.out
  have HAz := Lib.hid (HAw.out _ HBf.out.2)
  go_wp2_with fail
  refine HAz.out.mono ?_
  rintro e wz ⟨rfl, hbz⟩
  have HBz := Lib.hid hbz
  clear hbz
  go_wp2
  go_ret
  exact ⟨ret_bool (by simp), HBz.out⟩
set_option maxRecDepth 100000 in
set_option maxHeartbeats 8000000 in
theorem back_fr2 (w : World) (ht : Tab w) (s : Nat) (hs : 200 ≤ s ∧ s < 600 ∧ s ≠ 204 ∧ s ≠ 304) {fa : Option Addr} {fn fc : Nat} {fs : List Fd} {ba : Option Addr} {bn bc : Nat} {b : List UInt8} {ca : Option Addr} {cn cc : Nat} {zs : List Int} {ta : Option Addr} {tn tc : Nat} {ts : List Fd} {ha : Option Addr} {hn hc : Nat} {h : List UInt8} (hr : RepAt w fa fn fc fs ba bn bc b ca cn cc zs ta tn tc ts ha hn hc h) (hg : fs.all gdB = true ∧ ts.all gdB = true) (hbg : bn ≤ 16384) :
    Calls Tryz.prog 5 #[.agg #[.int .i64 (s : Int), .slice fa fn fc, .slice ba bn bc, .int .i64 2, .slice ca cn cc, .slice ta tn tc, .slice ha hn hc]] w (BoolOf w true) := by
  obtain ⟨w1, hw1⟩ : ∃ w1, w1 = w.alloc (.cells #[.int .i64 (s : Int), .slice fa fn fc, .slice ba bn bc, .int .i64 2, .slice ca cn cc, .slice ta tn tc, .slice ha hn hc] 26) := ⟨_, rfl⟩
  obtain ⟨g1, hg1⟩ : ∃ g1, g1 = w.heap.size := ⟨_, rfl⟩
  have hh1 : Has w1 g1 26 (rpC (s : Int) 2 fa fn fc ba bn bc ca cn cc ta tn tc ha hn hc) := by rw [hw1, hg1]; exact Has.new w 26 _
  have hb1 : Below w.heap.size w w1 := by rw [hw1]; exact (Below.refl _ w).alloc (Nat.le_refl _) _
  have HB1 := Lib.hid hb1
  have HR := Lib.hid hr
  have HT := Lib.hid ht
  have HAw : Hid (∀ w', Below w.heap.size w w' → Calls Tryz.prog 7 #[] w' (BoolOf w true)) := Lib.hid (fun w' (hb : Below w.heap.size w w') => (awake20_any w' (HT.out.below hb)).mono (by
    rintro e w7 ⟨h1, h2⟩
    exact ⟨h1, hb.trans (h2.mono hb.size)⟩))
  have HGf : Hid (∀ w', Below w.heap.size w w' → Calls Tryz.prog 14 #[.slice fa fn fc] w' (BoolOf w' (fs.all gdB))) := Lib.hid (fun w' hb => good_any w' (HR.out.sf.below hb) HR.out.fz)
  have HGt : Hid (∀ w', Below w.heap.size w w' → Calls Tryz.prog 14 #[.slice ta tn tc] w' (BoolOf w' (ts.all gdB))) := Lib.hid (fun w' hb => good_any w' (HR.out.st.below hb) HR.out.tz)
  have HH1 := Lib.hid hh1
  have HSt := Lib.hid hs
  have HG := Lib.hid hg
  have HBg := Lib.hid hbg
  obtain ⟨y1, y2, y3, y4, y5, y6⟩ := bqkj1 hs.1 hs.2.1 hs.2.2.1 hs.2.2.2
  have y7 : ((16384 : Int) < (bn : Int)) = False := eq_false (by omega)
  rw [hg.1] at HGf
  rw [hg.2] at HGt
  have p0 := HH1.out.cell 0 rfl
  have p1 := HH1.out.cell 1 rfl
  have p2 := HH1.out.cell 2 rfl
  have p3 := HH1.out.cell 3 rfl
  have p5 := HH1.out.cell 5 rfl
  clear ht hr hs hg hbg hh1 hb1
  go_enter Tryz.func5, Tryz.ntmps5
  go_upto_region 1 with fail
  rw [← hw1, ← hg1]
  clear hw1 hg1
  go_wp2_with fail
  refine (HGf.out w1 HB1.out).mono ?_
  rintro e w2 ⟨rfl, hb2⟩
  have HB2 : Hid (Below w.heap.size w w2) := Lib.hid (HB1.out.trans (hb2.mono HB1.out.size))
  have HH2 : Hid (Has w2 g1 26 (rpC (s : Int) 2 fa fn fc ba bn bc ca cn cc ta tn tc ha hn hc)) := Lib.hid (HH1.out.kept (Kept.of_below (X := none') hb2) (fun h => h))
  clear hb2 p0 p1 p2 p3 p5
  have p2 := HH2.out.cell 2 rfl
  have p3 := HH2.out.cell 3 rfl
  have p5 := HH2.out.cell 5 rfl
  go_wp2_with fail
  refine (HGt.out w2 HB2.out).mono ?_
  rintro e w3 ⟨rfl, hb3⟩
  have HB3 : Hid (Below w.heap.size w w3) := Lib.hid (HB2.out.trans (hb3.mono HB2.out.size))
  have HH3 : Hid (Has w3 g1 26 (rpC (s : Int) 2 fa fn fc ba bn bc ca cn cc ta tn tc ha hn hc)) := Lib.hid (HH2.out.kept (Kept.of_below (X := none') hb3) (fun h => h))
  clear hb3 p2 p3 p5
  have p2 := HH3.out.cell 2 rfl
  have p3 := HH3.out.cell 3 rfl
  -- the head
  have HB3d : Hid (Below w.heap.size w w3.drew) := Lib.hid (HB3.out.trans (below_dr w3))
  have HS3 : Hid (Has w3.drew g1 26 (rpC (s : Int) 2 fa fn fc ba bn bc ca cn cc ta tn tc ha hn hc)) := Lib.hid (HH3.out.kept (Kept.drew none' w3) (fun h => h))
  have HDs := Lib.hid (fun w' => digits_any w' s (by have := HSt.out; omega))
  obtain ⟨L, hL⟩ : ∃ L, L = linesE (fs.map fline) := ⟨_, rfl⟩
  have HLn : Hid (∀ w', Below w.heap.size w w' → Calls Tryz.prog 15 #[.slice fa fn fc] w' (StrOf w' L)) := Lib.hid (fun w' hb => by rw [hL]; exact lines_any w' (HR.out.sf.below hb) HR.out.fz)
  obtain ⟨dn, hdn⟩ : ∃ dn, dn = (Lib.decDigits s).length := ⟨_, rfl⟩
  obtain ⟨ln, hln⟩ : ∃ ln, ln = L.length := ⟨_, rfl⟩
  have s1 : (strB (Lib.decDigits s)).size = dn := by rw [strB_size, hdn]
  have s2 : (strB L).size = ln := by rw [strB_size, hln]
  obtain ⟨u1, u2, u3⟩ := bqkj2 (dn := dn) (ln := ln) (by rw [hdn]; exact dec_lt 4 s (by have := HSt.out; omega)) (by rw [hln, hL, lnE_len]; exact HR.out.fz)
  obtain ⟨Hd, hHd⟩ : ∃ Hd, Hd = linesE (stLn s :: fs.map fline) := ⟨_, rfl⟩
  have HHd : Hid (Hd = linesE (stLn s :: fs.map fline) ∧ Hd.length ≤ 1048600) := Lib.hid ⟨hHd, by rw [hHd]; exact hd_len (by have := HSt.out; omega) HR.out.fz⟩
  have HX : Hid ((⟨#[72, 84, 84, 80, 47, 49, 46, 49, 32]⟩ : ByteArray) ++ strB (Lib.decDigits s) ++ (⟨#[32, 13, 10]⟩ : ByteArray) ++ strB L = strB Hd) := Lib.hid (by rw [hL, hHd]; exact bk_hd s fs)
  clear hL hdn hln hHd
  go_upto_region 3 with fail
  clear p2 p3 y1 y2 y3 y4 y5 y6 y7
  refine Mx.region [] (fun w' => Has w' g1 26 (rpC (s : Int) 2 fa fn fc ba bn bc ca cn cc ta tn tc ha hn hc)) (by kernel_rfl) (by kernel_rfl) HS3.out ?_
  repeat ((first | (refine Mx.skips (by kernel_rfl) ?_; go_big_quiet_skip) | (refine Mx.quietly rfl ?_; go_big_quiet_want; go_big_quiet_op; go_big_quiet_on)); refine Mx.done ?_)
  refine Mx.cell ⟨g1, 0, none⟩ (.int .i64 (s : Int)) (by kernel_rfl) (by kernel_rfl) (by kernel_rfl) Tryz.isAgg3 (fun w' h => h.cell 0 rfl) ?_
  go_big_quiet_want; go_big_quiet_op; go_big_quiet_on; refine Mx.done ?_
  repeat ((first | (refine Mx.skips (by kernel_rfl) ?_; go_big_quiet_skip) | (refine Mx.quietly rfl ?_; go_big_quiet_want; go_big_quiet_op; go_big_quiet_on)); refine Mx.done ?_)
  refine Mx.loudly (by kernel_rfl) (by kernel_rfl) ?_
  go_wp2_with fail
  refine (HDs.out _).mono ?_
  rintro e w4 ⟨rfl, hb4⟩
  have HB4 : Hid (Below w.heap.size w w4) := Lib.hid (HB3d.out.trans (hb4.mono HB3d.out.size))
  have HS4 : Hid (Has w4 g1 26 (rpC (s : Int) 2 fa fn fc ba bn bc ca cn cc ta tn tc ha hn hc)) := Lib.hid (HS3.out.kept (Kept.of_below (X := none') hb4) (fun h => h))
  clear hb4
  go_wp2_with fail
  refine ⟨HS4.out, ?_⟩
  repeat ((first | (refine Mx.skips (by kernel_rfl) ?_; go_big_quiet_skip) | (refine Mx.quietly rfl ?_; go_big_quiet_want; go_big_quiet_op; go_big_quiet_on)); refine Mx.done ?_)
  refine Mx.cell ⟨g1, 1, none⟩ (.slice fa fn fc) (by kernel_rfl) (by kernel_rfl) (by kernel_rfl) Tryz.isAgg22 (fun w' h => h.cell 1 rfl) ?_
  go_big_quiet_want; go_big_quiet_op; go_big_quiet_on; refine Mx.done ?_
  repeat ((first | (refine Mx.skips (by kernel_rfl) ?_; go_big_quiet_skip) | (refine Mx.quietly rfl ?_; go_big_quiet_want; go_big_quiet_op; go_big_quiet_on)); refine Mx.done ?_)
  refine Mx.loudly (by kernel_rfl) (by kernel_rfl) ?_
  go_wp2_with fail
  refine (HLn.out _ HB4.out).mono ?_
  rintro e w5 ⟨rfl, hb5⟩
  have HB5 : Hid (Below w.heap.size w w5) := Lib.hid (HB4.out.trans (hb5.mono HB4.out.size))
  have HH5 : Hid (Has w5 g1 26 (rpC (s : Int) 2 fa fn fc ba bn bc ca cn cc ta tn tc ha hn hc)) := Lib.hid (HS4.out.kept (Kept.of_below (X := none') hb5) (fun h => h))
  clear hb5
  go_wp2_with fail
  refine ⟨HH5.out, ?_⟩
  repeat ((first | (refine Mx.skips (by kernel_rfl) ?_; go_big_quiet_skip) | (refine Mx.quietly rfl ?_; go_big_quiet_want; go_big_quiet_op; go_big_quiet_on)); refine Mx.done ?_)
  refine Mx.nil ?_
  have hx := HX.out
  rw [hx]
  clear hx s1 s2 u1 u2 u3 HX HDs HLn HS3 HS4
  obtain ⟨xn, hxn⟩ : ∃ xn, xn = Hd.length := ⟨_, rfl⟩
  have s1 : (strB Hd).size = xn := by rw [strB_size, hxn]
  have HXn : Hid (xn = Hd.length ∧ xn ≤ 1048600) := Lib.hid ⟨hxn, by rw [hxn]; exact HHd.out.2⟩
  clear hxn
  have s2 : (strB b).size = bn := by rw [strB_size]; exact HR.out.sb.byte
  have s3 : (strB h).size = hn := by rw [strB_size]; exact HR.out.sh.byte
  have p2 := HH5.out.cell 2 rfl
  have p3 := HH5.out.cell 3 rfl
  have HCp := Lib.hid (copy_any w5 (HR.out.sb.below HB5.out) (by have := HBg.out; omega))
  have HHL : Hid (∀ w', Below w5.heap.size w5 w' → Has w' g1 26 (rpC (s : Int) 2 fa fn fc ba bn bc ca cn cc ta tn tc ha hn hc)) := Lib.hid (fun w' hb => HH5.out.kept (Kept.of_below (X := none') hb) (fun h => h))
  obtain ⟨X, hX⟩ : ∃ X, X = Hd ++ [84, 114, 97, 110, 115, 102, 101, 114, 45, 69, 110, 99, 111, 100, 105, 110, 103, 58, 32, 67, 104, 117, 110, 107, 101, 100, 13, 10, 13, 10] := ⟨_, rfl⟩
  have hcat : strB Hd ++ (⟨#[84, 114, 97, 110, 115, 102, 101, 114, 45, 69, 110, 99, 111, 100, 105, 110, 103, 58, 32, 67, 104, 117, 110, 107, 101, 100, 13, 10, 13, 10]⟩ : ByteArray) = strB X := by rw [hX]; exact strB_append _ _
  have HXe := Lib.hid hX
  have u1 := bqkj4 (x := xn) (y := 30) (Nat.le_trans HXn.out.2 (by decide)) (by decide)
  obtain ⟨kn, hkn⟩ : ∃ kn, kn = X.length := ⟨_, rfl⟩
  have HKn : Hid (kn = X.length ∧ kn ≤ 1048700) := Lib.hid ⟨hkn, by rw [hkn, hX, List.length_append, ← HXn.out.1]; have := HXn.out.2; simp only [List.length_cons, List.length_nil]; omega⟩
  clear hX hkn
  go_upto_region 9 with fail

  clear hcat u1 s1
  obtain ⟨S0, hS0⟩ : ∃ S0, S0 = strB X := ⟨_, rfl⟩
  have hs0 : S0.size = kn := by rw [hS0, strB_size, HKn.out.1]
  have HS0 := Lib.hid hS0
  rw [← hS0]
  clear hS0
  go_wp2_with fail
  refine HCp.out.mono ?_
  rintro e w6 ⟨ra, rk, he, ho6, hb6⟩
  obtain rfl : e = .returned (.slice ra bn rk) := by rw [he, HR.out.sb.byte]
  have HSl6 : Hid (Sl w6 ra bn rk (bv b)) := Lib.hid (by have h := own_sl ho6; rwa [HR.out.sb.byte] at h)
  have HB6 : Hid (Below w5.heap.size w5 w6) := Lib.hid hb6
  clear he ho6 hb6 HCp p2 p3 s2 s3
  go_wp2_with fail
  go_loopw [3, 4, 5] (fun sv rv iv wr => ∃ (S : ByteArray) (Tq : List UInt8) (ds : List (List UInt8)) (p i rn : Nat) (ra : Option Addr) (rk : Nat), sv = .string S ∧ rv = .slice ra rn rk ∧ iv = .int .i64 (i : Int) ∧ S = strB (X ++ Tq) ∧ ChSt b Tq ds p ∧ rn = bn - p ∧ i ≤ p ∧ Sl wr ra rn rk (bv (b.drop p)) ∧ Below w5.heap.size w5 wr) (fun _ rv _ _ => lenOf rv)
  case atStart => exact ⟨_, [], [], 0, 0, bn, ra, rk, rfl, rfl, rfl, by rw [HS0.out, List.append_nil], ChSt.start b, rfl, Nat.le_refl _, HSl6.out, HB6.out⟩
  case round =>
    obtain ⟨S, Tq, ds, p, i, rn, ra, rk, rfl, rfl, rfl, hS, hst, hrn, hip, hsl, hbw⟩ := hrel
    clear hs0
    have HS := Lib.hid hS
    have HSc := Lib.hid hst
    have HRn := Lib.hid hrn
    have HIp := Lib.hid hip
    have HSl := Lib.hid hsl
    have HBw := Lib.hid hbw
    have HBw2 : Hid (Below w.heap.size w wr) := Lib.hid (HB5.out.trans (hbw.mono HB5.out.size))
    have HHw : Hid (Has wr g1 26 (rpC (s : Int) 2 fa fn fc ba bn bc ca cn cc ta tn tc ha hn hc)) := Lib.hid (HHL.out wr hbw)
    have hsz : S.size = kn + Tq.length := by rw [hS, strB_size, List.length_append, HKn.out.1]
    obtain ⟨tl, htl⟩ : ∃ tl, tl = Tq.length := ⟨_, rfl⟩
    have HTe := Lib.hid htl
    rw [← htl] at hsz
    have hbl : b.length = bn := HR.out.sb.byte
    have HTq : Hid (tl ≤ 147456 ∧ p ≤ bn) := Lib.hid (by have h1 := hst.len; have h2 := hst.le; have h3 := HBg.out; omega)
    have p4 := HHw.out.cell 4 rfl
    clear hS hst hrn hip hsl hbw htl hbl
    by_cases hr0 : 0 < rn
    · have HR0 := Lib.hid hr0
      have z1 : ((0 : Int) < (rn : Int)) = True := eq_true (by omega)
      have z2 : (0 < rn) = True := eq_true hr0
      clear hr0
      go_upto_region 14 with fail
      go_cut [119] (fun v wz => ∃ bb : Bool, v = .bool bb ∧ Hid (bb = true → ∃ N : Nat, 1 ≤ N ∧ N ≤ rn ∧ i < cn ∧ zs[i]? = some (N : Int)) ∧ wr = wz)
      case first =>
        by_cases hic : i < cn
        · have hsc := HR.out.sc.below HBw2.out
          have hzl : zs.length = cn := by have h := hsc.len; simpa [iv] using h
          obtain ⟨cb, co, rfl, hcc⟩ := hsc.cells (by omega)
          have hci := hcc i hic
          obtain ⟨z, hz⟩ : ∃ z, z = zs[i]'(by omega) := ⟨_, rfl⟩
          rw [show (iv IntKind.i64 zs)[i]? = some (.int .i64 z) by rw [hz]; simp [iv, hzl, hic]] at hci
          have HZi : Hid (zs[i]? = some z ∧ i < cn) := Lib.hid ⟨by rw [hz]; exact List.getElem?_eq_getElem _, hic⟩
          have y1 : ((i : Int) < (cn : Int)) = True := eq_true (by omega)
          have y2 : (0 : Int) ≤ (i : Int) := by omega
          have y2' : (i : Int) < (cn : Int) := by omega
          clear hsc hzl hcc hz hic
          by_cases hz1 : 0 < z
          · have y3 : ((0 : Int) < z) = True := eq_true hz1
            by_cases hz2 : z < (rn : Int)
            · have y4 : (z < (rn : Int)) = True := eq_true hz2
              have HN : Hid (∃ N : Nat, 1 ≤ N ∧ N ≤ rn ∧ i < cn ∧ zs[i]? = some (N : Int)) := Lib.hid ⟨z.toNat, by omega, by omega, HZi.out.2, by rw [HZi.out.1]; congr 1; omega⟩
              clear hz1 hz2
              go_wp2_with fail
              go_meet
              case rel => exact ⟨true, rfl, Lib.hid (fun _ => HN.out), rfl⟩
            · have y4 : (z < (rn : Int)) = False := eq_false hz2
              clear hz1 hz2
              go_wp2_with fail
              go_meet
              case rel => exact ⟨false, rfl, Lib.hid (fun h => by cases h), rfl⟩
          · have y3 : ((0 : Int) < z) = False := eq_false hz1
            clear hz1
            go_wp2_with fail
            go_meet
            case rel => exact ⟨false, rfl, Lib.hid (fun h => by cases h), rfl⟩
        · have y1 : ((i : Int) < (cn : Int)) = False := eq_false (by omega)
          clear hic
          go_wp2_with fail
          go_meet
          case rel => exact ⟨false, rfl, Lib.hid (fun h => by cases h), rfl⟩
      case rest =>
        obtain ⟨bb, rfl, HBb, rfl⟩ := hcut
        go_upto_if 119 with fail
        go_cut [6] (fun v wz => ∃ N : Nat, v = .int .i64 (N : Int) ∧ Hid (1 ≤ N ∧ N ≤ rn) ∧ wr = wz)
        case first =>
          cases bb with
          | true =>
            obtain ⟨N, hn1, hn2, hic, hzi⟩ := HBb.out rfl
            have hsc := HR.out.sc.below HBw2.out
            obtain ⟨cb, co, rfl, hcc⟩ := hsc.cells (by omega)
            have hci := hcc i hic
            rw [show (iv IntKind.i64 zs)[i]? = some (.int .i64 (N : Int)) by simp [iv, hzi]] at hci
            have y2 : (0 : Int) ≤ (i : Int) := by omega
            have y2' : (i : Int) < (cn : Int) := by omega
            have HN := Lib.hid (And.intro hn1 hn2)
            clear hsc hcc hn1 hn2 hic hzi
            go_wp2_with fail
            go_meet
            case rel => exact ⟨N, rfl, HN, rfl⟩
          | false =>
            go_wp2_with fail
            go_meet
            case rel => exact ⟨rn, rfl, Lib.hid ⟨HR0.out, Nat.le_refl _⟩, rfl⟩
        case rest =>
          obtain ⟨N, rfl, HN, rfl⟩ := hcut
          obtain ⟨hn1, hn2⟩ := HN.out
          obtain ⟨rb, ro, rfl, _⟩ := HSl.out.cells HR0.out
          have hcm := HSl.out.cap_le
          have hbl : b.length = bn := HR.out.sb.byte
          obtain ⟨v1, v2⟩ := fcj7 hn2 HRn.out HBg.out
          have hst1 : Sl wr (some ⟨rb, ro, none⟩) N rk (bv ((b.drop p).take N)) := by rw [bv_take]; exact sl_take HSl.out hn2
          obtain ⟨d, hd⟩ : ∃ d, d = (b.drop p).take N := ⟨_, rfl⟩
          rw [← hd] at hst1
          have hdl : d.length = N := hst1.byte
          have HOn := Lib.hid (HSc.out.on hn1 (fcj1 HRn.out hn2 hbl) (by rw [hbl]; exact HBg.out))
          rw [← hd] at HOn
          obtain ⟨hck1, hck2⟩ := chunkL_T (d := d) (by rw [hdl]; exact hn1) (by rw [hdl]; exact v1)
          have hckc := rchunk_any wr hst1
          rw [hck1] at hckc
          have HCk := Lib.hid hckc
          obtain ⟨cl, hcl⟩ : ∃ cl, cl = (chkT d).length := ⟨_, rfl⟩
          have s4 : (strB (chkT d)).size = cl := by rw [strB_size, hcl]
          obtain ⟨y1, y2, y3⟩ := fcj3 hn2 hcm
          have u1 := fcj2 (xn := kn) (Nat.le_trans HKn.out.2 (by decide)) HTq.out.1 (show cl ≤ 9 * N by rw [hcl, ← hdl]; exact hck2) v1
          have HRest : Hid (∀ w', Sl w' (some ⟨rb, ro, none⟩) rn rk (bv (b.drop p)) → Sl w' (if rk = N then some ⟨rb, ro, none⟩ else some ⟨rb, ro + N, none⟩) (rn - N) (rk - N) (bv (b.drop (p + N)))) := Lib.hid (fun w' h => by
            have e : bv (b.drop (p + N)) = (bv (b.drop p)).drop N := by rw [← bv_drop, List.drop_drop]
            split
            · rename_i hk
              obtain ⟨hN, hbl⟩ := fcj6 hn2 hcm hk HRn.out hbl
              have e2 : b.drop (p + N) = [] := List.drop_eq_nil_of_le hbl
              rw [e2, hN, hk, Nat.sub_self]
              exact ⟨rfl, Nat.le_refl _, Nat.zero_le _, fun h => (by cases h), fun h => absurd h (Nat.lt_irrefl _)⟩
            · rw [e]; exact sl_drop h hn2)
          obtain ⟨i1, hi1⟩ : ∃ i1, i1 = i + 1 := ⟨_, rfl⟩
          obtain ⟨y5, y6⟩ := fcj4 HIp.out HTq.out.2 HBg.out hi1
          obtain ⟨r1, r2, r3⟩ := fcj5 HIp.out hi1 hn1 hn2 HRn.out HTq.out.2
          have HI1 := Lib.hid r1
          have HR2 := Lib.hid (And.intro r2 r3)
          have HSn : Hid (S ++ strB (chkT d) = strB (X ++ (Tq ++ chkT d))) := Lib.hid (by rw [HS.out, strB_append, List.append_assoc])
          clear hn1 hn2 hcm hst1 hd hdl hck1 hck2 hckc hcl hi1 v1 v2 r1 r2 r3 hbl p4
          go_wp2_with fail
          refine HCk.out.mono ?_
          rintro e w7 ⟨rfl, hb7⟩
          have HB7 : Hid (Below w5.heap.size w5 w7) := Lib.hid (HBw.out.trans (hb7.mono HBw.out.size))
          have HSl7 := Lib.hid (HRest.out _ (HSl.out.below hb7))
          clear hb7 HCk
          go_wp2_with fail
          go_roundw
          case rel => exact ⟨S ++ strB (chkT d), Tq ++ chkT d, ds ++ [d], p + N, i1, rn - N, _, rk - N, rfl, rfl, rfl, HSn.out, HOn.out, HR2.out.1, HI1.out, HSl7.out, HB7.out⟩
          case measure => exact HR2.out.2
    · have z1 : ((0 : Int) < (rn : Int)) = False := eq_false (by omega)
      have z2 : (0 < rn) = False := eq_false hr0
      have hbl : b.length = bn := HR.out.sb.byte
      have hpb : p = bn := by have h1 := HRn.out; have h2 := HTq.out.2; omega
      have HDs : Hid (ds.flatten = b) := Lib.hid (by rw [HSc.out.all, hpb, ← hbl, List.take_length])
      have hll := last_sm HR.out.tz
      have HLs := Lib.hid (rlast_any wr (HR.out.st.below HBw2.out) (Nat.le_trans hll (by decide)))
      obtain ⟨LL, hLL⟩ : ∃ LL, LL = lastL ts := ⟨_, rfl⟩
      rw [← hLL] at HLs hll
      obtain ⟨lln, hlln⟩ : ∃ lln, lln = LL.length := ⟨_, rfl⟩
      have s5 : (strB LL).size = lln := by rw [strB_size, hlln]
      have hYb : kn + tl + lln ≤ 8388608 := by have h1 := HKn.out.2; have h2 := HTq.out.1; omega
      have u1 : ¬ 9223372036854775807 < kn + tl + lln := by omega
      have HLL := Lib.hid hLL
      have HYb := Lib.hid hYb
      have p5 := HHw.out.cell 5 rfl
      clear hr0 hbl hpb hll hLL hlln hYb p4
      go_wp2_with fail
      refine HLs.out.mono ?_
      rintro e w6 ⟨rfl, hb6⟩
      have HB6' : Hid (Below w.heap.size w w6) := Lib.hid (HBw2.out.trans (hb6.mono HBw2.out.size))
      have HS6 : Hid (Has w6 g1 26 (rpC (s : Int) 2 fa fn fc ba bn bc ca cn cc ta tn tc ha hn hc)) := Lib.hid (HHw.out.kept (Kept.of_below (X := none') hb6) (fun h => h))
      clear hb6 p5 HLs
      go_upto_region 22 with fail
      obtain ⟨Y, hY⟩ : ∃ Y, Y = S ++ strB LL := ⟨_, rfl⟩
      have HY := Lib.hid hY
      obtain ⟨yn, hyn⟩ : ∃ yn, yn = kn + tl + lln := ⟨_, rfl⟩
      have s6 : Y.size = yn := by rw [hY, ByteArray.size_append, hsz, s5, hyn]
      have HYn : Hid (yn ≤ 8388608) := Lib.hid (by rw [hyn]; exact HYb.out)
      rw [← hY]
      clear hY hyn u1 s5 hsz
      have hcv := run_str (P := Tryz.prog) (HR.out.sh.below HB6'.out) 23 5 9 Tryz.underlying23 Tryz.underlying5 Tryz.underlying9
      have p3 := HS6.out.cell 3 rfl
      have p6 := HS6.out.cell 6 rfl
      have s3 : (strB h).size = hn := by rw [strB_size]; exact HR.out.sh.byte
      have u1 := bqkj4 (x := yn) (y := hn) HYn.out (Nat.le_trans HR.out.hz (by decide))
      go_upto_region 24 with fail
      have hx : Y ++ strB h = strB (bkT s fs [chkLn2] (ds.flatMap chkT ++ (lastL ts ++ h))) := by
        rw [HY.out, HS.out, HLL.out, HXe.out, HHd.out.1, HSc.out.txt, ← bk_t2, ← strB_append, ← strB_append]
      rw [hx]
      have HTx : Hid (Y ++ strB h = strB (bkT s fs [chkLn2] (ds.flatMap chkT ++ (lastL ts ++ h)))) := Lib.hid hx
      obtain ⟨T, hT⟩ : ∃ T, T = bkT s fs [chkLn2] (ds.flatMap chkT ++ (lastL ts ++ h)) := ⟨_, rfl⟩
      have HTl : Hid (T.length ≤ 16777216) := Lib.hid (by
        have h1 := congrArg ByteArray.size hx
        rw [← hT, strB_size, ByteArray.size_append, s6, s3] at h1
        have := HYn.out
        have := HR.out.hz
        omega)
      rw [← hT]
      have HA : Hid (T.length ≤ 1048576 → allV false T [] false = (⟨h, false, 0, .trailers, true, false, 2, 0⟩, ⟨some (s, fs.map smF ++ [⟨strB traN, strB chkC⟩], 2), b, ts.map smF⟩, 0)) := Lib.hid (fun hl => by
        rw [hT] at hl ⊢
        have h1 := back2 (ds := ds) HSt.out.1 HSt.out.2.1 HSt.out.2.2.1 HSt.out.2.2.2 HG.out.1 HG.out.2 (fun d hd => ⟨fun h0 => (by have := (HSc.out.siz d hd).1; rw [h0] at this; exact absurd this (by decide)), (HSc.out.siz d hd).2⟩) hl
        rw [HDs.out] at h1
        exact h1)
      clear hx hT u1 hcv p3 p6 s3 s6
      have HHt : Hid (Has w6 g1 26 (rpC (s : Int) 2 fa fn fc ba bn bc ca cn cc ta tn tc ha hn hc)) := Lib.hid HS6.out
      have HBt := Lib.hid HB6'.out
      obtain ⟨wt, hwt⟩ : ∃ wt, wt = w6 := ⟨_, rfl⟩
      rw [← hwt] at HHt HBt ⊢
      clear hwt
      obtain ⟨m, hm⟩ : ∃ m, m = T.length := ⟨_, rfl⟩
      have t1 : (strB T).size = m := by rw [strB_size, hm]
      by_cases hbig : 1048576 < m
      · have y5 : ((1048576 : Int) < (m : Int)) = True := eq_true (by omega)
        clear hbig hm
        have HAz := Lib.hid (HAw.out wt HBt.out)
        go_wp2_with fail
        refine HAz.out.mono ?_
        rintro e wz ⟨rfl, hbz⟩
        have HBz := Lib.hid hbz
        clear hbz
        go_wp2
        go_ret
        exact ⟨ret_bool (by simp), HBz.out⟩
      have y5 : ((1048576 : Int) < (m : Int)) = False := eq_false (by omega)
      have hAV := HA.out (by omega)
      have HAV := Lib.hid hAV
      obtain ⟨c7, w7, hcv, hbt, ⟨hc1, hc2⟩, hb7⟩ := conv_bts2 wt T (by have := HTl.out; unfold maxLen; omega)
      obtain ⟨g7, hg7⟩ : ∃ g7, g7 = wt.heap.size := ⟨_, rfl⟩
      rw [← hg7] at hcv hbt
      rw [← hm] at hcv
      have hsl := bts_sl hbt c7 hc1 hc2
      rw [← hm] at hsl
      have HB7 : Hid (Below w.heap.size w w7) := Lib.hid (HBt.out.trans (hb7.mono HBt.out.size))
      have HH7 : Hid (Has w7 g1 26 (rpC (s : Int) 2 fa fn fc ba bn bc ca cn cc ta tn tc ha hn hc)) := Lib.hid (HHt.out.kept (Kept.of_below (X := none') hb7) (fun h => h))
      have HA1 := Lib.hid (all_any w7 (HT.out.below HB7.out) false hsl (by omega) (cuts := []) (ca := none) (cn := 0) (cc := 0) (Sl.empty w7) false)
      clear hbt hc1 hc2 hb7 hg7 hsl hbig hm hAV HA HTl
      have p3 := HH7.out.cell 3 rfl
      go_wp2_with fail
      refine HA1.out.mono ?_
      rintro e w8 ⟨x, rfl, hb8, hok, hft, hdn, hlf⟩
      rw [HAV.out] at hok hft hdn hlf
      obtain ⟨w9, hw9⟩ : ∃ w9, w9 = w8.alloc (.cells #[.int .i64 x.k, .int .i64 x.st, .slice x.fa x.fn x.fc, .int .i64 x.fr, .slice none 0 0, .slice x.ba x.bn x.bc, .slice x.ta x.tn x.tc, .int .i64 x.ft, .bool x.dn, .int .i64 x.lf] 35) := ⟨_, rfl⟩
      obtain ⟨g9, hg9⟩ : ∃ g9, g9 = w8.heap.size := ⟨_, rfl⟩
      have hb9 : Below w8.heap.size w8 w9 := by rw [hw9]; exact (Below.refl _ w8).alloc (Nat.le_refl _) _
      have HX9 : Hid (Has w9 g9 35 x.cs) := Lib.hid (by rw [hw9, hg9]; exact Has.new w8 35 _)
      have hb79 : Below w7.heap.size w7 w9 := hb8.trans (hb9.mono hb8.size)
      have HB9 : Hid (Below w.heap.size w w9) := Lib.hid (HB7.out.trans (hb79.mono HB7.out.size))
      have HH9 : Hid (Has w9 g1 26 (rpC (s : Int) 2 fa fn fc ba bn bc ca cn cc ta tn tc ha hn hc)) := Lib.hid (HH7.out.kept (Kept.of_below (X := none') hb79) (fun h => h))
      have hok9 := hok.kept (X := none') (Kept.of_below hb9) (fun _ _ h => h)
      obtain ⟨h1, h2, h3⟩ := hok9.hd.sl
      have h4 : x.fr = 2 := hok9.hd.2.2.2.1
      have h5 : x.bn = bn := hok9.bn.trans HR.out.sb.byte
      have hbd := (Tl.of hok9.bd).sl
      obtain ⟨h6, h7⟩ := hok9.trs
      have hst : x.st = (s : Int) := h1
      replace hlf : x.lf = (hn : Nat) := by rw [hlf, ← HR.out.sh.byte]; rfl
      replace hft : x.ft = 0 := hft
      replace hdn : x.dn = true := hdn
      have HF9 : Hid (SlS w9 x.fa x.fn x.fc (fs.map smF ++ [⟨strB traN, strB chkC⟩])) := Lib.hid (h3)
      have HTr9 : Hid (SlS w9 x.ta x.tn x.tc (ts.map smF)) := Lib.hid h7
      have HFn : Hid (x.fn = fn + 1) := Lib.hid (by rw [h2]; show (fs.map smF ++ [⟨strB traN, strB chkC⟩] : List Fd).length = _; rw [List.length_append, List.length_map, HR.out.sf.len]; rfl)
      have HTn : Hid (x.tn = tn) := Lib.hid (by rw [h6]; show (ts.map smF).length = _; rw [List.length_map, HR.out.st.len])
      have HSb := Lib.hid (same_any w9 hbd (HR.out.sb.below HB9.out))
      have q1 : w9.cell? ⟨g9, 1, none⟩ = some (.int .i64 (s : Int)) := by rw [← hst]; exact HX9.out.cell 1 rfl
      have q3 : w9.cell? ⟨g9, 3, none⟩ = some (.int .i64 2) := by rw [← h4]; exact HX9.out.cell 3 rfl
      have q5 : w9.cell? ⟨g9, 5, none⟩ = some (.slice x.ba x.bn x.bc) := HX9.out.cell 5 rfl
      have q7 : w9.cell? ⟨g9, 7, none⟩ = some (.int .i64 0) := by rw [← hft]; exact HX9.out.cell 7 rfl
      have q8 : w9.cell? ⟨g9, 8, none⟩ = some (.bool true) := by rw [← hdn]; exact HX9.out.cell 8 rfl
      have HQ9 : Hid (w9.cell? ⟨g9, 9, none⟩ = some (.int .i64 (hn : Nat))) := Lib.hid (by rw [← hlf]; exact HX9.out.cell 9 rfl)
      clear hb8 hb9 hb79 hok hok9 hft hdn hlf h1 h2 h3 h4 h5 h6 h7 hbd hst HA1 HAV hcv p3
      simp only [Xr.cs]
      go_upto_region 27 with fail
      rw [← hw9, ← hg9]
      clear hw9 hg9
      have p0 := HH9.out.cell 0 rfl
      have p2 := HH9.out.cell 2 rfl
      have p3 := HH9.out.cell 3 rfl
      have hsb := HSb.out
      simp only [decide_true] at hsb
      have HSb2 := Lib.hid hsb
      clear hsb HSb
      go_wp2_with fail
      refine HSb2.out.mono ?_
      rintro e wa ⟨rfl, hba⟩
      have HBa : Hid (Below w9.heap.size w9 wa) := Lib.hid hba
      have HBaw : Hid (Below w.heap.size w wa) := Lib.hid (HB9.out.trans (hba.mono HB9.out.size))
      have HSa : Hid (Has wa.drew g9 35 x.cs ∧ Has wa.drew g1 26 (rpC (s : Int) 2 fa fn fc ba bn bc ca cn cc ta tn tc ha hn hc)) := Lib.hid ⟨(HX9.out.kept (Kept.of_below (X := none') hba) (fun h => h)).kept (Kept.drew none' wa) (fun h => h), (HH9.out.kept (Kept.of_below (X := none') hba) (fun h => h)).kept (Kept.drew none' wa) (fun h => h)⟩
      have p1 : wa.cell? ⟨g1, 1, none⟩ = some (.slice fa fn fc) := (HH9.out.kept (Kept.of_below (X := none') hba) (fun h => h)).cell 1 rfl
      clear hba p0 p2 p3 q1 q3 q5 q7 q8 HSb2
      have HSm : Hid (∀ w', Below w.heap.size w w' → Calls Tryz.prog 17 #[.slice fa fn fc] w' (CopyP w' (fs.map smF))) := Lib.hid (fun w' hb => smalls_any w' (HR.out.sf.below hb) HR.out.fz)
      have HFt : Hid (∀ w', Below w9.heap.size w9 w' → SlS w' x.fa fn x.fc (fs.map smF)) := Lib.hid (fun w' hb => by
        have h1 := sls_take (HF9.out.below hb)
        rwa [List.length_map, HR.out.sf.len] at h1)
      have hcap : fn ≤ x.fc := (HFt.out w9 (Below.refl _ _)).cap
      have v1 : decide ((x.fn : Int) < (fn : Int)) = false := by have := HFn.out; exact decide_eq_false (by omega)
      have v2 : ((x.fn : Int) < (fn : Int)) = False := by have := HFn.out; exact eq_false (by omega)
      have v3 : (fn : Int) ≤ (x.fc : Int) := by omega
      have v4 : (0 : Int) ≤ (fn : Int) := by omega
      clear hcap
      have HBad : Hid (Below w9.heap.size w9 wa.drew ∧ Below w.heap.size w wa.drew) := Lib.hid ⟨HBa.out.trans (below_dr wa), HBaw.out.trans (below_dr wa)⟩
      go_upto_region 30 with fail
      refine Mx.region [] (fun w' => Has w' g9 35 x.cs ∧ Has w' g1 26 (rpC (s : Int) 2 fa fn fc ba bn bc ca cn cc ta tn tc ha hn hc)) (by kernel_rfl) (by kernel_rfl) HSa.out ?_
      repeat ((first | (refine Mx.skips (by kernel_rfl) ?_; go_big_quiet_skip) | (refine Mx.quietly rfl ?_; go_big_quiet_want; go_big_quiet_op; go_big_quiet_on)); refine Mx.done ?_)
      refine Mx.cell ⟨g9, 2, none⟩ (.slice x.fa x.fn x.fc) (by kernel_rfl) (by kernel_rfl) (by kernel_rfl) Tryz.isAgg22 (fun w' h => h.1.cell 2 rfl) ?_
      go_big_quiet_want; go_big_quiet_op; go_big_quiet_on; refine Mx.done ?_
      repeat ((first | (refine Mx.skips (by kernel_rfl) ?_; go_big_quiet_skip) | (refine Mx.quietly rfl ?_; go_big_quiet_want; go_big_quiet_op; go_big_quiet_on)); refine Mx.done ?_)
      refine Mx.cell ⟨g9, 2, none⟩ (.slice x.fa x.fn x.fc) (by kernel_rfl) (by kernel_rfl) (by kernel_rfl) Tryz.isAgg22 (fun w' h => h.1.cell 2 rfl) ?_
      go_big_quiet_want; go_big_quiet_op; go_big_quiet_on; refine Mx.done ?_
      repeat ((first | (refine Mx.skips (by kernel_rfl) ?_; go_big_quiet_skip) | (refine Mx.quietly rfl ?_; go_big_quiet_want; go_big_quiet_op; go_big_quiet_on)); refine Mx.done ?_)
      refine Mx.cell ⟨g1, 1, none⟩ (.slice fa fn fc) (by kernel_rfl) (by kernel_rfl) (by kernel_rfl) Tryz.isAgg22 (fun w' h => h.2.cell 1 rfl) ?_
      go_big_quiet_want; go_big_quiet_op; go_big_quiet_on; refine Mx.done ?_
      repeat ((first | (refine Mx.skips (by kernel_rfl) ?_; go_big_quiet_skip) | (refine Mx.quietly rfl ?_; go_big_quiet_want; go_big_quiet_op; go_big_quiet_on)); refine Mx.done ?_)
      refine Mx.loudly (by kernel_rfl) (by kernel_rfl) ?_
      go_wp2_with fail
      refine (HSm.out _ HBad.out.2).mono ?_
      rintro e wb ⟨a2, c2, he, ho2, hb2⟩
      obtain rfl : e = .returned (.slice a2 fn c2) := by rw [he, List.length_map, HR.out.sf.len]
      have HBb : Hid (Below w9.heap.size w9 wb ∧ Below w.heap.size w wb) := Lib.hid ⟨HBad.out.1.trans (hb2.mono HBad.out.1.size), HBad.out.2.trans (hb2.mono HBad.out.2.size)⟩
      have HSb : Hid (Has wb g9 35 x.cs ∧ Has wb g1 26 (rpC (s : Int) 2 fa fn fc ba bn bc ca cn cc ta tn tc ha hn hc)) := Lib.hid ⟨HSa.out.1.kept (Kept.of_below (X := none') hb2) (fun h => h), HSa.out.2.kept (Kept.of_below (X := none') hb2) (fun h => h)⟩
      have hsl2 : SlS wb a2 fn c2 (fs.map smF) := by have h1 := ho2.sl; rwa [List.length_map, HR.out.sf.len] at h1
      have HSame := Lib.hid (sames_eq wb (HFt.out wb HBb.out.1) hsl2)
      clear he ho2 hb2 hsl2 HSm
      go_wp2_with fail
      refine ⟨HSb.out, ?_⟩
      repeat ((first | (refine Mx.skips (by kernel_rfl) ?_; go_big_quiet_skip) | (refine Mx.quietly rfl ?_; go_big_quiet_want; go_big_quiet_op; go_big_quiet_on)); refine Mx.done ?_)
      refine Mx.loudly (by kernel_rfl) (by kernel_rfl) ?_
      go_wp2_with fail
      refine HSame.out.mono ?_
      rintro e wc ⟨rfl, hbc⟩
      have HBc : Hid (Below w9.heap.size w9 wc ∧ Below w.heap.size w wc) := Lib.hid ⟨HBb.out.1.trans (hbc.mono HBb.out.1.size), HBb.out.2.trans (hbc.mono HBb.out.2.size)⟩
      have HSc : Hid (Has wc g9 35 x.cs ∧ Has wc g1 26 (rpC (s : Int) 2 fa fn fc ba bn bc ca cn cc ta tn tc ha hn hc)) := Lib.hid ⟨HSb.out.1.kept (Kept.of_below (X := none') hbc) (fun h => h), HSb.out.2.kept (Kept.of_below (X := none') hbc) (fun h => h)⟩
      clear hbc HSame
      go_wp2_with fail
      refine ⟨HSc.out, ?_⟩
      repeat ((first | (refine Mx.skips (by kernel_rfl) ?_; go_big_quiet_skip) | (refine Mx.quietly rfl ?_; go_big_quiet_want; go_big_quiet_op; go_big_quiet_on)); refine Mx.done ?_)
      refine Mx.nil ?_
      have HScd : Hid (Has wc.drew g9 35 x.cs ∧ Has wc.drew g1 26 (rpC (s : Int) 2 fa fn fc ba bn bc ca cn cc ta tn tc ha hn hc)) := Lib.hid ⟨HSc.out.1.kept (Kept.drew none' wc) (fun h => h), HSc.out.2.kept (Kept.drew none' wc) (fun h => h)⟩
      have HBcd : Hid (Below w9.heap.size w9 wc.drew ∧ Below w.heap.size w wc.drew) := Lib.hid ⟨HBc.out.1.trans (below_dr wc), HBc.out.2.trans (below_dr wc)⟩
      clear v1 v2 v3 v4
      go_upto_region 32 with fail
      refine Mx.region [] (fun w' => Has w' g9 35 x.cs ∧ Has w' g1 26 (rpC (s : Int) 2 fa fn fc ba bn bc ca cn cc ta tn tc ha hn hc)) (by kernel_rfl) (by kernel_rfl) HScd.out ?_
      repeat ((first | (refine Mx.skips (by kernel_rfl) ?_; go_big_quiet_skip) | (refine Mx.quietly rfl ?_; go_big_quiet_want; go_big_quiet_op; go_big_quiet_on)); refine Mx.done ?_)
      refine Mx.cell ⟨g1, 3, none⟩ (.int .i64 2) (by kernel_rfl) (by kernel_rfl) (by kernel_rfl) Tryz.isAgg3 (fun w' h => h.2.cell 3 rfl) ?_
      go_big_quiet_want; go_big_quiet_op; go_big_quiet_on; refine Mx.done ?_
      repeat ((first | (refine Mx.skips (by kernel_rfl) ?_; go_big_quiet_skip) | (refine Mx.quietly rfl ?_; go_big_quiet_want; go_big_quiet_op; go_big_quiet_on)); refine Mx.done ?_)
      refine Mx.cell ⟨g9, 6, none⟩ (.slice x.ta x.tn x.tc) (by kernel_rfl) (by kernel_rfl) (by kernel_rfl) Tryz.isAgg22 (fun w' h => h.1.cell 6 rfl) ?_
      go_big_quiet_want; go_big_quiet_op; go_big_quiet_on; refine Mx.done ?_
      repeat ((first | (refine Mx.skips (by kernel_rfl) ?_; go_big_quiet_skip) | (refine Mx.quietly rfl ?_; go_big_quiet_want; go_big_quiet_op; go_big_quiet_on)); refine Mx.done ?_)
      refine Mx.cell ⟨g1, 5, none⟩ (.slice ta tn tc) (by kernel_rfl) (by kernel_rfl) (by kernel_rfl) Tryz.isAgg22 (fun w' h => h.2.cell 5 rfl) ?_
      go_big_quiet_want; go_big_quiet_op; go_big_quiet_on; refine Mx.done ?_
      repeat ((first | (refine Mx.skips (by kernel_rfl) ?_; go_big_quiet_skip) | (refine Mx.quietly rfl ?_; go_big_quiet_want; go_big_quiet_op; go_big_quiet_on)); refine Mx.done ?_)
      have HSm2 := Lib.hid (smalls_any wc.drew (HR.out.st.below HBcd.out.2) HR.out.tz)
      refine Mx.loudly (by kernel_rfl) (by kernel_rfl) ?_
      go_wp2_with fail
      refine HSm2.out.mono ?_
      rintro e wd ⟨a3, c3, he, ho3, hb3⟩
      obtain rfl : e = .returned (.slice a3 tn c3) := by rw [he, List.length_map, HR.out.st.len]
      have HBd : Hid (Below w9.heap.size w9 wd ∧ Below w.heap.size w wd) := Lib.hid ⟨HBcd.out.1.trans (hb3.mono HBcd.out.1.size), HBcd.out.2.trans (hb3.mono HBcd.out.2.size)⟩
      have HSd : Hid (Has wd g9 35 x.cs ∧ Has wd g1 26 (rpC (s : Int) 2 fa fn fc ba bn bc ca cn cc ta tn tc ha hn hc)) := Lib.hid ⟨HScd.out.1.kept (Kept.of_below (X := none') hb3) (fun h => h), HScd.out.2.kept (Kept.of_below (X := none') hb3) (fun h => h)⟩
      have hsl3 : SlS wd a3 tn c3 (ts.map smF) := by have h1 := ho3.sl; rwa [List.length_map, HR.out.st.len] at h1
      have HSame2 := Lib.hid (sames_eq wd (show SlS wd x.ta tn x.tc (ts.map smF) by rw [← HTn.out]; exact HTr9.out.below HBd.out.1) hsl3)
      have htn := HTn.out
      clear he ho3 hb3 hsl3 HSm2
      go_wp2_with fail
      refine ⟨HSd.out, ?_⟩
      repeat ((first | (refine Mx.skips (by kernel_rfl) ?_; go_big_quiet_skip) | (refine Mx.quietly rfl ?_; go_big_quiet_want; go_big_quiet_op; go_big_quiet_on)); refine Mx.done ?_)
      refine Mx.loudly (by kernel_rfl) (by kernel_rfl) ?_
      go_wp2_with fail
      refine HSame2.out.mono ?_
      rintro e we ⟨rfl, hbe⟩
      have HBe : Hid (Below w9.heap.size w9 we ∧ Below w.heap.size w we) := Lib.hid ⟨HBd.out.1.trans (hbe.mono HBd.out.1.size), HBd.out.2.trans (hbe.mono HBd.out.2.size)⟩
      have HSe : Hid (Has we g9 35 x.cs ∧ Has we g1 26 (rpC (s : Int) 2 fa fn fc ba bn bc ca cn cc ta tn tc ha hn hc)) := Lib.hid ⟨HSd.out.1.kept (Kept.of_below (X := none') hbe) (fun h => h), HSd.out.2.kept (Kept.of_below (X := none') hbe) (fun h => h)⟩
      clear hbe HSame2 htn
      go_wp2_with fail
      refine ⟨HSe.out, ?_⟩
      repeat ((first | (refine Mx.skips (by kernel_rfl) ?_; go_big_quiet_skip) | (refine Mx.quietly rfl ?_; go_big_quiet_want; go_big_quiet_op; go_big_quiet_on)); refine Mx.done ?_)
      refine Mx.nil ?_
      have HBf := HBe
      have HSf := HSe
      have p3 := HSf.out.2.cell 3 rfl
      have p6 := HSf.out.2.cell 6 rfl
      have q9 : World.cell? we ⟨g9, 9, none⟩ = some (.int .i64 (hn : Nat)) := by rw [HBf.out.1.cell (World.block_lt_of_cell? _ _ HQ9.out)]; exact HQ9.out
      have HAz := Lib.hid (HAw.out _ HBf.out.2)
      go_wp2_with fail
      refine HAz.out.mono ?_
      rintro e wz ⟨rfl, hbz⟩
      have HBz := Lib.hid hbz
      clear hbz
      go_wp2
      go_ret
      exact ⟨ret_bool (by simp), HBz.out⟩
set_option maxRecDepth 100000 in
set_option maxHeartbeats 8000000 in
theorem back_fr3 (w : World) (ht : Tab w) (s : Nat) (hs : 200 ≤ s ∧ s < 600 ∧ s ≠ 204 ∧ s ≠ 304) {fa : Option Addr} {fn fc : Nat} {fs : List Fd} {ba : Option Addr} {bn bc : Nat} {b : List UInt8} {ca : Option Addr} {cn cc : Nat} {zs : List Int} {ta : Option Addr} {tn tc : Nat} {ts : List Fd} {ha : Option Addr} {hn hc : Nat} {h : List UInt8} (hr : RepAt w fa fn fc fs ba bn bc b ca cn cc zs ta tn tc ts ha hn hc h) (hg : fs.all gdB = true ∧ ts.all gdB = true) (hbg : bn ≤ 16384) :
    Calls Tryz.prog 5 #[.agg #[.int .i64 (s : Int), .slice fa fn fc, .slice ba bn bc, .int .i64 3, .slice ca cn cc, .slice ta tn tc, .slice ha hn hc]] w (BoolOf w true) := by
  obtain ⟨w1, hw1⟩ : ∃ w1, w1 = w.alloc (.cells #[.int .i64 (s : Int), .slice fa fn fc, .slice ba bn bc, .int .i64 3, .slice ca cn cc, .slice ta tn tc, .slice ha hn hc] 26) := ⟨_, rfl⟩
  obtain ⟨g1, hg1⟩ : ∃ g1, g1 = w.heap.size := ⟨_, rfl⟩
  have hh1 : Has w1 g1 26 (rpC (s : Int) 3 fa fn fc ba bn bc ca cn cc ta tn tc ha hn hc) := by rw [hw1, hg1]; exact Has.new w 26 _
  have hb1 : Below w.heap.size w w1 := by rw [hw1]; exact (Below.refl _ w).alloc (Nat.le_refl _) _
  have HB1 := Lib.hid hb1
  have HR := Lib.hid hr
  have HT := Lib.hid ht
  have HAw : Hid (∀ w', Below w.heap.size w w' → Calls Tryz.prog 7 #[] w' (BoolOf w true)) := Lib.hid (fun w' (hb : Below w.heap.size w w') => (awake20_any w' (HT.out.below hb)).mono (by
    rintro e w7 ⟨h1, h2⟩
    exact ⟨h1, hb.trans (h2.mono hb.size)⟩))
  have HGf : Hid (∀ w', Below w.heap.size w w' → Calls Tryz.prog 14 #[.slice fa fn fc] w' (BoolOf w' (fs.all gdB))) := Lib.hid (fun w' hb => good_any w' (HR.out.sf.below hb) HR.out.fz)
  have HGt : Hid (∀ w', Below w.heap.size w w' → Calls Tryz.prog 14 #[.slice ta tn tc] w' (BoolOf w' (ts.all gdB))) := Lib.hid (fun w' hb => good_any w' (HR.out.st.below hb) HR.out.tz)
  have HH1 := Lib.hid hh1
  have HSt := Lib.hid hs
  have HG := Lib.hid hg
  have HBg := Lib.hid hbg
  obtain ⟨y1, y2, y3, y4, y5, y6⟩ := bqkj1 hs.1 hs.2.1 hs.2.2.1 hs.2.2.2
  have y7 : ((16384 : Int) < (bn : Int)) = False := eq_false (by omega)
  rw [hg.1] at HGf
  rw [hg.2] at HGt
  have p0 := HH1.out.cell 0 rfl
  have p1 := HH1.out.cell 1 rfl
  have p2 := HH1.out.cell 2 rfl
  have p3 := HH1.out.cell 3 rfl
  have p5 := HH1.out.cell 5 rfl
  clear ht hr hs hg hbg hh1 hb1
  go_enter Tryz.func5, Tryz.ntmps5
  go_upto_region 1 with fail
  rw [← hw1, ← hg1]
  clear hw1 hg1
  go_wp2_with fail
  refine (HGf.out w1 HB1.out).mono ?_
  rintro e w2 ⟨rfl, hb2⟩
  have HB2 : Hid (Below w.heap.size w w2) := Lib.hid (HB1.out.trans (hb2.mono HB1.out.size))
  have HH2 : Hid (Has w2 g1 26 (rpC (s : Int) 3 fa fn fc ba bn bc ca cn cc ta tn tc ha hn hc)) := Lib.hid (HH1.out.kept (Kept.of_below (X := none') hb2) (fun h => h))
  clear hb2 p0 p1 p2 p3 p5
  have p2 := HH2.out.cell 2 rfl
  have p3 := HH2.out.cell 3 rfl
  have p5 := HH2.out.cell 5 rfl
  go_wp2_with fail
  refine (HGt.out w2 HB2.out).mono ?_
  rintro e w3 ⟨rfl, hb3⟩
  have HB3 : Hid (Below w.heap.size w w3) := Lib.hid (HB2.out.trans (hb3.mono HB2.out.size))
  have HH3 : Hid (Has w3 g1 26 (rpC (s : Int) 3 fa fn fc ba bn bc ca cn cc ta tn tc ha hn hc)) := Lib.hid (HH2.out.kept (Kept.of_below (X := none') hb3) (fun h => h))
  clear hb3 p2 p3 p5
  have p2 := HH3.out.cell 2 rfl
  have p3 := HH3.out.cell 3 rfl
  -- the head
  have HB3d : Hid (Below w.heap.size w w3.drew) := Lib.hid (HB3.out.trans (below_dr w3))
  have HS3 : Hid (Has w3.drew g1 26 (rpC (s : Int) 3 fa fn fc ba bn bc ca cn cc ta tn tc ha hn hc)) := Lib.hid (HH3.out.kept (Kept.drew none' w3) (fun h => h))
  have HDs := Lib.hid (fun w' => digits_any w' s (by have := HSt.out; omega))
  obtain ⟨L, hL⟩ : ∃ L, L = linesE (fs.map fline) := ⟨_, rfl⟩
  have HLn : Hid (∀ w', Below w.heap.size w w' → Calls Tryz.prog 15 #[.slice fa fn fc] w' (StrOf w' L)) := Lib.hid (fun w' hb => by rw [hL]; exact lines_any w' (HR.out.sf.below hb) HR.out.fz)
  obtain ⟨dn, hdn⟩ : ∃ dn, dn = (Lib.decDigits s).length := ⟨_, rfl⟩
  obtain ⟨ln, hln⟩ : ∃ ln, ln = L.length := ⟨_, rfl⟩
  have s1 : (strB (Lib.decDigits s)).size = dn := by rw [strB_size, hdn]
  have s2 : (strB L).size = ln := by rw [strB_size, hln]
  obtain ⟨u1, u2, u3⟩ := bqkj2 (dn := dn) (ln := ln) (by rw [hdn]; exact dec_lt 4 s (by have := HSt.out; omega)) (by rw [hln, hL, lnE_len]; exact HR.out.fz)
  obtain ⟨Hd, hHd⟩ : ∃ Hd, Hd = linesE (stLn s :: fs.map fline) := ⟨_, rfl⟩
  have HHd : Hid (Hd = linesE (stLn s :: fs.map fline) ∧ Hd.length ≤ 1048600) := Lib.hid ⟨hHd, by rw [hHd]; exact hd_len (by have := HSt.out; omega) HR.out.fz⟩
  have HX : Hid ((⟨#[72, 84, 84, 80, 47, 49, 46, 49, 32]⟩ : ByteArray) ++ strB (Lib.decDigits s) ++ (⟨#[32, 13, 10]⟩ : ByteArray) ++ strB L = strB Hd) := Lib.hid (by rw [hL, hHd]; exact bk_hd s fs)
  clear hL hdn hln hHd
  go_upto_region 3 with fail
  clear p2 p3 y1 y2 y3 y4 y5 y6 y7
  refine Mx.region [] (fun w' => Has w' g1 26 (rpC (s : Int) 3 fa fn fc ba bn bc ca cn cc ta tn tc ha hn hc)) (by kernel_rfl) (by kernel_rfl) HS3.out ?_
  repeat ((first | (refine Mx.skips (by kernel_rfl) ?_; go_big_quiet_skip) | (refine Mx.quietly rfl ?_; go_big_quiet_want; go_big_quiet_op; go_big_quiet_on)); refine Mx.done ?_)
  refine Mx.cell ⟨g1, 0, none⟩ (.int .i64 (s : Int)) (by kernel_rfl) (by kernel_rfl) (by kernel_rfl) Tryz.isAgg3 (fun w' h => h.cell 0 rfl) ?_
  go_big_quiet_want; go_big_quiet_op; go_big_quiet_on; refine Mx.done ?_
  repeat ((first | (refine Mx.skips (by kernel_rfl) ?_; go_big_quiet_skip) | (refine Mx.quietly rfl ?_; go_big_quiet_want; go_big_quiet_op; go_big_quiet_on)); refine Mx.done ?_)
  refine Mx.loudly (by kernel_rfl) (by kernel_rfl) ?_
  go_wp2_with fail
  refine (HDs.out _).mono ?_
  rintro e w4 ⟨rfl, hb4⟩
  have HB4 : Hid (Below w.heap.size w w4) := Lib.hid (HB3d.out.trans (hb4.mono HB3d.out.size))
  have HS4 : Hid (Has w4 g1 26 (rpC (s : Int) 3 fa fn fc ba bn bc ca cn cc ta tn tc ha hn hc)) := Lib.hid (HS3.out.kept (Kept.of_below (X := none') hb4) (fun h => h))
  clear hb4
  go_wp2_with fail
  refine ⟨HS4.out, ?_⟩
  repeat ((first | (refine Mx.skips (by kernel_rfl) ?_; go_big_quiet_skip) | (refine Mx.quietly rfl ?_; go_big_quiet_want; go_big_quiet_op; go_big_quiet_on)); refine Mx.done ?_)
  refine Mx.cell ⟨g1, 1, none⟩ (.slice fa fn fc) (by kernel_rfl) (by kernel_rfl) (by kernel_rfl) Tryz.isAgg22 (fun w' h => h.cell 1 rfl) ?_
  go_big_quiet_want; go_big_quiet_op; go_big_quiet_on; refine Mx.done ?_
  repeat ((first | (refine Mx.skips (by kernel_rfl) ?_; go_big_quiet_skip) | (refine Mx.quietly rfl ?_; go_big_quiet_want; go_big_quiet_op; go_big_quiet_on)); refine Mx.done ?_)
  refine Mx.loudly (by kernel_rfl) (by kernel_rfl) ?_
  go_wp2_with fail
  refine (HLn.out _ HB4.out).mono ?_
  rintro e w5 ⟨rfl, hb5⟩
  have HB5 : Hid (Below w.heap.size w w5) := Lib.hid (HB4.out.trans (hb5.mono HB4.out.size))
  have HH5 : Hid (Has w5 g1 26 (rpC (s : Int) 3 fa fn fc ba bn bc ca cn cc ta tn tc ha hn hc)) := Lib.hid (HS4.out.kept (Kept.of_below (X := none') hb5) (fun h => h))
  clear hb5
  go_wp2_with fail
  refine ⟨HH5.out, ?_⟩
  repeat ((first | (refine Mx.skips (by kernel_rfl) ?_; go_big_quiet_skip) | (refine Mx.quietly rfl ?_; go_big_quiet_want; go_big_quiet_op; go_big_quiet_on)); refine Mx.done ?_)
  refine Mx.nil ?_
  have hx := HX.out
  rw [hx]
  clear hx s1 s2 u1 u2 u3 HX HDs HLn HS3 HS4
  obtain ⟨xn, hxn⟩ : ∃ xn, xn = Hd.length := ⟨_, rfl⟩
  have s1 : (strB Hd).size = xn := by rw [strB_size, hxn]
  have HXn : Hid (xn = Hd.length ∧ xn ≤ 1048600) := Lib.hid ⟨hxn, by rw [hxn]; exact HHd.out.2⟩
  clear hxn
  have s2 : (strB b).size = bn := by rw [strB_size]; exact HR.out.sb.byte
  have s3 : (strB h).size = hn := by rw [strB_size]; exact HR.out.sh.byte
  have p2 := HH5.out.cell 2 rfl
  have p3 := HH5.out.cell 3 rfl
  have hcv := run_str (P := Tryz.prog) (HR.out.sb.below HB5.out) 23 5 9 Tryz.underlying23 Tryz.underlying5 Tryz.underlying9
  obtain ⟨u1, u2⟩ := bqkj5 (x := xn) (bn := bn) HXn.out.2 HBg.out
  go_upto_region 24 with fail
  have hx : strB Hd ++ ((⟨#[13, 10]⟩ : ByteArray) ++ strB b) = strB (bkT s fs [] b) := by rw [HHd.out.1, ← bk_t3]; rfl
  rw [hx]
  obtain ⟨T, hT⟩ : ∃ T, T = bkT s fs [] b := ⟨_, rfl⟩
  have HTl : Hid (T.length ≤ 16777216) := Lib.hid (by
    have h1 := congrArg ByteArray.size hx
    rw [← hT, strB_size, ByteArray.size_append, ByteArray.size_append, s1, s2] at h1
    have := HXn.out
    have := HBg.out
    have h2 : ((⟨#[13, 10]⟩ : ByteArray)).size = 2 := rfl
    omega)
  rw [← hT]
  have HA : Hid (T.length ≤ 1048576 → allV false T [] true = (⟨[], true, 0, .close, true, false, 3, 0⟩, ⟨some (s, fs.map smF, 3), b, []⟩, 0)) := Lib.hid (fun hl => by
    rw [hT] at hl ⊢
    exact back3 HSt.out.1 HSt.out.2.1 HSt.out.2.2.1 HSt.out.2.2.2 HG.out.1 hl)
  clear hx hT u1 u2 hcv p2 p3 s1 s2
  have HHt : Hid (Has w5 g1 26 (rpC (s : Int) 3 fa fn fc ba bn bc ca cn cc ta tn tc ha hn hc)) := Lib.hid HH5.out
  have HBt := Lib.hid HB5.out
  obtain ⟨wt, hwt⟩ : ∃ wt, wt = w5 := ⟨_, rfl⟩
  rw [← hwt] at HHt HBt ⊢
  clear hwt
  obtain ⟨m, hm⟩ : ∃ m, m = T.length := ⟨_, rfl⟩
  have t1 : (strB T).size = m := by rw [strB_size, hm]
  by_cases hbig : 1048576 < m
  · have y5 : ((1048576 : Int) < (m : Int)) = True := eq_true (by omega)
    clear hbig hm
    have HAz := Lib.hid (HAw.out wt HBt.out)
    go_wp2_with fail
    refine HAz.out.mono ?_
    rintro e wz ⟨rfl, hbz⟩
    have HBz := Lib.hid hbz
    clear hbz
    go_wp2
    go_ret
    exact ⟨ret_bool (by simp), HBz.out⟩
  have y5 : ((1048576 : Int) < (m : Int)) = False := eq_false (by omega)
  have hAV := HA.out (by omega)
  have HAV := Lib.hid hAV
  obtain ⟨c7, w7, hcv, hbt, ⟨hc1, hc2⟩, hb7⟩ := conv_bts2 wt T (by have := HTl.out; unfold maxLen; omega)
  obtain ⟨g7, hg7⟩ : ∃ g7, g7 = wt.heap.size := ⟨_, rfl⟩
  rw [← hg7] at hcv hbt
  rw [← hm] at hcv
  have hsl := bts_sl hbt c7 hc1 hc2
  rw [← hm] at hsl
  have HB7 : Hid (Below w.heap.size w w7) := Lib.hid (HBt.out.trans (hb7.mono HBt.out.size))
  have HH7 : Hid (Has w7 g1 26 (rpC (s : Int) 3 fa fn fc ba bn bc ca cn cc ta tn tc ha hn hc)) := Lib.hid (HHt.out.kept (Kept.of_below (X := none') hb7) (fun h => h))
  have HA1 := Lib.hid (all_any w7 (HT.out.below HB7.out) false hsl (by omega) (cuts := []) (ca := none) (cn := 0) (cc := 0) (Sl.empty w7) true)
  clear hbt hc1 hc2 hb7 hg7 hsl hbig hm hAV HA HTl
  have p3 := HH7.out.cell 3 rfl
  go_wp2_with fail
  refine HA1.out.mono ?_
  rintro e w8 ⟨x, rfl, hb8, hok, hft, hdn, hlf⟩
  rw [HAV.out] at hok hft hdn hlf
  obtain ⟨w9, hw9⟩ : ∃ w9, w9 = w8.alloc (.cells #[.int .i64 x.k, .int .i64 x.st, .slice x.fa x.fn x.fc, .int .i64 x.fr, .slice none 0 0, .slice x.ba x.bn x.bc, .slice x.ta x.tn x.tc, .int .i64 x.ft, .bool x.dn, .int .i64 x.lf] 35) := ⟨_, rfl⟩
  obtain ⟨g9, hg9⟩ : ∃ g9, g9 = w8.heap.size := ⟨_, rfl⟩
  have hb9 : Below w8.heap.size w8 w9 := by rw [hw9]; exact (Below.refl _ w8).alloc (Nat.le_refl _) _
  have HX9 : Hid (Has w9 g9 35 x.cs) := Lib.hid (by rw [hw9, hg9]; exact Has.new w8 35 _)
  have hb79 : Below w7.heap.size w7 w9 := hb8.trans (hb9.mono hb8.size)
  have HB9 : Hid (Below w.heap.size w w9) := Lib.hid (HB7.out.trans (hb79.mono HB7.out.size))
  have HH9 : Hid (Has w9 g1 26 (rpC (s : Int) 3 fa fn fc ba bn bc ca cn cc ta tn tc ha hn hc)) := Lib.hid (HH7.out.kept (Kept.of_below (X := none') hb79) (fun h => h))
  have hok9 := hok.kept (X := none') (Kept.of_below hb9) (fun _ _ h => h)
  obtain ⟨h1, h2, h3⟩ := hok9.hd.sl
  have h4 : x.fr = 3 := hok9.hd.2.2.2.1
  have h5 : x.bn = bn := hok9.bn.trans HR.out.sb.byte
  have hbd := (Tl.of hok9.bd).sl
  obtain ⟨h6, h7⟩ := hok9.trs
  have hst : x.st = (s : Int) := h1
  replace hlf : x.lf = (0 : Nat) := by rw [hlf]; rfl
  replace hft : x.ft = 0 := hft
  replace hdn : x.dn = true := hdn
  have HF9 : Hid (SlS w9 x.fa x.fn x.fc (fs.map smF ++ [])) := Lib.hid (by rw [List.append_nil]; exact h3)
  have HTr9 : Hid (SlS w9 x.ta x.tn x.tc ([])) := Lib.hid h7
  have HFn : Hid (x.fn = fn + 0) := Lib.hid (by rw [h2]; show (fs.map smF : List Fd).length = _; rw [List.length_map, HR.out.sf.len]; rfl)
  have HTn : Hid (x.tn = 0) := Lib.hid (by rw [h6]; rfl)
  have HSb := Lib.hid (same_any w9 hbd (HR.out.sb.below HB9.out))
  have q1 : w9.cell? ⟨g9, 1, none⟩ = some (.int .i64 (s : Int)) := by rw [← hst]; exact HX9.out.cell 1 rfl
  have q3 : w9.cell? ⟨g9, 3, none⟩ = some (.int .i64 3) := by rw [← h4]; exact HX9.out.cell 3 rfl
  have q5 : w9.cell? ⟨g9, 5, none⟩ = some (.slice x.ba x.bn x.bc) := HX9.out.cell 5 rfl
  have q7 : w9.cell? ⟨g9, 7, none⟩ = some (.int .i64 0) := by rw [← hft]; exact HX9.out.cell 7 rfl
  have q8 : w9.cell? ⟨g9, 8, none⟩ = some (.bool true) := by rw [← hdn]; exact HX9.out.cell 8 rfl
  have HQ9 : Hid (w9.cell? ⟨g9, 9, none⟩ = some (.int .i64 (0 : Nat))) := Lib.hid (by rw [← hlf]; exact HX9.out.cell 9 rfl)
  clear hb8 hb9 hb79 hok hok9 hft hdn hlf h1 h2 h3 h4 h5 h6 h7 hbd hst HA1 HAV hcv p3
  simp only [Xr.cs]
  go_upto_region 27 with fail
  rw [← hw9, ← hg9]
  clear hw9 hg9
  have p0 := HH9.out.cell 0 rfl
  have p2 := HH9.out.cell 2 rfl
  have p3 := HH9.out.cell 3 rfl
  have hsb := HSb.out
  simp only [decide_true] at hsb
  have HSb2 := Lib.hid hsb
  clear hsb HSb
  go_wp2_with fail
  refine HSb2.out.mono ?_
  rintro e wa ⟨rfl, hba⟩
  have HBa : Hid (Below w9.heap.size w9 wa) := Lib.hid hba
  have HBaw : Hid (Below w.heap.size w wa) := Lib.hid (HB9.out.trans (hba.mono HB9.out.size))
  have HSa : Hid (Has wa.drew g9 35 x.cs ∧ Has wa.drew g1 26 (rpC (s : Int) 3 fa fn fc ba bn bc ca cn cc ta tn tc ha hn hc)) := Lib.hid ⟨(HX9.out.kept (Kept.of_below (X := none') hba) (fun h => h)).kept (Kept.drew none' wa) (fun h => h), (HH9.out.kept (Kept.of_below (X := none') hba) (fun h => h)).kept (Kept.drew none' wa) (fun h => h)⟩
  have p1 : wa.cell? ⟨g1, 1, none⟩ = some (.slice fa fn fc) := (HH9.out.kept (Kept.of_below (X := none') hba) (fun h => h)).cell 1 rfl
  clear hba p0 p2 p3 q1 q3 q5 q7 q8 HSb2
  have HSm : Hid (∀ w', Below w.heap.size w w' → Calls Tryz.prog 17 #[.slice fa fn fc] w' (CopyP w' (fs.map smF))) := Lib.hid (fun w' hb => smalls_any w' (HR.out.sf.below hb) HR.out.fz)
  have HFt : Hid (∀ w', Below w9.heap.size w9 w' → SlS w' x.fa fn x.fc (fs.map smF)) := Lib.hid (fun w' hb => by
    have h1 := sls_take (HF9.out.below hb)
    rwa [List.length_map, HR.out.sf.len] at h1)
  have hcap : fn ≤ x.fc := (HFt.out w9 (Below.refl _ _)).cap
  have v1 : decide ((x.fn : Int) < (fn : Int)) = false := by have := HFn.out; exact decide_eq_false (by omega)
  have v2 : ((x.fn : Int) < (fn : Int)) = False := by have := HFn.out; exact eq_false (by omega)
  have v3 : (fn : Int) ≤ (x.fc : Int) := by omega
  have v4 : (0 : Int) ≤ (fn : Int) := by omega
  clear hcap
  have HBad : Hid (Below w9.heap.size w9 wa.drew ∧ Below w.heap.size w wa.drew) := Lib.hid ⟨HBa.out.trans (below_dr wa), HBaw.out.trans (below_dr wa)⟩
  go_upto_region 30 with fail
  refine Mx.region [] (fun w' => Has w' g9 35 x.cs ∧ Has w' g1 26 (rpC (s : Int) 3 fa fn fc ba bn bc ca cn cc ta tn tc ha hn hc)) (by kernel_rfl) (by kernel_rfl) HSa.out ?_
  repeat ((first | (refine Mx.skips (by kernel_rfl) ?_; go_big_quiet_skip) | (refine Mx.quietly rfl ?_; go_big_quiet_want; go_big_quiet_op; go_big_quiet_on)); refine Mx.done ?_)
  refine Mx.cell ⟨g9, 2, none⟩ (.slice x.fa x.fn x.fc) (by kernel_rfl) (by kernel_rfl) (by kernel_rfl) Tryz.isAgg22 (fun w' h => h.1.cell 2 rfl) ?_
  go_big_quiet_want; go_big_quiet_op; go_big_quiet_on; refine Mx.done ?_
  repeat ((first | (refine Mx.skips (by kernel_rfl) ?_; go_big_quiet_skip) | (refine Mx.quietly rfl ?_; go_big_quiet_want; go_big_quiet_op; go_big_quiet_on)); refine Mx.done ?_)
  refine Mx.cell ⟨g9, 2, none⟩ (.slice x.fa x.fn x.fc) (by kernel_rfl) (by kernel_rfl) (by kernel_rfl) Tryz.isAgg22 (fun w' h => h.1.cell 2 rfl) ?_
  go_big_quiet_want; go_big_quiet_op; go_big_quiet_on; refine Mx.done ?_
  repeat ((first | (refine Mx.skips (by kernel_rfl) ?_; go_big_quiet_skip) | (refine Mx.quietly rfl ?_; go_big_quiet_want; go_big_quiet_op; go_big_quiet_on)); refine Mx.done ?_)
  refine Mx.cell ⟨g1, 1, none⟩ (.slice fa fn fc) (by kernel_rfl) (by kernel_rfl) (by kernel_rfl) Tryz.isAgg22 (fun w' h => h.2.cell 1 rfl) ?_
  go_big_quiet_want; go_big_quiet_op; go_big_quiet_on; refine Mx.done ?_
  repeat ((first | (refine Mx.skips (by kernel_rfl) ?_; go_big_quiet_skip) | (refine Mx.quietly rfl ?_; go_big_quiet_want; go_big_quiet_op; go_big_quiet_on)); refine Mx.done ?_)
  refine Mx.loudly (by kernel_rfl) (by kernel_rfl) ?_
  go_wp2_with fail
  refine (HSm.out _ HBad.out.2).mono ?_
  rintro e wb ⟨a2, c2, he, ho2, hb2⟩
  obtain rfl : e = .returned (.slice a2 fn c2) := by rw [he, List.length_map, HR.out.sf.len]
  have HBb : Hid (Below w9.heap.size w9 wb ∧ Below w.heap.size w wb) := Lib.hid ⟨HBad.out.1.trans (hb2.mono HBad.out.1.size), HBad.out.2.trans (hb2.mono HBad.out.2.size)⟩
  have HSb : Hid (Has wb g9 35 x.cs ∧ Has wb g1 26 (rpC (s : Int) 3 fa fn fc ba bn bc ca cn cc ta tn tc ha hn hc)) := Lib.hid ⟨HSa.out.1.kept (Kept.of_below (X := none') hb2) (fun h => h), HSa.out.2.kept (Kept.of_below (X := none') hb2) (fun h => h)⟩
  have hsl2 : SlS wb a2 fn c2 (fs.map smF) := by have h1 := ho2.sl; rwa [List.length_map, HR.out.sf.len] at h1
  have HSame := Lib.hid (sames_eq wb (HFt.out wb HBb.out.1) hsl2)
  clear he ho2 hb2 hsl2 HSm
  go_wp2_with fail
  refine ⟨HSb.out, ?_⟩
  repeat ((first | (refine Mx.skips (by kernel_rfl) ?_; go_big_quiet_skip) | (refine Mx.quietly rfl ?_; go_big_quiet_want; go_big_quiet_op; go_big_quiet_on)); refine Mx.done ?_)
  refine Mx.loudly (by kernel_rfl) (by kernel_rfl) ?_
  go_wp2_with fail
  refine HSame.out.mono ?_
  rintro e wc ⟨rfl, hbc⟩
  have HBc : Hid (Below w9.heap.size w9 wc ∧ Below w.heap.size w wc) := Lib.hid ⟨HBb.out.1.trans (hbc.mono HBb.out.1.size), HBb.out.2.trans (hbc.mono HBb.out.2.size)⟩
  have HSc : Hid (Has wc g9 35 x.cs ∧ Has wc g1 26 (rpC (s : Int) 3 fa fn fc ba bn bc ca cn cc ta tn tc ha hn hc)) := Lib.hid ⟨HSb.out.1.kept (Kept.of_below (X := none') hbc) (fun h => h), HSb.out.2.kept (Kept.of_below (X := none') hbc) (fun h => h)⟩
  clear hbc HSame
  go_wp2_with fail
  refine ⟨HSc.out, ?_⟩
  repeat ((first | (refine Mx.skips (by kernel_rfl) ?_; go_big_quiet_skip) | (refine Mx.quietly rfl ?_; go_big_quiet_want; go_big_quiet_op; go_big_quiet_on)); refine Mx.done ?_)
  refine Mx.nil ?_
  have HScd : Hid (Has wc.drew g9 35 x.cs ∧ Has wc.drew g1 26 (rpC (s : Int) 3 fa fn fc ba bn bc ca cn cc ta tn tc ha hn hc)) := Lib.hid ⟨HSc.out.1.kept (Kept.drew none' wc) (fun h => h), HSc.out.2.kept (Kept.drew none' wc) (fun h => h)⟩
  have HBcd : Hid (Below w9.heap.size w9 wc.drew ∧ Below w.heap.size w wc.drew) := Lib.hid ⟨HBc.out.1.trans (below_dr wc), HBc.out.2.trans (below_dr wc)⟩
  clear v1 v2 v3 v4
  go_upto_region 32 with fail
  refine Mx.region [] (fun w' => Has w' g9 35 x.cs ∧ Has w' g1 26 (rpC (s : Int) 3 fa fn fc ba bn bc ca cn cc ta tn tc ha hn hc)) (by kernel_rfl) (by kernel_rfl) HScd.out ?_
  repeat ((first | (refine Mx.skips (by kernel_rfl) ?_; go_big_quiet_skip) | (refine Mx.quietly rfl ?_; go_big_quiet_want; go_big_quiet_op; go_big_quiet_on)); refine Mx.done ?_)
  refine Mx.cell ⟨g1, 3, none⟩ (.int .i64 3) (by kernel_rfl) (by kernel_rfl) (by kernel_rfl) Tryz.isAgg3 (fun w' h => h.2.cell 3 rfl) ?_
  go_big_quiet_want; go_big_quiet_op; go_big_quiet_on; refine Mx.done ?_
  repeat ((first | (refine Mx.skips (by kernel_rfl) ?_; go_big_quiet_skip) | (refine Mx.quietly rfl ?_; go_big_quiet_want; go_big_quiet_op; go_big_quiet_on)); refine Mx.done ?_)
  refine Mx.nil ?_
  have HBf := HBcd
  have HSf := HScd
  have p3 := HSf.out.2.cell 3 rfl
  have p6 := HSf.out.2.cell 6 rfl
  have q9 : World.cell? wc.drew ⟨g9, 9, none⟩ = some (.int .i64 (0 : Nat)) := by rw [HBf.out.1.cell (World.block_lt_of_cell? _ _ HQ9.out)]; exact HQ9.out
  have HAz := Lib.hid (HAw.out _ HBf.out.2)
  go_wp2_with fail
  refine HAz.out.mono ?_
  rintro e wz ⟨rfl, hbz⟩
  have HBz := Lib.hid hbz
  clear hbz
  go_wp2
  go_ret
  exact ⟨ret_bool (by simp), HBz.out⟩
set_option maxRecDepth 100000 in
set_option maxHeartbeats 8000000 in
theorem back_any (w : World) (ht : Tab w) (st fr : Int) {fa : Option Addr} {fn fc : Nat} {fs : List Fd} {ba : Option Addr} {bn bc : Nat} {b : List UInt8} {ca : Option Addr} {cn cc : Nat} {zs : List Int} {ta : Option Addr} {tn tc : Nat} {ts : List Fd} {ha : Option Addr} {hn hc : Nat} {h : List UInt8} (hr : RepAt w fa fn fc fs ba bn bc b ca cn cc zs ta tn tc ts ha hn hc h) :
    Calls Tryz.prog 5 #[.agg #[.int .i64 st, .slice fa fn fc, .slice ba bn bc, .int .i64 fr, .slice ca cn cc, .slice ta tn tc, .slice ha hn hc]] w (BoolOf w true) := by
  obtain ⟨w1, hw1⟩ : ∃ w1, w1 = w.alloc (.cells #[.int .i64 st, .slice fa fn fc, .slice ba bn bc, .int .i64 fr, .slice ca cn cc, .slice ta tn tc, .slice ha hn hc] 26) := ⟨_, rfl⟩
  obtain ⟨g1, hg1⟩ : ∃ g1, g1 = w.heap.size := ⟨_, rfl⟩
  have hh1 : Has w1 g1 26 (rpC st fr fa fn fc ba bn bc ca cn cc ta tn tc ha hn hc) := by rw [hw1, hg1]; exact Has.new w 26 _
  have hb1 : Below w.heap.size w w1 := by rw [hw1]; exact (Below.refl _ w).alloc (Nat.le_refl _) _
  have HB1 := Lib.hid hb1
  have HR := Lib.hid hr
  have HT := Lib.hid ht
  have HAw : Hid (∀ w', Below w.heap.size w w' → Calls Tryz.prog 7 #[] w' (BoolOf w true)) := Lib.hid (fun w' (hb : Below w.heap.size w w') => (awake20_any w' (HT.out.below hb)).mono (by
    rintro e w7 ⟨h1, h2⟩
    exact ⟨h1, hb.trans (h2.mono hb.size)⟩))
  have HGf : Hid (∀ w', Below w.heap.size w w' → Calls Tryz.prog 14 #[.slice fa fn fc] w' (BoolOf w' (fs.all gdB))) := Lib.hid (fun w' hb => good_any w' (HR.out.sf.below hb) HR.out.fz)
  have HGt : Hid (∀ w', Below w.heap.size w w' → Calls Tryz.prog 14 #[.slice ta tn tc] w' (BoolOf w' (ts.all gdB))) := Lib.hid (fun w' hb => good_any w' (HR.out.st.below hb) HR.out.tz)
  have HH1 := Lib.hid hh1
  have p0 := HH1.out.cell 0 rfl
  have p1 := HH1.out.cell 1 rfl
  have p2 := HH1.out.cell 2 rfl
  have p3 := HH1.out.cell 3 rfl
  have p5 := HH1.out.cell 5 rfl
  by_cases c1 : st < 200
  · have y1 : (st < 200) = True := eq_true c1
    clear ht hr hh1 hb1 c1
    go_enter Tryz.func5, Tryz.ntmps5
    go_upto_region 1 with fail
    rw [← hw1, ← hg1]
    clear hw1 hg1
    have HAz := Lib.hid (HAw.out w1 HB1.out)
    go_wp2_with fail
    refine HAz.out.mono ?_
    rintro e wz ⟨rfl, hbz⟩
    have HBz := Lib.hid hbz
    clear hbz
    go_wp2
    go_ret
    exact ⟨ret_bool (by simp), HBz.out⟩
  have y1 : (st < 200) = False := eq_false c1
  by_cases c2 : 599 < st
  · have y2 : (599 < st) = True := eq_true c2
    clear ht hr hh1 hb1 c1 c2
    go_enter Tryz.func5, Tryz.ntmps5
    go_upto_region 1 with fail
    rw [← hw1, ← hg1]
    clear hw1 hg1
    have HAz := Lib.hid (HAw.out w1 HB1.out)
    go_wp2_with fail
    refine HAz.out.mono ?_
    rintro e wz ⟨rfl, hbz⟩
    have HBz := Lib.hid hbz
    clear hbz
    go_wp2
    go_ret
    exact ⟨ret_bool (by simp), HBz.out⟩
  have y2 : (599 < st) = False := eq_false c2
  by_cases c3 : st = 204
  · subst c3
    clear ht hr hh1 hb1 c1 c2 y1 y2
    go_enter Tryz.func5, Tryz.ntmps5
    go_upto_region 1 with fail
    rw [← hw1, ← hg1]
    clear hw1 hg1
    have HAz := Lib.hid (HAw.out w1 HB1.out)
    go_wp2_with fail
    refine HAz.out.mono ?_
    rintro e wz ⟨rfl, hbz⟩
    have HBz := Lib.hid hbz
    clear hbz
    go_wp2
    go_ret
    exact ⟨ret_bool (by simp), HBz.out⟩
  have y3 : (st == 204) = false := by simpa using c3
  by_cases c4 : st = 304
  · subst c4
    clear ht hr hh1 hb1 c1 c2 c3 y1 y2 y3
    go_enter Tryz.func5, Tryz.ntmps5
    go_upto_region 1 with fail
    rw [← hw1, ← hg1]
    clear hw1 hg1
    have HAz := Lib.hid (HAw.out w1 HB1.out)
    go_wp2_with fail
    refine HAz.out.mono ?_
    rintro e wz ⟨rfl, hbz⟩
    have HBz := Lib.hid hbz
    clear hbz
    go_wp2
    go_ret
    exact ⟨ret_bool (by simp), HBz.out⟩
  have y4 : (st == 304) = false := by simpa using c4
  by_cases c5 : fs.all gdB = true
  rotate_left
  · have c5 : fs.all gdB = false := by simpa using c5
    rw [c5] at HGf
    clear ht hr hh1 hb1 c1 c2 c5
    go_enter Tryz.func5, Tryz.ntmps5
    go_upto_region 1 with fail
    rw [← hw1, ← hg1]
    clear hw1 hg1
    go_wp2_with fail
    refine (HGf.out w1 HB1.out).mono ?_
    rintro e w2 ⟨rfl, hb2⟩
    have HB2 : Hid (Below w.heap.size w w2) := Lib.hid (HB1.out.trans (hb2.mono HB1.out.size))
    have HH2 : Hid (Has w2 g1 26 (rpC st fr fa fn fc ba bn bc ca cn cc ta tn tc ha hn hc)) := Lib.hid (HH1.out.kept (Kept.of_below (X := none') hb2) (fun h => h))
    clear hb2 p0 p1 p2 p3 p5
    have p2 := HH2.out.cell 2 rfl
    have p3 := HH2.out.cell 3 rfl
    have p5 := HH2.out.cell 5 rfl
    have HAz := Lib.hid (HAw.out w2 HB2.out)
    go_wp2_with fail
    refine HAz.out.mono ?_
    rintro e wz ⟨rfl, hbz⟩
    have HBz := Lib.hid hbz
    clear hbz
    go_wp2
    go_ret
    exact ⟨ret_bool (by simp), HBz.out⟩
  rw [c5] at HGf
  by_cases c6 : ts.all gdB = true
  rotate_left
  · have c6 : ts.all gdB = false := by simpa using c6
    rw [c6] at HGt
    clear ht hr hh1 hb1 c1 c2 c5 c6
    go_enter Tryz.func5, Tryz.ntmps5
    go_upto_region 1 with fail
    rw [← hw1, ← hg1]
    clear hw1 hg1
    go_wp2_with fail
    refine (HGf.out w1 HB1.out).mono ?_
    rintro e w2 ⟨rfl, hb2⟩
    have HB2 : Hid (Below w.heap.size w w2) := Lib.hid (HB1.out.trans (hb2.mono HB1.out.size))
    have HH2 : Hid (Has w2 g1 26 (rpC st fr fa fn fc ba bn bc ca cn cc ta tn tc ha hn hc)) := Lib.hid (HH1.out.kept (Kept.of_below (X := none') hb2) (fun h => h))
    clear hb2 p0 p1 p2 p3 p5
    have p2 := HH2.out.cell 2 rfl
    have p3 := HH2.out.cell 3 rfl
    have p5 := HH2.out.cell 5 rfl
    go_wp2_with fail
    refine (HGt.out w2 HB2.out).mono ?_
    rintro e w3 ⟨rfl, hb3⟩
    have HB3 : Hid (Below w.heap.size w w3) := Lib.hid (HB2.out.trans (hb3.mono HB2.out.size))
    have HH3 : Hid (Has w3 g1 26 (rpC st fr fa fn fc ba bn bc ca cn cc ta tn tc ha hn hc)) := Lib.hid (HH2.out.kept (Kept.of_below (X := none') hb3) (fun h => h))
    clear hb3 p2 p3 p5
    have p2 := HH3.out.cell 2 rfl
    have p3 := HH3.out.cell 3 rfl
    have HAz := Lib.hid (HAw.out w3 HB3.out)
    go_wp2_with fail
    refine HAz.out.mono ?_
    rintro e wz ⟨rfl, hbz⟩
    have HBz := Lib.hid hbz
    clear hbz
    go_wp2
    go_ret
    exact ⟨ret_bool (by simp), HBz.out⟩
  rw [c6] at HGt
  by_cases c7 : fr < 1
  · have y5 : (fr < 1) = True := eq_true c7
    clear ht hr hh1 hb1 c1 c2 c5 c6 c7
    go_enter Tryz.func5, Tryz.ntmps5
    go_upto_region 1 with fail
    rw [← hw1, ← hg1]
    clear hw1 hg1
    go_wp2_with fail
    refine (HGf.out w1 HB1.out).mono ?_
    rintro e w2 ⟨rfl, hb2⟩
    have HB2 : Hid (Below w.heap.size w w2) := Lib.hid (HB1.out.trans (hb2.mono HB1.out.size))
    have HH2 : Hid (Has w2 g1 26 (rpC st fr fa fn fc ba bn bc ca cn cc ta tn tc ha hn hc)) := Lib.hid (HH1.out.kept (Kept.of_below (X := none') hb2) (fun h => h))
    clear hb2 p0 p1 p2 p3 p5
    have p2 := HH2.out.cell 2 rfl
    have p3 := HH2.out.cell 3 rfl
    have p5 := HH2.out.cell 5 rfl
    go_wp2_with fail
    refine (HGt.out w2 HB2.out).mono ?_
    rintro e w3 ⟨rfl, hb3⟩
    have HB3 : Hid (Below w.heap.size w w3) := Lib.hid (HB2.out.trans (hb3.mono HB2.out.size))
    have HH3 : Hid (Has w3 g1 26 (rpC st fr fa fn fc ba bn bc ca cn cc ta tn tc ha hn hc)) := Lib.hid (HH2.out.kept (Kept.of_below (X := none') hb3) (fun h => h))
    clear hb3 p2 p3 p5
    have p2 := HH3.out.cell 2 rfl
    have p3 := HH3.out.cell 3 rfl
    have HAz := Lib.hid (HAw.out w3 HB3.out)
    go_wp2_with fail
    refine HAz.out.mono ?_
    rintro e wz ⟨rfl, hbz⟩
    have HBz := Lib.hid hbz
    clear hbz
    go_wp2
    go_ret
    exact ⟨ret_bool (by simp), HBz.out⟩
  have y5 : (fr < 1) = False := eq_false c7
  by_cases c8 : 3 < fr
  · have y6 : (3 < fr) = True := eq_true c8
    clear ht hr hh1 hb1 c1 c2 c5 c6 c7 c8
    go_enter Tryz.func5, Tryz.ntmps5
    go_upto_region 1 with fail
    rw [← hw1, ← hg1]
    clear hw1 hg1
    go_wp2_with fail
    refine (HGf.out w1 HB1.out).mono ?_
    rintro e w2 ⟨rfl, hb2⟩
    have HB2 : Hid (Below w.heap.size w w2) := Lib.hid (HB1.out.trans (hb2.mono HB1.out.size))
    have HH2 : Hid (Has w2 g1 26 (rpC st fr fa fn fc ba bn bc ca cn cc ta tn tc ha hn hc)) := Lib.hid (HH1.out.kept (Kept.of_below (X := none') hb2) (fun h => h))
    clear hb2 p0 p1 p2 p3 p5
    have p2 := HH2.out.cell 2 rfl
    have p3 := HH2.out.cell 3 rfl
    have p5 := HH2.out.cell 5 rfl
    go_wp2_with fail
    refine (HGt.out w2 HB2.out).mono ?_
    rintro e w3 ⟨rfl, hb3⟩
    have HB3 : Hid (Below w.heap.size w w3) := Lib.hid (HB2.out.trans (hb3.mono HB2.out.size))
    have HH3 : Hid (Has w3 g1 26 (rpC st fr fa fn fc ba bn bc ca cn cc ta tn tc ha hn hc)) := Lib.hid (HH2.out.kept (Kept.of_below (X := none') hb3) (fun h => h))
    clear hb3 p2 p3 p5
    have p2 := HH3.out.cell 2 rfl
    have p3 := HH3.out.cell 3 rfl
    have HAz := Lib.hid (HAw.out w3 HB3.out)
    go_wp2_with fail
    refine HAz.out.mono ?_
    rintro e wz ⟨rfl, hbz⟩
    have HBz := Lib.hid hbz
    clear hbz
    go_wp2
    go_ret
    exact ⟨ret_bool (by simp), HBz.out⟩
  have y6 : (3 < fr) = False := eq_false c8
  by_cases c9 : 16384 < bn
  · have y7 : ((16384 : Int) < (bn : Int)) = True := eq_true (by omega)
    clear ht hr hh1 hb1 c1 c2 c5 c6 c7 c8 c9
    go_enter Tryz.func5, Tryz.ntmps5
    go_upto_region 1 with fail
    rw [← hw1, ← hg1]
    clear hw1 hg1
    go_wp2_with fail
    refine (HGf.out w1 HB1.out).mono ?_
    rintro e w2 ⟨rfl, hb2⟩
    have HB2 : Hid (Below w.heap.size w w2) := Lib.hid (HB1.out.trans (hb2.mono HB1.out.size))
    have HH2 : Hid (Has w2 g1 26 (rpC st fr fa fn fc ba bn bc ca cn cc ta tn tc ha hn hc)) := Lib.hid (HH1.out.kept (Kept.of_below (X := none') hb2) (fun h => h))
    clear hb2 p0 p1 p2 p3 p5
    have p2 := HH2.out.cell 2 rfl
    have p3 := HH2.out.cell 3 rfl
    have p5 := HH2.out.cell 5 rfl
    go_wp2_with fail
    refine (HGt.out w2 HB2.out).mono ?_
    rintro e w3 ⟨rfl, hb3⟩
    have HB3 : Hid (Below w.heap.size w w3) := Lib.hid (HB2.out.trans (hb3.mono HB2.out.size))
    have HH3 : Hid (Has w3 g1 26 (rpC st fr fa fn fc ba bn bc ca cn cc ta tn tc ha hn hc)) := Lib.hid (HH2.out.kept (Kept.of_below (X := none') hb3) (fun h => h))
    clear hb3 p2 p3 p5
    have p2 := HH3.out.cell 2 rfl
    have p3 := HH3.out.cell 3 rfl
    have HAz := Lib.hid (HAw.out w3 HB3.out)
    go_wp2_with fail
    refine HAz.out.mono ?_
    rintro e wz ⟨rfl, hbz⟩
    have HBz := Lib.hid hbz
    clear hbz
    go_wp2
    go_ret
    exact ⟨ret_bool (by simp), HBz.out⟩
  obtain ⟨s, rfl⟩ : ∃ s : Nat, st = (s : Int) := ⟨st.toNat, by omega⟩
  have hs : 200 ≤ s ∧ s < 600 ∧ s ≠ 204 ∧ s ≠ 304 := ⟨by omega, by omega, by omega, by omega⟩
  rcases (by omega : fr = 1 ∨ fr = 2 ∨ fr = 3) with rfl | rfl | rfl
  · exact back_fr1 w ht s hs hr ⟨c5, c6⟩ (by omega)
  · exact back_fr2 w ht s hs hr ⟨c5, c6⟩ (by omega)
  · exact back_fr3 w ht s hs hr ⟨c5, c6⟩ (by omega)
end Go.Proofs.YtfffefhchjnfjaaGreatDoor

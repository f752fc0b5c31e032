/- The awake of layer 16's laws. No condition. -/
import Derived.Test.YtaeanhpdlkgghaaDoorQIs
import Derived.Test.YtaeanhpdlkgghaaDoorQRs
import Derived.Carry
import Derived.Laws.IdiomRangeMap
namespace Go.Proofs.YtaeanhpdlkgghaaDoor
open Go.RowKit

/-- an encoder's cells -/
def encC (la : Option Addr) (ln lc : Nat) (gone cap sum known : Int) (mb : Nat) (oa : Option Addr) (on oc : Nat) (ia : Option Addr) (i_n ic : Nat) (fault most : Int) : List Value :=
  [.slice la ln lc, .int .i64 gone, .int .i64 cap, .int .i64 sum, .int .i64 known, .map (some mb), .slice oa on oc, .slice ia i_n ic, .int .i64 fault, .int .i64 most]
/-- an encoder that has nothing -/
structure Enc0 (w0 w : World) (g mb : Nat) : Prop where
  x : Has w g 80 (encC none 0 0 0 0 0 0 mb none 0 0 none 0 0 0 0)
  m : w.heap[mb]? = some (.map #[] 0)
  bel : Below w0.heap.size w0 w
  ge : w0.heap.size ≤ g
theorem Enc0.below {w0 w w' : World} {g mb : Nat} (h : Enc0 w0 w g mb) (hb : Below w.heap.size w w') : Enc0 w0 w' g mb :=
  ⟨h.x.kept (Kept.of_below (X := none') hb) (fun h => h), by rw [hb.block mb (Array.getElem?_eq_some_iff.1 h.m).1]; exact h.m, h.bel.trans (hb.mono h.bel.size), h.ge⟩
set_option maxRecDepth 100000 in
theorem newenc_0 (w : World) : Calls Tryd.prog 13 #[.int .i64 0, .int .i64 0] w fun e w' => ∃ g mb, e = .returned (.tuple #[.pointer (some ⟨g, 0, none⟩), .int .i64 0]) ∧ Enc0 w w' g mb := by
  have hmm := @run_makeMap Tryd.prog
  obtain ⟨w1, hw1⟩ : ∃ w1, w1 = w.alloc (.map #[] 0) := ⟨_, rfl⟩
  obtain ⟨w2, hw2⟩ : ∃ w2, w2 = w1.alloc (.cells #[.slice none 0 0, .int .i64 0, .int .i64 0, .int .i64 0, .int .i64 0, .map (some w.heap.size), .slice none 0 0, .slice none 0 0, .int .i64 0, .int .i64 0] 80) := ⟨_, rfl⟩
  have hs1 : w1.heap.size = w.heap.size + 1 := by rw [hw1]; simp
  have hE : Enc0 w w2 (w.heap.size + 1) w.heap.size := by
    refine ⟨?_, ?_, ?_, Nat.le_succ _⟩
    · rw [← hs1, hw2]; exact Has.new w1 80 _
    · have hm1 : w1.heap[w.heap.size]? = some (.map #[] 0) := by rw [hw1]; exact heap_alloc_new w _
      rw [hw2, ((Below.refl w1.heap.size w1).alloc (Nat.le_refl _) _).block w.heap.size (by rw [hs1]; exact Nat.lt_succ_self _)]
      exact hm1
    · rw [hw2, hw1]; exact ((Below.refl _ w).alloc (Nat.le_refl _) _).alloc (by simp) _
  have HE := Lib.hid hE
  clear hE hs1
  go_enter Tryd.func13, Tryd.ntmps13
  go_wp2_with fail
  rw [← hw1, ← hw2]
  go_ret2
  exact ⟨_, _, rfl, HE.out⟩
theorem ctj {a b : Nat} (h : a + b ≤ 1099511627776) : RowKit.wrap64 ((a : Int) + (b : Int)) = ((a + b : Nat) : Int) ∧ IntKind.i64.wrap ((a : Int) + (b : Int)) = ((a + b : Nat) : Int) := by
  rw [IntKind.wrap_i64]; unfold RowKit.wrap64; omega
set_option maxRecDepth 100000 in
theorem count_any (w : World) {g : Nat} {la : Option Addr} {ln lc gone : Nat} (c0 : w.cell? ⟨g, 0, none⟩ = some (.slice la ln lc)) (c1 : w.cell? ⟨g, 1, none⟩ = some (.int .i64 (gone : Int))) (hb : gone + ln ≤ 1099511627776) : Calls Tryd.prog 27 #[.pointer (some ⟨g, 0, none⟩)] w (IntOf w ((gone + ln : Nat) : Int)) := by
  obtain ⟨z1, z2⟩ := ctj hb
  clear hb
  go_enter Tryd.func27, Tryd.ntmps27
  go_wp2_with fail
  go_quiet (fail)
  go_wp2
  go_ret
  exact ⟨rfl, ⟨rfl, rfl, rfl, Nat.le_refl _, fun _ _ => rfl⟩⟩
set_option maxRecDepth 100000 in
theorem findx_0 (w : World) (nm va : ByteArray) : Calls Tryd.prog 71 #[.slice none 0 0, .agg #[.string nm, .string va]] w (IntOf w (-1)) := by
  go_enter Tryd.func71, Tryd.ntmps71
  go_wp2
  refine wp_loop_once ?_
  go_wp2
  go_ret
  exact ⟨rfl, (Below.refl _ w).alloc (Nat.le_refl _) _⟩
set_option maxRecDepth 100000 in
theorem contains_0 (w : World) (nm va : ByteArray) : Calls Tryd.prog 58 #[.slice none 0 0, .agg #[.string nm, .string va]] w (BoolOf w false) := by
  obtain ⟨w1, hw1⟩ : ∃ w1, w1 = w.alloc (.cells #[.string nm, .string va] 23) := ⟨_, rfl⟩
  obtain ⟨g1, hg1⟩ : ∃ g1, g1 = w.heap.size := ⟨_, rfl⟩
  have hh : Has w1 g1 23 [.string nm, .string va] := by rw [hw1, hg1]; exact Has.new w 23 _
  have HB1 : Hid (Below w.heap.size w w1) := Lib.hid (by rw [hw1]; exact (Below.refl _ w).alloc (Nat.le_refl _) _)
  have c0 := hh.cell 0 rfl
  have c1 := hh.cell 1 rfl
  have HF := Lib.hid (findx_0 w1 nm va)
  clear hh
  go_enter Tryd.func58, Tryd.ntmps58
  go_upto_region 1 with fail
  rw [← hw1, ← hg1]
  clear hw1 hg1
  go_wp2_with fail
  refine HF.out.mono ?_
  rintro e w2 ⟨rfl, hb2⟩
  have HB2 : Hid (Below w.heap.size w w2) := Lib.hid (HB1.out.trans (hb2.mono HB1.out.size))
  clear hb2
  go_wp2
  go_ret
  exact ⟨ret_bool (by simp), HB2.out⟩
set_option maxRecDepth 100000 in
theorem least_0 {w0 w : World} {g mb : Nat} (h : Enc0 w0 w g mb) : Calls Tryd.prog 32 #[.pointer (some ⟨g, 0, none⟩)] w (IntOf w 0) := by
  have H := Lib.hid h
  have HC := Lib.hid (count_any w (g := g) (gone := 0) (h.x.cell 0 rfl) (h.x.cell 1 rfl) (by decide))
  clear h
  go_enter Tryd.func32, Tryd.ntmps32
  go_wp2_with fail
  refine HC.out.mono ?_
  rintro e w1 ⟨rfl, hb1⟩
  have H1 := Lib.hid (H.out.below hb1)
  have HB1 := Lib.hid hb1
  have c5 := H1.out.x.cell 5 rfl
  unfold encC at c5
  have hrg := run_range_map (P := Tryd.prog) w1 78 3 88 mb #[] 0 Tryd.underlying78 H1.out.m
  have hnx : ∀ ty, (Instr.next (.pointer (some ⟨w1.heap.size, 0, none⟩)) false ty).run Tryd.prog (w1.alloc (.mapIter (some mb) 0 #[] 0)) = .ok (.tuple #[.bool false]) (w1.alloc (.mapIter (some mb) 0 #[] 0)) := by
    intro ty
    rcases run_next_map (P := Tryd.prog) w1 ty mb 0 0 #[] #[] 0 H1.out.m (by simp) (Nat.le_refl _) with ⟨_, h⟩ | ⟨e, he, _⟩
    · exact h
    · simp [leftOf] at he
  clear hb1
  go_wp2_with fail
  refine wp_loop_once ?_
  go_wp2
  go_ret
  exact ⟨rfl, HB1.out.alloc HB1.out.size _⟩
theorem Enc0.drew {w0 w : World} {g mb : Nat} (h : Enc0 w0 w g mb) : Enc0 w0 w.drew g mb := h.below ⟨rfl, rfl, rfl, Nat.le_refl _, fun _ _ => rfl⟩
set_option maxRecDepth 100000 in
theorem find_0 {w0 w : World} {g mb : Nat} (h : Enc0 w0 w g mb) (nm va : ByteArray) : Calls Tryd.prog 34 #[.pointer (some ⟨g, 0, none⟩), .agg #[.string nm, .string va]] w (IntOf w (-1)) := by
  obtain ⟨w1, hw1⟩ : ∃ w1, w1 = w.alloc (.cells #[.string nm, .string va] 23) := ⟨_, rfl⟩
  have hb1 : Below w.heap.size w w1 := by rw [hw1]; exact (Below.refl _ w).alloc (Nat.le_refl _) _
  have HB1 : Hid (Below w.heap.size w w1.drew) := Lib.hid (hb1.trans ⟨rfl, rfl, rfl, Nat.le_refl _, fun _ _ => rfl⟩)
  have h1 := (h.below hb1).drew
  have H1 := Lib.hid h1
  have HC := Lib.hid (count_any w1.drew (g := g) (gone := 0) (h1.x.cell 0 rfl) (h1.x.cell 1 rfl) (by decide))
  clear h hb1 h1
  go_enter Tryd.func34, Tryd.ntmps34
  go_upto_region 1 with fail
  rw [← hw1]
  clear hw1
  refine Mx.region [] (fun w' => Enc0 w0 w' g mb) (by kernel_rfl) (by kernel_rfl) H1.out ?_
  repeat ((first | (refine Mx.skips (by kernel_rfl) ?_; go_big_quiet_skip) | (refine Mx.quietly rfl ?_; go_big_quiet_want; go_big_quiet_op; go_big_quiet_on)); refine Mx.done ?_)
  refine Mx.cell ⟨g, 4, none⟩ (.int .i64 0) (by kernel_rfl) (by kernel_rfl) (by kernel_rfl) Tryd.isAgg3 (fun w' h => h.x.cell 4 rfl) ?_
  go_big_quiet_want; go_big_quiet_op; go_big_quiet_on; refine Mx.done ?_
  repeat ((first | (refine Mx.skips (by kernel_rfl) ?_; go_big_quiet_skip) | (refine Mx.quietly rfl ?_; go_big_quiet_want; go_big_quiet_op; go_big_quiet_on)); refine Mx.done ?_)
  refine Mx.loudly (by kernel_rfl) (by kernel_rfl) ?_
  go_wp2_with fail
  refine HC.out.mono ?_
  rintro e w2 ⟨rfl, hb2⟩
  have H2 := Lib.hid (H1.out.below hb2)
  have HB2 : Hid (Below w.heap.size w w2) := Lib.hid (HB1.out.trans (hb2.mono HB1.out.size))
  clear hb2
  go_wp2_with fail
  refine ⟨H2.out, ?_⟩
  repeat ((first | (refine Mx.skips (by kernel_rfl) ?_; go_big_quiet_skip) | (refine Mx.quietly rfl ?_; go_big_quiet_want; go_big_quiet_op; go_big_quiet_on)); refine Mx.done ?_)
  refine Mx.nil ?_
  have c1 := H2.out.x.cell 1 rfl
  unfold encC at c1
  go_wp2_with fail
  refine wp_loop_once ?_
  go_wp2
  go_ret
  exact ⟨rfl, HB2.out⟩
set_option maxRecDepth 100000 in
theorem insert_0 {w0 w : World} {g mb : Nat} (h : Enc0 w0 w g mb) (nm va : ByteArray) (hz : nm.size + va.size ≤ 1048576) (name least : Int) : Calls Tryd.prog 35 #[.pointer (some ⟨g, 0, none⟩), .agg #[.string nm, .string va], .int .i64 name, .int .i64 least] w (fun e w' => e = .returned (.tuple #[]) ∧ Below w.heap.size w w') := by
  obtain ⟨w1, hw1⟩ : ∃ w1, w1 = w.alloc (.cells #[.string nm, .string va] 23) := ⟨_, rfl⟩
  obtain ⟨gf, hgf⟩ : ∃ gf, gf = w.heap.size := ⟨_, rfl⟩
  have hb1 : Below w.heap.size w w1 := by rw [hw1]; exact (Below.refl _ w).alloc (Nat.le_refl _) _
  have hh : Has w1.drew gf 23 [.string nm, .string va] := (show Has w1 gf 23 [.string nm, .string va] by rw [hw1, hgf]; exact Has.new w 23 _).kept (Kept.drew none' w1) (fun h => h)
  have HB1 : Hid (Below w.heap.size w w1.drew) := Lib.hid (hb1.trans ⟨rfl, rfl, rfl, Nat.le_refl _, fun _ _ => rfl⟩)
  have H1 : Hid (Enc0 w0 w1.drew g mb ∧ Has w1.drew gf 23 [.string nm, .string va]) := Lib.hid ⟨(h.below hb1).drew, hh⟩
  have HC := Lib.hid (contains_0 w1.drew nm va)
  have HZ := Lib.hid (fun w' => size1_any w' nm va (Nat.le_trans hz (by decide)))
  obtain ⟨z, hzz⟩ : ∃ z, z = fz ⟨nm, va⟩ := ⟨_, rfl⟩
  rw [← hzz] at HZ
  have y1 : ((0 : Int) < (z : Int)) = True := eq_true (by rw [hzz]; unfold fz; omega)
  have y2 : (0 < z) = True := eq_true (by rw [hzz]; unfold fz; omega)
  clear h hb1 hh hzz hz
  go_enter Tryd.func35, Tryd.ntmps35
  go_upto_region 1 with fail
  rw [← hw1, ← hgf]
  clear hw1 hgf
  refine Mx.region [] (fun w' => Enc0 w0 w' g mb ∧ Has w' gf 23 [.string nm, .string va]) (by kernel_rfl) (by kernel_rfl) H1.out ?_
  repeat ((first | (refine Mx.skips (by kernel_rfl) ?_; go_big_quiet_skip) | (refine Mx.quietly rfl ?_; go_big_quiet_want; go_big_quiet_op; go_big_quiet_on)); refine Mx.done ?_)
  refine Mx.cell ⟨g, 0, none⟩ (.slice none 0 0) (by kernel_rfl) (by kernel_rfl) (by kernel_rfl) Tryd.isAgg43 (fun w' h => h.1.x.cell 0 rfl) ?_
  go_big_quiet_want; go_big_quiet_op; go_big_quiet_on; refine Mx.done ?_
  repeat ((first | (refine Mx.skips (by kernel_rfl) ?_; go_big_quiet_skip) | (refine Mx.quietly rfl ?_; go_big_quiet_want; go_big_quiet_op; go_big_quiet_on)); refine Mx.done ?_)
  refine Mx.mid gf 0 [.string nm, .string va] _ (by kernel_rfl) (by kernel_rfl) (by kernel_rfl) Tryd.underlying23 rfl (by kernel_rfl) (fun w' h => h.2.rangeAt) ?_
  go_big_quiet_want; go_big_quiet_op; go_big_quiet_on; refine Mx.done ?_
  repeat ((first | (refine Mx.skips (by kernel_rfl) ?_; go_big_quiet_skip) | (refine Mx.quietly rfl ?_; go_big_quiet_want; go_big_quiet_op; go_big_quiet_on)); refine Mx.done ?_)
  refine Mx.loudly (by kernel_rfl) (by kernel_rfl) ?_
  go_wp2_with fail
  refine HC.out.mono ?_
  rintro e w2 ⟨rfl, hb2⟩
  have H2 : Hid (Enc0 w0 w2 g mb ∧ Has w2 gf 23 [.string nm, .string va]) := Lib.hid ⟨H1.out.1.below hb2, H1.out.2.kept (Kept.of_below (X := none') hb2) (fun h => h)⟩
  have HB2 : Hid (Below w.heap.size w w2) := Lib.hid (HB1.out.trans (hb2.mono HB1.out.size))
  clear hb2
  go_wp2_with fail
  refine ⟨H2.out, ?_⟩
  repeat ((first | (refine Mx.skips (by kernel_rfl) ?_; go_big_quiet_skip) | (refine Mx.quietly rfl ?_; go_big_quiet_want; go_big_quiet_op; go_big_quiet_on)); refine Mx.done ?_)
  refine Mx.mid gf 0 [.string nm, .string va] _ (by kernel_rfl) (by kernel_rfl) (by kernel_rfl) Tryd.underlying23 rfl (by kernel_rfl) (fun w' h => h.2.rangeAt) ?_
  go_big_quiet_want; go_big_quiet_op; go_big_quiet_on; refine Mx.done ?_
  repeat ((first | (refine Mx.skips (by kernel_rfl) ?_; go_big_quiet_skip) | (refine Mx.quietly rfl ?_; go_big_quiet_want; go_big_quiet_op; go_big_quiet_on)); refine Mx.done ?_)
  refine Mx.loudly (by kernel_rfl) (by kernel_rfl) ?_
  go_wp2_with fail
  refine (HZ.out _).mono ?_
  rintro e w3 ⟨rfl, hb3⟩
  have H3 : Hid (Enc0 w0 w3 g mb ∧ Has w3 gf 23 [.string nm, .string va]) := Lib.hid ⟨H2.out.1.below hb3, H2.out.2.kept (Kept.of_below (X := none') hb3) (fun h => h)⟩
  have HB3 : Hid (Below w.heap.size w w3) := Lib.hid (HB2.out.trans (hb3.mono HB2.out.size))
  clear hb3
  go_wp2_with fail
  refine ⟨H3.out, ?_⟩
  repeat ((first | (refine Mx.skips (by kernel_rfl) ?_; go_big_quiet_skip) | (refine Mx.quietly rfl ?_; go_big_quiet_want; go_big_quiet_op; go_big_quiet_on)); refine Mx.done ?_)
  refine Mx.cell ⟨g, 2, none⟩ (.int .i64 0) (by kernel_rfl) (by kernel_rfl) (by kernel_rfl) Tryd.isAgg3 (fun w' h => h.1.x.cell 2 rfl) ?_
  go_big_quiet_want; go_big_quiet_op; go_big_quiet_on; refine Mx.done ?_
  repeat ((first | (refine Mx.skips (by kernel_rfl) ?_; go_big_quiet_skip) | (refine Mx.quietly rfl ?_; go_big_quiet_want; go_big_quiet_op; go_big_quiet_on)); refine Mx.done ?_)
  refine Mx.nil ?_
  go_wp2
  refine bodyPost_ret (results_none rfl _ _ _) rfl ?_
  exact ⟨rfl, HB3.out⟩
theorem txt_a : (putTextR [97] 3 32).1 = [33, 97] := by kernel_rfl
theorem txt_b : (putTextR [98] 7 0).1 = [1, 98] := by kernel_rfl
theorem inst_ab : inStV ⟨strB [97], strB [98]⟩ = (-1, -1) := by kernel_rfl
theorem fz_ab : fz ⟨strB [97], strB [98]⟩ = 34 := by kernel_rfl
set_option maxRecDepth 100000 in
set_option maxHeartbeats 4000000 in
theorem encode_0 {w0 w : World} {g mb : Nat} (h : Enc0 w0 w g mb) {nm va : ByteArray} (hnm : nm = strB [97]) (hva : va = strB [98]) {a : Option Addr} {c : Nat} (hs : SlS w a 1 c [⟨nm, va⟩]) : Calls Tryd.prog 14 #[.pointer (some ⟨g, 0, none⟩), .int .i64 0, .slice a 1 c] w (fun e w' => ∃ a' c', e = .returned (.tuple #[.slice a' 6 c', .int .i64 0]) ∧ Sl w' a' 6 c' (bv [0, 0, 33, 97, 1, 98]) ∧ Below w.heap.size w w') := by
  have H := Lib.hid h
  obtain ⟨b, o, rfl, hc⟩ := hs.cells (by decide)
  obtain ⟨p0, p1⟩ := hc 0 (by simp)
  simp only [Nat.zero_mul, Nat.add_zero, List.getElem_cons_zero] at p0 p1
  have HP := Lib.hid (And.intro p0 p1)
  have hzz := fun w' => size1_any w' nm va (by rw [hnm, hva]; decide)
  rw [show fz ⟨nm, va⟩ = 34 by rw [hnm, hva]; exact fz_ab] at hzz
  have HZ := Lib.hid hzz
  have HNm := Lib.hid hnm
  have HVa := Lib.hid hva
  clear h hs hc p0 p1 hnm hva hzz
  go_enter Tryd.func14, Tryd.ntmps14
  go_wp2_with fail
  go_loopw [8, 21] (fun sv v wr => ∃ i : Nat, v = .int .i64 (i : Int) ∧ i ≤ 1 ∧ sv = .int .i64 ((34 * i : Nat) : Int) ∧ Below w.heap.size w wr) (fun _ v _ => 1 - (intOf v).toNat)
  case atStart => exact ⟨0, rfl, Nat.zero_le _, rfl, Below.refl _ _⟩
  case round =>
    obtain ⟨i, rfl, hi, rfl, hbw⟩ := hrel
    have HBw := Lib.hid hbw
    clear hbw
    rcases (by omega : i = 0 ∨ i = 1) with rfl | rfl
    · have p0 : wr.cell? ⟨b, o, none⟩ = some (.string (nm)) := by rw [HBw.out.cell (World.block_lt_of_cell? _ _ HP.out.1)]; exact HP.out.1
      have p1 : wr.cell? ⟨b, o + 1, none⟩ = some (.string (va)) := by rw [HBw.out.cell (World.block_lt_of_cell? _ _ HP.out.2)]; exact HP.out.2
      obtain ⟨w2, hw2⟩ : ∃ w2, w2 = wr.alloc (.cells #[.string (nm), .string (va)] 23) := ⟨_, rfl⟩
      obtain ⟨g2, hg2⟩ : ∃ g2, g2 = wr.heap.size := ⟨_, rfl⟩
      have hh2 : Has w2 g2 23 [.string (nm), .string (va)] := by rw [hw2, hg2]; exact Has.new wr 23 _
      have HB2 : Hid (Below w.heap.size w w2) := Lib.hid (by rw [hw2]; exact HBw.out.alloc HBw.out.size _)
      have c0 := hh2.cell 0 rfl
      have c1 := hh2.cell 1 rfl
      clear hh2 hi
      go_upto_region 5 with fail
      rw [← hw2, ← hg2]
      clear hw2 hg2 p0 p1
      go_wp2_with fail
      refine (HZ.out w2).mono ?_
      rintro e w3 ⟨rfl, hb3⟩
      have HB3 : Hid (Below w.heap.size w w3) := Lib.hid (HB2.out.trans (hb3.mono HB2.out.size))
      clear hb3
      go_wp2_with fail
      go_roundw
      case rel => exact ⟨1, rfl, Nat.le_refl _, rfl, HB3.out⟩
      case measure => decide
    · have H1 : Hid (Enc0 w0 wr g mb) := Lib.hid (H.out.below HBw.out)
      have HC := Lib.hid (count_any wr (g := g) (gone := 0) (H1.out.x.cell 0 rfl) (H1.out.x.cell 1 rfl) (by decide))
      clear hi
      go_wp2_with fail
      refine HC.out.mono ?_
      rintro e w2 ⟨rfl, hb2⟩
      obtain ⟨w3, hw3⟩ : ∃ w3, w3 = w2.alloc (.cells #[.int .i64 0, .int .i64 0] 83) := ⟨_, rfl⟩
      obtain ⟨go, hgo⟩ : ∃ go, go = w2.heap.size := ⟨_, rfl⟩
      have hb23 : Below w2.heap.size w2 w3 := by rw [hw3]; exact (Below.refl _ w2).alloc (Nat.le_refl _) _
      have HB2 : Hid (Below w.heap.size w w2) := Lib.hid (HBw.out.trans (hb2.mono HBw.out.size))
      have HB3 : Hid (Below w.heap.size w w3) := Lib.hid (HB2.out.trans (hb23.mono HB2.out.size))
      have H3 := Lib.hid ((H1.out.below hb2).below hb23)
      have HO3 : Hid (Has w3 go 83 [.int .i64 0, .int .i64 0]) := Lib.hid (by rw [hw3, hgo]; exact Has.new w2 83 _)
      have HL3 := Lib.hid (least_0 H3.out)
      clear hb2 hb23
      go_upto_region 13 with fail
      rw [← hw3, ← hgo]
      clear hw3 hgo
      go_wp2_with fail
      refine HL3.out.mono ?_
      rintro e w4 ⟨rfl, hb4⟩
      have HB4 : Hid (Below w.heap.size w w4) := Lib.hid (HB3.out.trans (hb4.mono HB3.out.size))
      have HO4 : Hid (Has w4 go 83 [.int .i64 0, .int .i64 0]) := Lib.hid (HO3.out.kept (Kept.of_below (X := none') hb4) (fun h => h))
      clear hb4 HL3
      go_wp2_with fail
      go_loopw [11, 13, 49] (fun lv kv v wr => ∃ (i n c : Nat) (a : Option Addr) (l : List UInt8), v = .int .i64 (i : Int) ∧ kv = .int .i64 0 ∧ i ≤ 1 ∧ lv = .slice a n c ∧ Hid ((l = if i = 0 then [] else [33, 97, 1, 98]) ∧ (i = 0 → a = none ∧ c = 0)) ∧ n = l.length ∧ wr.ownsRow w4.heap.size 5 1 (.slice a n c) n (bv l) ∧ Below w4.heap.size w4 wr) (fun _ _ v _ => 1 - (intOf v).toNat)
      case atStart => exact ⟨0, 0, 0, none, [], rfl, rfl, Nat.zero_le _, rfl, Lib.hid ⟨rfl, fun _ => ⟨rfl, rfl⟩⟩, rfl, World.ownsRow_nil _ _ _ _, Below.refl _ _⟩
      case round =>
        obtain ⟨i, n, cc, aa, l, rfl, rfl, hi, rfl, hl, hn, hown, hbw⟩ := hrel
        have HB5 : Hid (Below w.heap.size w wr) := Lib.hid (HB4.out.trans (hbw.mono HB4.out.size))
        have HO5 : Hid (Has wr go 83 [.int .i64 0, .int .i64 0]) := Lib.hid (HO4.out.kept (Kept.of_below (X := none') hbw) (fun h => h))
        have HBw5 := Lib.hid hbw
        have HOw := Lib.hid hown
        clear hbw hown
        rcases (by omega : i = 0 ∨ i = 1) with rfl | rfl
        · obtain rfl : l = [] := hl.out.1
          obtain ⟨rfl, rfl⟩ := hl.out.2 rfl
          simp only [List.length_nil] at hn
          subst hn
          have p0 : wr.cell? ⟨b, o, none⟩ = some (.string (nm)) := by rw [HB5.out.cell (World.block_lt_of_cell? _ _ HP.out.1)]; exact HP.out.1
          have p1 : wr.cell? ⟨b, o + 1, none⟩ = some (.string (va)) := by rw [HB5.out.cell (World.block_lt_of_cell? _ _ HP.out.2)]; exact HP.out.2
          obtain ⟨w6, hw6⟩ : ∃ w6, w6 = wr.alloc (.cells #[.string (nm), .string (va)] 23) := ⟨_, rfl⟩
          obtain ⟨g6, hg6⟩ : ∃ g6, g6 = wr.heap.size := ⟨_, rfl⟩
          have HF6 : Hid (Has w6 g6 23 [.string (nm), .string (va)]) := Lib.hid (by rw [hw6, hg6]; exact Has.new wr 23 _)
          have HB6 : Hid (Below w.heap.size w w6) := Lib.hid (by rw [hw6]; exact HB5.out.alloc HB5.out.size _)
          have HOc6 : Hid (Below w4.heap.size w4 w6) := Lib.hid (by rw [hw6]; exact HBw5.out.alloc HBw5.out.size _)
          have c0 := HF6.out.cell 0 rfl
          have c1 := HF6.out.cell 1 rfl
          have hin := inStatic_any w6 nm va (by rw [HNm.out]; decide)
          rw [show inStV ⟨nm, va⟩ = (-1, -1) by rw [HNm.out, HVa.out]; exact inst_ab] at hin
          have HIn := Lib.hid hin
          clear hi hin
          go_upto_region 17 with fail
          rw [← hw6, ← hg6]
          clear hw6 hg6 p0 p1
          go_wp2_with fail
          refine HIn.out.mono ?_
          rintro e w7 ⟨rfl, hb7⟩
          have HF7 : Hid (Has w7 g6 23 [.string (nm), .string (va)]) := Lib.hid (HF6.out.kept (Kept.of_below (X := none') hb7) (fun h => h))
          have HB7 : Hid (Below w.heap.size w w7) := Lib.hid (HB6.out.trans (hb7.mono HB6.out.size))
          have HOc7 : Hid (Below w4.heap.size w4 w7) := Lib.hid (HOc6.out.trans (hb7.mono HOc6.out.size))
          have HFi := Lib.hid (find_0 (H.out.below HB7.out) (nm) (va))
          clear hb7 c0 c1 HIn
          have c0 := HF7.out.cell 0 rfl
          have c1 := HF7.out.cell 1 rfl
          go_wp2_with fail
          refine HFi.out.mono ?_
          rintro e w8 ⟨rfl, hb8⟩
          have HF8 : Hid (Has w8 g6 23 [.string (nm), .string (va)]) := Lib.hid (HF7.out.kept (Kept.of_below (X := none') hb8) (fun h => h))
          have HB8 : Hid (Below w.heap.size w w8) := Lib.hid (HB7.out.trans (hb8.mono HB7.out.size))
          have HOc8 : Hid (Below w4.heap.size w4 w8) := Lib.hid (HOc7.out.trans (hb8.mono HOc7.out.size))
          have HNs := Lib.hid (insert_0 (H.out.below HB8.out) nm va (by rw [HNm.out, HVa.out]; decide) (-1) 0)
          clear hb8 c0 c1 HFi
          have c0 := HF8.out.cell 0 rfl
          have c1 := HF8.out.cell 1 rfl
          go_upto_region 24 with fail
          go_wp2_with fail
          refine HNs.out.mono ?_
          rintro e w9 ⟨rfl, hb9⟩
          have HF9 : Hid (Has w9 g6 23 [.string (nm), .string (va)]) := Lib.hid (HF8.out.kept (Kept.of_below (X := none') hb9) (fun h => h))
          have HB9 : Hid (Below w.heap.size w w9) := Lib.hid (HB8.out.trans (hb9.mono HB8.out.size))
          have HOc9 : Hid (Below w4.heap.size w4 w9) := Lib.hid (HOc8.out.trans (hb9.mono HOc8.out.size))
          have htx := text_any w9 [97] 3 32 (by decide) (by decide)
          rw [txt_a, ← HNm.out] at htx
          have HTx := Lib.hid htx
          clear hb9 c0 c1 HNs htx
          have c0 := HF9.out.cell 0 rfl
          go_upto_region 27 with fail
          go_wp2_with fail
          refine HTx.out.mono ?_
          rintro e wa ⟨aa1, ca1, he, hoa, hba⟩
          obtain rfl : e = .returned (.slice aa1 2 ca1) := he
          have HFa : Hid (Has wa g6 23 [.string (nm), .string (va)]) := Lib.hid (HF9.out.kept (Kept.of_below (X := none') hba) (fun h => h))
          have HBa : Hid (Below w.heap.size w wa) := Lib.hid (HB9.out.trans (hba.mono HB9.out.size))
          have HOca : Hid (Below w4.heap.size w4 wa) := Lib.hid (HOc9.out.trans (hba.mono HOc9.out.size))
          have hsa : Sl wa aa1 2 ca1 (bv [33, 97]) := own_sl hoa
          have howa : wa.ownsRow w4.heap.size 5 1 (.slice none 0 0) 0 (bv []) := World.ownsRow_nil _ _ _ _
          have z2 := hba.size
          have HBa' := HBa.out
          have zB := HOca.out.size
          have zA := HB4.out.size
          clear c0 HTx
          have htx2 := fun w' => text_any w' [98] 7 0 (by decide) (by decide)
          rw [txt_b, ← HVa.out] at htx2
          have HTx2 := Lib.hid htx2
          clear htx2
          go_wp2_with (at_builtin; refine wpL_app tyU8 rfl _ _ rfl rfl rfl howa hsa (bv_one _) (by decide) (by decide) HBa' zA zB ?_; intro ab cb wb hob hbb hgb; have HFb := Lib.hid (HFa.out.kept (Kept.of_grown hgb) (fun e => by cases e)); have c1b := HFb.out.cell 1 rfl)
          have HBb := Lib.hid hbb
          have HOb := Lib.hid hob
          have HOcb : Hid (Below w4.heap.size w4 wb) := Lib.hid (HOca.out.trans ((Kept.of_grown hgb).below HOca.out.size (fun k e => by cases e)))
          clear hob hbb hgb howa hsa HBa' zB z2
          refine (HTx2.out wb).mono ?_
          rintro e wc ⟨ac1, cc1, rfl, hoc, hbc⟩
          have hsc : Sl wc ac1 2 cc1 (bv [1, 98]) := own_sl hoc
          have howc : wc.ownsRow w4.heap.size 5 1 (.slice ab 2 cb) 2 (bv [33, 97]) := own_below HOb.out hbc
          have hBc : Below w.heap.size w wc := HBb.out.trans (hbc.mono HBb.out.size)
          have HOcc : Hid (Below w4.heap.size w4 wc) := Lib.hid (HOcb.out.trans (hbc.mono HOcb.out.size))
          have zC := HOcc.out.size
          clear c1b hbc
          go_wp2_with (at_builtin; refine wpL_app tyU8 rfl _ _ rfl rfl rfl howc hsc (bv_one _) (by decide) (by decide) hBc zA zC ?_; intro ad cd wd hod hbd hgd)
          go_roundw
          case rel =>
            refine ⟨1, 4, cd, ad, [33, 97, 1, 98], rfl, rfl, Nat.le_refl _, rfl, Lib.hid ⟨rfl, fun h => by cases h⟩, rfl, hod, HOcc.out.trans ((Kept.of_grown hgd).below HOcc.out.size (fun k e => ?_))⟩
            exact (HOb.out.lt k e).1
          case measure => decide
        · obtain rfl : l = [33, 97, 1, 98] := hl.out.1
          simp only [List.length_cons, List.length_nil, Nat.reduceAdd] at hn
          subst hn
          have c0 := HO5.out.cell 0 rfl
          have hb5 : Below wr.heap.size wr (wr.alloc (.cells #[.int .u8 0, .int .u8 0] 5)) := (Below.refl _ wr).alloc (Nat.le_refl _) _
          have hnew : (wr.alloc (.cells #[.int .u8 0, .int .u8 0] 5)).ownsRow wr.heap.size 5 1 (.slice (some ⟨wr.heap.size, 0, none⟩) 2 2) 2 (bv [0, 0]) := ⟨rfl, .inr ⟨wr.heap.size, 2, #[.int .u8 0, .int .u8 0], rfl, Nat.le_refl _, Has.new wr 5 _, by decide, by decide, by decide, rfl⟩⟩
          have hsl : Sl (wr.alloc (.cells #[.int .u8 0, .int .u8 0] 5)) aa 4 cc (bv [33, 97, 1, 98]) := (own_sl HOw.out).below hb5
          have hBb : Below w.heap.size w (wr.alloc (.cells #[.int .u8 0, .int .u8 0] 5)) := HB5.out.trans (hb5.mono HB5.out.size)
          have zA := HB5.out.size
          have zB := hb5.size
          clear hl hi hb5
          go_wp2_with (at_builtin; refine wpL_app tyU8 rfl _ _ rfl rfl rfl hnew hsl (bv_one _) (by decide) (by decide) hBb zA zB ?_; intro ad cd wd hod hbd hgd)
          go_ret2
          exact ⟨ad, cd, rfl, own_sl hod, hbd⟩
set_option maxRecDepth 100000 in
theorem awake16_any (w : World) : Calls Tryd.prog 9 #[] w (BoolOf w true) := by
  have HN := Lib.hid (newenc_0 w)
  go_enter Tryd.func9, Tryd.ntmps9
  go_wp2_with fail
  refine HN.out.mono ?_
  rintro e w1 ⟨g, mb, rfl, hE⟩
  have H1 := Lib.hid hE
  clear hE HN
  obtain ⟨w2, hw2⟩ : ∃ w2, w2 = w1.alloc (.cells #[.string ⟨#[97]⟩, .string ⟨#[98]⟩] 23) := ⟨_, rfl⟩
  obtain ⟨g2, hg2⟩ : ∃ g2, g2 = w1.heap.size := ⟨_, rfl⟩
  have hb2 : Below w1.heap.size w1 w2 := by rw [hw2]; exact (Below.refl _ w1).alloc (Nat.le_refl _) _
  have hh2 : Has w2 g2 23 [.string ⟨#[97]⟩, .string ⟨#[98]⟩] := by rw [hw2, hg2]; exact Has.new w1 23 _
  have H2 := H1.out.below hb2
  have hsl : SlS w2 (some ⟨g2, 0, none⟩) 1 1 [⟨strB [97], strB [98]⟩] := by
    refine ⟨rfl, by decide, by decide, fun _ => ⟨g2, 0, rfl, fun i hi => ?_⟩⟩
    obtain rfl : i = 0 := by simpa using hi
    exact ⟨hh2.cell 0 rfl, hh2.cell 1 rfl⟩
  have HE := Lib.hid (encode_0 H2 rfl rfl hsl)
  have HB2 := Lib.hid H2.bel
  clear hb2 hh2 H2 hsl
  go_upto_region 4 with fail
  go_wp2_with fail
  rw [← hw2, ← hg2]
  refine HE.out.mono ?_
  rintro e w3 ⟨a, c, rfl, hs3, hb3⟩
  have hcv := run_str (P := Tryd.prog) hs3 30 5 9 Tryd.underlying30 Tryd.underlying5 Tryd.underlying9
  have HB3 : Hid (Below w.heap.size w w3) := Lib.hid (HB2.out.trans (hb3.mono HB2.out.size))
  clear hb3 hs3 hw2 hg2
  go_wp2
  go_ret
  exact ⟨ret_bool (by rw [beq_iff_eq, ByteArray.toList_eq]; rfl), HB3.out⟩
end Go.Proofs.YtaeanhpdlkgghaaDoor

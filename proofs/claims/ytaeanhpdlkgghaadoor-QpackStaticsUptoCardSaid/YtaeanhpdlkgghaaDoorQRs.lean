/- turnpikeref16.Static answers as qpack.Static. No condition. -/
import Derived.Test.YtaeanhpdlkgghaaDoorQTb
namespace Go.Proofs.YtaeanhpdlkgghaaDoor
open Go.RowKit

set_option maxRecDepth 100000 in
set_option maxHeartbeats 4000000 in
theorem rstatic_any (w : World) (n : Int) : Calls Tryd.prog 8 #[.int .i64 n] w (StatR w (staticV n)) := by
  obtain ⟨R, hR⟩ : ∃ R, R = staticV n := ⟨_, rfl⟩
  rw [← hR]
  obtain ⟨w1, hw1⟩ : ∃ w1, w1 = w.alloc (.cells #[.string ⟨#[]⟩, .string ⟨#[]⟩] 23) := ⟨_, rfl⟩
  obtain ⟨gf, hgf⟩ : ∃ gf, gf = w.heap.size := ⟨_, rfl⟩
  have H1 : Hid (Has w1 gf 23 [.string ⟨#[]⟩, .string ⟨#[]⟩]) := Lib.hid (by rw [hw1, hgf]; exact Has.new w 23 _)
  have hb1 : Below w.heap.size w w1 := by rw [hw1]; exact (Below.refl _ w).alloc (Nat.le_refl _) _
  have HB1 := Lib.hid hb1
  have HG : Hid (w.heap.size ≤ gf) := Lib.hid (by rw [hgf]; exact Nat.le_refl _)
  have HT := Lib.hid (table_any w1)
  have HR := Lib.hid hR
  clear hb1 hR
  go_enter Tryd.func8, Tryd.ntmps8
  go_upto_region 1 with fail
  rw [← hw1, ← hgf]
  clear hw1 hgf
  go_wp2_with fail
  refine HT.out.mono ?_
  rintro e w2 ⟨a, c, rfl, htf, hb2⟩
  have H2 : Hid (Has w2 gf 23 [.string ⟨#[]⟩, .string ⟨#[]⟩]) := Lib.hid (H1.out.kept (Kept.of_below (X := none') hb2) (fun h => h))
  have HB2 : Hid (Below w.heap.size w w2) := Lib.hid (HB1.out.trans (hb2.mono HB1.out.size))
  have HTf := Lib.hid htf
  have c2 := H2.out.cell 0 rfl
  have c2b := H2.out.cell 1 rfl
  have f2 := H2.out.free 0
  have f2b := H2.out.free 1
  clear htf hb2 HT
  by_cases hneg : n < 0
  · have y1 : (n < 0) = True := eq_true hneg
    have HE : Hid (R = (⟨⟨#[]⟩, ⟨#[]⟩⟩, false)) := Lib.hid (by rw [HR.out]; unfold staticV; rw [if_pos hneg])
    clear hneg
    go_wp2
    refine bodyPost_ret (results_ft rfl _ rfl ((H2.out.set 0 (.string ⟨#[]⟩)).set 1 (.string ⟨#[]⟩))) rfl ?_
    rw [HE.out]
    exact ⟨rfl, (HB2.out.setCell (p := ⟨gf, 0, none⟩) HG.out _).setCell (p := ⟨gf, 1, none⟩) HG.out _⟩
  · obtain ⟨m, rfl⟩ : ∃ m : Nat, n = (m : Int) := ⟨n.toNat, by omega⟩
    have y1 : ((m : Int) < 0) = False := eq_false hneg
    have hst : staticV (m : Int) = match stF[m]? with | some f => (f, true) | none => (⟨⟨#[]⟩, ⟨#[]⟩⟩, false) := by unfold staticV; rw [if_neg hneg]; rfl
    by_cases hm : m < 40
    · have hil : m < stF.length := by rw [stF_len]; exact hm
      have HE : Hid (R = (⟨stF[m].nm, stF[m].va⟩, true)) := Lib.hid (by rw [HR.out, hst, List.getElem?_eq_getElem hil])
      obtain ⟨A, hA⟩ : ∃ A, A = stF[m].nm := ⟨_, rfl⟩
      obtain ⟨B, hB⟩ : ∃ B, B = stF[m].va := ⟨_, rfl⟩
      rw [← hA, ← hB] at HE
      have y2 : ((40 : Int) ≤ (m : Int)) = False := eq_false (by omega)
      have y3 : (m : Int) < 40 := by omega
      have y4 : (0 : Int) ≤ (m : Int) := by omega
      obtain ⟨bb, o, rfl, hc⟩ := HTf.out.sl.cells (by decide)
      obtain ⟨p0, p1⟩ := hc m hil
      rw [← hA] at p0
      rw [← hB] at p1
      clear hneg hm hil hA hB hst hc
      go_wp2
      refine bodyPost_ret (results_ft rfl _ rfl ((H2.out.set 0 (.string A)).set 1 (.string B))) rfl ?_
      rw [HE.out]
      exact ⟨rfl, (HB2.out.setCell (p := ⟨gf, 0, none⟩) HG.out _).setCell (p := ⟨gf, 1, none⟩) HG.out _⟩
    · have HE : Hid (R = (⟨⟨#[]⟩, ⟨#[]⟩⟩, false)) := Lib.hid (by rw [HR.out, hst, List.getElem?_eq_none (by rw [stF_len]; omega)])
      have y2 : ((40 : Int) ≤ (m : Int)) = True := eq_true (by omega)
      clear hneg hm hst
      go_wp2
      refine bodyPost_ret (results_ft rfl _ rfl ((H2.out.set 0 (.string ⟨#[]⟩)).set 1 (.string ⟨#[]⟩))) rfl ?_
      rw [HE.out]
      exact ⟨rfl, (HB2.out.setCell (p := ⟨gf, 0, none⟩) HG.out _).setCell (p := ⟨gf, 1, none⟩) HG.out _⟩
end Go.Proofs.YtaeanhpdlkgghaaDoor

/- The awake of layer 5's laws answers true. -/
import Derived.Test.YtppkilkfmclpkaaFrDec
import Derived.Test.YtppkilkfmclpkaaConst
namespace Go.Proofs.Ytppkilkfmclpkaa
open Go.RowKit

def f8 : Fm := ⟨8, 4, 0, 0, 0, true, [104, 105], [], [], 0, 0, 0, 0⟩
theorem enc_f8 : encF f8 = ([11, 4, 2, 104, 105], 0) := by decide +kernel
theorem dec_1 : decV [1] = ([{ fzero with kind := 1 }], 0, 0) := by rfl
theorem sl_hi (w : World) : Sl (constW w [104, 105]) (some ⟨w.heap.size, 0, none⟩) 2 2 (bv [104, 105]) := sl_const w [104, 105] (by decide)
theorem map_one {L : List (Fm × FA)} {f : Fm} (h : L.map (·.1) = [f]) : ∃ p, L = [p] ∧ p.1 = f := by
  cases L with
  | nil => simp at h
  | cons p r =>
    cases r with
    | nil => exact ⟨p, rfl, by simpa using h⟩
    | cons q r => simp at h
theorem sl_bytes (w : World) (l : List UInt8) (h : l.length ≤ 1000000) : Sl (w.alloc (.cells (bv l).toArray 5)) (some ⟨w.heap.size, 0, none⟩) l.length l.length (bv l) := by
  refine ⟨bv_length l, Nat.le_refl _, by unfold maxLen; omega, by simp, fun _ => ⟨_, 0, rfl, fun i hi => ?_⟩⟩
  have hh : (w.alloc (.cells (bv l).toArray 5)).heap[w.heap.size]? = some (.cells (bv l).toArray 5 (0, 0)) := heap_alloc_new w _
  rw [cell_of_row _ _ _ _ _ _ hh]
  simp
set_option maxRecDepth 100000 in
set_option maxHeartbeats 1000000 in
theorem awake5_any (w : World) : Calls Try.prog 15 #[] w (BoolOf w true) := by
  have hcv := conv_const
  have hc1 : Below w.heap.size w (constW w [104, 105]) := constW_below (Below.refl _ _) (Nat.le_refl _) _
  have HE := Lib.hid (encode_any (constW w [104, 105]) (f := f8) (a := ⟨some ⟨w.heap.size, 0, none⟩, 2, none, 0, none, 0⟩) ⟨sl_hi w, Sl.empty _, ⟨rfl, Nat.le_refl _, Nat.zero_le _, fun h => absurd h (Nat.lt_irrefl _)⟩⟩ (fun k hk => by
    have := constW_size w [104, 105]
    rcases hk with ⟨ad, h1, h2⟩ | ⟨ad, h1, h2⟩ | ⟨ad, h1, h2⟩
    · cases h1
      have h2 : w.heap.size = k := h2
      omega
    · cases h1
    · cases h1))
  have HB1 := Lib.hid hc1
  rw [enc_f8] at HE
  clear hc1
  go_enter Try.func15, Try.ntmps15
  go_wp2_with fail
  refine HE.out.mono ?_
  rintro e w2 ⟨ea, ec, rfl, ho, hb2⟩
  have hal : Below w2.heap.size w2 (w2.alloc (.cells #[.int .u8 1] 5)) := alB w2 _
  have HB3 : Hid (Below w.heap.size w (w2.alloc (.cells #[.int .u8 1] 5))) := Lib.hid ((HB1.out.trans (hb2.mono HB1.out.size)).trans (hal.mono (Nat.le_trans HB1.out.size hb2.size)))
  have HO3 := Lib.hid (own_sl (own_below ho hal))
  have HD := Lib.hid (decode_any (w2.alloc (.cells #[.int .u8 1] 5)) (sl_bytes w2 [1] (by decide)))
  rw [dec_1] at HD
  clear ho hb2 hal hcv
  go_wp2_with fail
  refine HD.out.mono ?_
  rintro e w4 ⟨a4, c4, L4, rfl, hrow, hL, hb4⟩
  obtain ⟨p, rfl, hp⟩ : ∃ p, L4 = [p] ∧ p.1 = { fzero with kind := 1 } := map_one hL
  obtain ⟨s, rfl, hcl, _, hnc, hcm⟩ := own_fr hrow.row rfl (i := 0) (by simp)
  have p0 : w4.cell? ⟨s, 0, none⟩ = some (.int .i64 1) := by
    have h0 : w4.cell? ⟨s, 0, none⟩ = some (.int .i64 p.1.kind) := by
      have h1 := hcl 0 (by decide)
      simp only [Nat.zero_mul, Nat.zero_add, List.getElem_cons_zero] at h1
      rw [h1]; rfl
    have hk : p.1.kind = 1 := by rw [hp]
    rw [h0, hk]
  have hst : (convert 22 9 (.slice ea 5 ec)).run Try.prog w4 = .ok (.string (strB [11, 4, 2, 104, 105])) w4 := run_str (P := Try.prog) (HO3.out.below hb4) 22 5 9 Try.underlying22 Try.underlying5 Try.underlying9
  have e1 : strB [11, 4, 2, 104, 105] = { data := #[11, 4, 2, 104, 105] } := rfl
  rw [e1] at hst
  have HB4 := Lib.hid (HB3.out.trans (hb4.mono HB3.out.size))
  clear hrow hL hb4 hcl e1 hp
  go_wp2
  go_ret
  exact ⟨rfl, HB4.out⟩
end Go.Proofs.Ytppkilkfmclpkaa

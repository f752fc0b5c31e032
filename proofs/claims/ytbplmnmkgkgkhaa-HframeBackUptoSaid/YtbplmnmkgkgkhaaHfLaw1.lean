/- The awake of layer 17's laws answers true; HframePuts answers true. -/
import Derived.Test.YtbplmnmkgkgkhaaHfAwake
import Derived.Test.YtbplmnmkgkgkhaaHfSett
namespace Go.Proofs.Ytbplmnmkgkgkhaa
open Go.RowKit

theorem Kept.fresh {w w1 w2 : World} {X : Nat → Prop} (h : Below w.heap.size w w1) (hk : Kept X w1 w2) (hX : ∀ k, X k → w.heap.size ≤ k) : Below w.heap.size w w2 :=
  h.trans (hk.below h.size hX)
theorem sl_four {w : World} : Sl (w.alloc (.cells #[.int .u8 1, .int .u8 2, .int .u8 97, .int .u8 98] 5)) (some ⟨w.heap.size, 0, none⟩) 4 4 (bv aw) := by
  refine ⟨rfl, Nat.le_refl _, by decide, by simp, fun _ => ⟨_, 0, rfl, fun i hi => ?_⟩⟩
  have hN : Has (w.alloc (.cells #[.int .u8 1, .int .u8 2, .int .u8 97, .int .u8 98] 5)) w.heap.size 5 [.int .u8 1, .int .u8 2, .int .u8 97, .int .u8 98] := Has.new _ _ _
  have : i = 0 ∨ i = 1 ∨ i = 2 ∨ i = 3 := by omega
  rcases this with rfl | rfl | rfl | rfl
  · exact hN.cell 0 rfl
  · exact hN.cell 1 rfl
  · exact hN.cell 2 rfl
  · exact hN.cell 3 rfl

set_option maxRecDepth 100000 in
set_option maxHeartbeats 1000000 in
theorem awake17_any (w : World) : Calls Try.prog 7 #[] w (BoolOf w true) := by
  go_enter Try.func7, Try.ntmps7
  go_wp2_with fail
  refine (new_ok w 1 (.inl rfl) 10 (by decide) (by decide)).mono ?_
  rintro e w1 ⟨g, rfl, hR, hb1⟩
  have hal : Below w1.heap.size w1 (w1.alloc (.cells #[.int .u8 1, .int .u8 2, .int .u8 97, .int .u8 98] 5)) := (Below.refl _ _).alloc (Nat.le_refl _) _
  have HF := Lib.hid (feed_ok _ ((hR.more (G := fun k => w.heap.size ≤ k) (fun k h _ => h.1)).below hal) rfl sl_four (by decide))
  have HB2 := Lib.hid (hb1.trans (hal.mono hb1.size))
  clear hR hb1 hal
  go_wp2_with fail
  refine HF.out.mono ?_
  rintro e w2 ⟨rfl, hk2, ba, bc, hRB, fg, _⟩
  have HB3 := Lib.hid (Kept.fresh HB2.out hk2 (fun k h => h))
  have HN := Lib.hid (next_1 w2 hRB rfl rfl rfl rfl rfl rfl)
  have HG : Hid (w.heap.size ≤ g) := Lib.hid (fg.elim (fun h => h) (fun h => by have := HB2.out.size; omega))
  clear hk2 hRB fg
  go_wp2_with fail
  refine HN.out.mono ?_
  rintro e w3 ⟨pa, pc, rfl, hsl, hk3⟩
  have HB4 := Lib.hid (Kept.fresh HB3.out hk3 (fun k h => by have h1 : k = g := h; have := HG.out; omega))
  obtain ⟨w4, hw4⟩ : ∃ w4, w4 = w3.alloc (.cells #[.int .i64 1, .slice pa 2 pc, .int .i64 0, .int .i64 0, .int .i64 0, .int .i64 0] 32) := ⟨_, rfl⟩
  have hal4 : Below w3.heap.size w3 w4 := by rw [hw4]; exact (Below.refl _ _).alloc (Nat.le_refl _) _
  have hcv := run_str (P := Try.prog) (hsl.below hal4) 22 5 9 Try.underlying22 Try.underlying5 Try.underlying9
  have e1 : strB [97, 98] = { data := #[97, 98] } := rfl
  rw [e1] at hcv
  have HB5 := Lib.hid (HB4.out.trans (hal4.mono HB4.out.size))
  rw [hw4] at hcv HB5
  clear hsl hk3 hal4 e1 hw4
  go_wp2
  go_ret
  exact ⟨rfl, HB5.out⟩
end Go.Proofs.Ytbplmnmkgkgkhaa

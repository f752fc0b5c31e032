/- The awake of layer 11's laws answers true; LossNews answers true. -/
import Derived.Test.YtkpeegcpicckjaaLsSent
namespace Go.Proofs.Ytkpeegcpicckjaa
open Go.RowKit

theorem Lo.new_time {most : Int} (h1 : 0 ≤ most) (h2 : most ≤ 16383) : (Lo.new most).TimeOk :=
  ⟨⟨h1, h2⟩, by simp [Lo.new], by simp [Lo.new], by simp [Lo.new], by simp [Lo.new, Sp.new], by simp [Lo.new, Sp.new], by simp [Lo.new, Sp.new], by simp [Lo.new, Sp.new], by simp [Lo.new, Sp.new], by simp [Lo.new, Sp.new]⟩
theorem sizes_nil : SizesOk [] := ⟨by simp, by simp⟩

set_option maxRecDepth 100000 in
set_option maxHeartbeats 1000000 in
theorem awake11_any (w : World) : Calls Try.prog 8 #[] w (BoolOf w true) := by
  go_enter Try.func8, Try.ntmps8
  go_wp2_with fail
  refine (new_any w 25).mono ?_
  rintro e w1 (⟨h, _⟩ | ⟨_, _, g, rfl, hL, hb1⟩)
  · exfalso; omega
  have h1 : LAt (fun k => w.heap.size ≤ k) w1 g (Lo.new 25) := hL.more (fun k h _ => h.1)
  have HSn := Lib.hid (sent_ok2_true w1 h1 1 1000 0 (by decide) (by unfold Sp.takes; decide) (by decide))
  clear hL h1
  go_wp2_with fail
  refine HSn.out.mono ?_
  rintro e w2 ⟨rfl, hk2, hL2⟩
  have z1 := hb1.size
  have h2 : LAt (fun k => w.heap.size ≤ k) w2 g ((Lo.new 25).sent2 1 1000 true 0) := hL2.more (fun k h _ => h.elim (fun h => h) (fun h => by omega))
  have B2 : Below w.heap.size w w2 := Kept.fresh hb1 hk2 (fun _ h => h)
  have HU : Hid (Calls Try.prog 11 #[.pointer (some ⟨g, 0, none⟩)] w2 (IntOf w2 1000)) := Lib.hid (under_any w2 h2 sizes_nil sizes_nil ⟨by decide, by simp [Lo.sent2, Sp.sent, Lo.new, Sp.new]⟩)
  have HW : Hid (∀ w', Below w2.heap.size w2 w' → Calls Try.prog 12 #[.pointer (some ⟨g, 0, none⟩)] w' (IntOf w' 12000)) := Lib.hid (fun w' hb => window_any w' (h2.below hb))
  clear hk2 hL2 h2 HSn
  go_wp2_with fail
  refine HU.out.mono ?_
  rintro e w3 ⟨rfl, hb3⟩
  go_wp2_with fail
  refine (HW.out w3 hb3).mono ?_
  rintro e w4 ⟨rfl, hb4⟩
  go_wp2
  go_ret
  exact ⟨rfl, (B2.trans (hb3.mono B2.size)).trans (hb4.mono (by have := B2.size; have := hb3.size; omega))⟩

theorem new_dead (most : Int) : (Lo.new most).dead = (-1, 0, false) := by
  unfold Lo.dead Lo.dloss Lo.dpto dl1 dl2 Lo.new Sp.new
  simp

set_option maxRecDepth 100000 in
set_option maxHeartbeats 1000000 in
theorem lnews_any (w : World) (most : Int) (_ : -9223372036854775808 ≤ most) (_ : most ≤ 9223372036854775807) : Calls Try.prog 3 #[.int .i64 most] w fun e w' => e = .returned (.bool true) ∧ Below w.heap.size w w' := by
  have HA := Lib.hid awake11_any
  by_cases hr : most < 0 ∨ 16383 < most
  · rcases hr with hr | hr
    · go_enter Try.func3, Try.ntmps3
      go_wp2_with fail
      refine (new_any w most).mono ?_
      rintro e w1 (⟨_, rfl, rfl⟩ | ⟨h1, h2, _⟩)
      rotate_left
      · exfalso; omega
      go_wp2_with fail
      refine (HA.out w).mono ?_
      rintro e w2 ⟨rfl, hb2⟩
      go_wp2
      go_ret
      exact ⟨rfl, hb2⟩
    · have hr' : ¬ most < 0 := by omega
      go_enter Try.func3, Try.ntmps3
      go_wp2_with fail
      refine (new_any w most).mono ?_
      rintro e w1 (⟨_, rfl, rfl⟩ | ⟨h1, h2, _⟩)
      rotate_left
      · exfalso; omega
      go_wp2_with fail
      refine (HA.out w).mono ?_
      rintro e w2 ⟨rfl, hb2⟩
      go_wp2
      go_ret
      exact ⟨rfl, hb2⟩
  · have hr1 : ¬ most < 0 := fun h => hr (.inl h)
    have hr2 : ¬ 16383 < most := fun h => hr (.inr h)
    clear hr
    go_enter Try.func3, Try.ntmps3
    go_wp2_with fail
    refine (new_any w most).mono ?_
    rintro e w1 (⟨h, _⟩ | ⟨_, _, g, rfl, hL, hb1⟩)
    · exfalso; omega
    have h1 : LAt (fun k => w.heap.size ≤ k) w1 g (Lo.new most) := hL.more (fun k h _ => h.1)
    have HR : Hid (Calls Try.prog 9 #[.pointer (some ⟨g, 0, none⟩)] w1 fun e w' => e = .returned (.tuple #[.int .i64 0, .int .i64 0, .int .i64 333, .int .i64 166]) ∧ Below w1.heap.size w1 w') := Lib.hid (rtt_any w1 h1)
    have HT : Hid (∀ w', Below w1.heap.size w1 w' → Calls Try.prog 10 #[.pointer (some ⟨g, 0, none⟩)] w' fun e w'' => e = .returned (.tuple #[.int .i64 0, .bool false]) ∧ Below w'.heap.size w' w'') := Lib.hid (fun w' hb => by
      have := timer_any w' (h1.below hb) (Lo.new_time (by omega) (by omega))
      rwa [new_dead] at this)
    have HU : Hid (∀ w', Below w1.heap.size w1 w' → Calls Try.prog 11 #[.pointer (some ⟨g, 0, none⟩)] w' (IntOf w' 0)) := Lib.hid (fun w' hb => under_any w' (h1.below hb) sizes_nil sizes_nil sizes_nil)
    have HW : Hid (∀ w', Below w1.heap.size w1 w' → Calls Try.prog 12 #[.pointer (some ⟨g, 0, none⟩)] w' (IntOf w' 12000)) := Lib.hid (fun w' hb => window_any w' (h1.below hb))
    clear hL h1
    go_wp2_with fail
    refine HR.out.mono ?_
    rintro e w2 ⟨rfl, hb2⟩
    go_wp2_with fail
    refine (HT.out w2 hb2).mono ?_
    rintro e w3 ⟨rfl, hb3⟩
    have b3 := hb2.trans (hb3.mono hb2.size)
    go_wp2_with fail
    refine (HU.out w3 b3).mono ?_
    rintro e w4 ⟨rfl, hb4⟩
    have b4 := b3.trans (hb4.mono b3.size)
    go_wp2_with fail
    refine (HW.out w4 b4).mono ?_
    rintro e w5 ⟨rfl, hb5⟩
    have b5 := b4.trans (hb5.mono b4.size)
    go_wp2_with fail
    refine (HA.out w5).mono ?_
    rintro e w6 ⟨rfl, hb6⟩
    have b6 := b5.trans (hb6.mono b5.size)
    go_wp2
    go_ret
    exact ⟨rfl, hb1.trans (b6.mono hb1.size)⟩
end Go.Proofs.Ytkpeegcpicckjaa

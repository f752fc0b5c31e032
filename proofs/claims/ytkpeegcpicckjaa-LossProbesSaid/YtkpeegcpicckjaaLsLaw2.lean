/- LossProbes answers true. -/
import Derived.Test.YtkpeegcpicckjaaLsFire
namespace Go.Proofs.Ytkpeegcpicckjaa
open Go.RowKit

/-- one packet is out, and some probes were sent -/
def prb (most size n p : Int) : Lo := { (Lo.new most).sent2 1 size true 0 with now := n, probes := p }
theorem prb_dead (most size n p : Int) : (prb most size n p).dead = (2, (997 + most) * 2 ^ p.toNat, false) := by
  have hm : max (1 : Int) 664 = 664 := by decide
  unfold prb Lo.dead Lo.dloss Lo.dpto dl1 dl2 Lo.pto Lo.wait Lo.sent2 Sp.sent Lo.new Sp.new
  simp [hm]
theorem prb_time {most size n p : Int} (h1 : 0 ≤ most) (h2 : most ≤ 16383) (h3 : 0 ≤ p) (h4 : p ≤ 20) : (prb most size n p).TimeOk :=
  ⟨⟨h1, h2⟩, by simp [prb, Lo.sent2, Lo.new], by simp [prb, Lo.sent2, Lo.new], ⟨h3, h4⟩, by simp [prb, Lo.sent2, Lo.new, Sp.new], by simp [prb, Lo.sent2, Lo.new, Sp.new], by simp [prb, Lo.sent2, Sp.sent, Lo.new, Sp.new], by simp [prb, Lo.sent2, Lo.new, Sp.new], by simp [prb, Lo.sent2, Lo.new, Sp.new], by simp [prb, Lo.sent2, Sp.sent, Lo.new, Sp.new]⟩
theorem prb_at (most size n p now : Int) : (prb most size n p).at' now = prb most size now p := rfl
theorem prb_probed (most size n p now : Int) : (prb most size n p).probed now = prb most size now (min (p + 1) 20) := rfl
theorem prb_under (most size n p : Int) : (prb most size n p).under = size := by
  unfold Lo.under prb Lo.sent2 Sp.sent Lo.new Sp.new
  simp [psum]

set_option maxRecDepth 100000 in
set_option maxHeartbeats 4000000 in
theorem lprobes_any (W : World) (most : Int) (_ : -9223372036854775808 ≤ most) (_ : most ≤ 9223372036854775807) (size : Int) (_ : -9223372036854775808 ≤ size) (_ : size ≤ 9223372036854775807) (count : Int) (_ : -9223372036854775808 ≤ count) (_ : count ≤ 9223372036854775807) :
    Calls Try.prog 4 #[.int .i64 most, .int .i64 size, .int .i64 count] W fun e w' => e = .returned (.bool true) ∧ Below W.heap.size W w' := by
  have HA := Lib.hid awake11_any
  by_cases hr : most < 0 ∨ 16383 < most
  · have cs : most < 0 ∨ (¬ most < 0 ∧ 16383 < most) := by omega
    rcases cs with h1 | ⟨h1, h2⟩
    all_goals
      go_enter Try.func4, Try.ntmps4
      go_wp2_with fail
      refine (new_any W most).mono ?_
      rintro e w1 (⟨_, rfl, rfl⟩ | ⟨h3, h4, _⟩)
      rotate_left
      · exfalso; omega
      go_wp2_with fail
      refine (HA.out W).mono ?_
      rintro e w2 ⟨rfl, hb2⟩
      go_wp2
      go_ret
      exact ⟨rfl, hb2⟩
  · have hm1 : 0 ≤ most := by omega
    have hm2 : most ≤ 16383 := by omega
    clear hr
    by_cases hs : size < 0 ∨ 65535 < size
    · have cs : size < 0 ∨ (¬ size < 0 ∧ 65535 < size) := by omega
      clear hs
      rcases cs with h1 | ⟨h1, h2⟩
      all_goals
        go_enter Try.func4, Try.ntmps4
        go_wp2_with fail
        refine (new_any W most).mono ?_
        rintro e w1 (⟨h3, _⟩ | ⟨_, _, g, rfl, hL, hb1⟩)
        · exfalso; omega
        have HSn := Lib.hid (sent_packet2 w1 hL 1 size true 0 (by simp [Lo.new]) (by unfold Sp.takes; omega))
        clear hL
        go_wp2_with fail
        refine HSn.out.mono ?_
        rintro e w2 ⟨rfl, rfl⟩
        go_wp2_with fail
        refine (HA.out w1).mono ?_
        rintro e w3 ⟨rfl, hb3⟩
        go_wp2
        go_ret
        exact ⟨rfl, hb1.trans (hb3.mono hb1.size)⟩
    · have hs1 : 0 ≤ size := by omega
      have hs2 : size ≤ 65535 := by omega
      clear hs
      have f0 : IntKind.i64.wrap (997 + most) = 997 + most := by rw [IntKind.wrap_i64]; omega
      go_enter Try.func4, Try.ntmps4
      go_wp2_with fail
      refine (new_any W most).mono ?_
      rintro e w1 (⟨h3, _⟩ | ⟨_, _, g, rfl, hL, hb1⟩)
      · exfalso; omega
      have L1 : LAt (fun k => W.heap.size ≤ k) w1 g (Lo.new most) := hL.more (fun k h _ => h.1)
      have HSn := Lib.hid (sent_ok2_true w1 L1 1 size 0 (by simp [Lo.new]) (by unfold Sp.takes; simp [Lo.new, Sp.new]; omega) (by simp [Lo.new, Sp.new]))
      clear hL L1
      go_wp2_with fail
      refine HSn.out.mono ?_
      rintro e w2 ⟨rfl, hk2, hL2⟩
      have z1 := hb1.size
      have L2 : LAt (fun k => W.heap.size ≤ k) w2 g (prb most size 0 0) := hL2.more (fun k h _ => h.elim (fun h => h) (fun h => by omega))
      have B2 : Below W.heap.size W w2 := Kept.fresh hb1 hk2 (fun _ h => h)
      clear hk2 hL2 HSn
      go_wp2_with fail
      go_loopw [9, 10] (fun wv iv wr => ∃ (i : Nat) (n : Int), iv = .int .i64 (i : Int) ∧ wv = .int .i64 ((997 + most) * 2 ^ (min i 20)) ∧ i ≤ 21 ∧ 0 ≤ n ∧ (i ≤ 20 → n < (997 + most) * 2 ^ (min i 20)) ∧ LAt (fun k => W.heap.size ≤ k) wr g (prb most size n (min (i : Int) 20)) ∧ Below W.heap.size W wr) (fun _ iv _ => 21 - (intOf iv).toNat)
      case atStart => exact ⟨0, 0, rfl, by simp, by omega, by omega, fun _ => by simp; omega, L2, B2⟩
      case round =>
        obtain ⟨i, n, rfl, rfl, hi, hn0, hn1, hL, hB⟩ := hrel
        clear L2 B2
        have HFin : Hid (∀ (e : Ending) (w' : World), True) := Lib.hid (fun _ _ => trivial)
        have HU : Hid (∀ w', LAt (fun k => W.heap.size ≤ k) w' g (prb most size n (min (i : Int) 20)) → Calls Try.prog 11 #[.pointer (some ⟨g, 0, none⟩)] w' (IntOf w' size)) := Lib.hid (fun w' h => by
          have := under_any w' h sizes_nil sizes_nil ⟨by simp [prb, Lo.sent2, Sp.sent, Lo.new, Sp.new], by simp [prb, Lo.sent2, Sp.sent, Lo.new, Sp.new]; omega⟩
          rwa [prb_under] at this)
        by_cases hic : (i : Int) < count
        · by_cases hi21 : i < 21
          · have hi21' : (i : Int) < 21 := by omega
            have g2 : IntKind.i64.wrap ((i : Int) + 1) = (i : Int) + 1 := by rw [IntKind.wrap_i64]; omega
            have hmin : min i 20 = i := by omega
            have hminI : min (i : Int) 20 = (i : Int) := by omega
            rw [hminI] at hL
            rw [hmin] at hn1 ⊢
            obtain ⟨p1, p2⟩ := pow_le20 (p := (i : Int)) (by omega) (by omega)
            simp only [Int.toNat_natCast] at p1 p2
            obtain ⟨t, ht⟩ : ∃ t : Int, t = (997 + most) * 2 ^ i := ⟨_, rfl⟩
            have ht1 : t ≤ 17380 * 1048576 := by rw [ht]; exact Int.mul_le_mul (by omega) p1 (by omega) (by omega)
            have ht0 : 997 ≤ t := by
              have : 997 * 1 ≤ (997 + most) * 2 ^ i := Int.mul_le_mul (by omega) p2 (by omega) (by omega)
              omega
            have hnt : n < t := by rw [ht]; exact hn1 (by omega)
            have hdead : (prb most size n (i : Int)).dead = (2, t, false) := by rw [prb_dead, ht, Int.toNat_natCast]
            have hdead2 : (prb most size (t - 1) (i : Int)).dead = (2, t, false) := by rw [prb_dead, ht, Int.toNat_natCast]
            have hq := prb_time (size := size) (n := n) hm1 hm2 (show 0 ≤ (i : Int) by omega) (show (i : Int) ≤ 20 by omega)
            have hq2 := prb_time (size := size) (n := t - 1) hm1 hm2 (show 0 ≤ (i : Int) by omega) (show (i : Int) ≤ 20 by omega)
            have HT : Hid (Calls Try.prog 10 #[.pointer (some ⟨g, 0, none⟩)] wr fun e w' => e = .returned (.tuple #[.int .i64 t, .bool true]) ∧ Below wr.heap.size wr w') := Lib.hid (by
              have := timer_any wr hL hq
              rw [hdead] at this
              exact this)
            have HF1 : Hid (∀ w', LAt (fun k => W.heap.size ≤ k) w' g (prb most size n (i : Int)) → Calls Try.prog 14 #[.pointer (some ⟨g, 0, none⟩), .int .i64 (t - 1)] w' fun e w'' => e = .returned (.tuple #[.int .i64 (-1), .slice none 0 0, .bool false, .int .i64 0]) ∧ Kept (fun k => W.heap.size ≤ k) w' w'' ∧ LAt (fun k => W.heap.size ≤ k) w'' g (prb most size (t - 1) (i : Int))) := Lib.hid (fun w' h =>
              fire_idle w' h hq (t - 1) ⟨by show n ≤ t - 1; omega, by omega⟩ (.inr (by rw [hdead]; show t - 1 < t; omega)))
            have HF2 : Hid (∀ w', LAt (fun k => W.heap.size ≤ k) w' g (prb most size (t - 1) (i : Int)) → Calls Try.prog 14 #[.pointer (some ⟨g, 0, none⟩), .int .i64 t] w' fun e w'' => e = .returned (.tuple #[.int .i64 2, .slice none 0 0, .bool true, .int .i64 0]) ∧ Kept (fun k => W.heap.size ≤ k) w' w'' ∧ LAt (fun k => W.heap.size ≤ k) w'' g (prb most size t (min ((i : Int) + 1) 20))) := Lib.hid (fun w' h => by
              have := fire_probe w' h hq2 t ⟨by show t - 1 ≤ t; omega, by omega⟩ (by rw [hdead2]; show (0 : Int) ≤ 2; decide) (by rw [hdead2]; exact Int.le_refl _) (by rw [hdead2])
              rw [hdead2] at this
              exact this)
            have f1 : IntKind.i64.wrap (t - 1) = t - 1 := by rw [IntKind.wrap_i64]; omega
            have f2 : IntKind.i64.wrap (t * 2) = t * 2 := by rw [IntKind.wrap_i64]; omega
            have f3 : ¬ 1099511627776 < t := by omega
            have HTn : Hid (t * 2 = (997 + most) * 2 ^ (i + 1)) := Lib.hid (by rw [ht, Int.pow_succ, Int.mul_assoc])
            rw [← ht]
            have HTe := Lib.hid ht
            clear ht hn1 hdead hdead2 hq hq2 p1 p2 HU hmin hminI
            have HLL := Lib.hid hL
            clear hL
            go_wp2_with fail
            refine HT.out.mono ?_
            rintro e w2 ⟨rfl, hb2⟩
            have B2 := hB.trans (hb2.mono hB.size)
            have L2 := HLL.out.below hb2
            go_wp2_with fail
            refine (HF1.out w2 L2).mono ?_
            rintro e w3 ⟨rfl, hk3, hL3⟩
            have B3 := Kept.fresh B2 hk3 (fun _ h => h)
            go_wp2_with fail
            refine (HF2.out w3 hL3).mono ?_
            rintro e w4 ⟨rfl, hk4, hL4⟩
            have B4 := Kept.fresh B3 hk4 (fun _ h => h)
            clear hL3 hk3 hk4 L2
            by_cases hi20 : i < 20
            · have hi20' : (i : Int) < 20 := by omega
              go_wp2
              go_roundw
              case rel =>
                have e1 : min (i + 1) 20 = i + 1 := by omega
                have e2 : min (((i + 1 : Nat) : Int)) 20 = min ((i : Int) + 1) 20 := by omega
                refine ⟨i + 1, t, by push_cast; rfl, by rw [e1, HTn.out], by omega, by omega, fun _ => ?_, by rw [e2]; exact hL4, B4⟩
                rw [e1, ← HTn.out]
                omega
              case measure => simp [intOf]; omega
            · have hi20' : ¬ (i : Int) < 20 := by omega
              go_wp2
              go_roundw
              case rel =>
                have e1 : min (i + 1) 20 = i := by omega
                have e2 : min (((i + 1 : Nat) : Int)) 20 = min ((i : Int) + 1) 20 := by omega
                refine ⟨i + 1, t, by push_cast; rfl, by rw [e1, HTe.out], by omega, by omega, fun h => by omega, by rw [e2]; exact hL4, B4⟩
              case measure => simp [intOf]; omega
          · have hi21' : ¬ (i : Int) < 21 := by omega
            clear hn1
            go_wp2_with fail
            refine (HU.out wr hL).mono ?_
            rintro e w2 ⟨rfl, hb2⟩
            go_wp2_with fail
            refine (HA.out w2).mono ?_
            rintro e w3 ⟨rfl, hb3⟩
            go_wp2
            go_ret
            exact ⟨rfl, (hB.trans (hb2.mono hB.size)).trans (hb3.mono (by have := hB.size; have := hb2.size; omega))⟩
        · clear hn1
          go_wp2_with fail
          refine (HU.out wr hL).mono ?_
          rintro e w2 ⟨rfl, hb2⟩
          go_wp2_with fail
          refine (HA.out w2).mono ?_
          rintro e w3 ⟨rfl, hb3⟩
          go_wp2
          go_ret
          exact ⟨rfl, (hB.trans (hb2.mono hB.size)).trans (hb3.mono (by have := hB.size; have := hb2.size; omega))⟩
end Go.Proofs.Ytkpeegcpicckjaa

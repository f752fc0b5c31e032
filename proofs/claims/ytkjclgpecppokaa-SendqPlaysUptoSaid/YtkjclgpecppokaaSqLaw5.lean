/- SendqPlays answers true. -/
import Derived.Test.YtkjclgpecppokaaSqStep4
import Derived.Test.YtkjclgpecppokaaSqLaw1
import Derived.Test.YtkjclgpecppokaaOpenOps
namespace Go.Proofs.Ytkjclgpecppokaa
open Go.RowKit

theorem twin_new {B : Nat} {w : World} {g rm : Nat} {F : Nat → Prop} (hr1 : 1 ≤ rm) (hr2 : rm ≤ 65536) (hQ : QAt F w g (Qu.new rm)) (hF : ∀ k, F k → B ≤ k ∧ k < w.heap.size) (hB : B ≤ w.heap.size) :
    TwinF B F (fun k => k = w.heap.size) (w.alloc (.cells #[.int .i64 (rm : Int), .int .i64 0, .slice none 0 0, .slice none 0 0, .bool false, .int .i64 0] 48)) g w.heap.size (Qu.new rm) [] := by
  have hal : Below w.heap.size w (w.alloc (.cells #[.int .i64 (rm : Int), .int .i64 0, .slice none 0 0, .slice none 0 0, .bool false, .int .i64 0] 48)) := (Below.refl _ _).alloc (Nat.le_refl _) _
  have hH : Has (w.alloc (.cells #[.int .i64 (rm : Int), .int .i64 0, .slice none 0 0, .slice none 0 0, .bool false, .int .i64 0] 48)) w.heap.size 48 [.int .i64 (rm : Int), .int .i64 0, .slice none 0 0, .slice none 0 0, .bool false, .int .i64 0] := Has.new _ _ _
  have hz := hH.lt
  refine ⟨hQ.below hal, ⟨none, 0, none, 0, ⟨hH, World.ownsRow_nil _ _ _ _, World.ownsRow_nil _ _ _ _, by simp, by simp, by simp⟩, rfl, by simp, by simp⟩, PInv.new hr1 hr2, fun k hk => ?_, fun k hk => ?_, fun k hk e => ?_⟩
  · have := hF k hk; omega
  · omega
  · have := hF k hk; omega

set_option maxRecDepth 100000 in
set_option maxHeartbeats 4000000 in
theorem plays_any (W : World) (room : Int) (_ : -9223372036854775808 ≤ room) (_ : room ≤ 9223372036854775807) (a : Option Addr) (n c : Nat) (h : OpsAt W a n c) :
    Calls Try.prog 7 #[.int .i64 room, .slice a n c] W fun e w' => e = .returned (.bool true) ∧ Below W.heap.size W w' := by
  by_cases hr : room < 1 ∨ 65536 < room
  · have HA := Lib.hid awake4_any
    clear h
    rcases hr with hr | hr
    · go_enter Try.func7, Try.ntmps7
      go_wp2_with fail
      refine (new_any W room).mono ?_
      rintro e w1 (⟨_, rfl, hb1⟩ | ⟨h1, h2, _⟩)
      rotate_left
      · exfalso; omega
      go_wp2_with fail
      refine (HA.out w1).mono ?_
      rintro e w2 ⟨rfl, hb2⟩
      go_wp2
      go_ret
      exact ⟨rfl, hb1.trans (hb2.mono hb1.size)⟩
    · have hr' : ¬ room < 1 := by omega
      go_enter Try.func7, Try.ntmps7
      go_wp2_with fail
      refine (new_any W room).mono ?_
      rintro e w1 (⟨_, rfl, hb1⟩ | ⟨h1, h2, _⟩)
      rotate_left
      · exfalso; omega
      go_wp2_with fail
      refine (HA.out w1).mono ?_
      rintro e w2 ⟨rfl, hb2⟩
      go_wp2
      go_ret
      exact ⟨rfl, hb1.trans (hb2.mono hb1.size)⟩
  · obtain ⟨rm, rfl⟩ := Int.eq_ofNat_of_zero_le (show 0 ≤ room by omega)
    have hr1 : 1 ≤ rm := by omega
    have hr2 : rm ≤ 65536 := by omega
    have hr1' : ¬ (rm : Int) < 1 := by omega
    have hr2' : ¬ 65536 < (rm : Int) := by omega
    have HA := Lib.hid awake4_any
    obtain ⟨hn20, hnc, hcm, hops⟩ := h
    have HO := Lib.hid hops
    have hcm' : (c : Int) ≤ 9223372036854775807 := by unfold maxLen at hcm; omega
    clear hr hops hcm
    go_enter Try.func7, Try.ntmps7
    go_wp2_with fail
    refine (new_any W rm).mono ?_
    rintro e w1 (⟨h, _⟩ | ⟨_, _, g, rfl, hQ1, hb1⟩)
    · exfalso; omega
    have T1 := twin_new (B := W.heap.size) hr1 hr2 hQ1 (fun k h => h) hb1.size
    have hb2 : Below W.heap.size W (w1.alloc (.cells #[.int .i64 (rm : Int), .int .i64 0, .slice none 0 0, .slice none 0 0, .bool false, .int .i64 0] 48)) := hb1.alloc hb1.size _
    clear hQ1 hb1
    go_wp2_with fail
    go_loopw [41] (fun v wr => ∃ (k : Nat) (Fq Fr : Nat → Prop) (q : Qu) (pre : List UInt8), v = .int .i64 (k : Int) ∧ k ≤ n ∧ TwinF W.heap.size Fq Fr wr g w1.heap.size q pre ∧ q.base + q.data.length ≤ k * 1048576 ∧ Below W.heap.size W wr) (fun v _ => n - (intOf v).toNat)
    case atStart => exact ⟨0, _, _, _, _, rfl, Nat.zero_le _, T1, by simp [Qu.new], hb2⟩
    case round =>
      obtain ⟨k, Fq, Fr, q, pre, rfl, hk, hT, hgrow, hB⟩ := hrel
      clear T1 hb2
      by_cases hkn : k < n
      · have hkn' : (k : Int) < (n : Int) := by omega
        have g2 : IntKind.i64.wrap ((k : Int) + 1) = (k : Int) + 1 := by rw [IntKind.wrap_i64]; omega
        obtain ⟨b, off, rfl, hop⟩ := HO.out (by omega)
        obtain ⟨kind, A, Bb, da, dn, dc, dl, fin, c0, c1, c2, c3, c4, sD, hdn, hA1, hA2, hB1, hB2⟩ := hop k hkn
        clear hop
        have cellB : ∀ {ad : Addr} {u : Value}, W.cell? ad = some u → wr.cell? ad = some u := fun {ad u} hc => by rw [hB.cell (World.block_lt_of_cell? W _ hc)]; exact hc
        have c0 := cellB c0
        have c1 := cellB c1
        have c2 := cellB c2
        have c3 := cellB c3
        have c4 := cellB c4
        clear cellB
        have hal : Below wr.heap.size wr (wr.alloc (.cells #[.int .i64 kind, .int .i64 A, .int .i64 Bb, .slice da dn dc, .bool fin] 35)) := (Below.refl _ _).alloc (Nat.le_refl _) _
        have hTO : Has (wr.alloc (.cells #[.int .i64 kind, .int .i64 A, .int .i64 Bb, .slice da dn dc, .bool fin] 35)) wr.heap.size 35 [.int .i64 kind, .int .i64 A, .int .i64 Bb, .slice da dn dc, .bool fin] := Has.new _ _ _
        have hdB : 0 < dn → ∀ ad, da = some ad → ad.block < W.heap.size := fun h0 ad ha => by
          obtain ⟨b', o', hb', hc'⟩ := sD.cells h0
          rw [ha] at hb'
          cases hb'
          have h1 := hc' 0 h0
          rw [List.getElem?_eq_getElem (by rw [sD.len]; exact h0)] at h1
          exact World.block_lt_of_cell? W _ h1
        have hzr := hB.size
        have hB1w := hB.trans (hal.mono hzr)
        have HSt := Lib.hid (step_any (wr.alloc (.cells #[.int .i64 kind, .int .i64 A, .int .i64 Bb, .slice da dn dc, .bool fin] 35)) (hT.below hal) hB1w.size (by omega) (sD.below hB1w) hdB hdn kind A Bb fin hB2)
        clear hT sD hdB
        go_wp2_with fail
        refine HSt.out.mono ?_
        rintro e w2 ⟨rfl, hb2, Fq', Fr', q', pre', hT2, hg2⟩
        have hB2w := hB1w.trans hb2
        have HRs := Lib.hid (rest_any w2 hT2.atq hT2.atr hT2.inv (by omega))
        have HT2 := Lib.hid hT2
        clear hT2 hb2 HSt
        go_wp2_with fail
        refine HRs.out.mono ?_
        rintro e w3 ⟨rfl, hb3⟩
        go_wp2
        go_roundw
        case rel => exact ⟨k + 1, Fq', Fr', q', pre', by push_cast; rfl, by omega, HT2.out.below hb3, by omega, hB2w.trans (hb3.mono hB2w.size)⟩
        case measure => simp [intOf]; omega
      · obtain rfl : k = n := by omega
        go_wp2_with fail
        refine (HA.out wr).mono ?_
        rintro e w2 ⟨rfl, hb2⟩
        go_wp2
        go_ret
        exact ⟨rfl, hB.trans (hb2.mono hB.size)⟩
end Go.Proofs.Ytkjclgpecppokaa

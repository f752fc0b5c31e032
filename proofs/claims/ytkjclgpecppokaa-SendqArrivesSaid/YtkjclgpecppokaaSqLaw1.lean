/- The awake of layer 4's laws answers true; SendqNews answers true. -/
import Derived.Test.YtkjclgpecppokaaSqNext3
import Derived.Test.YtkjclgpecppokaaConst
namespace Go.Proofs.Ytkjclgpecppokaa
open Go.RowKit

/-- a queue's place behind a call, in what is new since w -/
theorem QAt.fresh {w w1 w2 : World} {g : Nat} {q : Qu} (h : QAt (fun k => w.heap.size ≤ k ∧ k < w1.heap.size) w1 g q) (hb : Below w1.heap.size w1 w2) : QAt (fun k => w.heap.size ≤ k) w2 g q :=
  (h.below hb).more (fun _ h _ => h.1)
theorem Kept.fresh {w w1 w2 : World} {X : Nat → Prop} (h : Below w.heap.size w w1) (hk : Kept X w1 w2) (hX : ∀ k, X k → w.heap.size ≤ k) : Below w.heap.size w w2 :=
  h.trans (hk.below h.size hX)

def abc : List UInt8 := [97, 98, 99, 100, 101, 102]
def q4 : Qu := ⟨4, 0, 0, [97, 98, 99, 100], [0, 0, 0, 0], false, 0⟩
theorem q4_write : (Qu.new 4).write abc = q4 := by rfl
theorem q4_took : (Qu.new 4).took abc = 4 := by rfl
theorem q4_werr : (Qu.new 4).werr = 0 := by rfl
theorem q4_out : q4.out 3 9 = ⟨0, [97, 98, 99], false, true⟩ := by
  have h2 : Lib.indexByte q4.st 2 = -1 := by decide +kernel
  have h0 : Lib.indexByte q4.st 0 = 0 := by decide +kernel
  have hp : q4.pick 3 9 = (0, 3) := by
    unfold Qu.pick
    rw [h2, h0]
    decide +kernel
  have hs : q4.start 3 9 = 0 := by unfold Qu.start; rw [hp]; rfl
  have he : q4.ends 3 9 = false := by unfold Qu.ends; rfl
  unfold Qu.out
  rw [if_neg (by unfold Qu.none; rw [hp]; simp), hs, hp, he]
  rfl

set_option maxRecDepth 100000 in
set_option maxHeartbeats 1000000 in
theorem awake4_any (w : World) : Calls Try.prog 9 #[] w fun e w' => e = .returned (.bool true) ∧ Below w.heap.size w w' := by
  have hcv := conv_const
  go_enter Try.func9, Try.ntmps9
  go_wp2_with fail
  refine (new_any w 4).mono ?_
  rintro e w1 (⟨h, _⟩ | ⟨_, _, g, rfl, hQ, hb1⟩)
  · exfalso; omega
  have z1 := hb1.size
  have hc1 : Below w1.heap.size w1 (constW w1 abc) := constW_below (Below.refl _ _) (Nat.le_refl _) _
  have q1 : QAt (fun k => w.heap.size ≤ k) (constW w1 abc) g (Qu.new 4) := QAt.fresh hQ hc1
  have HWr : Hid (Calls Try.prog 16 #[.pointer (some ⟨g, 0, none⟩), .slice (some ⟨w1.heap.size, 0, none⟩) 6 6] (constW w1 abc) fun e w' => e = .returned (.tuple #[.int .i64 4, .int .i64 0]) ∧ Kept (fun k => w.heap.size ≤ k) (constW w1 abc) w' ∧ QAt (Fat (fun k => w.heap.size ≤ k) (constW w1 abc) w') w' g q4) :=
    Lib.hid (write_any _ q1 (Qu.new_ok (by decide) (by decide)) (sl_const w1 abc (by decide)))
  clear hQ q1
  go_wp2_with fail
  refine HWr.out.mono ?_
  rintro e w2 ⟨rfl, hk2, hQ2⟩
  have q2 : QAt (fun k => w.heap.size ≤ k) w2 g q4 := hQ2.more (fun k h _ => h.elim (fun h => h) (fun h => by have := constW_size w1 abc; omega))
  have B2 : Below w.heap.size w w2 := Kept.fresh (hb1.trans (hc1.mono z1)) hk2 (fun _ h => h)
  have hN := next_any w2 q2 (by exact Qu.Ok.write (Qu.new_ok (room := 4) (by decide) (by decide)) abc (by decide)) 3 9 (by decide)
  unfold Nexted at hN
  rw [q4_out] at hN
  have HNx : Hid (Calls Try.prog 10 #[.pointer (some ⟨g, 0, none⟩), .int .i64 3, .int .i64 9] w2 fun e w' => ∃ a c, e = .returned (.tuple #[.int .i64 0, .slice a 3 c, .bool false, .bool true]) ∧ Sl w' a 3 c (bv [97, 98, 99]) ∧ Kept (fun k => w.heap.size ≤ k) w2 w') :=
    Lib.hid (hN.mono fun e w' ⟨a, c, h1, h2, h3, _⟩ => ⟨a, c, h1, own_sl h2, h3⟩)
  clear hQ2 q2 hk2 hN
  go_wp2_with fail
  refine HNx.out.mono ?_
  rintro e w3 ⟨a3, c3, rfl, hs3, hk3⟩
  have hstr := run_str (P := Try.prog) hs3 27 5 9 Try.underlying27 Try.underlying5 Try.underlying9
  have hst := strB_bytes [97, 98, 99]
  go_wp2
  go_ret
  exact ⟨rfl, Kept.fresh B2 hk3 (fun _ h => h)⟩

set_option maxRecDepth 100000 in
set_option maxHeartbeats 1000000 in
theorem news_any (w : World) (room : Int) (_ : -9223372036854775808 ≤ room) (_ : room ≤ 9223372036854775807) : Calls Try.prog 3 #[.int .i64 room] w fun e w' => e = .returned (.bool true) ∧ Below w.heap.size w w' := by
  by_cases hr : room < 1 ∨ 65536 < room
  · have HA := Lib.hid awake4_any
    rcases hr with hr | hr
    · go_enter Try.func3, Try.ntmps3
      go_wp2_with fail
      refine (new_any w room).mono ?_
      rintro e w1 (⟨_, rfl, hb1⟩ | ⟨h1, h2, _⟩)
      rotate_left
      · exfalso; omega
      go_wp2_with fail
      refine (HA.out w1).mono ?_
      rintro e w2 ⟨rfl, hb2⟩
      go_wp2
      go_ret
      exact ⟨rfl, hb1.trans (hb2.mono hb1.size)⟩
    · have hr' : ¬ room < 1 := by omega
      go_enter Try.func3, Try.ntmps3
      go_wp2_with fail
      refine (new_any w room).mono ?_
      rintro e w1 (⟨_, rfl, hb1⟩ | ⟨h1, h2, _⟩)
      rotate_left
      · exfalso; omega
      go_wp2_with fail
      refine (HA.out w1).mono ?_
      rintro e w2 ⟨rfl, hb2⟩
      go_wp2
      go_ret
      exact ⟨rfl, hb1.trans (hb2.mono hb1.size)⟩
  · have hr1 : ¬ room < 1 := fun h => hr (.inl h)
    have hr2 : ¬ 65536 < room := fun h => hr (.inr h)
    obtain ⟨n, rfl⟩ := Int.eq_ofNat_of_zero_le (show 0 ≤ room by omega)
    have HA := Lib.hid awake4_any
    clear hr
    go_enter Try.func3, Try.ntmps3
    go_wp2_with fail
    refine (new_any w n).mono ?_
    rintro e w1 (⟨h, _⟩ | ⟨_, _, g, rfl, hQ, hb1⟩)
    · exfalso; omega
    have hok : (Qu.new n).Ok := Qu.new_ok (by omega) (by omega)
    have q1 : QAt (fun k => w.heap.size ≤ k) w1 g (Qu.new n) := hQ.more (fun _ h _ => h.1)
    have hp : (Qu.new n).pick 9 9 = (0, 0) := by
      unfold Qu.pick
      rw [if_neg (by exact (by decide : ¬ 0 ≤ Lib.indexByte [] 2)), if_neg (fun h => absurd h.1 (by exact (by decide : ¬ 0 ≤ Lib.indexByte [] 0)))]
    have hno : (Qu.new n).none 9 9 := ⟨by rw [hp], .inl rfl⟩
    have hN := next_any w1 q1 hok 9 9 (by decide)
    unfold Nexted Qu.out Qu.next at hN
    rw [if_pos hno, if_pos hno] at hN
    have HNx : Hid (Calls Try.prog 10 #[.pointer (some ⟨g, 0, none⟩), .int .i64 9, .int .i64 9] w1 fun e w' => ∃ a c, e = .returned (.tuple #[.int .i64 0, .slice a 0 c, .bool false, .bool false]) ∧ Kept (fun k => w.heap.size ≤ k) w1 w' ∧ QAt (fun k => w.heap.size ≤ k) w' g (Qu.new n)) :=
      Lib.hid (hN.mono fun e w' ⟨a, c, h1, h2, h3, h4⟩ => ⟨a, c, h1, h3, h4⟩)
    clear hQ q1 hN hno hp
    go_wp2_with fail
    refine HNx.out.mono ?_
    rintro e w2 ⟨a2, c2, rfl, hk2, hQ2⟩
    have B2 : Below w.heap.size w w2 := Kept.fresh hb1 hk2 (fun _ h => h)
    clear hk2
    have HR : Hid (Calls Try.prog 11 #[.pointer (some ⟨g, 0, none⟩)] w2 (IntOf w2 (n : Int))) := Lib.hid (by have := room_any w2 hQ2 hok; simpa [Qu.new] using this)
    go_wp2_with fail
    refine HR.out.mono ?_
    rintro e w3 ⟨rfl, hb3⟩
    have hQ3 := hQ2.below hb3
    have B3 := B2.trans (hb3.mono B2.size)
    have HW : Hid (Calls Try.prog 12 #[.pointer (some ⟨g, 0, none⟩)] w3 (IntOf w3 0)) := Lib.hid (by have := written_any w3 hQ3 hok; simpa [Qu.new] using this)
    go_wp2_with fail
    refine HW.out.mono ?_
    rintro e w4 ⟨rfl, hb4⟩
    have hQ4 := hQ3.below hb4
    have B4 := B3.trans (hb4.mono B3.size)
    go_wp2_with fail
    have HS : Hid (Calls Try.prog 13 #[.pointer (some ⟨g, 0, none⟩)] w4 (IntOf w4 0)) := Lib.hid (sent_any w4 hQ4)
    refine HS.out.mono ?_
    rintro e w5 ⟨rfl, hb5⟩
    have hQ5 := hQ4.below hb5
    have B5 := B4.trans (hb5.mono B4.size)
    go_wp2_with fail
    have HBs : Hid (Calls Try.prog 14 #[.pointer (some ⟨g, 0, none⟩)] w5 (IntOf w5 0)) := Lib.hid (base_any w5 hQ5)
    refine HBs.out.mono ?_
    rintro e w6 ⟨rfl, hb6⟩
    have hQ6 := hQ5.below hb6
    have B6 := B5.trans (hb6.mono B5.size)
    go_wp2_with fail
    have HDn : Hid (Calls Try.prog 15 #[.pointer (some ⟨g, 0, none⟩)] w6 fun e w' => e = .returned (.bool false) ∧ Below w6.heap.size w6 w') := Lib.hid (done_any w6 hQ6)
    refine HDn.out.mono ?_
    rintro e w7 ⟨rfl, hb7⟩
    have B7 := B6.trans (hb7.mono B6.size)
    go_wp2_with fail
    refine (HA.out w7).mono ?_
    rintro e w8 ⟨rfl, hb8⟩
    go_wp2
    go_ret
    exact ⟨rfl, B7.trans (hb8.mono B7.size)⟩
end Go.Proofs.Ytkjclgpecppokaa

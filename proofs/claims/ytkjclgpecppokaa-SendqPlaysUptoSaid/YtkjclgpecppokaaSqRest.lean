/- rest of layer 4's law answers true, where the queue and the document's agree. -/
import Derived.Test.YtkjclgpecppokaaRfBisim
namespace Go.Proofs.Ytkjclgpecppokaa
open Go.RowKit

set_option maxRecDepth 100000 in
set_option maxHeartbeats 4000000 in
theorem rest_any (w : World) {Fq Fr : Nat → Prop} {g gr : Nat} {q : Qu} {pre : List UInt8} (hQ : QAt Fq w g q) (hR : RAt Fr w gr (q.lift pre)) (h : PInv q pre) (hm : q.base + q.data.length ≤ 8796093022208) :
    Calls Try.prog 23 #[.pointer (some ⟨g, 0, none⟩), .pointer (some ⟨gr, 0, none⟩)] w fun e w' => e = .returned (.bool true) ∧ Below w.heap.size w w' := by
  have hrok := lift_ok h hm
  have hp := h.pre
  have hL : ∃ L : Nat, (q.lift pre).data.length = L ∧ q.base + q.data.length = L := ⟨_, rfl, by simp [Qu.lift]; omega⟩
  obtain ⟨L, hL1, hL2⟩ := hL
  obtain ⟨s, hs⟩ : ∃ s, s = q.sent := ⟨_, rfl⟩
  have HWt : Hid (∀ w', Below w.heap.size w w' → Calls Try.prog 12 #[.pointer (some ⟨g, 0, none⟩)] w' (IntOf w' (L : Int))) := Lib.hid (fun w' hb => by
    have := written_any w' (hQ.below hb) h.ok
    rwa [show (q.base : Int) + (q.data.length : Int) = (L : Int) by omega] at this)
  have HSt : Hid (∀ w', Below w.heap.size w w' → Calls Try.prog 13 #[.pointer (some ⟨g, 0, none⟩)] w' (IntOf w' (s : Int))) := Lib.hid (fun w' hb => by
    have := sent_any w' (hQ.below hb)
    rwa [← hs] at this)
  have HBs : Hid (∀ w', Below w.heap.size w w' → Calls Try.prog 14 #[.pointer (some ⟨g, 0, none⟩)] w' (IntOf w' (q.base : Int))) := Lib.hid (fun w' hb => base_any w' (hQ.below hb))
  have HRb : Hid (∀ w', Below w.heap.size w w' → Calls Try.prog 36 #[.pointer (some ⟨gr, 0, none⟩)] w' (IntOf w' (q.base : Int))) := Lib.hid (fun w' hb => by
    have := rbase_any w' (hR.below hb) (by rw [hrok.len]; have := hrok.most; omega)
    rwa [lift_lead h] at this)
  obtain ⟨z, hz⟩ : ∃ z : Int, z = (q.room : Int) - q.data.length := ⟨_, rfl⟩
  have HRm : Hid (∀ w', Below w.heap.size w w' → Calls Try.prog 11 #[.pointer (some ⟨g, 0, none⟩)] w' (IntOf w' z)) := Lib.hid (fun w' hb => by
    have := room_any w' (hQ.below hb) h.ok
    rwa [← hz] at this)
  have HRl : Hid (∀ w', Below w.heap.size w w' → Calls Try.prog 37 #[.pointer (some ⟨gr, 0, none⟩)] w' (IntOf w' z)) := Lib.hid (fun w' hb => by
    have := rleft_any w' (hR.below hb) hrok
    rw [lift_lead h, hL1] at this
    rwa [show ((q.lift pre).room : Int) - ((L : Int) - (q.base : Int)) = z by rw [hz]; show (q.room : Int) - _ = _; omega] at this)
  obtain ⟨d, hd⟩ : ∃ d, d = (q.e == 3 && q.data.length == 0) := ⟨_, rfl⟩
  have HDn : Hid (∀ w', Below w.heap.size w w' → Calls Try.prog 15 #[.pointer (some ⟨g, 0, none⟩)] w' fun e w'' => e = .returned (.bool d) ∧ Below w'.heap.size w' w'') := Lib.hid (fun w' hb => by
    have := done_any w' (hQ.below hb)
    rwa [← hd] at this)
  have HRd : Hid (∀ w', Below w.heap.size w w' → Calls Try.prog 38 #[.pointer (some ⟨gr, 0, none⟩)] w' fun e w'' => e = .returned (.bool d) ∧ Below w'.heap.size w' w'') := Lib.hid (fun w' hb => by
    have := rdone_any w' (hR.below hb) hrok
    rwa [lift_done h, ← hd] at this)
  obtain ⟨da, dc, sa, sc, hb, _⟩ := hR
  have c2 : ∀ w', Below w.heap.size w w' → w'.cell? ⟨gr, 2, none⟩ = some (.slice da L dc) := fun w' hb' => by rw [hb'.cell hb.has.lt, ← hL1]; exact hb.has.cell 2 rfl
  have c1 : ∀ w', Below w.heap.size w w' → w'.cell? ⟨gr, 1, none⟩ = some (.int .i64 (s : Int)) := fun w' hb' => by rw [hb'.cell hb.has.lt, hs]; exact hb.has.cell 1 rfl
  clear hb hQ h hm hrok hp hL1 hL2 hs hz hd
  go_enter Try.func23, Try.ntmps23
  have b1 : Below w.heap.size w w.drew := below_drewN (Below.refl _ w) 1
  obtain ⟨w1, hw1⟩ : ∃ w1, w1 = w.drew := ⟨_, rfl⟩
  go_wp2_with fail
  refine Mx.region [] (fun w' => Below w.heap.size w w') (by kernel_rfl) (by kernel_rfl) b1 ?_
  rw [← hw1] at b1 ⊢
  clear hw1
  repeat ((first | (refine Mx.skips (by kernel_rfl) ?_; go_big_quiet_skip) | (refine Mx.quietly rfl ?_; go_big_quiet_want; go_big_quiet_op; go_big_quiet_on)); refine Mx.done ?_)
  refine Mx.loudly (by kernel_rfl) (by kernel_rfl) ?_
  go_wp2_with fail
  refine (HWt.out w1 b1).mono ?_
  rintro e w2 ⟨rfl, hb2⟩
  have b2 := b1.trans (hb2.mono b1.size)
  clear b1 hb2
  go_wp2_with fail
  repeat ((first | (refine Mx.skips (by kernel_rfl) ?_; go_big_quiet_skip) | (refine Mx.quietly rfl ?_; go_big_quiet_want; go_big_quiet_op; go_big_quiet_on)); refine Mx.done ?_)
  refine Mx.cell ⟨gr, 2, none⟩ (.slice da L dc) (by kernel_rfl) (by kernel_rfl) (by kernel_rfl) Try.isAgg27 (fun w' h => c2 w' h) ?_
  go_big_quiet_want; go_big_quiet_op; go_big_quiet_on; refine Mx.done ?_
  repeat ((first | (refine Mx.skips (by kernel_rfl) ?_; go_big_quiet_skip) | (refine Mx.quietly rfl ?_; go_big_quiet_want; go_big_quiet_op; go_big_quiet_on)); refine Mx.done ?_)
  refine Mx.loudly (by kernel_rfl) (by kernel_rfl) ?_
  go_wp2_with fail
  refine (HSt.out w2 b2).mono ?_
  rintro e w3 ⟨rfl, hb3⟩
  have b3 := b2.trans (hb3.mono b2.size)
  clear b2 hb3
  go_wp2_with fail
  repeat ((first | (refine Mx.skips (by kernel_rfl) ?_; go_big_quiet_skip) | (refine Mx.quietly rfl ?_; go_big_quiet_want; go_big_quiet_op; go_big_quiet_on)); refine Mx.done ?_)
  refine Mx.cell ⟨gr, 1, none⟩ (.int .i64 (s : Int)) (by kernel_rfl) (by kernel_rfl) (by kernel_rfl) Try.isAgg3 (fun w' h => c1 w' h) ?_
  go_big_quiet_want; go_big_quiet_op; go_big_quiet_on; refine Mx.done ?_
  repeat ((first | (refine Mx.skips (by kernel_rfl) ?_; go_big_quiet_skip) | (refine Mx.quietly rfl ?_; go_big_quiet_want; go_big_quiet_op; go_big_quiet_on)); refine Mx.done ?_)
  refine Mx.loudly (by kernel_rfl) (by kernel_rfl) ?_
  go_wp2_with fail
  refine (HBs.out w3 b3).mono ?_
  rintro e w4 ⟨rfl, hb4⟩
  have b4 := b3.trans (hb4.mono b3.size)
  clear b3 hb4
  go_wp2_with fail
  repeat ((first | (refine Mx.skips (by kernel_rfl) ?_; go_big_quiet_skip) | (refine Mx.quietly rfl ?_; go_big_quiet_want; go_big_quiet_op; go_big_quiet_on)); refine Mx.done ?_)
  refine Mx.loudly (by kernel_rfl) (by kernel_rfl) ?_
  go_wp2_with fail
  refine (HRb.out w4 b4).mono ?_
  rintro e w5 ⟨rfl, hb5⟩
  have b5 := b4.trans (hb5.mono b4.size)
  clear b4 hb5
  go_wp2_with fail
  repeat ((first | (refine Mx.skips (by kernel_rfl) ?_; go_big_quiet_skip) | (refine Mx.quietly rfl ?_; go_big_quiet_want; go_big_quiet_op; go_big_quiet_on)); refine Mx.done ?_)
  refine Mx.loudly (by kernel_rfl) (by kernel_rfl) ?_
  go_wp2_with fail
  refine (HRm.out w5 b5).mono ?_
  rintro e w6 ⟨rfl, hb6⟩
  have b6 := b5.trans (hb6.mono b5.size)
  clear b5 hb6
  go_wp2_with fail
  repeat ((first | (refine Mx.skips (by kernel_rfl) ?_; go_big_quiet_skip) | (refine Mx.quietly rfl ?_; go_big_quiet_want; go_big_quiet_op; go_big_quiet_on)); refine Mx.done ?_)
  refine Mx.loudly (by kernel_rfl) (by kernel_rfl) ?_
  go_wp2_with fail
  refine (HRl.out w6 b6).mono ?_
  rintro e w7 ⟨rfl, hb7⟩
  have b7 := b6.trans (hb7.mono b6.size)
  clear b6 hb7
  go_wp2_with fail
  repeat ((first | (refine Mx.skips (by kernel_rfl) ?_; go_big_quiet_skip) | (refine Mx.quietly rfl ?_; go_big_quiet_want; go_big_quiet_op; go_big_quiet_on)); refine Mx.done ?_)
  refine Mx.loudly (by kernel_rfl) (by kernel_rfl) ?_
  go_wp2_with fail
  refine (HDn.out w7 b7).mono ?_
  rintro e w8 ⟨rfl, hb8⟩
  have b8 := b7.trans (hb8.mono b7.size)
  clear b7 hb8
  go_wp2_with fail
  repeat ((first | (refine Mx.skips (by kernel_rfl) ?_; go_big_quiet_skip) | (refine Mx.quietly rfl ?_; go_big_quiet_want; go_big_quiet_op; go_big_quiet_on)); refine Mx.done ?_)
  refine Mx.loudly (by kernel_rfl) (by kernel_rfl) ?_
  go_wp2_with fail
  refine (HRd.out w8 b8).mono ?_
  rintro e w9 ⟨rfl, hb9⟩
  have b9 := b8.trans (hb9.mono b8.size)
  clear b8 hb9
  go_wp2_with fail
  repeat ((first | (refine Mx.skips (by kernel_rfl) ?_; go_big_quiet_skip) | (refine Mx.quietly rfl ?_; go_big_quiet_want; go_big_quiet_op; go_big_quiet_on)); refine Mx.done ?_)
  refine Mx.nil ?_
  go_wp2
  go_ret
  exact ⟨rfl, b9⟩
end Go.Proofs.Ytkjclgpecppokaa

/- Contract of the queue's Next. -/
import Derived.Test.YtkjclgpecppokaaSqWrite
import Derived.Test.YtkjclgpecppokaaWalk
namespace Go.Proofs.Ytkjclgpecppokaa
open Go.RowKit

theorem results_tmp4 {fn : Func} {t u v x : Tmp} (h : fn.results = #[.tmp t, .tmp u, .tmp v, .tmp x]) (tmps : Array Value) (P : Program) (w : World) :
    (results fn tmps).run P w = .ok (.tuple #[tmps.getD t undef, tmps.getD u undef, tmps.getD v undef, tmps.getD x undef]) w := by
  simp [results, h]
/-- what Next does -/
def Nexted (F : Nat → Prop) (w : World) (g : Nat) (q : Qu) (most limit : Int) (e : Ending) (w' : World) : Prop :=
  ∃ a c, e = .returned (.tuple #[.int .i64 ((q.out most limit).at_ : Int), .slice a (q.out most limit).data.length c, .bool (q.out most limit).fin, .bool (q.out most limit).ok]) ∧
    w'.ownsRow w.heap.size 5 1 (.slice a (q.out most limit).data.length c) (q.out most limit).data.length (bv (q.out most limit).data) ∧ Kept F w w' ∧ QAt F w' g (q.next most limit)

theorem opens_cases (q : Qu) : (q.fin = false ∧ q.opens = false) ∨ (q.fin = true ∧ ((q.e.toNat : Int) == 0) = true ∧ q.opens = true) ∨
    (q.fin = true ∧ ((q.e.toNat : Int) == 0) = false ∧ ((q.e.toNat : Int) == 2) = true ∧ q.opens = true) ∨ (q.fin = true ∧ ((q.e.toNat : Int) == 0) = false ∧ ((q.e.toNat : Int) == 2) = false ∧ q.opens = false) := by
  cases hf : q.fin
  · exact .inl ⟨rfl, by unfold Qu.opens; rw [hf]; rfl⟩
  · by_cases h0 : q.e = 0
    · exact .inr (.inl ⟨rfl, by rw [h0]; rfl, by unfold Qu.opens; rw [hf, h0]; rfl⟩)
    · have n0 : ((q.e.toNat : Int) == 0) = false := by rw [beq_eq_false_iff_ne]; exact fun h => h0 (u8_inj h)
      by_cases h2 : q.e = 2
      · exact .inr (.inr (.inl ⟨rfl, n0, by rw [h2]; rfl, by unfold Qu.opens; rw [hf, h2]; rfl⟩))
      · have n2 : ((q.e.toNat : Int) == 2) = false := by rw [beq_eq_false_iff_ne]; exact fun h => h2 (u8_inj h)
        exact .inr (.inr (.inr ⟨rfl, n0, n2, by unfold Qu.opens; simp [hf, h0, h2]⟩))

set_option maxRecDepth 100000 in
set_option maxHeartbeats 400000 in
theorem next_none (w : World) {F : Nat → Prop} {g : Nat} {q : Qu} (h : QAt F w g q) (hq : q.Ok) (most limit : Int) (hl : limit ≤ 9223372036854775807) (hN : q.none most limit) :
    Calls Try.prog 10 #[.pointer (some ⟨g, 0, none⟩), .int .i64 most, .int .i64 limit] w (Nexted F w g q most limit) := by
  have hQ := h
  have hP := pick_any w h hq most limit hl
  have hW := fun w' (hb : Below w.heap.size w w') => written_any w' (h.below hb) hq
  obtain ⟨da, dc, sa, sc, hb, F1, F2, F3⟩ := h
  rw [hN.1] at hP
  generalize (q.pick most limit).1 = i0 at hP
  have ho : q.out most limit = ⟨0, [], false, false⟩ := by unfold Qu.out; rw [if_pos hN]
  have hn : q.next most limit = q := by unfold Qu.next; rw [if_pos hN]
  have hfinish : ∀ w', Below w.heap.size w w' → Nexted F w g q most limit (.returned (.tuple #[.int .i64 0, .slice none 0 0, .bool false, .bool false])) w' := by
    intro w' hb'
    unfold Nexted
    rw [ho, hn]
    exact ⟨none, 0, rfl, World.ownsRow_nil _ _ _ _, Kept.of_below hb', hQ.below hb'⟩
  have HP := Lib.hid hP
  have HW := Lib.hid hW
  have HFi := Lib.hid hfinish
  obtain ⟨hN1, hN2⟩ := hN
  clear hP hW ho hn hfinish hN1
  rcases opens_cases q with ⟨e1, e4⟩ | ⟨e1, e2, e4⟩ | ⟨e1, e2, e3, e4⟩ | ⟨e1, e2, e3, e4⟩
  all_goals
    rw [e4] at hN2
    clear hQ hq
    have c5 := fun w' (hb' : Below w.heap.size w w') => (hb.below hb').has.cell 5 rfl
    have c6 := fun w' (hb' : Below w.heap.size w w') => (hb.below hb').has.cell 6 rfl
    have c2 := fun w' (hb' : Below w.heap.size w w') => (hb.below hb').has.cell 2 rfl
    rw [e1] at c5
    clear e4 e1
  case inl =>
    clear hN2
    go_enter Try.func10, Try.ntmps10
    go_wp2_with fail
    refine HP.out.mono ?_
    rintro e w1 ⟨rfl, hb1⟩
    have d5 := c5 w1 hb1
    go_wp2_with fail
    refine Mx.region [] (fun _ => True) (by kernel_rfl) (by kernel_rfl) trivial ?_
    repeat ((first | (refine Mx.skips (by kernel_rfl) ?_; go_big_quiet_skip) | (refine Mx.quietly rfl ?_; go_big_quiet_want; go_big_quiet_op; go_big_quiet_on)); refine Mx.done ?_)
    refine Mx.nil ?_
    go_wp2
    refine bodyPost_ret (results_tmp4 rfl _ _ _) rfl ?_
    exact HFi.out _ (hb1.trans ⟨rfl, rfl, rfl, Nat.le_refl _, fun _ _ => rfl⟩)
  case inr.inr.inr =>
    clear hN2
    go_enter Try.func10, Try.ntmps10
    go_wp2_with fail
    refine HP.out.mono ?_
    rintro e w1 ⟨rfl, hb1⟩
    have d5 := c5 w1 hb1
    have d6 := c6 w1 hb1
    go_wp2_with fail
    refine Mx.region [] (fun _ => True) (by kernel_rfl) (by kernel_rfl) trivial ?_
    repeat ((first | (refine Mx.skips (by kernel_rfl) ?_; go_big_quiet_skip) | (refine Mx.quietly rfl ?_; go_big_quiet_want; go_big_quiet_op; go_big_quiet_on)); refine Mx.done ?_)
    refine Mx.nil ?_
    go_wp2
    refine bodyPost_ret (results_tmp4 rfl _ _ _) rfl ?_
    exact HFi.out _ (hb1.trans ⟨rfl, rfl, rfl, Nat.le_refl _, fun _ _ => rfl⟩)
  all_goals
    have hne : ((q.sent : Int) == (q.base : Int) + (q.data.length : Int)) = false := by
      rw [beq_eq_false_iff_ne]
      rcases hN2 with h | h
      · exact absurd h (by decide)
      · omega
    clear hN2
    go_enter Try.func10, Try.ntmps10
    go_wp2_with fail
    refine HP.out.mono ?_
    rintro e w1 ⟨rfl, hb1⟩
    have d5 := c5 w1 hb1
    have d6 := c6 w1 hb1
    go_wp2_with fail
    have hdr : Below w.heap.size w w1.drew := hb1.trans ⟨rfl, rfl, rfl, Nat.le_refl _, fun _ _ => rfl⟩
    have HWr := Lib.hid (HW.out w1.drew hdr)
    refine Mx.region [] (fun w' => w'.cell? ⟨g, 2, none⟩ = some (.int .i64 (q.sent : Int))) (by kernel_rfl) (by kernel_rfl) (c2 _ hdr) ?_
    repeat ((first | (refine Mx.skips (by kernel_rfl) ?_; go_big_quiet_skip) | (refine Mx.quietly rfl ?_; go_big_quiet_want; go_big_quiet_op; go_big_quiet_on)); refine Mx.done ?_)
    refine Mx.cell ⟨g, 2, none⟩ (.int .i64 (q.sent : Int)) (by kernel_rfl) (by kernel_rfl) (by kernel_rfl) Try.isAgg3 (fun w' h => h) ?_
    go_big_quiet_want; go_big_quiet_op; go_big_quiet_on; refine Mx.done ?_
    repeat ((first | (refine Mx.skips (by kernel_rfl) ?_; go_big_quiet_skip) | (refine Mx.quietly rfl ?_; go_big_quiet_want; go_big_quiet_op; go_big_quiet_on)); refine Mx.done ?_)
    refine Mx.loudly (by kernel_rfl) (by kernel_rfl) ?_
    go_wp2_with fail
    refine HWr.out.mono ?_
    rintro e w2 ⟨rfl, hb2⟩
    have B2 : Below w.heap.size w w2 := hdr.trans (hb2.mono hdr.size)
    have d2 := c2 w2 B2
    go_wp2_with fail
    repeat ((first | (refine Mx.skips (by kernel_rfl) ?_; go_big_quiet_skip) | (refine Mx.quietly rfl ?_; go_big_quiet_want; go_big_quiet_op; go_big_quiet_on)); refine Mx.done ?_)
    refine Mx.nil ?_
    go_wp2
    refine bodyPost_ret (results_tmp4 rfl _ _ _) rfl ?_
    exact HFi.out _ B2
end Go.Proofs.Ytkjclgpecppokaa

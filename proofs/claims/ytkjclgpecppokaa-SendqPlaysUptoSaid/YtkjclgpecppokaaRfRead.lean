/- The document's queue: contracts of Base, first, Left, Done, Finish. -/
import Derived.Test.YtkjclgpecppokaaRfPure
import Derived.Test.YtkjclgpecppokaaSqRead
import Derived.Test.YtkjclgpecppokaaWalk
namespace Go.Proofs.Ytkjclgpecppokaa
open Go.RowKit

set_option maxRecDepth 100000 in
set_option maxHeartbeats 1000000 in
theorem rbase_any (w : World) {F : Nat → Prop} {g : Nat} {r : Qu} (h : RAt F w g r) (hm : r.st.length ≤ 1152921504606846976) :
    Calls Try.prog 36 #[.pointer (some ⟨g, 0, none⟩)] w (IntOf w (r.lead : Int)) := by
  obtain ⟨da, dc, sa, sc, hb, _⟩ := h
  have HB := Lib.hid hb
  clear hb
  go_enter Try.func36, Try.ntmps36
  go_wp2_with fail
  go_loopw [3] (fun v wr => ∃ k : Nat, v = .int .i64 (k : Int) ∧ k ≤ r.st.length ∧ Hid (∀ j, j < k → r.st[j]? = some 3) ∧ Below w.heap.size w wr) (fun v _ => r.st.length - (intOf v).toNat)
  case atStart => exact ⟨0, rfl, Nat.zero_le _, Lib.hid (fun j hj => by omega), Below.refl _ _⟩
  case round =>
    obtain ⟨k, rfl, hk, H3, hB⟩ := hrel
    have B := HB.out.below hB
    have c3 := B.has.cell 3 rfl
    by_cases hkn : k < r.st.length
    · have hkn' : (k : Int) < (r.st.length : Int) := by omega
      have g2 : IntKind.i64.wrap ((k : Int) + 1) = (k : Int) + 1 := by rw [IntKind.wrap_i64]; omega
      obtain ⟨sb, rfl, hc, _, h1, h2⟩ := own_cell B.s hkn
      rw [nv_get _ _ hkn] at hc
      have h1' : (r.st.length : Int) ≤ (sc : Int) := by omega
      have HX := Lib.hid (List.getElem?_eq_getElem hkn)
      clear B
      by_cases hx : r.st[k] = 3
      · rw [hx] at hc
        have H3' : Hid (∀ j, j < k + 1 → r.st[j]? = some 3) := Lib.hid (fun j hj => by
          rcases Nat.lt_or_ge j k with h | h
          · exact H3.out j h
          · obtain rfl : j = k := by omega
            rw [HX.out, hx])
        clear hx
        go_wp2
        go_roundw
        case rel => exact ⟨k + 1, by push_cast; rfl, by omega, H3', hB⟩
        case measure => simp [intOf]; omega
      · have hne : (((r.st[k]).toNat : Int) != 3) = true := by
          rw [bne_iff_ne]
          intro h3
          exact hx (UInt8.toNat_inj.1 (by have : (3 : UInt8).toNat = 3 := rfl; omega))
        have hl : Hid (r.lead = k) := Lib.hid (runL_is 3 _ _ k hk (fun j hj => H3.out j hj) (.inr (by rw [HX.out]; intro h; exact hx (Option.some.inj h))))
        generalize (r.st[k]).toNat = y at hc hne
        clear hx HX
        go_wp2
        go_ret
        exact ⟨by rw [hl.out]; rfl, hB⟩
    · obtain rfl : k = r.st.length := by omega
      have hl : Hid (r.lead = r.st.length) := Lib.hid (runL_is 3 _ _ _ (Nat.le_refl _) (fun j hj => H3.out j hj) (.inl rfl))
      clear B
      go_wp2
      go_ret
      exact ⟨by rw [hl.out]; rfl, hB⟩

theorem ib_eq {l : List UInt8} {x : UInt8} {k : Nat} (h1 : l[k]? = some x) (h2 : ∀ j, j < k → l[j]? ≠ some x) : Lib.indexByte l x = (k : Int) := by
  have h3 := Lib.indexByte_ge l x
  rcases Int.lt_or_le (Lib.indexByte l x) 0 with h4 | h4
  · exact absurd h1 (Lib.indexByte_none (show Lib.indexByte l x = -1 by omega) k)
  · obtain ⟨m, hm⟩ := Int.eq_ofNat_of_zero_le h4
    obtain ⟨g1, g2⟩ := Lib.indexByte_some hm
    rcases Nat.lt_trichotomy m k with h | h | h
    · exact absurd g1 (h2 m h)
    · rw [hm, h]
    · exact absurd h1 (g2 k h)

set_option maxRecDepth 100000 in
set_option maxHeartbeats 1000000 in
theorem rfirst_any (w : World) {F : Nat → Prop} {g : Nat} {r : Qu} (h : RAt F w g r) (hm : r.st.length ≤ 1152921504606846976) (s : UInt8) :
    Calls Try.prog 40 #[.pointer (some ⟨g, 0, none⟩), .int .i64 (s.toNat : Int)] w (IntOf w (Lib.indexByte r.st s)) := by
  obtain ⟨da, dc, sa, sc, hb, _⟩ := h
  have HB := Lib.hid hb
  clear hb
  go_enter Try.func40, Try.ntmps40
  go_wp2_with fail
  go_loopw [5] (fun v wr => ∃ k : Nat, v = .int .i64 (k : Int) ∧ k ≤ r.st.length ∧ Hid (∀ j, j < k → r.st[j]? ≠ some s) ∧ Below w.heap.size w wr) (fun v _ => r.st.length - (intOf v).toNat)
  case atStart => exact ⟨0, rfl, Nat.zero_le _, Lib.hid (fun j hj => by omega), Below.refl _ _⟩
  case round =>
    obtain ⟨k, rfl, hk, H3, hB⟩ := hrel
    have B := HB.out.below hB
    have c3 := B.has.cell 3 rfl
    by_cases hkn : k < r.st.length
    · have hkn' : (k : Int) < (r.st.length : Int) := by omega
      have g2 : IntKind.i64.wrap ((k : Int) + 1) = (k : Int) + 1 := by rw [IntKind.wrap_i64]; omega
      obtain ⟨sb, rfl, hc, _, h1, h2⟩ := own_cell B.s hkn
      rw [nv_get _ _ hkn] at hc
      have h1' : (r.st.length : Int) ≤ (sc : Int) := by omega
      have HX := Lib.hid (List.getElem?_eq_getElem hkn)
      clear B
      by_cases hx : r.st[k] = s
      · have hne : (((r.st[k]).toNat : Int) == (s.toNat : Int)) = true := by rw [hx]; simp
        have hl : Hid (Lib.indexByte r.st s = (k : Int)) := Lib.hid (ib_eq (by rw [HX.out, hx]) (fun j hj => H3.out j hj))
        generalize (r.st[k]).toNat = y at hc hne
        clear hx HX
        go_wp2
        go_ret
        exact ⟨by rw [hl.out]; rfl, hB⟩
      · have hne : (((r.st[k]).toNat : Int) == (s.toNat : Int)) = false := by
          rw [beq_eq_false_iff_ne]
          intro h3
          exact hx (UInt8.toNat_inj.1 (by omega))
        have H3' : Hid (∀ j, j < k + 1 → r.st[j]? ≠ some s) := Lib.hid (fun j hj => by
          rcases Nat.lt_or_ge j k with h | h
          · exact H3.out j h
          · obtain rfl : j = k := by omega
            rw [HX.out]
            intro h
            exact hx (Option.some.inj h))
        generalize (r.st[k]).toNat = y at hc hne
        clear hx HX
        go_wp2
        go_roundw
        case rel => exact ⟨k + 1, by push_cast; rfl, by omega, H3', hB⟩
        case measure => simp [intOf]; omega
    · obtain rfl : k = r.st.length := by omega
      have hl : Hid (Lib.indexByte r.st s = -1) := Lib.hid (by
        have h1 := Lib.indexByte_ge r.st s
        rcases Int.lt_or_le (Lib.indexByte r.st s) 0 with h2 | h2
        · omega
        · obtain ⟨m, hm⟩ := Int.eq_ofNat_of_zero_le h2
          have h3 := (Lib.indexByte_some hm).1
          exact absurd h3 (H3.out m (List.getElem?_eq_some_iff.1 h3).1))
      clear B
      go_wp2
      go_ret
      exact ⟨by rw [hl.out]; rfl, hB⟩

set_option maxRecDepth 100000 in
set_option maxHeartbeats 1000000 in
theorem rleft_any (w : World) {F : Nat → Prop} {g : Nat} {r : Qu} (h : RAt F w g r) (hq : r.ROk) :
    Calls Try.prog 37 #[.pointer (some ⟨g, 0, none⟩)] w (IntOf w ((r.room : Int) - (r.data.length - r.lead))) := by
  have HBs := Lib.hid (fun w' (hb : Below w.heap.size w w') => rbase_any w' (h.below hb) (by rw [hq.len]; have := hq.most; omega))
  obtain ⟨da, dc, sa, sc, hb, _⟩ := h
  have c0 := hb.has.cell 0 rfl
  have c2 := hb.has.cell 2 rfl
  have r2 := hq.room2
  have r4 := hq.most
  have r5 := r.lead_le
  have r6 := hq.len
  have f1 : IntKind.i64.wrap ((r.data.length : Int) - (r.lead : Int)) = (r.data.length : Int) - r.lead := by rw [IntKind.wrap_i64]; omega
  have f2 : IntKind.i64.wrap ((r.room : Int) - ((r.data.length : Int) - (r.lead : Int))) = (r.room : Int) - (r.data.length - r.lead) := by rw [IntKind.wrap_i64]; omega
  have e0 : ∀ w', Below w.heap.size w w' → w'.cell? ⟨g, 0, none⟩ = some (.int .i64 (r.room : Int)) := fun w' hb' => by rw [hb'.cell hb.has.lt]; exact c0
  have e2 : ∀ w', Below w.heap.size w w' → w'.cell? ⟨g, 2, none⟩ = some (.slice da r.data.length dc) := fun w' hb' => by rw [hb'.cell hb.has.lt]; exact c2
  clear c0 c2 hq hb
  go_enter Try.func37, Try.ntmps37
  go_wp2_with fail
  refine Mx.region [] (fun w' => Below w.heap.size w w') (by kernel_rfl) (by kernel_rfl) (below_drewN (Below.refl _ w) 1) ?_
  repeat ((first | (refine Mx.skips (by kernel_rfl) ?_; go_big_quiet_skip) | (refine Mx.quietly rfl ?_; go_big_quiet_want; go_big_quiet_op; go_big_quiet_on)); refine Mx.done ?_)
  refine Mx.cell ⟨g, 0, none⟩ (.int .i64 (r.room : Int)) (by kernel_rfl) (by kernel_rfl) (by kernel_rfl) Try.isAgg3 (fun w' h => e0 w' h) ?_
  go_big_quiet_want; go_big_quiet_op; go_big_quiet_on; refine Mx.done ?_
  repeat ((first | (refine Mx.skips (by kernel_rfl) ?_; go_big_quiet_skip) | (refine Mx.quietly rfl ?_; go_big_quiet_want; go_big_quiet_op; go_big_quiet_on)); refine Mx.done ?_)
  refine Mx.cell ⟨g, 2, none⟩ (.slice da r.data.length dc) (by kernel_rfl) (by kernel_rfl) (by kernel_rfl) Try.isAgg27 (fun w' h => e2 w' h) ?_
  go_big_quiet_want; go_big_quiet_op; go_big_quiet_on; refine Mx.done ?_
  repeat ((first | (refine Mx.skips (by kernel_rfl) ?_; go_big_quiet_skip) | (refine Mx.quietly rfl ?_; go_big_quiet_want; go_big_quiet_op; go_big_quiet_on)); refine Mx.done ?_)
  refine Mx.loudly (by kernel_rfl) (by kernel_rfl) ?_
  have hd1 : Below w.heap.size w w.drew := below_drewN (Below.refl _ w) 1
  go_wp2_with fail
  refine (HBs.out _ hd1).mono ?_
  rintro e w2 ⟨rfl, hb2⟩
  have hb3 := hd1.trans hb2
  go_wp2_with fail
  repeat ((first | (refine Mx.skips (by kernel_rfl) ?_; go_big_quiet_skip) | (refine Mx.quietly rfl ?_; go_big_quiet_want; go_big_quiet_op; go_big_quiet_on)); refine Mx.done ?_)
  refine Mx.nil ?_
  go_wp2
  go_ret
  exact ⟨rfl, hb3⟩

def Qu.rdone (r : Qu) : Bool := r.e == 3 && decide (r.lead = r.data.length)
set_option maxRecDepth 100000 in
set_option maxHeartbeats 1000000 in
theorem rdone_any (w : World) {F : Nat → Prop} {g : Nat} {r : Qu} (h : RAt F w g r) (hq : r.ROk) :
    Calls Try.prog 38 #[.pointer (some ⟨g, 0, none⟩)] w fun e w' => e = .returned (.bool r.rdone) ∧ Below w.heap.size w w' := by
  have HBs := Lib.hid (fun w' (hb : Below w.heap.size w w') => rbase_any w' (h.below hb) (by rw [hq.len]; have := hq.most; omega))
  obtain ⟨da, dc, sa, sc, hb, _⟩ := h
  have c5 := hb.has.cell 5 rfl
  have c2 := hb.has.cell 2 rfl
  have e5 : ∀ w', Below w.heap.size w w' → w'.cell? ⟨g, 5, none⟩ = some (.int .i64 (r.e.toNat : Int)) := fun w' hb' => by rw [hb'.cell hb.has.lt]; exact c5
  have e2 : ∀ w', Below w.heap.size w w' → w'.cell? ⟨g, 2, none⟩ = some (.slice da r.data.length dc) := fun w' hb' => by rw [hb'.cell hb.has.lt]; exact c2
  clear c5 c2 hq hb
  by_cases he : r.e = 3
  · have h1 : ((r.e.toNat : Int) == 3) = true := by rw [he]; rfl
    have key : ∀ b, ((r.lead : Int) == (r.data.length : Int)) = b → Hid (r.rdone = b) := fun b hb => by
      show _ = _
      unfold Qu.rdone
      rw [he, ← hb]
      simp only [beq_self_eq_true, Bool.true_and]
      by_cases hl : r.lead = r.data.length
      · rw [hl]; simp
      · rw [decide_eq_false hl]
        symm
        rw [beq_eq_false_iff_ne]
        omega
    cases hb : ((r.lead : Int) == (r.data.length : Int))
    all_goals
      have HR := key _ hb
      generalize (r.e.toNat : Int) = y at *
      clear key he
      go_enter Try.func38, Try.ntmps38
      go_wp2_with fail
      refine Mx.region [] (fun w' => Below w.heap.size w w') (by kernel_rfl) (by kernel_rfl) (below_drewN (Below.refl _ w) 1) ?_
      repeat ((first | (refine Mx.skips (by kernel_rfl) ?_; go_big_quiet_skip) | (refine Mx.quietly rfl ?_; go_big_quiet_want; go_big_quiet_op; go_big_quiet_on)); refine Mx.done ?_)
      refine Mx.cell ⟨g, 5, none⟩ (.int .i64 y) (by kernel_rfl) (by kernel_rfl) (by kernel_rfl) Try.isAgg3 (fun w' h => e5 w' h) ?_
      go_big_quiet_want; go_big_quiet_op; go_big_quiet_on; refine Mx.done ?_
      repeat ((first | (refine Mx.skips (by kernel_rfl) ?_; go_big_quiet_skip) | (refine Mx.quietly rfl ?_; go_big_quiet_want; go_big_quiet_op; go_big_quiet_on)); refine Mx.done ?_)
      refine Mx.loudly (by kernel_rfl) (by kernel_rfl) ?_
      have hd1 : Below w.heap.size w w.drew := below_drewN (Below.refl _ w) 1
      go_wp2_with fail
      refine (HBs.out _ hd1).mono ?_
      rintro e w2 ⟨rfl, hb2⟩
      have hb3 := hd1.trans hb2
      go_wp2_with fail
      repeat ((first | (refine Mx.skips (by kernel_rfl) ?_; go_big_quiet_skip) | (refine Mx.quietly rfl ?_; go_big_quiet_want; go_big_quiet_op; go_big_quiet_on)); refine Mx.done ?_)
      refine Mx.cell ⟨g, 2, none⟩ (.slice da r.data.length dc) (by kernel_rfl) (by kernel_rfl) (by kernel_rfl) Try.isAgg27 (fun w' h => e2 w' h) ?_
      go_big_quiet_want; go_big_quiet_op; go_big_quiet_on; refine Mx.done ?_
      repeat ((first | (refine Mx.skips (by kernel_rfl) ?_; go_big_quiet_skip) | (refine Mx.quietly rfl ?_; go_big_quiet_want; go_big_quiet_op; go_big_quiet_on)); refine Mx.done ?_)
      refine Mx.nil ?_
      go_wp2
      go_ret
      exact ⟨by rw [HR.out]; rfl, hb3⟩
  · have h1 : ((r.e.toNat : Int) == 3) = false := by
      rw [beq_eq_false_iff_ne]
      intro h3
      exact he (UInt8.toNat_inj.1 (by have : (3 : UInt8).toNat = 3 := rfl; omega))
    have HR : Hid (r.rdone = false) := Lib.hid (by unfold Qu.rdone; rw [beq_eq_false_iff_ne.2 he]; rfl)
    generalize (r.e.toNat : Int) = y at *
    clear he
    go_enter Try.func38, Try.ntmps38
    go_wp2_with fail
    refine Mx.region [] (fun w' => Below w.heap.size w w') (by kernel_rfl) (by kernel_rfl) (below_drewN (Below.refl _ w) 1) ?_
    repeat ((first | (refine Mx.skips (by kernel_rfl) ?_; go_big_quiet_skip) | (refine Mx.quietly rfl ?_; go_big_quiet_want; go_big_quiet_op; go_big_quiet_on)); refine Mx.done ?_)
    refine Mx.cell ⟨g, 5, none⟩ (.int .i64 y) (by kernel_rfl) (by kernel_rfl) (by kernel_rfl) Try.isAgg3 (fun w' h => e5 w' h) ?_
    go_big_quiet_want; go_big_quiet_op; go_big_quiet_on; refine Mx.done ?_
    repeat ((first | (refine Mx.skips (by kernel_rfl) ?_; go_big_quiet_skip) | (refine Mx.quietly rfl ?_; go_big_quiet_want; go_big_quiet_op; go_big_quiet_on)); refine Mx.done ?_)
    refine Mx.nil ?_
    go_wp2
    go_ret
    exact ⟨by rw [HR.out]; rfl, below_drewN (Below.refl _ w) 1⟩
end Go.Proofs.Ytkjclgpecppokaa

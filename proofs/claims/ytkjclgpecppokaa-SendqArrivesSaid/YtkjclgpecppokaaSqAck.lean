/- Contracts of the queue's Lose and Ack. -/
import Derived.Test.YtkjclgpecppokaaSqMark2
namespace Go.Proofs.Ytkjclgpecppokaa
open Go.RowKit

def Qu.lose (q : Qu) (a n : Int) (fin : Bool) : Qu :=
  if q.right a n fin then { q with st := mapped q.st (a.toNat - q.base) (a.toNat + n.toNat - q.base) turnLose, e := if fin then turnLose q.e else q.e } else q
def Qu.kept (q : Qu) (a n : Int) : Nat := runL 3 (mapped q.st (a.toNat - q.base) (a.toNat + n.toNat - q.base) turnAck) q.st.length
def Qu.ack (q : Qu) (a n : Int) (fin : Bool) : Qu :=
  if q.right a n fin then { q with base := q.base + q.kept a n, st := (mapped q.st (a.toNat - q.base) (a.toNat + n.toNat - q.base) turnAck).drop (q.kept a n), data := q.data.drop (q.kept a n), e := if fin then 3 else q.e } else q
def Qu.terr (q : Qu) (a n : Int) (fin : Bool) : Int := if q.right a n fin then 0 else 30
theorem Qu.right_nat {q : Qu} {a n : Int} {fin : Bool} (h : q.right a n fin = true) : ∃ x m : Nat, a = x ∧ n = m ∧ x + m ≤ q.sent := by
  unfold Qu.right at h
  simp only [Bool.and_eq_true, decide_eq_true_eq] at h
  obtain ⟨x, rfl⟩ := Int.eq_ofNat_of_zero_le h.1.1
  obtain ⟨m, rfl⟩ := Int.eq_ofNat_of_zero_le h.1.2.1
  exact ⟨x, m, rfl, rfl, by have := h.1.2.2.1; have := h.1.2.2.2; omega⟩
theorem Qu.kept_le (q : Qu) (a n : Int) : q.kept a n ≤ q.st.length := by
  unfold Qu.kept; exact (runL_le 3 _ _).1
theorem Qu.Ok.lose {q : Qu} (h : q.Ok) (a n : Int) (fin : Bool) : (q.lose a n fin).Ok := by
  unfold Qu.lose
  split
  · exact ⟨by simp only [mapped_len]; exact h.len, h.room1, h.room2, h.fit, h.base, h.sent, h.most⟩
  · exact h
theorem Qu.Ok.finish {q : Qu} (h : q.Ok) : q.finish.Ok := ⟨h.len, h.room1, h.room2, h.fit, h.base, h.sent, h.most⟩

/-- what a turn does -/
def Turned (F : Nat → Prop) (w : World) (g : Nat) (q' : Qu) (z : Int) (e : Ending) (w' : World) : Prop :=
  e = .returned (.int .i64 z) ∧ Kept F w w' ∧ QAt F w' g q'

set_option maxRecDepth 100000 in
set_option maxHeartbeats 1000000 in
theorem lose_any (w : World) {F : Nat → Prop} {g : Nat} {q : Qu} (h : QAt F w g q) (hq : q.Ok) (a n : Int) (fin : Bool) :
    Calls Try.prog 19 #[.pointer (some ⟨g, 0, none⟩), .int .i64 a, .int .i64 n, .bool fin] w (Turned F w g (q.lose a n fin) (q.terr a n fin)) := by
  have hC := check_any w h hq a n fin
  cases hr : q.right a n fin
  · rw [hr] at hC
    have HE : Hid (q.terr a n fin = 30) := Lib.hid (by unfold Qu.terr; rw [hr]; rfl)
    have HQ : Hid (q.lose a n fin = q) := Lib.hid (by unfold Qu.lose; rw [hr]; rfl)
    have HC := Lib.hid hC
    clear hr hC
    go_enter Try.func19, Try.ntmps19
    go_wp2_with fail
    refine HC.out.mono ?_
    rintro e w' ⟨rfl, rfl⟩
    go_wp2
    go_ret
    exact ⟨by rw [HE.out]; rfl, Kept.refl _ _, by rw [HQ.out]; exact h⟩
  · rw [hr] at hC
    have HE : Hid (q.terr a n fin = 0) := Lib.hid (by unfold Qu.terr; rw [hr]; rfl)
    obtain ⟨x, m, rfl, rfl, hxm⟩ := Qu.right_nat hr
    have HQ : Hid (q.lose (x : Int) (m : Int) fin = { q with st := mapped q.st (x - q.base) (x + m - q.base) turnLose, e := if fin then turnLose q.e else q.e }) := Lib.hid (by unfold Qu.lose; rw [hr]; rfl)
    have HM := Lib.hid (mark_lose w h hq x m hxm)
    have HC := Lib.hid hC
    clear hr hC
    cases fin
    · go_enter Try.func19, Try.ntmps19
      go_wp2_with fail
      refine HC.out.mono ?_
      rintro e w' ⟨rfl, rfl⟩
      go_wp2_with fail
      refine HM.out.mono ?_
      rintro e w2 ⟨rfl, hk2, hQ2⟩
      go_wp2
      go_ret
      exact ⟨by rw [HE.out]; rfl, hk2, by rw [HQ.out]; exact hQ2⟩
    · go_enter Try.func19, Try.ntmps19
      go_wp2_with fail
      refine HC.out.mono ?_
      rintro e w' ⟨rfl, rfl⟩
      go_wp2_with fail
      refine HM.out.mono ?_
      rintro e w2 ⟨rfl, hk2, da, dc, sa, sc, hb, F1, F2, F3⟩
      have c6 := hb.has.cell 6 rfl
      have c6f := hb.has.free 6
      go_wp2_with fail
      refine (lose1_any w2 q.e).mono ?_
      rintro e w' ⟨rfl, rfl⟩
      go_wp2
      go_ret
      have k3 := Kept.set w2 g 6 (.int .u8 ((turnLose q.e).toNat : Int))
      refine ⟨by rw [HE.out]; rfl, hk2.trans k3 (fun j _ e => by rw [e]; exact F1), ?_⟩
      rw [HQ.out]
      exact ⟨da, dc, sa, sc, ⟨hb.has.set 6 _, own_kept' hb.d k3 (fun ad ha e => hb.dg ad ha e), own_kept' hb.s k3 (fun ad ha e => hb.sg ad ha e), hb.dg, hb.sg, hb.ds⟩, F1, F2, F3⟩

/-- from the marked queue on: what is done at the head goes -/
def Qu.cut (q : Qu) (k : Nat) : Qu := { q with base := q.base + k, st := q.st.drop k, data := q.data.drop k }

set_option maxRecDepth 100000 in
set_option maxHeartbeats 1000000 in
theorem ack_false (w : World) {F : Nat → Prop} {g : Nat} {q : Qu} (h : QAt F w g q) (hq : q.Ok) (x m : Nat) (hr : q.right (x : Int) (m : Int) false = true) (hxm : x + m ≤ q.sent) :
    Calls Try.prog 20 #[.pointer (some ⟨g, 0, none⟩), .int .i64 (x : Int), .int .i64 (m : Int), .bool false] w (Turned F w g (q.ack (x : Int) (m : Int) false) 0) := by
  have hC := check_any w h hq x m false
  rw [hr] at hC
  obtain ⟨p, hp⟩ : ∃ p : Qu, p = { q with st := mapped q.st (x - q.base) (x + m - q.base) turnAck, e := q.e } := ⟨_, rfl⟩
  have hpok : p.Ok := by rw [hp]; exact ⟨by simp only [mapped_len]; exact hq.len, hq.room1, hq.room2, hq.fit, hq.base, hq.sent, hq.most⟩
  obtain ⟨k, hk⟩ : ∃ k, k = runL 3 p.st p.st.length := ⟨_, rfl⟩
  have hkl : k ≤ p.st.length := by rw [hk]; exact (runL_le 3 _ _).1
  have HQ : Hid (q.ack (x : Int) (m : Int) false = p.cut k) := Lib.hid (by
    have e1 : q.kept (x : Int) (m : Int) = k := by unfold Qu.kept; rw [hk, hp]; simp only [mapped_len]; rfl
    unfold Qu.ack; rw [if_pos hr, e1, hp]; rfl)
  have HM := Lib.hid (mark_ack w h hq x m hxm)
  have HC := Lib.hid hC
  have hkd : k ≤ p.data.length := by have := hpok.len; omega
  have hst : p.st.length ≤ 65536 := by have := hpok.len; have := hpok.fit; have := hpok.room2; omega
  have hf : IntKind.i64.wrap ((p.base : Int) + (k : Int)) = (p.base : Int) + k := by have := hpok.most; rw [IntKind.wrap_i64]; omega
  have hpq : ∀ w2, QAt F w2 g { q with st := mapped q.st (x - q.base) (x + m - q.base) turnAck } → QAt F w2 g p := by
    intro w2 h2
    rw [hp]
    exact h2
  have HP := Lib.hid hpq
  have HK := Lib.hid hk
  clear hr hC hp hk hpq
  go_enter Try.func20, Try.ntmps20
  go_wp2_with fail
  refine HC.out.mono ?_
  rintro e w' ⟨rfl, rfl⟩
  go_wp2_with fail
  refine HM.out.mono ?_
  rintro e w2 ⟨rfl, hk2, hQ2⟩
  have hQ3 := HP.out w2 hQ2
  have K3 := hk2
  generalize w2 = W3 at *
  clear hQ2 HP HM HC hk2
  have hR := run_any W3 hQ3 hpok 0 (Nat.zero_le _) 3 (p.st.length : Int)
  rw [List.drop_zero, Int.toNat_natCast, ← HK.out] at hR
  have HR : Hid (Calls Try.prog 30 #[.pointer (some ⟨g, 0, none⟩), .int .i64 0, .int .u8 3, .int .i64 (p.st.length : Int)] W3 (IntOf W3 (k : Int))) := Lib.hid hR
  obtain ⟨da, dc, sa, sc, hb, F1, F2, F3⟩ := hQ3
  have c4 := hb.has.cell 4 rfl
  clear hR
  go_wp2_with fail
  refine HR.out.mono ?_
  rintro e w4 ⟨rfl, hb4⟩
  have hb4' := hb.below hb4
  have K4 : Kept F w w4 := K3.trans (Kept.of_below (X := none') hb4) (fun _ _ h => h.elim)
  clear c4 hb HR K3
  have c1 := hb4'.has.cell 1 rfl
  have c1f := hb4'.has.free 1
  have k5 := Kept.set w4 g 1 (.int .i64 ((p.base : Int) + (k : Int)))
  have H5 := hb4'.has.set 1 (.int .i64 ((p.base : Int) + (k : Int)))
  have D5 := own_kept' hb4'.d k5 (fun ad ha e => hb4'.dg ad ha e)
  have S5 := own_kept' hb4'.s k5 (fun ad ha e => hb4'.sg ad ha e)
  have K5 := K4.trans k5 (fun j _ e => by rw [e]; exact F1)
  have ndg := hb4'.dg
  have nsg := hb4'.sg
  have nds := hb4'.ds
  clear hb4' hb4
  go_wp2_with fail
  generalize w4.setCell ⟨g, 1, none⟩ (.int .i64 ((p.base : Int) + (k : Int))) = w5 at *
  clear c1 c1f k5 K4
  have kd := Kept.drew none' w5
  have H6 := H5.kept kd (fun h => h)
  have D6 := own_kept' D5 kd (fun _ _ h => h)
  have S6 := own_kept' S5 kd (fun _ _ h => h)
  have K6 := K5.trans kd (fun _ _ h => h.elim)
  have d3 := H6.cell 3 rfl
  have d4 := H6.cell 4 rfl
  clear H5 D5 S5 K5 kd
  refine Mx.regionZ [44] (fun w' => w'.cell? ⟨g, 4, none⟩ = some (.slice sa p.st.length sc)) (by kernel_rfl) (by kernel_rfl) d4 ?_
  repeat ((first | (refine Mx.skips (by kernel_rfl) ?_; go_big_quiet_skip) | (refine Mx.quietly rfl ?_; go_big_quiet_want; go_big_quiet_op; go_big_quiet_on)); refine Mx.done ?_)
  refine Mx.loudly (by kernel_rfl) (by kernel_rfl) ?_
  go_wp2_with fail
  repeat ((first | (refine Mx.skips (by kernel_rfl) ?_; go_big_quiet_skip) | (refine Mx.quietly rfl ?_; go_big_quiet_want; go_big_quiet_op; go_big_quiet_on)); refine Mx.done ?_)
  refine Mx.loudly (by kernel_rfl) (by kernel_rfl) ?_
  go_wp2_with fail
  refine (delete_any w5.drew D6 k hkd).mono ?_
  rintro e w6 ⟨rfl, ho6, hk6⟩
  have H7 := H6.kept hk6 (fun ⟨ad, ha, e⟩ => ndg ad ha e.symm)
  have S7 := own_kept' S6 hk6 (fun ad' ha' ⟨ad, ha, e⟩ => nds ad ad' ha ha' e.symm)
  have K7 := K6.trans hk6 (fun j _ ⟨ad, ha, e⟩ => by rw [e]; exact F2 ad ha)
  have d4 := H7.cell 4 rfl
  clear H6 S6 D6 K6 d3
  go_wp2_with fail
  repeat ((first | (refine Mx.skips (by kernel_rfl) ?_; go_big_quiet_skip) | (refine Mx.quietly rfl ?_; go_big_quiet_want; go_big_quiet_op; go_big_quiet_on)); refine Mx.done ?_)
  refine Mx.cell ⟨g, 4, none⟩ (.slice sa p.st.length sc) (by kernel_rfl) (by kernel_rfl) (by kernel_rfl) Try.isAgg27 (fun w' h => h) ?_
  go_big_quiet_want; go_big_quiet_op; go_big_quiet_on; refine Mx.done ?_
  repeat ((first | (refine Mx.skips (by kernel_rfl) ?_; go_big_quiet_skip) | (refine Mx.quietly rfl ?_; go_big_quiet_want; go_big_quiet_op; go_big_quiet_on)); refine Mx.done ?_)
  refine Mx.loudly (by kernel_rfl) (by kernel_rfl) ?_
  go_wp2_with fail
  refine (delete_any w6 S7 k hkl).mono ?_
  rintro e w7 ⟨rfl, ho7, hk7⟩
  have H8 := H7.kept hk7 (fun ⟨ad, ha, e⟩ => nsg ad ha e.symm)
  have D8 := own_kept' ho6 hk7 (fun ad' ha' ⟨ad, ha, e⟩ => nds ad' ad ha' ha e)
  have K8 := K7.trans hk7 (fun j _ ⟨ad, ha, e⟩ => by rw [e]; exact F3 ad ha)
  have d4 := H8.cell 4 rfl
  have d3 := H8.cell 3 rfl
  have d3f := H8.free 3
  clear H7 S7 K7 ho6
  go_wp2_with fail
  repeat ((first | (refine Mx.skips (by kernel_rfl) ?_; go_big_quiet_skip) | (refine Mx.quietly rfl ?_; go_big_quiet_want; go_big_quiet_op; go_big_quiet_on)); refine Mx.done ?_)
  refine Mx.loudly (by kernel_rfl) (by kernel_rfl) ?_
  have k9 := Kept.set w7 g 3 (.slice da (p.data.length - k) dc)
  have H9 := H8.set 3 (.slice da (p.data.length - k) dc)
  have D9 := own_kept' D8 k9 (fun ad ha e => ndg ad ha e)
  have S9 := own_kept' ho7 k9 (fun ad ha e => nsg ad ha e)
  have K9 := K8.trans k9 (fun j _ e => by rw [e]; exact F1)
  have e4 := H9.cell 4 rfl
  have e4f := H9.free 4
  have k10 := Kept.set (w7.setCell ⟨g, 3, none⟩ (.slice da (p.data.length - k) dc)) g 4 (.slice sa (p.st.length - k) sc)
  have H10 := H9.set 4 (.slice sa (p.st.length - k) sc)
  have D10 := own_kept' D9 k10 (fun ad ha e => ndg ad ha e)
  have S10 := own_kept' S9 k10 (fun ad ha e => nsg ad ha e)
  have K10 := K9.trans k10 (fun j _ e => by rw [e]; exact F1)
  clear k9 k10 H9 D9 S9 K9 H8 D8 K8 ho7
  go_wp2_with fail
  repeat ((first | (refine Mx.skips (by kernel_rfl) ?_; go_big_quiet_skip) | (refine Mx.quietly rfl ?_; go_big_quiet_want; go_big_quiet_op; go_big_quiet_on)); refine Mx.done ?_)
  refine Mx.atLast (by kernel_rfl) (by kernel_rfl) ?_
  go_wp2_with fail
  go_wp2
  go_ret
  refine ⟨rfl, K10, ?_⟩
  rw [HQ.out]
  refine ⟨da, dc, sa, sc, ⟨?_, ?_, ?_, ndg, nsg, nds⟩, F1, F2, F3⟩
  · unfold Qu.cut qcells
    simp only [List.length_drop]
    exact H10
  · unfold Qu.cut
    simp only [List.length_drop, bv_drop]
    exact D10
  · unfold Qu.cut
    simp only [List.length_drop, bv_drop]
    exact S10

set_option maxRecDepth 100000 in
set_option maxHeartbeats 1000000 in
theorem ack_true (w : World) {F : Nat → Prop} {g : Nat} {q : Qu} (h : QAt F w g q) (hq : q.Ok) (x m : Nat) (hr : q.right (x : Int) (m : Int) true = true) (hxm : x + m ≤ q.sent) :
    Calls Try.prog 20 #[.pointer (some ⟨g, 0, none⟩), .int .i64 (x : Int), .int .i64 (m : Int), .bool true] w (Turned F w g (q.ack (x : Int) (m : Int) true) 0) := by
  have hC := check_any w h hq x m true
  rw [hr] at hC
  obtain ⟨p, hp⟩ : ∃ p : Qu, p = { q with st := mapped q.st (x - q.base) (x + m - q.base) turnAck, e := 3 } := ⟨_, rfl⟩
  have hpok : p.Ok := by rw [hp]; exact ⟨by simp only [mapped_len]; exact hq.len, hq.room1, hq.room2, hq.fit, hq.base, hq.sent, hq.most⟩
  obtain ⟨k, hk⟩ : ∃ k, k = runL 3 p.st p.st.length := ⟨_, rfl⟩
  have hkl : k ≤ p.st.length := by rw [hk]; exact (runL_le 3 _ _).1
  have HQ : Hid (q.ack (x : Int) (m : Int) true = p.cut k) := Lib.hid (by
    have e1 : q.kept (x : Int) (m : Int) = k := by unfold Qu.kept; rw [hk, hp]; simp only [mapped_len]; rfl
    unfold Qu.ack; rw [if_pos hr, e1, hp]; rfl)
  have HM := Lib.hid (mark_ack w h hq x m hxm)
  have HC := Lib.hid hC
  have hkd : k ≤ p.data.length := by have := hpok.len; omega
  have hst : p.st.length ≤ 65536 := by have := hpok.len; have := hpok.fit; have := hpok.room2; omega
  have hf : IntKind.i64.wrap ((p.base : Int) + (k : Int)) = (p.base : Int) + k := by have := hpok.most; rw [IntKind.wrap_i64]; omega
  have hpq : ∀ w2, QAt F w2 g { q with st := mapped q.st (x - q.base) (x + m - q.base) turnAck } → QAt F (w2.setCell ⟨g, 6, none⟩ (.int .u8 3)) g p ∧ (∃ v, w2.cell? ⟨g, 6, none⟩ = some v) ∧ w2.frozen? ⟨g, 6, none⟩ = false ∧ F g := by
    intro w2 h2
    rw [hp]
    obtain ⟨da, dc, sa, sc, hb, F1, F2, F3⟩ := h2
    have k3 := Kept.set w2 g 6 (.int .u8 3)
    exact ⟨⟨da, dc, sa, sc, ⟨hb.has.set 6 _, own_kept' hb.d k3 (fun ad ha e => hb.dg ad ha e), own_kept' hb.s k3 (fun ad ha e => hb.sg ad ha e), hb.dg, hb.sg, hb.ds⟩, F1, F2, F3⟩, ⟨_, hb.has.cell 6 rfl⟩, hb.has.free 6, F1⟩
  have HP := Lib.hid hpq
  have HK := Lib.hid hk
  clear hr hC hp hk hpq
  go_enter Try.func20, Try.ntmps20
  go_wp2_with fail
  refine HC.out.mono ?_
  rintro e w' ⟨rfl, rfl⟩
  go_wp2_with fail
  refine HM.out.mono ?_
  rintro e w2 ⟨rfl, hk2, hQ2⟩
  obtain ⟨hQ3, ⟨v6, c6⟩, c6f, F1'⟩ := HP.out w2 hQ2
  have K3 : Kept F w (w2.setCell ⟨g, 6, none⟩ (.int .u8 3)) := hk2.trans (Kept.set w2 g 6 (.int .u8 3)) (fun j _ e => by rw [e]; exact F1')
  obtain ⟨W3, hW3⟩ : ∃ W3, W3 = w2.setCell ⟨g, 6, none⟩ (.int .u8 3) := ⟨_, rfl⟩
  rw [← hW3] at hQ3 K3
  have hR := run_any W3 hQ3 hpok 0 (Nat.zero_le _) 3 (p.st.length : Int)
  rw [List.drop_zero, Int.toNat_natCast, ← HK.out] at hR
  have HR : Hid (Calls Try.prog 30 #[.pointer (some ⟨g, 0, none⟩), .int .i64 0, .int .u8 3, .int .i64 (p.st.length : Int)] W3 (IntOf W3 (k : Int))) := Lib.hid hR
  obtain ⟨da, dc, sa, sc, hb, F1, F2, F3⟩ := hQ3
  have c4 := hb.has.cell 4 rfl
  clear hR
  rw [hW3] at c4
  go_wp2_with fail
  rw [← hW3]
  clear hW3 hQ2 c6 c6f HP HM HC hk2
  refine HR.out.mono ?_
  rintro e w4 ⟨rfl, hb4⟩
  have hb4' := hb.below hb4
  have K4 : Kept F w w4 := K3.trans (Kept.of_below (X := none') hb4) (fun _ _ h => h.elim)
  clear c4 hb HR K3
  have c1 := hb4'.has.cell 1 rfl
  have c1f := hb4'.has.free 1
  have k5 := Kept.set w4 g 1 (.int .i64 ((p.base : Int) + (k : Int)))
  have H5 := hb4'.has.set 1 (.int .i64 ((p.base : Int) + (k : Int)))
  have D5 := own_kept' hb4'.d k5 (fun ad ha e => hb4'.dg ad ha e)
  have S5 := own_kept' hb4'.s k5 (fun ad ha e => hb4'.sg ad ha e)
  have K5 := K4.trans k5 (fun j _ e => by rw [e]; exact F1)
  have ndg := hb4'.dg
  have nsg := hb4'.sg
  have nds := hb4'.ds
  clear hb4' hb4
  go_wp2_with fail
  generalize w4.setCell ⟨g, 1, none⟩ (.int .i64 ((p.base : Int) + (k : Int))) = w5 at *
  clear c1 c1f k5 K4
  have kd := Kept.drew none' w5
  have H6 := H5.kept kd (fun h => h)
  have D6 := own_kept' D5 kd (fun _ _ h => h)
  have S6 := own_kept' S5 kd (fun _ _ h => h)
  have K6 := K5.trans kd (fun _ _ h => h.elim)
  have d3 := H6.cell 3 rfl
  have d4 := H6.cell 4 rfl
  clear H5 D5 S5 K5 kd
  refine Mx.regionZ [44] (fun w' => w'.cell? ⟨g, 4, none⟩ = some (.slice sa p.st.length sc)) (by kernel_rfl) (by kernel_rfl) d4 ?_
  repeat ((first | (refine Mx.skips (by kernel_rfl) ?_; go_big_quiet_skip) | (refine Mx.quietly rfl ?_; go_big_quiet_want; go_big_quiet_op; go_big_quiet_on)); refine Mx.done ?_)
  refine Mx.loudly (by kernel_rfl) (by kernel_rfl) ?_
  go_wp2_with fail
  repeat ((first | (refine Mx.skips (by kernel_rfl) ?_; go_big_quiet_skip) | (refine Mx.quietly rfl ?_; go_big_quiet_want; go_big_quiet_op; go_big_quiet_on)); refine Mx.done ?_)
  refine Mx.loudly (by kernel_rfl) (by kernel_rfl) ?_
  go_wp2_with fail
  refine (delete_any w5.drew D6 k hkd).mono ?_
  rintro e w6 ⟨rfl, ho6, hk6⟩
  have H7 := H6.kept hk6 (fun ⟨ad, ha, e⟩ => ndg ad ha e.symm)
  have S7 := own_kept' S6 hk6 (fun ad' ha' ⟨ad, ha, e⟩ => nds ad ad' ha ha' e.symm)
  have K7 := K6.trans hk6 (fun j _ ⟨ad, ha, e⟩ => by rw [e]; exact F2 ad ha)
  have d4 := H7.cell 4 rfl
  clear H6 S6 D6 K6 d3
  go_wp2_with fail
  repeat ((first | (refine Mx.skips (by kernel_rfl) ?_; go_big_quiet_skip) | (refine Mx.quietly rfl ?_; go_big_quiet_want; go_big_quiet_op; go_big_quiet_on)); refine Mx.done ?_)
  refine Mx.cell ⟨g, 4, none⟩ (.slice sa p.st.length sc) (by kernel_rfl) (by kernel_rfl) (by kernel_rfl) Try.isAgg27 (fun w' h => h) ?_
  go_big_quiet_want; go_big_quiet_op; go_big_quiet_on; refine Mx.done ?_
  repeat ((first | (refine Mx.skips (by kernel_rfl) ?_; go_big_quiet_skip) | (refine Mx.quietly rfl ?_; go_big_quiet_want; go_big_quiet_op; go_big_quiet_on)); refine Mx.done ?_)
  refine Mx.loudly (by kernel_rfl) (by kernel_rfl) ?_
  go_wp2_with fail
  refine (delete_any w6 S7 k hkl).mono ?_
  rintro e w7 ⟨rfl, ho7, hk7⟩
  have H8 := H7.kept hk7 (fun ⟨ad, ha, e⟩ => nsg ad ha e.symm)
  have D8 := own_kept' ho6 hk7 (fun ad' ha' ⟨ad, ha, e⟩ => nds ad' ad ha' ha e)
  have K8 := K7.trans hk7 (fun j _ ⟨ad, ha, e⟩ => by rw [e]; exact F3 ad ha)
  have d4 := H8.cell 4 rfl
  have d3 := H8.cell 3 rfl
  have d3f := H8.free 3
  clear H7 S7 K7 ho6
  go_wp2_with fail
  repeat ((first | (refine Mx.skips (by kernel_rfl) ?_; go_big_quiet_skip) | (refine Mx.quietly rfl ?_; go_big_quiet_want; go_big_quiet_op; go_big_quiet_on)); refine Mx.done ?_)
  refine Mx.loudly (by kernel_rfl) (by kernel_rfl) ?_
  have k9 := Kept.set w7 g 3 (.slice da (p.data.length - k) dc)
  have H9 := H8.set 3 (.slice da (p.data.length - k) dc)
  have D9 := own_kept' D8 k9 (fun ad ha e => ndg ad ha e)
  have S9 := own_kept' ho7 k9 (fun ad ha e => nsg ad ha e)
  have K9 := K8.trans k9 (fun j _ e => by rw [e]; exact F1)
  have e4 := H9.cell 4 rfl
  have e4f := H9.free 4
  have k10 := Kept.set (w7.setCell ⟨g, 3, none⟩ (.slice da (p.data.length - k) dc)) g 4 (.slice sa (p.st.length - k) sc)
  have H10 := H9.set 4 (.slice sa (p.st.length - k) sc)
  have D10 := own_kept' D9 k10 (fun ad ha e => ndg ad ha e)
  have S10 := own_kept' S9 k10 (fun ad ha e => nsg ad ha e)
  have K10 := K9.trans k10 (fun j _ e => by rw [e]; exact F1)
  clear k9 k10 H9 D9 S9 K9 H8 D8 K8 ho7
  go_wp2_with fail
  repeat ((first | (refine Mx.skips (by kernel_rfl) ?_; go_big_quiet_skip) | (refine Mx.quietly rfl ?_; go_big_quiet_want; go_big_quiet_op; go_big_quiet_on)); refine Mx.done ?_)
  refine Mx.atLast (by kernel_rfl) (by kernel_rfl) ?_
  go_wp2_with fail
  go_wp2
  go_ret
  refine ⟨rfl, K10, ?_⟩
  rw [HQ.out]
  refine ⟨da, dc, sa, sc, ⟨?_, ?_, ?_, ndg, nsg, nds⟩, F1, F2, F3⟩
  · unfold Qu.cut qcells
    simp only [List.length_drop]
    exact H10
  · unfold Qu.cut
    simp only [List.length_drop, bv_drop]
    exact D10
  · unfold Qu.cut
    simp only [List.length_drop, bv_drop]
    exact S10

theorem ack_any (w : World) {F : Nat → Prop} {g : Nat} {q : Qu} (h : QAt F w g q) (hq : q.Ok) (a n : Int) (fin : Bool) :
    Calls Try.prog 20 #[.pointer (some ⟨g, 0, none⟩), .int .i64 a, .int .i64 n, .bool fin] w (Turned F w g (q.ack a n fin) (q.terr a n fin)) := by
  cases hr : q.right a n fin
  · have hC := check_any w h hq a n fin
    rw [hr] at hC
    have HE : Hid (q.terr a n fin = 30) := Lib.hid (by unfold Qu.terr; rw [hr]; rfl)
    have HQ : Hid (q.ack a n fin = q) := Lib.hid (by unfold Qu.ack; rw [hr]; rfl)
    have HC := Lib.hid hC
    clear hr hC
    go_enter Try.func20, Try.ntmps20
    go_wp2_with fail
    refine HC.out.mono ?_
    rintro e w' ⟨rfl, rfl⟩
    go_wp2
    go_ret
    exact ⟨by rw [HE.out]; rfl, Kept.refl _ _, by rw [HQ.out]; exact h⟩
  · have HE : q.terr a n fin = 0 := by unfold Qu.terr; rw [hr]; rfl
    rw [HE]
    obtain ⟨x, m, rfl, rfl, hxm⟩ := Qu.right_nat hr
    cases fin
    · exact ack_false w h hq x m hr hxm
    · exact ack_true w h hq x m hr hxm
end Go.Proofs.Ytkjclgpecppokaa

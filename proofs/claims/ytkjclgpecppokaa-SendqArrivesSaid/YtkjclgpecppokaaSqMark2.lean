/- Contracts of the queue's mark, at each of its two turns. -/
import Derived.Test.YtkjclgpecppokaaSqMark
namespace Go.Proofs.Ytkjclgpecppokaa
open Go.RowKit

/-- what mark does -/
def Marked (F : Nat → Prop) (w : World) (g : Nat) (q : Qu) (a m : Nat) (f : UInt8 → UInt8) (e : Ending) (w' : World) : Prop :=
  e = .returned (.tuple #[]) ∧ Kept F w w' ∧ QAt F w' g { q with st := mapped q.st (a - q.base) (a + m - q.base) f }

set_option maxRecDepth 100000 in
set_option maxHeartbeats 1000000 in
theorem mark_ack (w : World) {F : Nat → Prop} {g : Nat} {q : Qu} (h : QAt F w g q) (hq : q.Ok) (a m : Nat) (ham : a + m ≤ q.sent) :
    Calls Try.prog 28 #[.pointer (some ⟨g, 0, none⟩), .int .i64 (a : Int), .int .i64 (m : Int), .func (.func 29) #[] #[]] w (Marked F w g q a m turnAck) := by
  obtain ⟨da, dc, sa, sc, hb, F1, F2, F3⟩ := h
  have hB : q.base + q.data.length ≤ 1152921504606846976 := hq.most
  have hS := hq.sent
  have hlen := hq.len
  have hle : a + m - q.base ≤ q.st.length := by omega
  have hlh : a - q.base ≤ a + m - q.base := by omega
  obtain ⟨lo, hlo⟩ : ∃ lo, lo = a - q.base := ⟨_, rfl⟩
  obtain ⟨hi, hhi⟩ : ∃ hi, hi = a + m - q.base := ⟨_, rfl⟩
  have hmx : max ((a : Int) - (q.base : Int)) 0 = (lo : Int) := by omega
  have f1 : IntKind.i64.wrap ((a : Int) - (q.base : Int)) = (a : Int) - q.base := by rw [IntKind.wrap_i64]; omega
  have f2 : IntKind.i64.wrap ((a : Int) + (m : Int)) = (a : Int) + m := by rw [IntKind.wrap_i64]; omega
  have f3 : IntKind.i64.wrap ((a : Int) + (m : Int) - (q.base : Int)) = (a : Int) + m - q.base := by rw [IntKind.wrap_i64]; omega
  have hcmp : ∀ k : Nat, k ≤ hi → lo ≤ k → ((k : Int) < (a : Int) + (m : Int) - (q.base : Int) ↔ k < hi) := fun k _ _ => by omega
  have hl64 : q.st.length ≤ 65536 := by have := hq.len; have := hq.fit; have := hq.room2; omega
  rw [← hlo, ← hhi] at hlh
  rw [← hhi] at hle
  have HLo := Lib.hid hlo
  have HHi := Lib.hid hhi
  have HC := Lib.hid hcmp
  have HB := Lib.hid hb
  clear hlo hhi hcmp hlen hS hq
  have c1 := hb.has.cell 1 rfl
  clear hb
  go_enter Try.func28, Try.ntmps28
  go_wp2_with fail
  go_loopw [8] (fun v wr => ∃ k : Nat, v = .int .i64 (k : Int) ∧ lo ≤ k ∧ k ≤ hi ∧ Has wr g 52 (qcells q da dc sa sc) ∧
    wr.ownsRow 0 5 1 (.slice da q.data.length dc) q.data.length (bv q.data) ∧ wr.ownsRow 0 5 1 (.slice sa q.st.length sc) q.st.length (bv (mapped q.st lo k turnAck)) ∧ Kept F w wr) (fun v _ => hi - (intOf v).toNat)
  case atStart => exact ⟨lo, rfl, Nat.le_refl _, hlh, HB.out.has, HB.out.d, by rw [mapped_none]; exact HB.out.s, Kept.refl _ _⟩
  case round =>
    obtain ⟨k, rfl, hlk, hkh, hH, hD, hS, hK⟩ := hrel
    clear c1
    have c1 := hH.cell 1 rfl
    by_cases hk : k < hi
    · have hk' : (k : Int) < (a : Int) + (m : Int) - (q.base : Int) := (HC.out k hkh hlk).2 hk
      have g2 : IntKind.i64.wrap ((k : Int) + 1) = (k : Int) + 1 := by rw [IntKind.wrap_i64]; omega
      obtain ⟨bs, rfl, hc, hf, hn1, hn2⟩ := own_cell hS (i := k) (by omega)
      have nds := HB.out.ds
      have nsg := HB.out.sg
      have Fs := F3 _ rfl
      have hlt : k < (mapped q.st lo k turnAck).length := by rw [mapped_len]; omega
      have hkl : k < q.st.length := by omega
      have hy : (mapped q.st lo k turnAck)[k]? = some q.st[k] := by rw [mapped_get, if_neg (by omega), List.getElem?_eq_getElem hkl]
      have hc : wr.cell? ⟨bs, k, none⟩ = some (.int .u8 ((q.st[k]'hkl).toNat : Int)) := by
        rw [hc]; simp only [bv, List.getElem?_map, hy, Option.map_some]
      have HT := Lib.hid (mapped_succ q.st lo k turnAck hkl hlk)
      have HE : Hid (bv (mapped q.st lo (k + 1) turnAck) = (bv (mapped q.st lo k turnAck)).set k (.int .u8 ((turnAck (q.st[k]'hkl)).toNat : Int))) := Lib.hid (by rw [HT.out]; simp [bv, List.map_set])
      generalize q.st[k] = y at hc HE
      have d4 := hH.cell 4 rfl
      have hkl' : (k : Int) < (q.st.length : Int) := by omega
      have hkc : (q.st.length : Int) ≤ (sc : Int) := by omega
      clear hlt hy HT
      go_wp2_with fail
      have kd : Kept none' wr wr.drew := Kept.drew _ _
      have d4' : wr.drew.cell? ⟨g, 4, none⟩ = some (.slice (some ⟨bs, 0, none⟩) q.st.length sc) := (hH.kept kd (fun h => h)).cell 4 rfl
      have hc' : wr.drew.cell? ⟨bs, k, none⟩ = some (.int .u8 (y.toNat : Int)) := kd.cell hc (fun h => h)
      refine Mx.regionZ [] (fun w' => w'.cell? ⟨g, 4, none⟩ = some (.slice (some ⟨bs, 0, none⟩) q.st.length sc) ∧ w'.cell? ⟨bs, k, none⟩ = some (.int .u8 (y.toNat : Int))) (by kernel_rfl) (by kernel_rfl) ⟨d4', hc'⟩ ?_
      repeat ((first | (refine Mx.skips (by kernel_rfl) ?_; go_big_quiet_skip) | (refine Mx.quietly rfl ?_; go_big_quiet_want; go_big_quiet_op; go_big_quiet_on)); refine Mx.done ?_)
      refine Mx.cell ⟨g, 4, none⟩ (.slice (some ⟨bs, 0, none⟩) q.st.length sc) (by kernel_rfl) (by kernel_rfl) (by kernel_rfl) Try.isAgg27 (fun w' h => h.1) ?_
      go_big_quiet_want; go_big_quiet_op; go_big_quiet_on; refine Mx.done ?_
      repeat ((first | (refine Mx.skips (by kernel_rfl) ?_; go_big_quiet_skip) | (refine Mx.quietly rfl ?_; go_big_quiet_want; go_big_quiet_op; go_big_quiet_on)); refine Mx.done ?_)
      refine Mx.cell ⟨g, 4, none⟩ (.slice (some ⟨bs, 0, none⟩) q.st.length sc) (by kernel_rfl) (by kernel_rfl) (by kernel_rfl) Try.isAgg27 (fun w' h => h.1) ?_
      go_big_quiet_want; go_big_quiet_op; go_big_quiet_on; refine Mx.done ?_
      repeat ((first | (refine Mx.skips (by kernel_rfl) ?_; go_big_quiet_skip) | (refine Mx.quietly rfl ?_; go_big_quiet_want; go_big_quiet_op; go_big_quiet_on)); refine Mx.done ?_)
      refine Mx.cell ⟨bs, k, none⟩ (.int .u8 (y.toNat : Int)) (by kernel_rfl) (by kernel_rfl) (by kernel_rfl) Try.isAgg5 (fun w' h => h.2) ?_
      go_big_quiet_want; go_big_quiet_op; go_big_quiet_on; refine Mx.done ?_
      repeat ((first | (refine Mx.skips (by kernel_rfl) ?_; go_big_quiet_skip) | (refine Mx.quietly rfl ?_; go_big_quiet_want; go_big_quiet_op; go_big_quiet_on)); refine Mx.done ?_)
      refine Mx.loudly (by kernel_rfl) (by kernel_rfl) ?_
      go_wp2_with fail
      refine (ack1_any _ y).mono ?_
      rintro e w' ⟨rfl, rfl⟩
      go_wp2_with fail
      repeat ((first | (refine Mx.skips (by kernel_rfl) ?_; go_big_quiet_skip) | (refine Mx.quietly rfl ?_; go_big_quiet_want; go_big_quiet_op; go_big_quiet_on)); refine Mx.done ?_)
      refine Mx.atLast (by kernel_rfl) (by kernel_rfl) ?_
      go_wp2_with fail
      go_wp2
      go_roundw
      case rel =>
        have k2 := Kept.set wr bs k (.int .u8 ((turnAck y).toNat : Int))
        have kd2 : Kept none' (wr.setCell ⟨bs, k, none⟩ (.int .u8 ((turnAck y).toNat : Int))) (wr.setCell ⟨bs, k, none⟩ (.int .u8 ((turnAck y).toNat : Int))).drew := Kept.drew _ _
        have nbg : bs ≠ g := nsg _ rfl
        have H3 := (hH.kept k2 (fun e => nbg e.symm)).kept kd2 (fun h => h)
        have D3 := own_kept' (own_kept' hD k2 (fun ad ha e => nds ad _ ha rfl e)) kd2 (fun _ _ h => h)
        have S3 := own_kept' (own_set hS k (.int .u8 ((turnAck y).toNat : Int))) kd2 (fun _ _ h => h)
        have K3 := (hK.trans k2 (fun j _ e => by rw [e]; exact Fs)).trans kd2 (fun _ _ h => h.elim)
        rw [← HE.out] at S3
        exact ⟨k + 1, by push_cast; rfl, by omega, by omega, H3, D3, S3, K3⟩
      case measure => simp [intOf]; omega
    · have hk' : ¬ (k : Int) < (a : Int) + (m : Int) - (q.base : Int) := fun h => hk ((HC.out k hkh hlk).1 h)
      obtain rfl : k = hi := by omega
      go_wp2
      (try simp only [Exit.inBlock, Exit.then]); refine bodyPost_ret (results_none rfl _ _ _) rfl ?_
      refine ⟨rfl, hK, da, dc, sa, sc, ?_, F1, F2, F3⟩
      rw [← HLo.out, ← HHi.out]
      exact ⟨by unfold qcells; simp only [mapped_len]; exact hH, hD, by simp only [mapped_len]; exact hS, HB.out.dg, HB.out.sg, HB.out.ds⟩

set_option maxRecDepth 100000 in
set_option maxHeartbeats 1000000 in
theorem mark_lose (w : World) {F : Nat → Prop} {g : Nat} {q : Qu} (h : QAt F w g q) (hq : q.Ok) (a m : Nat) (ham : a + m ≤ q.sent) :
    Calls Try.prog 28 #[.pointer (some ⟨g, 0, none⟩), .int .i64 (a : Int), .int .i64 (m : Int), .func (.func 27) #[] #[]] w (Marked F w g q a m turnLose) := by
  obtain ⟨da, dc, sa, sc, hb, F1, F2, F3⟩ := h
  have hB : q.base + q.data.length ≤ 1152921504606846976 := hq.most
  have hS := hq.sent
  have hlen := hq.len
  have hle : a + m - q.base ≤ q.st.length := by omega
  have hlh : a - q.base ≤ a + m - q.base := by omega
  obtain ⟨lo, hlo⟩ : ∃ lo, lo = a - q.base := ⟨_, rfl⟩
  obtain ⟨hi, hhi⟩ : ∃ hi, hi = a + m - q.base := ⟨_, rfl⟩
  have hmx : max ((a : Int) - (q.base : Int)) 0 = (lo : Int) := by omega
  have f1 : IntKind.i64.wrap ((a : Int) - (q.base : Int)) = (a : Int) - q.base := by rw [IntKind.wrap_i64]; omega
  have f2 : IntKind.i64.wrap ((a : Int) + (m : Int)) = (a : Int) + m := by rw [IntKind.wrap_i64]; omega
  have f3 : IntKind.i64.wrap ((a : Int) + (m : Int) - (q.base : Int)) = (a : Int) + m - q.base := by rw [IntKind.wrap_i64]; omega
  have hcmp : ∀ k : Nat, k ≤ hi → lo ≤ k → ((k : Int) < (a : Int) + (m : Int) - (q.base : Int) ↔ k < hi) := fun k _ _ => by omega
  have hl64 : q.st.length ≤ 65536 := by have := hq.len; have := hq.fit; have := hq.room2; omega
  rw [← hlo, ← hhi] at hlh
  rw [← hhi] at hle
  have HLo := Lib.hid hlo
  have HHi := Lib.hid hhi
  have HC := Lib.hid hcmp
  have HB := Lib.hid hb
  clear hlo hhi hcmp hlen hS hq
  have c1 := hb.has.cell 1 rfl
  clear hb
  go_enter Try.func28, Try.ntmps28
  go_wp2_with fail
  go_loopw [8] (fun v wr => ∃ k : Nat, v = .int .i64 (k : Int) ∧ lo ≤ k ∧ k ≤ hi ∧ Has wr g 52 (qcells q da dc sa sc) ∧
    wr.ownsRow 0 5 1 (.slice da q.data.length dc) q.data.length (bv q.data) ∧ wr.ownsRow 0 5 1 (.slice sa q.st.length sc) q.st.length (bv (mapped q.st lo k turnLose)) ∧ Kept F w wr) (fun v _ => hi - (intOf v).toNat)
  case atStart => exact ⟨lo, rfl, Nat.le_refl _, hlh, HB.out.has, HB.out.d, by rw [mapped_none]; exact HB.out.s, Kept.refl _ _⟩
  case round =>
    obtain ⟨k, rfl, hlk, hkh, hH, hD, hS, hK⟩ := hrel
    clear c1
    have c1 := hH.cell 1 rfl
    by_cases hk : k < hi
    · have hk' : (k : Int) < (a : Int) + (m : Int) - (q.base : Int) := (HC.out k hkh hlk).2 hk
      have g2 : IntKind.i64.wrap ((k : Int) + 1) = (k : Int) + 1 := by rw [IntKind.wrap_i64]; omega
      obtain ⟨bs, rfl, hc, hf, hn1, hn2⟩ := own_cell hS (i := k) (by omega)
      have nds := HB.out.ds
      have nsg := HB.out.sg
      have Fs := F3 _ rfl
      have hlt : k < (mapped q.st lo k turnLose).length := by rw [mapped_len]; omega
      have hkl : k < q.st.length := by omega
      have hy : (mapped q.st lo k turnLose)[k]? = some q.st[k] := by rw [mapped_get, if_neg (by omega), List.getElem?_eq_getElem hkl]
      have hc : wr.cell? ⟨bs, k, none⟩ = some (.int .u8 ((q.st[k]'hkl).toNat : Int)) := by
        rw [hc]; simp only [bv, List.getElem?_map, hy, Option.map_some]
      have HT := Lib.hid (mapped_succ q.st lo k turnLose hkl hlk)
      have HE : Hid (bv (mapped q.st lo (k + 1) turnLose) = (bv (mapped q.st lo k turnLose)).set k (.int .u8 ((turnLose (q.st[k]'hkl)).toNat : Int))) := Lib.hid (by rw [HT.out]; simp [bv, List.map_set])
      generalize q.st[k] = y at hc HE
      have d4 := hH.cell 4 rfl
      have hkl' : (k : Int) < (q.st.length : Int) := by omega
      have hkc : (q.st.length : Int) ≤ (sc : Int) := by omega
      clear hlt hy HT
      go_wp2_with fail
      have kd : Kept none' wr wr.drew := Kept.drew _ _
      have d4' : wr.drew.cell? ⟨g, 4, none⟩ = some (.slice (some ⟨bs, 0, none⟩) q.st.length sc) := (hH.kept kd (fun h => h)).cell 4 rfl
      have hc' : wr.drew.cell? ⟨bs, k, none⟩ = some (.int .u8 (y.toNat : Int)) := kd.cell hc (fun h => h)
      refine Mx.regionZ [] (fun w' => w'.cell? ⟨g, 4, none⟩ = some (.slice (some ⟨bs, 0, none⟩) q.st.length sc) ∧ w'.cell? ⟨bs, k, none⟩ = some (.int .u8 (y.toNat : Int))) (by kernel_rfl) (by kernel_rfl) ⟨d4', hc'⟩ ?_
      repeat ((first | (refine Mx.skips (by kernel_rfl) ?_; go_big_quiet_skip) | (refine Mx.quietly rfl ?_; go_big_quiet_want; go_big_quiet_op; go_big_quiet_on)); refine Mx.done ?_)
      refine Mx.cell ⟨g, 4, none⟩ (.slice (some ⟨bs, 0, none⟩) q.st.length sc) (by kernel_rfl) (by kernel_rfl) (by kernel_rfl) Try.isAgg27 (fun w' h => h.1) ?_
      go_big_quiet_want; go_big_quiet_op; go_big_quiet_on; refine Mx.done ?_
      repeat ((first | (refine Mx.skips (by kernel_rfl) ?_; go_big_quiet_skip) | (refine Mx.quietly rfl ?_; go_big_quiet_want; go_big_quiet_op; go_big_quiet_on)); refine Mx.done ?_)
      refine Mx.cell ⟨g, 4, none⟩ (.slice (some ⟨bs, 0, none⟩) q.st.length sc) (by kernel_rfl) (by kernel_rfl) (by kernel_rfl) Try.isAgg27 (fun w' h => h.1) ?_
      go_big_quiet_want; go_big_quiet_op; go_big_quiet_on; refine Mx.done ?_
      repeat ((first | (refine Mx.skips (by kernel_rfl) ?_; go_big_quiet_skip) | (refine Mx.quietly rfl ?_; go_big_quiet_want; go_big_quiet_op; go_big_quiet_on)); refine Mx.done ?_)
      refine Mx.cell ⟨bs, k, none⟩ (.int .u8 (y.toNat : Int)) (by kernel_rfl) (by kernel_rfl) (by kernel_rfl) Try.isAgg5 (fun w' h => h.2) ?_
      go_big_quiet_want; go_big_quiet_op; go_big_quiet_on; refine Mx.done ?_
      repeat ((first | (refine Mx.skips (by kernel_rfl) ?_; go_big_quiet_skip) | (refine Mx.quietly rfl ?_; go_big_quiet_want; go_big_quiet_op; go_big_quiet_on)); refine Mx.done ?_)
      refine Mx.loudly (by kernel_rfl) (by kernel_rfl) ?_
      go_wp2_with fail
      refine (lose1_any _ y).mono ?_
      rintro e w' ⟨rfl, rfl⟩
      go_wp2_with fail
      repeat ((first | (refine Mx.skips (by kernel_rfl) ?_; go_big_quiet_skip) | (refine Mx.quietly rfl ?_; go_big_quiet_want; go_big_quiet_op; go_big_quiet_on)); refine Mx.done ?_)
      refine Mx.atLast (by kernel_rfl) (by kernel_rfl) ?_
      go_wp2_with fail
      go_wp2
      go_roundw
      case rel =>
        have k2 := Kept.set wr bs k (.int .u8 ((turnLose y).toNat : Int))
        have kd2 : Kept none' (wr.setCell ⟨bs, k, none⟩ (.int .u8 ((turnLose y).toNat : Int))) (wr.setCell ⟨bs, k, none⟩ (.int .u8 ((turnLose y).toNat : Int))).drew := Kept.drew _ _
        have nbg : bs ≠ g := nsg _ rfl
        have H3 := (hH.kept k2 (fun e => nbg e.symm)).kept kd2 (fun h => h)
        have D3 := own_kept' (own_kept' hD k2 (fun ad ha e => nds ad _ ha rfl e)) kd2 (fun _ _ h => h)
        have S3 := own_kept' (own_set hS k (.int .u8 ((turnLose y).toNat : Int))) kd2 (fun _ _ h => h)
        have K3 := (hK.trans k2 (fun j _ e => by rw [e]; exact Fs)).trans kd2 (fun _ _ h => h.elim)
        rw [← HE.out] at S3
        exact ⟨k + 1, by push_cast; rfl, by omega, by omega, H3, D3, S3, K3⟩
      case measure => simp [intOf]; omega
    · have hk' : ¬ (k : Int) < (a : Int) + (m : Int) - (q.base : Int) := fun h => hk ((HC.out k hkh hlk).1 h)
      obtain rfl : k = hi := by omega
      go_wp2
      (try simp only [Exit.inBlock, Exit.then]); refine bodyPost_ret (results_none rfl _ _ _) rfl ?_
      refine ⟨rfl, hK, da, dc, sa, sc, ?_, F1, F2, F3⟩
      rw [← HLo.out, ← HHi.out]
      exact ⟨by unfold qcells; simp only [mapped_len]; exact hH, hD, by simp only [mapped_len]; exact hS, HB.out.dg, HB.out.sg, HB.out.ds⟩
end Go.Proofs.Ytkjclgpecppokaa

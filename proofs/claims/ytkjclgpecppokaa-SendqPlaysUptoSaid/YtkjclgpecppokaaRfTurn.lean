/- The document's queue: contract of Turn. -/
import Derived.Test.YtkjclgpecppokaaRfWrite
namespace Go.Proofs.Ytkjclgpecppokaa
open Go.RowKit

/-- what Turn makes -/
def Qu.turn (r : Qu) (ack : Bool) (a n : Int) (fin : Bool) : Qu := if ack then r.tack a n fin else r.lose a n fin

/-- states turned, the end turned -/
def Qu.mid (r : Qu) (x j : Nat) (f : UInt8 → UInt8) : Qu := { r with st := mapped r.st x (x + j) f }

set_option maxRecDepth 100000 in
set_option maxHeartbeats 1000000 in
theorem rturn_ack_false (w : World) {F : Nat → Prop} {g : Nat} {r : Qu} (h : RAt F w g r) (hq : r.ROk) (x m : Nat) (hxm : x + m ≤ r.sent) :
    Calls Try.prog 35 #[.pointer (some ⟨g, 0, none⟩), .bool true, .int .i64 (x : Int), .int .i64 (m : Int), .bool false] w fun e w' => e = .returned (.int .i64 0) ∧ Kept F w w' ∧ RAt F w' g (r.mid x m turnAck) := by
  obtain ⟨da, dc, sa, sc, hb, F1, F2, F3⟩ := h
  have hsz := hq.sent
  have hmo := hq.most
  have hln := hq.len
  have c1 := hb.has.cell 1 rfl
  have c4 := hb.has.cell 4 rfl
  have c5 := hb.has.cell 5 rfl
  have p1 : ¬ (x : Int) < 0 := by omega
  have p2 : ¬ (m : Int) < 0 := by omega
  have p3 : ¬ (r.sent : Int) < (x : Int) := by omega
  have p4 : ¬ (r.sent : Int) - (x : Int) < (m : Int) := by omega
  have f1 : IntKind.i64.wrap ((r.sent : Int) - (x : Int)) = (r.sent : Int) - x := by rw [IntKind.wrap_i64]; omega
  have f2 : IntKind.i64.wrap ((x : Int) + (m : Int)) = ((x + m : Nat) : Int) := by rw [IntKind.wrap_i64]; omega
  have hsl : x + m ≤ r.st.length := by omega
  have HB := Lib.hid hb
  clear hb hq hln
  go_enter Try.func35, Try.ntmps35
  go_wp2_with fail
  go_loopw [11] (fun v wr => ∃ j : Nat, v = .int .i64 ((x + j : Nat) : Int) ∧ j ≤ m ∧ Has wr g 48 (rcells r da dc sa sc) ∧
    wr.ownsRow 0 5 1 (.slice da r.data.length dc) r.data.length (bv r.data) ∧ wr.ownsRow 0 3 1 (.slice sa r.st.length sc) r.st.length (nv (mapped r.st x (x + j) turnAck)) ∧ Kept F w wr) (fun v _ => x + m - (intOf v).toNat)
  case atStart => exact ⟨0, by simp, Nat.zero_le _, HB.out.has, HB.out.d, by rw [Nat.add_zero, mapped_none]; exact HB.out.s, Kept.refl _ _⟩
  case round =>
    obtain ⟨j, rfl, hj, hH, hD, hS, hK⟩ := hrel
    clear c1 c4 c5
    have c3 := hH.cell 3 rfl
    by_cases hjm : j < m
    · have hjm' : ((x + j : Nat) : Int) < ((x + m : Nat) : Int) := by omega
      have g2 : IntKind.i64.wrap (((x + j : Nat) : Int) + 1) = ((x + (j + 1) : Nat) : Int) := by rw [IntKind.wrap_i64]; omega
      obtain ⟨sb, rfl, hc, hfz, h1, h2⟩ := own_cell hS (i := x + j) (by omega)
      have hlm : x + j < (mapped r.st x (x + j) turnAck).length := by rw [mapped_len]; omega
      rw [nv_get _ _ hlm] at hc
      have hg : (mapped r.st x (x + j) turnAck)[x + j]? = r.st[x + j]? := by rw [mapped_get, if_neg (by omega)]
      have hlt : x + j < r.st.length := by omega
      rw [List.getElem?_eq_getElem hlm, List.getElem?_eq_getElem hlt, Option.some.injEq] at hg
      rw [hg] at hc
      have hlI : ((x + j : Nat) : Int) < (r.st.length : Int) := by omega
      have hcI : (r.st.length : Int) ≤ (sc : Int) := by omega
      have HMs := Lib.hid (mapped_succ r.st x (x + j) turnAck hlt (by omega))
      have hnoD : ∀ ad, da = some ad → ad.block ≠ sb := fun ad ha e => HB.out.ds ad _ ha rfl e
      have hnoG : g ≠ sb := fun e => HB.out.sg _ rfl e.symm
      have HREL : Hid (∀ u : UInt8, turnAck r.st[x + j] = u → Has (wr.setCell ⟨sb, x + j, none⟩ (.int .i64 (u.toNat : Int))) g 48 (rcells r da dc (some ⟨sb, 0, none⟩) sc) ∧
          (wr.setCell ⟨sb, x + j, none⟩ (.int .i64 (u.toNat : Int))).ownsRow 0 5 1 (.slice da r.data.length dc) r.data.length (bv r.data) ∧
          (wr.setCell ⟨sb, x + j, none⟩ (.int .i64 (u.toNat : Int))).ownsRow 0 3 1 (.slice (some ⟨sb, 0, none⟩) r.st.length sc) r.st.length (nv (mapped r.st x (x + (j + 1)) turnAck)) ∧ Kept F w (wr.setCell ⟨sb, x + j, none⟩ (.int .i64 (u.toNat : Int)))) := Lib.hid (by
        intro u hu
        have ks := Kept.set wr sb (x + j) (.int .i64 (u.toNat : Int))
        refine ⟨hH.other hnoG _ _, own_kept' hD ks (fun ad ha e => hnoD ad ha e), ?_, hK.trans ks (fun k _ e => by rw [e]; exact F3 _ rfl)⟩
        rw [← Nat.add_assoc, HMs.out, hu, nv_set]
        exact own_set hS (x + j) _)
      clear hlm hg
      go_wp2
      go_roundw
      case rel =>
        have := HREL.out 3 rfl
        exact ⟨j + 1, by rfl, by omega, this.1, this.2.1, this.2.2.1, this.2.2.2⟩
      case measure => simp [intOf]; omega
    · obtain rfl : j = m := by omega
      have HEND : Hid (RAt F wr g (r.mid x j turnAck)) := Lib.hid (by
        have hl : (mapped r.st x (x + j) turnAck).length = r.st.length := mapped_len _ _ _ _
        refine ⟨da, dc, sa, sc, ⟨?_, hD, ?_, HB.out.dg, HB.out.sg, HB.out.ds⟩, F1, F2, F3⟩
        · show Has wr g _ [.int .i64 r.room, .int .i64 r.sent, .slice da r.data.length dc, .slice sa (mapped r.st x (x + j) turnAck).length sc, .bool r.fin, .int .i64 (r.e.toNat : Int)]
          rw [hl]
          exact hH
        · show wr.ownsRow 0 _ 1 (.slice sa (mapped r.st x (x + j) turnAck).length sc) (mapped r.st x (x + j) turnAck).length _
          rw [hl]
          exact hS)
      go_wp2
      go_ret
      exact ⟨rfl, hK, HEND.out⟩

set_option maxRecDepth 100000 in
set_option maxHeartbeats 1000000 in
theorem rturn_ack_true (w : World) {F : Nat → Prop} {g : Nat} {r : Qu} (h : RAt F w g r) (hq : r.ROk) (x m : Nat) (hxm : x + m ≤ r.sent) (hf : r.fin = true) (he : ((r.e.toNat : Int) == 0) = false) :
    Calls Try.prog 35 #[.pointer (some ⟨g, 0, none⟩), .bool true, .int .i64 (x : Int), .int .i64 (m : Int), .bool true] w fun e w' => e = .returned (.int .i64 0) ∧ Kept F w w' ∧ RAt F w' g ({ r.mid x m turnAck with e := 3 }) := by
  obtain ⟨da, dc, sa, sc, hb, F1, F2, F3⟩ := h
  have hsz := hq.sent
  have hmo := hq.most
  have hln := hq.len
  have c1 := hb.has.cell 1 rfl
  have c4 := hb.has.cell 4 rfl
  have c5 := hb.has.cell 5 rfl
  have p1 : ¬ (x : Int) < 0 := by omega
  have p2 : ¬ (m : Int) < 0 := by omega
  have p3 : ¬ (r.sent : Int) < (x : Int) := by omega
  have p4 : ¬ (r.sent : Int) - (x : Int) < (m : Int) := by omega
  have f1 : IntKind.i64.wrap ((r.sent : Int) - (x : Int)) = (r.sent : Int) - x := by rw [IntKind.wrap_i64]; omega
  have f2 : IntKind.i64.wrap ((x : Int) + (m : Int)) = ((x + m : Nat) : Int) := by rw [IntKind.wrap_i64]; omega
  have hsl : x + m ≤ r.st.length := by omega
  have HB := Lib.hid hb
  clear hb hq hln
  rw [hf] at c4
  have HF := Lib.hid hf
  clear hf
  go_enter Try.func35, Try.ntmps35
  go_wp2_with fail
  go_loopw [11] (fun v wr => ∃ j : Nat, v = .int .i64 ((x + j : Nat) : Int) ∧ j ≤ m ∧ Has wr g 48 (rcells r da dc sa sc) ∧
    wr.ownsRow 0 5 1 (.slice da r.data.length dc) r.data.length (bv r.data) ∧ wr.ownsRow 0 3 1 (.slice sa r.st.length sc) r.st.length (nv (mapped r.st x (x + j) turnAck)) ∧ Kept F w wr) (fun v _ => x + m - (intOf v).toNat)
  case atStart => exact ⟨0, by simp, Nat.zero_le _, HB.out.has, HB.out.d, by rw [Nat.add_zero, mapped_none]; exact HB.out.s, Kept.refl _ _⟩
  case round =>
    obtain ⟨j, rfl, hj, hH, hD, hS, hK⟩ := hrel
    clear c1 c4 c5
    have c3 := hH.cell 3 rfl
    by_cases hjm : j < m
    · have hjm' : ((x + j : Nat) : Int) < ((x + m : Nat) : Int) := by omega
      have g2 : IntKind.i64.wrap (((x + j : Nat) : Int) + 1) = ((x + (j + 1) : Nat) : Int) := by rw [IntKind.wrap_i64]; omega
      obtain ⟨sb, rfl, hc, hfz, h1, h2⟩ := own_cell hS (i := x + j) (by omega)
      have hlm : x + j < (mapped r.st x (x + j) turnAck).length := by rw [mapped_len]; omega
      rw [nv_get _ _ hlm] at hc
      have hg : (mapped r.st x (x + j) turnAck)[x + j]? = r.st[x + j]? := by rw [mapped_get, if_neg (by omega)]
      have hlt : x + j < r.st.length := by omega
      rw [List.getElem?_eq_getElem hlm, List.getElem?_eq_getElem hlt, Option.some.injEq] at hg
      rw [hg] at hc
      have hlI : ((x + j : Nat) : Int) < (r.st.length : Int) := by omega
      have hcI : (r.st.length : Int) ≤ (sc : Int) := by omega
      have HMs := Lib.hid (mapped_succ r.st x (x + j) turnAck hlt (by omega))
      have hnoD : ∀ ad, da = some ad → ad.block ≠ sb := fun ad ha e => HB.out.ds ad _ ha rfl e
      have hnoG : g ≠ sb := fun e => HB.out.sg _ rfl e.symm
      have HREL : Hid (∀ u : UInt8, turnAck r.st[x + j] = u → Has (wr.setCell ⟨sb, x + j, none⟩ (.int .i64 (u.toNat : Int))) g 48 (rcells r da dc (some ⟨sb, 0, none⟩) sc) ∧
          (wr.setCell ⟨sb, x + j, none⟩ (.int .i64 (u.toNat : Int))).ownsRow 0 5 1 (.slice da r.data.length dc) r.data.length (bv r.data) ∧
          (wr.setCell ⟨sb, x + j, none⟩ (.int .i64 (u.toNat : Int))).ownsRow 0 3 1 (.slice (some ⟨sb, 0, none⟩) r.st.length sc) r.st.length (nv (mapped r.st x (x + (j + 1)) turnAck)) ∧ Kept F w (wr.setCell ⟨sb, x + j, none⟩ (.int .i64 (u.toNat : Int)))) := Lib.hid (by
        intro u hu
        have ks := Kept.set wr sb (x + j) (.int .i64 (u.toNat : Int))
        refine ⟨hH.other hnoG _ _, own_kept' hD ks (fun ad ha e => hnoD ad ha e), ?_, hK.trans ks (fun k _ e => by rw [e]; exact F3 _ rfl)⟩
        rw [← Nat.add_assoc, HMs.out, hu, nv_set]
        exact own_set hS (x + j) _)
      clear hlm hg
      go_wp2
      go_roundw
      case rel =>
        have := HREL.out 3 rfl
        exact ⟨j + 1, by rfl, by omega, this.1, this.2.1, this.2.2.1, this.2.2.2⟩
      case measure => simp [intOf]; omega
    · obtain rfl : j = m := by omega
      have HEND : Hid (RAt F wr g (r.mid x j turnAck)) := Lib.hid (by
        have hl : (mapped r.st x (x + j) turnAck).length = r.st.length := mapped_len _ _ _ _
        refine ⟨da, dc, sa, sc, ⟨?_, hD, ?_, HB.out.dg, HB.out.sg, HB.out.ds⟩, F1, F2, F3⟩
        · show Has wr g _ [.int .i64 r.room, .int .i64 r.sent, .slice da r.data.length dc, .slice sa (mapped r.st x (x + j) turnAck).length sc, .bool r.fin, .int .i64 (r.e.toNat : Int)]
          rw [hl]
          exact hH
        · show wr.ownsRow 0 _ 1 (.slice sa (mapped r.st x (x + j) turnAck).length sc) (mapped r.st x (x + j) turnAck).length _
          rw [hl]
          exact hS)
      have c5 := hH.cell 5 rfl
      have c5f := hH.free 5
      go_wp2
      go_ret
      obtain ⟨da', dc', sa', sc', B, G1, G2, G3⟩ := HEND.out
      have ks := Kept.set wr g 5 (.int .i64 3)
      exact ⟨rfl, hK.trans ks (fun k _ e => by rw [e]; exact F1), da', dc', sa', sc', ⟨B.has.set 5 _, own_kept' B.d ks (fun ad ha e => B.dg ad ha e), own_kept' B.s ks (fun ad ha e => B.sg ad ha e), B.dg, B.sg, B.ds⟩, G1, G2, G3⟩

set_option maxRecDepth 100000 in
set_option maxHeartbeats 1000000 in
theorem rturn_lose_false (w : World) {F : Nat → Prop} {g : Nat} {r : Qu} (h : RAt F w g r) (hq : r.ROk) (x m : Nat) (hxm : x + m ≤ r.sent) :
    Calls Try.prog 35 #[.pointer (some ⟨g, 0, none⟩), .bool false, .int .i64 (x : Int), .int .i64 (m : Int), .bool false] w fun e w' => e = .returned (.int .i64 0) ∧ Kept F w w' ∧ RAt F w' g (r.mid x m turnLose) := by
  obtain ⟨da, dc, sa, sc, hb, F1, F2, F3⟩ := h
  have hsz := hq.sent
  have hmo := hq.most
  have hln := hq.len
  have c1 := hb.has.cell 1 rfl
  have c4 := hb.has.cell 4 rfl
  have c5 := hb.has.cell 5 rfl
  have p1 : ¬ (x : Int) < 0 := by omega
  have p2 : ¬ (m : Int) < 0 := by omega
  have p3 : ¬ (r.sent : Int) < (x : Int) := by omega
  have p4 : ¬ (r.sent : Int) - (x : Int) < (m : Int) := by omega
  have f1 : IntKind.i64.wrap ((r.sent : Int) - (x : Int)) = (r.sent : Int) - x := by rw [IntKind.wrap_i64]; omega
  have f2 : IntKind.i64.wrap ((x : Int) + (m : Int)) = ((x + m : Nat) : Int) := by rw [IntKind.wrap_i64]; omega
  have hsl : x + m ≤ r.st.length := by omega
  have HB := Lib.hid hb
  clear hb hq hln
  go_enter Try.func35, Try.ntmps35
  go_wp2_with fail
  go_loopw [11] (fun v wr => ∃ j : Nat, v = .int .i64 ((x + j : Nat) : Int) ∧ j ≤ m ∧ Has wr g 48 (rcells r da dc sa sc) ∧
    wr.ownsRow 0 5 1 (.slice da r.data.length dc) r.data.length (bv r.data) ∧ wr.ownsRow 0 3 1 (.slice sa r.st.length sc) r.st.length (nv (mapped r.st x (x + j) turnLose)) ∧ Kept F w wr) (fun v _ => x + m - (intOf v).toNat)
  case atStart => exact ⟨0, by simp, Nat.zero_le _, HB.out.has, HB.out.d, by rw [Nat.add_zero, mapped_none]; exact HB.out.s, Kept.refl _ _⟩
  case round =>
    obtain ⟨j, rfl, hj, hH, hD, hS, hK⟩ := hrel
    clear c1 c4 c5
    have c3 := hH.cell 3 rfl
    by_cases hjm : j < m
    · have hjm' : ((x + j : Nat) : Int) < ((x + m : Nat) : Int) := by omega
      have g2 : IntKind.i64.wrap (((x + j : Nat) : Int) + 1) = ((x + (j + 1) : Nat) : Int) := by rw [IntKind.wrap_i64]; omega
      obtain ⟨sb, rfl, hc, hfz, h1, h2⟩ := own_cell hS (i := x + j) (by omega)
      have hlm : x + j < (mapped r.st x (x + j) turnLose).length := by rw [mapped_len]; omega
      rw [nv_get _ _ hlm] at hc
      have hg : (mapped r.st x (x + j) turnLose)[x + j]? = r.st[x + j]? := by rw [mapped_get, if_neg (by omega)]
      have hlt : x + j < r.st.length := by omega
      rw [List.getElem?_eq_getElem hlm, List.getElem?_eq_getElem hlt, Option.some.injEq] at hg
      rw [hg] at hc
      have hlI : ((x + j : Nat) : Int) < (r.st.length : Int) := by omega
      have hcI : (r.st.length : Int) ≤ (sc : Int) := by omega
      have HMs := Lib.hid (mapped_succ r.st x (x + j) turnLose hlt (by omega))
      have hnoD : ∀ ad, da = some ad → ad.block ≠ sb := fun ad ha e => HB.out.ds ad _ ha rfl e
      have hnoG : g ≠ sb := fun e => HB.out.sg _ rfl e.symm
      have HREL : Hid (∀ u : UInt8, turnLose r.st[x + j] = u → Has (wr.setCell ⟨sb, x + j, none⟩ (.int .i64 (u.toNat : Int))) g 48 (rcells r da dc (some ⟨sb, 0, none⟩) sc) ∧
          (wr.setCell ⟨sb, x + j, none⟩ (.int .i64 (u.toNat : Int))).ownsRow 0 5 1 (.slice da r.data.length dc) r.data.length (bv r.data) ∧
          (wr.setCell ⟨sb, x + j, none⟩ (.int .i64 (u.toNat : Int))).ownsRow 0 3 1 (.slice (some ⟨sb, 0, none⟩) r.st.length sc) r.st.length (nv (mapped r.st x (x + (j + 1)) turnLose)) ∧ Kept F w (wr.setCell ⟨sb, x + j, none⟩ (.int .i64 (u.toNat : Int)))) := Lib.hid (by
        intro u hu
        have ks := Kept.set wr sb (x + j) (.int .i64 (u.toNat : Int))
        refine ⟨hH.other hnoG _ _, own_kept' hD ks (fun ad ha e => hnoD ad ha e), ?_, hK.trans ks (fun k _ e => by rw [e]; exact F3 _ rfl)⟩
        rw [← Nat.add_assoc, HMs.out, hu, nv_set]
        exact own_set hS (x + j) _)
      clear hlm hg
      by_cases hx1 : r.st[x + j] = 1
      · have hv : (((r.st[x + j]).toNat : Int) == 1) = true := by rw [hx1]; rfl
        have hR := Lib.hid (HREL.out 2 (by rw [hx1]; rfl))
        generalize ((r.st[x + j]).toNat : Int) = y at hc hv
        clear hx1 HREL
        go_wp2
        go_roundw
        case rel =>
          have := hR.out
          exact ⟨j + 1, by rfl, by omega, this.1, this.2.1, this.2.2.1, this.2.2.2⟩
        case measure => simp [intOf]; omega
      · have hv : (((r.st[x + j]).toNat : Int) == 1) = false := by
          rw [beq_eq_false_iff_ne]
          intro h
          exact hx1 (UInt8.toNat_inj.1 (by have : (1 : UInt8).toNat = 1 := rfl; omega))
        have hR : Hid (nv (mapped r.st x (x + j) turnLose) = nv (mapped r.st x (x + (j + 1)) turnLose)) := Lib.hid (by
          congr 1
          apply List.ext_getElem?
          intro i
          rw [mapped_get, mapped_get]
          by_cases hi : i = x + j
          · subst hi
            rw [if_neg (by omega), if_pos (by omega), List.getElem?_eq_getElem hlt]
            simp only [Option.map_some, turnLose]
            rw [if_neg hx1]
          · by_cases h2 : x ≤ i ∧ i < x + j
            · rw [if_pos h2, if_pos (by omega)]
            · rw [if_neg h2, if_neg (by omega)])
        generalize ((r.st[x + j]).toNat : Int) = y at hc hv
        clear hx1 HREL
        go_wp2
        go_roundw
        case rel => exact ⟨j + 1, by rfl, by omega, hH, hD, by rw [← hR.out]; exact hS, hK⟩
        case measure => simp [intOf]; omega
    · obtain rfl : j = m := by omega
      have HEND : Hid (RAt F wr g (r.mid x j turnLose)) := Lib.hid (by
        have hl : (mapped r.st x (x + j) turnLose).length = r.st.length := mapped_len _ _ _ _
        refine ⟨da, dc, sa, sc, ⟨?_, hD, ?_, HB.out.dg, HB.out.sg, HB.out.ds⟩, F1, F2, F3⟩
        · show Has wr g _ [.int .i64 r.room, .int .i64 r.sent, .slice da r.data.length dc, .slice sa (mapped r.st x (x + j) turnLose).length sc, .bool r.fin, .int .i64 (r.e.toNat : Int)]
          rw [hl]
          exact hH
        · show wr.ownsRow 0 _ 1 (.slice sa (mapped r.st x (x + j) turnLose).length sc) (mapped r.st x (x + j) turnLose).length _
          rw [hl]
          exact hS)
      go_wp2
      go_ret
      exact ⟨rfl, hK, HEND.out⟩

set_option maxRecDepth 100000 in
set_option maxHeartbeats 1000000 in
theorem rturn_lose_true_1 (w : World) {F : Nat → Prop} {g : Nat} {r : Qu} (h : RAt F w g r) (hq : r.ROk) (x m : Nat) (hxm : x + m ≤ r.sent) (hf : r.fin = true) (he : ((r.e.toNat : Int) == 0) = false) (he1 : ((r.e.toNat : Int) == 1) = true) :
    Calls Try.prog 35 #[.pointer (some ⟨g, 0, none⟩), .bool false, .int .i64 (x : Int), .int .i64 (m : Int), .bool true] w fun e w' => e = .returned (.int .i64 0) ∧ Kept F w w' ∧ RAt F w' g ({ r.mid x m turnLose with e := 2 }) := by
  obtain ⟨da, dc, sa, sc, hb, F1, F2, F3⟩ := h
  have hsz := hq.sent
  have hmo := hq.most
  have hln := hq.len
  have c1 := hb.has.cell 1 rfl
  have c4 := hb.has.cell 4 rfl
  have c5 := hb.has.cell 5 rfl
  have p1 : ¬ (x : Int) < 0 := by omega
  have p2 : ¬ (m : Int) < 0 := by omega
  have p3 : ¬ (r.sent : Int) < (x : Int) := by omega
  have p4 : ¬ (r.sent : Int) - (x : Int) < (m : Int) := by omega
  have f1 : IntKind.i64.wrap ((r.sent : Int) - (x : Int)) = (r.sent : Int) - x := by rw [IntKind.wrap_i64]; omega
  have f2 : IntKind.i64.wrap ((x : Int) + (m : Int)) = ((x + m : Nat) : Int) := by rw [IntKind.wrap_i64]; omega
  have hsl : x + m ≤ r.st.length := by omega
  have HB := Lib.hid hb
  clear hb hq hln
  rw [hf] at c4
  have HF := Lib.hid hf
  clear hf
  go_enter Try.func35, Try.ntmps35
  go_wp2_with fail
  go_loopw [11] (fun v wr => ∃ j : Nat, v = .int .i64 ((x + j : Nat) : Int) ∧ j ≤ m ∧ Has wr g 48 (rcells r da dc sa sc) ∧
    wr.ownsRow 0 5 1 (.slice da r.data.length dc) r.data.length (bv r.data) ∧ wr.ownsRow 0 3 1 (.slice sa r.st.length sc) r.st.length (nv (mapped r.st x (x + j) turnLose)) ∧ Kept F w wr) (fun v _ => x + m - (intOf v).toNat)
  case atStart => exact ⟨0, by simp, Nat.zero_le _, HB.out.has, HB.out.d, by rw [Nat.add_zero, mapped_none]; exact HB.out.s, Kept.refl _ _⟩
  case round =>
    obtain ⟨j, rfl, hj, hH, hD, hS, hK⟩ := hrel
    clear c1 c4 c5
    have c3 := hH.cell 3 rfl
    by_cases hjm : j < m
    · have hjm' : ((x + j : Nat) : Int) < ((x + m : Nat) : Int) := by omega
      have g2 : IntKind.i64.wrap (((x + j : Nat) : Int) + 1) = ((x + (j + 1) : Nat) : Int) := by rw [IntKind.wrap_i64]; omega
      obtain ⟨sb, rfl, hc, hfz, h1, h2⟩ := own_cell hS (i := x + j) (by omega)
      have hlm : x + j < (mapped r.st x (x + j) turnLose).length := by rw [mapped_len]; omega
      rw [nv_get _ _ hlm] at hc
      have hg : (mapped r.st x (x + j) turnLose)[x + j]? = r.st[x + j]? := by rw [mapped_get, if_neg (by omega)]
      have hlt : x + j < r.st.length := by omega
      rw [List.getElem?_eq_getElem hlm, List.getElem?_eq_getElem hlt, Option.some.injEq] at hg
      rw [hg] at hc
      have hlI : ((x + j : Nat) : Int) < (r.st.length : Int) := by omega
      have hcI : (r.st.length : Int) ≤ (sc : Int) := by omega
      have HMs := Lib.hid (mapped_succ r.st x (x + j) turnLose hlt (by omega))
      have hnoD : ∀ ad, da = some ad → ad.block ≠ sb := fun ad ha e => HB.out.ds ad _ ha rfl e
      have hnoG : g ≠ sb := fun e => HB.out.sg _ rfl e.symm
      have HREL : Hid (∀ u : UInt8, turnLose r.st[x + j] = u → Has (wr.setCell ⟨sb, x + j, none⟩ (.int .i64 (u.toNat : Int))) g 48 (rcells r da dc (some ⟨sb, 0, none⟩) sc) ∧
          (wr.setCell ⟨sb, x + j, none⟩ (.int .i64 (u.toNat : Int))).ownsRow 0 5 1 (.slice da r.data.length dc) r.data.length (bv r.data) ∧
          (wr.setCell ⟨sb, x + j, none⟩ (.int .i64 (u.toNat : Int))).ownsRow 0 3 1 (.slice (some ⟨sb, 0, none⟩) r.st.length sc) r.st.length (nv (mapped r.st x (x + (j + 1)) turnLose)) ∧ Kept F w (wr.setCell ⟨sb, x + j, none⟩ (.int .i64 (u.toNat : Int)))) := Lib.hid (by
        intro u hu
        have ks := Kept.set wr sb (x + j) (.int .i64 (u.toNat : Int))
        refine ⟨hH.other hnoG _ _, own_kept' hD ks (fun ad ha e => hnoD ad ha e), ?_, hK.trans ks (fun k _ e => by rw [e]; exact F3 _ rfl)⟩
        rw [← Nat.add_assoc, HMs.out, hu, nv_set]
        exact own_set hS (x + j) _)
      clear hlm hg
      by_cases hx1 : r.st[x + j] = 1
      · have hv : (((r.st[x + j]).toNat : Int) == 1) = true := by rw [hx1]; rfl
        have hR := Lib.hid (HREL.out 2 (by rw [hx1]; rfl))
        generalize ((r.st[x + j]).toNat : Int) = y at hc hv
        clear hx1 HREL
        go_wp2
        go_roundw
        case rel =>
          have := hR.out
          exact ⟨j + 1, by rfl, by omega, this.1, this.2.1, this.2.2.1, this.2.2.2⟩
        case measure => simp [intOf]; omega
      · have hv : (((r.st[x + j]).toNat : Int) == 1) = false := by
          rw [beq_eq_false_iff_ne]
          intro h
          exact hx1 (UInt8.toNat_inj.1 (by have : (1 : UInt8).toNat = 1 := rfl; omega))
        have hR : Hid (nv (mapped r.st x (x + j) turnLose) = nv (mapped r.st x (x + (j + 1)) turnLose)) := Lib.hid (by
          congr 1
          apply List.ext_getElem?
          intro i
          rw [mapped_get, mapped_get]
          by_cases hi : i = x + j
          · subst hi
            rw [if_neg (by omega), if_pos (by omega), List.getElem?_eq_getElem hlt]
            simp only [Option.map_some, turnLose]
            rw [if_neg hx1]
          · by_cases h2 : x ≤ i ∧ i < x + j
            · rw [if_pos h2, if_pos (by omega)]
            · rw [if_neg h2, if_neg (by omega)])
        generalize ((r.st[x + j]).toNat : Int) = y at hc hv
        clear hx1 HREL
        go_wp2
        go_roundw
        case rel => exact ⟨j + 1, by rfl, by omega, hH, hD, by rw [← hR.out]; exact hS, hK⟩
        case measure => simp [intOf]; omega
    · obtain rfl : j = m := by omega
      have HEND : Hid (RAt F wr g (r.mid x j turnLose)) := Lib.hid (by
        have hl : (mapped r.st x (x + j) turnLose).length = r.st.length := mapped_len _ _ _ _
        refine ⟨da, dc, sa, sc, ⟨?_, hD, ?_, HB.out.dg, HB.out.sg, HB.out.ds⟩, F1, F2, F3⟩
        · show Has wr g _ [.int .i64 r.room, .int .i64 r.sent, .slice da r.data.length dc, .slice sa (mapped r.st x (x + j) turnLose).length sc, .bool r.fin, .int .i64 (r.e.toNat : Int)]
          rw [hl]
          exact hH
        · show wr.ownsRow 0 _ 1 (.slice sa (mapped r.st x (x + j) turnLose).length sc) (mapped r.st x (x + j) turnLose).length _
          rw [hl]
          exact hS)
      have c5 := hH.cell 5 rfl
      have c5f := hH.free 5
      go_wp2
      go_ret
      obtain ⟨da', dc', sa', sc', B, G1, G2, G3⟩ := HEND.out
      have ks := Kept.set wr g 5 (.int .i64 2)
      exact ⟨rfl, hK.trans ks (fun k _ e => by rw [e]; exact F1), da', dc', sa', sc', ⟨B.has.set 5 _, own_kept' B.d ks (fun ad ha e => B.dg ad ha e), own_kept' B.s ks (fun ad ha e => B.sg ad ha e), B.dg, B.sg, B.ds⟩, G1, G2, G3⟩

set_option maxRecDepth 100000 in
set_option maxHeartbeats 1000000 in
theorem rturn_lose_true_x (w : World) {F : Nat → Prop} {g : Nat} {r : Qu} (h : RAt F w g r) (hq : r.ROk) (x m : Nat) (hxm : x + m ≤ r.sent) (hf : r.fin = true) (he : ((r.e.toNat : Int) == 0) = false) (he1 : ((r.e.toNat : Int) == 1) = false) :
    Calls Try.prog 35 #[.pointer (some ⟨g, 0, none⟩), .bool false, .int .i64 (x : Int), .int .i64 (m : Int), .bool true] w fun e w' => e = .returned (.int .i64 0) ∧ Kept F w w' ∧ RAt F w' g (r.mid x m turnLose) := by
  obtain ⟨da, dc, sa, sc, hb, F1, F2, F3⟩ := h
  have hsz := hq.sent
  have hmo := hq.most
  have hln := hq.len
  have c1 := hb.has.cell 1 rfl
  have c4 := hb.has.cell 4 rfl
  have c5 := hb.has.cell 5 rfl
  have p1 : ¬ (x : Int) < 0 := by omega
  have p2 : ¬ (m : Int) < 0 := by omega
  have p3 : ¬ (r.sent : Int) < (x : Int) := by omega
  have p4 : ¬ (r.sent : Int) - (x : Int) < (m : Int) := by omega
  have f1 : IntKind.i64.wrap ((r.sent : Int) - (x : Int)) = (r.sent : Int) - x := by rw [IntKind.wrap_i64]; omega
  have f2 : IntKind.i64.wrap ((x : Int) + (m : Int)) = ((x + m : Nat) : Int) := by rw [IntKind.wrap_i64]; omega
  have hsl : x + m ≤ r.st.length := by omega
  have HB := Lib.hid hb
  clear hb hq hln
  rw [hf] at c4
  have HF := Lib.hid hf
  clear hf
  go_enter Try.func35, Try.ntmps35
  go_wp2_with fail
  go_loopw [11] (fun v wr => ∃ j : Nat, v = .int .i64 ((x + j : Nat) : Int) ∧ j ≤ m ∧ Has wr g 48 (rcells r da dc sa sc) ∧
    wr.ownsRow 0 5 1 (.slice da r.data.length dc) r.data.length (bv r.data) ∧ wr.ownsRow 0 3 1 (.slice sa r.st.length sc) r.st.length (nv (mapped r.st x (x + j) turnLose)) ∧ Kept F w wr) (fun v _ => x + m - (intOf v).toNat)
  case atStart => exact ⟨0, by simp, Nat.zero_le _, HB.out.has, HB.out.d, by rw [Nat.add_zero, mapped_none]; exact HB.out.s, Kept.refl _ _⟩
  case round =>
    obtain ⟨j, rfl, hj, hH, hD, hS, hK⟩ := hrel
    clear c1 c4 c5
    have c3 := hH.cell 3 rfl
    by_cases hjm : j < m
    · have hjm' : ((x + j : Nat) : Int) < ((x + m : Nat) : Int) := by omega
      have g2 : IntKind.i64.wrap (((x + j : Nat) : Int) + 1) = ((x + (j + 1) : Nat) : Int) := by rw [IntKind.wrap_i64]; omega
      obtain ⟨sb, rfl, hc, hfz, h1, h2⟩ := own_cell hS (i := x + j) (by omega)
      have hlm : x + j < (mapped r.st x (x + j) turnLose).length := by rw [mapped_len]; omega
      rw [nv_get _ _ hlm] at hc
      have hg : (mapped r.st x (x + j) turnLose)[x + j]? = r.st[x + j]? := by rw [mapped_get, if_neg (by omega)]
      have hlt : x + j < r.st.length := by omega
      rw [List.getElem?_eq_getElem hlm, List.getElem?_eq_getElem hlt, Option.some.injEq] at hg
      rw [hg] at hc
      have hlI : ((x + j : Nat) : Int) < (r.st.length : Int) := by omega
      have hcI : (r.st.length : Int) ≤ (sc : Int) := by omega
      have HMs := Lib.hid (mapped_succ r.st x (x + j) turnLose hlt (by omega))
      have hnoD : ∀ ad, da = some ad → ad.block ≠ sb := fun ad ha e => HB.out.ds ad _ ha rfl e
      have hnoG : g ≠ sb := fun e => HB.out.sg _ rfl e.symm
      have HREL : Hid (∀ u : UInt8, turnLose r.st[x + j] = u → Has (wr.setCell ⟨sb, x + j, none⟩ (.int .i64 (u.toNat : Int))) g 48 (rcells r da dc (some ⟨sb, 0, none⟩) sc) ∧
          (wr.setCell ⟨sb, x + j, none⟩ (.int .i64 (u.toNat : Int))).ownsRow 0 5 1 (.slice da r.data.length dc) r.data.length (bv r.data) ∧
          (wr.setCell ⟨sb, x + j, none⟩ (.int .i64 (u.toNat : Int))).ownsRow 0 3 1 (.slice (some ⟨sb, 0, none⟩) r.st.length sc) r.st.length (nv (mapped r.st x (x + (j + 1)) turnLose)) ∧ Kept F w (wr.setCell ⟨sb, x + j, none⟩ (.int .i64 (u.toNat : Int)))) := Lib.hid (by
        intro u hu
        have ks := Kept.set wr sb (x + j) (.int .i64 (u.toNat : Int))
        refine ⟨hH.other hnoG _ _, own_kept' hD ks (fun ad ha e => hnoD ad ha e), ?_, hK.trans ks (fun k _ e => by rw [e]; exact F3 _ rfl)⟩
        rw [← Nat.add_assoc, HMs.out, hu, nv_set]
        exact own_set hS (x + j) _)
      clear hlm hg
      by_cases hx1 : r.st[x + j] = 1
      · have hv : (((r.st[x + j]).toNat : Int) == 1) = true := by rw [hx1]; rfl
        have hR := Lib.hid (HREL.out 2 (by rw [hx1]; rfl))
        generalize ((r.st[x + j]).toNat : Int) = y at hc hv
        clear hx1 HREL
        go_wp2
        go_roundw
        case rel =>
          have := hR.out
          exact ⟨j + 1, by rfl, by omega, this.1, this.2.1, this.2.2.1, this.2.2.2⟩
        case measure => simp [intOf]; omega
      · have hv : (((r.st[x + j]).toNat : Int) == 1) = false := by
          rw [beq_eq_false_iff_ne]
          intro h
          exact hx1 (UInt8.toNat_inj.1 (by have : (1 : UInt8).toNat = 1 := rfl; omega))
        have hR : Hid (nv (mapped r.st x (x + j) turnLose) = nv (mapped r.st x (x + (j + 1)) turnLose)) := Lib.hid (by
          congr 1
          apply List.ext_getElem?
          intro i
          rw [mapped_get, mapped_get]
          by_cases hi : i = x + j
          · subst hi
            rw [if_neg (by omega), if_pos (by omega), List.getElem?_eq_getElem hlt]
            simp only [Option.map_some, turnLose]
            rw [if_neg hx1]
          · by_cases h2 : x ≤ i ∧ i < x + j
            · rw [if_pos h2, if_pos (by omega)]
            · rw [if_neg h2, if_neg (by omega)])
        generalize ((r.st[x + j]).toNat : Int) = y at hc hv
        clear hx1 HREL
        go_wp2
        go_roundw
        case rel => exact ⟨j + 1, by rfl, by omega, hH, hD, by rw [← hR.out]; exact hS, hK⟩
        case measure => simp [intOf]; omega
    · obtain rfl : j = m := by omega
      have HEND : Hid (RAt F wr g (r.mid x j turnLose)) := Lib.hid (by
        have hl : (mapped r.st x (x + j) turnLose).length = r.st.length := mapped_len _ _ _ _
        refine ⟨da, dc, sa, sc, ⟨?_, hD, ?_, HB.out.dg, HB.out.sg, HB.out.ds⟩, F1, F2, F3⟩
        · show Has wr g _ [.int .i64 r.room, .int .i64 r.sent, .slice da r.data.length dc, .slice sa (mapped r.st x (x + j) turnLose).length sc, .bool r.fin, .int .i64 (r.e.toNat : Int)]
          rw [hl]
          exact hH
        · show wr.ownsRow 0 _ 1 (.slice sa (mapped r.st x (x + j) turnLose).length sc) (mapped r.st x (x + j) turnLose).length _
          rw [hl]
          exact hS)
      have c5 := hH.cell 5 rfl
      go_wp2
      go_ret
      exact ⟨rfl, hK, HEND.out⟩

set_option maxRecDepth 100000 in
set_option maxHeartbeats 1000000 in
theorem rturn_bad (w : World) {F : Nat → Prop} {g : Nat} {r : Qu} (h : RAt F w g r) (hq : r.ROk) (ack : Bool) (a n : Int) (fin : Bool) (hr : r.right a n fin = false) :
    Calls Try.prog 35 #[.pointer (some ⟨g, 0, none⟩), .bool ack, .int .i64 a, .int .i64 n, .bool fin] w fun e w' => e = .returned (.int .i64 30) ∧ w = w' := by
  obtain ⟨da, dc, sa, sc, hb, F1, F2, F3⟩ := h
  have c1 := hb.has.cell 1 rfl
  have c4 := hb.has.cell 4 rfl
  have c5 := hb.has.cell 5 rfl
  have hS : r.sent ≤ 1152921504606846976 := by have := hq.sent; have := hq.most; omega
  clear hb hq
  have cases : (a < 0) ∨ (¬ a < 0 ∧ n < 0) ∨ (¬ a < 0 ∧ ¬ n < 0 ∧ (r.sent : Int) < a) ∨ (¬ a < 0 ∧ ¬ n < 0 ∧ ¬ (r.sent : Int) < a ∧ (r.sent : Int) - a < n) ∨
      (¬ a < 0 ∧ ¬ n < 0 ∧ ¬ (r.sent : Int) < a ∧ ¬ (r.sent : Int) - a < n ∧ fin = true ∧ (r.fin = false ∨ (r.fin = true ∧ ((r.e.toNat : Int) == 0) = true))) := by
    unfold Qu.right at hr
    by_cases h1 : a < 0
    · exact .inl h1
    · by_cases h2 : n < 0
      · exact .inr (.inl ⟨h1, h2⟩)
      · by_cases h3 : (r.sent : Int) < a
        · exact .inr (.inr (.inl ⟨h1, h2, h3⟩))
        · by_cases h4 : (r.sent : Int) - a < n
          · exact .inr (.inr (.inr (.inl ⟨h1, h2, h3, h4⟩)))
          · refine .inr (.inr (.inr (.inr ⟨h1, h2, h3, h4, ?_⟩)))
            rw [decide_eq_true (show 0 ≤ a ∧ 0 ≤ n ∧ n ≤ (r.sent : Int) ∧ a ≤ (r.sent : Int) - n by omega), Bool.true_and] at hr
            cases fin
            · simp at hr
            · refine ⟨rfl, ?_⟩
              cases hf : r.fin
              · exact .inl rfl
              · refine .inr ⟨rfl, ?_⟩
                rw [hf] at hr
                simp at hr
                rw [hr]
                rfl
  rcases cases with h1 | ⟨h1, h2⟩ | ⟨h1, h2, h3⟩ | ⟨h1, h2, h3, h4⟩ | ⟨h1, h2, h3, h4, rfl, hf | ⟨hf, he⟩⟩
  all_goals
    clear hr
    have f1 : 0 ≤ a → a ≤ (r.sent : Int) → IntKind.i64.wrap ((r.sent : Int) - a) = (r.sent : Int) - a := fun _ _ => by rw [IntKind.wrap_i64]; omega
    try rw [hf] at c4
    go_enter Try.func35, Try.ntmps35
    go_wp2
    go_ret
    exact ⟨rfl, rfl⟩

theorem rturn_any (w : World) {F : Nat → Prop} {g : Nat} {r : Qu} (h : RAt F w g r) (hq : r.ROk) (ack : Bool) (a n : Int) (fin : Bool) :
    Calls Try.prog 35 #[.pointer (some ⟨g, 0, none⟩), .bool ack, .int .i64 a, .int .i64 n, .bool fin] w fun e w' => e = .returned (.int .i64 (r.terr a n fin)) ∧ Kept F w w' ∧ RAt F w' g (r.turn ack a n fin) := by
  cases hr : r.right a n fin
  · refine (rturn_bad w h hq ack a n fin hr).mono ?_
    rintro e w' ⟨rfl, rfl⟩
    have e1 : r.terr a n fin = 30 := by unfold Qu.terr; rw [hr]; rfl
    have e2 : r.turn ack a n fin = r := by unfold Qu.turn Qu.tack Qu.lose; rw [hr]; simp
    rw [e1, e2]
    exact ⟨rfl, Kept.refl _ _, h⟩
  · obtain ⟨x, m, rfl, rfl, hxm⟩ := Qu.right_nat hr
    have e1 : r.terr (x : Int) (m : Int) fin = 0 := by unfold Qu.terr; rw [hr]; rfl
    have hb0 := hq.base
    have hrr := hr
    unfold Qu.right at hrr
    simp only [Bool.and_eq_true, Bool.or_eq_true, bne_iff_ne] at hrr
    rw [e1]
    cases ack
    · have e2 : r.turn false (x : Int) (m : Int) fin = { r.mid x m turnLose with e := if fin then turnLose r.e else r.e } := by
        unfold Qu.turn Qu.lose Qu.mid
        rw [hr, hb0]
        simp
      rw [e2]
      cases fin
      · exact rturn_lose_false w h hq x m hxm
      · have hf : r.fin = true := by rcases hrr.2 with h | h; (· simp at h); exact h.1
        have he : r.e ≠ 0 := by rcases hrr.2 with h | h; (· simp at h); exact h.2
        have he' : ((r.e.toNat : Int) == 0) = false := by
          rw [beq_eq_false_iff_ne]; intro h; exact he (UInt8.toNat_inj.1 (by have : (0 : UInt8).toNat = 0 := rfl; omega))
        by_cases h1 : r.e = 1
        · have := rturn_lose_true_1 w h hq x m hxm hf he' (by rw [h1]; rfl)
          simpa [turnLose, h1] using this
        · have := rturn_lose_true_x w h hq x m hxm hf he' (by rw [beq_eq_false_iff_ne]; intro h; exact h1 (UInt8.toNat_inj.1 (by have : (1 : UInt8).toNat = 1 := rfl; omega)))
          have e3 : { r.mid x m turnLose with e := if true = true then turnLose r.e else r.e } = r.mid x m turnLose := by
            unfold Qu.mid turnLose
            rw [if_pos rfl, if_neg h1]
          rw [e3]
          exact this
    · have e2 : r.turn true (x : Int) (m : Int) fin = { r.mid x m turnAck with e := if fin then 3 else r.e } := by
        unfold Qu.turn Qu.tack Qu.mid
        rw [hr]
        simp
      rw [e2]
      cases fin
      · exact rturn_ack_false w h hq x m hxm
      · have hf : r.fin = true := by rcases hrr.2 with h | h; (· simp at h); exact h.1
        have he : r.e ≠ 0 := by rcases hrr.2 with h | h; (· simp at h); exact h.2
        exact rturn_ack_true w h hq x m hxm hf (by rw [beq_eq_false_iff_ne]; intro h; exact he (UInt8.toNat_inj.1 (by have : (0 : UInt8).toNat = 0 := rfl; omega)))
end Go.Proofs.Ytkjclgpecppokaa

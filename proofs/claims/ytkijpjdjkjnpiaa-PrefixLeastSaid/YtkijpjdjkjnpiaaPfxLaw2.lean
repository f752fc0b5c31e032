/- PrefixGets and PrefixLeast answer true. -/
import Derived.Test.YtkijpjdjkjnpiaaPfxRefGet
import Derived.Test.YtkijpjdjkjnpiaaPfxLaw1
import Derived.Test.YtkijpjdjkjnpiaaCopy
namespace Go.Proofs.Ytkijpjdjkjnpiaa
open Go.RowKit

set_option maxRecDepth 100000 in
set_option maxHeartbeats 1000000 in
theorem gets_any (w : World) {a : Option Addr} {n c : Nat} {l : List UInt8} (h : Sl w a n c (bv l)) (hn : n * 1 ≤ 140737488351232)
    (at_ : Int) (_ : -9223372036854775808 ≤ at_) (_ : at_ ≤ 9223372036854775807) (bits : Int) (_ : -9223372036854775808 ≤ bits) (_ : bits ≤ 9223372036854775807) :
    Calls Try.prog 4 #[.slice a n c, .int .i64 at_, .int .i64 bits] w fun e w' => e = .returned (.bool true) ∧ Below w.heap.size w w' := by
  go_enter Try.func4, Try.ntmps4
  go_wp2_with fail
  refine (copy_any w h (by omega)).mono ?_
  rintro e w1 ⟨a1, c1, rfl, ho1, hb1⟩
  have s1 := own_sl ho1
  go_wp2_with fail
  refine (get_any _ s1 at_ bits).mono ?_
  have HR := fun (u : World) (hu : Sl u a n c (bv l)) => rget_any u hu at_ bits
  generalize getR l at_ bits = r at HR ⊢
  have HR' := Lib.hid HR
  clear HR
  rintro e w2 ⟨rfl, hb2⟩
  have z1 := hb1.size
  have z2 := hb2.size
  have h2 := h.below (hb1.trans (hb2.mono z1))
  go_wp2_with fail
  refine (HR'.out _ h2).mono ?_
  rintro e w3 ⟨rfl, hb3⟩
  have z3 := hb3.size
  go_wp2_with fail
  refine (awake15_any _).mono ?_
  rintro e w4 ⟨rfl, hb4⟩
  have z4 := hb4.size
  have h4 := (h2.below hb3).below hb4
  have t4 := ((s1.below hb2).below hb3).below hb4
  go_wp2_with fail
  refine (same_any _ t4 h4).mono ?_
  rintro e w5 ⟨rfl, hb5⟩
  have hd : decide (l = l) = true := by simp
  go_wp2
  go_ret
  exact ⟨rfl, (((hb1.trans (hb2.mono z1)).trans (hb3.mono (by omega))).trans (hb4.mono (by omega))).trans (hb5.mono (by omega))⟩

set_option maxRecDepth 100000 in
set_option maxHeartbeats 1000000 in
theorem least_any (w : World) {a : Option Addr} {n c : Nat} {l : List UInt8} (h : Sl w a n c (bv l)) (hn : n * 1 ≤ 140737488351232)
    (bits : Int) (_ : -9223372036854775808 ≤ bits) (_ : bits ≤ 9223372036854775807) :
    Calls Try.prog 5 #[.slice a n c, .int .i64 bits] w fun e w' => e = .returned (.bool true) ∧ Below w.heap.size w w' := by
  have hl1 : l.length ≤ n := by have := h.byte; omega
  have hl2 : n ≤ l.length := by have := h.byte; omega
  have hcap := h.cap_le
  have hcm : c ≤ 9223372036854775807 := by have := h.cap_max; unfold maxLen at this; omega
  obtain ⟨N, E, F, hr⟩ : ∃ N E F, getR l 0 bits = (N, E, F) := ⟨_, _, _, rfl⟩
  have HR := Lib.hid hr
  clear hr
  by_cases hF : F = 0
  · subst hF
    have hne : ((0 : Int) != 0) = false := by simp
    obtain ⟨g1, g2, g3, g4, hp, j, rfl, hj, q1, q2⟩ := getR_least HR.out
    have HP : Hid (putR N bits (l[0].toNat : Int) = (putL N.toNat bits.toNat l[0].toNat, 0)) := by
      show _ = _; unfold putR; rw [if_neg (by omega), if_neg (by omega)]; rfl
    have hx := l[0].toNat_lt
    generalize putL N.toNat bits.toNat l[0].toNat = L at HP q1 q2
    have HQ := Lib.hid q2
    clear q2
    obtain ⟨b, off, rfl, hc⟩ := h.cells (by omega)
    have hc0 := hc 0 (by omega)
    rw [bv_get l 0 hp] at hc0
    have hpn : (0 : Int) < (n : Int) := by omega
    go_enter Try.func5, Try.ntmps5
    go_wp2_with fail
    refine (copy_any w h (by omega)).mono ?_
    rintro e w1 ⟨a1, c1, rfl, ho1, hb1⟩
    have s1 := own_sl ho1
    have hG := get_any w1 s1 0 bits
    rw [HR.out] at hG
    go_wp2_with fail
    refine hG.mono ?_
    clear hG
    rintro e w2 ⟨rfl, hb2⟩
    have z1 := hb1.size
    have z2 := hb2.size
    have hbb := hb1.trans (hb2.mono z1)
    have h2 := h.below hbb
    have q0 : w2.cell? ⟨b, off, none⟩ = some (.int .u8 (l[0].toNat : Int)) := by
      have e : (⟨b, off + 0, none⟩ : Addr) = ⟨b, off, none⟩ := rfl
      rw [e] at hc0
      rw [hbb.cell (World.block_lt_of_cell? w _ hc0)]; exact hc0
    clear hc0
    have hG := put_any N bits (l[0].toNat : Int) w2 (by omega) (by omega)
    rw [HP.out] at hG
    go_wp2_with fail
    refine hG.mono ?_
    clear hG
    rintro e w3 ⟨a3, c3, rfl, ho3, hb3⟩
    have z3 := hb3.size
    have h3 := h2.below hb3
    have s3 := own_sl ho3
    have hjn : (j : Int) ≤ (n : Int) := by omega
    have hq1 : (L.length : Int) ≤ (j : Int) := by omega
    have hL63 : (L.length : Int) ≤ 9223372036854775807 := by omega
    by_cases hlt : L.length < j
    · have hlt' : (L.length : Int) < (j : Int) := by omega
      go_wp2_with fail
      refine (awake15_any _).mono ?_
      rintro e w4 ⟨rfl, hb4⟩
      go_wp2
      go_ret
      exact ⟨rfl, ((hbb).trans (hb3.mono (by omega))).trans (hb4.mono (by omega))⟩
    · have hge' : ¬ (L.length : Int) < (j : Int) := by omega
      have hLj : L = l.take j := HQ.out (by omega)
      have HL := Lib.hid hLj
      clear hLj
      go_wp2_with fail
      refine (same_any (l1 := L) (l2 := l.take j) _ s3 ?_).mono ?_
      · refine ⟨by rw [bv_length, List.length_take]; omega, by omega, h3.cap_max, by simp, fun hj0 => ⟨b, off, rfl, fun i hi => ?_⟩⟩
        obtain ⟨b', off', hbo, hcc⟩ := h3.cells (by omega)
        simp only [Option.some.injEq, Addr.mk.injEq, and_true] at hbo
        obtain ⟨rfl, rfl⟩ := hbo
        rw [hcc i (by omega), bv_take, List.getElem?_take, if_pos hi]
      rintro e w4 ⟨rfl, hb4⟩
      have z4 := hb4.size
      have hd : decide (L = l.take j) = true := decide_eq_true HL.out
      go_wp2_with fail
      refine (awake15_any _).mono ?_
      rintro e w5 ⟨rfl, hb5⟩
      go_wp2
      go_ret
      exact ⟨rfl, (((hbb).trans (hb3.mono (by omega))).trans (hb4.mono (by omega))).trans (hb5.mono (by omega))⟩
  · obtain ⟨rfl, rfl⟩ := getR_none HR.out hF
    have hne : (F != 0) = true := by simp [hF]
    have HF := Lib.hid hF
    clear hF
    go_enter Try.func5, Try.ntmps5
    go_wp2_with fail
    refine (copy_any w h (by omega)).mono ?_
    rintro e w1 ⟨a1, c1, rfl, ho1, hb1⟩
    have s1 := own_sl ho1
    have hG := get_any w1 s1 0 bits
    rw [HR.out] at hG
    go_wp2_with fail
    refine hG.mono ?_
    clear hG
    rintro e w2 ⟨rfl, hb2⟩
    have z1 := hb1.size
    have z2 := hb2.size
    go_wp2_with fail
    refine (awake15_any _).mono ?_
    rintro e w3 ⟨rfl, hb3⟩
    go_wp2
    go_ret
    exact ⟨rfl, (hb1.trans (hb2.mono z1)).trans (hb3.mono (by omega))⟩
end Go.Proofs.Ytkijpjdjkjnpiaa

/- turnpikeref18.Length, Hop. No condition. Printed by gen_chk2.py. -/
import Derived.Test.YtohinaohcndndaaDoorChk1
namespace Go.Proofs.YtohinaohcndndaaDoor
open Go.RowKit

def natV (l : List UInt8) : Nat := l.foldl (fun n b => n * 10 + (b.toNat - 48)) 0
def digC (b : UInt8) : Bool := decide (48 ≤ b.toNat) && decide (b.toNat ≤ 57)
def lenL (l : List UInt8) : Int := if l.length < 1 ∨ 15 < l.length then -1 else if l.all digC = true then (natV l : Int) else -1
theorem natV_on {l : List UInt8} {i : Nat} (h : i < l.length) : natV (l.take (i + 1)) = natV (l.take i) * 10 + (l[i].toNat - 48) := by
  rw [List.take_succ_eq_append_getElem h, natV, List.foldl_append]; rfl
theorem pow_le15 {v i : Nat} (h : v < 10 ^ i) (hi : i ≤ 15) : v < 1000000000000000 := Nat.lt_of_lt_of_le h (Nat.le_trans (Nat.pow_le_pow_right (by decide) hi) (by decide))
theorem pow_on {v d i : Nat} (h : v < 10 ^ i) (hd : d ≤ 9) : v * 10 + d < 10 ^ (i + 1) := by rw [Nat.pow_succ]; omega
theorem lnj1 {q : Nat} {x : Int} (hq : q < 1000000000000000) (h1 : 48 ≤ x) (h2 : x ≤ 57) : RowKit.wrap64 ((q : Int) * 10) = (q : Int) * 10 ∧ IntKind.u8.wrap (x - 48) = x - 48 ∧ IntKind.i64.wrap (x - 48) = x - 48 ∧ RowKit.wrap64 (x - 48) = x - 48 ∧ RowKit.wrap64 ((q : Int) * 10 + (x - 48)) = (q : Int) * 10 + (x - 48) := by
  rw [IntKind.wrap_u8, IntKind.wrap_i64]; unfold RowKit.wrap64; omega
set_option maxRecDepth 100000 in
set_option maxHeartbeats 4000000 in
theorem length_any (w : World) (l : List UInt8) : Calls Tryd.prog 44 #[.string (strB l)] w (Ret w (.int .i64 (lenL l))) := by
  obtain ⟨n, hl⟩ : ∃ n, n = l.length := ⟨_, rfl⟩
  have hsz : (strB l).size = n := by rw [strB_size, hl]
  obtain ⟨R, hR⟩ : ∃ R, R = lenL l := ⟨_, rfl⟩
  rw [← hR]
  have HL := Lib.hid hl
  by_cases h1 : n < 1
  · obtain rfl : R = -1 := by rw [hR, lenL, if_pos (.inl (by omega))]
    have y1 : ((n : Int) < 1) = True := eq_true (by omega)
    clear h1 hR hl
    go_enter Tryd.func44, Tryd.ntmps44
    go_wp2
    go_ret
    exact ⟨rfl, rfl⟩
  · have y1 : ((n : Int) < 1) = False := eq_false (by omega)
    by_cases h2 : 15 < n
    · obtain rfl : R = -1 := by rw [hR, lenL, if_pos (.inr (by omega))]
      have y2 : ((15 : Int) < (n : Int)) = True := eq_true (by omega)
      clear h1 h2 hR hl
      go_enter Tryd.func44, Tryd.ntmps44
      go_wp2
      go_ret
      exact ⟨rfl, rfl⟩
    · have y2 : ((15 : Int) < (n : Int)) = False := eq_false (by omega)
      have HR : Hid (R = if l.all digC = true then (natV l : Int) else -1) := Lib.hid (by rw [hR, lenL, if_neg (by omega)])
      have HN : Hid (n ≤ 15) := Lib.hid (by omega)
      clear h1 h2 hR hl
      go_enter Tryd.func44, Tryd.ntmps44
      go_wp2_with fail
      go_loopw [3, 4] (fun q v wr => ∃ i : Nat, v = .int .i64 (i : Int) ∧ q = .int .i64 ((natV (l.take i) : Nat) : Int) ∧ i ≤ n ∧ Hid ((l.take i).all digC = true) ∧ Hid (natV (l.take i) < 10 ^ i) ∧ wr = w) (fun _ v _ => n - (intOf v).toNat)
      case atStart => exact ⟨0, rfl, rfl, Nat.zero_le _, Lib.hid rfl, Lib.hid (by simp [natV]), rfl⟩
      case round =>
        obtain ⟨i, rfl, rfl, hi, HA, HV, rfl⟩ := hrel
        by_cases hin : i < n
        · have HI := Lib.hid hin
          obtain ⟨z1, z2, z3⟩ := ssj1 hin (Nat.le_trans HN.out (by decide))
          have hil : i < l.length := by rw [← HL.out]; exact hin
          have ix := idxS wr l i hil
          have HOn : Hid (digC l[i] = true → (l.take (i + 1)).all digC = true) := Lib.hid (all_on hil HA.out)
          have HSt : Hid (digC l[i] = false → l.all digC = false) := Lib.hid (all_stop hil)
          have HNv := Lib.hid (natV_on hil)
          have hq := pow_le15 HV.out (Nat.le_trans hi HN.out)
          obtain ⟨b, hb⟩ : ∃ b, b = l[i] := ⟨_, rfl⟩
          rw [← hb] at ix HOn HSt HNv
          obtain ⟨x, hx⟩ : ∃ x : Int, x = (b.toNat : Int) := ⟨_, rfl⟩
          rw [← hx] at ix
          obtain ⟨q, hqq⟩ : ∃ q, q = natV (l.take i) := ⟨_, rfl⟩
          rw [← hqq] at HV HNv hq ⊢
          clear hi hin hil hb HA hqq
          rcases (by omega : (x ≤ 47) ∨ (58 ≤ x) ∨ (48 ≤ x ∧ x ≤ 57)) with hc | hc | hc
          · have y1 : (x < (48 : Int)) = True := eq_true (by omega)
            obtain rfl : R = -1 := by rw [HR.out, HSt.out (by simp [digC]; omega)]; rfl
            clear hc hx hq
            go_wp2
            go_ret
            exact ⟨rfl, rfl⟩
          · have y1 : (x < (48 : Int)) = False := eq_false (by omega)
            have y2 : ((57 : Int) < x) = True := eq_true (by omega)
            obtain rfl : R = -1 := by rw [HR.out, HSt.out (by simp [digC]; omega)]; rfl
            clear hc hx hq
            go_wp2
            go_ret
            exact ⟨rfl, rfl⟩
          · have y1 : (x < (48 : Int)) = False := eq_false (by omega)
            have y2 : ((57 : Int) < x) = False := eq_false (by omega)
            have HOn2 := Lib.hid (HOn.out (by simp [digC]; omega))
            obtain ⟨k1, k2, k3, k4, k5⟩ := lnj1 hq hc.1 hc.2
            have HQ : Hid ((q : Int) * 10 + (x - 48) = ((natV (l.take (i + 1)) : Nat) : Int)) := Lib.hid (by rw [HNv.out]; omega)
            have HV2 : Hid (natV (l.take (i + 1)) < 10 ^ (i + 1)) := Lib.hid (by rw [HNv.out]; exact pow_on HV.out (by omega))
            clear hc hx hq
            go_wp2_with fail
            go_roundw
            case rel => exact ⟨i + 1, by first | rfl | (push_cast; rfl), by rw [← HQ.out]; first | rfl | rw [k5], HI.out, HOn2, HV2, by trivial⟩
            case measure => exact ssj3 HI.out
        · have z1 := ssj2 hin
          have e : l.take i = l := List.take_of_length_le (by rw [← HL.out]; exact Nat.le_of_not_lt hin)
          obtain rfl : R = ((natV (l.take i) : Nat) : Int) := by
            have h := all_end (by rw [← HL.out]; exact Nat.le_of_not_lt hin) HA.out
            rw [HR.out, if_pos h, e]
          clear hi hin HA e
          go_wp2
          go_ret
          exact ⟨rfl, rfl⟩
def hopS : List (List UInt8) := [[99, 111, 110, 110, 101, 99, 116, 105, 111, 110], [107, 101, 101, 112, 45, 97, 108, 105, 118, 101], [112, 114, 111, 120, 121, 45, 99, 111, 110, 110, 101, 99, 116, 105, 111, 110], [116, 114, 97, 110, 115, 102, 101, 114, 45, 101, 110, 99, 111, 100, 105, 110, 103], [117, 112, 103, 114, 97, 100, 101]]
def hopL (nm va : List UInt8) : Bool := decide (nm ∈ hopS) || (decide (nm = [116, 101]) && !decide (va = [116, 114, 97, 105, 108, 101, 114, 115]))
set_option maxRecDepth 100000 in
set_option maxHeartbeats 4000000 in
theorem hop_any (w : World) (nm va : ByteArray) : Calls Tryd.prog 52 #[.agg #[.string nm, .string va]] w (BoolOf w (hopL (bl nm) (bl va))) := by
  obtain ⟨R, hR⟩ : ∃ R, R = hopL (bl nm) (bl va) := ⟨_, rfl⟩
  rw [← hR]
  by_cases h0 : bl nm = [99, 111, 110, 110, 101, 99, 116, 105, 111, 110]
  · obtain ⟨e0, d0⟩ := eqT2 h0
    obtain rfl : R = true := by rw [hR]; simp [hopL, hopS, h0]
    clear h0 
    clear hR
    go_enter Tryd.func52, Tryd.ntmps52
    go_wp2
    go_ret
    exact ⟨rfl, (Below.refl _ w).alloc (Nat.le_refl _) _⟩
  obtain ⟨e0, d0⟩ := eqF2 h0
  by_cases h1 : bl nm = [107, 101, 101, 112, 45, 97, 108, 105, 118, 101]
  · obtain ⟨e1, d1⟩ := eqT2 h1
    obtain rfl : R = true := by rw [hR]; simp [hopL, hopS, h1]
    clear h1 h0
    clear hR
    go_enter Tryd.func52, Tryd.ntmps52
    go_wp2
    go_ret
    exact ⟨rfl, (Below.refl _ w).alloc (Nat.le_refl _) _⟩
  obtain ⟨e1, d1⟩ := eqF2 h1
  by_cases h2 : bl nm = [112, 114, 111, 120, 121, 45, 99, 111, 110, 110, 101, 99, 116, 105, 111, 110]
  · obtain ⟨e2, d2⟩ := eqT2 h2
    obtain rfl : R = true := by rw [hR]; simp [hopL, hopS, h2]
    clear h2 h0 h1
    clear hR
    go_enter Tryd.func52, Tryd.ntmps52
    go_wp2
    go_ret
    exact ⟨rfl, (Below.refl _ w).alloc (Nat.le_refl _) _⟩
  obtain ⟨e2, d2⟩ := eqF2 h2
  by_cases h3 : bl nm = [116, 114, 97, 110, 115, 102, 101, 114, 45, 101, 110, 99, 111, 100, 105, 110, 103]
  · obtain ⟨e3, d3⟩ := eqT2 h3
    obtain rfl : R = true := by rw [hR]; simp [hopL, hopS, h3]
    clear h3 h0 h1 h2
    clear hR
    go_enter Tryd.func52, Tryd.ntmps52
    go_wp2
    go_ret
    exact ⟨rfl, (Below.refl _ w).alloc (Nat.le_refl _) _⟩
  obtain ⟨e3, d3⟩ := eqF2 h3
  by_cases h4 : bl nm = [117, 112, 103, 114, 97, 100, 101]
  · obtain ⟨e4, d4⟩ := eqT2 h4
    obtain rfl : R = true := by rw [hR]; simp [hopL, hopS, h4]
    clear h4 h0 h1 h2 h3
    clear hR
    go_enter Tryd.func52, Tryd.ntmps52
    go_wp2
    go_ret
    exact ⟨rfl, (Below.refl _ w).alloc (Nat.le_refl _) _⟩
  obtain ⟨e4, d4⟩ := eqF2 h4
  by_cases h5 : bl nm = [116, 101]
  · obtain ⟨e5, d5⟩ := eqT2 h5
    by_cases h6 : bl va = [116, 114, 97, 105, 108, 101, 114, 115]
    · obtain ⟨e6, d6⟩ := eqT2 h6
      obtain rfl : R = false := by rw [hR]; simp [hopL, hopS, h5, h6]
      clear h0 h1 h2 h3 h4 h5 h6
      clear hR
      go_enter Tryd.func52, Tryd.ntmps52
      go_wp2
      go_ret
      exact ⟨rfl, (Below.refl _ w).alloc (Nat.le_refl _) _⟩
    · obtain ⟨e6, d6⟩ := eqF2 h6
      obtain rfl : R = true := by rw [hR]; simp [hopL, hopS, h5, h6]
      clear h0 h1 h2 h3 h4 h5 h6
      clear hR
      go_enter Tryd.func52, Tryd.ntmps52
      go_wp2
      go_ret
      exact ⟨rfl, (Below.refl _ w).alloc (Nat.le_refl _) _⟩
  · obtain ⟨e5, d5⟩ := eqF2 h5
    obtain rfl : R = false := by rw [hR]; simp [hopL, hopS, h0, h1, h2, h3, h4, h5]
    clear h0 h1 h2 h3 h4 h5
    clear hR
    go_enter Tryd.func52, Tryd.ntmps52
    go_wp2
    go_ret
    exact ⟨rfl, (Below.refl _ w).alloc (Nat.le_refl _) _⟩
end Go.Proofs.YtohinaohcndndaaDoor

/- turnpikeref19.Last. No condition but the sizes. -/
import Derived.Test.YtfffefhchjnfjaaGreatDoorNmRef
namespace Go.Proofs.YtfffefhchjnfjaaGreatDoor
open Go.RowKit

def bl (s : ByteArray) : List UInt8 := s.data.toList
theorem bl_size (s : ByteArray) : s.size = (bl s).length := by unfold bl; rw [Array.length_toList]; rfl
theorem strB_bl (s : ByteArray) : strB (bl s) = s := strB_of s
/-- a field's line -/
def lineL (f : Fd) : List UInt8 := bl f.nm ++ ([58, 32] ++ (bl f.va ++ [13, 10]))
def linesL (l : List Fd) : List UInt8 := l.flatMap lineL
def lastL (l : List Fd) : List UInt8 := [48, 13, 10] ++ (linesL l ++ [13, 10])
theorem lines_take (l : List Fd) (i : Nat) (h : i < l.length) : linesL (l.take (i + 1)) = linesL (l.take i) ++ lineL l[i] := by
  unfold linesL
  rw [List.take_succ_eq_append_getElem h, List.flatMap_append]
  simp
theorem lines_le (l : List Fd) (i : Nat) : (linesL (l.take i)).length ≤ (linesL l).length := by
  have h : linesL l = linesL (l.take i) ++ linesL (l.drop i) := by
    unfold linesL
    rw [← List.flatMap_append, List.take_append_drop]
  rw [h, List.length_append]; omega
theorem lsj1 {x y s t m : Nat} (h : 3 + (s + (x + (2 + (y + 2)))) ≤ t) (ht : t ≤ m) (hm : m ≤ 4611686018427387904) : ¬ 9223372036854775807 < x + 2 ∧ ¬ 9223372036854775807 < x + 2 + y ∧ ¬ 9223372036854775807 < x + 2 + y + 2 ∧ ¬ 9223372036854775807 < 3 + s + (x + 2 + y + 2) := by omega
theorem lsj2 {s t m : Nat} (h : s ≤ t) (ht : 3 + (t + 2) ≤ m) (hm : m ≤ 4611686018427387904) : ¬ 9223372036854775807 < 3 + s + 2 := by omega
set_option maxRecDepth 100000 in
theorem rlast_any (w : World) {a : Option Addr} {n c : Nat} {l : List Fd} (h : SlS w a n c l) (hb : (lastL l).length ≤ 4611686018427387904) : Calls Tryz.prog 10 #[.slice a n c] w (StrOf w (lastL l)) := by
  have hmx : n ≤ 9223372036854775807 := by have := h.cap; have := h.max; unfold maxLen at this; omega
  have hn := h.len
  obtain ⟨R, hR⟩ : ∃ R, R = lastL l := ⟨_, rfl⟩
  have hb2 : 3 + ((linesL l).length + 2) ≤ 4611686018427387904 := by
    have e : (lastL l).length = 3 + ((linesL l).length + 2) := by simp [lastL]; omega
    rw [← e]; exact hb
  rw [← hR]
  have HR := Lib.hid hR
  have HS := Lib.hid h
  have HN := Lib.hid hn
  have HM := Lib.hid hmx
  have HB := Lib.hid hb2
  clear h hb hn hmx hR hb2
  go_enter Tryz.func10, Tryz.ntmps10
  go_wp2_with fail
  go_loopw [3, 4] (fun sv v wr => ∃ i : Nat, v = .int .i64 (i : Int) ∧ i ≤ n ∧ sv = .string (strB ([48, 13, 10] ++ linesL (l.take i))) ∧ Below w.heap.size w wr) (fun _ v _ => n - (intOf v).toNat)
  case atStart => exact ⟨0, rfl, Nat.zero_le _, by simp [linesL]; rfl, Below.refl _ _⟩
  case round =>
    obtain ⟨i, rfl, hi, rfl, hbw⟩ := hrel
    obtain ⟨sv, hsv⟩ : ∃ sv, sv = strB ([48, 13, 10] ++ linesL (l.take i)) := ⟨_, rfl⟩
    have hsz : sv.size = 3 + (linesL (l.take i)).length := by rw [hsv, strB_size, List.length_append]; rfl
    rw [← hsv]
    have HSv := Lib.hid hsv
    have HBw := Lib.hid hbw
    obtain ⟨sn, hsn⟩ : ∃ sn, sn = (linesL (l.take i)).length := ⟨_, rfl⟩
    rw [← hsn] at hsz
    have HSn := Lib.hid hsn
    clear hsv hbw hsn
    by_cases hin : i < n
    · have HI := Lib.hid hin
      obtain ⟨z1, z2, z3⟩ := ssj1 hin HM.out
      have hil : i < l.length := by rw [HN.out]; exact hin
      obtain ⟨b, o, rfl, hc⟩ := HS.out.cells (Nat.lt_of_le_of_lt (Nat.zero_le _) hin)
      obtain ⟨p0, p1⟩ := hc i hil
      have hd : Below w.heap.size w wr.drew := HBw.out.trans ((below_drewN (Below.refl wr.heap.size wr) 1).mono HBw.out.size)
      obtain ⟨nm, hnm⟩ : ∃ nm, nm = l[i].nm := ⟨_, rfl⟩
      obtain ⟨va, hva⟩ : ∃ va, va = l[i].va := ⟨_, rfl⟩
      rw [← hnm] at p0
      rw [← hva] at p1
      have HSat : Hid (Sat [(⟨b, o + i * 2, none⟩, .string nm), (⟨b, o + i * 2 + 1, none⟩, .string va)] wr.drew) := Lib.hid ((Sat.cons p0 (Sat.cons p1 (Sat.nil w))).below hd)
      have HD := Lib.hid hd
      have hll := lines_le l (i + 1)
      have htk := lines_take l i hil
      have hlen : (linesL (l.take (i + 1))).length = sn + (nm.size + (2 + (va.size + 2))) := by
        rw [htk, List.length_append, HSn.out, hnm, hva, bl_size, bl_size]
        simp [lineL]
        omega
      obtain ⟨u1, u2, u3, u4⟩ := lsj1 (x := nm.size) (y := va.size) (s := sn) (t := 3 + ((linesL l).length + 2)) (by rw [← hlen]; omega) (Nat.le_refl _) HB.out
      have HNx : Hid (sv ++ (nm ++ strB [58, 32] ++ va ++ strB [13, 10]) = strB ([48, 13, 10] ++ linesL (l.take (i + 1)))) := Lib.hid (by
        rw [HSv.out, htk, hnm, hva, ← strB_bl l[i].nm, ← strB_bl l[i].va, strB_append, strB_append, strB_append, strB_append]
        simp [lineL])
      clear hi hil hc p0 p1 hd hnm hva hll htk hlen
      go_upto_region 5 with fail
      refine Mx.region [] (Sat [(⟨b, o + i * 2, none⟩, .string nm), (⟨b, o + i * 2 + 1, none⟩, .string va)]) (by kernel_rfl) (by kernel_rfl) HSat.out ?_
      repeat ((first | (refine Mx.skips (by kernel_rfl) ?_; go_big_quiet_skip) | (refine Mx.quietly rfl ?_; go_big_quiet_want; go_big_quiet_op; go_big_quiet_on)); refine Mx.done ?_)
      refine Mx.cell ⟨b, o + i * 2, none⟩ (.string nm) (by kernel_rfl) (by kernel_rfl) (by kernel_rfl) Tryz.isAgg9 (fun w' h => h 0 _ _ rfl) ?_
      go_big_quiet_want; go_big_quiet_op; go_big_quiet_on; refine Mx.done ?_
      repeat ((first | (refine Mx.skips (by kernel_rfl) ?_; go_big_quiet_skip) | (refine Mx.quietly rfl ?_; go_big_quiet_want; go_big_quiet_op; go_big_quiet_on)); refine Mx.done ?_)
      refine Mx.cell ⟨b, o + i * 2 + 1, none⟩ (.string va) (by kernel_rfl) (by kernel_rfl) (by kernel_rfl) Tryz.isAgg9 (fun w' h => h 1 _ _ rfl) ?_
      go_big_quiet_want; go_big_quiet_op; go_big_quiet_on; refine Mx.done ?_
      repeat ((first | (refine Mx.skips (by kernel_rfl) ?_; go_big_quiet_skip) | (refine Mx.quietly rfl ?_; go_big_quiet_want; go_big_quiet_op; go_big_quiet_on)); refine Mx.done ?_)
      refine Mx.nil ?_
      go_wp2_with fail
      go_roundw
      case rel => exact ⟨i + 1, by first | rfl | (push_cast; rfl), HI.out, congrArg Value.string HNx.out, HD.out⟩
      case measure => exact ssj3 HI.out
    · have z1 := ssj2 hin
      have hie : i = n := Nat.le_antisymm hi (Nat.le_of_not_lt hin)
      have u1 : ¬ 9223372036854775807 < 3 + sn + 2 := lsj2 (t := (linesL l).length) (by rw [HSn.out]; exact lines_le l i) (Nat.le_refl _) HB.out
      have HE : Hid (sv ++ strB [13, 10] = strB R) := Lib.hid (by
        rw [HSv.out, HR.out, hie, List.take_of_length_le (by rw [HN.out]; exact Nat.le_refl _), strB_append]
        simp [lastL])
      clear hi hin hie
      go_wp2
      go_ret
      exact ⟨congrArg (fun s => Ending.returned (Value.string s)) HE.out, HBw.out⟩
end Go.Proofs.YtfffefhchjnfjaaGreatDoor

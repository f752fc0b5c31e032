/- Bytes laid by a conversion from a text; hone.small, turnpikeref19.Small. No condition. -/
import Derived.Test.YtfffefhchjnfjaaGreatDoorNmLast
import Derived.Lib.ConvBytes
namespace Go.Proofs.YtfffefhchjnfjaaGreatDoor
open Go.RowKit

/-- bytes that a conversion from a text has laid at block g -/
def Bts (w : World) (g : Nat) (l : List UInt8) : Prop := ∃ C : Array Value, w.heap[g]? = some (.cells C 5 (C.size, C.size + 1)) ∧ l.length ≤ C.size ∧ C.toList.take l.length = bv l
theorem Bts.below {w w' : World} {g : Nat} {l : List UInt8} (h : Bts w g l) (hb : Below w.heap.size w w') : Bts w' g l := by
  obtain ⟨C, h1, h2, h3⟩ := h
  exact ⟨C, by rw [hb.block g (Array.getElem?_eq_some_iff.1 h1).1]; exact h1, h2, h3⟩
theorem Bts.cell {w : World} {g : Nat} {l : List UInt8} (h : Bts w g l) (j : Nat) (hj : j < l.length) : w.cell? ⟨g, j, none⟩ = some (.int .u8 (l[j].toNat : Int)) := by
  obtain ⟨C, h1, h2, h3⟩ := h
  have h4 : C[j]? = some (.int .u8 (l[j].toNat : Int)) := by
    rw [← bv_get l j hj, ← h3, List.getElem?_take, if_pos hj, Array.getElem?_toList]
  simp [World.cell?, h1, h4]
theorem Bts.free {w : World} {g : Nat} {l : List UInt8} (h : Bts w g l) (j : Nat) (hj : j < l.length) : w.frozen? ⟨g, j, none⟩ = false := by
  obtain ⟨C, h1, h2, h3⟩ := h
  simp [World.frozen?, h1]
  omega
theorem Bts.set {w : World} {g : Nat} {l : List UInt8} (h : Bts w g l) (j : Nat) (_ : j < l.length) (b : UInt8) : Bts (w.setCell ⟨g, j, none⟩ (.int .u8 (b.toNat : Int))) g (l.set j b) := by
  obtain ⟨C, h1, h2, h3⟩ := h
  refine ⟨C.setIfInBounds j (.int .u8 (b.toNat : Int)), by simp [World.setCell, Array.getElem?_modify, h1], by simpa using h2, ?_⟩
  simp only [List.length_set, Array.toList_setIfInBounds, List.take_set, h3]
  simp [bv, List.map_set]
theorem conv_bts (w : World) (s : ByteArray) : ∃ c w2, (convert 9 23 (.string s)).run Tryz.prog w = .ok (.slice (some ⟨w.heap.size, 0, none⟩) s.size c) w2 ∧ Bts w2 w.heap.size (bl s) ∧ Below w.heap.size w w2 := by
  have hr := Lib.run_convert_string_bytes (P := Tryz.prog) w 9 23 5 s Tryz.underlying9 Tryz.underlying23 Tryz.underlying5
  refine ⟨_, _, hr, ⟨_, Lib.bytesWorld_at_new w _ s, ?_, ?_⟩, ?_⟩
  · simp [Lib.bytesCells, bl]
  · simp only [Lib.bytesCells, Array.toList_append, Array.toList_map]
    rw [List.take_append_of_le_length (by simp [bl])]
    rw [List.take_of_length_le (by simp [bl])]
    rfl
  · refine ⟨rfl, ?_, rfl, ?_, fun j hj => Lib.bytesWorld_at_old w _ s j hj⟩
    · rfl
    · rw [Lib.bytesWorld_size]; omega
/-- one byte made small -/
def smallB (b : UInt8) : UInt8 := if 65 ≤ b.toNat ∧ b.toNat ≤ 90 then UInt8.ofNat (b.toNat + 32) else b
def smallL (l : List UInt8) : List UInt8 := l.map smallB
/-- the first i made small -/
def smP (i : Nat) (l : List UInt8) : List UInt8 := (l.take i).map smallB ++ l.drop i
theorem smP_len (i : Nat) (l : List UInt8) : (smP i l).length = l.length := by simp [smP]; omega
theorem smP_zero (l : List UInt8) : smP 0 l = l := by simp [smP]
theorem smP_all (l : List UInt8) : smP l.length l = smallL l := by simp [smP, smallL]
theorem smP_at (i : Nat) (l : List UInt8) (h : i < l.length) : (smP i l)[i]'(by rw [smP_len]; exact h) = l[i] := by
  simp only [smP]
  rw [List.getElem_append_right (by simp; omega)]
  simp [Nat.min_eq_left (Nat.le_of_lt h)]
theorem smP_set (i : Nat) (l : List UInt8) (h : i < l.length) : (smP i l).set i (smallB l[i]) = smP (i + 1) l := by
  simp only [smP]
  rw [List.set_append_right _ _ (by simp; omega), List.take_succ_eq_append_getElem h, List.map_append, List.append_assoc]
  congr 1
  rw [List.length_map, List.length_take, Nat.min_eq_left (Nat.le_of_lt h), Nat.sub_self]
  have e := List.drop_eq_getElem_cons h
  rw [e]
  rfl
theorem smP_same (i : Nat) (l : List UInt8) (h : i < l.length) (hb : smallB l[i] = l[i]) : smP (i + 1) l = smP i l := by
  rw [← smP_set i l h, hb]
  have h2 := smP_at i l h
  conv => lhs; rw [← h2]
  exact List.set_getElem_self _
theorem smb_in {b : UInt8} (h1 : 65 ≤ b.toNat) (h2 : b.toNat ≤ 90) : ((smallB b).toNat : Int) = (b.toNat : Int) + 32 := by
  unfold smallB
  rw [if_pos ⟨h1, h2⟩]
  simp []
  omega
theorem smb_out {b : UInt8} (h : ¬ (65 ≤ b.toNat ∧ b.toNat ≤ 90)) : smallB b = b := by unfold smallB; rw [if_neg h]
theorem smj1 {x : Int} (h1 : 65 ≤ x) (h2 : x ≤ 90) : IntKind.u8.wrap (x + 97) = x + 97 ∧ IntKind.u8.wrap (x + 97 - 65) = x + 32 ∧ IntKind.u8.wrap (x + 32) = x + 32 := by
  rw [IntKind.wrap_u8, IntKind.wrap_u8, IntKind.wrap_u8]; omega

set_option maxRecDepth 100000 in
theorem hsmall_any (w : World) (s : ByteArray) (hs : s.size ≤ 9223372036854775807) : Calls Tryz.prog 42 #[.string s] w (StrOf w (smallL (bl s))) := by
  obtain ⟨cp, w2, hcv, hbt, hb2⟩ := conv_bts w s
  obtain ⟨n, hn⟩ : ∃ n, n = s.size := ⟨_, rfl⟩
  rw [← hn] at hcv
  obtain ⟨g, hg⟩ : ∃ g, g = w.heap.size := ⟨_, rfl⟩
  rw [← hg] at hcv hbt
  have HBt := Lib.hid hbt
  have HB2 := Lib.hid hb2
  have HN : Hid (n = (bl s).length) := Lib.hid (by rw [hn]; exact bl_size s)
  have HNm : Hid (n ≤ 9223372036854775807) := Lib.hid (by rw [hn]; exact hs)
  have HG : Hid (w.heap.size ≤ g) := Lib.hid (by rw [hg]; exact Nat.le_refl _)
  obtain ⟨L, hL⟩ : ∃ L, L = bl s := ⟨_, rfl⟩
  rw [← hL] at HBt HN ⊢
  clear hbt hb2 hn hs hL hg
  go_enter Tryz.func42, Tryz.ntmps42
  go_wp2_with fail
  clear hcv
  go_loopw [10] (fun v wr => ∃ i : Nat, v = .int .i64 (i : Int) ∧ i ≤ n ∧ Bts wr g (smP i L) ∧ Below w.heap.size w wr) (fun v _ => n - (intOf v).toNat)
  case atStart => exact ⟨0, rfl, Nat.zero_le _, by rw [smP_zero]; exact HBt.out, HB2.out⟩
  case round =>
    obtain ⟨i, rfl, hi, hb, hbw⟩ := hrel
    have HBr := Lib.hid hb
    have HBw := Lib.hid hbw
    clear hb hbw
    by_cases hin : i < n
    · have HI := Lib.hid hin
      obtain ⟨z1, z2, z3⟩ := ssj1 hin HNm.out
      have hil : i < L.length := by rw [← HN.out]; exact hin
      have c0 := HBr.out.cell i (by rw [smP_len]; exact hil)
      have f0 := HBr.out.free i (by rw [smP_len]; exact hil)
      rw [smP_at i L hil] at c0
      obtain ⟨b, hbb⟩ : ∃ b, b = L[i] := ⟨_, rfl⟩
      obtain ⟨x, hx⟩ : ∃ x : Int, x = (b.toNat : Int) := ⟨_, rfl⟩
      rw [← hbb, ← hx] at c0
      have HIl := Lib.hid hil
      have HS : Hid ((smP i L).set i (smallB b) = smP (i + 1) L ∧ (smallB b = b → smP (i + 1) L = smP i L)) := Lib.hid ⟨by rw [hbb]; exact smP_set i L hil, fun h => smP_same i L hil (by rw [← hbb]; exact h)⟩
      have HX := Lib.hid hx
      have hx0 : 0 ≤ x := by omega
      clear hi hin hil hbb hx
      by_cases h1 : 65 ≤ x
      · by_cases h2 : x ≤ 90
        · obtain ⟨y1, y2, y3⟩ := smj1 h1 h2
          have HV : Hid (((smallB b).toNat : Int) = x + 32) := Lib.hid (by rw [smb_in (by have := HX.out; omega) (by have := HX.out; omega), HX.out])
          go_wp2_with fail
          go_roundw
          case rel =>
            refine ⟨i + 1, by first | rfl | (push_cast; rfl), HI.out, ?_, HBw.out.setCell (p := ⟨g, i, none⟩) HG.out _⟩
            rw [← HS.out.1, ← HV.out]
            exact HBr.out.set i (by rw [smP_len]; exact HIl.out) (smallB b)
          case measure => exact ssj3 HI.out
        · have HSm : Hid (smP (i + 1) L = smP i L) := Lib.hid (HS.out.2 (smb_out (by have := HX.out; omega)))
          go_wp2_with fail
          go_roundw
          case rel => exact ⟨i + 1, by first | rfl | (push_cast; rfl), HI.out, by rw [HSm.out]; exact HBr.out, HBw.out⟩
          case measure => exact ssj3 HI.out
      · have HSm : Hid (smP (i + 1) L = smP i L) := Lib.hid (HS.out.2 (smb_out (by have := HX.out; omega)))
        go_wp2_with fail
        go_roundw
        case rel => exact ⟨i + 1, by first | rfl | (push_cast; rfl), HI.out, by rw [HSm.out]; exact HBr.out, HBw.out⟩
        case measure => exact ssj3 HI.out
    · have z1 := ssj2 hin
      have hie : i = n := Nat.le_antisymm hi (Nat.le_of_not_lt hin)
      have HE : Hid (smP i L = smallL L) := Lib.hid (by rw [hie, HN.out]; exact smP_all L)
      have hbk := run_convert_bytes_back (P := Tryz.prog) wr 23 9 5 ⟨g, 0, none⟩ cp (smallL L) Tryz.underlying23 Tryz.underlying5 Tryz.underlying9 (fun j hj => by
        have h := HBr.out
        rw [HE.out] at h
        rw [addr_add, Nat.zero_add]
        exact h.cell j hj)
      rw [show (smallL L).length = n by rw [HN.out]; simp [smallL]] at hbk
      clear hi hin hie
      go_wp2
      go_ret
      exact ⟨rfl, HBw.out⟩
end Go.Proofs.YtfffefhchjnfjaaGreatDoor

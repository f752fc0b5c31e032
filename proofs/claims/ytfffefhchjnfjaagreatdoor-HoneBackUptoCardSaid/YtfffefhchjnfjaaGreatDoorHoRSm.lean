/- turnpikeref19.Small. No condition. -/
import Derived.Test.YtfffefhchjnfjaaGreatDoorHoTrim
namespace Go.Proofs.YtfffefhchjnfjaaGreatDoor
open Go.RowKit

set_option maxRecDepth 100000 in
theorem rsmall_any (w : World) (s : ByteArray) (hs : s.size ≤ 9223372036854775807) : Calls Tryz.prog 25 #[.string s] w (StrOf w (smallL (bl s))) := by
  obtain ⟨cp, w2, hcv, hbt, hb2⟩ := conv_bts w s
  obtain ⟨n, hn⟩ : ∃ n, n = s.size := ⟨_, rfl⟩
  rw [← hn] at hcv
  obtain ⟨g, hg⟩ : ∃ g, g = w.heap.size := ⟨_, rfl⟩
  rw [← hg] at hcv hbt
  have HBt := Lib.hid hbt
  have HB2 := Lib.hid hb2
  have HN : Hid (n = (bl s).length) := Lib.hid (by rw [hn]; exact bl_size s)
  have HNm : Hid (n ≤ 9223372036854775807) := Lib.hid (by rw [hn]; exact hs)
  have HG : Hid (w.heap.size ≤ g) := Lib.hid (by rw [hg]; exact Nat.le_refl _)
  obtain ⟨L, hL⟩ : ∃ L, L = bl s := ⟨_, rfl⟩
  rw [← hL] at HBt HN ⊢
  clear hbt hb2 hn hs hL hg
  go_enter Tryz.func25, Tryz.ntmps25
  go_wp2_with fail
  clear hcv
  go_loopw [4] (fun v wr => ∃ i : Nat, v = .int .i64 (i : Int) ∧ i ≤ n ∧ Bts wr g (smP i L) ∧ Below w.heap.size w wr) (fun v _ => n - (intOf v).toNat)
  case atStart => exact ⟨0, rfl, Nat.zero_le _, by rw [smP_zero]; exact HBt.out, HB2.out⟩
  case round =>
    obtain ⟨i, rfl, hi, hb, hbw⟩ := hrel
    have HBr := Lib.hid hb
    have HBw := Lib.hid hbw
    clear hb hbw
    by_cases hin : i < n
    · have HI := Lib.hid hin
      obtain ⟨z1, z2, z3⟩ := ssj1 hin HNm.out
      have hil : i < L.length := by rw [← HN.out]; exact hin
      have c0 := HBr.out.cell i (by rw [smP_len]; exact hil)
      have f0 := HBr.out.free i (by rw [smP_len]; exact hil)
      rw [smP_at i L hil] at c0
      obtain ⟨b, hbb⟩ : ∃ b, b = L[i] := ⟨_, rfl⟩
      obtain ⟨x, hx⟩ : ∃ x : Int, x = (b.toNat : Int) := ⟨_, rfl⟩
      rw [← hbb, ← hx] at c0
      have HIl := Lib.hid hil
      have HS : Hid ((smP i L).set i (smallB b) = smP (i + 1) L ∧ (smallB b = b → smP (i + 1) L = smP i L)) := Lib.hid ⟨by rw [hbb]; exact smP_set i L hil, fun h => smP_same i L hil (by rw [← hbb]; exact h)⟩
      have HX := Lib.hid hx
      have hx0 : 0 ≤ x := by omega
      clear hi hin hil hbb hx
      by_cases h1 : 65 ≤ x
      · by_cases h2 : x ≤ 90
        · obtain ⟨y1, y2, y3⟩ := smj1 h1 h2
          have HV : Hid (((smallB b).toNat : Int) = x + 32) := Lib.hid (by rw [smb_in (by have := HX.out; omega) (by have := HX.out; omega), HX.out])
          go_wp2_with fail
          go_roundw
          case rel =>
            refine ⟨i + 1, by first | rfl | (push_cast; rfl), HI.out, ?_, HBw.out.setCell (p := ⟨g, i, none⟩) HG.out _⟩
            rw [← HS.out.1, ← HV.out]
            exact HBr.out.set i (by rw [smP_len]; exact HIl.out) (smallB b)
          case measure => exact ssj3 HI.out
        · have HSm : Hid (smP (i + 1) L = smP i L) := Lib.hid (HS.out.2 (smb_out (by have := HX.out; omega)))
          go_wp2_with fail
          go_roundw
          case rel => exact ⟨i + 1, by first | rfl | (push_cast; rfl), HI.out, by rw [HSm.out]; exact HBr.out, HBw.out⟩
          case measure => exact ssj3 HI.out
      · have HSm : Hid (smP (i + 1) L = smP i L) := Lib.hid (HS.out.2 (smb_out (by have := HX.out; omega)))
        go_wp2_with fail
        go_roundw
        case rel => exact ⟨i + 1, by first | rfl | (push_cast; rfl), HI.out, by rw [HSm.out]; exact HBr.out, HBw.out⟩
        case measure => exact ssj3 HI.out
    · have z1 := ssj2 hin
      have hie : i = n := Nat.le_antisymm hi (Nat.le_of_not_lt hin)
      have HE : Hid (smP i L = smallL L) := Lib.hid (by rw [hie, HN.out]; exact smP_all L)
      have hbk := run_convert_bytes_back (P := Tryz.prog) wr 23 9 5 ⟨g, 0, none⟩ cp (smallL L) Tryz.underlying23 Tryz.underlying5 Tryz.underlying9 (fun j hj => by
        have h := HBr.out
        rw [HE.out] at h
        rw [addr_add, Nat.zero_add]
        exact h.cell j hj)
      rw [show (smallL L).length = n by rw [HN.out]; simp [smallL]] at hbk
      clear hi hin hie
      go_wp2
      go_ret
      exact ⟨rfl, HBw.out⟩

theorem trj1 (n : Nat) (h : n + 1 ≤ 9223372036854775807) : RowKit.wrap64 (n : Int) = (n : Int) ∧ (0 : Int) ≤ (n : Int) ∧ (n : Int) ≤ ((n + 1 : Nat) : Int) ∧ (0 : Int) < ((n + 1 : Nat) : Int) ∧ (1 : Int) ≤ ((n + 1 : Nat) : Int) ∧ (n : Int) < ((n + 1 : Nat) : Int) := by
  unfold RowKit.wrap64; omega
theorem strB_tail (b : UInt8) (r : List UInt8) : (strB (b :: r)).extract 1 (r.length + 1) = strB r := by
  apply ByteArray.ext
  simp [strB, ByteArray.data_extract]
theorem strB_init (b : UInt8) (r : List UInt8) : (strB (r ++ [b])).extract 0 r.length = strB r := by
  apply ByteArray.ext
  simp [strB, ByteArray.data_extract]
theorem wsF {b : UInt8} (h : ¬ ws b = true) : ((b.toNat : Int) == 32) = false ∧ ((b.toNat : Int) == 9) = false := by
  simp only [ws, Bool.or_eq_true, beq_iff_eq, not_or] at h
  have h1 : b.toNat ≠ 32 := fun e => h.1 (UInt8.toNat_inj.1 e)
  have h2 : b.toNat ≠ 9 := fun e => h.2 (UInt8.toNat_inj.1 e)
  refine ⟨?_, ?_⟩ <;> (simp only [beq_eq_false_iff_ne]; omega)
theorem wsT {b : UInt8} (h : ws b = true) : (b.toNat : Int) = 32 ∨ (b.toNat : Int) = 9 := by
  simp only [ws, Bool.or_eq_true, beq_iff_eq] at h
  rcases h with rfl | rfl
  · exact .inl rfl
  · exact .inr rfl
def szOf (v : Value) : Nat := match v with | .string s => s.size | _ => 0
theorem szOf_strB (l : List UInt8) : szOf (.string (strB l)) = l.length := strB_size l
theorem idxLast (w : World) (r : List UInt8) (b : UInt8) (n : Nat) (hn : r.length = n) : (Instr.index 9 (.string (strB (r ++ [b]))) (.int .i64 (n : Int))).run Tryz.prog w = .ok (.int .u8 (b.toNat : Int)) w := by
  have h := idxS w (r ++ [b]) n (by simp; omega)
  rw [h]
  subst hn
  simp
theorem rdrop_snoc (r : List UInt8) (b : UInt8) (h : ws b = true) : ((r ++ [b]).reverse.dropWhile ws).reverse = (r.reverse.dropWhile ws).reverse := by
  simp [h]
theorem rdrop_stay (r : List UInt8) (b : UInt8) (h : ¬ ws b = true) : ((r ++ [b]).reverse.dropWhile ws).reverse = r ++ [b] := by
  simp [h]
end Go.Proofs.YtfffefhchjnfjaaGreatDoor

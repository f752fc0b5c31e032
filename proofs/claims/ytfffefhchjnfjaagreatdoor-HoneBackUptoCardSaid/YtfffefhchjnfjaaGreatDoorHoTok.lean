/- turnpikeref18's alnum, in, Token, Value. Condition: the text's size. Turned from XChk1. -/
import Derived.Test.YtfffefhchjnfjaaGreatDoorHoRSm
namespace Go.Proofs.YtfffefhchjnfjaaGreatDoor
open Go.RowKit

theorem eqT {s : ByteArray} {l : List UInt8} (h : bl s = l) : (s.toList == l) = true := by
  rw [beq_iff_eq, ByteArray.toList_eq]; exact h
theorem eqF {s : ByteArray} {l : List UInt8} (h : ¬ bl s = l) : (s.toList == l) = false := by
  rw [beq_eq_false_iff_ne, ByteArray.toList_eq]; exact h
theorem eqT2 {s : ByteArray} {l : List UInt8} (h : bl s = l) : (s.toList == l) = true ∧ (s.toList = l) = True := ⟨eqT h, eq_true (beq_iff_eq.1 (eqT h))⟩
theorem eqF2 {s : ByteArray} {l : List UInt8} (h : ¬ bl s = l) : (s.toList == l) = false ∧ (s.toList = l) = False := ⟨eqF h, eq_false (fun e => absurd (eqF h) (by rw [e]; simp))⟩
def alnumB (b : UInt8) : Bool := (decide (97 ≤ b.toNat) && decide (b.toNat ≤ 122)) || (decide (65 ≤ b.toNat) && decide (b.toNat ≤ 90)) || (decide (48 ≤ b.toNat) && decide (b.toNat ≤ 57))
def Ret (w : World) (v : Value) (e : Ending) (w' : World) : Prop := e = .returned v ∧ w' = w
theorem all_stop {p : UInt8 → Bool} {l : List UInt8} {i : Nat} (h : i < l.length) (hp : p l[i] = false) : l.all p = false := by
  rw [List.all_eq_false]
  exact ⟨l[i], List.getElem_mem _, by rw [hp]; decide⟩
theorem all_on {p : UInt8 → Bool} {l : List UInt8} {i : Nat} (h : i < l.length) (ha : (l.take i).all p = true) (hp : p l[i] = true) : (l.take (i + 1)).all p = true := by
  rw [List.take_succ_eq_append_getElem h, List.all_append, ha]
  simp [hp]
theorem all_end {p : UInt8 → Bool} {l : List UInt8} {i : Nat} (h : l.length ≤ i) (ha : (l.take i).all p = true) : l.all p = true := by
  rwa [List.take_of_length_le h] at ha
theorem bl_strB' (l : List UInt8) : bl (strB l) = l := strB_toList l
theorem neqs {x c : Int} (h : (x == c) = false) : (x != c) = true ∧ ¬ x = c := ⟨by rw [bne, h]; rfl, by rwa [beq_eq_false_iff_ne] at h⟩
theorem u8F {b : UInt8} {k : Nat} (h : b.toNat ≠ k) : ((b.toNat : Int) == (k : Int)) = false := by rw [beq_eq_false_iff_ne]; omega
set_option maxRecDepth 100000 in
theorem alnum_any (w : World) (b : UInt8) : Calls Tryz.prog 30 #[.int .u8 (b.toNat : Int)] w (Ret w (.bool (alnumB b))) := by
  obtain ⟨x, hx⟩ : ∃ x : Int, x = (b.toNat : Int) := ⟨_, rfl⟩
  obtain ⟨R, hR⟩ : ∃ R, R = alnumB b := ⟨_, rfl⟩
  rw [← hx, ← hR]
  rcases (by omega : (x ≤ 47) ∨ (48 ≤ x ∧ x ≤ 57) ∨ (58 ≤ x ∧ x ≤ 64) ∨ (65 ≤ x ∧ x ≤ 90) ∨ (91 ≤ x ∧ x ≤ 96) ∨ (97 ≤ x ∧ x ≤ 122) ∨ (123 ≤ x)) with hc | hc | hc | hc | hc | hc | hc
  · obtain rfl : R = false := by rw [hR]; unfold alnumB; simp; omega
    have y0 : ((97 : Int) ≤ x) = False := eq_false (by omega)
    have y1 : (x ≤ (122 : Int)) = True := eq_true (by omega)
    have y2 : ((65 : Int) ≤ x) = False := eq_false (by omega)
    have y3 : (x ≤ (90 : Int)) = True := eq_true (by omega)
    have y4 : ((48 : Int) ≤ x) = False := eq_false (by omega)
    have y5 : (x ≤ (57 : Int)) = True := eq_true (by omega)
    clear hc hx hR
    go_enter Tryz.func30, Tryz.ntmps30
    go_wp2
    go_ret
    exact ⟨rfl, rfl⟩
  · obtain rfl : R = true := by rw [hR]; unfold alnumB; simp; omega
    have y0 : ((97 : Int) ≤ x) = False := eq_false (by omega)
    have y1 : (x ≤ (122 : Int)) = True := eq_true (by omega)
    have y2 : ((65 : Int) ≤ x) = False := eq_false (by omega)
    have y3 : (x ≤ (90 : Int)) = True := eq_true (by omega)
    have y4 : ((48 : Int) ≤ x) = True := eq_true (by omega)
    have y5 : (x ≤ (57 : Int)) = True := eq_true (by omega)
    clear hc hx hR
    go_enter Tryz.func30, Tryz.ntmps30
    go_wp2
    go_ret
    exact ⟨rfl, rfl⟩
  · obtain rfl : R = false := by rw [hR]; unfold alnumB; simp; omega
    have y0 : ((97 : Int) ≤ x) = False := eq_false (by omega)
    have y1 : (x ≤ (122 : Int)) = True := eq_true (by omega)
    have y2 : ((65 : Int) ≤ x) = False := eq_false (by omega)
    have y3 : (x ≤ (90 : Int)) = True := eq_true (by omega)
    have y4 : ((48 : Int) ≤ x) = True := eq_true (by omega)
    have y5 : (x ≤ (57 : Int)) = False := eq_false (by omega)
    clear hc hx hR
    go_enter Tryz.func30, Tryz.ntmps30
    go_wp2
    go_ret
    exact ⟨rfl, rfl⟩
  · obtain rfl : R = true := by rw [hR]; unfold alnumB; simp; omega
    have y0 : ((97 : Int) ≤ x) = False := eq_false (by omega)
    have y1 : (x ≤ (122 : Int)) = True := eq_true (by omega)
    have y2 : ((65 : Int) ≤ x) = True := eq_true (by omega)
    have y3 : (x ≤ (90 : Int)) = True := eq_true (by omega)
    have y4 : ((48 : Int) ≤ x) = True := eq_true (by omega)
    have y5 : (x ≤ (57 : Int)) = False := eq_false (by omega)
    clear hc hx hR
    go_enter Tryz.func30, Tryz.ntmps30
    go_wp2
    go_ret
    exact ⟨rfl, rfl⟩
  · obtain rfl : R = false := by rw [hR]; unfold alnumB; simp; omega
    have y0 : ((97 : Int) ≤ x) = False := eq_false (by omega)
    have y1 : (x ≤ (122 : Int)) = True := eq_true (by omega)
    have y2 : ((65 : Int) ≤ x) = True := eq_true (by omega)
    have y3 : (x ≤ (90 : Int)) = False := eq_false (by omega)
    have y4 : ((48 : Int) ≤ x) = True := eq_true (by omega)
    have y5 : (x ≤ (57 : Int)) = False := eq_false (by omega)
    clear hc hx hR
    go_enter Tryz.func30, Tryz.ntmps30
    go_wp2
    go_ret
    exact ⟨rfl, rfl⟩
  · obtain rfl : R = true := by rw [hR]; unfold alnumB; simp; omega
    have y0 : ((97 : Int) ≤ x) = True := eq_true (by omega)
    have y1 : (x ≤ (122 : Int)) = True := eq_true (by omega)
    have y2 : ((65 : Int) ≤ x) = True := eq_true (by omega)
    have y3 : (x ≤ (90 : Int)) = False := eq_false (by omega)
    have y4 : ((48 : Int) ≤ x) = True := eq_true (by omega)
    have y5 : (x ≤ (57 : Int)) = False := eq_false (by omega)
    clear hc hx hR
    go_enter Tryz.func30, Tryz.ntmps30
    go_wp2
    go_ret
    exact ⟨rfl, rfl⟩
  · obtain rfl : R = false := by rw [hR]; unfold alnumB; simp; omega
    have y0 : ((97 : Int) ≤ x) = True := eq_true (by omega)
    have y1 : (x ≤ (122 : Int)) = False := eq_false (by omega)
    have y2 : ((65 : Int) ≤ x) = True := eq_true (by omega)
    have y3 : (x ≤ (90 : Int)) = False := eq_false (by omega)
    have y4 : ((48 : Int) ≤ x) = True := eq_true (by omega)
    have y5 : (x ≤ (57 : Int)) = False := eq_false (by omega)
    clear hc hx hR
    go_enter Tryz.func30, Tryz.ntmps30
    go_wp2
    go_ret
    exact ⟨rfl, rfl⟩
set_option maxRecDepth 100000 in
theorem chin_any (w : World) (l : List UInt8) (hn : l.length ≤ 1099511627776) (c : UInt8) : Calls Tryz.prog 31 #[.string (strB l), .int .u8 (c.toNat : Int)] w (Ret w (.bool (decide (c ∈ l)))) := by
  obtain ⟨n, hl⟩ : ∃ n, n = l.length := ⟨_, rfl⟩
  have hsz : (strB l).size = n := by rw [strB_size, hl]
  have HN : Hid (n ≤ 9223372036854775807) := Lib.hid (by rw [hl]; exact Nat.le_trans hn (by decide))
  have HL := Lib.hid hl
  obtain ⟨R, hR⟩ : ∃ R, R = decide (c ∈ l) := ⟨_, rfl⟩
  rw [← hR]
  have HR := Lib.hid hR
  clear hR hl hn
  go_enter Tryz.func31, Tryz.ntmps31
  go_wp2_with fail
  go_loopw [5] (fun v wr => ∃ i : Nat, v = .int .i64 (i : Int) ∧ i ≤ n ∧ Hid (∀ b ∈ l.take i, ¬ b = c) ∧ wr = w) (fun v _ => n - (intOf v).toNat)
  case atStart => exact ⟨0, rfl, Nat.zero_le _, Lib.hid (by simp), rfl⟩
  case round =>
    obtain ⟨i, rfl, hi, HNo, rfl⟩ := hrel
    by_cases hin : i < n
    · have HI := Lib.hid hin
      obtain ⟨z1, z2, z3⟩ := ssj1 hin HN.out
      have hil : i < l.length := by rw [← HL.out]; exact hin
      have ix := idxS wr l i hil
      have HTk : Hid (l.take (i + 1) = l.take i ++ [l[i]]) := Lib.hid (List.take_succ_eq_append_getElem hil)
      have HPm : Hid (l[i] ∈ l) := Lib.hid (List.getElem_mem _)
      obtain ⟨b, hb⟩ : ∃ b, b = l[i] := ⟨_, rfl⟩
      rw [← hb] at ix HTk HPm
      clear hi hin hil hb
      by_cases hbc : b = c
      · obtain rfl : R = true := by rw [HR.out, ← hbc]; exact decide_eq_true HPm.out
        subst b
        clear HNo HTk
        go_wp2
        go_ret
        exact ⟨rfl, rfl⟩
      · have y1 : (((b.toNat : Nat) : Int) == ((c.toNat : Nat) : Int)) = false := u8F (fun e => hbc (UInt8.toNat_inj.1 e))
        have HNo2 : Hid (∀ b ∈ l.take (i + 1), ¬ b = c) := Lib.hid (fun q hq => by
          rw [HTk.out] at hq
          rcases List.mem_append.1 hq with hq | hq
          · exact HNo.out q hq
          · simp at hq; subst hq; exact hbc)
        clear hbc
        go_wp2_with fail
        go_roundw
        case rel => exact ⟨i + 1, by first | rfl | (push_cast; rfl), HI.out, HNo2, by trivial⟩
        case measure => exact ssj3 HI.out
    · have z1 := ssj2 hin
      obtain rfl : R = false := by
        rw [HR.out]
        refine decide_eq_false fun hm => ?_
        have e : l.take i = l := List.take_of_length_le (by rw [← HL.out]; exact Nat.le_of_not_lt hin)
        exact HNo.out c (by rw [e]; exact hm) rfl
      clear hi hin
      go_wp2
      go_ret
      exact ⟨rfl, rfl⟩
def tokS : List UInt8 := [33, 35, 36, 37, 38, 39, 42, 43, 45, 46, 94, 95, 124, 126]
def tokC (b : UInt8) : Bool := alnumB b || decide (b ∈ tokS) || decide (b.toNat = 96)
set_option maxRecDepth 100000 in
set_option maxHeartbeats 4000000 in
theorem token_any (w : World) (l : List UInt8) (hn : l.length ≤ 1099511627776) : Calls Tryz.prog 26 #[.string (strB l)] w (Ret w (.bool (l.all tokC && !l.isEmpty))) := by
  obtain ⟨n, hl⟩ : ∃ n, n = l.length := ⟨_, rfl⟩
  have hsz : (strB l).size = n := by rw [strB_size, hl]
  have HN : Hid (n ≤ 9223372036854775807) := Lib.hid (by rw [hl]; exact Nat.le_trans hn (by decide))
  have HN2 := Lib.hid hn
  have HL := Lib.hid hl
  obtain ⟨R, hR⟩ : ∃ R, R = (l.all tokC && !l.isEmpty) := ⟨_, rfl⟩
  rw [← hR]
  have HR := Lib.hid hR
  clear hR hl hn
  go_enter Tryz.func26, Tryz.ntmps26
  go_wp2_with fail
  go_loopw [3] (fun v wr => ∃ i : Nat, v = .int .i64 (i : Int) ∧ i ≤ n ∧ Hid ((l.take i).all tokC = true) ∧ wr = w) (fun v _ => n - (intOf v).toNat)
  case atStart => exact ⟨0, rfl, Nat.zero_le _, Lib.hid rfl, rfl⟩
  case round =>
    obtain ⟨i, rfl, hi, HA, rfl⟩ := hrel
    by_cases hin : i < n
    · have HI := Lib.hid hin
      obtain ⟨z1, z2, z3⟩ := ssj1 hin HN.out
      have hil : i < l.length := by rw [← HL.out]; exact hin
      have ix := idxS wr l i hil
      have HOn : Hid (tokC l[i] = true → (l.take (i + 1)).all tokC = true) := Lib.hid (all_on hil HA.out)
      have HSt : Hid (tokC l[i] = false → l.all tokC = false) := Lib.hid (all_stop hil)
      obtain ⟨b, hb⟩ : ∃ b, b = l[i] := ⟨_, rfl⟩
      rw [← hb] at ix HOn HSt
      obtain ⟨x, hx⟩ : ∃ x : Int, x = (b.toNat : Int) := ⟨_, rfl⟩
      have hxn : x ≤ 255 := by rw [hx]; have := b.toNat_lt; omega
      clear hi hin hil hb HA
      have HAl := Lib.hid (alnum_any wr b)
      have HIn := Lib.hid (chin_any wr tokS (by decide) b)
      clear hx hxn
      by_cases h1 : alnumB b = true
      · rw [h1] at HAl
        have HOn2 : Hid ((l.take (i + 1)).all tokC = true) := Lib.hid (HOn.out (by simp [tokC, h1]))
        clear h1
        go_wp2_with fail
        refine HAl.out.mono ?_
        rintro e w2 ⟨rfl, rfl⟩
        go_wp2_with fail
        go_roundw
        case rel => exact ⟨i + 1, by first | rfl | (push_cast; rfl), HI.out, HOn2, by trivial⟩
        case measure => exact ssj3 HI.out
      · rw [Bool.not_eq_true] at h1
        rw [h1] at HAl
        by_cases h2 : b ∈ tokS
        · rw [decide_eq_true h2] at HIn
          have HOn2 : Hid ((l.take (i + 1)).all tokC = true) := Lib.hid (HOn.out (by simp [tokC, h1, h2]))
          clear h1 h2
          go_wp2_with fail
          refine HAl.out.mono ?_
          rintro e w2 ⟨rfl, rfl⟩
          go_wp2_with fail
          refine HIn.out.mono ?_
          rintro e w2 ⟨rfl, rfl⟩
          go_wp2_with fail
          go_roundw
          case rel => exact ⟨i + 1, by first | rfl | (push_cast; rfl), HI.out, HOn2, by trivial⟩
          case measure => exact ssj3 HI.out
        · rw [decide_eq_false h2] at HIn
          by_cases h3 : b.toNat = 96
          · have y1 : (((b.toNat : Nat) : Int) == 96) = true := by rw [beq_iff_eq]; omega
            have HOn2 : Hid ((l.take (i + 1)).all tokC = true) := Lib.hid (HOn.out (by simp [tokC, h1, h2, h3]))
            clear h1 h2 h3
            go_wp2_with fail
            refine HAl.out.mono ?_
            rintro e w2 ⟨rfl, rfl⟩
            go_wp2_with fail
            refine HIn.out.mono ?_
            rintro e w2 ⟨rfl, rfl⟩
            go_wp2_with fail
            go_roundw
            case rel => exact ⟨i + 1, by first | rfl | (push_cast; rfl), HI.out, HOn2, by trivial⟩
            case measure => exact ssj3 HI.out
          · have y1 : (((b.toNat : Nat) : Int) == 96) = false := u8F h3
            obtain rfl : R = false := by rw [HR.out, HSt.out (by simp [tokC, h1, h2, h3])]; rfl
            clear h1 h2 h3
            go_wp2_with fail
            refine HAl.out.mono ?_
            rintro e w2 ⟨rfl, rfl⟩
            go_wp2_with fail
            refine HIn.out.mono ?_
            rintro e w2 ⟨rfl, rfl⟩
            go_wp2
            go_ret
            exact ⟨rfl, rfl⟩
    · have z1 := ssj2 hin
      have HAll : Hid (l.all tokC = true) := Lib.hid (all_end (by rw [← HL.out]; exact Nat.le_of_not_lt hin) HA.out)
      clear hi hin HA
      obtain rfl : R = decide (0 < n) := by rw [HR.out, HAll.out, HL.out]; cases l <;> simp
      go_wp2
      go_ret
      exact ⟨rfl, rfl⟩
def valC (b : UInt8) : Bool := !((decide (b.toNat < 32) && !decide (b.toNat = 9)) || decide (b.toNat = 127))
def valE : List UInt8 → Bool
  | [] => true
  | b :: r => !ws b && !ws ((b :: r).getLast (by simp))
set_option maxRecDepth 100000 in
set_option maxHeartbeats 4000000 in
theorem value_any (w : World) (l : List UInt8) (hn : l.length ≤ 1099511627776) : Calls Tryz.prog 27 #[.string (strB l)] w (Ret w (.bool (l.all valC && valE l))) := by
  obtain ⟨n, hl⟩ : ∃ n, n = l.length := ⟨_, rfl⟩
  have hsz : (strB l).size = n := by rw [strB_size, hl]
  have HN : Hid (n ≤ 9223372036854775807) := Lib.hid (by rw [hl]; exact Nat.le_trans hn (by decide))
  have HN2 := Lib.hid hn
  have HL := Lib.hid hl
  obtain ⟨R, hR⟩ : ∃ R, R = (l.all valC && valE l) := ⟨_, rfl⟩
  rw [← hR]
  have HR := Lib.hid hR
  clear hR hl hn
  go_enter Tryz.func27, Tryz.ntmps27
  go_wp2_with fail
  go_loopw [3] (fun v wr => ∃ i : Nat, v = .int .i64 (i : Int) ∧ i ≤ n ∧ Hid ((l.take i).all valC = true) ∧ wr = w) (fun v _ => n - (intOf v).toNat)
  case atStart => exact ⟨0, rfl, Nat.zero_le _, Lib.hid rfl, rfl⟩
  case round =>
    obtain ⟨i, rfl, hi, HA, rfl⟩ := hrel
    by_cases hin : i < n
    · have HI := Lib.hid hin
      obtain ⟨z1, z2, z3⟩ := ssj1 hin HN.out
      have hil : i < l.length := by rw [← HL.out]; exact hin
      have ix := idxS wr l i hil
      have HOn : Hid (valC l[i] = true → (l.take (i + 1)).all valC = true) := Lib.hid (all_on hil HA.out)
      have HSt : Hid (valC l[i] = false → l.all valC = false) := Lib.hid (all_stop hil)
      obtain ⟨b, hb⟩ : ∃ b, b = l[i] := ⟨_, rfl⟩
      rw [← hb] at ix HOn HSt
      obtain ⟨x, hx⟩ : ∃ x : Int, x = (b.toNat : Int) := ⟨_, rfl⟩
      have hxn : x ≤ 255 := by rw [hx]; have := b.toNat_lt; omega
      rw [← hx] at ix
      clear hi hin hil hb HA
      rcases (by omega : (x ≤ 8) ∨ (9 ≤ x ∧ x ≤ 9) ∨ (10 ≤ x ∧ x ≤ 31) ∨ (32 ≤ x ∧ x ≤ 126) ∨ (127 ≤ x ∧ x ≤ 127) ∨ (128 ≤ x)) with hc | hc | hc | hc | hc | hc
      · have hz := hc
        have y0 : (x < (32 : Int)) = True := eq_true (by omega)
        have y1 : (x == (9 : Int)) = false := by rw [beq_eq_false_iff_ne]; omega
        have y2 : (x == (127 : Int)) = false := by rw [beq_eq_false_iff_ne]; omega
        have yn1 : (x != (9 : Int)) = true := by rw [bne, (by rw [beq_eq_false_iff_ne]; omega : (x == (9 : Int)) = false)]; rfl
        have yi1 : ¬ x = (9 : Int) := by omega
        have yn2 : (x != (127 : Int)) = true := by rw [bne, (by rw [beq_eq_false_iff_ne]; omega : (x == (127 : Int)) = false)]; rfl
        have yi2 : ¬ x = (127 : Int) := by omega
        obtain rfl : R = false := by rw [HR.out, HSt.out (by simp [valC]; omega)]; rfl
        clear hx
        clear hc hz hxn
        go_wp2
        go_ret
        exact ⟨rfl, rfl⟩
      · have hz := hc
        have y0 : (x < (32 : Int)) = True := eq_true (by omega)
        have y1 : (x == (9 : Int)) = true := by rw [beq_iff_eq]; omega
        have y2 : (x == (127 : Int)) = false := by rw [beq_eq_false_iff_ne]; omega
        have yn1 : (x != (9 : Int)) = false := by rw [bne, (by rw [beq_iff_eq]; omega : (x == (9 : Int)) = true)]; rfl
        have yn2 : (x != (127 : Int)) = true := by rw [bne, (by rw [beq_eq_false_iff_ne]; omega : (x == (127 : Int)) = false)]; rfl
        have yi2 : ¬ x = (127 : Int) := by omega
        have HOn2 : Hid ((l.take (i + 1)).all valC = true) := Lib.hid (HOn.out (by simp [valC]; omega))
        clear hx
        clear hc hz hxn
        go_wp2_with fail
        go_roundw
        case rel => exact ⟨i + 1, by first | rfl | (push_cast; rfl), HI.out, HOn2, by trivial⟩
        case measure => exact ssj3 HI.out
      · have hz := hc
        have y0 : (x < (32 : Int)) = True := eq_true (by omega)
        have y1 : (x == (9 : Int)) = false := by rw [beq_eq_false_iff_ne]; omega
        have y2 : (x == (127 : Int)) = false := by rw [beq_eq_false_iff_ne]; omega
        have yn1 : (x != (9 : Int)) = true := by rw [bne, (by rw [beq_eq_false_iff_ne]; omega : (x == (9 : Int)) = false)]; rfl
        have yi1 : ¬ x = (9 : Int) := by omega
        have yn2 : (x != (127 : Int)) = true := by rw [bne, (by rw [beq_eq_false_iff_ne]; omega : (x == (127 : Int)) = false)]; rfl
        have yi2 : ¬ x = (127 : Int) := by omega
        obtain rfl : R = false := by rw [HR.out, HSt.out (by simp [valC]; omega)]; rfl
        clear hx
        clear hc hz hxn
        go_wp2
        go_ret
        exact ⟨rfl, rfl⟩
      · have hz := hc
        have y0 : (x < (32 : Int)) = False := eq_false (by omega)
        have y1 : (x == (9 : Int)) = false := by rw [beq_eq_false_iff_ne]; omega
        have y2 : (x == (127 : Int)) = false := by rw [beq_eq_false_iff_ne]; omega
        have yn1 : (x != (9 : Int)) = true := by rw [bne, (by rw [beq_eq_false_iff_ne]; omega : (x == (9 : Int)) = false)]; rfl
        have yi1 : ¬ x = (9 : Int) := by omega
        have yn2 : (x != (127 : Int)) = true := by rw [bne, (by rw [beq_eq_false_iff_ne]; omega : (x == (127 : Int)) = false)]; rfl
        have yi2 : ¬ x = (127 : Int) := by omega
        have HOn2 : Hid ((l.take (i + 1)).all valC = true) := Lib.hid (HOn.out (by simp [valC]; omega))
        clear hx
        clear hc hz hxn
        go_wp2_with fail
        go_roundw
        case rel => exact ⟨i + 1, by first | rfl | (push_cast; rfl), HI.out, HOn2, by trivial⟩
        case measure => exact ssj3 HI.out
      · have hz := hc
        have y0 : (x < (32 : Int)) = False := eq_false (by omega)
        have y1 : (x == (9 : Int)) = false := by rw [beq_eq_false_iff_ne]; omega
        have y2 : (x == (127 : Int)) = true := by rw [beq_iff_eq]; omega
        have yn1 : (x != (9 : Int)) = true := by rw [bne, (by rw [beq_eq_false_iff_ne]; omega : (x == (9 : Int)) = false)]; rfl
        have yi1 : ¬ x = (9 : Int) := by omega
        have yn2 : (x != (127 : Int)) = false := by rw [bne, (by rw [beq_iff_eq]; omega : (x == (127 : Int)) = true)]; rfl
        obtain rfl : R = false := by rw [HR.out, HSt.out (by simp [valC]; omega)]; rfl
        clear hx
        clear hc hz hxn
        go_wp2
        go_ret
        exact ⟨rfl, rfl⟩
      · have hz := hc
        have y0 : (x < (32 : Int)) = False := eq_false (by omega)
        have y1 : (x == (9 : Int)) = false := by rw [beq_eq_false_iff_ne]; omega
        have y2 : (x == (127 : Int)) = false := by rw [beq_eq_false_iff_ne]; omega
        have yn1 : (x != (9 : Int)) = true := by rw [bne, (by rw [beq_eq_false_iff_ne]; omega : (x == (9 : Int)) = false)]; rfl
        have yi1 : ¬ x = (9 : Int) := by omega
        have yn2 : (x != (127 : Int)) = true := by rw [bne, (by rw [beq_eq_false_iff_ne]; omega : (x == (127 : Int)) = false)]; rfl
        have yi2 : ¬ x = (127 : Int) := by omega
        have HOn2 : Hid ((l.take (i + 1)).all valC = true) := Lib.hid (HOn.out (by simp [valC]; omega))
        clear hx
        clear hc hz hxn
        go_wp2_with fail
        go_roundw
        case rel => exact ⟨i + 1, by first | rfl | (push_cast; rfl), HI.out, HOn2, by trivial⟩
        case measure => exact ssj3 HI.out
    · have z1 := ssj2 hin
      have HAll : Hid (l.all valC = true) := Lib.hid (all_end (by rw [← HL.out]; exact Nat.le_of_not_lt hin) HA.out)
      clear hi hin HA
      cases l with
      | nil =>
        obtain rfl : n = 0 := HL.out
        obtain rfl : R = true := by rw [HR.out]; rfl
        go_wp2
        go_ret
        exact ⟨rfl, rfl⟩
      | cons b r =>
        have y0 : ((n : Int) == 0) = false := by have := HL.out; rw [List.length_cons] at this; rw [beq_eq_false_iff_ne]; omega
        have y0' : (0 : Int) < (n : Int) := by have := HL.out; rw [List.length_cons] at this; omega
        obtain ⟨k, hk⟩ : ∃ k, k = n - 1 := ⟨_, rfl⟩
        have hkn : k < n := by omega
        have hkl : k < (b :: r).length := by rw [← HL.out]; exact hkn
        have y9 : RowKit.wrap64 ((n : Int) - 1) = (k : Int) := by have := HN.out; unfold RowKit.wrap64; omega
        have ix0 := idx0 wr b r
        have ixk := idxS wr (b :: r) k hkl
        obtain ⟨c, hc⟩ : ∃ c, c = (b :: r)[k] := ⟨_, rfl⟩
        have HRv : Hid (R = (!ws b && !ws c)) := Lib.hid (by rw [HR.out, HAll.out, valE, hc]; simp only [Bool.true_and]; congr 3; rw [List.getLast_eq_getElem]; congr 1; have := HL.out; omega)
        rw [← hc] at ixk
        obtain ⟨S, hS⟩ : ∃ S, S = strB (b :: r) := ⟨_, rfl⟩
        rw [← hS] at ix0 ixk hsz ⊢
        obtain ⟨x, hx⟩ : ∃ x : Int, x = (b.toNat : Int) := ⟨_, rfl⟩
        obtain ⟨y, hy⟩ : ∃ y : Int, y = (c.toNat : Int) := ⟨_, rfl⟩
        rw [← hx] at ix0
        rw [← hy] at ixk
        have hkn2 : (k : Int) < (n : Int) := by omega
        clear hk hkl hc hkn hS
        by_cases h1 : ws b = true
        · obtain rfl : R = false := by rw [HRv.out, h1]; rfl
          rcases wsT h1 with h2 | h2
          · obtain rfl : x = 32 := by rw [hx]; exact h2
            clear h1 h2 hx hy
            go_wp2
            go_ret
            exact ⟨rfl, rfl⟩
          · obtain rfl : x = 9 := by rw [hx]; exact h2
            clear h1 h2 hx hy
            go_wp2
            go_ret
            exact ⟨rfl, rfl⟩
        · obtain ⟨y1, y2⟩ := wsF h1
          rw [← hx] at y1 y2
          obtain ⟨k1, k2⟩ := neqs y1
          obtain ⟨k3, k4⟩ := neqs y2
          by_cases h3 : ws c = true
          · obtain rfl : R = false := by rw [HRv.out, h3]; simp
            rcases wsT h3 with h2 | h2
            · obtain rfl : y = 32 := by rw [hy]; exact h2
              clear h1 h2 h3 hx hy
              go_wp2
              go_ret
              exact ⟨rfl, rfl⟩
            · obtain rfl : y = 9 := by rw [hy]; exact h2
              clear h1 h2 h3 hx hy
              go_wp2
              go_ret
              exact ⟨rfl, rfl⟩
          · obtain ⟨y3, y4⟩ := wsF h3
            rw [← hy] at y3 y4
            obtain ⟨k5, k6⟩ := neqs y3
            obtain ⟨k7, k8⟩ := neqs y4
            obtain rfl : R = true := by rw [HRv.out]; simp only [Bool.not_eq_true] at h1 h3; rw [h1, h3]; rfl
            clear h1 h3 hx hy
            go_wp2
            go_ret
            exact ⟨rfl, rfl⟩
end Go.Proofs.YtfffefhchjnfjaaGreatDoor

/- Contract of the reference's Code: a byte's bits as a text of 0 and 1. -/
import Derived.Test.YtkijpjdjkjnpiaaHuffRef
namespace Go.Proofs.Ytkijpjdjkjnpiaa
open Go.RowKit

/-- bits as a text -/
def bitsS (bs : List Bool) : List UInt8 := bs.map fun b => if b then 49 else 48
theorem bitsS_app (a b : List Bool) : bitsS (a ++ b) = bitsS a ++ bitsS b := by simp [bitsS]
theorem bitsS_len (a : List Bool) : (bitsS a).length = a.length := by simp [bitsS]

theorem conv_one (u : World) (v : Int) : (convert 22 9 (.slice (some ⟨u.heap.size, 0, none⟩) 1 1)).run Try.prog (u.alloc (.cells #[.int .u8 v] 5)) = .ok (.string (strB [UInt8.ofNat v.toNat])) (u.alloc (.cells #[.int .u8 v] 5)) := by
  rw [run_convert_bytes_arg (u.alloc (.cells #[.int .u8 v] 5)) 22 5 Try.underlying22 Try.underlying5 u.heap.size 0 1 1 [v] rfl ?_ 9 Try.underlying9]
  · rfl
  · intro i hi
    obtain rfl : i = 0 := by omega
    simp

theorem restTo_app : ∀ (k j : Nat), j < k → (shortR (UInt8.ofNat j)).1 < 0 → ∃ C, restTo k = restTo j ++ UInt8.ofNat j :: C := by
  intro k
  induction k with
  | zero => intro j h; omega
  | succ k ih =>
    intro j hj hs
    rcases Nat.lt_or_ge j k with h | h
    · obtain ⟨C, hC⟩ := ih j h hs
      rw [restTo]
      split
      · exact ⟨C ++ [UInt8.ofNat k], by rw [hC]; simp⟩
      · exact ⟨C, hC⟩
    · obtain rfl : j = k := by omega
      exact ⟨[], by rw [restTo, if_pos hs]⟩
theorem restTo_mem : ∀ (k : Nat) (y : UInt8), y ∈ restTo k → ∃ j, j < k ∧ y = UInt8.ofNat j := by
  intro k
  induction k with
  | zero => intro y h; simp [restTo] at h
  | succ k ih =>
    intro y h
    rw [restTo] at h
    split at h
    · simp only [List.mem_append, List.mem_singleton] at h
      rcases h with h | h
      · obtain ⟨j, h1, h2⟩ := ih y h; exact ⟨j, by omega, h2⟩
      · exact ⟨k, by omega, h⟩
    · obtain ⟨j, h1, h2⟩ := ih y h; exact ⟨j, by omega, h2⟩
theorem ix_rest (x : UInt8) (h : (shortR x).1 < 0) : Lib.indexByte restL x = ((restTo x.toNat).length : Int) := by
  have hx := x.toNat_lt
  have e : UInt8.ofNat x.toNat = x := by simp
  obtain ⟨C, hC⟩ := restTo_app 256 x.toNat (by omega) (by rw [e]; exact h)
  rw [restL_eq, e] at hC
  rw [hC]
  refine ix_first (by simp) (by simp) fun j hj => ?_
  rw [List.getElem?_append_left hj, List.getElem?_eq_getElem hj]
  intro h1
  obtain ⟨i, h2, h3⟩ := restTo_mem _ _ (List.getElem_mem hj)
  have h4 : UInt8.ofNat i = x := by rw [← h3]; exact Option.some.inj h1
  have h5 := congrArg UInt8.toNat h4
  simp at h5
  omega
theorem bits15 (x : UInt8) : bitsN x = 15 ↔ (shortR x).1 < 0 := by
  rcases short_cases x with ⟨t, ⟨e1, e2, e3, ht⟩ | ⟨e1, e2, e3, ht⟩ | ⟨e1, e2, e3, ht⟩ | ⟨e1, e2, e3, ht⟩⟩ | ⟨e1, e2, e3⟩ <;> rw [e1, e3] <;> simp
/-- what the loop over a class meets -/
theorem class_at (x : UInt8) (h : bitsN x < 15) : ∃ a : Nat, a < (clsL (bitsN x)).length ∧ (clsL (bitsN x))[a]? = some x ∧ (∀ j, j < a → (clsL (bitsN x))[j]? ≠ some x) ∧
    codeN x = (if bitsN x = 6 then 20 else if bitsN x = 7 then 92 else if bitsN x = 8 then 248 else 0) + a ∧ (bitsN x = 5 ∨ bitsN x = 6 ∨ bitsN x = 7 ∨ bitsN x = 8) := by
  have key : ∀ (l : List UInt8) (a : Nat), Lib.indexByte l x = (a : Int) → a < l.length ∧ l[a]? = some x ∧ ∀ j, j < a → l[j]? ≠ some x := fun l a h => by
    obtain ⟨h1, h2⟩ := Lib.indexByte_some h
    exact ⟨(List.getElem?_eq_some_iff.1 h1).1, h1, h2⟩
  have hix : ∀ a : Nat, (shortR x = (0, (a : Int)) → Lib.indexByte cl5 x = a) ∧ (shortR x = (1, (a : Int)) → Lib.indexByte cl6 x = a) ∧ (shortR x = (2, (a : Int)) → Lib.indexByte cl7 x = a) ∧ (shortR x = (3, (a : Int)) → Lib.indexByte cl8 x = a) := by
    intro a
    unfold shortR
    refine ⟨fun h => ?_, fun h => ?_, fun h => ?_, fun h => ?_⟩ <;> (repeat' split at h) <;> simp_all
  rcases short_cases x with ⟨t, ⟨e1, e2, e3, ht⟩ | ⟨e1, e2, e3, ht⟩ | ⟨e1, e2, e3, ht⟩ | ⟨e1, e2, e3, ht⟩⟩ | ⟨e1, e2, e3⟩
  · obtain ⟨h1, h2, h3⟩ := key _ t ((hix t).1 e1)
    rw [e3]; exact ⟨t, h1, h2, h3, by rw [e2]; simp, by omega⟩
  · obtain ⟨h1, h2, h3⟩ := key _ t ((hix t).2.1 e1)
    rw [e3]; exact ⟨t, h1, h2, h3, by rw [e2]; simp, by omega⟩
  · obtain ⟨h1, h2, h3⟩ := key _ t ((hix t).2.2.1 e1)
    rw [e3]; exact ⟨t, h1, h2, h3, by rw [e2]; simp, by omega⟩
  · obtain ⟨h1, h2, h3⟩ := key _ t ((hix t).2.2.2 e1)
    rw [e3]; exact ⟨t, h1, h2, h3, by rw [e2]; simp, by omega⟩
  · omega

/-- an answer that is a text -/
def RetS (w : World) (l : List UInt8) (e : Ending) (w' : World) : Prop := e = .returned (.string (strB l)) ∧ Below w.heap.size w w'

theorem strB_app (a b : List UInt8) : strB a ++ strB b = strB (a ++ b) := by
  apply ByteArray.ext
  simp [strB]
theorem step_bits {N q j : Nat} (h : q = N / 2 ^ j) : strB [48 + UInt8.ofNat (q % 2)] ++ strB (bitsS (tb N j)) = strB (bitsS (tb N (j + 1))) := by
  rw [strB_app]
  congr 1
  rw [Nat.add_comm j 1, tb_split, bitsS_app, ← h]
  congr 1
  rcases Nat.mod_two_eq_zero_or_one q with h | h <;> simp [tb, bitsS, h]

set_option maxRecDepth 100000 in
set_option maxHeartbeats 2000000 in
theorem code_5 (x : UInt8) (w : World) (h5 : bitsN x = 5) : Calls Try.prog 36 #[.int .u8 (x.toNat : Int)] w (RetS w (bitsS (tb (codeN x) (bitsN x)))) := by
  have hL : Calls Try.prog 38 #[.int .u8 (x.toNat : Int)] w fun e w' => e = .returned (.int .i64 5) ∧ w = w' := by have := length_any x w; rw [h5] at this; exact this
  have hC : Calls Try.prog 45 #[.int .i64 5] w fun e w' => e = .returned (.string (strB (clsL 5))) ∧ w = w' := class_any 5 (by omega) w
  obtain ⟨a, g1, g2, g3, g4, _⟩ := class_at x (by omega)
  rw [h5] at g1 g2 g3 g4
  have hN : Hid ((codeN x : Int) ≤ 32768) := by have h1 := code_lt x; rw [h5] at h1; show (_ : Int) ≤ _; omega
  have hcode : Hid (codeN x = 0 + a) := by show _ = _; rw [g4]; simp
  have H3 := Lib.hid g3
  have HL := Lib.hid hL
  have HC := Lib.hid hC
  have HB := Lib.hid h5
  have ha : a < (strB (clsL 5)).size := by rw [strB_size]; exact g1
  have hsz : (strB (clsL 5)).size ≤ 1000 := by rw [strB_size]; exact clsL_len 5
  have hga := strB_get _ a ha
  rw [g2] at hga
  have hxa : (((strB (clsL 5))[a].toNat : Int) != (x.toNat : Int)) = false := by rw [← Option.some.inj hga]; simp
  have hbS := Below.refl w.heap.size w
  clear g1 g2 g3 g4 hL hC h5 hga
  go_enter Try.func36, Try.ntmps36
  go_wp2_with fail
  refine HL.out.mono ?_
  rintro e w' ⟨rfl, rfl⟩
  go_wp2_with fail
  refine HC.out.mono ?_
  rintro e w' ⟨rfl, rfl⟩
  go_wp2_with fail
  go_loopw [5, 7] (fun n y wr => ∃ k : Nat, k ≤ a ∧ y = .int .i64 k ∧ n = .int .i64 (0 + (k : Int)) ∧ w = wr) (fun _ y _ => a - (intOf y).toNat)
  case atStart => exact ⟨0, by omega, rfl, rfl, rfl⟩
  case round =>
    obtain ⟨k, hk, rfl, rfl, rfl⟩ := hrel
    by_cases hlt : k < a
    · have hks : k < (strB (clsL 5)).size := by omega
      have hne : (((strB (clsL 5))[k].toNat : Int) != (x.toNat : Int)) = true := by
        rw [bne_iff_ne]
        intro h
        exact H3.out k hlt (by rw [strB_get _ k hks, u8_inj h])
      go_wp2
      go_roundw
      case rel => exact ⟨k + 1, by omega, by go_num, by go_num, by trivial⟩
      case measure => simp [intOf]; omega
    · obtain rfl : k = a := by omega
      go_wp2
      refine wp_loop_once ?_
      go_wp2
      go_loopw [5, 6, 9] (fun n s i wr => ∃ j q : Nat, j ≤ 5 ∧ i = .int .i64 j ∧ n = .int .i64 q ∧ (q : Int) ≤ 32768 ∧ s = .string (strB (bitsS (tb (codeN x) j))) ∧ q = codeN x / 2 ^ j ∧ Below w.heap.size w wr) (fun _ _ i _ => 5 - (intOf i).toNat)
      case atStart => exact ⟨0, codeN x, by omega, rfl, by rw [hcode.out]; go_num, hN.out, rfl, by simp, hbS⟩
      case round =>
        obtain ⟨j, q, hj, rfl, rfl, hq, rfl, hqe, hb⟩ := hrel
        have HQ := Lib.hid hqe
        clear hqe
        have hcv := conv_one
        have hz := hb.size
        have hss := strB_size
        have hbl := bitsS_len
        have htl := tb_len
        by_cases hjl : j < 5
        · go_wp2
          go_roundw
          case rel =>
            refine ⟨j + 1, q / 2, by omega, by go_num, by go_num, by omega, by rw [step_bits HQ.out], ?_, hb.alloc hz _⟩
            rw [HQ.out, Nat.div_div_eq_div_mul, Nat.pow_succ]
          case measure => simp [intOf]; omega
        · obtain rfl : j = 5 := by omega
          go_wp2
          go_ret
          exact ⟨by rw [HB.out]; rfl, hb⟩

set_option maxRecDepth 100000 in
set_option maxHeartbeats 2000000 in
theorem code_6 (x : UInt8) (w : World) (h5 : bitsN x = 6) : Calls Try.prog 36 #[.int .u8 (x.toNat : Int)] w (RetS w (bitsS (tb (codeN x) (bitsN x)))) := by
  have hL : Calls Try.prog 38 #[.int .u8 (x.toNat : Int)] w fun e w' => e = .returned (.int .i64 6) ∧ w = w' := by have := length_any x w; rw [h5] at this; exact this
  have hC : Calls Try.prog 45 #[.int .i64 6] w fun e w' => e = .returned (.string (strB (clsL 6))) ∧ w = w' := class_any 6 (by omega) w
  obtain ⟨a, g1, g2, g3, g4, _⟩ := class_at x (by omega)
  rw [h5] at g1 g2 g3 g4
  have hN : Hid ((codeN x : Int) ≤ 32768) := by have h1 := code_lt x; rw [h5] at h1; show (_ : Int) ≤ _; omega
  have hcode : Hid (codeN x = 20 + a) := by show _ = _; rw [g4]; simp
  have H3 := Lib.hid g3
  have HL := Lib.hid hL
  have HC := Lib.hid hC
  have HB := Lib.hid h5
  have ha : a < (strB (clsL 6)).size := by rw [strB_size]; exact g1
  have hsz : (strB (clsL 6)).size ≤ 1000 := by rw [strB_size]; exact clsL_len 6
  have hga := strB_get _ a ha
  rw [g2] at hga
  have hxa : (((strB (clsL 6))[a].toNat : Int) != (x.toNat : Int)) = false := by rw [← Option.some.inj hga]; simp
  have hbS := Below.refl w.heap.size w
  clear g1 g2 g3 g4 hL hC h5 hga
  go_enter Try.func36, Try.ntmps36
  go_wp2_with fail
  refine HL.out.mono ?_
  rintro e w' ⟨rfl, rfl⟩
  go_wp2_with fail
  refine HC.out.mono ?_
  rintro e w' ⟨rfl, rfl⟩
  go_wp2_with fail
  go_loopw [5, 7] (fun n y wr => ∃ k : Nat, k ≤ a ∧ y = .int .i64 k ∧ n = .int .i64 (20 + (k : Int)) ∧ w = wr) (fun _ y _ => a - (intOf y).toNat)
  case atStart => exact ⟨0, by omega, rfl, rfl, rfl⟩
  case round =>
    obtain ⟨k, hk, rfl, rfl, rfl⟩ := hrel
    by_cases hlt : k < a
    · have hks : k < (strB (clsL 6)).size := by omega
      have hne : (((strB (clsL 6))[k].toNat : Int) != (x.toNat : Int)) = true := by
        rw [bne_iff_ne]
        intro h
        exact H3.out k hlt (by rw [strB_get _ k hks, u8_inj h])
      go_wp2
      go_roundw
      case rel => exact ⟨k + 1, by omega, by go_num, by go_num, by trivial⟩
      case measure => simp [intOf]; omega
    · obtain rfl : k = a := by omega
      go_wp2
      refine wp_loop_once ?_
      go_wp2
      go_loopw [5, 6, 9] (fun n s i wr => ∃ j q : Nat, j ≤ 6 ∧ i = .int .i64 j ∧ n = .int .i64 q ∧ (q : Int) ≤ 32768 ∧ s = .string (strB (bitsS (tb (codeN x) j))) ∧ q = codeN x / 2 ^ j ∧ Below w.heap.size w wr) (fun _ _ i _ => 6 - (intOf i).toNat)
      case atStart => exact ⟨0, codeN x, by omega, rfl, by rw [hcode.out]; go_num, hN.out, rfl, by simp, hbS⟩
      case round =>
        obtain ⟨j, q, hj, rfl, rfl, hq, rfl, hqe, hb⟩ := hrel
        have HQ := Lib.hid hqe
        clear hqe
        have hcv := conv_one
        have hz := hb.size
        have hss := strB_size
        have hbl := bitsS_len
        have htl := tb_len
        by_cases hjl : j < 6
        · go_wp2
          go_roundw
          case rel =>
            refine ⟨j + 1, q / 2, by omega, by go_num, by go_num, by omega, by rw [step_bits HQ.out], ?_, hb.alloc hz _⟩
            rw [HQ.out, Nat.div_div_eq_div_mul, Nat.pow_succ]
          case measure => simp [intOf]; omega
        · obtain rfl : j = 6 := by omega
          go_wp2
          go_ret
          exact ⟨by rw [HB.out]; rfl, hb⟩

set_option maxRecDepth 100000 in
set_option maxHeartbeats 2000000 in
theorem code_7 (x : UInt8) (w : World) (h5 : bitsN x = 7) : Calls Try.prog 36 #[.int .u8 (x.toNat : Int)] w (RetS w (bitsS (tb (codeN x) (bitsN x)))) := by
  have hL : Calls Try.prog 38 #[.int .u8 (x.toNat : Int)] w fun e w' => e = .returned (.int .i64 7) ∧ w = w' := by have := length_any x w; rw [h5] at this; exact this
  have hC : Calls Try.prog 45 #[.int .i64 7] w fun e w' => e = .returned (.string (strB (clsL 7))) ∧ w = w' := class_any 7 (by omega) w
  obtain ⟨a, g1, g2, g3, g4, _⟩ := class_at x (by omega)
  rw [h5] at g1 g2 g3 g4
  have hN : Hid ((codeN x : Int) ≤ 32768) := by have h1 := code_lt x; rw [h5] at h1; show (_ : Int) ≤ _; omega
  have hcode : Hid (codeN x = 92 + a) := by show _ = _; rw [g4]; simp
  have H3 := Lib.hid g3
  have HL := Lib.hid hL
  have HC := Lib.hid hC
  have HB := Lib.hid h5
  have ha : a < (strB (clsL 7)).size := by rw [strB_size]; exact g1
  have hsz : (strB (clsL 7)).size ≤ 1000 := by rw [strB_size]; exact clsL_len 7
  have hga := strB_get _ a ha
  rw [g2] at hga
  have hxa : (((strB (clsL 7))[a].toNat : Int) != (x.toNat : Int)) = false := by rw [← Option.some.inj hga]; simp
  have hbS := Below.refl w.heap.size w
  clear g1 g2 g3 g4 hL hC h5 hga
  go_enter Try.func36, Try.ntmps36
  go_wp2_with fail
  refine HL.out.mono ?_
  rintro e w' ⟨rfl, rfl⟩
  go_wp2_with fail
  refine HC.out.mono ?_
  rintro e w' ⟨rfl, rfl⟩
  go_wp2_with fail
  go_loopw [5, 7] (fun n y wr => ∃ k : Nat, k ≤ a ∧ y = .int .i64 k ∧ n = .int .i64 (92 + (k : Int)) ∧ w = wr) (fun _ y _ => a - (intOf y).toNat)
  case atStart => exact ⟨0, by omega, rfl, rfl, rfl⟩
  case round =>
    obtain ⟨k, hk, rfl, rfl, rfl⟩ := hrel
    by_cases hlt : k < a
    · have hks : k < (strB (clsL 7)).size := by omega
      have hne : (((strB (clsL 7))[k].toNat : Int) != (x.toNat : Int)) = true := by
        rw [bne_iff_ne]
        intro h
        exact H3.out k hlt (by rw [strB_get _ k hks, u8_inj h])
      go_wp2
      go_roundw
      case rel => exact ⟨k + 1, by omega, by go_num, by go_num, by trivial⟩
      case measure => simp [intOf]; omega
    · obtain rfl : k = a := by omega
      go_wp2
      refine wp_loop_once ?_
      go_wp2
      go_loopw [5, 6, 9] (fun n s i wr => ∃ j q : Nat, j ≤ 7 ∧ i = .int .i64 j ∧ n = .int .i64 q ∧ (q : Int) ≤ 32768 ∧ s = .string (strB (bitsS (tb (codeN x) j))) ∧ q = codeN x / 2 ^ j ∧ Below w.heap.size w wr) (fun _ _ i _ => 7 - (intOf i).toNat)
      case atStart => exact ⟨0, codeN x, by omega, rfl, by rw [hcode.out]; go_num, hN.out, rfl, by simp, hbS⟩
      case round =>
        obtain ⟨j, q, hj, rfl, rfl, hq, rfl, hqe, hb⟩ := hrel
        have HQ := Lib.hid hqe
        clear hqe
        have hcv := conv_one
        have hz := hb.size
        have hss := strB_size
        have hbl := bitsS_len
        have htl := tb_len
        by_cases hjl : j < 7
        · go_wp2
          go_roundw
          case rel =>
            refine ⟨j + 1, q / 2, by omega, by go_num, by go_num, by omega, by rw [step_bits HQ.out], ?_, hb.alloc hz _⟩
            rw [HQ.out, Nat.div_div_eq_div_mul, Nat.pow_succ]
          case measure => simp [intOf]; omega
        · obtain rfl : j = 7 := by omega
          go_wp2
          go_ret
          exact ⟨by rw [HB.out]; rfl, hb⟩

set_option maxRecDepth 100000 in
set_option maxHeartbeats 2000000 in
theorem code_8 (x : UInt8) (w : World) (h5 : bitsN x = 8) : Calls Try.prog 36 #[.int .u8 (x.toNat : Int)] w (RetS w (bitsS (tb (codeN x) (bitsN x)))) := by
  have hL : Calls Try.prog 38 #[.int .u8 (x.toNat : Int)] w fun e w' => e = .returned (.int .i64 8) ∧ w = w' := by have := length_any x w; rw [h5] at this; exact this
  have hC : Calls Try.prog 45 #[.int .i64 8] w fun e w' => e = .returned (.string (strB (clsL 8))) ∧ w = w' := class_any 8 (by omega) w
  obtain ⟨a, g1, g2, g3, g4, _⟩ := class_at x (by omega)
  rw [h5] at g1 g2 g3 g4
  have hN : Hid ((codeN x : Int) ≤ 32768) := by have h1 := code_lt x; rw [h5] at h1; show (_ : Int) ≤ _; omega
  have hcode : Hid (codeN x = 248 + a) := by show _ = _; rw [g4]; simp
  have H3 := Lib.hid g3
  have HL := Lib.hid hL
  have HC := Lib.hid hC
  have HB := Lib.hid h5
  have ha : a < (strB (clsL 8)).size := by rw [strB_size]; exact g1
  have hsz : (strB (clsL 8)).size ≤ 1000 := by rw [strB_size]; exact clsL_len 8
  have hga := strB_get _ a ha
  rw [g2] at hga
  have hxa : (((strB (clsL 8))[a].toNat : Int) != (x.toNat : Int)) = false := by rw [← Option.some.inj hga]; simp
  have hbS := Below.refl w.heap.size w
  clear g1 g2 g3 g4 hL hC h5 hga
  go_enter Try.func36, Try.ntmps36
  go_wp2_with fail
  refine HL.out.mono ?_
  rintro e w' ⟨rfl, rfl⟩
  go_wp2_with fail
  refine HC.out.mono ?_
  rintro e w' ⟨rfl, rfl⟩
  go_wp2_with fail
  go_loopw [5, 7] (fun n y wr => ∃ k : Nat, k ≤ a ∧ y = .int .i64 k ∧ n = .int .i64 (248 + (k : Int)) ∧ w = wr) (fun _ y _ => a - (intOf y).toNat)
  case atStart => exact ⟨0, by omega, rfl, rfl, rfl⟩
  case round =>
    obtain ⟨k, hk, rfl, rfl, rfl⟩ := hrel
    by_cases hlt : k < a
    · have hks : k < (strB (clsL 8)).size := by omega
      have hne : (((strB (clsL 8))[k].toNat : Int) != (x.toNat : Int)) = true := by
        rw [bne_iff_ne]
        intro h
        exact H3.out k hlt (by rw [strB_get _ k hks, u8_inj h])
      go_wp2
      go_roundw
      case rel => exact ⟨k + 1, by omega, by go_num, by go_num, by trivial⟩
      case measure => simp [intOf]; omega
    · obtain rfl : k = a := by omega
      go_wp2
      refine wp_loop_once ?_
      go_wp2
      go_loopw [5, 6, 9] (fun n s i wr => ∃ j q : Nat, j ≤ 8 ∧ i = .int .i64 j ∧ n = .int .i64 q ∧ (q : Int) ≤ 32768 ∧ s = .string (strB (bitsS (tb (codeN x) j))) ∧ q = codeN x / 2 ^ j ∧ Below w.heap.size w wr) (fun _ _ i _ => 8 - (intOf i).toNat)
      case atStart => exact ⟨0, codeN x, by omega, rfl, by rw [hcode.out]; go_num, hN.out, rfl, by simp, hbS⟩
      case round =>
        obtain ⟨j, q, hj, rfl, rfl, hq, rfl, hqe, hb⟩ := hrel
        have HQ := Lib.hid hqe
        clear hqe
        have hcv := conv_one
        have hz := hb.size
        have hss := strB_size
        have hbl := bitsS_len
        have htl := tb_len
        by_cases hjl : j < 8
        · go_wp2
          go_roundw
          case rel =>
            refine ⟨j + 1, q / 2, by omega, by go_num, by go_num, by omega, by rw [step_bits HQ.out], ?_, hb.alloc hz _⟩
            rw [HQ.out, Nat.div_div_eq_div_mul, Nat.pow_succ]
          case measure => simp [intOf]; omega
        · obtain rfl : j = 8 := by omega
          go_wp2
          go_ret
          exact ⟨by rw [HB.out]; rfl, hb⟩

theorem restTo_step (k : Nat) : (restTo (k + 1)).length = (restTo k).length + (if bitsN (UInt8.ofNat k) = 15 then 1 else 0) := by
  rw [restTo]
  by_cases h : (shortR (UInt8.ofNat k)).1 < 0
  · rw [if_pos h, if_pos ((bits15 _).2 h)]; simp
  · rw [if_neg h, if_neg (fun h' => h ((bits15 _).1 h'))]; simp

set_option maxRecDepth 100000 in
set_option maxHeartbeats 2000000 in
theorem code_15 (x : UInt8) (w : World) (h5 : bitsN x = 15) : Calls Try.prog 36 #[.int .u8 (x.toNat : Int)] w (RetS w (bitsS (tb (codeN x) (bitsN x)))) := by
  have hL : Calls Try.prog 38 #[.int .u8 (x.toNat : Int)] w fun e w' => e = .returned (.int .i64 15) ∧ w = w' := by have := length_any x w; rw [h5] at this; exact this
  have hC : Calls Try.prog 45 #[.int .i64 15] w fun e w' => e = .returned (.string (strB (clsL 15))) ∧ w = w' := class_any 15 (by omega) w
  have hneg := (bits15 x).1 h5
  have hN : Hid ((codeN x : Int) ≤ 32768) := by have h1 := code_lt x; rw [h5] at h1; show (_ : Int) ≤ _; omega
  have hcode : Hid (codeN x = 32512 + (restTo x.toNat).length) := by
    show _ = _
    rcases short_cases x with ⟨t, ⟨e1, e2, e3, ht⟩ | ⟨e1, e2, e3, ht⟩ | ⟨e1, e2, e3, ht⟩ | ⟨e1, e2, e3, ht⟩⟩ | ⟨e1, e2, e3⟩
    · omega
    · omega
    · omega
    · omega
    · rw [e2, ix_rest x hneg]; simp
  have hx256 := x.toNat_lt
  have HL := Lib.hid hL
  have HC := Lib.hid hC
  have HB := Lib.hid h5
  have hbS := Below.refl w.heap.size w
  clear hL hC h5 hneg
  go_enter Try.func36, Try.ntmps36
  go_wp2_with fail
  refine HL.out.mono ?_
  rintro e w' ⟨rfl, rfl⟩
  go_wp2_with fail
  refine HC.out.mono ?_
  rintro e w' ⟨rfl, rfl⟩
  go_wp2_with fail
  refine wp_loop_once ?_
  go_wp2_with fail
  go_loopw [5, 8] (fun n y wr => ∃ k : Nat, k ≤ x.toNat ∧ y = .int .i64 k ∧ n = .int .i64 (32512 + ((restTo k).length : Int)) ∧ w = wr) (fun _ y _ => x.toNat - (intOf y).toNat)
  case atStart => exact ⟨0, by omega, rfl, rfl, rfl⟩
  case round =>
    obtain ⟨k, hk, rfl, rfl, rfl⟩ := hrel
    have hrl := restTo_len k
    by_cases hlt : k < x.toNat
    · have hxk : ((UInt8.ofNat k).toNat : Int) = (k : Int) := by simp; omega
      have hLk := length_any (UInt8.ofNat k) w
      rw [hxk] at hLk
      have HK := Lib.hid hLk
      have HS := Lib.hid (restTo_step k)
      clear hLk hxk
      by_cases h15 : bitsN (UInt8.ofNat k) = 15
      · have HS2 : Hid ((restTo (k + 1)).length = (restTo k).length + 1) := by show _ = _; rw [HS.out, if_pos h15]
        have hd : ((bitsN (UInt8.ofNat k) : Int) == 15) = true := by rw [h15]; rfl
        clear h15
        go_wp2_with fail
        refine HK.out.mono ?_
        rintro e w' ⟨rfl, rfl⟩
        go_wp2_with fail
        go_roundw
        case rel => exact ⟨k + 1, by omega, by go_num, by rw [HS2.out]; go_num, by trivial⟩
        case measure => simp [intOf]; omega
      · have HS2 : Hid ((restTo (k + 1)).length = (restTo k).length) := by show _ = _; rw [HS.out, if_neg h15]; rfl
        have hd : ((bitsN (UInt8.ofNat k) : Int) == 15) = false := by rw [beq_eq_false_iff_ne]; omega
        clear h15
        go_wp2_with fail
        refine HK.out.mono ?_
        rintro e w' ⟨rfl, rfl⟩
        go_wp2_with fail
        go_roundw
        case rel => exact ⟨k + 1, by omega, by go_num, by rw [HS2.out], by trivial⟩
        case measure => simp [intOf]; omega
    · have hke : x.toNat ≤ k := by omega
      have hE : Hid (k = x.toNat) := by show _ = _; omega
      rw [← hE.out] at hcode
      go_wp2_with fail
      go_loopw [5, 6, 9] (fun n s i wr => ∃ j q : Nat, j ≤ 15 ∧ i = .int .i64 j ∧ n = .int .i64 q ∧ (q : Int) ≤ 32768 ∧ s = .string (strB (bitsS (tb (codeN x) j))) ∧ q = codeN x / 2 ^ j ∧ Below w.heap.size w wr) (fun _ _ i _ => 15 - (intOf i).toNat)
      case atStart => exact ⟨0, codeN x, by omega, rfl, by rw [hcode.out]; go_num, hN.out, rfl, by simp, hbS⟩
      case round =>
        obtain ⟨j, q, hj, rfl, rfl, hq, rfl, hqe, hb⟩ := hrel
        have HQ := Lib.hid hqe
        clear hqe
        have hcv := conv_one
        have hz := hb.size
        have hss := strB_size
        have hbl := bitsS_len
        have htl := tb_len
        by_cases hjl : j < 15
        · go_wp2
          go_roundw
          case rel =>
            refine ⟨j + 1, q / 2, by omega, by go_num, by go_num, by omega, by rw [step_bits HQ.out], ?_, hb.alloc hz _⟩
            rw [HQ.out, Nat.div_div_eq_div_mul, Nat.pow_succ]
          case measure => simp [intOf]; omega
        · obtain rfl : j = 15 := by omega
          go_wp2
          go_ret
          exact ⟨by rw [HB.out]; rfl, hb⟩

theorem rcode_any (x : UInt8) (w : World) : Calls Try.prog 36 #[.int .u8 (x.toNat : Int)] w (RetS w (bitsS (tb (codeN x) (bitsN x)))) := by
  by_cases h : bitsN x < 15
  · obtain ⟨_, _, _, _, _, h5 | h5 | h5 | h5⟩ := class_at x h
    · exact code_5 x w h5
    · exact code_6 x w h5
    · exact code_7 x w h5
    · exact code_8 x w h5
  · exact code_15 x w (by have := bits_le x; omega)
end Go.Proofs.Ytkijpjdjkjnpiaa

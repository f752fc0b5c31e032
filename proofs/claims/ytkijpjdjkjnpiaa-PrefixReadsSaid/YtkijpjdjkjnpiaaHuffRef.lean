/- Contracts of the reference of layer 14: class, has, Length. -/
import Derived.Test.YtkijpjdjkjnpiaaHuffBits
import Derived.Test.YtkijpjdjkjnpiaaCopy
namespace Go.Proofs.Ytkijpjdjkjnpiaa
open Go.RowKit

/-- the class of a length -/
def clsL (l : Nat) : List UInt8 := if l = 5 then cl5 else if l = 6 then cl6 else if l = 7 then cl7 else if l = 8 then cl8 else []

set_option maxRecDepth 100000 in
theorem class_any (l : Nat) (hl : l ≤ 15) (w : World) : Calls Try.prog 45 #[.int .i64 (l : Int)] w fun e w' => e = .returned (.string (strB (clsL l))) ∧ w = w' := by
  have hc : l = 5 ∨ l = 6 ∨ l = 7 ∨ l = 8 ∨ (l ≠ 5 ∧ l ≠ 6 ∧ l ≠ 7 ∧ l ≠ 8) := by omega
  rcases hc with rfl | rfl | rfl | rfl | ⟨h1, h2, h3, h4⟩
  iterate 4
    · go_enter Try.func45, Try.ntmps45
      go_wp2
      go_ret
      exact ⟨rfl, rfl⟩
  · have e5 : ((l : Int) == 5) = false := by simp; omega
    have e6 : ((l : Int) == 6) = false := by simp; omega
    have e7 : ((l : Int) == 7) = false := by simp; omega
    have e8 : ((l : Int) == 8) = false := by simp; omega
    have HE : Hid (clsL l = []) := by show _ = _; unfold clsL; rw [if_neg h1, if_neg h2, if_neg h3, if_neg h4]
    clear h1 h2 h3 h4
    go_enter Try.func45, Try.ntmps45
    go_wp2
    go_ret
    exact ⟨by rw [HE.out]; rfl, rfl⟩

set_option maxRecDepth 100000 in
theorem has_any (l : List UInt8) (hl : l.length ≤ 1000) (x : UInt8) (w : World) :
    Calls Try.prog 46 #[.string (strB l), .int .u8 (x.toNat : Int)] w fun e w' => e = .returned (.bool (decide (x ∈ l))) ∧ w = w' := by
  have hs : (strB l).size ≤ 1000 := by rw [strB_size]; exact hl
  go_enter Try.func46, Try.ntmps46
  go_wp2
  go_loopw [5] (fun i wr => ∃ k : Nat, k ≤ (strB l).size ∧ i = .int .i64 k ∧ w = wr ∧ ∀ j, j < k → l[j]? ≠ some x) (fun i _ => (strB l).size - (intOf i).toNat)
  case atStart => exact ⟨0, by omega, rfl, rfl, fun j hj => absurd hj (Nat.not_lt_zero _)⟩
  case round =>
    obtain ⟨k, hk, rfl, rfl, hno⟩ := hrel
    have HN := Lib.hid hno
    clear hno
    by_cases hlt : k < (strB l).size
    · have hg := Lib.hid (strB_get l k hlt)
      by_cases hx : (strB l)[k] = x
      · have hd : (((strB l)[k].toNat : Int) == (x.toNat : Int)) = true := by rw [hx]; simp
        have HM : Hid (x ∈ l) := by show x ∈ l; rw [← hx]; exact List.mem_of_getElem? hg.out
        clear hx
        go_wp2
        go_ret
        exact ⟨ret_bool (decide_eq_true HM.out).symm, rfl⟩
      · have hd : (((strB l)[k].toNat : Int) == (x.toNat : Int)) = false := by rw [beq_eq_false_iff_ne]; exact fun h => hx (u8_inj h)
        have HX := Lib.hid hx
        clear hx
        go_wp2
        go_roundw
        case rel =>
          refine ⟨k + 1, by omega, by go_num, by trivial, fun j hj => ?_⟩
          by_cases hjk : j < k
          · exact HN.out j hjk
          · obtain rfl : j = k := by omega
            rw [hg.out]
            exact fun h => HX.out (Option.some.inj h)
        case measure => simp [intOf]; omega
    · have HM : Hid (x ∉ l) := by
        show x ∉ l
        intro h
        obtain ⟨j, hj, he⟩ := List.mem_iff_getElem.1 h
        exact HN.out j (by rw [strB_size] at hlt; omega) (by rw [List.getElem?_eq_getElem hj, he])
      go_wp2
      go_ret
      exact ⟨ret_bool (decide_eq_false HM.out).symm, rfl⟩

theorem mem_ix {l : List UInt8} {x : UInt8} : x ∈ l ↔ 0 ≤ Lib.indexByte l x := by
  constructor
  · intro h
    obtain ⟨j, hj, he⟩ := List.mem_iff_getElem.1 h
    rcases Int.lt_or_le (Lib.indexByte l x) 0 with h0 | h0
    · have h3 := Lib.indexByte_ge l x
      exact absurd (by rw [List.getElem?_eq_getElem hj, he]) (Lib.indexByte_none (by omega) j)
    · exact h0
  · intro h
    obtain ⟨m, hm⟩ := Int.eq_ofNat_of_zero_le h
    exact List.mem_of_getElem? (Lib.indexByte_some hm).1
theorem clsL_len (l : Nat) : (clsL l).length ≤ 1000 := by
  unfold clsL; split
  · decide
  · split
    · decide
    · split
      · decide
      · split <;> decide

set_option maxRecDepth 100000 in
theorem length_any (x : UInt8) (w : World) : Calls Try.prog 38 #[.int .u8 (x.toNat : Int)] w fun e w' => e = .returned (.int .i64 (bitsN x : Int)) ∧ w = w' := by
  have hcc : (∃ k : Nat, 5 ≤ k ∧ k ≤ 8 ∧ bitsN x = k ∧ x ∈ clsL k ∧ ∀ j, 5 ≤ j → j < k → x ∉ clsL j) ∨ (bitsN x = 15 ∧ ∀ j, 5 ≤ j → j ≤ 8 → x ∉ clsL j) := by
    have e5 : clsL 5 = cl5 := rfl
    have e6 : clsL 6 = cl6 := rfl
    have e7 : clsL 7 = cl7 := rfl
    have e8 : clsL 8 = cl8 := rfl
    unfold bitsN shortR
    by_cases h1 : 0 ≤ Lib.indexByte cl5 x
    · exact .inl ⟨5, by omega, by omega, by rw [if_pos h1]; rfl, mem_ix.2 h1, fun j h h' => by omega⟩
    · by_cases h2 : 0 ≤ Lib.indexByte cl6 x
      · refine .inl ⟨6, by omega, by omega, by rw [if_neg h1, if_pos h2]; rfl, mem_ix.2 h2, fun j h h' => ?_⟩
        obtain rfl : j = 5 := by omega
        exact fun h => h1 (mem_ix.1 h)
      · by_cases h3 : 0 ≤ Lib.indexByte cl7 x
        · refine .inl ⟨7, by omega, by omega, by rw [if_neg h1, if_neg h2, if_pos h3]; rfl, mem_ix.2 h3, fun j h h' => ?_⟩
          have : j = 5 ∨ j = 6 := by omega
          rcases this with rfl | rfl
          · exact fun h => h1 (mem_ix.1 h)
          · exact fun h => h2 (mem_ix.1 h)
        · by_cases h4 : 0 ≤ Lib.indexByte cl8 x
          · refine .inl ⟨8, by omega, by omega, by rw [if_neg h1, if_neg h2, if_neg h3, if_pos h4]; rfl, mem_ix.2 h4, fun j h h' => ?_⟩
            have : j = 5 ∨ j = 6 ∨ j = 7 := by omega
            rcases this with rfl | rfl | rfl
            · exact fun h => h1 (mem_ix.1 h)
            · exact fun h => h2 (mem_ix.1 h)
            · exact fun h => h3 (mem_ix.1 h)
          · refine .inr ⟨by rw [if_neg h1, if_neg h2, if_neg h3, if_neg h4]; rfl, fun j h h' => ?_⟩
            have : j = 5 ∨ j = 6 ∨ j = 7 ∨ j = 8 := by omega
            rcases this with rfl | rfl | rfl | rfl
            · exact fun h => h1 (mem_ix.1 h)
            · exact fun h => h2 (mem_ix.1 h)
            · exact fun h => h3 (mem_ix.1 h)
            · exact fun h => h4 (mem_ix.1 h)
  have HC := Lib.hid hcc
  clear hcc
  go_enter Try.func38, Try.ntmps38
  go_wp2
  go_loopw [3] (fun i wr => ∃ k : Nat, 5 ≤ k ∧ k ≤ 9 ∧ i = .int .i64 k ∧ w = wr ∧ ∀ j, 5 ≤ j → j < k → x ∉ clsL j) (fun i _ => 9 - (intOf i).toNat)
  case atStart => exact ⟨5, by omega, by omega, rfl, rfl, fun j h h' => by omega⟩
  case round =>
    obtain ⟨k, hk5, hk9, rfl, rfl, hno⟩ := hrel
    have HN := Lib.hid hno
    clear hno
    by_cases hlt : k ≤ 8
    · have hck := class_any k (by omega) w
      have hhk := has_any (clsL k) (clsL_len k) x w
      by_cases hx : x ∈ clsL k
      · have HB : Hid (bitsN x = k) := by
          show _ = _
          rcases HC.out with ⟨m, h1, h2, h3, h4, h5⟩ | ⟨h1, h2⟩
          · rcases Nat.lt_trichotomy m k with h | h | h
            · exact absurd h4 (HN.out m h1 h)
            · rw [h3, h]
            · exact absurd hx (h5 k hk5 h)
          · exact absurd hx (h2 k hk5 hlt)
        rw [decide_eq_true hx] at hhk
        have H1 := Lib.hid hck
        have H2 := Lib.hid hhk
        clear hck hhk hx
        go_wp2_with fail
        refine H1.out.mono ?_
        rintro e w' ⟨rfl, rfl⟩
        go_wp2_with fail
        refine H2.out.mono ?_
        rintro e w' ⟨rfl, rfl⟩
        go_wp2_with fail
        go_ret
        exact ⟨ret_int (by rw [HB.out]), rfl⟩
      · rw [decide_eq_false hx] at hhk
        have H1 := Lib.hid hck
        have H2 := Lib.hid hhk
        have HX := Lib.hid hx
        clear hck hhk hx
        go_wp2_with fail
        refine H1.out.mono ?_
        rintro e w' ⟨rfl, rfl⟩
        go_wp2_with fail
        refine H2.out.mono ?_
        rintro e w' ⟨rfl, rfl⟩
        go_wp2_with fail
        go_roundw
        case rel =>
          refine ⟨k + 1, by omega, by omega, by go_num, by trivial, fun j h h' => ?_⟩
          by_cases hjk : j < k
          · exact HN.out j h hjk
          · obtain rfl : j = k := by omega
            exact HX.out
        case measure => simp [intOf]; omega
    · have HB : Hid (bitsN x = 15) := by
        show _ = _
        rcases HC.out with ⟨m, h1, h2, h3, h4, h5⟩ | ⟨h1, h2⟩
        · exact absurd h4 (HN.out m h1 (by omega))
        · exact h1
      go_wp2
      go_ret
      exact ⟨ret_int (by rw [HB.out]; rfl), rfl⟩
end Go.Proofs.Ytkijpjdjkjnpiaa

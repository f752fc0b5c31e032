/- Contract of the book's code: a byte's code and its length. -/
import Derived.Test.YtaeanhpdlkgghaaDoorHuffBook
namespace Go.Proofs.YtaeanhpdlkgghaaDoor
open Go.RowKit

/-- the place of a byte in a list -/
theorem ix_first {l : List UInt8} {x : UInt8} {k : Nat} (hk : k < l.length) (h1 : l[k] = x) (h2 : ∀ j, j < k → l[j]? ≠ some x) : Lib.indexByte l x = (k : Int) := by
  rcases Int.lt_or_le (Lib.indexByte l x) 0 with h | h
  · have h3 := Lib.indexByte_ge l x
    have h4 : Lib.indexByte l x = -1 := by omega
    exact absurd (by rw [List.getElem?_eq_getElem hk, h1]) (Lib.indexByte_none h4 k)
  · obtain ⟨m, hm⟩ := Int.eq_ofNat_of_zero_le h
    obtain ⟨g1, g2⟩ := Lib.indexByte_some hm
    rw [hm]
    rcases Nat.lt_trichotomy m k with h5 | h5 | h5
    · exact absurd g1 (h2 m h5)
    · rw [h5]
    · exact absurd (by rw [List.getElem?_eq_getElem hk, h1]) (g2 k h5)
theorem short_cases (x : UInt8) : (∃ a : Nat, (shortR x = (0, (a : Int)) ∧ codeN x = a ∧ bitsN x = 5 ∧ a < 32 ) ∨ (shortR x = (1, (a : Int)) ∧ codeN x = 20 + a ∧ bitsN x = 6 ∧ a < 32) ∨ (shortR x = (2, (a : Int)) ∧ codeN x = 92 + a ∧ bitsN x = 7 ∧ a < 32) ∨
    (shortR x = (3, (a : Int)) ∧ codeN x = 248 + a ∧ bitsN x = 8 ∧ a < 32)) ∨ (shortR x = (-1, 0) ∧ codeN x = 32512 + (Lib.indexByte restL x).toNat ∧ bitsN x = 15) := by
  have hlen : ∀ (l : List UInt8) (h : 0 ≤ Lib.indexByte l x), ∃ a : Nat, Lib.indexByte l x = (a : Int) ∧ a < l.length := by
    intro l h
    obtain ⟨m, hm⟩ := Int.eq_ofNat_of_zero_le h
    exact ⟨m, hm, (List.getElem?_eq_some_iff.1 (Lib.indexByte_some hm).1).1⟩
  by_cases h1 : 0 ≤ Lib.indexByte cl5 x
  · obtain ⟨a, ha, hl⟩ := hlen _ h1
    have e : shortR x = (0, (a : Int)) := by unfold shortR; rw [if_pos h1, ha]
    exact .inl ⟨a, .inl ⟨e, by unfold codeN; rw [e]; simp, by unfold bitsN; rw [e]; rfl, by simp [cl5] at hl; omega⟩⟩
  · by_cases h2 : 0 ≤ Lib.indexByte cl6 x
    · obtain ⟨a, ha, hl⟩ := hlen _ h2
      have e : shortR x = (1, (a : Int)) := by unfold shortR; rw [if_neg h1, if_pos h2, ha]
      exact .inl ⟨a, .inr (.inl ⟨e, by unfold codeN; rw [e]; simp, by unfold bitsN; rw [e]; rfl, by simp [cl6] at hl; omega⟩)⟩
    · by_cases h3 : 0 ≤ Lib.indexByte cl7 x
      · obtain ⟨a, ha, hl⟩ := hlen _ h3
        have e : shortR x = (2, (a : Int)) := by unfold shortR; rw [if_neg h1, if_neg h2, if_pos h3, ha]
        exact .inl ⟨a, .inr (.inr (.inl ⟨e, by unfold codeN; rw [e]; simp, by unfold bitsN; rw [e]; rfl, by simp [cl7] at hl; omega⟩))⟩
      · by_cases h4 : 0 ≤ Lib.indexByte cl8 x
        · obtain ⟨a, ha, hl⟩ := hlen _ h4
          have e : shortR x = (3, (a : Int)) := by unfold shortR; rw [if_neg h1, if_neg h2, if_neg h3, if_pos h4, ha]
          exact .inl ⟨a, .inr (.inr (.inr ⟨e, by unfold codeN; rw [e]; simp, by unfold bitsN; rw [e]; rfl, by simp [cl8] at hl; omega⟩))⟩
        · have e : shortR x = (-1, 0) := by unfold shortR; rw [if_neg h1, if_neg h2, if_neg h3, if_neg h4]
          exact .inr ⟨e, by unfold codeN; rw [e]; rfl, by unfold bitsN; rw [e]; rfl⟩

set_option maxRecDepth 100000 in
set_option maxHeartbeats 2000000 in
theorem code_any (w : World) (p : Nat) (a : Option Addr) (c : Nat) (h : Bk w p (.slice a 182 c)) (hr : Sl w a 182 c (bv restL)) (x : UInt8) :
    Calls Tryd.prog 83 #[.pointer (some ⟨p, 0, none⟩), .int .u8 (x.toNat : Int)] w fun e w' =>
      e = .returned (.tuple #[.int .i64 (codeN x : Int), .int .i64 (bitsN x : Int)]) ∧ Below w.heap.size w w' := by
  have hS := short_any w p _ h x
  rcases short_cases x with ⟨t, ⟨e1, e2, e3, ht⟩ | ⟨e1, e2, e3, ht⟩ | ⟨e1, e2, e3, ht⟩ | ⟨e1, e2, e3, ht⟩⟩ | ⟨e1, e2, e3⟩
  all_goals
    rw [e1] at hS
    have HS := Lib.hid hS
    have H2 := Lib.hid e2
    have H3 := Lib.hid e3
    have HE := Lib.hid e1
    clear hS e1 e2 e3
  case inl.inl =>
    go_enter Tryd.func83, Tryd.ntmps83
    go_wp2_with fail
    refine HS.out.mono ?_
    rintro e w1 ⟨rfl, hb⟩
    have hbk := h.below hb
    have q0 := hbk.cell 0 rfl
    have q2 := hbk.cell 2 rfl
    go_wp2_with fail
    go_quiet (fail)
    go_wp2
    go_ret2
    exact ⟨by rw [H2.out, H3.out]; rfl, below_drewN hb _⟩
  case inl.inr.inl =>
    go_enter Tryd.func83, Tryd.ntmps83
    go_wp2_with fail
    refine HS.out.mono ?_
    rintro e w1 ⟨rfl, hb⟩
    have hbk := h.below hb
    have q0 := hbk.cell 3 rfl
    have q2 := hbk.cell 5 rfl
    go_wp2_with fail
    go_quiet (fail)
    go_wp2
    go_ret2
    exact ⟨by rw [H2.out, H3.out]; rfl, below_drewN hb _⟩
  case inl.inr.inr.inl =>
    go_enter Tryd.func83, Tryd.ntmps83
    go_wp2_with fail
    refine HS.out.mono ?_
    rintro e w1 ⟨rfl, hb⟩
    have hbk := h.below hb
    have q0 := hbk.cell 6 rfl
    have q2 := hbk.cell 8 rfl
    go_wp2_with fail
    go_quiet (fail)
    go_wp2
    go_ret2
    exact ⟨by rw [H2.out, H3.out]; rfl, below_drewN hb _⟩
  case inl.inr.inr.inr =>
    go_enter Tryd.func83, Tryd.ntmps83
    go_wp2_with fail
    refine HS.out.mono ?_
    rintro e w1 ⟨rfl, hb⟩
    have hbk := h.below hb
    have q0 := hbk.cell 9 rfl
    have q2 := hbk.cell 11 rfl
    go_wp2_with fail
    go_quiet (fail)
    go_wp2
    go_ret2
    exact ⟨by rw [H2.out, H3.out]; rfl, below_drewN hb _⟩
  case inr =>
    go_enter Tryd.func83, Tryd.ntmps83
    go_wp2_with fail
    refine HS.out.mono ?_
    rintro e w1 ⟨rfl, hb⟩
    have hbk := h.below hb
    have q12 := hbk.cell 12 rfl
    have q13 := hbk.cell 13 rfl
    have q14 := hbk.cell 14 rfl
    have q15 := hbk.cell 15 rfl
    have hplt := hbk.lt
    have hsr := hr.below hb
    obtain ⟨b, off, rfl, hc⟩ := hsr.cells (by omega)
    have hx0 := rest_in x (by rw [HE.out]; decide)
    go_wp2_with fail
    go_loopw [45] (fun i wr => ∃ k : Nat, k ≤ 182 ∧ i = .int .i64 k ∧ (w1.alloc (.cells #[.int .i64 15, .string (strB []), .int .i64 32512] 153)) = wr ∧ ∀ j, j < k → restL[j]? ≠ some x) (fun i _ => 182 - (intOf i).toNat)
    case atStart => exact ⟨0, by omega, rfl, rfl, fun j hj => absurd hj (Nat.not_lt_zero _)⟩
    case round =>
      obtain ⟨k, hk, rfl, rfl, hno⟩ := hrel
      have HN := Lib.hid hno
      clear hno
      by_cases hlt : k < 182
      · have hkl : k < restL.length := by rw [restL_len]; exact hlt
        have g1 := hc k hlt
        rw [bv_get restL k hkl] at g1
        have hlt1 := World.block_lt_of_cell? w1 _ g1
        simp only [] at hlt1
        have hne : b ≠ w1.heap.size := by omega
        have kk : (k : Int) < 182 := by omega
        obtain ⟨y, hy⟩ : ∃ y : UInt8, y = restL[k] := ⟨_, rfl⟩
        rw [← hy] at g1
        have HY := Lib.hid hy
        clear hy hc
        by_cases hxy : y = x
        · have hd : ((y.toNat : Int) == (x.toNat : Int)) = true := by rw [hxy]; simp
          have HI : Hid (Lib.indexByte restL x = (k : Int)) := ix_first hkl (by rw [← HY.out]; exact hxy) HN.out
          clear hxy
          go_wp2
          go_quiet (fail)
          go_wp2
          go_ret2
          exact ⟨by rw [H2.out, H3.out, HI.out]; rfl, below_drewN (hb.alloc hb.size _) _⟩
        · have hd : ((y.toNat : Int) == (x.toNat : Int)) = false := by rw [beq_eq_false_iff_ne]; exact fun h => hxy (u8_inj h)
          have HXY := Lib.hid hxy
          clear hxy
          go_wp2
          go_roundw
          case rel =>
            refine ⟨k + 1, by omega, by go_num, by trivial, fun j hj => ?_⟩
            by_cases hjk : j < k
            · exact HN.out j hjk
            · obtain rfl : j = k := by omega
              rw [List.getElem?_eq_getElem hkl, ← HY.out]
              exact fun h => HXY.out (Option.some.inj h)
          case measure => simp [intOf]; omega
      · exfalso
        obtain ⟨m, hm⟩ := Int.eq_ofNat_of_zero_le hx0
        have h5 := Lib.indexByte_some hm
        have h6 := (List.getElem?_eq_some_iff.1 h5.1).1
        rw [restL_len] at h6
        exact HN.out m (by omega) h5.1
end Go.Proofs.YtaeanhpdlkgghaaDoor

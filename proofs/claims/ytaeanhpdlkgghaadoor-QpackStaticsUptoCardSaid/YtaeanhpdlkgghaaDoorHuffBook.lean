/- Contracts of the code's book: classes, short, open, code. -/
import Derived.Test.YtaeanhpdlkgghaaDoorHuffPure
import Derived.Test.YtaeanhpdlkgghaaDoorRef01
import Derived.Test.YtaeanhpdlkgghaaDoorShelf
namespace Go.Proofs.YtaeanhpdlkgghaaDoor
open Go.RowKit

/-- the book's cells -/
def bookC (rest : Value) : List Value :=
  [.int .i64 5, .string (strB cl5), .int .i64 0, .int .i64 6, .string (strB cl6), .int .i64 20, .int .i64 7, .string (strB cl7), .int .i64 92,
   .int .i64 8, .string (strB cl8), .int .i64 248, .int .i64 15, .string (strB []), .int .i64 32512, rest]

/-- a book lies at block p -/
def Bk (w : World) (p : Nat) (rest : Value) : Prop := w.heap[p]? = some (.cells (bookC rest).toArray 157 (0, 0))

theorem Bk.lt {w : World} {p : Nat} {r : Value} (h : Bk w p r) : p < w.heap.size := (Array.getElem?_eq_some_iff.1 h).1
theorem Bk.below {w w' : World} {p : Nat} {r : Value} (h : Bk w p r) (hb : Below w.heap.size w w') : Bk w' p r := by
  unfold Bk; rw [hb.block p h.lt]; exact h
theorem Bk.cell {w : World} {p : Nat} {r : Value} (h : Bk w p r) (j : Nat) {v : Value} (hv : (bookC r)[j]? = some v) : w.cell? ⟨p, j, none⟩ = some v := by
  rw [cell_of_row w p j _ _ _ h, ← hv]; simp
theorem Bk.free {w : World} {p : Nat} {r : Value} (h : Bk w p r) (a : Addr) (ha : a.block = p) : w.frozen? a = false := by
  subst ha
  unfold Bk at h
  simp [World.frozen?, h]

theorem ixb (l : List UInt8) (x : UInt8) (w : World) :
    Calls Tryd.prog 94 #[.string (strB l), .int .u8 (x.toNat : Int)] w fun e w' => e = .returned (.int .i64 (Lib.indexByte l x)) ∧ w = w' := by
  refine (Tryd.strings_IndexByte (strB l) (x.toNat : Int) w).mono ?_
  rintro e w' ⟨rfl, rfl⟩
  refine ⟨?_, rfl⟩
  rw [strB_toList]
  congr 3
  simp

set_option maxRecDepth 100000 in
theorem classes_any (w : World) : Calls Tryd.prog 90 #[] w fun e w' => e = .returned (.agg ((bookC (.slice none 0 0)).take 15).toArray) ∧ Below w.heap.size w w' := by
  go_enter Tryd.func90, Tryd.ntmps90
  go_wp2
  exact bodyPost_ret (v := .agg ((bookC (.slice none 0 0)).take 15).toArray) (by simp [results, Tryd.results90, go_sem]; rfl) rfl ⟨rfl, (Below.refl _ _).alloc (Nat.le_refl _) _⟩

/-- what 'short' needs of the book -/
theorem Bk.cells {w : World} {p : Nat} {r : Value} (h : Bk w p r) : ∀ j, j < 15 → w.cell? ⟨p, j, none⟩ = (bookC r)[j]? := by
  intro j _
  rw [cell_of_row w p j _ _ _ h]; simp

set_option maxRecDepth 100000 in
set_option maxHeartbeats 1000000 in
theorem short_any (w : World) (p : Nat) (r : Value) (h : Bk w p r) (x : UInt8) :
    Calls Tryd.prog 91 #[.pointer (some ⟨p, 0, none⟩), .int .u8 (x.toNat : Int)] w fun e w' =>
      e = .returned (.tuple #[.int .i64 (shortR x).1, .int .i64 (shortR x).2]) ∧ Below w.heap.size w w' := by
  have hp := h.lt
  go_enter Tryd.func91, Tryd.ntmps91
  go_wp2_with fail
  go_loopw [14] (fun i wr => Below w.heap.size w wr ∧ ((i = .int .i64 0) ∨ (i = .int .i64 1 ∧ Lib.indexByte cl5 x < 0) ∨ (i = .int .i64 2 ∧ Lib.indexByte cl5 x < 0 ∧ Lib.indexByte cl6 x < 0) ∨
    (i = .int .i64 3 ∧ Lib.indexByte cl5 x < 0 ∧ Lib.indexByte cl6 x < 0 ∧ Lib.indexByte cl7 x < 0) ∨
    (i = .int .i64 4 ∧ Lib.indexByte cl5 x < 0 ∧ Lib.indexByte cl6 x < 0 ∧ Lib.indexByte cl7 x < 0 ∧ Lib.indexByte cl8 x < 0))) (fun i _ => 4 - (intOf i).toNat)
  case atStart => exact ⟨Below.refl _ _, .inl rfl⟩
  case round =>
    obtain ⟨hb, hrel⟩ := hrel
    have hbk := h.below hb
    have hz := hb.size
    have hpw : p < wr.heap.size := by omega
    rcases hrel with rfl | ⟨rfl, g1⟩ | ⟨rfl, g1, g2⟩ | ⟨rfl, g1, g2, g3⟩ | ⟨rfl, g1, g2, g3, g4⟩
    · have q0 := hbk.cell 0 rfl
      have q1 := hbk.cell 1 rfl
      have q2 := hbk.cell 2 rfl
      by_cases hx : 0 ≤ Lib.indexByte cl5 x
      · have HF : Hid (shortR x = (0, Lib.indexByte cl5 x)) := by
          show _ = _; unfold shortR; rw [if_pos hx]
        go_wp2_with (go_at_call 94; (with_reducible refine (ixb cl5 x _).mono ?_); rintro e w' ⟨rfl, rfl⟩)
        go_ret2
        exact ⟨by rw [HF.out]; rfl, hb.alloc hz _⟩
      · have hx' : Lib.indexByte cl5 x < 0 := by omega
        go_wp2_with (go_at_call 94; (with_reducible refine (ixb cl5 x _).mono ?_); rintro e w' ⟨rfl, rfl⟩)
        go_roundw
        case rel => exact ⟨hb.alloc hz _, .inr (.inl ⟨rfl, hx'⟩)⟩
        case measure => simp [intOf]
    · have q0 := hbk.cell 3 rfl
      have q1 := hbk.cell 4 rfl
      have q2 := hbk.cell 5 rfl
      by_cases hx : 0 ≤ Lib.indexByte cl6 x
      · have HF : Hid (shortR x = (1, Lib.indexByte cl6 x)) := by
          show _ = _; unfold shortR; rw [if_neg (by omega)]; rw [if_pos hx]
        go_wp2_with (go_at_call 94; (with_reducible refine (ixb cl6 x _).mono ?_); rintro e w' ⟨rfl, rfl⟩)
        go_ret2
        exact ⟨by rw [HF.out]; rfl, hb.alloc hz _⟩
      · have hx' : Lib.indexByte cl6 x < 0 := by omega
        go_wp2_with (go_at_call 94; (with_reducible refine (ixb cl6 x _).mono ?_); rintro e w' ⟨rfl, rfl⟩)
        go_roundw
        case rel => exact ⟨hb.alloc hz _, .inr (.inr (.inl ⟨rfl, g1, hx'⟩))⟩
        case measure => simp [intOf]
    · have q0 := hbk.cell 6 rfl
      have q1 := hbk.cell 7 rfl
      have q2 := hbk.cell 8 rfl
      by_cases hx : 0 ≤ Lib.indexByte cl7 x
      · have HF : Hid (shortR x = (2, Lib.indexByte cl7 x)) := by
          show _ = _; unfold shortR; rw [if_neg (by omega)]; rw [if_neg (by omega)]; rw [if_pos hx]
        go_wp2_with (go_at_call 94; (with_reducible refine (ixb cl7 x _).mono ?_); rintro e w' ⟨rfl, rfl⟩)
        go_ret2
        exact ⟨by rw [HF.out]; rfl, hb.alloc hz _⟩
      · have hx' : Lib.indexByte cl7 x < 0 := by omega
        go_wp2_with (go_at_call 94; (with_reducible refine (ixb cl7 x _).mono ?_); rintro e w' ⟨rfl, rfl⟩)
        go_roundw
        case rel => exact ⟨hb.alloc hz _, .inr (.inr (.inr (.inl ⟨rfl, g1, g2, hx'⟩)))⟩
        case measure => simp [intOf]
    · have q0 := hbk.cell 9 rfl
      have q1 := hbk.cell 10 rfl
      have q2 := hbk.cell 11 rfl
      by_cases hx : 0 ≤ Lib.indexByte cl8 x
      · have HF : Hid (shortR x = (3, Lib.indexByte cl8 x)) := by
          show _ = _; unfold shortR; rw [if_neg (by omega)]; rw [if_neg (by omega)]; rw [if_neg (by omega)]; rw [if_pos hx]
        go_wp2_with (go_at_call 94; (with_reducible refine (ixb cl8 x _).mono ?_); rintro e w' ⟨rfl, rfl⟩)
        go_ret2
        exact ⟨by rw [HF.out]; rfl, hb.alloc hz _⟩
      · have hx' : Lib.indexByte cl8 x < 0 := by omega
        go_wp2_with (go_at_call 94; (with_reducible refine (ixb cl8 x _).mono ?_); rintro e w' ⟨rfl, rfl⟩)
        go_roundw
        case rel => exact ⟨hb.alloc hz _, .inr (.inr (.inr (.inr ⟨rfl, g1, g2, g3, hx'⟩)))⟩
        case measure => simp [intOf]
    · have HF : Hid (shortR x = (-1, 0)) := by
        show _ = _; unfold shortR; rw [if_neg (by omega), if_neg (by omega), if_neg (by omega), if_neg (by omega)]
      go_wp2
      go_ret2
      exact ⟨by rw [HF.out]; rfl, hb⟩
end Go.Proofs.YtaeanhpdlkgghaaDoor

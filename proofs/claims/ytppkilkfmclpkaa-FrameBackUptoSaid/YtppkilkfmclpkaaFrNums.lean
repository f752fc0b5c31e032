/- Contracts of frame.numbers (with slices.ContainsFunc and slices.IndexFunc), frame.known, frame.rightSpans. No condition. -/
import Derived.Test.YtppkilkfmclpkaaFrBase
import Derived.Test.YtppkilkfmclpkaaVnClass
import Derived.Test.YtppkilkfmclpkaaSat
namespace Go.Proofs.Ytppkilkfmclpkaa
open Go.RowKit

/-- is it a number that can be written? -/
def numB (x : Int) : Bool := decide (0 ≤ x) && decide (x ≤ 4611686018427387903)
set_option maxRecDepth 100000 in
theorem bad_any (w : World) (x : Int) : Calls Try.prog 58 #[.int .i64 x] w (BoolOf w (!numB x)) := by
  have hc : x < 0 ∨ (¬ x < 0 ∧ 4611686018427387903 < x) ∨ (¬ x < 0 ∧ ¬ 4611686018427387903 < x) := by omega
  rcases hc with h1 | ⟨h1, h2⟩ | ⟨h1, h2⟩
  · have e : (!numB x) = true := by unfold numB; simp; omega
    rw [e]
    clear e
    go_enter Try.func58, Try.ntmps58
    go_wp2
    go_ret
    exact ⟨rfl, Below.refl _ _⟩
  · have e : (!numB x) = true := by unfold numB; simp; omega
    rw [e]
    clear e
    go_enter Try.func58, Try.ntmps58
    go_wp2
    go_ret
    exact ⟨rfl, Below.refl _ _⟩
  · have e : (!numB x) = false := by unfold numB; simp; omega
    rw [e]
    clear e
    go_enter Try.func58, Try.ntmps58
    go_wp2
    go_ret
    exact ⟨rfl, Below.refl _ _⟩
theorem iv_get (zs : List Int) (i : Nat) (h : i < zs.length) : (iv .i64 zs)[i]? = some (.int .i64 zs[i]) := by simp [iv, h]
theorem meas_up {i n : Nat} (hi : i < n) : n - (intOf (Value.int .i64 ((i : Int) + 1))).toNat < n - (intOf (Value.int .i64 (i : Int))).toNat := by
  simp only [intOf]
  omega
/-- the place of the first that can't be written -/
def IdxR (w : World) (zs : List Int) (e : Ending) (w' : World) : Prop := ∃ z : Int, e = .returned (.int .i64 z) ∧ (decide (0 ≤ z) = !(zs.all numB)) ∧ Below w.heap.size w w'
set_option maxRecDepth 100000 in
set_option maxHeartbeats 1000000 in
theorem index_any (w : World) {a : Option Addr} {n c : Nat} {zs : List Int} (h : Sl w a n c (iv .i64 zs)) : Calls Try.prog 70 #[.slice a n c, .func (.func 58) #[] #[]] w (IdxR w zs) := by
  have hl : zs.length = n := by have := h.len; simpa [iv] using this
  have hc1 := h.cap_le
  have hc2 := h.cap_max
  have HS := Lib.hid h
  have HL := Lib.hid hl
  clear h hl
  go_enter Try.func70, Try.ntmps70
  go_wp2_with fail
  go_loopw [8] (fun v wr => ∃ i : Nat, v = .int .i64 (i : Int) ∧ i ≤ n ∧ Hid ((zs.take i).all numB = true) ∧ Below w.heap.size w wr) (fun v _ => n - (intOf v).toNat)
  case atStart => exact ⟨0, rfl, Nat.zero_le _, Lib.hid rfl, Below.refl _ _⟩
  case round =>
    obtain ⟨i, rfl, hin, HP, hb⟩ := hrel
    by_cases hi : i < n
    · have hil : (i : Int) < (n : Int) := by omega
      have hiz : i < zs.length := by rw [HL.out]; exact hi
      obtain ⟨b, off, rfl, hcs⟩ := HS.out.cells (by omega)
      have hci := hcs i hi
      rw [iv_get zs i hiz] at hci
      have hci : wr.cell? ⟨b, off + i, none⟩ = some (.int .i64 zs[i]) := by rw [hb.cell (World.block_lt_of_cell? w _ hci)]; exact hci
      obtain ⟨x, hx⟩ : ∃ x, x = zs[i] := ⟨_, rfl⟩
      rw [← hx] at hci
      have HB := Lib.hid (bad_any wr x)
      have HN : Hid ((zs.take (i + 1)).all numB = ((zs.take i).all numB && numB x)) := Lib.hid (by rw [hx, List.take_succ_eq_append_getElem hiz, List.all_append]; simp)
      have HA : Hid (numB x = false → zs.all numB = false) := Lib.hid (fun h => by
        rw [List.all_eq_false]
        exact ⟨zs[i], List.getElem_mem _, by rw [← hx, h]; decide⟩)
      have hiw : RowKit.wrap64 ((i : Int) + 1) = (i : Int) + 1 := by unfold maxLen at hc2; unfold RowKit.wrap64; omega
      have HIw := Lib.hid hiw
      have HBr := Lib.hid hb
      have HI := Lib.hid hi
      clear hcs hx hb hi
      cases hnb : numB x with
      | true =>
        rw [hnb] at HB HN
        have HNb := Lib.hid hnb
        clear hnb
        go_wp2_with fail
        refine HB.out.mono ?_
        rintro e w2 ⟨rfl, hb2⟩
        have HB2 := Lib.hid (HBr.out.trans (hb2.mono HBr.out.size))
        clear hb2
        go_wp2_with fail
        go_roundw
        case rel => exact ⟨i + 1, by rw [HIw.out]; push_cast; rfl, HI.out, Lib.hid (by rw [HN.out, HP.out]; rfl), HB2.out⟩
        case measure => rw [HIw.out]; exact meas_up HI.out
      | false =>
        rw [hnb] at HB
        have HAl := Lib.hid (HA.out hnb)
        clear hnb
        go_wp2_with fail
        refine HB.out.mono ?_
        rintro e w2 ⟨rfl, hb2⟩
        have HB2 := Lib.hid (HBr.out.trans (hb2.mono HBr.out.size))
        clear hb2
        go_wp2
        go_ret
        exact ⟨(i : Int), rfl, by rw [HAl.out]; simp, HB2.out⟩
    · have hil : ¬ (i : Int) < (n : Int) := by omega
      have HAl : Hid (zs.all numB = true) := Lib.hid (by have := HP.out; rwa [List.take_of_length_le (by rw [HL.out]; omega)] at this)
      have HBr := Lib.hid hb
      clear hb
      go_wp2
      go_ret
      exact ⟨-1, rfl, by rw [HAl.out]; rfl, HBr.out⟩
set_option maxRecDepth 100000 in
theorem contains_any (w : World) {a : Option Addr} {n c : Nat} {zs : List Int} (h : Sl w a n c (iv .i64 zs)) : Calls Try.prog 57 #[.slice a n c, .func (.func 58) #[] #[]] w (BoolOf w (!(zs.all numB))) := by
  have HI := Lib.hid (index_any w h)
  clear h
  go_enter Try.func57, Try.ntmps57
  go_wp2_with fail
  refine HI.out.mono ?_
  rintro e w2 ⟨z, rfl, hz, hb⟩
  have HZ := Lib.hid hz
  have HB := Lib.hid hb
  clear hz hb
  by_cases h0 : 0 ≤ z
  · go_wp2
    go_ret
    exact ⟨ret_bool (by rw [← HZ.out]; try simp [h0]), HB.out⟩
  · go_wp2
    go_ret
    exact ⟨ret_bool (by rw [← HZ.out]; try simp [h0]), HB.out⟩
set_option maxRecDepth 100000 in
theorem numbersF_any (w : World) {a : Option Addr} {n c : Nat} {zs : List Int} (h : Sl w a n c (iv .i64 zs)) : Calls Try.prog 46 #[.slice a n c] w (BoolOf w (zs.all numB)) := by
  have HI := Lib.hid (contains_any w h)
  obtain ⟨b, hb⟩ : ∃ b, b = zs.all numB := ⟨_, rfl⟩
  rw [← hb] at HI ⊢
  clear h hb
  go_enter Try.func46, Try.ntmps46
  go_wp2_with fail
  refine HI.out.mono ?_
  rintro e w2 ⟨rfl, hb⟩
  have HB := Lib.hid hb
  clear hb
  go_wp2
  go_ret
  exact ⟨ret_bool (by simp), HB.out⟩
/-- is it a kind of frame? -/
def knoF (k : Int) : Bool := (decide (0 ≤ k) && decide (k ≤ 8)) || (decide (16 ≤ k) && decide (k ≤ 30))
set_option maxRecDepth 100000 in
theorem knownF_any (w : World) (k : Int) : Calls Try.prog 27 #[.int .i64 k] w (BoolOf w (knoF k)) := by
  have hc : (0 ≤ k ∧ k ≤ 8 ∧ knoF k = true) ∨ (¬ 0 ≤ k ∧ ¬ 16 ≤ k ∧ knoF k = false) ∨ (0 ≤ k ∧ ¬ k ≤ 8 ∧ ¬ 16 ≤ k ∧ knoF k = false) ∨ (0 ≤ k ∧ ¬ k ≤ 8 ∧ 16 ≤ k ∧ k ≤ 30 ∧ knoF k = true) ∨ (0 ≤ k ∧ ¬ k ≤ 8 ∧ 16 ≤ k ∧ ¬ k ≤ 30 ∧ knoF k = false) := by
    unfold knoF; simp; omega
  rcases hc with ⟨h1, h2, e⟩ | ⟨h1, h2, e⟩ | ⟨h1, h2, h3, e⟩ | ⟨h1, h2, h3, h4, e⟩ | ⟨h1, h2, h3, h4, e⟩
  all_goals
    rw [e]
    clear e
    go_enter Try.func27, Try.ntmps27
    go_wp2
    go_ret
    exact ⟨rfl, Below.refl _ _⟩
end Go.Proofs.Ytppkilkfmclpkaa

/- HuffSizes and HuffBegins answer true. -/
import Derived.Test.YtkijpjdjkjnpiaaHuffLaw1
import Derived.Deep.RegionWith
namespace Go.Proofs.Ytkijpjdjkjnpiaa
open Go.RowKit

theorem Sl.take {w : World} {a : Option Addr} {n c : Nat} {xs : List Value} (h : Sl w a n c xs) {k : Nat} (hk : k ≤ n) : Sl w a k c (xs.take k) := by
  refine ⟨by rw [List.length_take, h.len]; omega, by have := h.cap_le; omega, h.cap_max, h.nil, fun hk0 => ?_⟩
  obtain ⟨b, off, ha, hc⟩ := h.cells (by omega)
  refine ⟨b, off, ha, fun i hi => ?_⟩
  rw [hc i (by omega), List.getElem?_take, if_pos hi]
theorem joined_two (p q : Piece) : joined [p, q] = p.l ++ q.l := by simp [joined]
/-- a slice of two slices, just laid -/
theorem sl_two (w : World) (p q : Piece) : Sl (w.alloc (.cells #[p.val, q.val] 22)) (some ⟨w.heap.size, 0, none⟩) 2 2 ([p, q].map Piece.val) := by
  refine ⟨rfl, Nat.le_refl _, by decide, by simp, fun _ => ⟨_, 0, rfl, fun i hi => ?_⟩⟩
  have : i = 0 ∨ i = 1 := by omega
  rcases this with rfl | rfl <;> simp

theorem begins (a b : List UInt8) : (encL a).length ≤ (encL (a ++ b)).length ∧ (encL (a ++ b)).take ((encL a).length - 1) = (encL a).take ((encL a).length - 1) := by
  have h1 := encL_len a
  have h2 := encL_len (a ++ b)
  unfold sizeL at h1 h2
  rw [bitSum_append] at h2
  refine ⟨by omega, ?_⟩
  have h3 : encL (a ++ b) = packF (encB a) ++ (packF (restB (encB a) ++ encB b) ++ lastB (restB (encB (a ++ b)))) := by
    unfold encL packL
    rw [encB_append, (pack_app (encB a) (encB b)).1, List.append_assoc, (pack_app (encB a) (encB b)).2]
  have h4 : encL a = packF (encB a) ++ lastB (restB (encB a)) := rfl
  have h5 : (encL a).length - 1 ≤ (packF (encB a)).length := by
    rw [h4, List.length_append]
    unfold lastB
    split <;> simp
  generalize (encL a).length - 1 = m at h5 ⊢
  rw [h3, List.take_append_of_le_length h5, h4, List.take_append_of_le_length h5]

set_option maxRecDepth 100000 in
set_option maxHeartbeats 1000000 in
theorem sizes_any (w : World) {a : Option Addr} {n c : Nat} {l : List UInt8} (h : Sl w a n c (bv l)) (hn : n ≤ 1048576) {a2 : Option Addr} {n2 c2 : Nat} {l2 : List UInt8} (h2 : Sl w a2 n2 c2 (bv l2)) (hn2 : n2 ≤ 1048576) :
    Calls Try.prog 7 #[.slice a n c, .slice a2 n2 c2] w fun e w' => e = .returned (.bool true) ∧ Below w.heap.size w w' := by
  have hl1 : l.length ≤ n := by have := h.byte; omega
  have hl1' : n ≤ l.length := by have := h.byte; omega
  have hl2 : l2.length ≤ n2 := by have := h2.byte; omega
  have e1 := bitSum_le l
  have e2 := bitSum_ge l
  have e3 := bitSum_le l2
  have HX : Hid (sizeL (l ++ l2) = (bitSum l + bitSum l2 + 7) / 8) := by show _ = _; unfold sizeL; rw [bitSum_append]
  have HY : Hid (sizeL l = (bitSum l + 7) / 8) := rfl
  have HZ : Hid (sizeL l2 = (bitSum l2 + 7) / 8) := rfl
  go_enter Try.func7, Try.ntmps7
  go_wp2_with fail
  refine (copy_any w h (by omega)).mono ?_
  rintro e w1 ⟨b1, c1, rfl, ho1, hb1⟩
  have z1 := hb1.size
  go_wp2_with fail
  refine (size_any w1 (own_sl ho1) (by omega)).mono ?_
  rintro e w2 ⟨rfl, hb2⟩
  have z2 := hb2.size
  have B2 : Below w.heap.size w w2 := hb1.trans (hb2.mono z1)
  go_wp2_with fail
  refine (copy_any w2 (h2.below B2) (by omega)).mono ?_
  rintro e w3 ⟨b3, c3, rfl, ho3, hb3⟩
  have z3 := hb3.size
  go_wp2_with fail
  refine (size_any w3 (own_sl ho3) (by omega)).mono ?_
  rintro e w4 ⟨rfl, hb4⟩
  have z4 := hb4.size
  have B4 : Below w.heap.size w w4 := (B2.trans (hb3.mono (by omega))).trans (hb4.mono (by omega))
  have B5 : Below w.heap.size w (w4.alloc (.cells #[.slice a n c, .slice a2 n2 c2] 22)) := B4.alloc (by omega) _
  have hJ := join_any _ (sl_two w4 ⟨a, n, c, l⟩ ⟨a2, n2, c2, l2⟩) (by
    intro p hp
    simp only [List.mem_cons, List.not_mem_nil, or_false] at hp
    rcases hp with rfl | rfl
    · exact h.below B5
    · exact h2.below B5) (by rw [joined_two]; simp; omega)
  rw [joined_two] at hJ
  have HJ := Lib.hid hJ
  clear hJ
  go_wp2_with fail
  refine HJ.out.mono ?_
  rintro e w6 ⟨b6, c6, rfl, ho6, hb6⟩
  have z6 := hb6.size
  have hl12 : (l ++ l2).length ≤ 2097152 := by simp; omega
  have s6 := own_sl ho6
  generalize l ++ l2 = l12 at HX hl12 s6 ⊢
  clear ho6
  go_wp2_with fail
  refine (size_any w6 s6 (by omega)).mono ?_
  rintro e w7 ⟨rfl, hb7⟩
  have z7 := hb7.size
  have B6 : Below w.heap.size w w7 := (B5.trans (hb6.mono (by simp; omega))).trans (hb7.mono (by simp at z6; omega))
  have k1 : (sizeL l12 : Int) ≤ (sizeL l : Int) + (sizeL l2 : Int) := by rw [HX.out, HY.out, HZ.out]; omega
  have k2 : (sizeL l : Int) + (sizeL l2 : Int) - 1 ≤ (sizeL l12 : Int) := by rw [HX.out, HY.out, HZ.out]; omega
  have k3 : 5 * (n : Int) ≤ 8 * (sizeL l : Int) := by rw [HY.out]; omega
  have k4 : 8 * (sizeL l : Int) ≤ 15 * (n : Int) + 7 := by rw [HY.out]; omega
  have k5 : (sizeL l : Int) ≤ 4194304 := by rw [HY.out]; omega
  have k6 : (sizeL l2 : Int) ≤ 4194304 := by rw [HZ.out]; omega
  clear e1 e2 e3
  generalize sizeL l = X at k1 k2 k3 k4 k5 ⊢
  generalize sizeL l2 = Y at k1 k2 k6 ⊢
  generalize sizeL l12 = Z at k1 k2 ⊢
  clear HX HY HZ
  go_wp2_with fail
  refine (awake14_any w7).mono ?_
  rintro e w8 ⟨rfl, hb8⟩
  go_wp2
  go_ret
  exact ⟨rfl, B6.trans (hb8.mono (by simp at z6; omega))⟩

end Go.Proofs.Ytkijpjdjkjnpiaa

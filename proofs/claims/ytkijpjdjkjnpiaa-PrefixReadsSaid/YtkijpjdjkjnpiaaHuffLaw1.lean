/- The awake of layer 14's laws answers true; HuffEncodes answers true. -/
import Derived.Test.YtkijpjdjkjnpiaaHuffEnc
import Derived.Test.YtkijpjdjkjnpiaaHuffRefEnc2
import Derived.Test.YtkijpjdjkjnpiaaJoin
import Derived.Lib.SlBytesConst
namespace Go.Proofs.Ytkijpjdjkjnpiaa
open Go.RowKit

theorem encL_a : encL [97] = [31] := by
  have h1 : codeN 97 = 3 := by decide +kernel
  have h2 : bitsN 97 = 5 := by decide +kernel
  have h3 : encB [97] = tb 3 5 := by simp [encB, h1, h2]
  unfold encL packL
  rw [h3, packF_lt (by rw [tb_len]; omega), restB_lt (by rw [tb_len]; omega)]
  decide
theorem sizeL_a : sizeL [97] = 1 := by rw [← encL_len, encL_a]; rfl
/-- the world with the bytes of a constant text laid in it -/
def constW (w : World) (l : List UInt8) : World := w.alloc (.cells (bv l).toArray 5 (l.length, l.length + 1))
theorem constW_below {B : Nat} {w0 w : World} (h : Below B w0 w) (hB : B ≤ w.heap.size) (l : List UInt8) : Below B w0 (constW w l) := h.alloc hB _
theorem constW_size (w : World) (l : List UInt8) : (constW w l).heap.size = w.heap.size + 1 := by simp [constW]
theorem sl_const (w : World) (l : List UInt8) (h : l.length ≤ 1000000) : Sl (constW w l) (some ⟨w.heap.size, 0, none⟩) l.length l.length (bv l) := by
  refine ⟨bv_length l, Nat.le_refl _, by unfold maxLen; omega, by simp, fun _ => ⟨_, 0, rfl, fun i hi => ?_⟩⟩
  have hh : (constW w l).heap[w.heap.size]? = some (.cells (bv l).toArray 5 (l.length, l.length + 1)) := heap_alloc_new w _
  simp [World.cell?, hh]
theorem conv_const (w : World) (C : Array Value) (n c : Nat) : (convert 22 22 (.slice (some ⟨w.heap.size, 0, none⟩) n c)).run Try.prog (w.alloc (.cells C 5)) =
    .ok (.slice (some ⟨w.heap.size, 0, none⟩) n c) (w.alloc (.cells C 5 (C.size, C.size + 1))) :=
  Lib.run_convert_bytes_const (P := Try.prog) w 22 5 C n c Try.underlying22 Try.underlying5

set_option maxRecDepth 100000 in
set_option maxHeartbeats 1000000 in
theorem awake14_any (w : World) : Calls Try.prog 22 #[] w fun e w' => e = .returned (.bool true) ∧ Below w.heap.size w w' := by
  have hE := encode_any (constW w [97]) (sl_const w [97] (by decide)) (by decide)
  rw [encL_a] at hE
  have HE := Lib.hid hE
  clear hE
  have hcv := conv_const
  go_enter Try.func22, Try.ntmps22
  go_wp2_with fail
  refine HE.out.mono ?_
  rintro e w1 ⟨a, c, rfl, ho, hb1⟩
  have hs := own_sl ho
  obtain ⟨b, off, rfl, hc⟩ := hs.cells (by decide)
  have q0 := hc 0 (by decide)
  simp only [Nat.add_zero, bv, List.map_cons, List.map_nil, List.getElem?_cons_zero] at q0
  have q0' : w1.cell? ⟨b, off, none⟩ = some (.int .u8 31) := q0
  clear q0 hc
  have hS := size_any (constW w1 [97]) (sl_const w1 [97] (by decide)) (by decide)
  rw [sizeL_a] at hS
  have HS := Lib.hid hS
  clear hS
  simp only [List.length_cons, List.length_nil]
  go_wp2_with fail
  refine HS.out.mono ?_
  rintro e w2 ⟨rfl, hb2⟩
  go_wp2
  go_ret
  have z1 := hb1.size
  refine ⟨rfl, ?_⟩
  rw [constW_size] at z1
  have h1 : Below w.heap.size w w1 := (constW_below (Below.refl _ w) (Nat.le_refl _) _).trans (hb1.mono (by rw [constW_size]; omega))
  have h2 : Below w.heap.size w1 w2 := (constW_below (Below.refl _ w1) (by omega) _).trans (hb2.mono (by rw [constW_size]; omega))
  exact h1.trans h2

set_option maxRecDepth 100000 in
set_option maxHeartbeats 1000000 in
theorem encodes_any (w : World) {a : Option Addr} {n c : Nat} {l : List UInt8} (h : Sl w a n c (bv l)) (hn : n ≤ 1048576) :
    Calls Try.prog 6 #[.slice a n c] w fun e w' => e = .returned (.bool true) ∧ Below w.heap.size w w' := by
  have hl1 : l.length ≤ n := by have := h.byte; omega
  go_enter Try.func6, Try.ntmps6
  go_wp2_with fail
  refine (copy_any w h (by omega)).mono ?_
  rintro e w1 ⟨a1, c1, rfl, ho1, hb1⟩
  have s1 := own_sl ho1
  go_wp2_with fail
  refine (encode_any w1 s1 (by omega)).mono ?_
  rintro e w2 ⟨a2, c2, rfl, ho2, hb2⟩
  have z1 := hb1.size
  have z2 := hb2.size
  go_wp2_with fail
  refine (awake14_any w2).mono ?_
  rintro e w3 ⟨rfl, hb3⟩
  have z3 := hb3.size
  have b3 : Below w.heap.size w w3 := (hb1.trans (hb2.mono z1)).trans (hb3.mono (by omega))
  have h3 := h.below b3
  go_wp2_with fail
  refine (rencode_any w3 h3 (by omega)).mono ?_
  rintro e w4 ⟨a4, c4, rfl, ho4, hb4⟩
  have z4 := hb4.size
  have t2 := ((own_sl ho2).below hb3).below hb4
  go_wp2_with fail
  refine (same_any w4 t2 (own_sl ho4)).mono ?_
  rintro e w5 ⟨rfl, hb5⟩
  have z5 := hb5.size
  have hd : decide (encL l = encL l) = true := by simp
  have t1 := (((s1.below hb2).below hb3).below hb4).below hb5
  have h5 := (h3.below hb4).below hb5
  go_wp2_with fail
  refine (size_any w5 t1 (by omega)).mono ?_
  rintro e w6 ⟨rfl, hb6⟩
  have z6 := hb6.size
  go_wp2_with fail
  refine (rsize_any w6 (h5.below hb6) (by omega)).mono ?_
  rintro e w7 ⟨rfl, hb7⟩
  have z7 := hb7.size
  have hd2 : ((sizeL l : Int) == (sizeL l : Int)) = true := by simp
  go_wp2_with fail
  refine (same_any w7 ((t1.below hb6).below hb7) ((h5.below hb6).below hb7)).mono ?_
  rintro e w8 ⟨rfl, hb8⟩
  have hd3 : decide (l = l) = true := by simp
  go_wp2
  go_ret
  exact ⟨rfl, ((((b3.trans (hb4.mono (by omega))).trans (hb5.mono (by omega))).trans (hb6.mono (by omega))).trans (hb7.mono (by omega))).trans (hb8.mono (by omega))⟩
end Go.Proofs.Ytkijpjdjkjnpiaa

/- HuffBegins answers true. -/
import Derived.Test.YtkijpjdjkjnpiaaHuffLaw2
import Derived.Test.YtkijpjdjkjnpiaaMix
namespace Go.Proofs.Ytkijpjdjkjnpiaa
open Go.RowKit


set_option maxRecDepth 100000 in
set_option maxHeartbeats 1000000 in
theorem begins_any (w : World) {a : Option Addr} {n c : Nat} {l : List UInt8} (h : Sl w a n c (bv l)) (hn : n ≤ 1048576) {a2 : Option Addr} {n2 c2 : Nat} {l2 : List UInt8} (h2 : Sl w a2 n2 c2 (bv l2)) (hn2 : n2 ≤ 1048576) :
    Calls Try.prog 8 #[.slice a n c, .slice a2 n2 c2] w fun e w' => e = .returned (.bool true) ∧ Below w.heap.size w w' := by
  have hl1 : l.length ≤ n := by have := h.byte; omega
  have hl2 : l2.length ≤ n2 := by have := h2.byte; omega
  have hbg := begins l l2
  have hle1 : (encL l).length ≤ 4194304 := by rw [encL_len]; unfold sizeL; have := bitSum_le l; omega
  have hle2 : (encL (l ++ l2)).length ≤ 4194304 := by rw [encL_len]; unfold sizeL; rw [bitSum_append]; have := bitSum_le l; have := bitSum_le l2; omega
  go_enter Try.func8, Try.ntmps8
  go_wp2_with fail
  refine (copy_any w h (by omega)).mono ?_
  rintro e w1 ⟨b1, c1, rfl, ho1, hb1⟩
  have z1 := hb1.size
  have HB := Lib.hid hbg
  clear hbg
  go_wp2_with fail
  refine (encode_any w1 (own_sl ho1) (by omega)).mono ?_
  rintro e w2 ⟨b2, c2', rfl, ho2, hb2⟩
  have z2 := hb2.size
  have B2 : Below w.heap.size w w2 := hb1.trans (hb2.mono z1)
  have B5 : Below w.heap.size w (w2.alloc (.cells #[.slice a n c, .slice a2 n2 c2] 22)) := B2.alloc (by omega) _
  have hJ := join_any _ (sl_two w2 ⟨a, n, c, l⟩ ⟨a2, n2, c2, l2⟩) (by
    intro p hp
    simp only [List.mem_cons, List.not_mem_nil, or_false] at hp
    rcases hp with rfl | rfl
    · exact h.below B5
    · exact h2.below B5) (by rw [joined_two]; simp; omega)
  rw [joined_two] at hJ
  have HJ := Lib.hid hJ
  clear hJ
  go_wp2_with fail
  refine HJ.out.mono ?_
  rintro e w6 ⟨b6, c6, rfl, ho6, hb6⟩
  have z6 := hb6.size
  have hl12 : (l ++ l2).length ≤ 2097152 := by simp; omega
  have s6 := own_sl ho6
  generalize l ++ l2 = l12 at HB hl12 hle2 s6 ⊢
  clear ho6
  go_wp2_with fail
  refine (encode_any w6 s6 (by omega)).mono ?_
  rintro e w7 ⟨b7, c7, rfl, ho7, hb7⟩
  have z7 := hb7.size
  have t7 := own_sl ho7
  have t2 : Sl w7 b2 (encL l).length c2' (bv (encL l)) := (((own_sl ho2).below ((Below.refl _ w2).alloc (Nat.le_refl _) (.cells #[.slice a n c, .slice a2 n2 c2] 22))).below hb6).below hb7
  have B7 : Below w.heap.size w w7 := (B5.trans (hb6.mono (by simp; omega))).trans (hb7.mono (by simp at z6; omega))
  generalize encL l = X at HB hle1 t2 ⊢
  generalize encL l12 = Y at HB hle2 t7 ⊢
  clear ho7 ho2 ho1
  have hxy := HB.out.1
  by_cases h0 : X.length = 0
  · have hz : ((X.length : Int) == 0) = true := by simp [h0]
    clear h0
    go_wp2_with fail
    refine (awake14_any w7).mono ?_
    rintro e w8 ⟨rfl, hb8⟩
    go_wp2
    go_ret
    exact ⟨rfl, B7.trans (hb8.mono (by simp at z6; omega))⟩
  · have hz : ((X.length : Int) == 0) = false := by simp; intro h; simp [h] at h0
    have hp : 1 ≤ X.length := by omega
    obtain ⟨b3, o3, rfl, _⟩ := t2.cells (by omega)
    obtain ⟨b4, o4, rfl, _⟩ := t7.cells (by omega)
    have x1 : (X.length : Int) ≤ (Y.length : Int) := by omega
    have f1 : IntKind.i64.wrap ((X.length : Int) - 1) = (X.length : Int) - 1 := by rw [IntKind.wrap_i64]; omega
    have sx := t2.take (k := X.length - 1) (by omega)
    have sy := t7.take (k := X.length - 1) (by omega)
    rw [← bv_take] at sx sy
    rw [HB.out.2] at sy
    have hd : decide (X.take (X.length - 1) = X.take (X.length - 1)) = true := by simp
    go_wp2_with fail
    have k1 : (1 : Int) ≤ (X.length : Int) := by omega
    have k2 : (X.length : Int) ≤ (c2' : Int) := by have := t2.cap_le; omega
    have k3 : (X.length : Int) ≤ (c7 : Int) := by have := t7.cap_le; omega
    refine Mix.region (Below w.heap.size w) (by kernel_rfl) (by kernel_rfl) (B7.trans ⟨rfl, rfl, rfl, Nat.le_refl _, fun _ _ => rfl⟩) ?_
    repeat (first | (refine Mix.skip rfl ?_) | (refine Mix.pure rfl rfl ?_; intro K hK; go_big_quiet_op; go_big_quiet_on))
    refine Mix.isLoud rfl rfl ?_
    go_wp2_with fail
    have hdr : Below w7.heap.size w7 w7.drew := ⟨rfl, rfl, rfl, Nat.le_refl _, fun _ _ => rfl⟩
    refine (same_any (w7.drew) (sx.below hdr) (sy.below hdr)).mono ?_
    rintro e w8 ⟨rfl, hb8⟩
    rw [show decide (X.take (X.length - 1) = X.take (X.length - 1)) = true from by simp]
    have B8 : Below w.heap.size w w8 := B7.trans ((hdr.trans hb8).mono (by simp at z6; omega))
    have z8 : w7.heap.size ≤ w8.heap.size := hb8.size
    go_wp2_with fail
    repeat (first | (refine Mix.skip rfl ?_) | (refine Mix.pure rfl rfl ?_; intro K hK; go_big_quiet_op; go_big_quiet_on))
    refine Mix.isLoud rfl rfl ?_
    go_wp2_with fail
    refine (awake14_any w8).mono ?_
    rintro e w9 ⟨rfl, hb9⟩
    have B9 : Below w.heap.size w w9 := B8.trans (hb9.mono (by simp at z6; omega))
    go_wp2_with fail
    repeat (first | (refine Mix.skip rfl ?_) | (refine Mix.pure rfl rfl ?_; intro K hK; go_big_quiet_op; go_big_quiet_on))
    refine Mix.nil ?_
    go_wp2
    go_ret
    exact ⟨rfl, B9⟩
end Go.Proofs.Ytkijpjdjkjnpiaa

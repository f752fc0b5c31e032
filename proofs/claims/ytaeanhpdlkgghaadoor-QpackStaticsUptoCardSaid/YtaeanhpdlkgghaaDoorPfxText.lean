/- PutText answers putTextR, for any arguments. -/
import Derived.Test.YtaeanhpdlkgghaaDoorPfxPut
import Derived.Test.YtaeanhpdlkgghaaDoorHuffEnc
import Derived.Laws.IdiomStrings
namespace Go.Proofs.YtaeanhpdlkgghaaDoor
open Go.RowKit

theorem sizeL_le' (l : List UInt8) : sizeL l ≤ 15 * l.length + 7 := by have := bitSum_le l; unfold sizeL; omega
/-- is the text coded? -/
def coded (l : List UInt8) : Bool := decide (sizeL l < l.length)
def textD (l : List UInt8) : List UInt8 := if coded l then encL l else l
/-- the first byte, as far as it counts -/
def textF (l : List UInt8) (bits first : Nat) : Nat := highN first (bits + 1) + (if coded l then 2 ^ bits else 0)
def putTextR (l : List UInt8) (bits first : Int) : List UInt8 × Int :=
  if bits < 1 ∨ 7 < bits then ([], 150) else if 16384 < l.length then ([], 52)
  else (putL (textD l).length bits.toNat (textF l bits.toNat first.toNat) ++ textD l, 0)

theorem putL_high (n b f f' : Nat) (h : highN f b = highN f' b) : putL n b f = putL n b f' := by
  unfold putL
  unfold highN at h
  rw [h]
theorem textD_len (l : List UInt8) : (textD l).length ≤ l.length := by
  unfold textD coded
  split
  · rename_i h; simp at h; rw [encL_len]; omega
  · exact Nat.le_refl _

/-- the first byte, the one bit cleared -/
def clr (f b : Nat) : Nat := if f / 2 ^ b % 2 = 1 then f - 2 ^ b else f
theorem clr_is : ∀ b : Nat, b < 8 → ∀ f : Nat, f < 256 → Go.bits .andNot .u8 (f : Int) (((2 ^ b : Nat) : Int)) = ((clr f b : Nat) : Int) := by decide +kernel
theorem clr_or : ∀ b : Nat, b < 8 → ∀ f : Nat, f < 256 → Go.bits .or .u8 ((clr f b : Nat) : Int) (((2 ^ b : Nat) : Int)) = ((clr f b + 2 ^ b : Nat) : Int) ∧ clr f b + 2 ^ b < 256 := by decide +kernel
theorem clr_high : ∀ b : Nat, b < 8 → ∀ f : Nat, f < 256 → highN (clr f b) b = highN (highN f (b + 1)) b ∧ highN (clr f b + 2 ^ b) b = highN (highN f (b + 1) + 2 ^ b) b := by decide +kernel
theorem clr_lt (f b : Nat) (h : f < 256) : clr f b < 256 := by
  unfold clr; split
  · exact Nat.lt_of_le_of_lt (Nat.sub_le _ _) h
  · exact h

/-- '[]byte(s)' -/
def bytesW (w : World) (l : List UInt8) : World :=
  w.drew.alloc (.cells (bytesRow (strB l) (grownCap w l.length 0 5)) 5 ((bytesRow (strB l) (grownCap w l.length 0 5)).size, (bytesRow (strB l) (grownCap w l.length 0 5)).size + 1))
theorem conv_bytes (w : World) (l : List UInt8) : (convert 9 30 (.string (strB l))).run Tryd.prog w = .ok (.slice (some ⟨w.heap.size, 0, none⟩) l.length (grownCap w l.length 0 5)) (bytesW w l) := by
  have := run_bytes_of_string (P := Tryd.prog) w 9 30 5 (strB l) Tryd.underlying9 Tryd.underlying30 Tryd.underlying5
  rw [strB_size] at this
  exact this
theorem bytesW_below (w : World) (l : List UInt8) : Below w.heap.size w (bytesW w l) :=
  ⟨rfl, rfl, rfl, by simp [bytesW], fun k hk => heap_alloc_old w.drew _ hk⟩
theorem bytesW_sl (w : World) (l : List UInt8) (h : l.length ≤ 1000000) : Sl (bytesW w l) (some ⟨w.heap.size, 0, none⟩) l.length (grownCap w l.length 0 5) (bv l) := by
  refine ⟨bv_length l, grownCap_ge _ _ _ _, grownCap_le_maxLen _ _ _ _ (by unfold maxLen; omega), by simp, fun _ => ⟨_, 0, rfl, fun i hi => ?_⟩⟩
  have hh : (bytesW w l).heap[w.heap.size]? = some (.cells (bytesRow (strB l) (grownCap w l.length 0 5)) 5 _) := heap_alloc_new w.drew _
  have hc := grownCap_ge w l.length 0 5
  rw [Nat.zero_add, cell_of_row _ _ _ _ _ _ hh, bv_get l i hi]
  simp only [bytesRow, strB, List.map_toArray]
  rw [Array.getElem?_append_left (by simp; omega)]
  simp [hi]

set_option maxRecDepth 100000 in
set_option maxHeartbeats 1000000 in
theorem ptext_any (w : World) (l : List UInt8) (bits first : Int) (f1 : 0 ≤ first) (f2 : first ≤ 255) :
    Calls Tryd.prog 59 #[.string (strB l), .int .i64 bits, .int .u8 first] w (RetBE w.heap.size w (putTextR l bits first)) := by
  have hsz := strB_size l
  by_cases h1 : 1 ≤ bits
  · by_cases h2 : bits ≤ 7
    · by_cases h3 : l.length ≤ 16384
      · obtain ⟨b, rfl⟩ := Int.eq_ofNat_of_zero_le (show 0 ≤ bits by omega)
        obtain ⟨f, rfl⟩ := Int.eq_ofNat_of_zero_le f1
        have HR : Hid (putTextR l (b : Int) (f : Int) = (putL (textD l).length b (textF l b f) ++ textD l, 0)) := by
          show _ = _; unfold putTextR; rw [if_neg (by omega), if_neg (by omega)]; rfl
        have hcv := fun w => conv_bytes w l
        have p256 : (2 : Int) ^ b % 256 = ((2 ^ b : Nat) : Int) := by
          have h4 : 2 ^ b ≤ 2 ^ 7 := Nat.pow_le_pow_right (by decide) (by omega)
          have h7 : (2 : Nat) ^ 7 = 128 := rfl
          rw [h7] at h4
          have h6 : 0 < 2 ^ b := Nat.two_pow_pos b
          have h5 : ((2 ^ b : Nat) : Int) = 2 ^ b := by simp
          omega
        have ha : Go.bits .andNot .u8 (f : Int) ((2 : Int) ^ b % 256) = ((clr f b : Nat) : Int) := by rw [p256]; exact clr_is b (by omega) f (by omega)
        have ho := (clr_or b (by omega) f (by omega)).1
        have hlt := (clr_or b (by omega) f (by omega)).2
        have hh := clr_high b (by omega) f (by omega)
        have hc256 := clr_lt f b (by omega)
        rw [← p256] at ho
        generalize clr f b = cf at ha ho hlt hh hc256
        obtain ⟨co, hco⟩ : ∃ co : Nat, co = cf + 2 ^ b := ⟨_, rfl⟩
        rw [← hco] at ho hlt hh
        have HH := Lib.hid hh
        clear hco p256 hh
        have hw1 := bytesW_below w l
        have hs1 := bytesW_sl w l (by omega)
        have z1 := hw1.size
        have hsb := sizeL_le' l
        by_cases hc : sizeL l < l.length
        · have hc' : (sizeL l : Int) < (l.length : Int) := by omega
          have hcd : coded l = true := by simp [coded, hc]
          have HD : Hid (textD l = encL l) := Lib.hid (by unfold textD; rw [hcd]; rfl)
          have HF : Hid (highN co b = highN (textF l b f) b) := Lib.hid (by unfold textF; rw [hcd]; exact HH.out.2)
          have hel : (encL l).length = sizeL l := encL_len l
          have hle : (encL l).length ≤ 16384 := by omega
          clear hcd hel hc
          go_enter Tryd.func59, Tryd.ntmps59
          go_wp2_with fail
          refine (size_any _ hs1 (by omega)).mono ?_
          rintro e w2 ⟨rfl, hb2⟩
          have z2 := hb2.size
          go_wp2_with fail
          refine (encode_any w2 (hs1.below hb2) (by omega)).mono ?_
          rintro e w3 ⟨a3, c3, rfl, ho3, hb3⟩
          have z3 := hb3.size
          have hP := put_any (((encL l).length : Nat) : Int) (b : Int) (co : Int) w3 (by omega) (by omega)
          rw [show putR (((encL l).length : Nat) : Int) (b : Int) (co : Int) = (putL (encL l).length b co, 0) by unfold putR; rw [if_neg (by omega), if_neg (by omega)]; simp, putL_high _ _ _ _ HF.out] at hP
          have hpl := putL_len (encL l).length b (textF l b f) (by omega)
          have HP := Lib.hid hP
          clear hP
          go_wp2_with fail
          refine HP.out.mono ?_
          rintro e w4 ⟨a4, c4, rfl, ho4, hb4⟩
          have B4 : Below w.heap.size w w4 := ((hw1.trans (hb2.mono z1)).trans (hb3.mono (by omega))).trans (hb4.mono (by omega))
          have ho4' := own_mono ho4 (show w.heap.size ≤ _ by omega)
          have hs4 := (own_sl ho3).below hb4
          obtain ⟨P, hPd⟩ : ∃ P, P = putL (encL l).length b (textF l b f) := ⟨_, rfl⟩
          rw [← hPd] at ho4' hpl ⊢
          have HPd := Lib.hid hPd
          clear hPd ho4
          go_wp2_with (at_builtin; refine wpL_app tyU8 rfl _ _ rfl rfl rfl ho4' hs4 (bv_one _) (by omega) (by unfold maxLen; omega) B4 (Nat.le_refl _) B4.size ?_; intro a5 c5 w5 ho5 hb5 _)
          go_ret2
          refine RetBE.mk (r := putTextR l b f) (n := P.length + (encL l).length) (k := 0) (xs := bv P ++ bv (encL l)) rfl ?_ ho5 ?_ hb5
          · rw [HR.out]
          · rw [HR.out, HD.out, bv_append, HPd.out]
        · have hc' : ¬ (sizeL l : Int) < (l.length : Int) := by omega
          have hcd : coded l = false := by simp [coded]; omega
          have HD : Hid (textD l = l) := Lib.hid (by unfold textD; rw [hcd]; rfl)
          have HF : Hid (highN cf b = highN (textF l b f) b) := Lib.hid (by unfold textF; rw [hcd]; exact HH.out.1)
          have hP := fun w => put_any ((l.length : Nat) : Int) (b : Int) (cf : Int) w (by omega) (by omega)
          rw [show putR ((l.length : Nat) : Int) (b : Int) (cf : Int) = (putL l.length b cf, 0) by unfold putR; rw [if_neg (by omega), if_neg (by omega)]; simp, putL_high _ _ _ _ HF.out] at hP
          have hpl := putL_len l.length b (textF l b f) (by omega)
          have HP := Lib.hid hP
          clear hP hcd hc
          go_enter Tryd.func59, Tryd.ntmps59
          go_wp2_with fail
          refine (size_any _ hs1 (by omega)).mono ?_
          rintro e w2 ⟨rfl, hb2⟩
          have z2 := hb2.size
          go_wp2_with fail
          refine (HP.out w2).mono ?_
          rintro e w4 ⟨a4, c4, rfl, ho4, hb4⟩
          have B4 : Below w.heap.size w w4 := (hw1.trans (hb2.mono z1)).trans (hb4.mono (by omega))
          have ho4' := own_mono ho4 (show w.heap.size ≤ _ by omega)
          have hs4 := (hs1.below hb2).below hb4
          obtain ⟨P, hPd⟩ : ∃ P, P = putL l.length b (textF l b f) := ⟨_, rfl⟩
          rw [← hPd] at ho4' hpl ⊢
          have HPd := Lib.hid hPd
          clear hPd ho4
          go_wp2_with (at_builtin; refine wpL_app tyU8 rfl _ _ rfl rfl rfl ho4' hs4 (bv_one _) (by omega) (by unfold maxLen; omega) B4 (Nat.le_refl _) B4.size ?_; intro a5 c5 w5 ho5 hb5 _)
          go_ret2
          refine RetBE.mk (r := putTextR l b f) (n := P.length + l.length) (k := 0) (xs := bv P ++ bv l) rfl ?_ ho5 ?_ hb5
          · rw [HR.out]
          · rw [HR.out, HD.out, bv_append, HPd.out]
      · have HR : Hid (putTextR l bits first = ([], 52)) := by
          show _ = _; unfold putTextR; rw [if_neg (by omega), if_pos (by omega)]
        go_enter Tryd.func59, Tryd.ntmps59
        go_wp2
        go_ret2
        rw [HR.out]
        exact RetBE.nil w 52 _ rfl
    · have HR : Hid (putTextR l bits first = ([], 150)) := by
        show _ = _; unfold putTextR; rw [if_pos (by omega)]
      go_enter Tryd.func59, Tryd.ntmps59
      go_wp2
      go_ret2
      rw [HR.out]
      exact RetBE.nil w 150 _ rfl
  · have HR : Hid (putTextR l bits first = ([], 150)) := by
      show _ = _; unfold putTextR; rw [if_pos (by omega)]
    go_enter Tryd.func59, Tryd.ntmps59
    go_wp2
    go_ret2
    rw [HR.out]
    exact RetBE.nil w 150 _ rfl
end Go.Proofs.YtaeanhpdlkgghaaDoor

/- hone.tokenByte, rightBytes; slices.ContainsFunc over bytes with hone's two functions. Condition: the text's size. Printed by gen_hocf.py. -/
import Derived.Test.YtfffefhchjnfjaaGreatDoorHoLib
import Derived.Lib.IndexLaws
namespace Go.Proofs.YtfffefhchjnfjaaGreatDoor
open Go.RowKit

theorem bts_sl {w : World} {g : Nat} {l : List UInt8} (h : Bts w g l) (c : Nat) (hc : l.length ≤ c) (hm : c ≤ maxLen) : Sl w (some ⟨g, 0, none⟩) l.length c (bv l) := by
  refine ⟨by rw [bv_length], hc, hm, fun h0 => (by cases h0), fun _ => ⟨g, 0, rfl, fun i hi => ?_⟩⟩
  rw [bv_get l i hi]
  simpa using h.cell i hi
theorem conv_bts2 (w : World) (l : List UInt8) (hl : l.length ≤ maxLen) : ∃ c w2, (convert 9 23 (.string (strB l))).run Tryz.prog w = .ok (.slice (some ⟨w.heap.size, 0, none⟩) l.length c) w2 ∧ Bts w2 w.heap.size l ∧ (l.length ≤ c ∧ c ≤ maxLen) ∧ Below w.heap.size w w2 := by
  have hr := Lib.run_convert_string_bytes (P := Tryz.prog) w 9 23 5 (strB l) Tryz.underlying9 Tryz.underlying23 Tryz.underlying5
  obtain ⟨c, w2, hr2, hb, hw⟩ := conv_bts w (strB l)
  rw [hr] at hr2
  simp only [Result.ok.injEq, Value.slice.injEq, true_and] at hr2
  obtain ⟨rfl, rfl⟩ := hr2
  rw [strB_size] at hr
  rw [bl_strB'] at hb
  exact ⟨_, _, hr, hb, ⟨grownCap_ge w l.length 0 5, grownCap_le_maxLen w l.length 0 5 hl⟩, hw⟩
def tokA : List UInt8 := [33, 35, 36, 37, 38, 39, 42, 43, 45, 46, 94, 95, 124, 126, 96]
theorem ixb_mem (c : UInt8) : ∀ l : List UInt8, (decide (0 ≤ Lib.indexByte l c)) = decide (c ∈ l)
  | [] => by simp [Lib.indexByte]
  | b :: l => by
    have ih := ixb_mem c l
    have hg := Lib.indexByte_ge l c
    unfold Lib.indexByte
    by_cases h : b = c
    · subst h; simp
    · rw [if_neg (by simpa using h)]
      by_cases h2 : Lib.indexByte l c = -1
      · rw [if_pos (by simpa using h2)]
        rw [h2] at ih
        simp at ih
        simp [ih, Ne.symm h]
      · rw [if_neg (by simpa using h2)]
        have h3 : 0 ≤ Lib.indexByte l c := by omega
        rw [decide_eq_true h3] at ih
        have h4 : 0 ≤ Lib.indexByte l c + 1 := by omega
        rw [decide_eq_true h4]
        simp at ih
        simp [ih]
theorem tok_tokA (b : UInt8) : tokC b = (alnumB b || decide (b ∈ tokA)) := by
  have key : ∀ k : Fin 256, tokC (UInt8.ofNat k.val) = (alnumB (UInt8.ofNat k.val) || decide (UInt8.ofNat k.val ∈ tokA)) := by decide +kernel
  have := key ⟨b.toNat, UInt8.toNat_lt b⟩
  simpa only [UInt8.ofNat_toNat] using this
set_option maxRecDepth 100000 in
theorem tokb_any (w : World) (b : UInt8) : Calls Tryz.prog 62 #[.int .u8 (b.toNat : Int)] w (Ret w (.bool (tokC b))) := by
  have hIx := Tryz.strings_IndexByte ⟨#[33, 35, 36, 37, 38, 39, 42, 43, 45, 46, 94, 95, 124, 126, 96]⟩ (b.toNat : Int) w
  have hmem := ixb_mem b tokA
  have he : Lib.indexByte (⟨#[33, 35, 36, 37, 38, 39, 42, 43, 45, 46, 94, 95, 124, 126, 96]⟩ : ByteArray).data.toList ((b.toNat : Int)).toNat.toUInt8 = Lib.indexByte tokA b := by simp [tokA]
  rw [he] at hIx
  obtain ⟨z, hz⟩ : ∃ z, z = Lib.indexByte tokA b := ⟨_, rfl⟩
  rw [← hz] at hIx hmem
  have HIx := Lib.hid hIx
  have HMem := Lib.hid hmem
  obtain ⟨x, hx⟩ : ∃ x : Int, x = (b.toNat : Int) := ⟨_, rfl⟩
  obtain ⟨R, hR⟩ : ∃ R, R = tokC b := ⟨_, rfl⟩
  have HR : Hid (R = (alnumB b || decide (0 ≤ z))) := Lib.hid (by rw [hR, tok_tokA, hmem])
  rw [← hx] at HIx ⊢
  rw [← hR]
  clear hIx hmem he hz hR
  rcases (by omega : (x ≤ 47) ∨ (48 ≤ x ∧ x ≤ 57) ∨ (58 ≤ x ∧ x ≤ 64) ∨ (65 ≤ x ∧ x ≤ 90) ∨ (91 ≤ x ∧ x ≤ 96) ∨ (97 ≤ x ∧ x ≤ 122) ∨ (123 ≤ x)) with hc | hc | hc | hc | hc | hc | hc
  · have HR2 : Hid (R = decide (0 ≤ z)) := Lib.hid (by rw [HR.out, show alnumB b = false by unfold alnumB; simp; omega, Bool.false_or])
    have y0 : ((97 : Int) ≤ x) = False := eq_false (by omega)
    have y1 : (x ≤ (122 : Int)) = True := eq_true (by omega)
    have y2 : ((65 : Int) ≤ x) = False := eq_false (by omega)
    have y3 : (x ≤ (90 : Int)) = True := eq_true (by omega)
    have y4 : ((48 : Int) ≤ x) = False := eq_false (by omega)
    have y5 : (x ≤ (57 : Int)) = True := eq_true (by omega)
    clear hc hx
    go_enter Tryz.func62, Tryz.ntmps62
    go_wp2_with fail
    refine HIx.out.mono ?_
    rintro e w2 ⟨rfl, rfl⟩
    go_wp2
    go_ret
    rw [HR2.out]
    exact ⟨rfl, rfl⟩
  · obtain rfl : R = true := by rw [HR.out, show alnumB b = true by unfold alnumB; simp; omega]; rfl
    have y0 : ((97 : Int) ≤ x) = False := eq_false (by omega)
    have y1 : (x ≤ (122 : Int)) = True := eq_true (by omega)
    have y2 : ((65 : Int) ≤ x) = False := eq_false (by omega)
    have y3 : (x ≤ (90 : Int)) = True := eq_true (by omega)
    have y4 : ((48 : Int) ≤ x) = True := eq_true (by omega)
    have y5 : (x ≤ (57 : Int)) = True := eq_true (by omega)
    clear hc hx
    go_enter Tryz.func62, Tryz.ntmps62
    go_wp2
    go_ret
    exact ⟨rfl, rfl⟩
  · have HR2 : Hid (R = decide (0 ≤ z)) := Lib.hid (by rw [HR.out, show alnumB b = false by unfold alnumB; simp; omega, Bool.false_or])
    have y0 : ((97 : Int) ≤ x) = False := eq_false (by omega)
    have y1 : (x ≤ (122 : Int)) = True := eq_true (by omega)
    have y2 : ((65 : Int) ≤ x) = False := eq_false (by omega)
    have y3 : (x ≤ (90 : Int)) = True := eq_true (by omega)
    have y4 : ((48 : Int) ≤ x) = True := eq_true (by omega)
    have y5 : (x ≤ (57 : Int)) = False := eq_false (by omega)
    clear hc hx
    go_enter Tryz.func62, Tryz.ntmps62
    go_wp2_with fail
    refine HIx.out.mono ?_
    rintro e w2 ⟨rfl, rfl⟩
    go_wp2
    go_ret
    rw [HR2.out]
    exact ⟨rfl, rfl⟩
  · obtain rfl : R = true := by rw [HR.out, show alnumB b = true by unfold alnumB; simp; omega]; rfl
    have y0 : ((97 : Int) ≤ x) = False := eq_false (by omega)
    have y1 : (x ≤ (122 : Int)) = True := eq_true (by omega)
    have y2 : ((65 : Int) ≤ x) = True := eq_true (by omega)
    have y3 : (x ≤ (90 : Int)) = True := eq_true (by omega)
    have y4 : ((48 : Int) ≤ x) = True := eq_true (by omega)
    have y5 : (x ≤ (57 : Int)) = False := eq_false (by omega)
    clear hc hx
    go_enter Tryz.func62, Tryz.ntmps62
    go_wp2
    go_ret
    exact ⟨rfl, rfl⟩
  · have HR2 : Hid (R = decide (0 ≤ z)) := Lib.hid (by rw [HR.out, show alnumB b = false by unfold alnumB; simp; omega, Bool.false_or])
    have y0 : ((97 : Int) ≤ x) = False := eq_false (by omega)
    have y1 : (x ≤ (122 : Int)) = True := eq_true (by omega)
    have y2 : ((65 : Int) ≤ x) = True := eq_true (by omega)
    have y3 : (x ≤ (90 : Int)) = False := eq_false (by omega)
    have y4 : ((48 : Int) ≤ x) = True := eq_true (by omega)
    have y5 : (x ≤ (57 : Int)) = False := eq_false (by omega)
    clear hc hx
    go_enter Tryz.func62, Tryz.ntmps62
    go_wp2_with fail
    refine HIx.out.mono ?_
    rintro e w2 ⟨rfl, rfl⟩
    go_wp2
    go_ret
    rw [HR2.out]
    exact ⟨rfl, rfl⟩
  · obtain rfl : R = true := by rw [HR.out, show alnumB b = true by unfold alnumB; simp; omega]; rfl
    have y0 : ((97 : Int) ≤ x) = True := eq_true (by omega)
    have y1 : (x ≤ (122 : Int)) = True := eq_true (by omega)
    have y2 : ((65 : Int) ≤ x) = True := eq_true (by omega)
    have y3 : (x ≤ (90 : Int)) = False := eq_false (by omega)
    have y4 : ((48 : Int) ≤ x) = True := eq_true (by omega)
    have y5 : (x ≤ (57 : Int)) = False := eq_false (by omega)
    clear hc hx
    go_enter Tryz.func62, Tryz.ntmps62
    go_wp2
    go_ret
    exact ⟨rfl, rfl⟩
  · have HR2 : Hid (R = decide (0 ≤ z)) := Lib.hid (by rw [HR.out, show alnumB b = false by unfold alnumB; simp; omega, Bool.false_or])
    have y0 : ((97 : Int) ≤ x) = True := eq_true (by omega)
    have y1 : (x ≤ (122 : Int)) = False := eq_false (by omega)
    have y2 : ((65 : Int) ≤ x) = True := eq_true (by omega)
    have y3 : (x ≤ (90 : Int)) = False := eq_false (by omega)
    have y4 : ((48 : Int) ≤ x) = True := eq_true (by omega)
    have y5 : (x ≤ (57 : Int)) = False := eq_false (by omega)
    clear hc hx
    go_enter Tryz.func62, Tryz.ntmps62
    go_wp2_with fail
    refine HIx.out.mono ?_
    rintro e w2 ⟨rfl, rfl⟩
    go_wp2
    go_ret
    rw [HR2.out]
    exact ⟨rfl, rfl⟩
set_option maxRecDepth 100000 in
theorem rbyte_any (w : World) (b : UInt8) : Calls Tryz.prog 59 #[.int .u8 (b.toNat : Int)] w (BoolOf w (!valC b)) := by
  obtain ⟨x, hx⟩ : ∃ x : Int, x = (b.toNat : Int) := ⟨_, rfl⟩
  obtain ⟨R, hR⟩ : ∃ R, R = !valC b := ⟨_, rfl⟩
  rw [← hx, ← hR]
  rcases (by omega : (x < 32 ∧ x ≠ 9) ∨ x = 9 ∨ (32 ≤ x ∧ x ≠ 127) ∨ x = 127) with hc | hc | hc | hc
  · obtain rfl : R = true := by rw [hR]; unfold valC; simp; omega
    have y0 : (x < (32 : Int)) = True := eq_true (by omega)
    have y1 : (x != 9) = true := by simpa using hc.2
    have y2 : ¬ x = 9 := hc.2
    clear hc hx hR
    go_enter Tryz.func59, Tryz.ntmps59
    go_wp2
    go_ret
    exact ⟨rfl, Below.refl _ _⟩
  · obtain rfl : R = false := by rw [hR]; unfold valC; simp; omega
    subst hc
    clear hx hR
    go_enter Tryz.func59, Tryz.ntmps59
    go_wp2
    go_ret
    exact ⟨rfl, Below.refl _ _⟩
  · obtain rfl : R = false := by rw [hR]; unfold valC; simp; omega
    have y0 : (x < (32 : Int)) = False := eq_false (by omega)
    have y1 : (x == 127) = false := by simpa using hc.2
    have y2 : ¬ x = 127 := hc.2
    clear hc hx hR
    go_enter Tryz.func59, Tryz.ntmps59
    go_wp2
    go_ret
    exact ⟨rfl, Below.refl _ _⟩
  · obtain rfl : R = true := by rw [hR]; unfold valC; simp; omega
    subst hc
    clear hx hR
    go_enter Tryz.func59, Tryz.ntmps59
    go_wp2
    go_ret
    exact ⟨rfl, Below.refl _ _⟩
set_option maxRecDepth 100000 in
theorem fbyte_any (w : World) (b : UInt8) : Calls Tryz.prog 61 #[.int .u8 (b.toNat : Int)] w (BoolOf w (!tokC b)) := by
  have HT := Lib.hid (tokb_any w b)
  obtain ⟨x, hx⟩ : ∃ x : Int, x = (b.toNat : Int) := ⟨_, rfl⟩
  obtain ⟨T, hT⟩ : ∃ T, T = tokC b := ⟨_, rfl⟩
  rw [← hx, ← hT] at HT
  rw [← hx, ← hT]
  clear hx hT
  go_enter Tryz.func61, Tryz.ntmps61
  go_wp2_with fail
  refine HT.out.mono ?_
  rintro e w2 ⟨rfl, rfl⟩
  go_wp2
  go_ret
  exact ⟨rfl, Below.refl _ _⟩
theorem meas_up {i n : Nat} (hi : i < n) : n - (intOf (Value.int .i64 ((i : Int) + 1))).toNat < n - (intOf (Value.int .i64 (i : Int))).toNat := by
  simp only [intOf]
  omega
/-- the place of the first that is none -/
def IdxR (w : World) (p : UInt8 → Bool) (l : List UInt8) (e : Ending) (w' : World) : Prop := ∃ z : Int, e = .returned (.int .i64 z) ∧ (decide (0 ≤ z) = !(l.all p)) ∧ Below w.heap.size w w'
theorem all_take {p : UInt8 → Bool} {l : List UInt8} {i : Nat} (h : i < l.length) : (l.take (i + 1)).all p = ((l.take i).all p && p l[i]) := by
  rw [List.take_succ_eq_append_getElem h, List.all_append]; simp
theorem wrap_up {i n c : Nat} (h : i < n) (h2 : n ≤ c) (h3 : c ≤ maxLen) : RowKit.wrap64 ((i : Int) + 1) = (i : Int) + 1 := by unfold maxLen at h3; unfold RowKit.wrap64; omega
set_option maxRecDepth 100000 in
set_option maxHeartbeats 1000000 in
theorem rindex_any (w : World) {a : Option Addr} {n c : Nat} {l : List UInt8} (h : Sl w a n c (bv l)) : Calls Tryz.prog 82 #[.slice a n c, .func (.func 59) #[] #[]] w (IdxR w valC l) := by
  have hl := h.byte
  have hc1 := h.cap_le
  have hc2 := h.cap_max
  have HS := Lib.hid h
  have HL := Lib.hid hl
  have HC := Lib.hid (And.intro hc1 hc2)
  clear h hl hc1 hc2
  go_enter Tryz.func82, Tryz.ntmps82
  go_wp2_with fail
  go_loopw [8] (fun v wr => ∃ i : Nat, v = .int .i64 (i : Int) ∧ i ≤ n ∧ Hid ((l.take i).all valC = true) ∧ Below w.heap.size w wr) (fun v _ => n - (intOf v).toNat)
  case atStart => exact ⟨0, rfl, Nat.zero_le _, Lib.hid rfl, Below.refl _ _⟩
  case round =>
    obtain ⟨i, rfl, hin, HP, hb⟩ := hrel
    by_cases hi : i < n
    · have hil : (i : Int) < (n : Int) := by omega
      have hiz : i < l.length := by rw [HL.out]; exact hi
      obtain ⟨b, off, rfl, hcs⟩ := HS.out.cells (by omega)
      have hci := hcs i hi
      rw [bv_get l i hiz] at hci
      have hci : wr.cell? ⟨b, off + i, none⟩ = some (.int .u8 (l[i].toNat : Int)) := by rw [hb.cell (World.block_lt_of_cell? w _ hci)]; exact hci
      obtain ⟨x, hx⟩ : ∃ x, x = l[i] := ⟨_, rfl⟩
      rw [← hx] at hci
      have hB := rbyte_any wr x
      have HN : Hid ((l.take (i + 1)).all valC = ((l.take i).all valC && valC x)) := Lib.hid (by rw [hx]; exact all_take hiz)
      have HA : Hid (valC x = false → l.all valC = false) := Lib.hid (fun h => by rw [hx] at h; exact all_stop hiz h)
      have hiw := wrap_up hi HC.out.1 HC.out.2
      have HIw := Lib.hid hiw
      have HBr := Lib.hid hb
      have HI := Lib.hid hi
      obtain ⟨y, hy⟩ : ∃ y : Int, y = (x.toNat : Int) := ⟨_, rfl⟩
      rw [← hy] at hci hB
      clear hcs hx hb hi hy
      cases hnb : valC x with
      | true =>
        rw [hnb] at hB HN
        have HB := Lib.hid hB
        clear hnb hB
        go_wp2_with fail
        refine HB.out.mono ?_
        rintro e w2 ⟨rfl, hb2⟩
        have HB2 := Lib.hid (HBr.out.trans (hb2.mono HBr.out.size))
        clear hb2
        go_wp2_with fail
        go_roundw
        case rel => exact ⟨i + 1, by rw [HIw.out]; push_cast; rfl, HI.out, Lib.hid (by rw [HN.out, HP.out]; rfl), HB2.out⟩
        case measure => rw [HIw.out]; exact meas_up HI.out
      | false =>
        rw [hnb] at hB
        have HB := Lib.hid hB
        have HAl := Lib.hid (HA.out hnb)
        clear hnb hB
        go_wp2_with fail
        refine HB.out.mono ?_
        rintro e w2 ⟨rfl, hb2⟩
        have HB2 := Lib.hid (HBr.out.trans (hb2.mono HBr.out.size))
        clear hb2
        go_wp2
        go_ret
        exact ⟨(i : Int), rfl, by rw [HAl.out]; simp, HB2.out⟩
    · have hil : ¬ (i : Int) < (n : Int) := by omega
      have HAl : Hid (l.all valC = true) := Lib.hid (by have := HP.out; rwa [List.take_of_length_le (by rw [HL.out]; omega)] at this)
      have HBr := Lib.hid hb
      clear hb
      go_wp2
      go_ret
      exact ⟨-1, rfl, by rw [HAl.out]; rfl, HBr.out⟩
set_option maxRecDepth 100000 in
theorem rcont_any (w : World) {a : Option Addr} {n c : Nat} {l : List UInt8} (h : Sl w a n c (bv l)) : Calls Tryz.prog 58 #[.slice a n c, .func (.func 59) #[] #[]] w (BoolOf w (!(l.all valC))) := by
  have HI := Lib.hid (rindex_any w h)
  clear h
  go_enter Tryz.func58, Tryz.ntmps58
  go_wp2_with fail
  refine HI.out.mono ?_
  rintro e w2 ⟨z, rfl, hz, hb⟩
  have HZ := Lib.hid hz
  have HB := Lib.hid hb
  clear hz hb
  by_cases h0 : 0 ≤ z
  · go_wp2
    go_ret
    exact ⟨ret_bool (by rw [← HZ.out]; try simp [h0]), HB.out⟩
  · go_wp2
    go_ret
    exact ⟨ret_bool (by rw [← HZ.out]; try simp [h0]), HB.out⟩
set_option maxRecDepth 100000 in
set_option maxHeartbeats 1000000 in
theorem findex_any (w : World) {a : Option Addr} {n c : Nat} {l : List UInt8} (h : Sl w a n c (bv l)) : Calls Tryz.prog 82 #[.slice a n c, .func (.func 61) #[] #[]] w (IdxR w tokC l) := by
  have hl := h.byte
  have hc1 := h.cap_le
  have hc2 := h.cap_max
  have HS := Lib.hid h
  have HL := Lib.hid hl
  have HC := Lib.hid (And.intro hc1 hc2)
  clear h hl hc1 hc2
  go_enter Tryz.func82, Tryz.ntmps82
  go_wp2_with fail
  go_loopw [8] (fun v wr => ∃ i : Nat, v = .int .i64 (i : Int) ∧ i ≤ n ∧ Hid ((l.take i).all tokC = true) ∧ Below w.heap.size w wr) (fun v _ => n - (intOf v).toNat)
  case atStart => exact ⟨0, rfl, Nat.zero_le _, Lib.hid rfl, Below.refl _ _⟩
  case round =>
    obtain ⟨i, rfl, hin, HP, hb⟩ := hrel
    by_cases hi : i < n
    · have hil : (i : Int) < (n : Int) := by omega
      have hiz : i < l.length := by rw [HL.out]; exact hi
      obtain ⟨b, off, rfl, hcs⟩ := HS.out.cells (by omega)
      have hci := hcs i hi
      rw [bv_get l i hiz] at hci
      have hci : wr.cell? ⟨b, off + i, none⟩ = some (.int .u8 (l[i].toNat : Int)) := by rw [hb.cell (World.block_lt_of_cell? w _ hci)]; exact hci
      obtain ⟨x, hx⟩ : ∃ x, x = l[i] := ⟨_, rfl⟩
      rw [← hx] at hci
      have hB := fbyte_any wr x
      have HN : Hid ((l.take (i + 1)).all tokC = ((l.take i).all tokC && tokC x)) := Lib.hid (by rw [hx]; exact all_take hiz)
      have HA : Hid (tokC x = false → l.all tokC = false) := Lib.hid (fun h => by rw [hx] at h; exact all_stop hiz h)
      have hiw := wrap_up hi HC.out.1 HC.out.2
      have HIw := Lib.hid hiw
      have HBr := Lib.hid hb
      have HI := Lib.hid hi
      obtain ⟨y, hy⟩ : ∃ y : Int, y = (x.toNat : Int) := ⟨_, rfl⟩
      rw [← hy] at hci hB
      clear hcs hx hb hi hy
      cases hnb : tokC x with
      | true =>
        rw [hnb] at hB HN
        have HB := Lib.hid hB
        clear hnb hB
        go_wp2_with fail
        refine HB.out.mono ?_
        rintro e w2 ⟨rfl, hb2⟩
        have HB2 := Lib.hid (HBr.out.trans (hb2.mono HBr.out.size))
        clear hb2
        go_wp2_with fail
        go_roundw
        case rel => exact ⟨i + 1, by rw [HIw.out]; push_cast; rfl, HI.out, Lib.hid (by rw [HN.out, HP.out]; rfl), HB2.out⟩
        case measure => rw [HIw.out]; exact meas_up HI.out
      | false =>
        rw [hnb] at hB
        have HB := Lib.hid hB
        have HAl := Lib.hid (HA.out hnb)
        clear hnb hB
        go_wp2_with fail
        refine HB.out.mono ?_
        rintro e w2 ⟨rfl, hb2⟩
        have HB2 := Lib.hid (HBr.out.trans (hb2.mono HBr.out.size))
        clear hb2
        go_wp2
        go_ret
        exact ⟨(i : Int), rfl, by rw [HAl.out]; simp, HB2.out⟩
    · have hil : ¬ (i : Int) < (n : Int) := by omega
      have HAl : Hid (l.all tokC = true) := Lib.hid (by have := HP.out; rwa [List.take_of_length_le (by rw [HL.out]; omega)] at this)
      have HBr := Lib.hid hb
      clear hb
      go_wp2
      go_ret
      exact ⟨-1, rfl, by rw [HAl.out]; rfl, HBr.out⟩
set_option maxRecDepth 100000 in
theorem fcont_any (w : World) {a : Option Addr} {n c : Nat} {l : List UInt8} (h : Sl w a n c (bv l)) : Calls Tryz.prog 58 #[.slice a n c, .func (.func 61) #[] #[]] w (BoolOf w (!(l.all tokC))) := by
  have HI := Lib.hid (findex_any w h)
  clear h
  go_enter Tryz.func58, Tryz.ntmps58
  go_wp2_with fail
  refine HI.out.mono ?_
  rintro e w2 ⟨z, rfl, hz, hb⟩
  have HZ := Lib.hid hz
  have HB := Lib.hid hb
  clear hz hb
  by_cases h0 : 0 ≤ z
  · go_wp2
    go_ret
    exact ⟨ret_bool (by rw [← HZ.out]; try simp [h0]), HB.out⟩
  · go_wp2
    go_ret
    exact ⟨ret_bool (by rw [← HZ.out]; try simp [h0]), HB.out⟩
set_option maxRecDepth 100000 in
theorem rightb_any (w : World) (l : List UInt8) (hl : l.length ≤ maxLen) : Calls Tryz.prog 40 #[.string (strB l)] w (BoolOf w (l.all valC)) := by
  obtain ⟨c, w2, hcv, hbt, hbc, hb2⟩ := conv_bts2 w l hl
  have HCo := Lib.hid (rcont_any w2 (bts_sl hbt c hbc.1 hbc.2))
  have HB2 := Lib.hid hb2
  obtain ⟨n, hn⟩ : ∃ n, n = l.length := ⟨_, rfl⟩
  obtain ⟨g, hg⟩ : ∃ g, g = w.heap.size := ⟨_, rfl⟩
  obtain ⟨R, hR⟩ : ∃ R, R = l.all valC := ⟨_, rfl⟩
  rw [← hn, ← hg] at hcv HCo
  rw [← hR] at HCo ⊢
  clear hbt hbc hb2 hn hg hR hl
  go_enter Tryz.func40, Tryz.ntmps40
  go_wp2_with fail
  refine HCo.out.mono ?_
  rintro e w3 ⟨rfl, hb3⟩
  have HB3 : Hid (Below w.heap.size w w3) := Lib.hid (HB2.out.trans (hb3.mono HB2.out.size))
  clear hb3
  go_wp2
  go_ret
  exact ⟨ret_bool (by simp), HB3.out⟩
end Go.Proofs.YtfffefhchjnfjaaGreatDoor

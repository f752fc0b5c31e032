/- Contract of huff.Encode: the coded text, in new memory. -/
import Derived.Test.YtaeanhpdlkgghaaDoorHuffBits
import Derived.Test.YtaeanhpdlkgghaaDoorCopy
import Derived.Deep.RegionLaw
namespace Go.Proofs.YtaeanhpdlkgghaaDoor
open Go.RowKit

theorem or_code (h b c : Nat) (hh : h ≤ 127) (hb : b ≤ 15) (hc : c < 2 ^ b) :
    ∃ g : Nat, g ≤ 4161536 ∧ (h : Int) * 2 ^ b = (g : Int) ∧ Go.bits .or .i64 (g : Int) (c : Int) = ((g + c : Nat) : Int) ∧ g = h * 2 ^ b ∧ c ≤ 32767 := by
  have h1 : 2 ^ b ≤ 2 ^ 15 := Nat.pow_le_pow_right (by decide) hb
  have h2 : h * 2 ^ b ≤ 127 * 2 ^ 15 := Nat.mul_le_mul hh h1
  refine ⟨h * 2 ^ b, by omega, by rw [Int.natCast_mul, two_pow_cast], ?_, rfl, by omega⟩
  rw [i64_or_nat _ _ (by omega) (by omega), nat_join b _ c (Nat.mul_mod_left _ _) hc]
theorem and_low (g m : Nat) (hg : g < 9223372036854775808) (hm : m ≤ 8) : Go.bits .and .i64 (g : Int) (2 ^ m - 1) = ((g % 2 ^ m : Nat) : Int) := by
  have h1 : 2 ^ m ≤ 256 := Nat.pow_le_pow_right (n := 2) (by decide) hm
  have h0 : 1 ≤ 2 ^ m := Nat.one_le_two_pow
  have e : (2 ^ m - 1 : Int) = ((2 ^ m - 1 : Nat) : Int) := by have := two_pow_cast m; omega
  rw [e, i64_and_nat _ _ hg (by omega), Nat.and_two_pow_sub_one_eq_mod]

theorem or_lit (g q : Nat) (hg : (g : Int) ≤ 127) (hq : q ≤ 8) : Go.bits .or .i64 ((g : Int) * 2 ^ q) (2 ^ q - 1) = (g : Int) * 2 ^ q + (2 ^ q - 1) := by
  have h0 : 1 ≤ 2 ^ q := Nat.one_le_two_pow
  obtain ⟨t, e1, e2, e3, e4, e5⟩ := or_code g q (2 ^ q - 1) (by omega) (by omega) (by omega)
  have e6 : ((2 ^ q - 1 : Nat) : Int) = 2 ^ q - 1 := by have := two_pow_cast q; omega
  rw [e6] at e3
  rw [e2, e3]
  omega

set_option maxRecDepth 100000 in
set_option maxHeartbeats 4000000 in
theorem encode_any (w : World) {a : Option Addr} {n c : Nat} {l : List UInt8} (h : Sl w a n c (bv l)) (hn : n ≤ 70368744177664) :
    Calls Tryd.prog 73 #[.slice a n c] w (RetB w (encL l)) := by
  have hl1 : l.length ≤ n := by have := h.byte; omega
  have hl2 : n ≤ l.length := by have := h.byte; omega
  go_enter Tryd.func73, Tryd.ntmps73
  go_wp2_with fail
  refine (open_any w).mono ?_
  rintro e w1 ⟨p, a1, c1, rfl, hbk, hr, hp, hb1⟩
  have z1 := hb1.size
  go_wp2_with fail
  go_loopw [4, 5, 6, 14] (fun o hd hl i wr => ∃ (k g m : Nat) (a' : Option Addr) (c' : Nat), k ≤ n ∧ i = .int .i64 k ∧ hd = .int .i64 g ∧ hl = .int .i64 m ∧ (g : Int) ≤ 127 ∧ m ≤ 7 ∧
    o = .slice a' (packF (encB (l.take k))).length c' ∧ wr.ownsRow w1.heap.size 5 1 (.slice a' (packF (encB (l.take k))).length c') (packF (encB (l.take k))).length (bv (packF (encB (l.take k)))) ∧
    restB (encB (l.take k)) = tb g m ∧ Below w1.heap.size w1 wr) (fun _ _ _ i _ => n - (intOf i).toNat)
  case atStart =>
    refine ⟨0, 0, 0, none, 0, by omega, rfl, rfl, rfl, by omega, by omega, ?_, ?_, ?_, Below.refl _ _⟩
    · simp only [List.take_zero, encB, packF_lt (bs := []) (by simp)]; rfl
    · simp only [List.take_zero, encB, packF_lt (bs := []) (by simp)]; exact World.ownsRow_nil _ _ _ _
    · simp only [List.take_zero, encB, restB_lt (bs := []) (by simp)]; rfl
  case round =>
    obtain ⟨k, g, m, a', c', hk, rfl, rfl, rfl, hg, hm, rfl, ho, hrest, hb'⟩ := hrel
    have HR := Lib.hid hrest
    clear hrest
    have hbs := hb'.size
    have hb : Below w.heap.size w wr := hb1.trans (hb'.mono z1)
    by_cases hlt : k < n
    · have hkl : k < l.length := by omega
      have HT := Lib.hid (encB_take l k hkl)
      obtain ⟨b, off, rfl, hc⟩ := h.cells (by omega)
      have g1 := hc k hlt
      rw [bv_get l k hkl] at g1
      have q1 : wr.cell? ⟨b, off + k, none⟩ = some (.int .u8 (l[k].toNat : Int)) := by rw [hb.cell (World.block_lt_of_cell? w _ g1)]; exact g1
      clear g1 hc
      have kk : (k : Int) < (n : Int) := by omega
      go_wp2_with fail
      refine (code_any wr p a1 c1 (hbk.below hb') (hr.below hb') l[k]).mono ?_
      rintro e w2 ⟨rfl, hb2⟩
      have hcl := code_lt l[k]
      have hbl := bits_le l[k]
      have hpa := pack_app (encB (l.take k)) (tb (codeN l[k]) (bitsN l[k]))
      rw [← HT.out, HR.out] at hpa
      have hlenk := pack_len (encB (l.take (k + 1)))
      rw [encB_len] at hlenk
      have hsum := bitSum_le (l.take (k + 1))
      rw [List.length_take] at hsum
      have hlenle : (packF (encB (l.take (k + 1)))).length ≤ 140737488355328 := by omega
      clear hlenk hsum
      obtain ⟨t, e1, e2, e3, e4, e5⟩ := or_code g (bitsN l[k]) (codeN l[k]) (by omega) hbl hcl
      have ho2 := own_below ho hb2
      have hb02 := hb'.trans (hb2.mono hbs)
      have htb := tb_append (bitsN l[k]) g m (codeN l[k]) hcl
      rw [← e4] at htb
      rw [← htb] at hpa
      have HP := Lib.hid hpa
      clear hpa htb e4 hcl
      have hp0 : (1 : Int) ≤ 2 ^ bitsN l[k] := by have := Nat.one_le_two_pow (n := bitsN l[k]); have := two_pow_cast (bitsN l[k]); omega
      generalize packF (encB (l.take k)) = P at ho2 HP ⊢
      obtain ⟨P2, hP2⟩ : ∃ P2, P2 = packF (encB (l.take (k + 1))) := ⟨_, rfl⟩
      obtain ⟨R2, hR2⟩ : ∃ R2, R2 = restB (encB (l.take (k + 1))) := ⟨_, rfl⟩
      rw [← hP2, ← hR2] at HP
      rw [← hP2] at hlenle
      have HP2 := Lib.hid hP2
      have HR2 := Lib.hid hR2
      clear hP2 hR2
      obtain ⟨u, hu⟩ : ∃ u : Nat, u = t + codeN l[k] := ⟨_, rfl⟩
      rw [← hu] at e3 HP
      have hu1 : (u : Int) ≤ 4194303 := by omega
      clear hu
      go_wp2_with fail
      clear e2 e3
      have hz2 := hb02.size
      go_loopw [4, 6] (fun o hl wr => ∃ (j : Nat) (L : List UInt8) (a' : Option Addr) (c' : Nat), hl = .int .i64 j ∧ j ≤ 22 ∧ o = .slice a' L.length c' ∧ wr.ownsRow w1.heap.size 5 1 (.slice a' L.length c') L.length (bv L) ∧
        L ++ packF (tb u j) = P2 ∧ restB (tb u j) = R2 ∧ Below w1.heap.size w1 wr) (fun _ hl _ => (intOf hl).toNat)
      case atStart => exact ⟨m + bitsN l[k], P, a', c', by go_num, by omega, rfl, ho2, HP.out.1.symm, HP.out.2.symm, hb02⟩
      case round =>
        obtain ⟨j, L, a3, c3, rfl, hj, rfl, ho3, hL, hR, hb3⟩ := hrel
        have HL := Lib.hid hL
        have HR4 := Lib.hid hR
        have hLl : L.length ≤ P2.length := by rw [← hL]; simp
        clear hL hR
        have hz3 := hb3.size
        by_cases h8 : 8 ≤ j
        · have hs := tb_split u 8 (j - 8)
          rw [show 8 + (j - 8) = j by omega] at hs
          have hL2 : L ++ [UInt8.ofNat (u / 2 ^ (j - 8) % 256)] ++ packF (tb u (j - 8)) = P2 := by
            rw [← HL.out, hs, packF_8 (tb_len 8 _), val_tb]; simp
          have hR2' : restB (tb u (j - 8)) = R2 := by rw [← HR4.out, hs, restB_8 (tb_len 8 _)]
          have HL2 := Lib.hid hL2
          have HR3 := Lib.hid hR2'
          have hLl2 : L.length + 1 ≤ P2.length := by rw [← hL2]; simp
          clear hs hL2 hR2'
          go_wp2_with (at_builtin; refine wpL_app1 tyU8 rfl _ _ rfl rfl rfl ho3 rfl (by omega) (by unfold maxLen; omega) hb3 (Nat.le_refl _) hz3 ?_; intro a4 c4 w4 ho4 hb4 _)
          go_roundw
          case rel =>
            refine ⟨j - 8, L ++ [UInt8.ofNat (u / 2 ^ (j - 8) % 256)], a4, c4, by go_num, by omega, by simp, ?_, HL2.out, HR3.out, hb4⟩
            rw [show ((u : Int) / 2 ^ (j - 8) % 256) = ((u / 2 ^ (j - 8) % 256 : Nat) : Int) by rw [← two_pow_cast]; simp, bv_snoc8 _ _ (by omega)] at ho4
            simpa using ho4
          case measure => simp [intOf]; omega
        · have hpj : (1 : Int) ≤ 2 ^ j := by have := Nat.one_le_two_pow (n := j); have := two_pow_cast j; omega
          have hpj2 : (2 : Int) ^ j ≤ 128 := by have : 2 ^ j ≤ 2 ^ 7 := Nat.pow_le_pow_right (by decide) (by omega)
                                                have := two_pow_cast j; omega
          have hand := and_low u j (by omega) (by omega)
          have hmod := Nat.mod_lt u (Nat.two_pow_pos j)
          obtain ⟨v, hv⟩ : ∃ v : Nat, v = u % 2 ^ j := ⟨_, rfl⟩
          rw [← hv] at hand hmod
          have HV := Lib.hid hv
          have hv127 : (v : Int) ≤ 127 := by have := two_pow_cast j; omega
          clear hv hmod
          have hP : P2 = L := by have := HL.out; rw [packF_lt (by rw [tb_len]; omega)] at this; simpa using this.symm
          have HPP := Lib.hid hP
          clear hP
          go_wp2
          go_roundw
          case rel =>
            refine ⟨k + 1, v, j, a3, c3, by omega, by go_num, rfl, rfl, hv127, by omega, ?_, ?_, ?_, hb3⟩
            · rw [← HP2.out, HPP.out]
            · rw [← HP2.out, HPP.out]; exact ho3
            · rw [← HR2.out, ← HR4.out, restB_lt (by rw [tb_len]; omega), HV.out, tb_mod]
          case measure => simp [intOf]; omega
    · have hE : l.take k = l := List.take_of_length_le (by omega)
      rw [hE] at ho HR ⊢
      clear hE
      have ho' := own_mono ho z1
      have hL : Hid (encL l = packF (encB l) ++ lastB (tb g m)) := by show _ = _; unfold encL packL; rw [HR.out]
      have hle := encL_len l
      have hle2 : (packF (encB l)).length + 1 ≤ 140737488355328 := by
        have h1 := pack_len (encB l)
        have h2 := bitSum_le l
        rw [encB_len] at h1
        omega
      clear hle
      generalize packF (encB l) = P at ho ho' hL hle2 ⊢
      by_cases hm0 : m = 0
      · have hm0' : ¬ (0 : Int) < (m : Int) := by omega
        have hL2 : Hid (encL l = P) := by show _ = _; rw [hL.out, hm0]; simp [tb, lastB]
        clear hm0
        go_wp2
        go_ret
        exact RetB.mk rfl ho' (by rw [hL2.out]) hb
      · have hm0' : (0 : Int) < (m : Int) := by omega
        have hm7 : m = 1 ∨ m = 2 ∨ m = 3 ∨ m = 4 ∨ m = 5 ∨ m = 6 ∨ m = 7 := by omega
        go_wp2_with fail
        rcases hm7 with rfl | rfl | rfl | rfl | rfl | rfl | rfl
        · have f0 : IntKind.i64.wrap 7 = 7 := by decide
          have f3 : IntKind.i64.wrap 128 = 128 := by decide
          have f4 : IntKind.i64.wrap 127 = 127 := by decide
          have f1 : IntKind.i64.wrap ((g : Int) * 128) = (g : Int) * 128 := by rw [IntKind.wrap_i64]; omega
          have f2 : Go.bits .or .i64 ((g : Int) * 128) 127 = (g : Int) * 128 + 127 := or_lit g 7 hg (by decide)
          have HV : Hid (bv (encL l) = bv P ++ [Value.int .u8 (((g % 2 ^ 1 * 2 ^ 7 + (2 ^ 7 - 1) : Nat)) : Int)]) := by
            show _ = _
            rw [hL.out, bv_snoc8 _ _ (by omega)]
            congr 2
            unfold lastB
            rw [if_neg (by intro h; have := congrArg List.length h; rw [tb_len] at this; simp at this), tb_len, val_ones, val_tb]
          go_region_law (refine wpS_app1 tyU8 (w := wr.drew) rfl (.tmp 52) (.tmp 63) rfl rfl rfl ho'.drew rfl (by omega) (by unfold maxLen; omega) hb.drew (Nat.le_refl _) (by have := hb.size; simpa using this) ?_; intro a4 c4 w4 ho4 hb4 _)
          go_wp2
          go_ret
          refine RetB.mk rfl ho4 ?_ hb4
          rw [HV.out, IntKind.wrap_u8]
          congr 3
          omega
        · have f0 : IntKind.i64.wrap 6 = 6 := by decide
          have f3 : IntKind.i64.wrap 64 = 64 := by decide
          have f4 : IntKind.i64.wrap 63 = 63 := by decide
          have f1 : IntKind.i64.wrap ((g : Int) * 64) = (g : Int) * 64 := by rw [IntKind.wrap_i64]; omega
          have f2 : Go.bits .or .i64 ((g : Int) * 64) 63 = (g : Int) * 64 + 63 := or_lit g 6 hg (by decide)
          have HV : Hid (bv (encL l) = bv P ++ [Value.int .u8 (((g % 2 ^ 2 * 2 ^ 6 + (2 ^ 6 - 1) : Nat)) : Int)]) := by
            show _ = _
            rw [hL.out, bv_snoc8 _ _ (by omega)]
            congr 2
            unfold lastB
            rw [if_neg (by intro h; have := congrArg List.length h; rw [tb_len] at this; simp at this), tb_len, val_ones, val_tb]
          go_region_law (refine wpS_app1 tyU8 (w := wr.drew) rfl (.tmp 52) (.tmp 63) rfl rfl rfl ho'.drew rfl (by omega) (by unfold maxLen; omega) hb.drew (Nat.le_refl _) (by have := hb.size; simpa using this) ?_; intro a4 c4 w4 ho4 hb4 _)
          go_wp2
          go_ret
          refine RetB.mk rfl ho4 ?_ hb4
          rw [HV.out, IntKind.wrap_u8]
          congr 3
          omega
        · have f0 : IntKind.i64.wrap 5 = 5 := by decide
          have f3 : IntKind.i64.wrap 32 = 32 := by decide
          have f4 : IntKind.i64.wrap 31 = 31 := by decide
          have f1 : IntKind.i64.wrap ((g : Int) * 32) = (g : Int) * 32 := by rw [IntKind.wrap_i64]; omega
          have f2 : Go.bits .or .i64 ((g : Int) * 32) 31 = (g : Int) * 32 + 31 := or_lit g 5 hg (by decide)
          have HV : Hid (bv (encL l) = bv P ++ [Value.int .u8 (((g % 2 ^ 3 * 2 ^ 5 + (2 ^ 5 - 1) : Nat)) : Int)]) := by
            show _ = _
            rw [hL.out, bv_snoc8 _ _ (by omega)]
            congr 2
            unfold lastB
            rw [if_neg (by intro h; have := congrArg List.length h; rw [tb_len] at this; simp at this), tb_len, val_ones, val_tb]
          go_region_law (refine wpS_app1 tyU8 (w := wr.drew) rfl (.tmp 52) (.tmp 63) rfl rfl rfl ho'.drew rfl (by omega) (by unfold maxLen; omega) hb.drew (Nat.le_refl _) (by have := hb.size; simpa using this) ?_; intro a4 c4 w4 ho4 hb4 _)
          go_wp2
          go_ret
          refine RetB.mk rfl ho4 ?_ hb4
          rw [HV.out, IntKind.wrap_u8]
          congr 3
          omega
        · have f0 : IntKind.i64.wrap 4 = 4 := by decide
          have f3 : IntKind.i64.wrap 16 = 16 := by decide
          have f4 : IntKind.i64.wrap 15 = 15 := by decide
          have f1 : IntKind.i64.wrap ((g : Int) * 16) = (g : Int) * 16 := by rw [IntKind.wrap_i64]; omega
          have f2 : Go.bits .or .i64 ((g : Int) * 16) 15 = (g : Int) * 16 + 15 := or_lit g 4 hg (by decide)
          have HV : Hid (bv (encL l) = bv P ++ [Value.int .u8 (((g % 2 ^ 4 * 2 ^ 4 + (2 ^ 4 - 1) : Nat)) : Int)]) := by
            show _ = _
            rw [hL.out, bv_snoc8 _ _ (by omega)]
            congr 2
            unfold lastB
            rw [if_neg (by intro h; have := congrArg List.length h; rw [tb_len] at this; simp at this), tb_len, val_ones, val_tb]
          go_region_law (refine wpS_app1 tyU8 (w := wr.drew) rfl (.tmp 52) (.tmp 63) rfl rfl rfl ho'.drew rfl (by omega) (by unfold maxLen; omega) hb.drew (Nat.le_refl _) (by have := hb.size; simpa using this) ?_; intro a4 c4 w4 ho4 hb4 _)
          go_wp2
          go_ret
          refine RetB.mk rfl ho4 ?_ hb4
          rw [HV.out, IntKind.wrap_u8]
          congr 3
          omega
        · have f0 : IntKind.i64.wrap 3 = 3 := by decide
          have f3 : IntKind.i64.wrap 8 = 8 := by decide
          have f4 : IntKind.i64.wrap 7 = 7 := by decide
          have f1 : IntKind.i64.wrap ((g : Int) * 8) = (g : Int) * 8 := by rw [IntKind.wrap_i64]; omega
          have f2 : Go.bits .or .i64 ((g : Int) * 8) 7 = (g : Int) * 8 + 7 := or_lit g 3 hg (by decide)
          have HV : Hid (bv (encL l) = bv P ++ [Value.int .u8 (((g % 2 ^ 5 * 2 ^ 3 + (2 ^ 3 - 1) : Nat)) : Int)]) := by
            show _ = _
            rw [hL.out, bv_snoc8 _ _ (by omega)]
            congr 2
            unfold lastB
            rw [if_neg (by intro h; have := congrArg List.length h; rw [tb_len] at this; simp at this), tb_len, val_ones, val_tb]
          go_region_law (refine wpS_app1 tyU8 (w := wr.drew) rfl (.tmp 52) (.tmp 63) rfl rfl rfl ho'.drew rfl (by omega) (by unfold maxLen; omega) hb.drew (Nat.le_refl _) (by have := hb.size; simpa using this) ?_; intro a4 c4 w4 ho4 hb4 _)
          go_wp2
          go_ret
          refine RetB.mk rfl ho4 ?_ hb4
          rw [HV.out, IntKind.wrap_u8]
          congr 3
          omega
        · have f0 : IntKind.i64.wrap 2 = 2 := by decide
          have f3 : IntKind.i64.wrap 4 = 4 := by decide
          have f4 : IntKind.i64.wrap 3 = 3 := by decide
          have f1 : IntKind.i64.wrap ((g : Int) * 4) = (g : Int) * 4 := by rw [IntKind.wrap_i64]; omega
          have f2 : Go.bits .or .i64 ((g : Int) * 4) 3 = (g : Int) * 4 + 3 := or_lit g 2 hg (by decide)
          have HV : Hid (bv (encL l) = bv P ++ [Value.int .u8 (((g % 2 ^ 6 * 2 ^ 2 + (2 ^ 2 - 1) : Nat)) : Int)]) := by
            show _ = _
            rw [hL.out, bv_snoc8 _ _ (by omega)]
            congr 2
            unfold lastB
            rw [if_neg (by intro h; have := congrArg List.length h; rw [tb_len] at this; simp at this), tb_len, val_ones, val_tb]
          go_region_law (refine wpS_app1 tyU8 (w := wr.drew) rfl (.tmp 52) (.tmp 63) rfl rfl rfl ho'.drew rfl (by omega) (by unfold maxLen; omega) hb.drew (Nat.le_refl _) (by have := hb.size; simpa using this) ?_; intro a4 c4 w4 ho4 hb4 _)
          go_wp2
          go_ret
          refine RetB.mk rfl ho4 ?_ hb4
          rw [HV.out, IntKind.wrap_u8]
          congr 3
          omega
        · have f0 : IntKind.i64.wrap 1 = 1 := by decide
          have f3 : IntKind.i64.wrap 2 = 2 := by decide
          have f4 : IntKind.i64.wrap 1 = 1 := by decide
          have f1 : IntKind.i64.wrap ((g : Int) * 2) = (g : Int) * 2 := by rw [IntKind.wrap_i64]; omega
          have f2 : Go.bits .or .i64 ((g : Int) * 2) 1 = (g : Int) * 2 + 1 := or_lit g 1 hg (by decide)
          have HV : Hid (bv (encL l) = bv P ++ [Value.int .u8 (((g % 2 ^ 7 * 2 ^ 1 + (2 ^ 1 - 1) : Nat)) : Int)]) := by
            show _ = _
            rw [hL.out, bv_snoc8 _ _ (by omega)]
            congr 2
            unfold lastB
            rw [if_neg (by intro h; have := congrArg List.length h; rw [tb_len] at this; simp at this), tb_len, val_ones, val_tb]
          go_region_law (refine wpS_app1 tyU8 (w := wr.drew) rfl (.tmp 52) (.tmp 63) rfl rfl rfl ho'.drew rfl (by omega) (by unfold maxLen; omega) hb.drew (Nat.le_refl _) (by have := hb.size; simpa using this) ?_; intro a4 c4 w4 ho4 hb4 _)
          go_wp2
          go_ret
          refine RetB.mk rfl ho4 ?_ hb4
          rw [HV.out, IntKind.wrap_u8]
          congr 3
          omega
end Go.Proofs.YtaeanhpdlkgghaaDoor

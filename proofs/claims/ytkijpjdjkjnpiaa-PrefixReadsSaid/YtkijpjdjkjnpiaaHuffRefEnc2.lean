/- Contract of the reference's Encode: the coded text. -/
import Derived.Test.YtkijpjdjkjnpiaaHuffRefEnc
namespace Go.Proofs.Ytkijpjdjkjnpiaa
open Go.RowKit

def lenOf : Value → Nat | .string s => s.size | _ => 0
theorem strB_extract (l : List UInt8) (a b : Nat) : (strB l).extract a b = strB ((l.take b).drop a) := by
  apply ByteArray.ext
  simp only [ByteArray.data_extract, strB]
  apply Array.ext'
  rw [Array.toList_extract]
  simp [List.extract, List.drop_take]
theorem bitsS_take (bs : List Bool) (k : Nat) : (bitsS bs).take k = bitsS (bs.take k) := by simp [bitsS, List.map_take]
theorem bitsS_drop (bs : List Bool) (k : Nat) : (bitsS bs).drop k = bitsS (bs.drop k) := by simp [bitsS, List.map_drop]

theorem add_one (R : List Bool) (j : Nat) : strB (bitsS (R ++ List.replicate j true)) ++ ⟨#[49]⟩ = strB (bitsS (R ++ List.replicate (j + 1) true)) := by
  have e : (⟨#[49]⟩ : ByteArray) = strB [49] := rfl
  rw [e, strB_app, List.replicate_succ', ← List.append_assoc, bitsS_app (R ++ List.replicate j true)]
  rfl

set_option maxRecDepth 100000 in
set_option maxHeartbeats 4000000 in
theorem rencode_any (w : World) {a : Option Addr} {n c : Nat} {l : List UInt8} (h : Sl w a n c (bv l)) (hn : n ≤ 70368744177664) :
    Calls Try.prog 23 #[.slice a n c] w (RetB w (encL l)) := by
  have hl1 : l.length ≤ n := by have := h.byte; omega
  have hl2 : n ≤ l.length := by have := h.byte; omega
  go_enter Try.func23, Try.ntmps23
  go_wp2_with fail
  go_loopw [3, 4, 5] (fun o s i wr => ∃ (k : Nat) (a' : Option Addr) (c' : Nat), k ≤ n ∧ i = .int .i64 k ∧ s = .string (strB (bitsS (restB (encB (l.take k))))) ∧
    o = .slice a' (packF (encB (l.take k))).length c' ∧ wr.ownsRow w.heap.size 5 1 (.slice a' (packF (encB (l.take k))).length c') (packF (encB (l.take k))).length (bv (packF (encB (l.take k)))) ∧
    Below w.heap.size w wr) (fun _ _ i _ => n - (intOf i).toNat)
  case atStart =>
    refine ⟨0, some ⟨w.heap.size, 0, none⟩, 0, by omega, rfl, ?_, ?_, ?_, (Below.refl _ _).alloc (Nat.le_refl _) _⟩
    · simp only [List.take_zero, encB, restB_lt (bs := []) (by simp)]; rfl
    · simp only [List.take_zero, encB, packF_lt (bs := []) (by simp)]; rfl
    · simp only [List.take_zero, encB, packF_lt (bs := []) (by simp)]
      exact World.ownsRow_lit w #[] 0 (Nat.le_refl _) (by decide) rfl
  case round =>
    obtain ⟨k, a', c', hk, rfl, rfl, rfl, ho, hb⟩ := hrel
    have hbs := hb.size
    by_cases hlt : k < n
    · have hkl : k < l.length := by omega
      have HT := Lib.hid (encB_take l k hkl)
      obtain ⟨b, off, rfl, hc⟩ := h.cells (by omega)
      have g1 := hc k hlt
      rw [bv_get l k hkl] at g1
      have q1 : wr.cell? ⟨b, off + k, none⟩ = some (.int .u8 (l[k].toNat : Int)) := by rw [hb.cell (World.block_lt_of_cell? w _ g1)]; exact g1
      clear g1 hc
      have kk : (k : Int) < (n : Int) := by omega
      have hbl := bits_le l[k]
      have hpa := pack_app (encB (l.take k)) (tb (codeN l[k]) (bitsN l[k]))
      rw [← HT.out] at hpa
      have hlenk := pack_len (encB (l.take (k + 1)))
      rw [encB_len] at hlenk
      have hsum := bitSum_le (l.take (k + 1))
      rw [List.length_take] at hsum
      have hlenle : (packF (encB (l.take (k + 1)))).length ≤ 140737488355328 := by omega
      clear hlenk hsum
      have hR8 := restB_len (encB (l.take k))
      have HP := Lib.hid hpa
      clear hpa
      generalize packF (encB (l.take k)) = P at ho HP ⊢
      generalize restB (encB (l.take k)) = R at HP hR8 ⊢
      obtain ⟨P2, hP2⟩ : ∃ P2, P2 = packF (encB (l.take (k + 1))) := ⟨_, rfl⟩
      obtain ⟨R2, hR2⟩ : ∃ R2, R2 = restB (encB (l.take (k + 1))) := ⟨_, rfl⟩
      rw [← hP2, ← hR2] at HP
      rw [← hP2] at hlenle
      have HP2 := Lib.hid hP2
      have HR2 := Lib.hid hR2
      clear hP2 hR2
      have hCT : (tb (codeN l[k]) (bitsN l[k])).length ≤ 15 := by rw [tb_len]; exact hbl
      generalize hCc : tb (codeN l[k]) (bitsN l[k]) = C at hCT HP
      go_wp2_with fail
      refine (rcode_any l[k] wr).mono ?_
      rw [hCc]
      clear hCc
      rintro e w2 ⟨rfl, hb2⟩
      have ho2 := own_below ho hb2
      have hb02 := hb.trans (hb2.mono hbs)
      have hss := strB_size
      have hbl2 := bitsS_len
      have happ := strB_app
      go_wp2_with fail
      go_loopw [3, 4] (fun o s wr => ∃ (L : List UInt8) (bs : List Bool) (a' : Option Addr) (c' : Nat), s = .string (strB (bitsS bs)) ∧ bs.length ≤ 30 ∧ o = .slice a' L.length c' ∧ wr.ownsRow w.heap.size 5 1 (.slice a' L.length c') L.length (bv L) ∧
        L ++ packF bs = P2 ∧ restB bs = R2 ∧ Below w.heap.size w wr) (fun _ s _ => lenOf s)
      case atStart => exact ⟨P, R ++ C, a', c', by first | rfl | rw [bitsS_app], by simp; omega, rfl, ho2, HP.out.1.symm, HP.out.2.symm, hb02⟩
      case round =>
        obtain ⟨L, bs, a3, c3, rfl, hj, rfl, ho3, hL, hR, hb3⟩ := hrel
        have HL := Lib.hid hL
        have HR4 := Lib.hid hR
        have hLl : L.length ≤ P2.length := by rw [← hL]; simp
        clear hL hR
        have hz3 := hb3.size
        by_cases h8 : 8 ≤ bs.length
        · have hsp : bs.take 8 ++ bs.drop 8 = bs := List.take_append_drop 8 bs
          have ht8 : (bs.take 8).length = 8 := by rw [List.length_take]; omega
          have hL2 : L ++ [UInt8.ofNat (val (bs.take 8))] ++ packF (bs.drop 8) = P2 := by
            rw [← HL.out]; conv => rhs; rw [← hsp]
            rw [packF_8 ht8]; simp
          have hR2' : restB (bs.drop 8) = R2 := by rw [← HR4.out]; conv => rhs; rw [← hsp]
                                                   rw [restB_8 ht8]
          have HL2 := Lib.hid hL2
          have HR3 := Lib.hid hR2'
          have hLl2 : L.length + 1 ≤ P2.length := by rw [← hL2]; simp
          have hv8 := val_lt8 (bs.take 8) (by omega)
          clear hL2 hR2' hsp
          have hex := strB_extract
          have hbt := bitsS_take
          have hbd := bitsS_drop
          have HV := Lib.hid (value_any (bs.take 8) (by omega) wr)
          go_wp2_with fail
          refine HV.out.mono ?_
          rintro e w' ⟨rfl, rfl⟩
          go_wp2_with (at_builtin; refine wpL_app1 tyU8 rfl _ _ rfl rfl rfl ho3 rfl (by omega) (by unfold maxLen; omega) hb3 (Nat.le_refl _) hz3 ?_; intro a4 c4 w4 ho4 hb4 _)
          go_roundw
          case rel =>
            refine ⟨L ++ [UInt8.ofNat (val (bs.take 8))], bs.drop 8, a4, c4, ?_, by simp; omega, by simp, ?_, HL2.out, HR3.out, hb4⟩
            · first | rfl | (rw [List.take_of_length_le (by simp)])
            · rw [bv_snoc8 _ _ (by omega)] at ho4
              simpa using ho4
          case measure => simp [lenOf, strB_size, bitsS_len]; omega
        · have hP : P2 = L := by have := HL.out; rw [packF_lt (by omega)] at this; simpa using this.symm
          have hR2e : R2 = bs := by have := HR4.out; rw [restB_lt (by omega)] at this; exact this.symm
          have HPP := Lib.hid hP
          have HRR := Lib.hid hR2e
          clear hP hR2e
          go_wp2
          go_roundw
          case rel =>
            refine ⟨k + 1, a3, c3, by omega, by go_num, ?_, ?_, ?_, hb3⟩
            · rw [← HR2.out, HRR.out]
            · rw [← HP2.out, HPP.out]
            · rw [← HP2.out, HPP.out]; exact ho3
          case measure => simp [intOf]; omega
    · have hE : l.take k = l := List.take_of_length_le (by omega)
      rw [hE] at ho ⊢
      clear hE
      have hR8 := restB_len (encB l)
      have hL : Hid (encL l = packF (encB l) ++ lastB (restB (encB l))) := rfl
      have hle2 : (packF (encB l)).length + 1 ≤ 140737488355328 := by
        have h1 := pack_len (encB l)
        have h2 := bitSum_le l
        rw [encB_len] at h1
        omega
      generalize packF (encB l) = P at ho hL hle2 ⊢
      generalize restB (encB l) = R at hL hR8 ⊢
      have hss := strB_size
      have hbl2 := bitsS_len
      by_cases hR0 : R = []
      · subst hR0
        have hL2 : Hid (encL l = P) := by show _ = _; rw [hL.out]; simp [lastB]
        have hz : (((bitsS []).length : Int) == 0) = true := by rfl
        go_wp2
        go_ret
        exact RetB.mk rfl ho (by rw [hL2.out]) hb
      · have hRp : 0 < R.length := List.length_pos_iff.2 hR0
        have hz : ((R.length : Int) == 0) = false := by simp; omega
        have hL2 : Hid (encL l = P ++ [UInt8.ofNat (val (R ++ List.replicate (8 - R.length) true))]) := by
          show _ = _; rw [hL.out]; unfold lastB; rw [if_neg hR0]
        clear hR0
        have happ := strB_app
        go_wp2_with fail
        go_loopw [4] (fun s wr' => ∃ j : Nat, j ≤ 8 - R.length ∧ s = .string (strB (bitsS (R ++ List.replicate j true))) ∧ wr = wr') (fun s _ => 8 - lenOf s)
        case atStart => exact ⟨0, by omega, by simp, rfl⟩
        case round =>
          obtain ⟨j, hj, rfl, rfl⟩ := hrel
          have hrp : (R ++ List.replicate j true).length = R.length + j := by simp
          by_cases hlt2 : R.length + j < 8
          · go_wp2
            go_roundw
            case rel =>
              refine ⟨j + 1, by omega, ?_, by trivial⟩
              rw [add_one]
            case measure => rw [add_one]; simp [lenOf, strB_size, bitsS_len]; omega
          · have hje : Hid (j = 8 - R.length) := by show _ = _; omega
            have HV := Lib.hid (value_any (R ++ List.replicate j true) (by omega) wr)
            have hv8 := val_lt8 (R ++ List.replicate j true) (by omega)
            go_wp2_with fail
            refine HV.out.mono ?_
            rintro e w' ⟨rfl, rfl⟩
            have hsz := hb.size
            go_wp2_with (at_builtin; refine wpL_app1 tyU8 rfl _ _ rfl rfl rfl ho rfl (by omega) (by unfold maxLen; omega) hb (Nat.le_refl _) hsz ?_; intro a4 c4 w4 ho4 hb4 _)
            go_ret
            refine RetB.mk rfl ho4 ?_ hb4
            rw [hL2.out, ← hje.out, bv_snoc8 _ _ hv8]
end Go.Proofs.Ytkijpjdjkjnpiaa

/- GetText and the document's GetText answer textR, for any arguments. -/
import Derived.Test.YtkijpjdjkjnpiaaPfxGet
import Derived.Test.YtkijpjdjkjnpiaaPfxRefGet
import Derived.Test.YtkijpjdjkjnpiaaPfxText
import Derived.Test.YtkijpjdjkjnpiaaHuffRefDec2
import Derived.Test.YtkijpjdjkjnpiaaWalk
namespace Go.Proofs.Ytkijpjdjkjnpiaa
open Go.RowKit

theorem getR_ok {l : List UInt8} {at_ bits N E : Int} (h : getR l at_ bits = (N, E, 0)) :
    ∃ k b m e : Nat, at_ = k ∧ bits = b ∧ N = m ∧ E = e ∧ k < l.length ∧ 1 ≤ b ∧ b ≤ 8 ∧ e ≤ l.length ∧ m ≤ 4611686018427387903 := by
  unfold getR at h
  split at h
  · simp at h
  · rename_i h0
    split at h
    · simp at h
    · rename_i h1
      split at h
      · simp at h
      · rename_i h2
        obtain ⟨k, rfl⟩ := Int.eq_ofNat_of_zero_le (show 0 ≤ at_ by omega)
        obtain ⟨b, rfl⟩ := Int.eq_ofNat_of_zero_le (show 0 ≤ bits by omega)
        have hp : 2 ^ b ≤ 2 ^ 8 := Nat.pow_le_pow_right (by decide) (by omega)
        have h8 : (2 : Nat) ^ 8 = 256 := rfl
        split at h
        · simp only [Prod.mk.injEq, and_true] at h
          obtain ⟨rfl, rfl⟩ := h
          have hm := Nat.mod_lt ((l[((k : Int)).toNat]?.getD 0).toNat) (show 0 < 2 ^ b from Nat.two_pow_pos b)
          simp only [Int.toNat_natCast] at hm ⊢
          exact ⟨k, b, _, k + 1, rfl, rfl, rfl, by push_cast; rfl, by omega, by omega, by omega, by omega, by omega⟩
        · simp only [Int.toNat_natCast] at h
          obtain ⟨v, j, h3, h4, h5, h6, _, _, h7⟩ := getT_tail _ _ _ _ _ _ h (by omega)
          rw [List.length_drop] at h6
          exact ⟨k, b, _, _, rfl, rfl, h3, h4, by omega, by omega, by omega, by omega, by omega⟩

/-- is the text coded? -/
def isCoded (l : List UInt8) (k b : Nat) : Bool := (l[k]?.getD 0).toNat / 2 ^ b % 2 == 1
def pieceR (l : List UInt8) (k b m e : Nat) : List UInt8 × Int × Int :=
  if isCoded l k b then (if (decR ((l.drop e).take m)).2 = 0 then ((decR ((l.drop e).take m)).1, ((e + m : Nat) : Int), 0) else ([], 0, (decR ((l.drop e).take m)).2)) else ((l.drop e).take m, ((e + m : Nat) : Int), 0)
/-- what GetText answers -/
def textR (l : List UInt8) (at_ bits : Int) : List UInt8 × Int × Int :=
  if bits < 1 ∨ 7 < bits then ([], 0, 150)
  else if (getR l at_ bits).2.2 ≠ 0 then ([], 0, (getR l at_ bits).2.2)
  else if 16384 < (getR l at_ bits).1 then ([], 0, 52)
  else if (l.length : Int) - (getR l at_ bits).2.1 < (getR l at_ bits).1 then ([], 0, 12)
  else pieceR l at_.toNat bits.toNat (getR l at_ bits).1.toNat (getR l at_ bits).2.1.toNat
theorem textR_ok {l : List UInt8} {k b m e : Nat} (hb : 1 ≤ b) (hb7 : b ≤ 7) (hg : getR l (k : Int) (b : Int) = ((m : Int), (e : Int), 0)) (hm : m ≤ 16384) (he : e + m ≤ l.length) : textR l k b = pieceR l k b m e := by
  unfold textR
  rw [if_neg (by omega), hg, if_neg (by simp), if_neg (by simp only []; omega), if_neg (by simp only []; omega)]
  simp

/-- an answer of a text and two numbers that leaves what was there -/
def RetT (w : World) (r : List UInt8 × Int × Int) (e : Ending) (w' : World) : Prop :=
  e = .returned (.tuple #[.string (strB r.1), .int .i64 r.2.1, .int .i64 r.2.2]) ∧ Below w.heap.size w w'
theorem RetT.mk {w w' : World} {r : List UInt8 × Int × Int} {t : List UInt8} {y z : Int} {e : Ending} (h : e = .returned (.tuple #[.string (strB t), .int .i64 y, .int .i64 z])) (hr : r = (t, y, z)) (hb : Below w.heap.size w w') : RetT w r e w' := by
  subst hr; exact ⟨h, hb⟩

theorem sl_piece {w : World} {b off : Nat} {n c : Nat} {l : List UInt8} (h : Sl w (some ⟨b, off, none⟩) n c (bv l)) {e m : Nat} (he : e + m ≤ n) : Sl w (some ⟨b, off + e, none⟩) m (c - e) (bv ((l.drop e).take m)) := by
  have h1 := h.cap_le
  have h2 := h.cap_max
  have h3 := h.byte
  refine ⟨by rw [bv_length]; simp; omega, by omega, by omega, by simp, fun hm => ?_⟩
  obtain ⟨b', off', ha, hc⟩ := h.cells (by omega)
  simp only [Option.some.injEq, Addr.mk.injEq, and_true] at ha
  obtain ⟨rfl, rfl⟩ := ha
  refine ⟨b, off + e, rfl, fun i hi => ?_⟩
  rw [Nat.add_assoc, hc (e + i) (by omega), bv_take, bv_drop, List.getElem?_take, if_pos hi, List.getElem?_drop]
theorem sl_nothing (w : World) (ad : Addr) (c : Nat) (h : c ≤ maxLen) : Sl w (some ad) 0 c (bv []) := ⟨rfl, Nat.zero_le _, h, by simp, fun h => absurd h (Nat.lt_irrefl _)⟩
theorem and_bit : ∀ b : Nat, b < 8 → ∀ x : Nat, x < 256 → Go.bits .and .u8 (x : Int) (((2 ^ b : Nat) : Int)) = (if x / 2 ^ b % 2 == 1 then ((2 ^ b : Nat) : Int) else 0) := by decide +kernel

set_option maxRecDepth 100000 in
set_option maxHeartbeats 4000000 in
theorem gtext_any (w : World) {a : Option Addr} {n c : Nat} {l : List UInt8} (h : Sl w a n c (bv l)) (at_ bits : Int) :
    Calls Try.prog 31 #[.slice a n c, .int .i64 at_, .int .i64 bits] w (RetT w (textR l at_ bits)) := by
  have hl := h.byte
  have hcap := h.cap_le
  have hcm : c ≤ 9223372036854775807 := by have := h.cap_max; unfold maxLen at this; omega
  by_cases hhi : 7 < bits
  · have HR : Hid (textR l at_ bits = ([], 0, 150)) := Lib.hid (by unfold textR; rw [if_pos (by omega)])
    go_enter Try.func31, Try.ntmps31
    go_wp2
    go_ret3
    exact RetT.mk rfl HR.out (Below.refl _ _)
  obtain ⟨N, E, F, hg⟩ : ∃ N E F, getR l at_ bits = (N, E, F) := ⟨_, _, _, rfl⟩
  have hG := get_any w h at_ bits
  rw [hg] at hG
  have HG : Hid (Calls Try.prog 19 #[.slice a n c, .int .i64 at_, .int .i64 bits] w fun e w' => e = .returned (.tuple #[.int .i64 N, .int .i64 E, .int .i64 F]) ∧ Below w.heap.size w w') := Lib.hid hG
  clear hG
  by_cases hF : F = 0
  · subst hF
    obtain ⟨k, b, m, e, rfl, rfl, rfl, rfl, hk, hb1, hb8, he, hm62⟩ := getR_ok hg
    have hen : e ≤ n := by omega
    by_cases hm : 16384 < m
    · have HR : Hid (textR l k b = ([], 0, 52)) := Lib.hid (by unfold textR; rw [if_neg (by omega), hg, if_neg (by simp), if_pos (by simp only []; omega)])
      have hm' : (16384 : Int) < (m : Int) := by omega
      clear hg hl
      go_enter Try.func31, Try.ntmps31
      go_wp2_with fail
      refine HG.out.mono ?_
      rintro e' w1 ⟨rfl, hb⟩
      go_wp2
      go_ret3
      exact RetT.mk rfl HR.out hb
    by_cases hnm : n < e + m
    · have HR : Hid (textR l k b = ([], 0, 12)) := Lib.hid (by unfold textR; rw [if_neg (by omega), hg, if_neg (by simp), if_neg (by simp only []; omega), if_pos (by simp only []; omega)])
      have g1 : IntKind.i64.wrap ((n : Int) - (e : Int)) = (n : Int) - e := by rw [IntKind.wrap_i64]; omega
      have hnm' : (n : Int) - (e : Int) < (m : Int) := by omega
      clear hg hl
      go_enter Try.func31, Try.ntmps31
      go_wp2_with fail
      refine HG.out.mono ?_
      rintro e' w1 ⟨rfl, hb⟩
      go_wp2
      go_ret3
      exact RetT.mk rfl HR.out hb
    have hem : e + m ≤ n := by omega
    have HR := Lib.hid (textR_ok hb1 (by omega) hg (by omega) (by omega))
    have g1 : IntKind.i64.wrap ((n : Int) - (e : Int)) = (n : Int) - e := by rw [IntKind.wrap_i64]; omega
    have g2 : IntKind.i64.wrap ((e : Int) + (m : Int)) = (e : Int) + m := by rw [IntKind.wrap_i64]; omega
    have hnm' : ¬ (n : Int) - (e : Int) < (m : Int) := by omega
    have hm' : (m : Int) ≤ 16384 := by omega
    obtain ⟨bb, off, rfl, hc⟩ := h.cells (by omega)
    have hkn : k < n := by omega
    have hcell := hc k hkn
    rw [bv_get l k hk] at hcell
    have hx := (l[k]'hk).toNat_lt
    have hIC : isCoded l k b = ((l[k]'hk).toNat / 2 ^ b % 2 == 1) := by unfold isCoded; rw [List.getElem?_eq_getElem hk]; rfl
    generalize (l[k]'hk).toNat = x at hcell hx hIC
    have hkn' : (k : Int) < (n : Int) := by omega
    have hpow : 2 ^ b ≤ 2 ^ 7 := Nat.pow_le_pow_right (by decide) (by omega)
    have h7 : (2 : Nat) ^ 7 = 128 := rfl
    have hp0 : 0 < 2 ^ b := Nat.two_pow_pos b
    have hpc := two_pow_cast b
    have p256 : (2 : Int) ^ b % 256 = ((2 ^ b : Nat) : Int) := by omega
    have hand := and_bit b (by omega) x hx
    rw [← p256] at hand
    clear hpow h7
    -- the piece, as a slice
    obtain ⟨pa, pc, HP⟩ : ∃ (pa : Addr) (pc : Nat), Hid (∀ w' : World, Below w.heap.size w w' → Sl w' (some pa) m pc (bv ((l.drop e).take m))) ∧ ((e < c ∧ pa = ⟨bb, off + e, none⟩ ∧ pc = c - e) ∨ (e = c ∧ pa = ⟨bb, off, none⟩ ∧ pc = 0)) := by
      by_cases hec : e < c
      · exact ⟨⟨bb, off + e, none⟩, c - e, Lib.hid (fun w' hb => sl_piece (h.below hb) hem), .inl ⟨hec, rfl, rfl⟩⟩
      · have hm0 : m = 0 := by omega
        subst hm0
        exact ⟨⟨bb, off, none⟩, 0, Lib.hid (fun w' _ => by rw [List.take_zero]; exact sl_nothing w' _ 0 (by decide)), .inr ⟨by omega, rfl, rfl⟩⟩
    obtain ⟨HS, hpa⟩ := HP
    have hpl : ((l.drop e).take m).length = m := by rw [List.length_take, List.length_drop]; omega
    have hD := fun w' (hb : Below w.heap.size w w') => decode_any w' (HS.out w' hb)
    unfold pieceR at HR
    generalize (l.drop e).take m = pl at HS hD HR
    have HD := Lib.hid hD
    have ends : (isCoded l k b = false ∧ textR l k b = (pl, ((e + m : Nat) : Int), 0)) ∨ (isCoded l k b = true ∧ (decR pl).2 = 0 ∧ textR l k b = ((decR pl).1, ((e + m : Nat) : Int), 0)) ∨ (isCoded l k b = true ∧ (decR pl).2 ≠ 0 ∧ textR l k b = ([], 0, (decR pl).2)) := by
      rw [HR.out]
      cases hi : isCoded l k b
      · exact .inl ⟨rfl, rfl⟩
      · by_cases h0 : (decR pl).2 = 0
        · exact .inr (.inl ⟨rfl, h0, by rw [if_pos rfl, if_pos h0]⟩)
        · exact .inr (.inr ⟨rfl, h0, by rw [if_pos rfl, if_neg h0]⟩)
    clear HR hg hl hc hD hk h hpl
    rcases hpa with ⟨hec, rfl, rfl⟩ | ⟨hec, rfl, rfl⟩
    · have hecI : (e : Int) < (c : Int) := by omega
      rcases ends with ⟨hi, hr⟩ | ⟨hi, h0, hr⟩ | ⟨hi, h0, hr⟩
      · have HRR := Lib.hid hr
        rw [hIC] at hi
        have hz : Go.bits .and .u8 (x : Int) ((2 : Int) ^ b % 256) = 0 := by rw [hand, hi]; rfl
        clear hi hIC hand p256 hpc hp0 hr
        go_enter Try.func31, Try.ntmps31
        go_wp2_with fail
        refine HG.out.mono ?_
        rintro e' w1 ⟨rfl, hb⟩
        have hcell1 : w1.cell? ⟨bb, off + k, none⟩ = some (.int .u8 (x : Int)) := by rw [hb.cell (World.block_lt_of_cell? w _ hcell)]; exact hcell
        go_wp2_with fail
        go_quiet (fail)
        have hdr := below_drewN hb nq
        generalize w1.drewN nq = w2 at *
        have hstr := run_str (P := Try.prog) (HS.out w2 hdr) 22 5 9 Try.underlying22 Try.underlying5 Try.underlying9
        go_wp2
        go_ret3
        exact RetT.mk (t := pl) (y := (e : Int) + (m : Int)) (z := 0) rfl (by rw [HRR.out]; push_cast; rfl) hdr
      · have HRR := Lib.hid hr
        rw [hIC] at hi
        obtain ⟨D, Z, hDZ⟩ : ∃ D Z, decR pl = (D, Z) := ⟨_, _, rfl⟩
        rw [hDZ] at HD
        have HRR2 := HRR.out
        rw [hDZ] at HRR2 h0
        simp only [] at h0
        have HR3 := Lib.hid HRR2
        clear HRR2 hDZ
        subst h0
        obtain ⟨z, hzz⟩ : ∃ z : Nat, z = 2 ^ b := ⟨_, rfl⟩
        have hz : Go.bits .and .u8 (x : Int) ((2 : Int) ^ b % 256) = (z : Int) := by rw [hand, hi, hzz, if_pos rfl, p256]
        have hzn : ((z : Int) != 0) = true := by rw [bne_iff_ne]; omega
        clear hzz
        clear hi hIC hand p256 hpc hp0 hr
        go_enter Try.func31, Try.ntmps31
        go_wp2_with fail
        refine HG.out.mono ?_
        rintro e' w1 ⟨rfl, hb⟩
        have hcell1 : w1.cell? ⟨bb, off + k, none⟩ = some (.int .u8 (x : Int)) := by rw [hb.cell (World.block_lt_of_cell? w _ hcell)]; exact hcell
        go_wp2_with fail
        go_quiet (fail)
        have hdr := below_drewN hb nq
        generalize w1.drewN nq = w2 at *
        go_wp2_with fail
        refine (HD.out w2 hdr).mono ?_
        rintro e' w3 ⟨a3, c3, rfl, ho3, hb3⟩
        have hs3 : Sl w3 a3 D.length c3 (bv D) := own_sl ho3
        have hstr := run_str (P := Try.prog) (hs3) 22 5 9 Try.underlying22 Try.underlying5 Try.underlying9
        go_wp2
        go_ret3
        exact RetT.mk (t := D) (y := (e : Int) + (m : Int)) (z := 0) rfl (by rw [HR3.out]; push_cast; rfl) (hdr.trans (hb3.mono hdr.size))
      · have HRR := Lib.hid hr
        rw [hIC] at hi
        obtain ⟨D, Z, hDZ⟩ : ∃ D Z, decR pl = (D, Z) := ⟨_, _, rfl⟩
        rw [hDZ] at HD
        have HRR2 := HRR.out
        rw [hDZ] at HRR2 h0
        simp only [] at h0
        have HR3 := Lib.hid HRR2
        clear HRR2 hDZ
        have hz1 : (Z == 0) = false := by rw [beq_eq_false_iff_ne]; exact h0
        have hz2 : (Z != 0) = true := by rw [bne_iff_ne]; exact h0
        clear h0
        obtain ⟨z, hzz⟩ : ∃ z : Nat, z = 2 ^ b := ⟨_, rfl⟩
        have hz : Go.bits .and .u8 (x : Int) ((2 : Int) ^ b % 256) = (z : Int) := by rw [hand, hi, hzz, if_pos rfl, p256]
        have hzn : ((z : Int) != 0) = true := by rw [bne_iff_ne]; omega
        clear hzz
        clear hi hIC hand p256 hpc hp0 hr
        go_enter Try.func31, Try.ntmps31
        go_wp2_with fail
        refine HG.out.mono ?_
        rintro e' w1 ⟨rfl, hb⟩
        have hcell1 : w1.cell? ⟨bb, off + k, none⟩ = some (.int .u8 (x : Int)) := by rw [hb.cell (World.block_lt_of_cell? w _ hcell)]; exact hcell
        go_wp2_with fail
        go_quiet (fail)
        have hdr := below_drewN hb nq
        generalize w1.drewN nq = w2 at *
        go_wp2_with fail
        refine (HD.out w2 hdr).mono ?_
        rintro e' w3 ⟨a3, c3, rfl, ho3, hb3⟩
        go_wp2
        go_ret3
        exact RetT.mk (t := []) (y := 0) (z := Z) rfl HR3.out (hdr.trans (hb3.mono hdr.size))
    · subst hec
      rcases ends with ⟨hi, hr⟩ | ⟨hi, h0, hr⟩ | ⟨hi, h0, hr⟩
      · have HRR := Lib.hid hr
        rw [hIC] at hi
        have hz : Go.bits .and .u8 (x : Int) ((2 : Int) ^ b % 256) = 0 := by rw [hand, hi]; rfl
        clear hi hIC hand p256 hpc hp0 hr
        go_enter Try.func31, Try.ntmps31
        go_wp2_with fail
        refine HG.out.mono ?_
        rintro e' w1 ⟨rfl, hb⟩
        have hcell1 : w1.cell? ⟨bb, off + k, none⟩ = some (.int .u8 (x : Int)) := by rw [hb.cell (World.block_lt_of_cell? w _ hcell)]; exact hcell
        go_wp2_with fail
        go_quiet (fail)
        have hdr := below_drewN hb nq
        generalize w1.drewN nq = w2 at *
        have hstr := run_str (P := Try.prog) (HS.out w2 hdr) 22 5 9 Try.underlying22 Try.underlying5 Try.underlying9
        go_wp2
        go_ret3
        exact RetT.mk (t := pl) (y := (e : Int) + (m : Int)) (z := 0) rfl (by rw [HRR.out]; push_cast; rfl) hdr
      · have HRR := Lib.hid hr
        rw [hIC] at hi
        obtain ⟨D, Z, hDZ⟩ : ∃ D Z, decR pl = (D, Z) := ⟨_, _, rfl⟩
        rw [hDZ] at HD
        have HRR2 := HRR.out
        rw [hDZ] at HRR2 h0
        simp only [] at h0
        have HR3 := Lib.hid HRR2
        clear HRR2 hDZ
        subst h0
        obtain ⟨z, hzz⟩ : ∃ z : Nat, z = 2 ^ b := ⟨_, rfl⟩
        have hz : Go.bits .and .u8 (x : Int) ((2 : Int) ^ b % 256) = (z : Int) := by rw [hand, hi, hzz, if_pos rfl, p256]
        have hzn : ((z : Int) != 0) = true := by rw [bne_iff_ne]; omega
        clear hzz
        clear hi hIC hand p256 hpc hp0 hr
        go_enter Try.func31, Try.ntmps31
        go_wp2_with fail
        refine HG.out.mono ?_
        rintro e' w1 ⟨rfl, hb⟩
        have hcell1 : w1.cell? ⟨bb, off + k, none⟩ = some (.int .u8 (x : Int)) := by rw [hb.cell (World.block_lt_of_cell? w _ hcell)]; exact hcell
        go_wp2_with fail
        go_quiet (fail)
        have hdr := below_drewN hb nq
        generalize w1.drewN nq = w2 at *
        go_wp2_with fail
        refine (HD.out w2 hdr).mono ?_
        rintro e' w3 ⟨a3, c3, rfl, ho3, hb3⟩
        have hs3 : Sl w3 a3 D.length c3 (bv D) := own_sl ho3
        have hstr := run_str (P := Try.prog) (hs3) 22 5 9 Try.underlying22 Try.underlying5 Try.underlying9
        go_wp2
        go_ret3
        exact RetT.mk (t := D) (y := (e : Int) + (m : Int)) (z := 0) rfl (by rw [HR3.out]; push_cast; rfl) (hdr.trans (hb3.mono hdr.size))
      · have HRR := Lib.hid hr
        rw [hIC] at hi
        obtain ⟨D, Z, hDZ⟩ : ∃ D Z, decR pl = (D, Z) := ⟨_, _, rfl⟩
        rw [hDZ] at HD
        have HRR2 := HRR.out
        rw [hDZ] at HRR2 h0
        simp only [] at h0
        have HR3 := Lib.hid HRR2
        clear HRR2 hDZ
        have hz1 : (Z == 0) = false := by rw [beq_eq_false_iff_ne]; exact h0
        have hz2 : (Z != 0) = true := by rw [bne_iff_ne]; exact h0
        clear h0
        obtain ⟨z, hzz⟩ : ∃ z : Nat, z = 2 ^ b := ⟨_, rfl⟩
        have hz : Go.bits .and .u8 (x : Int) ((2 : Int) ^ b % 256) = (z : Int) := by rw [hand, hi, hzz, if_pos rfl, p256]
        have hzn : ((z : Int) != 0) = true := by rw [bne_iff_ne]; omega
        clear hzz
        clear hi hIC hand p256 hpc hp0 hr
        go_enter Try.func31, Try.ntmps31
        go_wp2_with fail
        refine HG.out.mono ?_
        rintro e' w1 ⟨rfl, hb⟩
        have hcell1 : w1.cell? ⟨bb, off + k, none⟩ = some (.int .u8 (x : Int)) := by rw [hb.cell (World.block_lt_of_cell? w _ hcell)]; exact hcell
        go_wp2_with fail
        go_quiet (fail)
        have hdr := below_drewN hb nq
        generalize w1.drewN nq = w2 at *
        go_wp2_with fail
        refine (HD.out w2 hdr).mono ?_
        rintro e' w3 ⟨a3, c3, rfl, ho3, hb3⟩
        go_wp2
        go_ret3
        exact RetT.mk (t := []) (y := 0) (z := Z) rfl HR3.out (hdr.trans (hb3.mono hdr.size))

  · have HR : Hid (textR l at_ bits = ([], 0, F)) := Lib.hid (by
      unfold textR
      by_cases hlow : bits < 1 ∨ 7 < bits
      · rw [if_pos hlow]
        have h5 : getR l at_ bits = (0, 0, 150) := getR_bits (by omega)
        rw [h5] at hg
        cases hg; rfl
      · rw [if_neg hlow, hg, if_pos hF])
    have hF1 : (F == 0) = false := by rw [beq_eq_false_iff_ne]; exact hF
    have hF2 : (F != 0) = true := by rw [bne_iff_ne]; exact hF
    clear hg hl hF
    go_enter Try.func31, Try.ntmps31
    go_wp2_with fail
    refine HG.out.mono ?_
    rintro e' w1 ⟨rfl, hb⟩
    go_wp2
    go_ret3
    exact RetT.mk rfl HR.out hb
end Go.Proofs.Ytkijpjdjkjnpiaa

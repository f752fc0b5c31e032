/- The document's GetText answers textR, for any arguments. -/
import Derived.Test.YtkijpjdjkjnpiaaPfxRead
namespace Go.Proofs.Ytkijpjdjkjnpiaa
open Go.RowKit

set_option maxRecDepth 100000 in
set_option maxHeartbeats 4000000 in
theorem rgtext_any (w : World) {a : Option Addr} {n c : Nat} {l : List UInt8} (h : Sl w a n c (bv l)) (at_ bits : Int) :
    Calls Try.prog 32 #[.slice a n c, .int .i64 at_, .int .i64 bits] w (RetT w (textR l at_ bits)) := by
  have hl := h.byte
  have hcap := h.cap_le
  have hcm : c ≤ 9223372036854775807 := by have := h.cap_max; unfold maxLen at this; omega
  by_cases hlo : bits < 1
  · have HR : Hid (textR l at_ bits = ([], 0, 150)) := Lib.hid (by unfold textR; rw [if_pos (by omega)])
    go_enter Try.func32, Try.ntmps32
    go_wp2
    go_ret3
    exact RetT.mk rfl HR.out (Below.refl _ _)
  have hlo' : 1 ≤ bits := by omega
  by_cases hhi : 7 < bits
  · have HR : Hid (textR l at_ bits = ([], 0, 150)) := Lib.hid (by unfold textR; rw [if_pos (by omega)])
    go_enter Try.func32, Try.ntmps32
    go_wp2
    go_ret3
    exact RetT.mk rfl HR.out (Below.refl _ _)
  obtain ⟨N, E, F, hg⟩ : ∃ N E F, getR l at_ bits = (N, E, F) := ⟨_, _, _, rfl⟩
  have hG := rget_any w h at_ bits
  rw [hg] at hG
  have HG : Hid (Calls Try.prog 20 #[.slice a n c, .int .i64 at_, .int .i64 bits] w fun e w' => e = .returned (.tuple #[.int .i64 N, .int .i64 E, .int .i64 F]) ∧ Below w.heap.size w w') := Lib.hid hG
  clear hG
  by_cases hF : F = 0
  · subst hF
    obtain ⟨k, b, m, e, rfl, rfl, rfl, rfl, hk, hb1, hb8, he, hm62⟩ := getR_ok hg
    have hen : e ≤ n := by omega
    by_cases hm : 16384 < m
    · have HR : Hid (textR l k b = ([], 0, 52)) := Lib.hid (by unfold textR; rw [if_neg (by omega), hg, if_neg (by simp), if_pos (by simp only []; omega)])
      have hm' : (16384 : Int) < (m : Int) := by omega
      clear hg hl
      go_enter Try.func32, Try.ntmps32
      go_wp2_with fail
      refine HG.out.mono ?_
      rintro e' w1 ⟨rfl, hb⟩
      go_wp2
      go_ret3
      exact RetT.mk rfl HR.out hb
    by_cases hnm : n < e + m
    · have HR : Hid (textR l k b = ([], 0, 12)) := Lib.hid (by unfold textR; rw [if_neg (by omega), hg, if_neg (by simp), if_neg (by simp only []; omega), if_pos (by simp only []; omega)])
      have g1 : IntKind.i64.wrap ((n : Int) - (e : Int)) = (n : Int) - e := by rw [IntKind.wrap_i64]; omega
      have hnm' : (n : Int) - (e : Int) < (m : Int) := by omega
      clear hg hl
      go_enter Try.func32, Try.ntmps32
      go_wp2_with fail
      refine HG.out.mono ?_
      rintro e' w1 ⟨rfl, hb⟩
      go_wp2
      go_ret3
      exact RetT.mk rfl HR.out hb
    have hem : e + m ≤ n := by omega
    have HR := Lib.hid (textR_ok hb1 (by omega) hg (by omega) (by omega))
    have g1 : IntKind.i64.wrap ((n : Int) - (e : Int)) = (n : Int) - e := by rw [IntKind.wrap_i64]; omega
    have g2 : IntKind.i64.wrap ((e : Int) + (m : Int)) = (e : Int) + m := by rw [IntKind.wrap_i64]; omega
    have hnm' : ¬ (n : Int) - (e : Int) < (m : Int) := by omega
    have hm' : (m : Int) ≤ 16384 := by omega
    obtain ⟨bb, off, rfl, hc⟩ := h.cells (by omega)
    have hkn : k < n := by omega
    have hcell := hc k hkn
    rw [bv_get l k hk] at hcell
    have hx := (l[k]'hk).toNat_lt
    have hIC : isCoded l k b = ((l[k]'hk).toNat / 2 ^ b % 2 == 1) := by unfold isCoded; rw [List.getElem?_eq_getElem hk]; rfl
    generalize (l[k]'hk).toNat = x at hcell hx hIC
    have hkn' : (k : Int) < (n : Int) := by omega
    have hpow : 2 ^ b ≤ 2 ^ 7 := Nat.pow_le_pow_right (by decide) (by omega)
    have h7 : (2 : Nat) ^ 7 = 128 := rfl
    have hp0 : 0 < 2 ^ b := Nat.two_pow_pos b
    have hpc := two_pow_cast b
    obtain ⟨p, hp⟩ : ∃ p, p = 2 ^ b := ⟨_, rfl⟩
    have HPw : Hid (∀ w', Calls Try.prog 33 #[.int .i64 (b : Int)] w' fun e w'' => e = .returned (.int .i64 (p : Int)) ∧ w' = w'') := Lib.hid (fun w' => by rw [hp]; exact power_any b (by omega) w')
    obtain ⟨q, hq⟩ : ∃ q, q = x / 2 ^ b := ⟨_, rfl⟩
    rw [← hq] at hIC
    have hqx : q ≤ x := by rw [hq]; exact Nat.div_le_self _ _
    have d1 : (x : Int) / (p : Int) = (q : Int) := by rw [hq, hp]; push_cast; rfl
    have hpp : (0 : Int) < (p : Int) := by rw [hp]; omega
    have hp128 : (p : Int) ≤ 128 := by rw [hp]; omega
    have hpz : ((p : Int) == 0) = false := by rw [beq_eq_false_iff_ne]; omega
    clear hpc hpow h7 hp0 hp hq
    -- the piece, as a slice
    obtain ⟨pa, pc, HP⟩ : ∃ (pa : Addr) (pc : Nat), Hid (∀ w' : World, Below w.heap.size w w' → Sl w' (some pa) m pc (bv ((l.drop e).take m))) ∧ ((e < c ∧ pa = ⟨bb, off + e, none⟩ ∧ pc = c - e) ∨ (e = c ∧ pa = ⟨bb, off, none⟩ ∧ pc = 0)) := by
      by_cases hec : e < c
      · exact ⟨⟨bb, off + e, none⟩, c - e, Lib.hid (fun w' hb => sl_piece (h.below hb) hem), .inl ⟨hec, rfl, rfl⟩⟩
      · have hm0 : m = 0 := by omega
        subst hm0
        exact ⟨⟨bb, off, none⟩, 0, Lib.hid (fun w' _ => by rw [List.take_zero]; exact sl_nothing w' _ 0 (by decide)), .inr ⟨by omega, rfl, rfl⟩⟩
    obtain ⟨HS, hpa⟩ := HP
    have hpl : ((l.drop e).take m).length = m := by rw [List.length_take, List.length_drop]; omega
    have hD := fun w' (hb : Below w.heap.size w w') => rdecode_any w' (HS.out w' hb)
    unfold pieceR at HR
    generalize (l.drop e).take m = pl at HS hD HR
    have HD := Lib.hid hD
    have ends : (isCoded l k b = false ∧ textR l k b = (pl, ((e + m : Nat) : Int), 0)) ∨ (isCoded l k b = true ∧ (decR pl).2 = 0 ∧ textR l k b = ((decR pl).1, ((e + m : Nat) : Int), 0)) ∨ (isCoded l k b = true ∧ (decR pl).2 ≠ 0 ∧ textR l k b = ([], 0, (decR pl).2)) := by
      rw [HR.out]
      cases hi : isCoded l k b
      · exact .inl ⟨rfl, rfl⟩
      · by_cases h0 : (decR pl).2 = 0
        · exact .inr (.inl ⟨rfl, h0, by rw [if_pos rfl, if_pos h0]⟩)
        · exact .inr (.inr ⟨rfl, h0, by rw [if_pos rfl, if_neg h0]⟩)
    clear HR hg hl hc hD hk h hpl
    rcases hpa with ⟨hec, rfl, rfl⟩ | ⟨hec, rfl, rfl⟩
    · have hecI : (e : Int) < (c : Int) := by omega
      rcases ends with ⟨hi, hr⟩ | ⟨hi, h0, hr⟩ | ⟨hi, h0, hr⟩
      · have HRR := Lib.hid hr
        rw [hIC] at hi
        have hq2 : (((q : Int) % 2) == 0) = true := by rw [beq_iff_eq]; have := (beq_eq_false_iff_ne).1 hi; omega
        clear hi hIC hr
        go_enter Try.func32, Try.ntmps32
        go_wp2_with fail
        refine HG.out.mono ?_
        rintro e' w1 ⟨rfl, hb⟩
        have hcell1 : w1.cell? ⟨bb, off + k, none⟩ = some (.int .u8 (x : Int)) := by rw [hb.cell (World.block_lt_of_cell? w _ hcell)]; exact hcell
        have hdr : Below w.heap.size w w1.drew := hb.trans ⟨rfl, rfl, rfl, Nat.le_refl _, fun _ _ => rfl⟩
        go_wp2_with fail
        refine Mx.region [] (fun w' => w'.cell? ⟨bb, off + k, none⟩ = some (.int .u8 (x : Int))) (by kernel_rfl) (by kernel_rfl) hcell1 ?_
        repeat ((first | (refine Mx.skips (by kernel_rfl) ?_; go_big_quiet_skip) | (refine Mx.quietly rfl ?_; go_big_quiet_want; go_big_quiet_op; go_big_quiet_on)); refine Mx.done ?_)
        refine Mx.cell ⟨bb, off + k, none⟩ (.int .u8 (x : Int)) (by kernel_rfl) (by kernel_rfl) (by kernel_rfl) Try.isAgg5 (fun w' h => h) ?_
        go_big_quiet_want; go_big_quiet_op; go_big_quiet_on; refine Mx.done ?_
        repeat ((first | (refine Mx.skips (by kernel_rfl) ?_; go_big_quiet_skip) | (refine Mx.quietly rfl ?_; go_big_quiet_want; go_big_quiet_op; go_big_quiet_on)); refine Mx.done ?_)
        refine Mx.loudly (by kernel_rfl) (by kernel_rfl) ?_
        go_wp2_with fail
        refine (HPw.out w1.drew).mono ?_
        rintro e' w' ⟨rfl, rfl⟩
        have hcell2 : w1.drew.cell? ⟨bb, off + k, none⟩ = some (.int .u8 (x : Int)) := hcell1
        go_wp2_with fail
        repeat ((first | (refine Mx.skips (by kernel_rfl) ?_; go_big_quiet_skip) | (refine Mx.quietly rfl ?_; go_big_quiet_want; go_big_quiet_op; go_big_quiet_on)); refine Mx.done ?_)
        refine Mx.nil ?_
        generalize w1.drew = w2 at *
        have hstr := run_str (P := Try.prog) (HS.out w2 hdr) 22 5 9 Try.underlying22 Try.underlying5 Try.underlying9
        go_wp2
        go_ret3
        exact RetT.mk (t := pl) (y := (e : Int) + (m : Int)) (z := 0) rfl (by rw [HRR.out]; push_cast; rfl) hdr
      · have HRR := Lib.hid hr
        rw [hIC] at hi
        obtain ⟨D, Z, hDZ⟩ : ∃ D Z, decR pl = (D, Z) := ⟨_, _, rfl⟩
        rw [hDZ] at HD
        have HRR2 := HRR.out
        rw [hDZ] at HRR2 h0
        simp only [] at h0
        have HR3 := Lib.hid HRR2
        clear HRR2 hDZ
        subst h0
        have hq2 : (((q : Int) % 2) == 0) = false := by rw [beq_eq_false_iff_ne]; have := (beq_iff_eq).1 hi; omega
        clear hi hIC hr
        go_enter Try.func32, Try.ntmps32
        go_wp2_with fail
        refine HG.out.mono ?_
        rintro e' w1 ⟨rfl, hb⟩
        have hcell1 : w1.cell? ⟨bb, off + k, none⟩ = some (.int .u8 (x : Int)) := by rw [hb.cell (World.block_lt_of_cell? w _ hcell)]; exact hcell
        have hdr : Below w.heap.size w w1.drew := hb.trans ⟨rfl, rfl, rfl, Nat.le_refl _, fun _ _ => rfl⟩
        go_wp2_with fail
        refine Mx.region [] (fun w' => w'.cell? ⟨bb, off + k, none⟩ = some (.int .u8 (x : Int))) (by kernel_rfl) (by kernel_rfl) hcell1 ?_
        repeat ((first | (refine Mx.skips (by kernel_rfl) ?_; go_big_quiet_skip) | (refine Mx.quietly rfl ?_; go_big_quiet_want; go_big_quiet_op; go_big_quiet_on)); refine Mx.done ?_)
        refine Mx.cell ⟨bb, off + k, none⟩ (.int .u8 (x : Int)) (by kernel_rfl) (by kernel_rfl) (by kernel_rfl) Try.isAgg5 (fun w' h => h) ?_
        go_big_quiet_want; go_big_quiet_op; go_big_quiet_on; refine Mx.done ?_
        repeat ((first | (refine Mx.skips (by kernel_rfl) ?_; go_big_quiet_skip) | (refine Mx.quietly rfl ?_; go_big_quiet_want; go_big_quiet_op; go_big_quiet_on)); refine Mx.done ?_)
        refine Mx.loudly (by kernel_rfl) (by kernel_rfl) ?_
        go_wp2_with fail
        refine (HPw.out w1.drew).mono ?_
        rintro e' w' ⟨rfl, rfl⟩
        have hcell2 : w1.drew.cell? ⟨bb, off + k, none⟩ = some (.int .u8 (x : Int)) := hcell1
        go_wp2_with fail
        repeat ((first | (refine Mx.skips (by kernel_rfl) ?_; go_big_quiet_skip) | (refine Mx.quietly rfl ?_; go_big_quiet_want; go_big_quiet_op; go_big_quiet_on)); refine Mx.done ?_)
        refine Mx.nil ?_
        generalize w1.drew = w2 at *
        go_wp2_with fail
        refine (HD.out w2 hdr).mono ?_
        rintro e' w3 ⟨a3, c3, rfl, ho3, hb3⟩
        have hs3 : Sl w3 a3 D.length c3 (bv D) := own_sl ho3
        have hstr := run_str (P := Try.prog) (hs3) 22 5 9 Try.underlying22 Try.underlying5 Try.underlying9
        go_wp2
        go_ret3
        exact RetT.mk (t := D) (y := (e : Int) + (m : Int)) (z := 0) rfl (by rw [HR3.out]; push_cast; rfl) (hdr.trans (hb3.mono hdr.size))
      · have HRR := Lib.hid hr
        rw [hIC] at hi
        obtain ⟨D, Z, hDZ⟩ : ∃ D Z, decR pl = (D, Z) := ⟨_, _, rfl⟩
        rw [hDZ] at HD
        have HRR2 := HRR.out
        rw [hDZ] at HRR2 h0
        simp only [] at h0
        have HR3 := Lib.hid HRR2
        clear HRR2 hDZ
        have hz1 : (Z == 0) = false := by rw [beq_eq_false_iff_ne]; exact h0
        have hz2 : (Z != 0) = true := by rw [bne_iff_ne]; exact h0
        clear h0
        have hq2 : (((q : Int) % 2) == 0) = false := by rw [beq_eq_false_iff_ne]; have := (beq_iff_eq).1 hi; omega
        clear hi hIC hr
        go_enter Try.func32, Try.ntmps32
        go_wp2_with fail
        refine HG.out.mono ?_
        rintro e' w1 ⟨rfl, hb⟩
        have hcell1 : w1.cell? ⟨bb, off + k, none⟩ = some (.int .u8 (x : Int)) := by rw [hb.cell (World.block_lt_of_cell? w _ hcell)]; exact hcell
        have hdr : Below w.heap.size w w1.drew := hb.trans ⟨rfl, rfl, rfl, Nat.le_refl _, fun _ _ => rfl⟩
        go_wp2_with fail
        refine Mx.region [] (fun w' => w'.cell? ⟨bb, off + k, none⟩ = some (.int .u8 (x : Int))) (by kernel_rfl) (by kernel_rfl) hcell1 ?_
        repeat ((first | (refine Mx.skips (by kernel_rfl) ?_; go_big_quiet_skip) | (refine Mx.quietly rfl ?_; go_big_quiet_want; go_big_quiet_op; go_big_quiet_on)); refine Mx.done ?_)
        refine Mx.cell ⟨bb, off + k, none⟩ (.int .u8 (x : Int)) (by kernel_rfl) (by kernel_rfl) (by kernel_rfl) Try.isAgg5 (fun w' h => h) ?_
        go_big_quiet_want; go_big_quiet_op; go_big_quiet_on; refine Mx.done ?_
        repeat ((first | (refine Mx.skips (by kernel_rfl) ?_; go_big_quiet_skip) | (refine Mx.quietly rfl ?_; go_big_quiet_want; go_big_quiet_op; go_big_quiet_on)); refine Mx.done ?_)
        refine Mx.loudly (by kernel_rfl) (by kernel_rfl) ?_
        go_wp2_with fail
        refine (HPw.out w1.drew).mono ?_
        rintro e' w' ⟨rfl, rfl⟩
        have hcell2 : w1.drew.cell? ⟨bb, off + k, none⟩ = some (.int .u8 (x : Int)) := hcell1
        go_wp2_with fail
        repeat ((first | (refine Mx.skips (by kernel_rfl) ?_; go_big_quiet_skip) | (refine Mx.quietly rfl ?_; go_big_quiet_want; go_big_quiet_op; go_big_quiet_on)); refine Mx.done ?_)
        refine Mx.nil ?_
        generalize w1.drew = w2 at *
        go_wp2_with fail
        refine (HD.out w2 hdr).mono ?_
        rintro e' w3 ⟨a3, c3, rfl, ho3, hb3⟩
        go_wp2
        go_ret3
        exact RetT.mk (t := []) (y := 0) (z := Z) rfl HR3.out (hdr.trans (hb3.mono hdr.size))
    · subst hec
      rcases ends with ⟨hi, hr⟩ | ⟨hi, h0, hr⟩ | ⟨hi, h0, hr⟩
      · have HRR := Lib.hid hr
        rw [hIC] at hi
        have hq2 : (((q : Int) % 2) == 0) = true := by rw [beq_iff_eq]; have := (beq_eq_false_iff_ne).1 hi; omega
        clear hi hIC hr
        go_enter Try.func32, Try.ntmps32
        go_wp2_with fail
        refine HG.out.mono ?_
        rintro e' w1 ⟨rfl, hb⟩
        have hcell1 : w1.cell? ⟨bb, off + k, none⟩ = some (.int .u8 (x : Int)) := by rw [hb.cell (World.block_lt_of_cell? w _ hcell)]; exact hcell
        have hdr : Below w.heap.size w w1.drew := hb.trans ⟨rfl, rfl, rfl, Nat.le_refl _, fun _ _ => rfl⟩
        go_wp2_with fail
        refine Mx.region [] (fun w' => w'.cell? ⟨bb, off + k, none⟩ = some (.int .u8 (x : Int))) (by kernel_rfl) (by kernel_rfl) hcell1 ?_
        repeat ((first | (refine Mx.skips (by kernel_rfl) ?_; go_big_quiet_skip) | (refine Mx.quietly rfl ?_; go_big_quiet_want; go_big_quiet_op; go_big_quiet_on)); refine Mx.done ?_)
        refine Mx.cell ⟨bb, off + k, none⟩ (.int .u8 (x : Int)) (by kernel_rfl) (by kernel_rfl) (by kernel_rfl) Try.isAgg5 (fun w' h => h) ?_
        go_big_quiet_want; go_big_quiet_op; go_big_quiet_on; refine Mx.done ?_
        repeat ((first | (refine Mx.skips (by kernel_rfl) ?_; go_big_quiet_skip) | (refine Mx.quietly rfl ?_; go_big_quiet_want; go_big_quiet_op; go_big_quiet_on)); refine Mx.done ?_)
        refine Mx.loudly (by kernel_rfl) (by kernel_rfl) ?_
        go_wp2_with fail
        refine (HPw.out w1.drew).mono ?_
        rintro e' w' ⟨rfl, rfl⟩
        have hcell2 : w1.drew.cell? ⟨bb, off + k, none⟩ = some (.int .u8 (x : Int)) := hcell1
        go_wp2_with fail
        repeat ((first | (refine Mx.skips (by kernel_rfl) ?_; go_big_quiet_skip) | (refine Mx.quietly rfl ?_; go_big_quiet_want; go_big_quiet_op; go_big_quiet_on)); refine Mx.done ?_)
        refine Mx.nil ?_
        generalize w1.drew = w2 at *
        have hstr := run_str (P := Try.prog) (HS.out w2 hdr) 22 5 9 Try.underlying22 Try.underlying5 Try.underlying9
        go_wp2
        go_ret3
        exact RetT.mk (t := pl) (y := (e : Int) + (m : Int)) (z := 0) rfl (by rw [HRR.out]; push_cast; rfl) hdr
      · have HRR := Lib.hid hr
        rw [hIC] at hi
        obtain ⟨D, Z, hDZ⟩ : ∃ D Z, decR pl = (D, Z) := ⟨_, _, rfl⟩
        rw [hDZ] at HD
        have HRR2 := HRR.out
        rw [hDZ] at HRR2 h0
        simp only [] at h0
        have HR3 := Lib.hid HRR2
        clear HRR2 hDZ
        subst h0
        have hq2 : (((q : Int) % 2) == 0) = false := by rw [beq_eq_false_iff_ne]; have := (beq_iff_eq).1 hi; omega
        clear hi hIC hr
        go_enter Try.func32, Try.ntmps32
        go_wp2_with fail
        refine HG.out.mono ?_
        rintro e' w1 ⟨rfl, hb⟩
        have hcell1 : w1.cell? ⟨bb, off + k, none⟩ = some (.int .u8 (x : Int)) := by rw [hb.cell (World.block_lt_of_cell? w _ hcell)]; exact hcell
        have hdr : Below w.heap.size w w1.drew := hb.trans ⟨rfl, rfl, rfl, Nat.le_refl _, fun _ _ => rfl⟩
        go_wp2_with fail
        refine Mx.region [] (fun w' => w'.cell? ⟨bb, off + k, none⟩ = some (.int .u8 (x : Int))) (by kernel_rfl) (by kernel_rfl) hcell1 ?_
        repeat ((first | (refine Mx.skips (by kernel_rfl) ?_; go_big_quiet_skip) | (refine Mx.quietly rfl ?_; go_big_quiet_want; go_big_quiet_op; go_big_quiet_on)); refine Mx.done ?_)
        refine Mx.cell ⟨bb, off + k, none⟩ (.int .u8 (x : Int)) (by kernel_rfl) (by kernel_rfl) (by kernel_rfl) Try.isAgg5 (fun w' h => h) ?_
        go_big_quiet_want; go_big_quiet_op; go_big_quiet_on; refine Mx.done ?_
        repeat ((first | (refine Mx.skips (by kernel_rfl) ?_; go_big_quiet_skip) | (refine Mx.quietly rfl ?_; go_big_quiet_want; go_big_quiet_op; go_big_quiet_on)); refine Mx.done ?_)
        refine Mx.loudly (by kernel_rfl) (by kernel_rfl) ?_
        go_wp2_with fail
        refine (HPw.out w1.drew).mono ?_
        rintro e' w' ⟨rfl, rfl⟩
        have hcell2 : w1.drew.cell? ⟨bb, off + k, none⟩ = some (.int .u8 (x : Int)) := hcell1
        go_wp2_with fail
        repeat ((first | (refine Mx.skips (by kernel_rfl) ?_; go_big_quiet_skip) | (refine Mx.quietly rfl ?_; go_big_quiet_want; go_big_quiet_op; go_big_quiet_on)); refine Mx.done ?_)
        refine Mx.nil ?_
        generalize w1.drew = w2 at *
        go_wp2_with fail
        refine (HD.out w2 hdr).mono ?_
        rintro e' w3 ⟨a3, c3, rfl, ho3, hb3⟩
        have hs3 : Sl w3 a3 D.length c3 (bv D) := own_sl ho3
        have hstr := run_str (P := Try.prog) (hs3) 22 5 9 Try.underlying22 Try.underlying5 Try.underlying9
        go_wp2
        go_ret3
        exact RetT.mk (t := D) (y := (e : Int) + (m : Int)) (z := 0) rfl (by rw [HR3.out]; push_cast; rfl) (hdr.trans (hb3.mono hdr.size))
      · have HRR := Lib.hid hr
        rw [hIC] at hi
        obtain ⟨D, Z, hDZ⟩ : ∃ D Z, decR pl = (D, Z) := ⟨_, _, rfl⟩
        rw [hDZ] at HD
        have HRR2 := HRR.out
        rw [hDZ] at HRR2 h0
        simp only [] at h0
        have HR3 := Lib.hid HRR2
        clear HRR2 hDZ
        have hz1 : (Z == 0) = false := by rw [beq_eq_false_iff_ne]; exact h0
        have hz2 : (Z != 0) = true := by rw [bne_iff_ne]; exact h0
        clear h0
        have hq2 : (((q : Int) % 2) == 0) = false := by rw [beq_eq_false_iff_ne]; have := (beq_iff_eq).1 hi; omega
        clear hi hIC hr
        go_enter Try.func32, Try.ntmps32
        go_wp2_with fail
        refine HG.out.mono ?_
        rintro e' w1 ⟨rfl, hb⟩
        have hcell1 : w1.cell? ⟨bb, off + k, none⟩ = some (.int .u8 (x : Int)) := by rw [hb.cell (World.block_lt_of_cell? w _ hcell)]; exact hcell
        have hdr : Below w.heap.size w w1.drew := hb.trans ⟨rfl, rfl, rfl, Nat.le_refl _, fun _ _ => rfl⟩
        go_wp2_with fail
        refine Mx.region [] (fun w' => w'.cell? ⟨bb, off + k, none⟩ = some (.int .u8 (x : Int))) (by kernel_rfl) (by kernel_rfl) hcell1 ?_
        repeat ((first | (refine Mx.skips (by kernel_rfl) ?_; go_big_quiet_skip) | (refine Mx.quietly rfl ?_; go_big_quiet_want; go_big_quiet_op; go_big_quiet_on)); refine Mx.done ?_)
        refine Mx.cell ⟨bb, off + k, none⟩ (.int .u8 (x : Int)) (by kernel_rfl) (by kernel_rfl) (by kernel_rfl) Try.isAgg5 (fun w' h => h) ?_
        go_big_quiet_want; go_big_quiet_op; go_big_quiet_on; refine Mx.done ?_
        repeat ((first | (refine Mx.skips (by kernel_rfl) ?_; go_big_quiet_skip) | (refine Mx.quietly rfl ?_; go_big_quiet_want; go_big_quiet_op; go_big_quiet_on)); refine Mx.done ?_)
        refine Mx.loudly (by kernel_rfl) (by kernel_rfl) ?_
        go_wp2_with fail
        refine (HPw.out w1.drew).mono ?_
        rintro e' w' ⟨rfl, rfl⟩
        have hcell2 : w1.drew.cell? ⟨bb, off + k, none⟩ = some (.int .u8 (x : Int)) := hcell1
        go_wp2_with fail
        repeat ((first | (refine Mx.skips (by kernel_rfl) ?_; go_big_quiet_skip) | (refine Mx.quietly rfl ?_; go_big_quiet_want; go_big_quiet_op; go_big_quiet_on)); refine Mx.done ?_)
        refine Mx.nil ?_
        generalize w1.drew = w2 at *
        go_wp2_with fail
        refine (HD.out w2 hdr).mono ?_
        rintro e' w3 ⟨a3, c3, rfl, ho3, hb3⟩
        go_wp2
        go_ret3
        exact RetT.mk (t := []) (y := 0) (z := Z) rfl HR3.out (hdr.trans (hb3.mono hdr.size))

  · have HR : Hid (textR l at_ bits = ([], 0, F)) := Lib.hid (by
      unfold textR
      by_cases hlow : bits < 1 ∨ 7 < bits
      · rw [if_pos hlow]
        have h5 : getR l at_ bits = (0, 0, 150) := getR_bits (by omega)
        rw [h5] at hg
        cases hg; rfl
      · rw [if_neg hlow, hg, if_pos hF])
    have hF1 : (F == 0) = false := by rw [beq_eq_false_iff_ne]; exact hF
    have hF2 : (F != 0) = true := by rw [bne_iff_ne]; exact hF
    clear hg hl hF
    go_enter Try.func32, Try.ntmps32
    go_wp2_with fail
    refine HG.out.mono ?_
    rintro e' w1 ⟨rfl, hb⟩
    go_wp2
    go_ret3
    exact RetT.mk rfl HR.out hb
end Go.Proofs.Ytkijpjdjkjnpiaa

/- hone.block: the lines up to an empty one. Conditions: the sizes, the library's variables. -/
import Derived.Test.YtfffefhchjnfjaaGreatDoorHoSta
import Derived.Lib.SlBytesConst
namespace Go.Proofs.YtfffefhchjnfjaaGreatDoor
open Go.RowKit

/-- what block answers: the lines, and where they end -/
def BlkR (w : World) (b : List UInt8) (x : BR) (e : Ending) (w' : World) : Prop :=
  Below w.heap.size w w' ∧ match x with
  | .wait => e = .returned (.tuple #[.slice none 0 0, .int .i64 0, .int .i64 0])
  | .bad c => e = .returned (.tuple #[.slice none 0 0, .int .i64 0, .int .i64 c])
  | .ok ls r => ∃ (g k : Nat), e = .returned (.tuple #[.slice (some ⟨g, 0, none⟩) ls.length ls.length, .int .i64 (k : Int), .int .i64 0]) ∧ w.heap.size ≤ g ∧ Sl w' (some ⟨g, 0, none⟩) ls.length ls.length (sB ls) ∧ 4 ≤ k ∧ k ≤ b.length ∧ r = b.drop k
theorem BlkR.wait {w w' : World} {b : List UInt8} {x : BR} (h : x = .wait) (hb : Below w.heap.size w w') : BlkR w b x (.returned (.tuple #[.slice none 0 0, .int .i64 0, .int .i64 0])) w' := by subst h; exact ⟨hb, rfl⟩
theorem BlkR.bad {w w' : World} {b : List UInt8} {x : BR} {c : Int} (h : x = .bad c) (hb : Below w.heap.size w w') : BlkR w b x (.returned (.tuple #[.slice none 0 0, .int .i64 0, .int .i64 c])) w' := by subst h; exact ⟨hb, rfl⟩
theorem split_len (n : Nat) (l : List UInt8) : 1 ≤ (splitG n l).length := by
  cases n with
  | zero => simp [splitG]
  | succ n => unfold splitG; split <;> simp
theorem split_cnt : ∀ (n : Nat) (l : List UInt8), (splitG n l).length ≤ l.length + 1
  | 0, l => by simp [splitG]
  | n + 1, l => by
    unfold splitG
    split
    · simp
    · rename_i x r h
      have h1 := cut_lt h
      have h2 := split_cnt n r
      simp only [List.length_cons]; omega
theorem sl_news (w : World) (ls : List (List UInt8)) (hl : ls.length ≤ maxLen) : Sl (w.alloc (.cells (ls.map fun x => Value.string (strB x)).toArray 9)) (some ⟨w.heap.size, 0, none⟩) ls.length ls.length (sB ls) := by
  refine ⟨by simp [sB], Nat.le_refl _, hl, by simp, fun _ => ⟨w.heap.size, 0, rfl, fun i hi => ?_⟩⟩
  rw [Nat.zero_add, cell_of_row _ w.heap.size i _ 9 (0, 0) (heap_alloc_new w _)]
  simp [sB]
theorem bkj1 {n limit : Nat} (h : limit < n) : ((limit : Int) < (n : Int)) = True := eq_true (by omega)
theorem bkj2 {n limit : Nat} (h : ¬ limit < n) : ((limit : Int) < (n : Int)) = False := eq_false (by omega)
theorem bkj3 {q q4 : Nat} (h : q4 = q + 4) (hz : q4 < 4294967281) : IntKind.i64.wrap ((q : Int) + 4) = (q4 : Int) ∧ RowKit.wrap64 ((q : Int) + 4) = (q4 : Int) ∧ ((q : Int) < 0) = False ∧ ((0 : Int) ≤ (q : Int)) = True := by
  rw [IntKind.wrap_i64]; unfold RowKit.wrap64; subst h; exact ⟨by omega, by omega, eq_false (by omega), eq_true (by omega)⟩
set_option maxRecDepth 100000 in
set_option maxHeartbeats 4000000 in
theorem block_any (w : World) (ht : Tab w) {g : Nat} {r : RD} (hr : Rd w g r) {a : Option Addr} {n c limit : Nat} {b : List UInt8} (hbf : r.bf = .slice a n c) (hlim : r.lim = (limit : Int)) (hsl : Sl w a n c (bv b)) (hn : n < 4294967281) :
    Calls Tryz.prog 32 #[.pointer (some ⟨g, 0, none⟩)] w (BlkR w b (blkV limit b r.en)) := by
  obtain ⟨F, hF⟩ : ∃ F, F = blkV limit b r.en := ⟨_, rfl⟩
  rw [← hF]
  obtain ⟨w1, hw1⟩ : ∃ w1, w1 = w.alloc (.cells #[.int .u8 13, .int .u8 10, .int .u8 13, .int .u8 10] 5 (4, 5)) := ⟨_, rfl⟩
  obtain ⟨g1, hg1⟩ : ∃ g1, g1 = w.heap.size := ⟨_, rfl⟩
  have hb1 : Below w.heap.size w w1 := by rw [hw1]; exact (Below.refl _ w).alloc (Nat.le_refl _) _
  have hbt : Sl w1 (some ⟨g1, 0, none⟩) 4 4 (bv crcrS) := by
    refine ⟨rfl, Nat.le_refl _, by decide, by simp, fun _ => ⟨g1, 0, rfl, fun i hi => ?_⟩⟩
    rw [Nat.zero_add, hw1, hg1, cell_of_row _ w.heap.size i _ 5 (4, 5) (heap_alloc_new w _)]
    match i, hi with
    | 0, _ => rfl
    | 1, _ => rfl
    | 2, _ => rfl
    | 3, _ => rfl
  have kc : (convert 23 23 (.slice (some ⟨w.heap.size, 0, none⟩) 4 4)).run Tryz.prog (w.alloc (.cells #[.int .u8 13, .int .u8 10, .int .u8 13, .int .u8 10] 5)) = .ok (.slice (some ⟨w.heap.size, 0, none⟩) 4 4) (w.alloc (.cells #[.int .u8 13, .int .u8 10, .int .u8 13, .int .u8 10] 5 (4, 5))) := Lib.run_convert_bytes_const (P := Tryz.prog) w 23 5 #[.int .u8 13, .int .u8 10, .int .u8 13, .int .u8 10] 4 4 Tryz.underlying23 Tryz.underlying5
  have HIx := Lib.hid (index_any w1 (ht.below hb1) (hsl.below hb1) hn hbt (by decide))
  have HB1 := Lib.hid hb1
  have HT := Lib.hid ht
  have HS := Lib.hid hsl
  have HR := Lib.hid hr
  have hl := hsl.byte
  have c2 : w.cell? ⟨g, 2, none⟩ = some (.slice a n c) := by rw [← hbf]; exact hr.at 2 rfl
  unfold blkV at hF
  rw [hl] at hF
  have hL1 : ∀ w', Below w.heap.size w w' → w'.cell? ⟨g, 1, none⟩ = some (.int .i64 (limit : Int)) ∧ w'.cell? ⟨g, 2, none⟩ = some (.slice a n c) ∧ w'.cell? ⟨g, 3, none⟩ = some (.bool r.en) := fun w' hb => by
    have h := hr.below hb
    exact ⟨by rw [← hlim]; exact h.at 1 rfl, by rw [← hbf]; exact h.at 2 rfl, h.at 3 rfl⟩
  have HC := Lib.hid hL1
  clear hr hbf hlim hsl hb1 hbt ht hL1
  cases hc : cutS crcrS b with
  | none =>
    rw [hc] at hF HIx
    have HIx2 : Hid (Calls Tryz.prog 37 #[.slice a n c, .slice (some ⟨g1, 0, none⟩) 4 4] w1 (IntOf w1 (-1))) := HIx
    simp only at hF
    clear hc HIx hl
    by_cases h1 : limit < n
    · rw [if_pos h1] at hF
      have HF := Lib.hid hF
      have y1 := bkj1 h1
      clear hF h1 hn
      as_aux_lemma =>
        go_enter Tryz.func32, Tryz.ntmps32
        go_wp2_with fail
        rw [← hw1, ← hg1]
        refine HIx2.out.mono ?_
        rintro e w3 ⟨rfl, hb3⟩
        have HB3 : Hid (Below w.heap.size w w3) := Lib.hid (HB1.out.trans (hb3.mono HB1.out.size))
        clear hb3 HIx2 hw1 hg1 c2 kc
        go_upto_region 2 with fail
        obtain ⟨k1, k2, k3⟩ := HC.out w3 HB3.out
        go_quiet (fail)
        go_wp2
        go_ret3
        exact BlkR.bad HF.out (below_drewN HB3.out _)
    · rw [if_neg h1] at hF
      have y1 := bkj2 h1
      cases hen : r.en with
      | true =>
        rw [hen, if_pos rfl] at hF
        have HF := Lib.hid hF
        rw [hen] at HC
        clear hF h1 hn hen
        as_aux_lemma =>
          go_enter Tryz.func32, Tryz.ntmps32
          go_wp2_with fail
          rw [← hw1, ← hg1]
          refine HIx2.out.mono ?_
          rintro e w3 ⟨rfl, hb3⟩
          have HB3 : Hid (Below w.heap.size w w3) := Lib.hid (HB1.out.trans (hb3.mono HB1.out.size))
          clear hb3 HIx2 hw1 hg1 c2 kc
          go_upto_region 2 with fail
          obtain ⟨k1, k2, k3⟩ := HC.out w3 HB3.out
          go_quiet (fail)
          go_wp2
          go_ret3
          exact BlkR.bad HF.out (below_drewN HB3.out _)
      | false =>
        rw [hen, if_neg (by decide)] at hF
        have HF := Lib.hid hF
        rw [hen] at HC
        clear hF h1 hn hen
        as_aux_lemma =>
          go_enter Tryz.func32, Tryz.ntmps32
          go_wp2_with fail
          rw [← hw1, ← hg1]
          refine HIx2.out.mono ?_
          rintro e w3 ⟨rfl, hb3⟩
          have HB3 : Hid (Below w.heap.size w w3) := Lib.hid (HB1.out.trans (hb3.mono HB1.out.size))
          clear hb3 HIx2 hw1 hg1 c2 kc
          go_upto_region 2 with fail
          obtain ⟨k1, k2, k3⟩ := HC.out w3 HB3.out
          go_quiet (fail)
          go_wp2
          go_ret3
          exact BlkR.wait HF.out (below_drewN HB3.out _)
  | some xr =>
    obtain ⟨x, r'⟩ := xr
    have hlt := cutS_lt hc
    have heq := cutS_eq hc
    have h4 : crcrS.length = 4 := rfl
    rw [h4] at hlt
    obtain ⟨q, hq⟩ : ∃ q, q = x.length := ⟨_, rfl⟩
    obtain ⟨q4, hq4⟩ : ∃ q4, q4 = q + 4 := ⟨_, rfl⟩
    have hqn : q4 ≤ n := by omega
    rw [hc] at hF HIx
    have HIx2 : Hid (Calls Tryz.prog 37 #[.slice a n c, .slice (some ⟨g1, 0, none⟩) 4 4] w1 (IntOf w1 (q : Int))) := by rw [hq]; exact HIx
    simp only at hF
    rw [← hq, ← hq4] at hF
    have HZ := Lib.hid (bkj3 hq4 (by omega))
    clear HIx
    by_cases h1 : limit < q4
    · rw [if_pos h1] at hF
      have HF := Lib.hid hF
      have y1 := bkj1 h1
      clear hF h1 hn hc hlt heq h4 hq hq4 hqn hl
      obtain ⟨z1, z2, z3, z4⟩ := HZ.out
      as_aux_lemma =>
        go_enter Tryz.func32, Tryz.ntmps32
        go_wp2_with fail
        rw [← hw1, ← hg1]
        refine HIx2.out.mono ?_
        rintro e w3 ⟨rfl, hb3⟩
        have HB3 : Hid (Below w.heap.size w w3) := Lib.hid (HB1.out.trans (hb3.mono HB1.out.size))
        clear hb3 HIx2 hw1 hg1 c2 kc
        go_upto_region 2 with fail
        obtain ⟨k1, k2, k3⟩ := HC.out w3 HB3.out
        go_quiet (fail)
        go_wp2
        go_ret3
        exact BlkR.bad HF.out (below_drewN HB3.out _)
    · rw [if_neg h1] at hF
      have y1 := bkj2 h1
      have HF := Lib.hid hF
      have hbx : b.take q = x := by rw [heq, hq]; exact List.take_left
      have hbr : b.drop q4 = r' := by
        rw [heq, hq4, hq, ← List.drop_drop, List.drop_left]; rfl
      have HQ : Hid (4 ≤ q4 ∧ q4 ≤ b.length ∧ r' = b.drop q4) := Lib.hid ⟨by omega, by rw [hl]; exact hqn, hbr.symm⟩
      have HX : Hid (x.length < 4294967281) := Lib.hid (by omega)
      have HSx : Hid (Sl w a q c (bv x)) := Lib.hid (by
        have h := sl_take HS.out (k := q) (by omega)
        rw [← hbx]
        rw [show (bv b).take q = bv (b.take q) from by simp [bv]] at h
        exact h)
      have hqc : q ≤ c := by have := HS.out.cap_le; omega
      have sl1 : ((q : Int) < 0) = False := HZ.out.2.2.1
      have sl2 : ((c : Int) < (q : Int)) = False := eq_false (by omega)
      have sl3 : (q : Int) ≤ (c : Int) := by omega
      have sl4 : (0 : Int) ≤ (q : Int) := by omega
      have HLn : Hid ((splitL x).length ≤ maxLen) := Lib.hid (by have := split_cnt (x.length + 1) x; unfold splitL maxLen; omega)
      clear hF h1 hn hc hlt heq h4 hq hq4 hqn hl hbx hbr hqc
      obtain ⟨z1, z2, z3, z4⟩ := HZ.out
      as_aux_lemma =>
        go_enter Tryz.func32, Tryz.ntmps32
        go_wp2_with fail
        rw [← hw1, ← hg1]
        refine HIx2.out.mono ?_
        rintro e w3 ⟨rfl, hb3⟩
        have HB3 : Hid (Below w.heap.size w w3) := Lib.hid (HB1.out.trans (hb3.mono HB1.out.size))
        clear hb3 HIx2 hw1 hg1 c2 kc
        go_upto_region 2 with fail
        obtain ⟨k1, k2, k3⟩ := HC.out w3 HB3.out
        go_quiet (fail)
        have HB4 : Hid (Below w.heap.size w (w3.drewN nq)) := Lib.hid (below_drewN HB3.out nq)
        clear k1 k2 k3
        obtain ⟨w4, hw4⟩ : ∃ w4, w4 = w3.drewN nq := ⟨_, rfl⟩
        rw [← hw4] at HB4 ⊢
        clear hw4 HB3
        obtain ⟨k1, k2, k3⟩ := HC.out w4 HB4.out
        have hcv : (convert 23 9 (.slice a q c)).run Tryz.prog w4 = .ok (.string (strB x)) w4 := run_str (P := Tryz.prog) (HSx.out.below HB4.out) 23 5 9 Tryz.underlying23 Tryz.underlying5 Tryz.underlying9
        have HSp := Lib.hid (split2_any w4 (HT.out.below HB4.out) x HX.out)
        go_wp2_with fail
        refine HSp.out.mono ?_
        rintro e w5 ⟨g5, hg5, rfl, hw5⟩
        have HG5 : Hid (w.heap.size ≤ g5) := Lib.hid (by rw [hg5]; exact HB4.out.size)
        have HB5 : Hid (Below w.heap.size w w5) := Lib.hid (by rw [hw5]; exact HB4.out.alloc HB4.out.size _)
        have HS5 : Hid (Sl w5 (some ⟨g5, 0, none⟩) (splitL x).length (splitL x).length (sB (splitL x))) := Lib.hid (by rw [hw5, hg5]; exact sl_news w4 (splitL x) HLn.out)
        obtain ⟨LS, hLS⟩ : ∃ LS, LS = splitL x := ⟨_, rfl⟩
        rw [← hLS] at HS5 HF ⊢
        obtain ⟨m, hm⟩ : ∃ m, m = LS.length := ⟨_, rfl⟩
        have HM := Lib.hid hm
        rw [← hm] at HS5 ⊢
        clear hw5 hg5 hcv k1 k2 k3 hLS hm
        go_wp2
        go_ret3
        refine ⟨HB5.out, ?_⟩
        rw [HF.out]
        exact ⟨g5, q4, by rw [← HM.out]; rfl, HG5.out, by rw [← HM.out]; exact HS5.out, HQ.out.1, HQ.out.2.1, HQ.out.2.2⟩
end Go.Proofs.YtfffefhchjnfjaaGreatDoor

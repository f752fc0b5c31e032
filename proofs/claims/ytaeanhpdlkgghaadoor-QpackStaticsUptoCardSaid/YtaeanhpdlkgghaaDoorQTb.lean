/- turnpikeref16.table and Static. No condition. -/
import Derived.Test.YtaeanhpdlkgghaaDoorQSt
import Derived.Test.YtaeanhpdlkgghaaDoorQTf
import Derived.Test.YtaeanhpdlkgghaaDoorRef01
namespace Go.Proofs.YtaeanhpdlkgghaaDoor
open Go.RowKit

theorem idxS (w : World) (l : List UInt8) (i : Nat) (h : i < l.length) : (Instr.index 9 (.string (strB l)) (.int .i64 (i : Int))).run Tryd.prog w = .ok (.int .u8 (l[i].toNat : Int)) w := by
  have h2 : (strB l)[i]? = some l[i] := by
    have h3 : i < (strB l).size := by rw [strB_size]; exact h
    rw [getElem?_pos (strB l) i h3]
    rfl
  simp [go_sem, Instr.index, h2]
def refS : List UInt8 := statS ++ [10]
/-- one byte of the table's text: the entries, where the line begins, its first blank -/
def tbSt (l : List UInt8) (i : Nat) (s : List Fd × Nat × Int) : List Fd × Nat × Int :=
  if l[i]?.getD 0 = 10 then (s.1 ++ [if 0 ≤ s.2.2 then ⟨strB ((l.drop s.2.1).take (s.2.2.toNat - s.2.1)), strB ((l.drop (s.2.2.toNat + 1)).take (i - (s.2.2.toNat + 1)))⟩ else ⟨strB ((l.drop s.2.1).take (i - s.2.1)), ⟨#[]⟩⟩], i + 1, -1)
  else (s.1, s.2.1, if l[i]?.getD 0 = 32 ∧ s.2.2 < 0 then (i : Int) else s.2.2)
def tbG (l : List UInt8) : Nat → List Fd × Nat × Int
  | 0 => ([], 0, -1)
  | i + 1 => tbSt l i (tbG l i)
theorem refS_len : refS.length = 549 := by kernel_rfl
theorem tb_end : tbG refS 549 = (stF, 549, -1) := by kernel_rfl
theorem tb_inv (l : List UInt8) : ∀ i, (tbG l i).2.1 ≤ i ∧ -1 ≤ (tbG l i).2.2 ∧ (tbG l i).2.2 < (i : Int) ∧ (0 ≤ (tbG l i).2.2 → ((tbG l i).2.1 : Int) ≤ (tbG l i).2.2) ∧ (tbG l i).1.length ≤ i
  | 0 => by simp [tbG]
  | i + 1 => by
    have h := tb_inv l i
    have e : tbG l (i + 1) = tbSt l i (tbG l i) := rfl
    rw [e]
    rcases hs : tbG l i with ⟨o, f, b⟩
    rw [hs] at h
    obtain ⟨h1, h2, h3, h4, h5⟩ := h
    simp only at h1 h2 h3 h4 h5
    unfold tbSt
    split
    · simp only [List.length_append, List.length_singleton]
      exact ⟨Nat.le_refl _, by omega, by omega, fun h => absurd h (by decide), by omega⟩
    · simp only
      refine ⟨by omega, ?_, ?_, ?_, by omega⟩
      · split <;> omega
      · split <;> omega
      · split
        · intro _; omega
        · exact h4
theorem tbj1 {i from_ : Nat} (h : from_ ≤ i) (hi : i < 549) : (0 : Int) ≤ (from_ : Int) ∧ (from_ : Int) ≤ (i : Int) ∧ (i : Int) ≤ 549 ∧ (from_ : Int) ≤ 549 ∧ RowKit.wrap64 ((i : Int) + 1) = ((i + 1 : Nat) : Int) ∧ IntKind.i64.wrap ((i : Int) + 1) = ((i + 1 : Nat) : Int) ∧ (i : Int) < 549 ∧ (0 : Int) ≤ (i : Int) := by
  rw [IntKind.wrap_i64]; unfold RowKit.wrap64; omega
theorem tbj2 {i k from_ : Nat} (h : from_ ≤ k) (h2 : k < i) (hi : i < 549) : (from_ : Int) ≤ (k : Int) ∧ (k : Int) ≤ 549 ∧ RowKit.wrap64 ((k : Int) + 1) = ((k + 1 : Nat) : Int) ∧ IntKind.i64.wrap ((k : Int) + 1) = ((k + 1 : Nat) : Int) ∧ ((k + 1 : Nat) : Int) ≤ (i : Int) ∧ (0 : Int) ≤ ((k + 1 : Nat) : Int) ∧ ((0 : Int) ≤ (k : Int)) = True := by
  rw [IntKind.wrap_i64]; unfold RowKit.wrap64
  refine ⟨by omega, by omega, by omega, by omega, by omega, by omega, eq_true (by omega)⟩
theorem ne32 {B : UInt8} {x : Int} (hx : x = (B.toNat : Int)) (h : ¬ B = 32) : (x == 32) = false := by
  rw [beq_eq_false_iff_ne, hx]
  intro e
  exact h (UInt8.toNat_inj.1 (show B.toNat = 32 by omega))
theorem ne10 {B : UInt8} {x : Int} (hx : x = (B.toNat : Int)) (h : ¬ B = 10) : (x == 10) = false := by
  rw [beq_eq_false_iff_ne, hx]
  intro e
  exact h (UInt8.toNat_inj.1 (show B.toNat = 10 by omega))
/-- one field appended, out of a new row -/
theorem app_fld {w w3 : World} {a : Option Addr} {n c : Nat} {O : List Fd} (h : TF w3 a n c O) (ha : ∀ ad, a = some ad → w.heap.size ≤ ad.block) (hb : Below w.heap.size w w3) (f : Fd) (hn : n ≤ 1000000) (tyo : TypeId) :
    ∃ a' c' w5, (Builtin.append_ #[43, 43] tyo #[.slice a n c, .slice (some ⟨w3.heap.size, 0, none⟩) 1 1]).run Tryd.prog (w3.alloc (.cells #[.string f.nm, .string f.va] 23)) = .ok (.slice a' (n + 1) c') w5 ∧
      TF w5 a' (n + 1) c' (O ++ [f]) ∧ (∀ ad, a' = some ad → w.heap.size ≤ ad.block) ∧ Below w.heap.size w w5 := by
  have hal : Below w3.heap.size w3 (w3.alloc (.cells #[.string f.nm, .string f.va] 23)) := (Below.refl _ w3).alloc (Nat.le_refl _) _
  have hh := Has.new w3 23 #[.string f.nm, .string f.va]
  obtain ⟨a', c', w5, hr, ht, hg, hw⟩ := run_app_tf (tyo := tyo) (ad := ⟨w3.heap.size, 0, none⟩) (c2 := 1) (f := f) (h.below hal) (fun j u hu => by rw [addr_add, Nat.zero_add]; exact hh.cell j hu) (by omega)
  have hbl : Below w.heap.size w (w3.alloc (.cells #[.string f.nm, .string f.va] 23)) := hb.trans (hal.mono hb.size)
  refine ⟨a', c', w5, hr, ht, fun ad hd => ?_, hbl.trans ((Kept.of_grown hg).below hbl.size (fun k e => ?_))⟩
  · rcases hw ad hd with ⟨y, hy, he⟩ | h1
    · rw [← he]; exact ha y hy
    · exact Nat.le_trans hbl.size h1
  · cases a with
    | none => cases e
    | some ad => cases e; exact ha ad rfl
set_option maxRecDepth 100000 in
set_option maxHeartbeats 4000000 in
theorem table_any (w : World) : Calls Tryd.prog 26 #[] w fun e w' => ∃ a c, e = .returned (.slice a 40 c) ∧ TF w' a 40 c stF ∧ Below w.heap.size w w' := by
  obtain ⟨S, hS⟩ : ∃ S, S = refS := ⟨_, rfl⟩
  have hsz : (strB S).size = 549 := by rw [strB_size, hS, refS_len]
  have hlen : S.length = 549 := by rw [hS, refS_len]
  have HLen := Lib.hid hlen
  have HS := Lib.hid hS
  clear hlen
  go_enter Tryd.func26, Tryd.ntmps26
  go_upto_region 2 with fail
  show Code.wp _ _ _ { tmps := #[.slice none 0 0, .string (strB refS), undef, undef, undef, undef, undef, undef, undef, undef, undef, undef, undef, undef, undef, undef, undef, undef, undef, undef, undef, undef, undef, undef, undef, undef, undef, undef, undef, undef, undef, undef, undef, undef, undef, undef, undef, undef, undef, undef, undef, undef, undef, undef, undef, undef, undef, undef, undef, undef], defers := [] } _
  rw [← hS]
  dsimp only
  clear hS
  go_wp2_with fail
  go_loopw [2, 3, 4, 5] (fun ov fv bv' iv wr => ∃ (i n c : Nat) (a : Option Addr) (O : List Fd) (f : Nat) (b : Int), ov = .slice a n c ∧ fv = .int .i64 (f : Int) ∧ bv' = .int .i64 b ∧ iv = .int .i64 (i : Int) ∧ i ≤ 549 ∧ Hid (tbG S i = (O, f, b)) ∧ TF wr a n c O ∧ (∀ ad, a = some ad → w.heap.size ≤ ad.block) ∧ Below w.heap.size w wr) (fun _ _ _ iv _ => 549 - (intOf iv).toNat)
  case atStart => exact ⟨0, 0, 0, none, [], 0, -1, rfl, rfl, rfl, rfl, Nat.zero_le _, Lib.hid rfl, TF.nil _, (fun _ h => by cases h), Below.refl _ _⟩
  case round =>
    obtain ⟨i, n, c, a, O, f, b, rfl, rfl, rfl, rfl, hi, HTb, htf, ha, hbw⟩ := hrel
    have HTf := Lib.hid htf
    have HA := Lib.hid ha
    have HBw := Lib.hid hbw
    have hinv := tb_inv S i
    rw [HTb.out] at hinv
    have HInv := Lib.hid hinv
    clear htf ha hbw hinv
    by_cases hin : i < 549
    · have hil : i < S.length := by rw [HLen.out]; exact hin
      have ix := idxS wr S i hil
      have hgd : S[i]?.getD 0 = S[i] := by rw [List.getElem?_eq_getElem hil]; rfl
      have hT : tbG S (i + 1) = tbSt S i (O, f, b) := by show tbSt S i (tbG S i) = _; rw [HTb.out]
      unfold tbSt at hT
      rw [hgd] at hT
      simp only at hT
      obtain ⟨q1, q2, q3, q4, q5⟩ := HInv.out
      simp only at q1 q2 q3 q4 q5
      obtain ⟨z0, z1, z2, z3, z4, z5, z6, z7⟩ := tbj1 q1 hin
      obtain ⟨B, hB⟩ : ∃ B, B = S[i] := ⟨_, rfl⟩
      rw [← hB] at ix hT
      obtain ⟨x, hx⟩ : ∃ x : Int, x = (B.toNat : Int) := ⟨_, rfl⟩
      rw [← hx] at ix
      have HI1 : Hid (i + 1 ≤ 549) := Lib.hid hin
      have HMs : Hid (549 - (i + 1) < 549 - i) := Lib.hid (by omega)
      have HN : Hid (n ≤ 549) := Lib.hid (by rw [← HTf.out.1]; omega)
      by_cases h32 : B = 32
      · have y1 : x = 32 := by rw [hx, h32]; rfl
        subst y1
        rw [if_neg (by rw [h32]; decide)] at hT
        by_cases hb0 : b < 0
        · have y2 : (b < 0) = True := eq_true hb0
          rw [if_pos ⟨h32, hb0⟩] at hT
          have HT1 := Lib.hid hT
          clear hT hgd hil hin hi hB hx h32 hb0 q1 q2 q3 q4 q5
          go_wp2_with fail
          go_roundw
          case rel => exact ⟨i + 1, n, c, a, O, f, (i : Int), rfl, rfl, rfl, by first | rfl | (push_cast; rfl), HI1.out, HT1, HTf.out, HA.out, HBw.out⟩
          case measure => exact HMs.out
        · have y2 : (b < 0) = False := eq_false hb0
          rw [if_neg (fun h => hb0 h.2)] at hT
          have HT1 := Lib.hid hT
          clear hT hgd hil hin hi hB hx h32 hb0 q1 q2 q3 q4 q5
          go_wp2_with fail
          go_roundw
          case rel => exact ⟨i + 1, n, c, a, O, f, b, rfl, rfl, rfl, by first | rfl | (push_cast; rfl), HI1.out, HT1, HTf.out, HA.out, HBw.out⟩
          case measure => exact HMs.out
      · have y1 : (x == 32) = false := ne32 hx h32
        by_cases h10 : B = 10
        · have y3 : x = 10 := by rw [hx, h10]; rfl
          subst y3
          rw [if_pos h10] at hT
          have x1 : (strB S).extract f i = strB ((S.drop f).take (i - f)) := strB_md S f i
          by_cases hb0 : 0 ≤ b
          · obtain ⟨k, rfl⟩ : ∃ k : Nat, b = (k : Int) := ⟨b.toNat, by omega⟩
            obtain ⟨v1, v2, v3, v4, v5, v6, v7⟩ := tbj2 (i := i) (k := k) (from_ := f) (by have := q4 hb0; omega) (by omega) hin
            rw [if_pos hb0] at hT
            simp only [Int.toNat_natCast] at hT
            have x2 : (strB S).extract f k = strB ((S.drop f).take (k - f)) := strB_md S f k
            have x3 : (strB S).extract (k + 1) i = strB ((S.drop (k + 1)).take (i - (k + 1))) := strB_md S (k + 1) i
            have HT1 := Lib.hid hT
            clear hT hgd hil hin hi hB hx h32 h10 hb0 q1 q2 q3 q4 q5
            go_upto_region 11 with fail
            obtain ⟨P, hP⟩ : ∃ P, P = strB (List.take (i - f) (List.drop f S)) := ⟨_, rfl⟩
            rw [← hP]
            obtain ⟨w2, hw2⟩ : ∃ w2, w2 = wr.alloc (.cells #[.string P, .string ⟨#[]⟩] 23) := ⟨_, rfl⟩
            obtain ⟨g2, hg2⟩ : ∃ g2, g2 = wr.heap.size := ⟨_, rfl⟩
            have hb2 : Below wr.heap.size wr w2 := by rw [hw2]; exact (Below.refl _ wr).alloc (Nat.le_refl _) _
            have HH2 : Hid (Has w2 g2 23 [.string P, .string ⟨#[]⟩]) := Lib.hid (by rw [hw2, hg2]; exact Has.new wr 23 _)
            have HTf2 : Hid (TF w2 a n c O) := Lib.hid (HTf.out.below hb2)
            have HB2 : Hid (Below w.heap.size w w2) := Lib.hid (HBw.out.trans (hb2.mono HBw.out.size))
            have HGe : Hid (w.heap.size ≤ g2 ∧ wr.heap.size ≤ g2) := Lib.hid (by rw [hg2]; exact ⟨HBw.out.size, Nat.le_refl _⟩)
            have HPe := Lib.hid hP
            have HAl : Hid (∀ ad, a = some ad → ad.block < wr.heap.size) := Lib.hid HTf.out.lt
            rw [← hw2, ← hg2]
            clear hw2 hg2 hb2 hP x1 ix
            obtain ⟨A1, hA1⟩ : ∃ A1, A1 = strB ((S.drop f).take (k - f)) := ⟨_, rfl⟩
            obtain ⟨A2, hA2⟩ : ∃ A2, A2 = strB ((S.drop (k + 1)).take (i - (k + 1))) := ⟨_, rfl⟩
            rw [← hA1] at x2
            rw [← hA2] at x3
            rw [← hA1, ← hA2] at HT1
            clear hA1 hA2
            have c2 := HH2.out.cell 0 rfl
            have c2b := HH2.out.cell 1 rfl
            have f2 : w2.frozen? ⟨g2, 0, none⟩ = false := HH2.out.free 0
            have f2b : w2.frozen? ⟨g2, 1, none⟩ = false := HH2.out.free 1
            go_upto_region 12 with fail
            refine Mx.regionZ [] (fun _ => True) (by kernel_rfl) (by kernel_rfl) trivial ?_
            repeat ((first | (refine Mx.skips (by kernel_rfl) ?_; go_big_quiet_skip) | (refine Mx.quietly rfl ?_; go_big_quiet_want; go_big_quiet_op; go_big_quiet_on)); refine Mx.done ?_)
            refine Mx.atLast (by kernel_rfl) (by kernel_rfl) ?_
            go_upto_region 13 with fail
            obtain ⟨w3, hw3⟩ : ∃ w3, w3 = ((w2.setCell ⟨g2, 0, none⟩ (.string A1)).setCell ⟨g2, 1, none⟩ (.string A2)).drew := ⟨_, rfl⟩
            rw [← hw3]
            obtain ⟨FF, hFF⟩ : ∃ FF : Fd, FF = ⟨A1, A2⟩ := ⟨_, rfl⟩
            have X3 : Kept (fun k => k = g2) w2 w3 := by
              rw [hw3]
              exact ((Kept.set w2 g2 0 _).trans (Kept.set _ g2 1 _) (fun _ _ e => e)).trans (Kept.drew (fun k => k = g2) _) (fun _ _ e => e)
            have HH3 : Hid (Has w3 g2 23 [.string A1, .string A2]) := Lib.hid (by rw [hw3]; exact ((HH2.out.set 0 (.string A1)).set 1 (.string A2)).kept (Kept.drew none' _) (fun h => h))
            have HTf3 : Hid (TF w3 a n c O) := Lib.hid (HTf2.out.kept X3 (fun ad h e => by have h1 := HAl.out ad h; have h2 := HGe.out.2; omega))
            have HB3 : Hid (Below w.heap.size w w3) := Lib.hid (HB2.out.trans (X3.below HB2.out.size (fun k e => by rw [e]; exact HGe.out.1)))
            rw [← hFF] at HT1
            have d2 := HH3.out.cell 0 rfl
            have d2b := HH3.out.cell 1 rfl
            clear hw3 c2 c2b f2 f2b X3
            obtain ⟨a', c', w5, hr, ht5, ha5, hb5⟩ := app_fld (tyo := 43) HTf3.out HA.out HB3.out FF (Nat.le_trans HN.out (by decide))
            have HT5 := Lib.hid ht5
            have HA5 := Lib.hid ha5
            have HB5 := Lib.hid hb5
            clear ht5 ha5 hb5
            rw [hFF] at hr
            simp only at hr
            go_wp2_with (at_builtin; refine Lib.wpList_append_run _ rfl _ _ _ _ rfl (.slice a n c) (.slice (some ⟨w3.heap.size, 0, none⟩) 1 1) rfl rfl _ _ hr ?_)
            clear hr
            go_wp2_with fail
            go_roundw
            case rel => exact ⟨i + 1, n + 1, c', a', O ++ [FF], i + 1, -1, rfl, by first | rfl | (push_cast; rfl), rfl, by first | rfl | (push_cast; rfl), HI1.out, HT1, HT5.out, HA5.out, HB5.out⟩
            case measure => exact HMs.out
          · have y4 : ((0 : Int) ≤ b) = False := eq_false hb0
            rw [if_neg hb0] at hT
            have HT1 := Lib.hid hT
            clear hT hgd hil hin hi hB hx h32 h10 hb0 q1 q2 q3 q4 q5
            go_upto_region 11 with fail
            obtain ⟨P, hP⟩ : ∃ P, P = strB (List.take (i - f) (List.drop f S)) := ⟨_, rfl⟩
            rw [← hP]
            obtain ⟨w2, hw2⟩ : ∃ w2, w2 = wr.alloc (.cells #[.string P, .string ⟨#[]⟩] 23) := ⟨_, rfl⟩
            obtain ⟨g2, hg2⟩ : ∃ g2, g2 = wr.heap.size := ⟨_, rfl⟩
            have hb2 : Below wr.heap.size wr w2 := by rw [hw2]; exact (Below.refl _ wr).alloc (Nat.le_refl _) _
            have HH2 : Hid (Has w2 g2 23 [.string P, .string ⟨#[]⟩]) := Lib.hid (by rw [hw2, hg2]; exact Has.new wr 23 _)
            have HTf2 : Hid (TF w2 a n c O) := Lib.hid (HTf.out.below hb2)
            have HB2 : Hid (Below w.heap.size w w2) := Lib.hid (HBw.out.trans (hb2.mono HBw.out.size))
            have HGe : Hid (w.heap.size ≤ g2 ∧ wr.heap.size ≤ g2) := Lib.hid (by rw [hg2]; exact ⟨HBw.out.size, Nat.le_refl _⟩)
            have HPe := Lib.hid hP
            have HAl : Hid (∀ ad, a = some ad → ad.block < wr.heap.size) := Lib.hid HTf.out.lt
            rw [← hw2, ← hg2]
            clear hw2 hg2 hb2 hP x1 ix
            have c2 := HH2.out.cell 0 rfl
            have c2b := HH2.out.cell 1 rfl
            obtain ⟨w3, hw3⟩ : ∃ w3, w3 = w2 := ⟨_, rfl⟩
            obtain ⟨FF, hFF⟩ : ∃ FF : Fd, FF = ⟨P, ⟨#[]⟩⟩ := ⟨_, rfl⟩
            have HTf3 : Hid (TF w3 a n c O) := Lib.hid (by rw [hw3]; exact HTf2.out)
            have HB3 : Hid (Below w.heap.size w w3) := Lib.hid (by rw [hw3]; exact HB2.out)
            rw [← HPe.out, ← hFF] at HT1
            rw [← hw3] at c2 c2b ⊢
            clear hw3
            obtain ⟨a', c', w5, hr, ht5, ha5, hb5⟩ := app_fld (tyo := 43) HTf3.out HA.out HB3.out FF (Nat.le_trans HN.out (by decide))
            have HT5 := Lib.hid ht5
            have HA5 := Lib.hid ha5
            have HB5 := Lib.hid hb5
            clear ht5 ha5 hb5
            rw [hFF] at hr
            simp only at hr
            go_wp2_with (at_builtin; refine Lib.wpList_append_run _ rfl _ _ _ _ rfl (.slice a n c) (.slice (some ⟨w3.heap.size, 0, none⟩) 1 1) rfl rfl _ _ hr ?_)
            clear hr
            go_wp2_with fail
            go_roundw
            case rel => exact ⟨i + 1, n + 1, c', a', O ++ [FF], i + 1, -1, rfl, by first | rfl | (push_cast; rfl), rfl, by first | rfl | (push_cast; rfl), HI1.out, HT1, HT5.out, HA5.out, HB5.out⟩
            case measure => exact HMs.out
        · have y3 : (x == 10) = false := ne10 hx h10
          rw [if_neg h10, if_neg (fun h => h32 h.1)] at hT
          have HT1 := Lib.hid hT
          clear hT hgd hil hin hi hB hx h32 h10 q1 q2 q3 q4 q5
          go_wp2_with fail
          go_roundw
          case rel => exact ⟨i + 1, n, c, a, O, f, b, rfl, rfl, rfl, by first | rfl | (push_cast; rfl), HI1.out, HT1, HTf.out, HA.out, HBw.out⟩
          case measure => exact HMs.out
    · have z1 : ((i : Int) < 549) = False := eq_false (by omega)
      obtain rfl : i = 549 := by omega
      have h1 := HTb.out
      rw [HS.out, tb_end] at h1
      simp only [Prod.mk.injEq] at h1
      obtain ⟨rfl, rfl, rfl⟩ := h1
      have hn : n = 40 := by rw [← HTf.out.1, stF_len]
      subst hn
      go_wp2
      go_ret
      exact ⟨a, c, rfl, HTf.out, HBw.out⟩
end Go.Proofs.YtaeanhpdlkgghaaDoor

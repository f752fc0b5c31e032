/- Contract of the document's Decode. -/
import Derived.Test.YtkijpjdjkjnpiaaHuffFind
namespace Go.Proofs.Ytkijpjdjkjnpiaa
open Go.RowKit

theorem ones_at (bs : List Bool) (k : Nat) (hk : k < bs.length) : (bs.take (k + 1) = List.replicate (k + 1) true) ↔ (bs.take k = List.replicate k true ∧ bs[k] = true) := by
  rw [List.take_succ_eq_append_getElem hk, List.replicate_succ']
  constructor
  · intro h
    have := List.append_inj h (by simp; omega)
    exact ⟨this.1, by simpa using this.2⟩
  · rintro ⟨h1, h2⟩
    rw [h1, h2]

set_option maxRecDepth 100000 in
set_option maxHeartbeats 8000000 in
theorem rdecode_any (w : World) {a : Option Addr} {n c : Nat} {l : List UInt8} (h : Sl w a n c (bv l)) :
    Calls Try.prog 28 #[.slice a n c] w (RetBE w.heap.size w (decR l)) := by
  have hl := h.byte
  by_cases hbig : 16384 < n
  · have HR : Hid (decR l = ([], 52)) := Lib.hid (by unfold decR; rw [if_pos (by omega)])
    have hbig' : (16384 : Int) < (n : Int) := by omega
    clear hl
    go_enter Try.func28, Try.ntmps28
    go_wp2
    go_ret2
    rw [HR.out]
    exact RetBE.nil w 52 _ rfl
  · have HR := Lib.hid (decR_ok (l := l) (by omega))
    have hn : n ≤ 16384 := by omega
    have HL := Lib.hid hl
    obtain ⟨T, hT⟩ : ∃ T : Nat, T = 8 * n := ⟨_, rfl⟩
    have hT2 : T ≤ 131072 := by omega
    have g0 : IntKind.i64.wrap ((n : Int) * 8) = (T : Int) := by rw [IntKind.wrap_i64]; omega
    have g0' : (n : Int) * 8 = (T : Int) := by omega
    have HF := Lib.hid (fun (w' : World) (hb : Below w.heap.size w w') (p : Nat) (hp : p ≤ T) => (by have := find_any w' (h.below hb) hn p (by omega); rw [← hT] at this; exact this : Calls Try.prog 41 #[.slice a n c, .int .i64 (p : Int), .int .i64 (T : Int)] w' fun e w'' => e = .returned (findV (dec1 ((bitsOf l).drop p))) ∧ w' = w''))
    have HB := Lib.hid (fun (w' : World) (hb : Below w.heap.size w w') (i : Nat) (hi : i < T) => bit_any w' (h.below hb) hn i (by omega))
    have HTl : Hid ((bitsOf l).length = T) := Lib.hid (by rw [bitsOf_len, hl, hT])
    clear hl h hT hbig
    go_enter Try.func28, Try.ntmps28
    go_wp2_with fail
    go_loopw [5, 6] (fun pos out wr => ∃ (p : Nat) (o : List UInt8) (ao : Option Addr) (co : Nat), pos = .int .i64 (p : Int) ∧ out = .slice ao o.length co ∧ p ≤ T ∧ o.length ≤ p ∧ Hid (decL (bitsOf l) = (o ++ (decL ((bitsOf l).drop p)).1, (decL ((bitsOf l).drop p)).2)) ∧
      wr.ownsRow w.heap.size 5 1 (.slice ao o.length co) o.length (bv o) ∧ Below w.heap.size w wr) (fun pos _ _ => T - (intOf pos).toNat)
    case atStart =>
      refine ⟨0, [], some ⟨w.heap.size, 0, none⟩, 0, rfl, rfl, Nat.zero_le _, Nat.le_refl _, Lib.hid rfl, ?_, (Below.refl _ _).alloc (Nat.le_refl _) _⟩
      exact ⟨rfl, .inr ⟨_, 0, #[], rfl, Nat.le_refl _, heap_alloc_new w _, Nat.le_refl _, by decide, rfl, rfl⟩⟩
    case round =>
      obtain ⟨p, o, ao, co, rfl, rfl, hp, hop, HD, ho, hb⟩ := hrel
      have zr := hb.size
      have hF := HF.out wr hb p hp
      have g1 : IntKind.i64.wrap ((T : Int) - (p : Int)) = (T : Int) - p := by rw [IntKind.wrap_i64]; omega
      obtain ⟨R, hR⟩ : ∃ R, R = (bitsOf l).drop p := ⟨_, rfl⟩
      have hRl : R.length = T - p := by rw [hR, List.length_drop, HTl.out]
      rw [← hR] at hF HD
      cases hd : dec1 R with
      | some q =>
        obtain ⟨x, len⟩ := q
        have hlen := dec1_len hd
        rw [hd] at hF
        have HF' : Hid (Calls Try.prog 41 #[.slice a n c, .int .i64 (p : Int), .int .i64 (T : Int)] wr fun e w'' => e = .returned (.tuple #[.int .u8 (x.toNat : Int), .int .i64 (len : Int)]) ∧ wr = w'') := Lib.hid hF
        have HD2 : Hid (decL (bitsOf l) = ((o ++ [x]) ++ (decL ((bitsOf l).drop (p + len))).1, (decL ((bitsOf l).drop (p + len))).2)) := Lib.hid (by
          rw [HD.out, decL_some hd, hR, List.drop_drop]; simp)
        have g2 : IntKind.i64.wrap ((p : Int) + (len : Int)) = (p : Int) + len := by rw [IntKind.wrap_i64]; omega
        have hl5 : (0 : Int) < (len : Int) := by omega
        have hpl : p + len ≤ T := by omega
        have hl5' : 5 ≤ len := hlen.1
        have hxl : (o ++ [x]).length = o.length + 1 := by simp
        have HXL := Lib.hid hxl
        clear hF hd hlen hRl hR hxl
        go_wp2_with fail
        refine HF'.out.mono ?_
        rintro e w' ⟨rfl, rfl⟩
        go_wp2_with (at_builtin; refine wpL_app1 tyU8 rfl _ _ rfl rfl rfl ho rfl (by omega) (by unfold maxLen; omega) hb (Nat.le_refl _) zr ?_; intro a3 c3 w3 ho3 hb3 hg3)
        go_roundw
        case rel =>
          refine ⟨p + len, o ++ [x], a3, c3, by push_cast; rfl, by rw [HXL.out], hpl, by rw [HXL.out]; omega, HD2, ?_, hb3⟩
          rw [HXL.out, bv_append]
          exact ho3
        case measure => simp [intOf]; omega
      | none =>
        rw [hd] at hF
        have HF' : Hid (Calls Try.prog 41 #[.slice a n c, .int .i64 (p : Int), .int .i64 (T : Int)] wr fun e w'' => e = .returned (.tuple #[.int .u8 0, .int .i64 0]) ∧ wr = w'') := Lib.hid hF
        have hrest : decL (bitsOf l) = (o, R) := by rw [HD.out, decL_none hd]; simp
        have hRR := HR.out
        rw [hrest] at hRR
        simp only [] at hRR
        have HRR := Lib.hid hRR
        have HRl := Lib.hid hRl
        have HRd := Lib.hid hR
        have hs1 : (T : Int) - (p : Int) = ((T - p : Nat) : Int) := by omega
        clear hF hd hrest hRR hRl hR
        go_wp2_with fail
        refine HF'.out.mono ?_
        rintro e w' ⟨rfl, rfl⟩
        go_wp2_with fail
        go_loopw [10, 11] (fun ones iv wr' => ∃ i : Nat, iv = .int .i64 ((p + i : Nat) : Int) ∧ i ≤ T - p ∧ ones = .bool (decide (R.take i = List.replicate i true)) ∧ wr' = wr) (fun _ iv _ => T - (intOf iv).toNat)
        case atStart => exact ⟨0, rfl, Nat.zero_le _, by simp, rfl⟩
        case round =>
          obtain ⟨i, rfl, hi, rfl, rfl⟩ := hrel
          by_cases hi2 : i < T - p
          · have hii : ((p + i : Nat) : Int) < (T : Int) := by omega
            have hiR : i < R.length := by have := HRl.out; omega
            have g3 : IntKind.i64.wrap (((p + i : Nat) : Int) + 1) = ((p + (i + 1) : Nat) : Int) := by rw [IntKind.wrap_i64]; omega
            have hB := HB.out wr hb (p + i) (by omega)
            have hbit : R[i] = (bitAt l (p + i) == 1) := by
              have h1 : R[i]? = some (R[i]) := List.getElem?_eq_getElem hiR
              rw [show R[i]? = (bitsOf l)[p + i]? by rw [HRd.out, List.getElem?_drop], bitsOf_get _ _ (by have := HTl.out; rw [bitsOf_len] at this; omega)] at h1
              exact (Option.some.inj h1).symm
            have hones := ones_at R i hiR
            have hble := bitAt_le l (p + i)
            by_cases h1 : R.take i = List.replicate i true
            · rw [show decide (R.take i = List.replicate i true) = true from decide_eq_true h1]
              by_cases h2 : bitAt l (p + i) = 1
              · have HO : Hid (decide (R.take (i + 1) = List.replicate (i + 1) true) = true) := Lib.hid (decide_eq_true (hones.2 ⟨h1, by rw [hbit, h2]; rfl⟩))
                rw [h2] at hB
                have HB2 : Hid (Calls Try.prog 42 #[.slice a n c, .int .i64 ((p + i : Nat) : Int)] wr fun e w'' => e = .returned (.int .i64 1) ∧ wr = w'') := Lib.hid hB
                clear hones hbit hB h1 h2 hble hiR
                go_wp2_with fail
                refine HB2.out.mono ?_
                rintro e w' ⟨rfl, rfl⟩
                go_wp2
                go_roundw
                case rel => exact ⟨i + 1, by rfl, by omega, by rw [HO.out], by trivial⟩
                case measure => simp [intOf]; omega
              · have h20 : bitAt l (p + i) = 0 := by omega
                have HO : Hid (decide (R.take (i + 1) = List.replicate (i + 1) true) = false) := Lib.hid (decide_eq_false (fun h => by have := (hones.1 h).2; rw [hbit, h20] at this; cases this))
                rw [h20] at hB
                have HB2 : Hid (Calls Try.prog 42 #[.slice a n c, .int .i64 ((p + i : Nat) : Int)] wr fun e w'' => e = .returned (.int .i64 0) ∧ wr = w'') := Lib.hid hB
                clear hones hbit hB h1 h2 h20 hble hiR
                go_wp2_with fail
                refine HB2.out.mono ?_
                rintro e w' ⟨rfl, rfl⟩
                go_wp2
                go_roundw
                case rel => exact ⟨i + 1, by rfl, by omega, by rw [HO.out], by trivial⟩
                case measure => simp [intOf]; omega
            · rw [show decide (R.take i = List.replicate i true) = false from decide_eq_false h1]
              have HO : Hid (decide (R.take (i + 1) = List.replicate (i + 1) true) = false) := Lib.hid (decide_eq_false (fun h => h1 (hones.1 h).1))
              clear hones hbit hB h1 hble hiR
              go_wp2
              go_roundw
              case rel => exact ⟨i + 1, by rfl, by omega, by rw [HO.out], by trivial⟩
              case measure => simp [intOf]; omega
          · have hii : ¬ ((p + i : Nat) : Int) < (T : Int) := by omega
            have hiT : i = T - p := by omega
            have hRt : R.take i = R := List.take_of_length_le (by have := HRl.out; omega)
            have hle : (R.length : Int) = ((T - p : Nat) : Int) := by have := HRl.out; omega
            obtain ⟨m, hm⟩ : ∃ m, m = T - p := ⟨_, rfl⟩
            rw [← hm] at hs1 HRl hiT ⊢
            rw [hRt]
            have hRm : R.length = m := HRl.out
            by_cases h7 : m ≤ 7
            · have h7' : (m : Int) ≤ 7 := by omega
              by_cases h1 : R = List.replicate m true
              · have hd1 : decide (R = List.replicate i true) = true := decide_eq_true (by rw [hiT]; exact h1)
                have HE : Hid (decR l = (o, 0)) := Lib.hid (by
                  have h0 : endE R = 0 := by unfold endE; rw [if_pos ⟨by omega, by rw [hRm]; exact h1⟩]
                  rw [HRR.out, if_pos h0])
                rw [hd1]
                clear h1 hd1 hRt hle hRm hm hiT
                go_wp2
                go_ret2
                refine RetBE.mk (r := decR l) (n := o.length) (k := 0) (xs := bv o) rfl ?_ ho ?_ hb
                · rw [HE.out]
                · rw [HE.out]
              · have hd1 : decide (R = List.replicate i true) = false := decide_eq_false (by rw [hiT]; exact h1)
                have HE : Hid (decR l = ([], 141)) := Lib.hid (by
                  have h0 : endE R = 141 := by unfold endE; rw [if_neg (fun h => h1 (by have := h.2; rw [hRm] at this; exact this)), if_pos (by omega)]
                  rw [HRR.out, if_neg (by rw [h0]; decide), h0])
                have h15 : (m : Int) < 15 := by omega
                rw [hd1]
                clear h1 hd1 hRt hle hRm hm hiT
                go_wp2
                go_ret2
                refine RetBE.mk (r := decR l) (n := 0) (k := 141) (xs := []) rfl ?_ (World.ownsRow_nil _ _ _ _) ?_ hb
                · rw [HE.out]
                · rw [HE.out]; rfl
            · have h7' : ¬ (m : Int) ≤ 7 := by omega
              by_cases h15 : m < 15
              · have h15' : (m : Int) < 15 := by omega
                have HE : Hid (decR l = ([], 141)) := Lib.hid (by
                  have h0 : endE R = 141 := by unfold endE; rw [if_neg (fun h => h7 (by omega)), if_pos (by omega)]
                  rw [HRR.out, if_neg (by rw [h0]; decide), h0])
                clear hRt hle hRm hm hiT
                generalize decide (R = List.replicate i true) = dd
                go_wp2
                go_ret2
                refine RetBE.mk (r := decR l) (n := 0) (k := 141) (xs := []) rfl ?_ (World.ownsRow_nil _ _ _ _) ?_ hb
                · rw [HE.out]
                · rw [HE.out]; rfl
              · have h15' : ¬ (m : Int) < 15 := by omega
                have HE : Hid (decR l = ([], 140)) := Lib.hid (by
                  have h0 : endE R = 140 := by unfold endE; rw [if_neg (fun h => h7 (by omega)), if_neg (by omega)]
                  rw [HRR.out, if_neg (by rw [h0]; decide), h0])
                clear hRt hle hRm hm hiT
                generalize decide (R = List.replicate i true) = dd
                go_wp2
                go_ret2
                refine RetBE.mk (r := decR l) (n := 0) (k := 140) (xs := []) rfl ?_ (World.ownsRow_nil _ _ _ _) ?_ hb
                · rw [HE.out]
                · rw [HE.out]; rfl
end Go.Proofs.Ytkijpjdjkjnpiaa

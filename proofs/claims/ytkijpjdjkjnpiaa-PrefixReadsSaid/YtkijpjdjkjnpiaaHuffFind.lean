/- Contract of the document's find. -/
import Derived.Test.YtkijpjdjkjnpiaaHuffRefDec
namespace Go.Proofs.Ytkijpjdjkjnpiaa
open Go.RowKit

/-- the class of a length -/
def cAt (j : Nat) : Option Nat := if j = 5 then some 0 else if j = 6 then some 1 else if j = 7 then some 2 else if j = 8 then some 3 else if j = 15 then some 4 else none
def findAt (bs : List Bool) : Nat → Nat → Option (UInt8 × Nat)
  | 0, _ => none
  | f + 1, j => if bs.length < j then none else
    match cAt j with
    | some c => if firstN c ≤ val (bs.take j) ∧ val (bs.take j) - firstN c < (clsN c).length then some ((clsN c).getD (val (bs.take j) - firstN c) 0, lenN c) else findAt bs f (j + 1)
    | none => findAt bs f (j + 1)
theorem findAt_is (bs : List Bool) : findAt bs 15 1 = dec1 bs := by
  have s15 : findAt bs 1 15 = nextAt (val bs) bs.length 1 4 := by
    unfold findAt nextAt
    by_cases h : bs.length < 15
    · rw [if_pos h, if_pos (by show bs.length < 15; omega)]
    · rw [if_neg h, if_neg (by show ¬ bs.length < 15; omega), show lenN 4 = 15 from rfl, ← val_take _ _ (by omega)]
      show (if _ then _ else findAt bs 0 16) = _
      rw [show findAt bs 0 16 = nextAt (val bs) bs.length 0 5 from rfl]
      rfl
  have s14 : findAt bs 2 14 = nextAt (val bs) bs.length 1 4 := by
    unfold findAt nextAt
    by_cases h : bs.length < 14
    · rw [if_pos h, if_pos (by show bs.length < 15; omega)]
    · rw [if_neg h]
      exact Eq.trans s15 (by conv => lhs; unfold nextAt)
  have s13 : findAt bs 3 13 = nextAt (val bs) bs.length 1 4 := by
    unfold findAt nextAt
    by_cases h : bs.length < 13
    · rw [if_pos h, if_pos (by show bs.length < 15; omega)]
    · rw [if_neg h]
      exact Eq.trans s14 (by conv => lhs; unfold nextAt)
  have s12 : findAt bs 4 12 = nextAt (val bs) bs.length 1 4 := by
    unfold findAt nextAt
    by_cases h : bs.length < 12
    · rw [if_pos h, if_pos (by show bs.length < 15; omega)]
    · rw [if_neg h]
      exact Eq.trans s13 (by conv => lhs; unfold nextAt)
  have s11 : findAt bs 5 11 = nextAt (val bs) bs.length 1 4 := by
    unfold findAt nextAt
    by_cases h : bs.length < 11
    · rw [if_pos h, if_pos (by show bs.length < 15; omega)]
    · rw [if_neg h]
      exact Eq.trans s12 (by conv => lhs; unfold nextAt)
  have s10 : findAt bs 6 10 = nextAt (val bs) bs.length 1 4 := by
    unfold findAt nextAt
    by_cases h : bs.length < 10
    · rw [if_pos h, if_pos (by show bs.length < 15; omega)]
    · rw [if_neg h]
      exact Eq.trans s11 (by conv => lhs; unfold nextAt)
  have s9 : findAt bs 7 9 = nextAt (val bs) bs.length 1 4 := by
    unfold findAt nextAt
    by_cases h : bs.length < 9
    · rw [if_pos h, if_pos (by show bs.length < 15; omega)]
    · rw [if_neg h]
      exact Eq.trans s10 (by conv => lhs; unfold nextAt)
  have s8 : findAt bs 8 8 = nextAt (val bs) bs.length 2 3 := by
    unfold findAt nextAt
    by_cases h : bs.length < 8
    · rw [if_pos h, if_pos (by show bs.length < 8; omega)]
    · rw [if_neg h, if_neg (by show ¬ bs.length < 8; omega), show lenN 3 = 8 from rfl, ← val_take _ _ (by omega)]
      show (if _ then _ else findAt bs 7 9) = _
      rw [s9]
      rfl
  have s7 : findAt bs 9 7 = nextAt (val bs) bs.length 3 2 := by
    unfold findAt nextAt
    by_cases h : bs.length < 7
    · rw [if_pos h, if_pos (by show bs.length < 7; omega)]
    · rw [if_neg h, if_neg (by show ¬ bs.length < 7; omega), show lenN 2 = 7 from rfl, ← val_take _ _ (by omega)]
      show (if _ then _ else findAt bs 8 8) = _
      rw [s8]
      rfl
  have s6 : findAt bs 10 6 = nextAt (val bs) bs.length 4 1 := by
    unfold findAt nextAt
    by_cases h : bs.length < 6
    · rw [if_pos h, if_pos (by show bs.length < 6; omega)]
    · rw [if_neg h, if_neg (by show ¬ bs.length < 6; omega), show lenN 1 = 6 from rfl, ← val_take _ _ (by omega)]
      show (if _ then _ else findAt bs 9 7) = _
      rw [s7]
      rfl
  have s5 : findAt bs 11 5 = nextAt (val bs) bs.length 5 0 := by
    unfold findAt nextAt
    by_cases h : bs.length < 5
    · rw [if_pos h, if_pos (by show bs.length < 5; omega)]
    · rw [if_neg h, if_neg (by show ¬ bs.length < 5; omega), show lenN 0 = 5 from rfl, ← val_take _ _ (by omega)]
      show (if _ then _ else findAt bs 10 6) = _
      rw [s6]
      rfl
  have s4 : findAt bs 12 4 = nextAt (val bs) bs.length 5 0 := by
    unfold findAt nextAt
    by_cases h : bs.length < 4
    · rw [if_pos h, if_pos (by show bs.length < 5; omega)]
    · rw [if_neg h]
      exact Eq.trans s5 (by conv => lhs; unfold nextAt)
  have s3 : findAt bs 13 3 = nextAt (val bs) bs.length 5 0 := by
    unfold findAt nextAt
    by_cases h : bs.length < 3
    · rw [if_pos h, if_pos (by show bs.length < 5; omega)]
    · rw [if_neg h]
      exact Eq.trans s4 (by conv => lhs; unfold nextAt)
  have s2 : findAt bs 14 2 = nextAt (val bs) bs.length 5 0 := by
    unfold findAt nextAt
    by_cases h : bs.length < 2
    · rw [if_pos h, if_pos (by show bs.length < 5; omega)]
    · rw [if_neg h]
      exact Eq.trans s3 (by conv => lhs; unfold nextAt)
  have s1 : findAt bs 15 1 = nextAt (val bs) bs.length 5 0 := by
    unfold findAt nextAt
    by_cases h : bs.length < 1
    · rw [if_pos h, if_pos (by show bs.length < 5; omega)]
    · rw [if_neg h]
      exact Eq.trans s2 (by conv => lhs; unfold nextAt)
  exact s1

/-- what find hands back -/
def findV : Option (UInt8 × Nat) → Value
  | some (x, l) => .tuple #[.int .u8 (x.toNat : Int), .int .i64 (l : Int)]
  | none => .tuple #[.int .u8 0, .int .i64 0]
set_option maxRecDepth 100000 in
set_option maxHeartbeats 8000000 in
theorem find_any (w : World) {a : Option Addr} {n c : Nat} {l : List UInt8} (h : Sl w a n c (bv l)) (hn : n ≤ 16384) (p : Nat) (hp : p ≤ 8 * n) :
    Calls Try.prog 41 #[.slice a n c, .int .i64 (p : Int), .int .i64 ((8 * n : Nat) : Int)] w fun e w' => e = .returned (findV (dec1 ((bitsOf l).drop p))) ∧ w = w' := by
  have hl := h.byte
  have hbl : ((bitsOf l).drop p).length = 8 * n - p := by rw [List.length_drop, bitsOf_len, hl]
  obtain ⟨R, hR⟩ : ∃ R, R = (bitsOf l).drop p := ⟨_, rfl⟩
  rw [← hR] at hbl ⊢
  have HR := Lib.hid hR
  have HRL := Lib.hid hbl
  have HF := Lib.hid (findAt_is R)
  have HBit := Lib.hid (fun (i : Nat) (hi : i < 8 * n) => bit_any w h hn i hi)
  have HL := Lib.hid hl
  obtain ⟨T, hT⟩ : ∃ T : Nat, T = 8 * n := ⟨_, rfl⟩
  rw [← hT] at hp hbl HBit HRL ⊢
  have hT2 : T ≤ 131072 := by omega
  have HTn := Lib.hid hT
  clear hR hl h hbl hT
  go_enter Try.func41, Try.ntmps41
  go_wp2_with fail
  go_loopw [8, 9] (fun v jv wr => ∃ j : Nat, jv = .int .i64 (j : Int) ∧ v = .int .i64 ((val (R.take (j - 1)) : Nat) : Int) ∧ 1 ≤ j ∧ j ≤ 16 ∧ j - 1 + p ≤ T ∧ Hid (dec1 R = findAt R (16 - j) j) ∧ w = wr) (fun _ jv _ => 16 - (intOf jv).toNat)
  case atStart => exact ⟨1, rfl, rfl, Nat.le_refl _, by omega, by omega, Lib.hid HF.out.symm, rfl⟩
  case round =>
    obtain ⟨j, rfl, rfl, hj1, hj16, hjp, HD, rfl⟩ := hrel
    have g1 : IntKind.i64.wrap ((p : Int) + (j : Int)) = (p : Int) + j := by rw [IntKind.wrap_i64]; omega
    have g2 : IntKind.i64.wrap ((p : Int) + (j : Int) - 1) = (p : Int) + j - 1 := by rw [IntKind.wrap_i64]; omega
    have g3 : IntKind.i64.wrap ((j : Int) + 1) = (j : Int) + 1 := by rw [IntKind.wrap_i64]; omega
    by_cases h15 : j ≤ 15
    · have h15' : (j : Int) ≤ 15 := by omega
      by_cases hin : p + j ≤ T
      · have hin' : (p : Int) + (j : Int) ≤ (T : Int) := by omega
        have HB : Hid (Calls Try.prog 42 #[.slice a n c, .int .i64 ((p : Int) + (j : Int) - 1)] w fun e w' => e = .returned (.int .i64 (bitAt l (p + j - 1) : Int)) ∧ w = w') := Lib.hid (by
          have e : (p : Int) + (j : Int) - 1 = ((p + j - 1 : Nat) : Int) := by omega
          rw [e]; exact HBit.out _ (by omega))
        have hv0 : val (R.take (j - 1)) < 32768 := by
          have h1 := val_lt (R.take (j - 1))
          have h2 : 2 ^ (R.take (j - 1)).length ≤ 2 ^ 15 := Nat.pow_le_pow_right (by decide) (by rw [List.length_take]; omega)
          have h3 : (2 : Nat) ^ 15 = 32768 := rfl
          omega
        have hv1 : val (R.take j) = val (R.take (j - 1)) * 2 + bitAt l (p + j - 1) := by
          have hlt : j - 1 < R.length := by have := HRL.out; omega
          have e1 : R.take j = R.take (j - 1) ++ [R[j - 1]] := by
            have := List.take_succ_eq_append_getElem hlt
            rw [show j - 1 + 1 = j by omega] at this
            exact this
          have e2 : R[j - 1] = (bitAt l (p + j - 1) == 1) := by
            have h1 : R[j - 1]? = some (R[j - 1]) := List.getElem?_eq_getElem hlt
            rw [show R[j - 1]? = (bitsOf l)[p + (j - 1)]? by rw [HR.out, List.getElem?_drop], bitsOf_get _ _ (by have := HL.out; have := HTn.out; omega)] at h1
            rw [show p + j - 1 = p + (j - 1) by omega]
            exact (Option.some.inj h1).symm
          rw [e1, val_snoc, e2]
          have := bitAt_le l (p + j - 1)
          have hb : bitAt l (p + j - 1) = 0 ∨ bitAt l (p + j - 1) = 1 := by omega
          rcases hb with hb | hb <;> rw [hb] <;> simp <;> omega
        have hb1 := bitAt_le l (p + j - 1)
        obtain ⟨u, hu⟩ : ∃ u, u = val (R.take (j - 1)) := ⟨_, rfl⟩
        obtain ⟨bt, hbt⟩ : ∃ bt, bt = bitAt l (p + j - 1) := ⟨_, rfl⟩
        obtain ⟨v, hv⟩ : ∃ v, v = val (R.take j) := ⟨_, rfl⟩
        rw [← hu] at hv0 hv1 ⊢
        rw [← hbt] at hv1 hb1 HB
        rw [← hv] at hv1
        have g4 : IntKind.i64.wrap ((u : Int) * 2) = (u : Int) * 2 := by rw [IntKind.wrap_i64]; omega
        have g5 : (u : Int) * 2 + (bt : Int) = (v : Int) := by omega
        have hv16 : v < 65536 := by omega
        have HVV := Lib.hid hv
        have hlen : ¬ R.length < j := by have := HRL.out; omega
        clear hu hbt hv hv1
        have hfd := HD.out
        rw [show 16 - j = (15 - j) + 1 by omega, findAt, if_neg hlen, ← HVV.out] at hfd
        by_cases hcl : j = 5 ∨ j = 6 ∨ j = 7 ∨ j = 8 ∨ j = 15
        · rcases hcl with rfl | rfl | rfl | rfl | rfl
          · have hf2 := hfd
            simp only [show cAt 5 = some 0 from rfl, show firstN 0 = 0 from rfl, show lenN 0 = 5 from rfl] at hf2
            have hcn : (clsN 0).length = 10 := rfl
            have hgo : 5 + 1 - 1 = 5 := rfl
            by_cases h1 : 0 ≤ v
            · by_cases h2 : v < 0 + 10
              · obtain ⟨k, hkv⟩ : ∃ k, k = v - 0 := ⟨_, rfl⟩
                rw [← hkv] at hf2
                have hk : k < (clsN 0).length := by rw [hcn]; omega
                have HQ : Hid (dec1 R = some ((clsN 0)[k]'hk, 5)) := Lib.hid (by rw [hf2, if_pos ⟨h1, hk⟩, List.getD_eq_getElem?_getD, List.getElem?_eq_getElem hk, Option.getD_some])
                have HN : Hid (Calls Try.prog 49 #[.int .i64 5, .int .i64 (v : Int)] w fun e w' => e = .returned (.int .u8 (((clsN 0)[k]'hk).toNat : Int)) ∧ w = w') := Lib.hid (by
                  have e : (v : Int) = (k : Int) := by omega
                  rw [e]; exact rnth_short w 0 (by decide) k hk)
                generalize (clsN 0)[k] = y at HQ HN
                have h1' : (0 : Int) ≤ (v : Int) := by omega
                have h2' : (v : Int) ≤ 9 := by omega
                clear hfd hf2 hcn hk hlen hgo hkv
                go_wp2_with fail
                refine HB.out.mono ?_
                rintro e w' ⟨rfl, rfl⟩
                go_wp2_with fail
                refine HN.out.mono ?_
                rintro e w' ⟨rfl, rfl⟩
                go_wp2
                go_ret2
                exact ⟨by rw [HQ.out]; rfl, rfl⟩
              · have HQ := Lib.hid (show dec1 R = findAt R (15 - 5) (5 + 1) by rw [hf2, if_neg (fun h => h2 (by have := h.2; rw [hcn] at this; omega))])
                have h1' : (0 : Int) ≤ (v : Int) := by omega
                have h2' : ¬ (v : Int) ≤ 9 := by omega
                clear hfd hf2 hcn hlen hgo
                go_wp2_with fail
                refine HB.out.mono ?_
                rintro e w' ⟨rfl, rfl⟩
                go_wp2
                go_roundw
                case rel => exact ⟨5 + 1, by push_cast; rfl, by rw [HVV.out], by omega, by omega, by omega, HQ, by trivial⟩
                case measure => simp [intOf]
            · exact absurd (Nat.zero_le v) h1
          · have hf2 := hfd
            simp only [show cAt 6 = some 1 from rfl, show firstN 1 = 20 from rfl, show lenN 1 = 6 from rfl] at hf2
            have hcn : (clsN 1).length = 26 := rfl
            have hgo : 6 + 1 - 1 = 6 := rfl
            by_cases h1 : 20 ≤ v
            · by_cases h2 : v < 20 + 26
              · obtain ⟨k, hkv⟩ : ∃ k, k = v - 20 := ⟨_, rfl⟩
                rw [← hkv] at hf2
                have hk : k < (clsN 1).length := by rw [hcn]; omega
                have HQ : Hid (dec1 R = some ((clsN 1)[k]'hk, 6)) := Lib.hid (by rw [hf2, if_pos ⟨h1, hk⟩, List.getD_eq_getElem?_getD, List.getElem?_eq_getElem hk, Option.getD_some])
                have HN : Hid (Calls Try.prog 49 #[.int .i64 6, .int .i64 ((v : Int) - 20)] w fun e w' => e = .returned (.int .u8 (((clsN 1)[k]'hk).toNat : Int)) ∧ w = w') := Lib.hid (by
                  have e : ((v : Int) - 20) = (k : Int) := by omega
                  rw [e]; exact rnth_short w 1 (by decide) k hk)
                generalize (clsN 1)[k] = y at HQ HN
                have h1' : (20 : Int) ≤ (v : Int) := by omega
                have h2' : (v : Int) ≤ 45 := by omega
                clear hfd hf2 hcn hk hlen hgo hkv
                go_wp2_with fail
                refine HB.out.mono ?_
                rintro e w' ⟨rfl, rfl⟩
                go_wp2_with fail
                refine HN.out.mono ?_
                rintro e w' ⟨rfl, rfl⟩
                go_wp2
                go_ret2
                exact ⟨by rw [HQ.out]; rfl, rfl⟩
              · have HQ := Lib.hid (show dec1 R = findAt R (15 - 6) (6 + 1) by rw [hf2, if_neg (fun h => h2 (by have := h.2; rw [hcn] at this; omega))])
                have h1' : (20 : Int) ≤ (v : Int) := by omega
                have h2' : ¬ (v : Int) ≤ 45 := by omega
                clear hfd hf2 hcn hlen hgo
                go_wp2_with fail
                refine HB.out.mono ?_
                rintro e w' ⟨rfl, rfl⟩
                go_wp2
                go_roundw
                case rel => exact ⟨6 + 1, by push_cast; rfl, by rw [HVV.out], by omega, by omega, by omega, HQ, by trivial⟩
                case measure => simp [intOf]
            · have HQ := Lib.hid (show dec1 R = findAt R (15 - 6) (6 + 1) by rw [hf2, if_neg (fun h => h1 h.1)])
              have h1n : v < 20 := by omega
              have h1' : (v : Int) - 20 < 0 := by omega
              clear hfd hf2 hcn hlen hgo h1
              go_wp2_with fail
              refine HB.out.mono ?_
              rintro e w' ⟨rfl, rfl⟩
              go_wp2
              go_roundw
              case rel => exact ⟨6 + 1, by push_cast; rfl, by rw [HVV.out], by omega, by omega, by omega, HQ, by trivial⟩
              case measure => simp [intOf]
          · have hf2 := hfd
            simp only [show cAt 7 = some 2 from rfl, show firstN 2 = 92 from rfl, show lenN 2 = 7 from rfl] at hf2
            have hcn : (clsN 2).length = 32 := rfl
            have hgo : 7 + 1 - 1 = 7 := rfl
            by_cases h1 : 92 ≤ v
            · by_cases h2 : v < 92 + 32
              · obtain ⟨k, hkv⟩ : ∃ k, k = v - 92 := ⟨_, rfl⟩
                rw [← hkv] at hf2
                have hk : k < (clsN 2).length := by rw [hcn]; omega
                have HQ : Hid (dec1 R = some ((clsN 2)[k]'hk, 7)) := Lib.hid (by rw [hf2, if_pos ⟨h1, hk⟩, List.getD_eq_getElem?_getD, List.getElem?_eq_getElem hk, Option.getD_some])
                have HN : Hid (Calls Try.prog 49 #[.int .i64 7, .int .i64 ((v : Int) - 92)] w fun e w' => e = .returned (.int .u8 (((clsN 2)[k]'hk).toNat : Int)) ∧ w = w') := Lib.hid (by
                  have e : ((v : Int) - 92) = (k : Int) := by omega
                  rw [e]; exact rnth_short w 2 (by decide) k hk)
                generalize (clsN 2)[k] = y at HQ HN
                have h1' : (92 : Int) ≤ (v : Int) := by omega
                have h2' : (v : Int) ≤ 123 := by omega
                clear hfd hf2 hcn hk hlen hgo hkv
                go_wp2_with fail
                refine HB.out.mono ?_
                rintro e w' ⟨rfl, rfl⟩
                go_wp2_with fail
                refine HN.out.mono ?_
                rintro e w' ⟨rfl, rfl⟩
                go_wp2
                go_ret2
                exact ⟨by rw [HQ.out]; rfl, rfl⟩
              · have HQ := Lib.hid (show dec1 R = findAt R (15 - 7) (7 + 1) by rw [hf2, if_neg (fun h => h2 (by have := h.2; rw [hcn] at this; omega))])
                have h1' : (92 : Int) ≤ (v : Int) := by omega
                have h2' : ¬ (v : Int) ≤ 123 := by omega
                clear hfd hf2 hcn hlen hgo
                go_wp2_with fail
                refine HB.out.mono ?_
                rintro e w' ⟨rfl, rfl⟩
                go_wp2
                go_roundw
                case rel => exact ⟨7 + 1, by push_cast; rfl, by rw [HVV.out], by omega, by omega, by omega, HQ, by trivial⟩
                case measure => simp [intOf]
            · have HQ := Lib.hid (show dec1 R = findAt R (15 - 7) (7 + 1) by rw [hf2, if_neg (fun h => h1 h.1)])
              have h1n : v < 92 := by omega
              have h1' : (v : Int) - 92 < 0 := by omega
              clear hfd hf2 hcn hlen hgo h1
              go_wp2_with fail
              refine HB.out.mono ?_
              rintro e w' ⟨rfl, rfl⟩
              go_wp2
              go_roundw
              case rel => exact ⟨7 + 1, by push_cast; rfl, by rw [HVV.out], by omega, by omega, by omega, HQ, by trivial⟩
              case measure => simp [intOf]
          · have hf2 := hfd
            simp only [show cAt 8 = some 3 from rfl, show firstN 3 = 248 from rfl, show lenN 3 = 8 from rfl] at hf2
            have hcn : (clsN 3).length = 6 := rfl
            have hgo : 8 + 1 - 1 = 8 := rfl
            by_cases h1 : 248 ≤ v
            · by_cases h2 : v < 248 + 6
              · obtain ⟨k, hkv⟩ : ∃ k, k = v - 248 := ⟨_, rfl⟩
                rw [← hkv] at hf2
                have hk : k < (clsN 3).length := by rw [hcn]; omega
                have HQ : Hid (dec1 R = some ((clsN 3)[k]'hk, 8)) := Lib.hid (by rw [hf2, if_pos ⟨h1, hk⟩, List.getD_eq_getElem?_getD, List.getElem?_eq_getElem hk, Option.getD_some])
                have HN : Hid (Calls Try.prog 49 #[.int .i64 8, .int .i64 ((v : Int) - 248)] w fun e w' => e = .returned (.int .u8 (((clsN 3)[k]'hk).toNat : Int)) ∧ w = w') := Lib.hid (by
                  have e : ((v : Int) - 248) = (k : Int) := by omega
                  rw [e]; exact rnth_short w 3 (by decide) k hk)
                generalize (clsN 3)[k] = y at HQ HN
                have h1' : (248 : Int) ≤ (v : Int) := by omega
                have h2' : (v : Int) ≤ 253 := by omega
                clear hfd hf2 hcn hk hlen hgo hkv
                go_wp2_with fail
                refine HB.out.mono ?_
                rintro e w' ⟨rfl, rfl⟩
                go_wp2_with fail
                refine HN.out.mono ?_
                rintro e w' ⟨rfl, rfl⟩
                go_wp2
                go_ret2
                exact ⟨by rw [HQ.out]; rfl, rfl⟩
              · have HQ := Lib.hid (show dec1 R = findAt R (15 - 8) (8 + 1) by rw [hf2, if_neg (fun h => h2 (by have := h.2; rw [hcn] at this; omega))])
                have h1' : (248 : Int) ≤ (v : Int) := by omega
                have h2' : ¬ (v : Int) ≤ 253 := by omega
                clear hfd hf2 hcn hlen hgo
                go_wp2_with fail
                refine HB.out.mono ?_
                rintro e w' ⟨rfl, rfl⟩
                go_wp2
                go_roundw
                case rel => exact ⟨8 + 1, by push_cast; rfl, by rw [HVV.out], by omega, by omega, by omega, HQ, by trivial⟩
                case measure => simp [intOf]
            · have HQ := Lib.hid (show dec1 R = findAt R (15 - 8) (8 + 1) by rw [hf2, if_neg (fun h => h1 h.1)])
              have h1n : v < 248 := by omega
              have h1' : (v : Int) - 248 < 0 := by omega
              clear hfd hf2 hcn hlen hgo h1
              go_wp2_with fail
              refine HB.out.mono ?_
              rintro e w' ⟨rfl, rfl⟩
              go_wp2
              go_roundw
              case rel => exact ⟨8 + 1, by push_cast; rfl, by rw [HVV.out], by omega, by omega, by omega, HQ, by trivial⟩
              case measure => simp [intOf]
          · have hf2 := hfd
            simp only [show cAt 15 = some 4 from rfl, show firstN 4 = 32512 from rfl, show lenN 4 = 15 from rfl] at hf2
            have hcn : (clsN 4).length = 182 := restL_len
            have hgo : 15 + 1 - 1 = 15 := rfl
            by_cases h1 : 32512 ≤ v
            · by_cases h2 : v < 32512 + 182
              · obtain ⟨k, hkv⟩ : ∃ k, k = v - 32512 := ⟨_, rfl⟩
                rw [← hkv] at hf2
                have hk : k < (clsN 4).length := by rw [hcn]; omega
                have HQ : Hid (dec1 R = some ((clsN 4)[k]'hk, 15)) := Lib.hid (by rw [hf2, if_pos ⟨h1, hk⟩, List.getD_eq_getElem?_getD, List.getElem?_eq_getElem hk, Option.getD_some])
                have HN : Hid (Calls Try.prog 49 #[.int .i64 15, .int .i64 ((v : Int) - 32512)] w fun e w' => e = .returned (.int .u8 (((clsN 4)[k]'hk).toNat : Int)) ∧ w = w') := Lib.hid (by
                  have e : ((v : Int) - 32512) = (k : Int) := by omega
                  rw [e]; exact rnth_long w k hk)
                generalize (clsN 4)[k] = y at HQ HN
                have h1' : (32512 : Int) ≤ (v : Int) := by omega
                have h2' : (v : Int) ≤ 32693 := by omega
                clear hfd hf2 hcn hk hlen hgo hkv
                go_wp2_with fail
                refine HB.out.mono ?_
                rintro e w' ⟨rfl, rfl⟩
                go_wp2_with fail
                refine HN.out.mono ?_
                rintro e w' ⟨rfl, rfl⟩
                go_wp2
                go_ret2
                exact ⟨by rw [HQ.out]; rfl, rfl⟩
              · have HQ := Lib.hid (show dec1 R = findAt R (15 - 15) (15 + 1) by rw [hf2, if_neg (fun h => h2 (by have := h.2; rw [hcn] at this; omega))])
                have h1' : (32512 : Int) ≤ (v : Int) := by omega
                have h2' : ¬ (v : Int) ≤ 32693 := by omega
                clear hfd hf2 hcn hlen hgo
                go_wp2_with fail
                refine HB.out.mono ?_
                rintro e w' ⟨rfl, rfl⟩
                go_wp2
                go_roundw
                case rel => exact ⟨15 + 1, by push_cast; rfl, by rw [HVV.out], by omega, by omega, by omega, HQ, by trivial⟩
                case measure => simp [intOf]
            · have HQ := Lib.hid (show dec1 R = findAt R (15 - 15) (15 + 1) by rw [hf2, if_neg (fun h => h1 h.1)])
              have h1n : v < 32512 := by omega
              have h1' : (v : Int) - 32512 < 0 := by omega
              clear hfd hf2 hcn hlen hgo h1
              go_wp2_with fail
              refine HB.out.mono ?_
              rintro e w' ⟨rfl, rfl⟩
              go_wp2
              go_roundw
              case rel => exact ⟨15 + 1, by push_cast; rfl, by rw [HVV.out], by omega, by omega, by omega, HQ, by trivial⟩
              case measure => simp [intOf]
        · have hca : cAt j = none := by unfold cAt; rw [if_neg (by omega), if_neg (by omega), if_neg (by omega), if_neg (by omega), if_neg (by omega)]
          have HQ : Hid (dec1 R = findAt R (16 - (j + 1)) (j + 1)) := Lib.hid (by rw [hfd, hca]; rw [show 16 - (j + 1) = 15 - j by omega])
          have j5 : ((j : Int) == 5) = false := by rw [beq_eq_false_iff_ne]; omega
          have j6 : ((j : Int) == 6) = false := by rw [beq_eq_false_iff_ne]; omega
          have j7 : ((j : Int) == 7) = false := by rw [beq_eq_false_iff_ne]; omega
          have j8 : ((j : Int) == 8) = false := by rw [beq_eq_false_iff_ne]; omega
          have j15 : ((j : Int) == 15) = false := by rw [beq_eq_false_iff_ne]; omega
          clear hfd hca hcl hlen
          by_cases hv0 : v = 0
          · have hv0' : (v : Int) < 1 := by omega
            have HV0 := Lib.hid hv0
            clear hv0
            go_wp2_with fail
            refine HB.out.mono ?_
            rintro e w' ⟨rfl, rfl⟩
            go_wp2
            go_roundw
            case rel => exact ⟨j + 1, by push_cast; rfl, by rw [HVV.out]; rfl, by omega, by omega, by omega, HQ, by trivial⟩
            case measure => simp [intOf]; omega
          · have hv0' : (1 : Int) ≤ (v : Int) := by omega
            clear hv0
            go_wp2_with fail
            refine HB.out.mono ?_
            rintro e w' ⟨rfl, rfl⟩
            go_wp2
            go_roundw
            case rel => exact ⟨j + 1, by push_cast; rfl, by rw [HVV.out]; rfl, by omega, by omega, by omega, HQ, by trivial⟩
            case measure => simp [intOf]; omega
      · have hin' : ¬ (p : Int) + (j : Int) ≤ (T : Int) := by omega
        have HQ : Hid (dec1 R = none) := Lib.hid (by rw [HD.out, show 16 - j = (15 - j) + 1 by omega, findAt, if_pos (by have := HRL.out; omega)])
        go_wp2
        go_ret2
        exact ⟨by rw [HQ.out]; rfl, rfl⟩
    · have h15' : ¬ (j : Int) ≤ 15 := by omega
      have HQ : Hid (dec1 R = none) := Lib.hid (by rw [HD.out, show 16 - j = 0 by omega]; rfl)
      go_wp2
      go_ret2
      exact ⟨by rw [HQ.out]; rfl, rfl⟩
end Go.Proofs.Ytkijpjdjkjnpiaa

/- Contracts of the document's bit and nth. -/
import Derived.Test.YtkijpjdjkjnpiaaHuffDecode2
import Derived.Test.YtkijpjdjkjnpiaaHuffRefCode
namespace Go.Proofs.Ytkijpjdjkjnpiaa
open Go.RowKit

/-- the bit at a place -/
def bitAt (l : List UInt8) (i : Nat) : Nat := (l.getD (i / 8) 0).toNat / 2 ^ (7 - i % 8) % 2
theorem tb_bit : ∀ n : Nat, n < 256 → ∀ j : Nat, j < 8 → (tb n 8)[j]? = some (n / 2 ^ (7 - j) % 2 == 1) := by decide +kernel
theorem bitsOf_get : ∀ (l : List UInt8) (i : Nat), i < 8 * l.length → (bitsOf l)[i]? = some (bitAt l i == 1)
  | [], i, h => by simp at h
  | x :: r, i, h => by
    have hb : bitsOf (x :: r) = tb x.toNat 8 ++ bitsOf r := by unfold bitsOf; rw [List.flatMap_cons]
    rw [hb]
    by_cases hi : i < 8
    · rw [List.getElem?_append_left (by rw [tb_len]; exact hi), tb_bit _ x.toNat_lt i hi]
      unfold bitAt
      rw [Nat.div_eq_of_lt hi, Nat.mod_eq_of_lt hi]
      rfl
    · rw [List.getElem?_append_right (by rw [tb_len]; omega), tb_len, bitsOf_get r (i - 8) (by simp only [List.length_cons] at h; omega)]
      unfold bitAt
      have e1 : i / 8 = (i - 8) / 8 + 1 := by omega
      have e2 : i % 8 = (i - 8) % 8 := by omega
      rw [e1, e2]
      rfl
theorem bitAt_le (l : List UInt8) (i : Nat) : bitAt l i ≤ 1 := by unfold bitAt; omega

set_option maxRecDepth 100000 in
set_option maxHeartbeats 1000000 in
theorem bit_any (w : World) {a : Option Addr} {n c : Nat} {l : List UInt8} (h : Sl w a n c (bv l)) (hn : n ≤ 16384) (i : Nat) (hi : i < 8 * n) :
    Calls Try.prog 42 #[.slice a n c, .int .i64 (i : Int)] w fun e w' => e = .returned (.int .i64 (bitAt l i : Int)) ∧ w = w' := by
  have hl := h.byte
  obtain ⟨q, hq⟩ : ∃ q, q = i / 8 := ⟨_, rfl⟩
  obtain ⟨r, hr⟩ : ∃ r, r = i % 8 := ⟨_, rfl⟩
  have hqn : q < n := by omega
  have hql : q < l.length := by omega
  have hr8 : r < 8 := by omega
  obtain ⟨b, off, rfl, hc⟩ := h.cells (by omega)
  have hcell := hc q hqn
  rw [bv_get l q hql] at hcell
  have hcap := h.cap_le
  have hbit : bitAt l i = (l[q]'hql).toNat / 2 ^ (7 - r) % 2 := by
    unfold bitAt
    rw [← hq, ← hr, List.getD_eq_getElem?_getD, List.getElem?_eq_getElem hql]; rfl
  have hy := (l[q]'hql).toNat_lt
  generalize (l[q]'hql).toNat = y at hcell hbit hy
  have d1 : (i : Int) / 8 = (q : Int) := by omega
  have d2 : (i : Int) % 8 = (r : Int) := by omega
  obtain ⟨s, hs⟩ : ∃ s, s = 7 - r := ⟨_, rfl⟩
  have d3 : (7 : Int) - (r : Int) = (s : Int) := by omega
  obtain ⟨v, hv⟩ : ∃ v, v = y / 2 ^ s := ⟨_, rfl⟩
  have hvy : v ≤ y := by rw [hv]; exact Nat.div_le_self _ _
  have d4 : (y : Int) / 2 ^ s = (v : Int) := by rw [hv]; push_cast; rfl
  have d5 : (v : Int) % 2 = ((v % 2 : Nat) : Int) := by omega
  have qn : (q : Int) < (n : Int) := by omega
  have HBt : Hid (bitAt l i = v % 2) := Lib.hid (by rw [hbit, ← hs, ← hv])
  have s8 : s < 8 := by omega
  have e1 : IntKind.u64.wrap (s : Int) = (s : Int) := by rw [IntKind.wrap_u64]; omega
  clear hbit hq hr hs hv hc hl
  go_enter Try.func42, Try.ntmps42
  go_wp2
  go_ret
  exact ⟨by rw [HBt.out]; rfl, rfl⟩

/-- the byte at a place of a class -/
theorem rest_at (k : Nat) (hk : k < 256) (h15 : bitsN (UInt8.ofNat k) = 15) : restL[(restTo k).length]? = some (UInt8.ofNat k) := by
  obtain ⟨C, hC⟩ := restTo_app 256 k hk ((bits15 _).1 h15)
  rw [← restL_eq, hC, List.getElem?_append_right (Nat.le_refl _), Nat.sub_self]
  rfl
theorem clsN_of : ∀ c : Nat, c < 4 → clsL (lenN c) = clsN c := by decide
theorem rnth_short (w : World) (c : Nat) (hc : c < 4) (k : Nat) (hk : k < (clsN c).length) :
    Calls Try.prog 49 #[.int .i64 (lenN c : Int), .int .i64 (k : Int)] w fun e w' => e = .returned (.int .u8 (((clsN c)[k]'hk).toNat : Int)) ∧ w = w' := by
  have hcc : c = 0 ∨ c = 1 ∨ c = 2 ∨ c = 3 := by omega
  rcases hcc with rfl | rfl | rfl | rfl
  · have hs : k < (strB cl5).size := by rw [strB_size]; exact hk
    have HC : Hid (Calls Try.prog 45 #[.int .i64 5] w fun e w' => e = .returned (.string (strB cl5)) ∧ w = w') := Lib.hid (class_any 5 (by omega) w)
    have hg := Lib.hid (strB_get cl5 k hs)
    go_enter Try.func49, Try.ntmps49
    go_wp2_with fail
    refine HC.out.mono ?_
    rintro e w' ⟨rfl, rfl⟩
    go_wp2
    go_ret
    exact ⟨rfl, rfl⟩
  · have hs : k < (strB cl6).size := by rw [strB_size]; exact hk
    have HC : Hid (Calls Try.prog 45 #[.int .i64 6] w fun e w' => e = .returned (.string (strB cl6)) ∧ w = w') := Lib.hid (class_any 6 (by omega) w)
    have hg := Lib.hid (strB_get cl6 k hs)
    go_enter Try.func49, Try.ntmps49
    go_wp2_with fail
    refine HC.out.mono ?_
    rintro e w' ⟨rfl, rfl⟩
    go_wp2
    go_ret
    exact ⟨rfl, rfl⟩
  · have hs : k < (strB cl7).size := by rw [strB_size]; exact hk
    have HC : Hid (Calls Try.prog 45 #[.int .i64 7] w fun e w' => e = .returned (.string (strB cl7)) ∧ w = w') := Lib.hid (class_any 7 (by omega) w)
    have hg := Lib.hid (strB_get cl7 k hs)
    go_enter Try.func49, Try.ntmps49
    go_wp2_with fail
    refine HC.out.mono ?_
    rintro e w' ⟨rfl, rfl⟩
    go_wp2
    go_ret
    exact ⟨rfl, rfl⟩
  · have hs : k < (strB cl8).size := by rw [strB_size]; exact hk
    have HC : Hid (Calls Try.prog 45 #[.int .i64 8] w fun e w' => e = .returned (.string (strB cl8)) ∧ w = w') := Lib.hid (class_any 8 (by omega) w)
    have hg := Lib.hid (strB_get cl8 k hs)
    go_enter Try.func49, Try.ntmps49
    go_wp2_with fail
    refine HC.out.mono ?_
    rintro e w' ⟨rfl, rfl⟩
    go_wp2
    go_ret
    exact ⟨rfl, rfl⟩

set_option maxRecDepth 100000 in
set_option maxHeartbeats 1000000 in
theorem rnth_long (w : World) (p : Nat) (hp : p < restL.length) :
    Calls Try.prog 49 #[.int .i64 15, .int .i64 (p : Int)] w fun e w' => e = .returned (.int .u8 ((restL[p]'hp).toNat : Int)) ∧ w = w' := by
  have hp2 : p < 182 := by rw [restL_len] at hp; exact hp
  have HP : Hid (restL[p]? = some (restL[p]'hp)) := Lib.hid (List.getElem?_eq_getElem hp)
  have HT : Hid ((restTo 256).length = 182) := Lib.hid (by rw [restL_eq, restL_len])
  generalize restL[p] = y at HP
  go_enter Try.func49, Try.ntmps49
  go_wp2_with fail
  go_loopw [1, 5] (fun q x wr => ∃ k t : Nat, k ≤ 256 ∧ x = .int .i64 (k : Int) ∧ q = .int .i64 (t : Int) ∧ t + (restTo k).length = p ∧ w = wr) (fun _ x _ => 256 - (intOf x).toNat)
  case atStart => exact ⟨0, p, by omega, rfl, rfl, by simp [restTo], rfl⟩
  case round =>
    obtain ⟨k, t, hk, rfl, rfl, ht, rfl⟩ := hrel
    by_cases hlt : k < 256
    · have kk : (k : Int) < 256 := by omega
      have hxk : ((UInt8.ofNat k).toNat : Int) = (k : Int) := by simp; omega
      have hLk := length_any (UInt8.ofNat k) w
      rw [hxk] at hLk
      have HS := Lib.hid (restTo_step k)
      have g1 : IntKind.u8.wrap (k : Int) = (k : Int) := by rw [IntKind.wrap_u8]; omega
      by_cases h15 : bitsN (UInt8.ofNat k) = 15
      · rw [h15] at hLk
        have HK : Hid (Calls Try.prog 38 #[.int .u8 (k : Int)] w fun e w' => e = .returned (.int .i64 15) ∧ w = w') := Lib.hid hLk
        by_cases ht0 : t = 0
        · subst ht0
          have HY : Hid (y = UInt8.ofNat k) := Lib.hid (by
            have h1 := rest_at k hlt h15
            have h2 := HP.out
            rw [show p = (restTo k).length by omega, h1] at h2
            exact (Option.some.inj h2).symm)
          have HXK := Lib.hid hxk
          clear hLk hxk h15 ht
          go_wp2_with fail
          refine HK.out.mono ?_
          rintro e w' ⟨rfl, rfl⟩
          go_wp2
          go_ret
          exact ⟨by rw [HY.out, HXK.out]; rfl, rfl⟩
        · have ht1 : ((t : Int) == 0) = false := by rw [beq_eq_false_iff_ne]; omega
          have ht2 : (1 : Int) ≤ (t : Int) := by omega
          have HT1 := Lib.hid ht
          have H15 := Lib.hid h15
          have htp : t ≤ p := by omega
          clear hLk hxk h15 ht
          go_wp2_with fail
          refine HK.out.mono ?_
          rintro e w' ⟨rfl, rfl⟩
          go_wp2
          go_roundw
          case rel =>
            refine ⟨k + 1, t - 1, by omega, by push_cast; rfl, ?_, ?_, by trivial⟩
            · congr 1; omega
            · have h1 := HS.out; rw [if_pos H15.out] at h1; have := HT1.out; omega
          case measure => simp [intOf]; omega
      · have hb : ((bitsN (UInt8.ofNat k) : Int) == 15) = false := by rw [beq_eq_false_iff_ne]; omega
        have HK := Lib.hid hLk
        have HT1 := Lib.hid ht
        have H15 := Lib.hid h15
        have htp : t ≤ p := by omega
        generalize (bitsN (UInt8.ofNat k) : Int) = z at HK hb
        clear hLk hxk h15 ht
        go_wp2_with fail
        refine HK.out.mono ?_
        rintro e w' ⟨rfl, rfl⟩
        go_wp2
        go_roundw
        case rel =>
          refine ⟨k + 1, t, by omega, by push_cast; rfl, rfl, ?_, by trivial⟩
          have h1 := HS.out; rw [if_neg H15.out] at h1; have := HT1.out; omega
        case measure => simp [intOf]; omega
    · exfalso
      have e : k = 256 := by omega
      rw [e, HT.out] at ht
      omega
end Go.Proofs.Ytkijpjdjkjnpiaa

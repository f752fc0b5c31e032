/- HframePuts answers true. -/
import Derived.Test.YtbplmnmkgkgkhaaHfLaw1
namespace Go.Proofs.Ytbplmnmkgkgkhaa
open Go.RowKit

set_option maxRecDepth 100000 in
set_option maxHeartbeats 4000000 in
theorem puts_any (W : World) (kind : Int) (hk1 : -9223372036854775808 ≤ kind) (hk2 : kind ≤ 9223372036854775807) {pa : Option Addr} {pn pc : Nat} {p : List UInt8} (hP : Sl W pa pn pc (bv p)) (hpn : pn * 1 ≤ 140737488351232)
    (a b c : Int) (ha : -9223372036854775808 ≤ a ∧ a ≤ 9223372036854775807) (hb : -9223372036854775808 ≤ b ∧ b ≤ 9223372036854775807) (hc : -9223372036854775808 ≤ c ∧ c ≤ 9223372036854775807) :
    Calls Try.prog 5 #[.int .i64 kind, .slice pa pn pc, .agg #[.int .i64 a, .int .i64 b, .int .i64 c]] W fun e w' => e = .returned (.bool true) ∧ Below W.heap.size W w' := by
  have hpl := hP.byte
  obtain ⟨w1, hw1⟩ : ∃ w1, w1 = W.alloc (.cells #[.int .i64 a, .int .i64 b, .int .i64 c] 30) := ⟨_, rfl⟩
  have hB1 : Below W.heap.size W w1 := by rw [hw1]; exact (Below.refl _ _).alloc (Nat.le_refl _) _
  have hT1 : Has w1 W.heap.size 30 [.int .i64 a, .int .i64 b, .int .i64 c] := by rw [hw1]; exact Has.new _ _ _
  have HP := Lib.hid (hP.below hB1)
  have HB1 := Lib.hid hB1
  have HT1 := Lib.hid hT1
  have HC1 := Lib.hid (copy_any w1 HP.out (by omega))
  have HAw := Lib.hid awake17_any
  obtain ⟨sb, hsb⟩ : ∃ sb, sb = W.heap.size := ⟨_, rfl⟩
  have HSb := Lib.hid hsb
  have HPl := Lib.hid hpl
  clear hP hB1 hT1 hpl hsb
  go_enter Try.func5, Try.ntmps5
  go_wp2_with fail
  rw [← hw1, ← HSb.out]
  clear hw1
  refine HC1.out.mono ?_
  rintro e w2 ⟨ca, cc, rfl, hco, hb2⟩
  have HF := Lib.hid (frame_any w2 kind (own_sl hco))
  have HB2 := Lib.hid hb2
  clear hco hb2
  go_wp2_with fail
  refine HF.out.mono ?_
  rintro e w3 ⟨b1, d1, rfl, ho1, hb3⟩
  have B13 := HB2.out.trans (hb3.mono HB2.out.size)
  have HB3 := Lib.hid B13
  have HX1 := Lib.hid (own_sl ho1)
  have HRf := Lib.hid (refframe_any w3 kind (HP.out.below B13) (by have := HPl.out; omega))
  clear ho1 hb3 B13
  go_wp2_with fail
  refine HRf.out.mono ?_
  rintro e w4 ⟨b2, d2, rfl, ho2, hb4⟩
  have HB4 := Lib.hid (HB3.out.trans (hb4.mono HB3.out.size))
  have HY1 := Lib.hid (own_sl ho2)
  have HX1 := Lib.hid (HX1.out.below hb4)
  have t0 := (HT1.out.kept (Kept.of_below (X := none') HB4.out) (fun h => h)).cell 0 rfl
  have t1 := (HT1.out.kept (Kept.of_below (X := none') HB4.out) (fun h => h)).cell 1 rfl
  have t2 := (HT1.out.kept (Kept.of_below (X := none') HB4.out) (fun h => h)).cell 2 rfl
  rw [← HSb.out] at t0 t1 t2
  have HPs := Lib.hid (putset_any w4 a b c ha hb hc)
  clear ho2 hb4
  go_wp2_with fail
  refine HPs.out.mono ?_
  rintro e w5 ⟨b3, d3, rfl, ho3, hb5⟩
  have HB5 := Lib.hid (HB4.out.trans (hb5.mono HB4.out.size))
  have HX2 := Lib.hid (own_sl ho3)
  have HX1 := Lib.hid (HX1.out.below hb5)
  have HY1 := Lib.hid (HY1.out.below hb5)
  have t0 := (HT1.out.kept (Kept.of_below (X := none') HB5.out) (fun h => h)).cell 0 rfl
  have t1 := (HT1.out.kept (Kept.of_below (X := none') HB5.out) (fun h => h)).cell 1 rfl
  have t2 := (HT1.out.kept (Kept.of_below (X := none') HB5.out) (fun h => h)).cell 2 rfl
  rw [← HSb.out] at t0 t1 t2
  have HRs := Lib.hid (refset_any w5 a b c ha hb hc)
  clear ho3 hb5
  go_wp2_with fail
  refine HRs.out.mono ?_
  rintro e w6 ⟨b4, d4, rfl, ho4, hb6⟩
  have HB6 := Lib.hid (HB5.out.trans (hb6.mono HB5.out.size))
  have HY2 := Lib.hid (own_sl ho4)
  have HX1 := Lib.hid (HX1.out.below hb6)
  have HY1 := Lib.hid (HY1.out.below hb6)
  have HX2 := Lib.hid (HX2.out.below hb6)
  have HGo := Lib.hid (goaway_any w6 kind)
  clear ho4 hb6
  go_wp2_with fail
  refine HGo.out.mono ?_
  rintro e w7 ⟨b5, d5, rfl, ho5, hb7⟩
  have HB7 := Lib.hid (HB6.out.trans (hb7.mono HB6.out.size))
  have HX3 := Lib.hid (own_sl ho5)
  have HX1 := Lib.hid (HX1.out.below hb7)
  have HY1 := Lib.hid (HY1.out.below hb7)
  have HX2 := Lib.hid (HX2.out.below hb7)
  have HY2 := Lib.hid (HY2.out.below hb7)
  have HPu : Hid (∃ q : List UInt8, Calls Try.prog 18 #[.int .i64 kind] w7 (RetB w7 q) ∧ ((kind < 0 ∨ 4611686018427387903 < kind) ∨ (0 ≤ kind ∧ kind ≤ 4611686018427387903 ∧ gaB kind = frB 7 q)) ∧ q.length ≤ 8) := Lib.hid (by
    by_cases hk : kind < 0 ∨ 4611686018427387903 < kind
    · exact ⟨[], refput_none w7 kind hk, .inl hk, by simp⟩
    · obtain ⟨k, rfl⟩ := Int.eq_ofNat_of_zero_le (show 0 ≤ kind by omega)
      exact ⟨vl k, refput_any w7 k (by omega), .inr ⟨by omega, by omega, by unfold gaB; rw [if_neg hk]; rfl⟩, by rw [vl_length]; exact (szN_pos k).2⟩)
  obtain ⟨q, hq1, hq2, hq3⟩ := HPu.out
  have HPu := Lib.hid hq1
  have HQ := Lib.hid hq2
  clear ho5 hb7 hq1 hq2
  go_wp2_with fail
  refine HPu.out.mono ?_
  rintro e w8 ⟨qa, qc, rfl, ho6, hb8⟩
  have HB8 := Lib.hid (HB7.out.trans (hb8.mono HB7.out.size))
  have HX1 := Lib.hid (HX1.out.below hb8)
  have HY1 := Lib.hid (HY1.out.below hb8)
  have HX2 := Lib.hid (HX2.out.below hb8)
  have HY2 := Lib.hid (HY2.out.below hb8)
  have HX3 := Lib.hid (HX3.out.below hb8)
  have HRf2 := Lib.hid (refframe_any w8 7 (own_sl ho6) (by omega))
  clear ho6 hb8
  go_wp2_with fail
  refine HRf2.out.mono ?_
  rintro e w9 ⟨b6, d6, rfl, ho7, hb9⟩
  have HB9 := Lib.hid (HB8.out.trans (hb9.mono HB8.out.size))
  have HX1 := Lib.hid (HX1.out.below hb9)
  have HY1 := Lib.hid (HY1.out.below hb9)
  have HX2 := Lib.hid (HX2.out.below hb9)
  have HY2 := Lib.hid (HY2.out.below hb9)
  have HX3 := Lib.hid (HX3.out.below hb9)
  have HY3 := Lib.hid (own_sl ho7)
  clear ho7 hb9
  have HSm : Hid (∀ (w' : World) {a1 : Option Addr} {n1 c1 : Nat} {l : List UInt8} {a2 : Option Addr} {n2 c2 : Nat}, Sl w' a1 n1 c1 (bv l) → Sl w' a2 n2 c2 (bv l) → Calls Try.prog 9 #[.slice a1 n1 c1, .slice a2 n2 c2] w' (BoolOf w' true)) := Lib.hid (fun w' _ _ _ l _ _ _ h1 h2 => by
    have := same_any w' h1 h2
    rw [show decide (l = l) = true by simp] at this
    exact this)
  rcases HQ.out with hbad | ⟨g1, g2, hgq⟩
  · have hcs : kind < 0 ∨ (¬ kind < 0 ∧ 4611686018427387903 < kind) := by omega
    clear hbad
    rcases hcs with k1 | ⟨k1, k2⟩
    all_goals
      have hga : gaB kind = ([], 10) := by unfold gaB; rw [if_pos (by omega)]
      rw [hga] at HX3 ⊢
      have HY3 : Hid (Sl w9 none 0 0 (bv [])) := Lib.hid (Sl.empty w9)
      clear hga
      have HAw9 := Lib.hid (HAw.out w9)
      go_wp2_with fail
      refine HAw9.out.mono ?_
      rintro e w10 ⟨rfl, hb10⟩
      have HS1 := Lib.hid (HSm.out w10 (HX1.out.below hb10) (HY1.out.below hb10))
      have HB10 := Lib.hid (HB9.out.trans (hb10.mono HB9.out.size))
      have HX2 := Lib.hid (HX2.out.below hb10)
      have HY2 := Lib.hid (HY2.out.below hb10)
      have HX3 := Lib.hid (HX3.out.below hb10)
      have HY3 := Lib.hid (HY3.out.below hb10)
      clear hb10
      go_wp2_with fail
      refine HS1.out.mono ?_
      rintro e w11 ⟨rfl, hb11⟩
      have HS2 := Lib.hid (HSm.out w11 (HX2.out.below hb11) (HY2.out.below hb11))
      have HB11 := Lib.hid (HB10.out.trans (hb11.mono HB10.out.size))
      have HX3 := Lib.hid (HX3.out.below hb11)
      have HY3 := Lib.hid (HY3.out.below hb11)
      clear hb11
      go_wp2_with fail
      refine HS2.out.mono ?_
      rintro e w12 ⟨rfl, hb12⟩
      have HS3 := Lib.hid (HSm.out w12 (HX3.out.below hb12) (HY3.out.below hb12))
      have HB12 := Lib.hid (HB11.out.trans (hb12.mono HB11.out.size))
      clear hb12
      go_wp2_with fail
      refine HS3.out.mono ?_
      rintro e w13 ⟨rfl, hb13⟩
      have HB13 := Lib.hid (HB12.out.trans (hb13.mono HB12.out.size))
      clear hb13
      go_wp2
      go_ret
      exact ⟨rfl, HB1.out.trans (HB13.out.mono HB1.out.size)⟩
  · have k1 : ¬ kind < 0 := by omega
    have k2 : ¬ 4611686018427387903 < kind := by omega
    rw [← hgq] at HY3 ⊢
    clear hgq g1 g2
    have HAw9 := Lib.hid (HAw.out w9)
    go_wp2_with fail
    refine HAw9.out.mono ?_
    rintro e w10 ⟨rfl, hb10⟩
    have HS1 := Lib.hid (HSm.out w10 (HX1.out.below hb10) (HY1.out.below hb10))
    have HB10 := Lib.hid (HB9.out.trans (hb10.mono HB9.out.size))
    have HX2 := Lib.hid (HX2.out.below hb10)
    have HY2 := Lib.hid (HY2.out.below hb10)
    have HX3 := Lib.hid (HX3.out.below hb10)
    have HY3 := Lib.hid (HY3.out.below hb10)
    clear hb10
    go_wp2_with fail
    refine HS1.out.mono ?_
    rintro e w11 ⟨rfl, hb11⟩
    have HS2 := Lib.hid (HSm.out w11 (HX2.out.below hb11) (HY2.out.below hb11))
    have HB11 := Lib.hid (HB10.out.trans (hb11.mono HB10.out.size))
    have HX3 := Lib.hid (HX3.out.below hb11)
    have HY3 := Lib.hid (HY3.out.below hb11)
    clear hb11
    go_wp2_with fail
    refine HS2.out.mono ?_
    rintro e w12 ⟨rfl, hb12⟩
    have HS3 := Lib.hid (HSm.out w12 (HX3.out.below hb12) (HY3.out.below hb12))
    have HB12 := Lib.hid (HB11.out.trans (hb12.mono HB11.out.size))
    clear hb12
    go_wp2_with fail
    refine HS3.out.mono ?_
    rintro e w13 ⟨rfl, hb13⟩
    have HB13 := Lib.hid (HB12.out.trans (hb13.mono HB12.out.size))
    clear hb13
    go_wp2
    go_ret
    exact ⟨rfl, HB1.out.trans (HB13.out.mono HB1.out.size)⟩
end Go.Proofs.Ytbplmnmkgkgkhaa

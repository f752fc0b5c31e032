/- Contracts of varint's reader: At, Bytes (printed by gen_vnbytes.py). No condition but the sizes. -/
import Derived.Test.YtppkilkfmclpkaaVnRd
namespace Go.Proofs.Ytppkilkfmclpkaa
open Go.RowKit

set_option maxRecDepth 100000 in
theorem at_any (w : World) {g : Nat} {V : Vr} {a : Option Addr} {c : Nat} (hV : VB w g V a c) :
    Calls Try.prog 41 #[.pointer (some ⟨g, 0, none⟩)] w (IntOf w (V.at_ : Int)) := by
  have c1 := hV.has.cell 1 rfl
  clear hV
  go_enter Try.func41, Try.ntmps41
  go_wp2
  go_ret
  exact ⟨rfl, Below.refl _ _⟩
/-- the next n bytes, or none -/
def bytV (V : Vr) (n : Nat) : List UInt8 × Vr := if V.fault = 0 then (if V.l.length - V.at_ < n then ([], { V with fault := 12 }) else ((V.l.drop V.at_).take n, { V with at_ := V.at_ + n })) else ([], V)
def BytR (w : World) (g : Nat) (a : Option Addr) (c : Nat) (r : List UInt8 × Vr) (e : Ending) (w' : World) : Prop :=
  ∃ ra rc, e = .returned (.slice ra r.1.length rc) ∧ w'.ownsRow w.heap.size 5 1 (.slice ra r.1.length rc) r.1.length (bv r.1) ∧ Kept (fun k => k = g) w w' ∧ VB w' g r.2 a c
theorem byt_a {c t n : Nat} (h : c = t) (h1 : n ≤ c) : n ≤ t ∧ n - t = 0 := by omega
theorem byt_b {m2 t m n : Nat} (h : m2 = t + m) (h1 : m2 ≤ n) : m ≤ n - t := by omega
theorem byt_c {l : List UInt8} {t m n : Nat} (hn : n = l.length) (h : m ≤ n - t) : ((l.drop t).take m).length = m := by rw [List.length_take, List.length_drop, ← hn]; omega
theorem byt_d {m2 t m : Nat} (h : m2 = t + m) : m2 - t = m := by omega
theorem byt_e {m2 t m n : Nat} (h : m2 = t + m) (h1 : m2 ≤ n) (h2 : n ≤ 140737488351232) : m ≤ 140737488351232 := by omega
theorem byt_ok {t m n : Nat} (h : ¬ n - t < m) (ht : t ≤ n) : t + m ≤ n := by omega
theorem byt_w {t m n m2 : Nat} (h : m2 = t + m) (hn : m2 ≤ n) (hb : n < 9223372036854775808) : IntKind.i64.wrap ((t : Int) + (m : Int)) = (m2 : Int) ∧ RowKit.wrap64 ((t : Int) + (m : Int)) = (m2 : Int) ∧ IntKind.i64.wrap ((m2 : Int) - (m : Int)) = (t : Int) ∧ RowKit.wrap64 ((m2 : Int) - (m : Int)) = (t : Int) ∧ (t : Int) ≤ (m2 : Int) ∧ (m2 : Int) ≤ (n : Int) ∧ t ≤ m2 := by
  refine ⟨by rw [IntKind.wrap_i64]; omega, by unfold RowKit.wrap64; omega, by rw [IntKind.wrap_i64]; omega, by unfold RowKit.wrap64; omega, by omega, by omega, by omega⟩
set_option maxRecDepth 100000 in
set_option maxHeartbeats 2000000 in
theorem bytes_any (w : World) {g : Nat} {V : Vr} {a : Option Addr} {c : Nat} (hV : VB w g V a c) (hlen : V.l.length ≤ 140737488351232) (m : Nat) :
    Calls Try.prog 75 #[.pointer (some ⟨g, 0, none⟩), .int .i64 (m : Int)] w (BytR w g a c (bytV V m)) := by
  obtain ⟨f, hf⟩ : ∃ f, f = V.fault := ⟨_, rfl⟩
  obtain ⟨n, hn⟩ : ∃ n, n = V.l.length := ⟨_, rfl⟩
  obtain ⟨t, ht⟩ : ∃ t, t = V.at_ := ⟨_, rfl⟩
  have hle := hV.le
  have hbig := hV.big
  have hcap := hV.row.cap_le
  have hcm := hV.row.cap_max
  rw [← hn] at hcap hbig hlen
  rw [← hn, ← ht] at hle
  have HG : Hid (Has w g 86 [.slice a n c, .int .i64 (t : Int), .int .i64 f]) := Lib.hid (by rw [hn, ht, hf]; exact hV.has)
  have HV := Lib.hid hV
  have g0 := HG.out.cell 0 rfl
  have g1 := HG.out.cell 1 rfl
  have g2 := HG.out.cell 2 rfl
  have f1 := HG.out.free 1
  have f2 := HG.out.free 2
  have mpos : ¬ (m : Int) < 0 := by omega
  by_cases h0 : f = 0
  · subst h0
    have HL := Lib.hid (left_any w hV)
    have hl : leftV V = n - t := by unfold leftV; rw [if_pos hf.symm, hn, ht]
    rw [hl] at HL
    by_cases hm : n - t < m
    · have hm2 : ((n - t : Nat) : Int) < (m : Int) := by omega
      have HR : Hid (bytV V m = ([], { V with fault := 12 })) := Lib.hid (by unfold bytV; rw [if_pos hf.symm, if_pos (by rw [← hn, ← ht]; exact hm)])
      have HF : Hid (∀ w2, Below w.heap.size w w2 → BytR w g a c (bytV V m) (.returned (.slice none 0 0)) (w2.setCell ⟨g, 2, none⟩ (.int .i64 12)) ∧ w2.cell? ⟨g, 2, none⟩ = some (.int .i64 0) ∧ w2.frozen? ⟨g, 2, none⟩ = false) := Lib.hid (fun w2 hb => by
        have hV2 := hV.below hb
        have hk := Kept.set w2 g 2 (.int .i64 12)
        have hH2 := HG.out.kept (Kept.of_below (X := none') hb) (fun h => h)
        rw [HR.out]
        refine ⟨⟨none, 0, rfl, World.ownsRow_nil _ _ _ _, (Kept.of_below (X := fun k => k = g) hb).trans hk (fun _ _ h => h), ?_, hV2.row.kept hk (fun ad ha e => hV2.ne ad ha e), hV2.ne, hV2.le⟩, hH2.cell 2 rfl, hH2.free 2⟩
        show Has _ g _ (vcells { V with fault := 12 } a c)
        have : vcells { V with fault := 12 } a c = (vcells V a c).set 2 (.int .i64 12) := rfl
        rw [this]
        exact hV2.has.set 2 _)
      clear hV hf hn ht hl hm HG g1 f1 f2
      go_enter Try.func75, Try.ntmps75
      go_wp2_with fail
      refine HL.out.mono ?_
      rintro e w2 ⟨rfl, hb2⟩
      obtain ⟨hF, c2, k2⟩ := HF.out w2 hb2
      have HFF := Lib.hid hF
      clear hb2 hF g0 g2
      go_wp2
      go_ret
      exact HFF.out
    · have hm2 : ¬ ((n - t : Nat) : Int) < (m : Int) := by omega
      obtain ⟨m2, hm3⟩ : ∃ m2, m2 = t + m := ⟨_, rfl⟩
      have htm : m2 ≤ n := by rw [hm3]; exact byt_ok hm hle
      obtain ⟨w1, w2', w3, w4, w5, w6, w7⟩ := byt_w hm3 htm hbig
      have HR : Hid (bytV V m = ((V.l.drop t).take m, { V with at_ := m2 })) := Lib.hid (by unfold bytV; rw [if_pos hf.symm, if_neg (by rw [← hn, ← ht]; exact hm), ← ht, hm3])
      obtain ⟨ap, hap⟩ : ∃ ap, ap = if c = t then a else Option.map (fun x => x.add t) a := ⟨_, rfl⟩
      have HS : Hid (∀ u, Below w.heap.size w u → Kept (fun k => k = g) w (u.setCell ⟨g, 1, none⟩ (.int .i64 (m2 : Int))) ∧ VB (u.setCell ⟨g, 1, none⟩ (.int .i64 (m2 : Int))) g { V with at_ := m2 } a c ∧ Sl (u.setCell ⟨g, 1, none⟩ (.int .i64 (m2 : Int))) ap m (c - t) (bv ((V.l.drop t).take m))) := Lib.hid (fun u hb => by
        have hV2 := hV.below hb
        have hk := Kept.set u g 1 (.int .i64 (m2 : Int))
        have hrow := hV2.row.kept hk (fun ad ha e => hV2.ne ad ha e)
        refine ⟨(Kept.of_below (X := fun k => k = g) hb).trans hk (fun _ _ h => h), ⟨?_, hrow, hV2.ne, by show m2 ≤ V.l.length; rw [← hn]; exact htm⟩, ?_⟩
        · show Has _ g _ (vcells { V with at_ := m2 } a c)
          have : vcells { V with at_ := m2 } a c = (vcells V a c).set 1 (.int .i64 (m2 : Int)) := rfl
          rw [this]
          exact hV2.has.set 1 _
        · rw [← hn] at hrow
          have h1 : Sl (u.setCell ⟨g, 1, none⟩ (.int .i64 (m2 : Int))) ap (n - t) (c - t) ((bv V.l).drop t) := by
            rw [hap]
            by_cases hc : c = t
            · rw [if_pos hc]
              exact sl_end hrow (k := t) (m := n - t) (byt_a hc hcap).1 (byt_a hc hcap).2
            · rw [if_neg hc]; exact sl_in hrow hle
          have h2 := sl_take h1 (k := m) (byt_b hm3 htm)
          rw [show bv ((V.l.drop t).take m) = ((bv V.l).drop t).take m from by simp [bv, List.map_take, List.map_drop]]
          exact h2)
      have hlm : ((V.l.drop t).take m).length = m := byt_c hn (byt_b hm3 htm)
      have HLm := Lib.hid hlm
      have HAp := Lib.hid hap
      have HW := Lib.hid (And.intro w1 (And.intro w2' (And.intro w3 (And.intro w4 (And.intro w5 (And.intro w6 w7))))))
      have HM2 : Hid (m2 - t = m) := Lib.hid (byt_d hm3)
      have HTc : Hid (t ≤ c) := Lib.hid (Nat.le_trans hle hcap)
      have HM2c : Hid (m2 ≤ c) := Lib.hid (Nat.le_trans htm hcap)
      have HM47 := Lib.hid (byt_e hm3 htm hlen)
      clear hV hf hn ht hl hm w1 w2' w3 w4 w5 w6 w7 hm3 htm hap hlm hlen hle hbig hcap
      have hq1 := HW.out.1
      have hq2 := HW.out.2.1
      go_enter Try.func75, Try.ntmps75
      go_wp2_with fail
      refine HL.out.mono ?_
      rintro e w2 ⟨rfl, hb2⟩
      obtain ⟨hk3, hV3, hS3⟩ := HS.out w2 hb2
      have hG2 := HG.out.kept (Kept.of_below (X := none') hb2) (fun h => h)
      have g0 := hG2.cell 0 rfl
      have g1 := hG2.cell 1 rfl
      have f1 := hG2.free 1
      have HK3 := Lib.hid hk3
      have HV3 := Lib.hid hV3
      have HSz : Hid (w.heap.size ≤ w2.heap.size) := Lib.hid hb2.size
      obtain ⟨w3, hw3⟩ : ∃ w3, w3 = w2.setCell ⟨g, 1, none⟩ (.int .i64 (m2 : Int)) := ⟨_, rfl⟩
      rw [← hw3] at HK3 HV3 hS3
      have HG3 : Hid (Has w3 g 86 [.slice a n c, .int .i64 (m2 : Int), .int .i64 0]) := Lib.hid (by rw [hw3]; exact hG2.set 1 _)
      have HSz3 : Hid (w3.heap.size = w2.heap.size) := Lib.hid (by rw [hw3]; simp [World.setCell])
      have HCl := Lib.hid (clone_any w3.drew (hS3.below (below_drewN (Below.refl w3.heap.size w3) 1)) HM47.out)
      clear hb2 hk3 hV3 hS3 hG2 g2 f2
      go_upto_region 10 with fail
      rw [← hw3]
      clear hw3 hq1 hq2 g0 g1 f1
      have HSat := Lib.hid (Sat.cons (w := w3.drew) (HG3.out.cell 0 rfl) (Sat.cons (w := w3.drew) (HG3.out.cell 1 rfl) (Sat.nil _)))
      have hq3 := HW.out.2.2.1
      have hq4 := HW.out.2.2.2.1
      have hq5 := HW.out.2.2.2.2.1
      have hq6 := HW.out.2.2.2.2.2.1
      have hq7 := HW.out.2.2.2.2.2.2
      have hq8 := HTc.out
      have hq9 := HM2c.out
      have hq10 : (m2 : Int) ≤ (c : Int) := Int.ofNat_le.2 HM2c.out
      refine Mx.region [] (Sat [(⟨g, 0, none⟩, .slice a n c), (⟨g, 1, none⟩, .int .i64 (m2 : Int))]) (by kernel_rfl) (by kernel_rfl) HSat.out ?_
      repeat ((first | (refine Mx.skips (by kernel_rfl) ?_; go_big_quiet_skip) | (refine Mx.quietly rfl ?_; go_big_quiet_want; go_big_quiet_op; go_big_quiet_on)); refine Mx.done ?_)
      refine Mx.cell ⟨g, 0, none⟩ (.slice a n c) (by kernel_rfl) (by kernel_rfl) (by kernel_rfl) Try.isAgg22 (fun w' h => h 0 _ _ rfl) ?_
      go_big_quiet_want; go_big_quiet_op; go_big_quiet_on; refine Mx.done ?_
      repeat ((first | (refine Mx.skips (by kernel_rfl) ?_; go_big_quiet_skip) | (refine Mx.quietly rfl ?_; go_big_quiet_want; go_big_quiet_op; go_big_quiet_on)); refine Mx.done ?_)
      refine Mx.cell ⟨g, 1, none⟩ (.int .i64 (m2 : Int)) (by kernel_rfl) (by kernel_rfl) (by kernel_rfl) Try.isAgg3 (fun w' h => h 1 _ _ rfl) ?_
      go_big_quiet_want; go_big_quiet_op; go_big_quiet_on; refine Mx.done ?_
      repeat ((first | (refine Mx.skips (by kernel_rfl) ?_; go_big_quiet_skip) | (refine Mx.quietly rfl ?_; go_big_quiet_want; go_big_quiet_op; go_big_quiet_on)); refine Mx.done ?_)
      refine Mx.cell ⟨g, 1, none⟩ (.int .i64 (m2 : Int)) (by kernel_rfl) (by kernel_rfl) (by kernel_rfl) Try.isAgg3 (fun w' h => h 1 _ _ rfl) ?_
      go_big_quiet_want; go_big_quiet_op; go_big_quiet_on; refine Mx.done ?_
      refine Mx.quietly rfl ?_
      go_big_quiet_want
      go_big_quiet_op
      rw [← HAp.out, HM2.out]
      go_big_quiet_on
      refine Mx.done ?_
      refine Mx.loudly (by kernel_rfl) (by kernel_rfl) ?_
      clear hq5 hq6 hq7 hq8 hq9 hq10 hq3 hq4
      go_wp2_with fail
      refine HCl.out.mono ?_
      rintro e w5 ⟨a5, c5, rfl, ho5, hb5⟩
      have HB5 := Lib.hid hb5
      have HO5 := Lib.hid ho5
      have HG5 := HG3.out.kept (Kept.of_below (X := none') ((below_drewN (Below.refl w3.heap.size w3) 1).trans hb5)) (fun h => h)
      have HSat5 : Hid (Sat [(⟨g, 0, none⟩, .slice a n c), (⟨g, 1, none⟩, .int .i64 (m2 : Int))] w5) := Lib.hid (Sat.cons (w := w5) (HG5.cell 0 rfl) (Sat.cons (w := w5) (HG5.cell 1 rfl) (Sat.nil _)))
      clear hb5 ho5 HG5
      go_wp2_with fail
      refine ⟨HSat5.out, ?_⟩
      repeat ((first | (refine Mx.skips (by kernel_rfl) ?_; go_big_quiet_skip) | (refine Mx.quietly rfl ?_; go_big_quiet_want; go_big_quiet_op; go_big_quiet_on)); refine Mx.done ?_)
      refine Mx.nil ?_
      go_wp2
      go_ret
      have hb5 := HB5.out
      have hb6 : Below w3.heap.size w3 w5 := ((below_drewN (Below.refl w3.heap.size w3) 1)).trans hb5
      rw [HR.out]
      refine ⟨a5, c5, by show Ending.returned (.slice a5 m c5) = .returned (.slice a5 ((V.l.drop t).take m).length c5); rw [HLm.out], ?_, HK3.out.trans (Kept.of_below (X := fun k => k = g) hb6) (fun _ _ h => h), HV3.out.below hb6⟩
      show w5.ownsRow w.heap.size 5 1 (.slice a5 ((V.l.drop t).take m).length c5) ((V.l.drop t).take m).length (bv ((V.l.drop t).take m))
      rw [HLm.out]
      exact own_mono HO5.out (by rw [show w3.drew.heap.size = w3.heap.size from rfl, HSz3.out]; exact HSz.out)
  · have hz : (f == 0) = false := by simpa using h0
    have HR : Hid (bytV V m = ([], V)) := Lib.hid (by unfold bytV; rw [if_neg (by rw [← hf]; exact h0)])
    clear hV hf hn ht h0 HG
    go_enter Try.func75, Try.ntmps75
    go_wp2
    go_ret
    rw [HR.out]
    exact ⟨none, 0, rfl, World.ownsRow_nil _ _ _ _, Kept.refl _ _, HV.out⟩
end Go.Proofs.Ytppkilkfmclpkaa

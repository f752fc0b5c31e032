/- Contracts of frame's source: must, num, take, text. No condition but the sizes. -/
import Derived.Test.YtppkilkfmclpkaaVnBytes
import Derived.Test.YtppkilkfmclpkaaMixP
import Derived.WalkLawsBesides
namespace Go.Proofs.Ytppkilkfmclpkaa
open Go.RowKit

/-- the panic that ends a frame's reading -/
def brk (e : Int) : List PanicEntry := [{ v := .iface 88 (.agg #[.int .i64 e]), recovered := false }]
set_option maxRecDepth 100000 in
theorem must_ok (w : World) {g : Nat} {V : Vr} {a : Option Addr} {c : Nat} (hV : VB w g V a c) (h0 : V.fault = 0) :
    Calls Try.prog 62 #[.agg #[.pointer (some ⟨g, 0, none⟩)]] w fun e w' => e = .returned (.tuple #[]) ∧ Below w.heap.size w w' := by
  have hb1 : Below w.heap.size w (w.alloc (.cells #[.pointer (some ⟨g, 0, none⟩)] 72)) := (Below.refl _ _).alloc (Nat.le_refl _) _
  have HF := Lib.hid (fault_any _ (hV.below hb1))
  rw [h0] at HF
  have HB := Lib.hid hb1
  have h1 : Array.all (#[.pointer (some ⟨g, 0, none⟩)] : Array Value) (·.oneCell') = true := by simp [Value.oneCell']
  clear hV h0 hb1
  go_enter Try.func62, Try.ntmps62
  go_wp2_with fail
  refine HF.out.mono ?_
  rintro e w2 ⟨rfl, hb2⟩
  have hb3 := HB.out.trans (hb2.mono HB.out.size)
  have HB3 := Lib.hid hb3
  clear hb2 hb3
  go_wp2
  go_end0
  exact ⟨rfl, HB3.out⟩
set_option maxRecDepth 100000 in
theorem must_no (w : World) {g : Nat} {V : Vr} {a : Option Addr} {c : Nat} (hV : VB w g V a c) (h0 : ¬ V.fault = 0) :
    Calls Try.prog 62 #[.agg #[.pointer (some ⟨g, 0, none⟩)]] w fun e w' => e = .panicked (brk 12) ∧ Below w.heap.size w w' := by
  have hb1 : Below w.heap.size w (w.alloc (.cells #[.pointer (some ⟨g, 0, none⟩)] 72)) := (Below.refl _ _).alloc (Nat.le_refl _) _
  have HF := Lib.hid (fault_any _ (hV.below hb1))
  obtain ⟨z, hz⟩ : ∃ z, z = V.fault := ⟨_, rfl⟩
  rw [← hz] at HF h0
  have hz : (z == 0) = false := by simpa using h0
  have HB := Lib.hid hb1
  clear hV h0 hb1
  go_enter Try.func62, Try.ntmps62
  go_wp2_with fail
  refine HF.out.mono ?_
  rintro e w2 ⟨rfl, hb2⟩
  have hb3 := HB.out.trans (hb2.mono HB.out.size)
  have HB3 := Lib.hid hb3
  clear hb2 hb3
  go_wp2
  exact ⟨rfl, rfl, HB3.out⟩
/-- how a number's reading ends -/
def SrcN (w : World) (g : Nat) (a : Option Addr) (c : Nat) (r : Nat × Vr) (e : Ending) (w' : World) : Prop :=
  (e = if r.2.fault = 0 then .returned (.int .i64 (r.1 : Int)) else .panicked (brk 12)) ∧ Kept (fun k => k = g) w w' ∧ VB w' g r.2 a c
theorem kept_new {w w1 w2 : World} {g : Nat} (h1 : Below w.heap.size w w1) (h2 : Kept (fun k => k = g) w1 w2) : Kept (fun k => k = g) w w2 := (Kept.of_below (X := fun k => k = g) h1).trans h2 (fun _ _ h => h)
set_option maxRecDepth 100000 in
theorem snum_any (w : World) {g : Nat} {V : Vr} {a : Option Addr} {c : Nat} (hV : VB w g V a c) :
    Calls Try.prog 51 #[.agg #[.pointer (some ⟨g, 0, none⟩)]] w (SrcN w g a c (numV V)) := by
  have hb1 : Below w.heap.size w (w.alloc (.cells #[.pointer (some ⟨g, 0, none⟩)] 72)) := (Below.refl _ _).alloc (Nat.le_refl _) _
  have HN := Lib.hid (number_any _ (hV.below hb1))
  have HG1 : Hid (Has (w.alloc (.cells #[.pointer (some ⟨g, 0, none⟩)] 72)) w.heap.size 72 [.pointer (some ⟨g, 0, none⟩)]) := Lib.hid (Has.new _ _ _)
  have HB := Lib.hid hb1
  have HLt : Hid (g < w.heap.size) := Lib.hid hV.has.lt
  obtain ⟨r, hr⟩ : ∃ r, r = numV V := ⟨_, rfl⟩
  rw [← hr] at HN ⊢
  clear hV hb1 hr
  obtain ⟨y, V2⟩ := r
  by_cases h0 : V2.fault = 0
  · go_enter Try.func51, Try.ntmps51
    go_wp2_with fail
    refine HN.out.mono ?_
    rintro e w2 ⟨rfl, hk2, hV2⟩
    have hG2 := HG1.out.kept hk2 (fun h => by have := HLt.out; omega)
    have c0 := hG2.cell 0 rfl
    have HK2 := Lib.hid (kept_new HB.out hk2)
    have HV2 := Lib.hid hV2
    have HM := Lib.hid (must_ok w2 hV2 h0)
    clear hk2 hG2
    go_wp2_with fail
    refine HM.out.mono ?_
    rintro e w3 ⟨rfl, hb3⟩
    have HB3 := Lib.hid hb3
    clear hb3
    go_wp2
    go_ret
    exact ⟨by rw [if_pos h0]; rfl, HK2.out.trans (Kept.of_below HB3.out) (fun _ _ h => h), HV2.out.below HB3.out⟩
  · go_enter Try.func51, Try.ntmps51
    go_wp2_with fail
    refine HN.out.mono ?_
    rintro e w2 ⟨rfl, hk2, hV2⟩
    have hG2 := HG1.out.kept hk2 (fun h => by have := HLt.out; omega)
    have c0 := hG2.cell 0 rfl
    have HK2 := Lib.hid (kept_new HB.out hk2)
    have HV2 := Lib.hid hV2
    have HM := Lib.hid (must_no w2 hV2 h0)
    clear hk2 hG2
    go_wp2_with fail
    refine HM.out.mono ?_
    rintro e w3 ⟨rfl, hb3⟩
    have HB3 := Lib.hid hb3
    clear hb3
    go_wp2
    exact ⟨rfl, by rw [if_neg h0], HK2.out.trans (Kept.of_below HB3.out) (fun _ _ h => h), HV2.out.below HB3.out⟩
/-- how a text's reading ends -/
def SrcB (w : World) (g : Nat) (a : Option Addr) (c : Nat) (r : List UInt8 × Vr) (e : Ending) (w' : World) : Prop :=
  (if r.2.fault = 0 then ∃ ra rc, e = .returned (.slice ra r.1.length rc) ∧ w'.ownsRow w.heap.size 5 1 (.slice ra r.1.length rc) r.1.length (bv r.1) else e = .panicked (brk 12)) ∧ Kept (fun k => k = g) w w' ∧ VB w' g r.2 a c
set_option maxRecDepth 100000 in
theorem stake_any (w : World) {g : Nat} {V : Vr} {a : Option Addr} {c : Nat} (hV : VB w g V a c) (hlen : V.l.length ≤ 140737488351232) (m : Nat) :
    Calls Try.prog 63 #[.agg #[.pointer (some ⟨g, 0, none⟩)], .int .i64 (m : Int)] w (SrcB w g a c (bytV V m)) := by
  have hb1 : Below w.heap.size w (w.alloc (.cells #[.pointer (some ⟨g, 0, none⟩)] 72)) := (Below.refl _ _).alloc (Nat.le_refl _) _
  have HN := Lib.hid (bytes_any _ (hV.below hb1) hlen m)
  have HG1 : Hid (Has (w.alloc (.cells #[.pointer (some ⟨g, 0, none⟩)] 72)) w.heap.size 72 [.pointer (some ⟨g, 0, none⟩)]) := Lib.hid (Has.new _ _ _)
  have HB := Lib.hid hb1
  have HLt : Hid (g < w.heap.size) := Lib.hid hV.has.lt
  obtain ⟨r, hr⟩ : ∃ r, r = bytV V m := ⟨_, rfl⟩
  rw [← hr] at HN ⊢
  clear hV hb1 hr
  obtain ⟨y, V2⟩ := r
  by_cases h0 : V2.fault = 0
  · go_enter Try.func63, Try.ntmps63
    go_wp2_with fail
    refine HN.out.mono ?_
    rintro e w2 ⟨ra, rc, rfl, ho2, hk2, hV2⟩
    have hG2 := HG1.out.kept hk2 (fun h => by have := HLt.out; omega)
    have c0 := hG2.cell 0 rfl
    have HO2 := Lib.hid ho2
    have HK2 := Lib.hid (kept_new HB.out hk2)
    have HV2 := Lib.hid hV2
    have HM := Lib.hid (must_ok w2 hV2 h0)
    obtain ⟨k, hk⟩ : ∃ k, k = y.length := ⟨_, rfl⟩
    have HKk := Lib.hid hk
    show _
    rw [← hk]
    clear hk2 hG2 ho2 hk
    go_wp2_with fail
    refine HM.out.mono ?_
    rintro e w3 ⟨rfl, hb3⟩
    have HB3 := Lib.hid hb3
    clear hb3
    go_wp2
    go_ret
    refine ⟨?_, HK2.out.trans (Kept.of_below HB3.out) (fun _ _ h => h), HV2.out.below HB3.out⟩
    rw [if_pos h0]
    exact ⟨ra, rc, by simp only [HKk.out]; rfl, own_mono (own_below HO2.out HB3.out) (by have := HB.out.size; exact this)⟩
  · go_enter Try.func63, Try.ntmps63
    go_wp2_with fail
    refine HN.out.mono ?_
    rintro e w2 ⟨ra, rc, rfl, ho2, hk2, hV2⟩
    have hG2 := HG1.out.kept hk2 (fun h => by have := HLt.out; omega)
    have c0 := hG2.cell 0 rfl
    have HO2 := Lib.hid ho2
    have HK2 := Lib.hid (kept_new HB.out hk2)
    have HV2 := Lib.hid hV2
    have HM := Lib.hid (must_no w2 hV2 h0)
    obtain ⟨k, hk⟩ : ∃ k, k = y.length := ⟨_, rfl⟩
    have HKk := Lib.hid hk
    show _
    rw [← hk]
    clear hk2 hG2 ho2 hk
    go_wp2_with fail
    refine HM.out.mono ?_
    rintro e w3 ⟨rfl, hb3⟩
    have HB3 := Lib.hid hb3
    clear hb3
    go_wp2
    refine ⟨rfl, ?_, HK2.out.trans (Kept.of_below HB3.out) (fun _ _ h => h), HV2.out.below HB3.out⟩
    rw [if_neg h0]
/-- a text: its length, its bytes -/
def txtV (V : Vr) : List UInt8 × Vr := if (numV V).2.fault = 0 then bytV (numV V).2 (numV V).1 else ([], (numV V).2)
theorem numV_l (V : Vr) : (numV V).2.l = V.l := by
  unfold numV
  by_cases h : V.fault = 0
  · rw [if_pos h]
    by_cases h2 : (getV V.l V.at_).2.2 = 0
    · rw [if_pos h2]
    · rw [if_neg h2]
  · rw [if_neg h]
theorem bytV_l (V : Vr) (m : Nat) : (bytV V m).2.l = V.l := by
  unfold bytV
  by_cases h : V.fault = 0
  · rw [if_pos h]
    by_cases h2 : V.l.length - V.at_ < m
    · rw [if_pos h2]
    · rw [if_neg h2]
  · rw [if_neg h]
theorem mid1 {w : World} {b o : Nat} {x : Value} (hx : w.cell? ⟨b, o, none⟩ = some x) : w.rangeAt b o [x] := by
  intro j v hv
  match j, hv with
  | 0, hv => cases hv; exact hx
def TxtD (w : World) (g : Nat) (a : Option Addr) (c : Nat) (r : List UInt8 × Vr) (ch : List PanicEntry) (ds : List Deferred) (w' : World) : Prop := ds = [] ∧ SrcB w g a c r (.panicked ch) w'
set_option maxRecDepth 100000 in
theorem stext_any (w : World) {g : Nat} {V : Vr} {a : Option Addr} {c : Nat} (hV : VB w g V a c) (hlen : V.l.length ≤ 140737488351232) :
    Calls Try.prog 65 #[.agg #[.pointer (some ⟨g, 0, none⟩)]] w (SrcB w g a c (txtV V)) := by
  have hb1 : Below w.heap.size w (w.alloc (.cells #[.pointer (some ⟨g, 0, none⟩)] 72)).drew := below_drewN ((Below.refl _ _).alloc (Nat.le_refl _) _) 1
  have HN := Lib.hid (snum_any _ (hV.below hb1))
  have HG1 : Hid (Has (w.alloc (.cells #[.pointer (some ⟨g, 0, none⟩)] 72)) w.heap.size 72 [.pointer (some ⟨g, 0, none⟩)]) := Lib.hid (Has.new _ _ _)
  obtain ⟨q, hq⟩ : ∃ q, q = w.heap.size := ⟨_, rfl⟩
  have HSat : Hid (Sat [(⟨q, 0, none⟩, .pointer (some ⟨g, 0, none⟩))] (w.alloc (.cells #[.pointer (some ⟨g, 0, none⟩)] 72)).drew) := Lib.hid (Sat.cons (w := (w.alloc (.cells #[.pointer (some ⟨g, 0, none⟩)] 72)).drew) (by rw [hq]; exact HG1.out.cell 0 rfl) (Sat.nil _))
  have HB := Lib.hid hb1
  have HLt : Hid (g < w.heap.size) := Lib.hid hV.has.lt
  have hl2 : (numV V).2.l.length ≤ 140737488351232 := by rw [numV_l]; exact hlen
  obtain ⟨r, hr⟩ : ∃ r, r = numV V := ⟨_, rfl⟩
  have hT : txtV V = if r.2.fault = 0 then bytV r.2 r.1 else ([], r.2) := by rw [hr]; rfl
  rw [← hr] at HN hl2
  rw [hT]
  have HL2 := Lib.hid hl2
  clear hV hb1 hr hT hl2
  obtain ⟨y, V2⟩ := r
  have HQ := Lib.hid hq
  clear hq
  go_enter Try.func65, Try.ntmps65
  go_upto_region 1 with fail
  rw [← HQ.out]
  refine MixP.region [] [0, 1, 2, 3, 4] [2, 3] (Sat [(⟨q, 0, none⟩, .pointer (some ⟨g, 0, none⟩))]) (TxtD w g a c (if V2.fault = 0 then bytV V2 y else ([], V2))) (by kernel_rfl) (by kernel_rfl) HSat.out ?_ ?_
  · intro ch a' w' h
    exact h
  refine MixP.step rfl ?_
  refine Mx.mid q 0 [.pointer (some ⟨g, 0, none⟩)] _ (by kernel_rfl) (by kernel_rfl) (by kernel_rfl) Try.underlying72 rfl (by kernel_rfl) (fun w' h => mid1 (h 0 _ _ rfl)) ?_
  go_big_quiet_want; go_big_quiet_op; go_big_quiet_on; refine Mx.done ?_
  refine Mx.nil ?_
  refine MixP.step rfl ?_
  refine Mx.mid q 0 [.pointer (some ⟨g, 0, none⟩)] _ (by kernel_rfl) (by kernel_rfl) (by kernel_rfl) Try.underlying72 rfl (by kernel_rfl) (fun w' h => mid1 (h 0 _ _ rfl)) ?_
  go_big_quiet_want; go_big_quiet_op; go_big_quiet_on; refine Mx.done ?_
  refine Mx.nil ?_
  refine MixP.panicky rfl (by kernel_rfl) (by kernel_rfl) rfl ?_
  by_cases h0 : V2.fault = 0
  · rw [if_pos h0]
    obtain ⟨r, hr⟩ : ∃ r, r = bytV V2 y := ⟨_, rfl⟩
    rw [← hr]
    have HR := Lib.hid hr
    have H0 := Lib.hid h0
    clear hr h0
    obtain ⟨z, V3⟩ := r
    go_wp2_with fail
    refine HN.out.mono ?_
    rintro e w2 ⟨he, hk2, hV2⟩
    rw [if_pos (show (y, V2).2.fault = 0 from H0.out)] at he
    subst he
    have hG2 := (HG1.out.kept (Kept.of_below (X := none') (below_drewN (Below.refl _ _) 1)) (fun h => h)).kept hk2 (fun h => by have := HLt.out; omega)
    have c0 := hG2.cell 0 rfl
    rw [← HQ.out] at c0
    have HSat2 : Hid (Sat [(⟨q, 0, none⟩, .pointer (some ⟨g, 0, none⟩))] w2) := Lib.hid (Sat.cons (w := w2) c0 (Sat.nil _))
    have HT := Lib.hid (stake_any w2 hV2 HL2.out y)
    dsimp only at HT
    rw [← HR.out] at HT
    have HK2 := Lib.hid (kept_new HB.out hk2)
    have HSz : Hid (w.heap.size ≤ w2.heap.size) := Lib.hid (by
      have h1 := HB.out.size
      have h2 := hk2.size
      exact Nat.le_trans h1 h2)
    have HG2 : Hid (Has w2 q 72 [.pointer (some ⟨g, 0, none⟩)]) := Lib.hid (by rw [HQ.out]; exact hG2)
    clear hG2 hk2 hV2 c0
    show _
    go_wp2_with fail
    refine ⟨HSat2.out, ?_⟩
    refine MixP.panicky rfl (by kernel_rfl) (by kernel_rfl) rfl ?_
    by_cases h1 : V3.fault = 0
    · go_wp2_with fail
      refine HT.out.mono ?_
      rintro e w3 ⟨he, hk3, hV3⟩
      rw [if_pos (show (z, V3).2.fault = 0 from h1)] at he
      obtain ⟨ra, rc, rfl, ho3⟩ := he
      have hG3 : w3.cell? ⟨q, 0, none⟩ = some (.pointer (some ⟨g, 0, none⟩)) := by
        have h2 := (Has.kept (w := w2) (g := q) (t := 72) (vs := [.pointer (some ⟨g, 0, none⟩)]) HG2.out hk3 (fun h => by have h3 := HLt.out; have h4 := HQ.out; omega)).cell 0 rfl
        exact h2
      have HSat3 : Hid (Sat [(⟨q, 0, none⟩, .pointer (some ⟨g, 0, none⟩))] w3) := Lib.hid (Sat.cons (w := w3) hG3 (Sat.nil _))
      have HE : Hid (SrcB w g a c (z, V3) (.returned (.slice ra z.length rc)) w3) := Lib.hid ⟨by rw [if_pos (show (z, V3).2.fault = 0 from h1)]; exact ⟨ra, rc, rfl, own_mono ho3 HSz.out⟩, HK2.out.trans hk3 (fun _ _ h => h), hV3⟩
      clear hG3 hk3 hV3 ho3
      obtain ⟨zn, hzn⟩ : ∃ zn, zn = z.length := ⟨_, rfl⟩
      rw [← hzn] at HE
      dsimp only
      rw [← hzn]
      clear hzn
      go_wp2_with fail
      refine ⟨HSat3.out, ?_⟩
      refine MixP.step (o := ⟨_, _, _, _, _, _⟩) rfl ?_
      (first | (refine Mx.skips (by kernel_rfl) ?_; go_big_quiet_skip) | (refine Mx.quietly rfl ?_; go_big_quiet_want; go_big_quiet_op; go_big_quiet_on)); refine Mx.done ?_
      refine Mx.nil ?_
      refine MixP.nil ?_
      go_wp2
      go_ret
      have hE := HE.out
      rw [HR.out] at hE
      exact hE
    · go_wp2_with fail
      refine HT.out.mono ?_
      rintro e w3 ⟨he, hk3, hV3⟩
      rw [if_neg (show ¬ (z, V3).2.fault = 0 from h1)] at he
      subst he
      show TxtD w g a c (z, V3) (brk 12) [] w3
      exact ⟨rfl, by rw [if_neg (show ¬ (z, V3).2.fault = 0 from h1)], HK2.out.trans hk3 (fun _ _ h => h), hV3⟩
  · rw [if_neg h0]
    go_wp2_with fail
    refine HN.out.mono ?_
    rintro e w2 ⟨he, hk2, hV2⟩
    rw [if_neg (show ¬ (y, V2).2.fault = 0 from h0)] at he
    subst he
    show TxtD w g a c ([], V2) (brk 12) [] w2
    exact ⟨rfl, by rw [if_neg (show ¬ (([], V2) : List UInt8 × Vr).2.fault = 0 from h0)], kept_new HB.out hk2, hV2⟩
end Go.Proofs.Ytppkilkfmclpkaa

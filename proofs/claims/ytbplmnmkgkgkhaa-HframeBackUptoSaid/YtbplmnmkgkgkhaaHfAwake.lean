/- The awake of layer 17's laws answers true. -/
import Derived.Test.YtbplmnmkgkgkhaaHfRead
namespace Go.Proofs.Ytbplmnmkgkgkhaa
open Go.RowKit

/-- an event that tells nothing -/
def evz : List Value := [.int .i64 0, .slice none 0 0, .int .i64 0, .int .i64 0, .int .i64 0, .int .i64 0]
theorem run_load_ev {w : World} {g : Nat} {vs : List Value} (hH : Has w g 32 vs) (hl : vs.length = 6) : (loadVar 32 ⟨g, 0, none⟩).run Try.prog w = .ok (.agg vs.toArray) w := by
  have hi : (Try.prog.info? 32).map (·.size) = some 6 := by kernel_rfl
  exact run_loadVar_row (P := Try.prog) w g 32 32 vs.toArray (0, 0) _ hH Try.underlying32 rfl (by rw [hi]; simp [hl])
theorem results_ev {fn : Func} {c u v : Tmp} (h : fn.results = #[.cell c 32, .tmp u, .tmp v]) (tmps : Array Value) {w : World} {g : Nat} {vs : List Value} (hc : tmps[c]?.getD undef = .pointer (some ⟨g, 0, none⟩)) (hH : Has w g 32 vs) (hl : vs.length = 6) :
    (results fn tmps).run Try.prog w = .ok (.tuple #[.agg vs.toArray, tmps.getD u undef, tmps.getD v undef]) w := by
  have hr := run_load_ev hH hl
  simp only [results, h]
  simp [hc, asAddr, hr]

def IntOfW (w : World) (z : Int) (e : Ending) (w' : World) : Prop := e = .returned (.int .i64 z) ∧ w' = w
set_option maxRecDepth 100000 in
theorem barred_1 (w : World) : Calls Try.prog 36 #[.int .i64 1] w (BoolOf w false) := by
  go_enter Try.func36, Try.ntmps36
  go_wp2
  go_ret
  exact ⟨rfl, Below.refl _ _⟩
set_option maxRecDepth 100000 in
theorem known_1 (w : World) : Calls Try.prog 32 #[.int .i64 1] w (BoolOf w true) := by
  go_enter Try.func32, Try.ntmps32
  go_wp2
  go_ret
  exact ⟨rfl, Below.refl _ _⟩
set_option maxRecDepth 100000 in
set_option maxHeartbeats 1000000 in
theorem whole_1 (w : World) {g : Nat} {vs : List Value} (hR : Has w g 63 vs) (hh : vs[6]? = some (.int .i64 0)) (pa : Option Addr) (pn pc : Nat) :
    Calls Try.prog 34 #[.pointer (some ⟨g, 0, none⟩), .int .i64 1, .slice pa pn pc] w fun e w' => e = .returned (.tuple #[.agg #[.int .i64 1, .slice pa pn pc, .int .i64 0, .int .i64 0, .int .i64 0, .int .i64 0], .bool true, .int .i64 0]) ∧ Kept (fun k => k = g) w w' := by
  have c6 : w.cell? ⟨g, 6, none⟩ = some (.int .i64 0) := hR.cell 6 hh
  have f6 := hR.free 6
  have hlt := hR.lt
  clear hR hh
  go_enter Try.func34, Try.ntmps34
  go_wp2
  have hH : Has ((w.setCell ⟨g, 6, none⟩ (.int .i64 1)).alloc (.cells #[.int .i64 1, .slice pa pn pc, .int .i64 0, .int .i64 0, .int .i64 0, .int .i64 0] 32)) w.heap.size 32 [.int .i64 1, .slice pa pn pc, .int .i64 0, .int .i64 0, .int .i64 0, .int .i64 0] := by
    have := Has.new (w.setCell ⟨g, 6, none⟩ (.int .i64 1)) 32 #[.int .i64 1, .slice pa pn pc, .int .i64 0, .int .i64 0, .int .i64 0, .int .i64 0]
    simpa [World.setCell] using this
  refine bodyPost_ret (results_ev rfl _ rfl hH rfl) rfl ?_
  exact ⟨rfl, (Kept.set w g 6 _).trans (Kept.alloc none' _ _) (fun _ _ h => h.elim)⟩
set_option maxRecDepth 100000 in
set_option maxHeartbeats 1000000 in
theorem check_1 (w : World) {g : Nat} {R : Rd} {ba : Option Addr} {bc : Nat} (hR : RB w g R ba bc) (hh : R.heads = 0) (hq : R.req = true) (hl : R.limit = 10) :
    Calls Try.prog 30 #[.pointer (some ⟨g, 0, none⟩), .int .i64 1, .int .i64 2] w (IntOf w 0) := by
  have HB := Lib.hid (barred_1 w)
  have c0 : w.cell? ⟨g, 0, none⟩ = some (.bool true) := by rw [← hq]; exact hR.has.cell 0 rfl
  have HR := Lib.hid hR
  clear hR
  go_enter Try.func30, Try.ntmps30
  go_wp2_with fail
  refine HB.out.mono ?_
  rintro e w2 ⟨rfl, hb2⟩
  have hb3 := hb2.trans (below_drewN (Below.refl _ w2) 1 |>.mono hb2.size)
  have hR3 := HR.out.below hb3
  have d0 : w2.drew.cell? ⟨g, 0, none⟩ = some (.bool true) := by rw [← hq]; exact hR3.has.cell 0 rfl
  have d1 : w2.drew.cell? ⟨g, 1, none⟩ = some (.int .i64 10) := by rw [← hl]; exact hR3.has.cell 1 rfl
  have d6 : w2.drew.cell? ⟨g, 6, none⟩ = some (.int .i64 0) := by rw [← hh]; exact hR3.has.cell 6 rfl
  have HB3 := Lib.hid hb3
  clear hb2 hb3 hR3 c0
  go_wp2_with fail
  refine Mx.region [] (fun w' => w'.cell? ⟨g, 0, none⟩ = some (.bool true) ∧ w'.cell? ⟨g, 1, none⟩ = some (.int .i64 10) ∧ w'.cell? ⟨g, 6, none⟩ = some (.int .i64 0)) (by kernel_rfl) (by kernel_rfl) ⟨d0, d1, d6⟩ ?_
  repeat ((first | (refine Mx.skips (by kernel_rfl) ?_; go_big_quiet_skip) | (refine Mx.quietly rfl ?_; go_big_quiet_want; go_big_quiet_op; go_big_quiet_on)); refine Mx.done ?_)
  refine Mx.cell ⟨g, 0, none⟩ (.bool true) (by kernel_rfl) (by kernel_rfl) (by kernel_rfl) Try.isAgg4 (fun w' h => h.1) ?_
  go_big_quiet_want; go_big_quiet_op; go_big_quiet_on; refine Mx.done ?_
  repeat ((first | (refine Mx.skips (by kernel_rfl) ?_; go_big_quiet_skip) | (refine Mx.quietly rfl ?_; go_big_quiet_want; go_big_quiet_op; go_big_quiet_on)); refine Mx.done ?_)
  refine Mx.cell ⟨g, 6, none⟩ (.int .i64 0) (by kernel_rfl) (by kernel_rfl) (by kernel_rfl) Try.isAgg3 (fun w' h => h.2.2) ?_
  go_big_quiet_want; go_big_quiet_op; go_big_quiet_on; refine Mx.done ?_
  repeat ((first | (refine Mx.skips (by kernel_rfl) ?_; go_big_quiet_skip) | (refine Mx.quietly rfl ?_; go_big_quiet_want; go_big_quiet_op; go_big_quiet_on)); refine Mx.done ?_)
  refine Mx.cell ⟨g, 1, none⟩ (.int .i64 10) (by kernel_rfl) (by kernel_rfl) (by kernel_rfl) Try.isAgg3 (fun w' h => h.2.1) ?_
  go_big_quiet_want; go_big_quiet_op; go_big_quiet_on; refine Mx.done ?_
  repeat ((first | (refine Mx.skips (by kernel_rfl) ?_; go_big_quiet_skip) | (refine Mx.quietly rfl ?_; go_big_quiet_want; go_big_quiet_op; go_big_quiet_on)); refine Mx.done ?_)
  refine Mx.nil ?_
  go_wp2
  go_ret
  exact ⟨rfl, HB3.out⟩
def aw : List UInt8 := [1, 2, 97, 98]
set_option maxRecDepth 100000 in
set_option maxHeartbeats 4000000 in
theorem next_1 (w : World) {g : Nat} {R : Rd} {ba : Option Addr} {bc : Nat} (hR : RB w g R ba bc) (hh : R.heads = 0) (hq : R.req = true) (hl : R.limit = 10) (hbb : R.b = aw) (hf : R.fault = 0) (hlf : R.left = 0) :
    Calls Try.prog 21 #[.pointer (some ⟨g, 0, none⟩)] w fun e w' => ∃ a c, e = .returned (.tuple #[.agg #[.int .i64 1, .slice a 2 c, .int .i64 0, .int .i64 0, .int .i64 0, .int .i64 0], .bool true, .int .i64 0]) ∧ Sl w' a 2 c (bv [97, 98]) ∧ Kept (fun k => k = g) w w' := by
  obtain ⟨bl, hbl⟩ : ∃ bl, bl = R.b.length := ⟨_, rfl⟩
  have hlen : R.b.length = 4 := by rw [hbb]; rfl
  have hsl : Sl w ba 4 bc (bv aw) := by have := hR.row.sl; rw [hlen, hbb] at this; exact this
  have hv : rcells R ba bc = [.bool true, .int .i64 10, .slice ba 4 bc, .bool R.ended, .bool R.done, .int .i64 0, .int .i64 0, .bool R.settled, .int .i64 0, .bool R.passing] := by simp [rcells, hh, hq, hl, hlen, hf, hlf]
  have hH := hR.has
  rw [hv] at hH
  obtain ⟨eb, heb⟩ : ∃ eb, eb = w.heap.size := ⟨_, rfl⟩
  obtain ⟨w1, hw1⟩ : ∃ w1, w1 = w.alloc (.cells #[.int .i64 0, .slice none 0 0, .int .i64 0, .int .i64 0, .int .i64 0, .int .i64 0] 32) := ⟨_, rfl⟩
  have hal : Below w.heap.size w w1 := by rw [hw1]; exact (Below.refl _ _).alloc (Nat.le_refl _) _
  have hE1 : Has w1 eb 32 evz := by rw [hw1, heb]; exact Has.new _ _ _
  have HR1 := Lib.hid (hR.below hal)
  have HH1 := Lib.hid (hH.kept (Kept.of_below (X := none') hal) (fun h => h))
  have HSl1 := Lib.hid (hsl.below hal)
  have HAl := Lib.hid hal
  have HE1 := Lib.hid hE1
  have HEb := Lib.hid heb
  have hglt : g < w.heap.size := hH.lt
  clear hbl hlen hsl hv hH hR hal hE1 heb
  go_enter Try.func21, Try.ntmps21
  go_wp2_with fail
  rw [← hw1, ← HEb.out]
  clear hw1
  go_loopw [3] (fun v wr => v = .bool false ∧ wr = w1) (fun _ _ => 0)
  case atStart => exact ⟨rfl, rfl⟩
  case round =>
    obtain ⟨rfl, rfl⟩ := hrel
    have c5 := HH1.out.cell 5 rfl
    have c8 := HH1.out.cell 8 rfl
    have c2 := HH1.out.cell 2 rfl
    have HG0 : Hid (Calls Try.prog 29 #[.slice ba 4 bc, .int .i64 0] wr fun e w' => e = .returned (.tuple #[.int .i64 1, .int .i64 1, .int .i64 0]) ∧ Below wr.heap.size wr w') := Lib.hid (by
      have := get_any wr HSl1.out 0 (by decide)
      rw [show getV aw 0 = (1, 1, 0) by decide] at this
      exact this)
    have HG1 : Hid (∀ w', Below wr.heap.size wr w' → Calls Try.prog 29 #[.slice ba 4 bc, .int .i64 1] w' fun e w'' => e = .returned (.tuple #[.int .i64 2, .int .i64 2, .int .i64 0]) ∧ Below w'.heap.size w' w'') := Lib.hid (fun w' hb => by
      have := get_any w' (HSl1.out.below hb) 1 (by decide)
      rw [show getV aw 1 = (2, 2, 0) by decide] at this
      exact this)
    go_wp2_with fail
    refine HG0.out.mono ?_
    rintro e w2 ⟨rfl, hb2⟩
    have c2 := (HH1.out.kept (Kept.of_below (X := none') hb2) (fun h => h)).cell 2 rfl
    go_wp2_with fail
    refine (HG1.out w2 hb2).mono ?_
    rintro e w3 ⟨rfl, hb3⟩
    have hb33 := hb2.trans (hb3.mono hb2.size)
    have HCk := Lib.hid (check_1 w3 (HR1.out.below hb33) hh hq hl)
    clear hb2 hb3 c2
    go_wp2_with fail
    refine HCk.out.mono ?_
    rintro e w4 ⟨rfl, hb4⟩
    have hb44 := hb33.trans (hb4.mono hb33.size)
    have HK := Lib.hid (known_1 w4)
    clear hb33 hb4
    go_wp2_with fail
    refine HK.out.mono ?_
    rintro e w5 ⟨rfl, hb5⟩
    have hb55 := hb44.trans (hb5.mono hb44.size)
    have hH5 := HH1.out.kept (Kept.of_below (X := none') hb55) (fun h => h)
    have c2 := hH5.cell 2 rfl
    have hS5 := HSl1.out.below hb55
    have hcap := hS5.cap_le
    have hcm : (bc : Int) ≤ 9223372036854775807 := by have := hS5.cap_max; unfold maxLen at this; omega
    obtain ⟨rb, off, rfl, hjunk⟩ := hS5.cells (by decide)
    clear hjunk
    have hc2 : ¬ bc = 2 := by omega
    have hc4 : (4 : Int) ≤ (bc : Int) := by omega
    have HB5 := Lib.hid hb55
    have HH5 := Lib.hid hH5
    have HS5 := Lib.hid hS5
    clear hb44 hb5 hb55 hH5 hS5
    have HCl := Lib.hid (clone_any w5 (l := [97, 98]) (sl_drop HS5.out (k := 2) (by decide)) (by decide))
    have hgeb : g < eb := by
      have h1 := HEb.out
      have h2 := HH1.out.lt
      have h3 := HR1.out.has.lt
      have h4 : g ≠ eb := fun e => by
        have a1 := HE1.out
        have a2 := HH1.out
        unfold Has at a1 a2
        rw [e, a1] at a2
        simp only [Option.some.injEq, Obj.cells.injEq] at a2
        exact absurd a2.2.1 (by decide)
      rw [h1] at h4 ⊢
      have h5 := hglt
      omega
    go_wp2_with fail
    refine HCl.out.mono ?_
    rintro e w6 ⟨pa, pc, rfl, hpo, hb6⟩
    have hH6 := HH5.out.kept (Kept.of_below (X := none') hb6) (fun h => h)
    have c2 := hH6.cell 2 rfl
    have f2 := hH6.free 2
    have HWh : Hid (∀ sv, Calls Try.prog 34 #[.pointer (some ⟨g, 0, none⟩), .int .i64 1, .slice pa 2 pc] (w6.setCell ⟨g, 2, none⟩ sv) fun e w' => e = .returned (.tuple #[.agg #[.int .i64 1, .slice pa 2 pc, .int .i64 0, .int .i64 0, .int .i64 0, .int .i64 0], .bool true, .int .i64 0]) ∧ Kept (fun k => k = g) (w6.setCell ⟨g, 2, none⟩ sv) w') := Lib.hid (fun sv => whole_1 _ (hH6.set 2 sv) rfl pa 2 pc)
    have HB6 := Lib.hid (HB5.out.trans (hb6.mono HB5.out.size))
    have HPo := Lib.hid (own_sl hpo)
    have hpb : Hid (∀ ad, pa = some ad → ad.block ≠ g ∧ ad.block ≠ eb) := Lib.hid (fun ad ha => by
      have h1 := (hpo.lt ad.block (by rw [ha]; rfl)).1
      have h2 := HB5.out.size
      have h3 := HE1.out.lt
      omega)
    have HE6 := Lib.hid ((HE1.out.kept (Kept.of_below (X := none') HB5.out) (fun h => h)).kept (Kept.of_below (X := none') hb6) (fun h => h))
    clear hpo hb6 hH6
    by_cases hb4 : bc = 4
    · subst hb4
      go_wp2_with fail
      refine (HWh.out _).mono ?_
      rintro e w8 ⟨rfl, hk8⟩
      have hE8 := (HE6.out.kept (Kept.set w6 g 2 _) (by omega)).kept hk8 (by omega)
      have e0 := hE8.cell 0 rfl
      have e1 := hE8.cell 1 rfl
      have e2 := hE8.cell 2 rfl
      have e3 := hE8.cell 3 rfl
      have e4 := hE8.cell 4 rfl
      have e5 := hE8.cell 5 rfl
      have x0 := hE8.free 0
      have x1 := hE8.free 1
      have x2 := hE8.free 2
      have x3 := hE8.free 3
      have x4 := hE8.free 4
      have x5 := hE8.free 5
      have HK8 := Lib.hid ((Kept.set w6 g 2 _).trans hk8 (fun _ _ h => h))
      have HE8 := Lib.hid hE8
      clear hE8 hk8
      go_wp2
      have hEv := ((((((HE8.out.set 0 (.int .i64 1)).set 1 (.slice pa 2 pc)).set 2 (.int .i64 0)).set 3 (.int .i64 0)).set 4 (.int .i64 0)).set 5 (.int .i64 0))
      have kS := fun (u : World) (j : Nat) (v : Value) => Kept.set u eb j v
      have k8 := ((((((kS w8 0 (.int .i64 1)).trans (kS _ 1 (.slice pa 2 pc)) (fun _ _ h => h)).trans (kS _ 2 (.int .i64 0)) (fun _ _ h => h)).trans (kS _ 3 (.int .i64 0)) (fun _ _ h => h)).trans (kS _ 4 (.int .i64 0)) (fun _ _ h => h)).trans (kS _ 5 (.int .i64 0)) (fun _ _ h => h))
      refine bodyPost_ret (results_ev rfl _ rfl hEv rfl) rfl ?_
      refine ⟨pa, pc, rfl, (HPo.out.kept HK8.out (fun ad ha e => (hpb.out ad ha).1 e)).kept k8 (fun ad ha e => (hpb.out ad ha).2 e), ?_⟩
      have hz : w.heap.size ≤ eb := by have := HEb.out; omega
      have ka : Kept (fun k => k = g) w w6 := (Kept.of_below (X := fun k => k = g) HAl.out).trans (Kept.of_below (X := none') HB6.out) (fun _ _ h => h.elim)
      exact (ka.trans HK8.out (fun _ _ h => h)).trans k8 (fun k hk h => by have : k = eb := h; have := HEb.out; omega)
    · go_wp2_with fail
      refine (HWh.out _).mono ?_
      rintro e w8 ⟨rfl, hk8⟩
      have hE8 := (HE6.out.kept (Kept.set w6 g 2 _) (by omega)).kept hk8 (by omega)
      have e0 := hE8.cell 0 rfl
      have e1 := hE8.cell 1 rfl
      have e2 := hE8.cell 2 rfl
      have e3 := hE8.cell 3 rfl
      have e4 := hE8.cell 4 rfl
      have e5 := hE8.cell 5 rfl
      have x0 := hE8.free 0
      have x1 := hE8.free 1
      have x2 := hE8.free 2
      have x3 := hE8.free 3
      have x4 := hE8.free 4
      have x5 := hE8.free 5
      have HK8 := Lib.hid ((Kept.set w6 g 2 _).trans hk8 (fun _ _ h => h))
      have HE8 := Lib.hid hE8
      clear hE8 hk8
      go_wp2
      have hEv := ((((((HE8.out.set 0 (.int .i64 1)).set 1 (.slice pa 2 pc)).set 2 (.int .i64 0)).set 3 (.int .i64 0)).set 4 (.int .i64 0)).set 5 (.int .i64 0))
      have kS := fun (u : World) (j : Nat) (v : Value) => Kept.set u eb j v
      have k8 := ((((((kS w8 0 (.int .i64 1)).trans (kS _ 1 (.slice pa 2 pc)) (fun _ _ h => h)).trans (kS _ 2 (.int .i64 0)) (fun _ _ h => h)).trans (kS _ 3 (.int .i64 0)) (fun _ _ h => h)).trans (kS _ 4 (.int .i64 0)) (fun _ _ h => h)).trans (kS _ 5 (.int .i64 0)) (fun _ _ h => h))
      refine bodyPost_ret (results_ev rfl _ rfl hEv rfl) rfl ?_
      refine ⟨pa, pc, rfl, (HPo.out.kept HK8.out (fun ad ha e => (hpb.out ad ha).1 e)).kept k8 (fun ad ha e => (hpb.out ad ha).2 e), ?_⟩
      have hz : w.heap.size ≤ eb := by have := HEb.out; omega
      have ka : Kept (fun k => k = g) w w6 := (Kept.of_below (X := fun k => k = g) HAl.out).trans (Kept.of_below (X := none') HB6.out) (fun _ _ h => h.elim)
      exact (ka.trans HK8.out (fun _ _ h => h)).trans k8 (fun k hk h => by have : k = eb := h; have := HEb.out; omega)
end Go.Proofs.Ytbplmnmkgkgkhaa

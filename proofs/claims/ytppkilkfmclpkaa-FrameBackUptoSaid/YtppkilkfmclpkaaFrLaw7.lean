/- FrameBack answers true: Bare of a right frame, how a slice of frames is opened, the law. No condition but the bulk. -/
import Derived.Test.YtppkilkfmclpkaaFrInv2
import Derived.Test.YtppkilkfmclpkaaRdB
import Derived.Test.YtppkilkfmclpkaaFrCopied
import Derived.Test.YtppkilkfmclpkaaFrOpen
import Derived.Test.YtppkilkfmclpkaaFrAwk
import Derived.Test.YtppkilkfmclpkaaFrSm
namespace Go.Proofs.Ytppkilkfmclpkaa
open Go.RowKit

/-- the fields one after another -/
def bi (b : Bool) (g : Fm) : Fm := if b = true then g else { g with id := 0 }
def ba (b : Bool) (g : Fm) : Fm := if b = true then g else { g with at_ := 0 }
def bn (b : Bool) (g : Fm) : Fm := if b = true then g else { g with n := 0 }
def bc (b : Bool) (g : Fm) : Fm := if b = true then g else { g with code := 0 }
def bf (b : Bool) (g : Fm) : Fm := if b = true then g else { g with fin := false }
def bd_ (b : Bool) (g : Fm) : Fm := if b = true then g else { g with data := [] }
def bk (b : Bool) (g : Fm) : Fm := if b = true then g else { g with cid := [] }
def bs (b : Bool) (g : Fm) : Fm := if b = true then g else { g with spans := [], delay := 0 }
def be (b : Bool) (g : Fm) : Fm := if b = true then g else { g with e0 := 0, e1 := 0, e2 := 0 }
theorem bare_steps {f : Fm} (hc : chkF f = 0) : be ((itm f.kind).1.contains 101) (bs ((itm f.kind).1.contains 115) (bk ((itm f.kind).1.contains 107) (bd_ ((itm f.kind).1.contains 100 || ((itm f.kind).1.contains 116 || (itm f.kind).1.contains 112)) (bf (decide (f.kind = 8)) (bc ((itm f.kind).1.contains 99) (bn ((itm f.kind).1.contains 110 || decide (f.kind = 0)) (ba ((itm f.kind).1.contains 97) (bi ((itm f.kind).1.contains 105) f)))))))) = bareF f := by
  have hk := kno_all (chk0 hc).1
  clear hc
  obtain ⟨k, i, t, n, c, fi, dt, ci, sp, dl, e0, e1, e2⟩ := f
  simp only at hk
  rcases hk with rfl | rfl | rfl | rfl | rfl | rfl | rfl | rfl | rfl | rfl | rfl | rfl | rfl | rfl | rfl | rfl | rfl | rfl | rfl | rfl | rfl | rfl | rfl | rfl <;> rfl
/-- the frame at gb is g, at xb the one that came in, at rb the answer's place -/
structure BSt (w wc : World) (xb gb rb : Nat) (f : Fm) (fa : FA) (g : Fm) (ga : FA) : Prop where
  gx : Has wc gb 34 (fcells g ga)
  x : Has wc xb 34 (fcells f fa)
  r : Has wc rb 34 (fcells fzero azero)
  own : FOwn wc w.heap.size g ga
  bel : Below w.heap.size w wc
  lo : w.heap.size ≤ gb
  ne : xb ≠ gb ∧ rb ≠ gb
def BS (w wc : World) (xb gb rb : Nat) (f : Fm) (fa : FA) (g : Fm) : Prop := ∃ ga, BSt w wc xb gb rb f fa g ga
theorem BSt.below {w wc v : World} {xb gb rb : Nat} {f : Fm} {fa : FA} {g : Fm} {ga : FA} (h : BSt w wc xb gb rb f fa g ga) (hb : Below wc.heap.size wc v) : BSt w v xb gb rb f fa g ga :=
  ⟨h.gx.kept (X := none') (Kept.of_below hb) (fun h => h), h.x.kept (X := none') (Kept.of_below hb) (fun h => h), h.r.kept (X := none') (Kept.of_below hb) (fun h => h), h.own.below hb, h.bel.trans (hb.mono h.bel.size), h.lo, h.ne⟩
theorem BSt.put {w wc : World} {xb gb rb : Nat} {f : Fm} {fa : FA} {g g' : Fm} {ga ga' : FA} (h : BSt w wc xb gb rb f fa g ga) (i : Nat) (v : Value) (he : (fcells g ga).set i v = fcells g' ga') (ho : ∀ w', FOwn w' w.heap.size g ga → FOwn w' w.heap.size g' ga') : BSt w (wc.setCell ⟨gb, i, none⟩ v) xb gb rb f fa g' ga' := by
  have hk := Kept.set wc gb i v
  refine ⟨?_, h.x.kept hk h.ne.1, h.r.kept hk h.ne.2, ho _ (h.own.kept hk (h.own.nty h.gx (by decide) (by decide))), h.bel.trans (hk.below h.bel.size (fun k e => by rw [e]; exact h.lo)), h.lo, h.ne⟩
  rw [← he]
  exact h.gx.set i v
theorem ft {b : Bool} : b = true ∨ b = false := by cases b <;> simp
set_option maxRecDepth 100000 in
set_option maxHeartbeats 4000000 in
theorem rbare_any (w : World) {f : Fm} {fa : FA} (h : FIn w f fa) (hz : FSz f) (hc : chkF f = 0) : Calls Try.prog 23 #[.agg (fcells f fa).toArray] w (NewF w (bareF f)) := by
  obtain ⟨w1, hw1⟩ : ∃ w1, w1 = (w.alloc (.cells #[.int .i64 f.kind, .int .i64 f.id, .int .i64 f.at_, .int .i64 f.n, .int .i64 f.code, .bool f.fin, .slice fa.da f.data.length fa.dc, .slice fa.ca f.cid.length fa.cc, .slice fa.sa f.spans.length fa.sc, .int .i64 f.delay, .int .i64 f.e0, .int .i64 f.e1, .int .i64 f.e2] 34)).alloc (.cells #[.int .i64 0, .int .i64 0, .int .i64 0, .int .i64 0, .int .i64 0, .bool false, .slice none 0 0, .slice none 0 0, .slice none 0 0, .int .i64 0, .int .i64 0, .int .i64 0, .int .i64 0] 34) := ⟨_, rfl⟩
  obtain ⟨hX, hR, hb1⟩ := two_new w _ _ _ _ hw1
  obtain ⟨xb, hxb⟩ : ∃ xb, xb = w.heap.size := ⟨_, rfl⟩
  obtain ⟨rb, hrb⟩ : ∃ rb, rb = w.heap.size + 1 := ⟨_, rfl⟩
  rw [← hxb] at hX
  rw [← hrb] at hR
  have HX1 := Lib.hid (show Has w1 xb 34 (fcells f fa) from hX)
  have HR1 := Lib.hid (show Has w1 rb 34 (fcells fzero azero) from hR)
  have HB1 := Lib.hid hb1
  have HLt := Lib.hid (And.intro hX.lt hR.lt)
  have HRl : Hid (w.heap.size ≤ rb) := Lib.hid (by rw [hrb]; exact Nat.le_succ _)
  have HCp := Lib.hid (fun w' (hw : Below w1.heap.size w1 w') => refcopy_any w' ((h.below hb1).below hw) hz)
  have hit := items_any w1 f.kind
  have hst := bare_steps hc
  have hl8 : (itm f.kind).1.length ≤ 8 := by
    have hk := kno_all (chk0 hc).1
    rcases hk with e | e | e | e | e | e | e | e | e | e | e | e | e | e | e | e | e | e | e | e | e | e | e | e <;> rw [e] <;> decide
  obtain ⟨its, hits⟩ : ∃ its, its = itm f.kind := ⟨_, rfl⟩
  rw [← hits] at hit hst hl8
  obtain ⟨cs, ok⟩ := its
  simp only at hst hl8
  have HIt := Lib.hid hit
  have HSt := Lib.hid hst
  have HHas := Lib.hid (fun w' x => has_any w' cs hl8 x)
  clear h hz hc hX hR hb1 hit hst hl8 hits
  show Calls Try.prog 23 #[.agg #[.int .i64 f.kind, .int .i64 f.id, .int .i64 f.at_, .int .i64 f.n, .int .i64 f.code, .bool f.fin, .slice fa.da f.data.length fa.dc, .slice fa.ca f.cid.length fa.cc, .slice fa.sa f.spans.length fa.sc, .int .i64 f.delay, .int .i64 f.e0, .int .i64 f.e1, .int .i64 f.e2]] w _
  go_enter Try.func23, Try.ntmps23
  go_upto_region 1 with fail
  rw [← hw1, ← hrb, ← hxb]
  clear hw1 hxb hrb
  have g0 := HX1.out.cell 0 rfl
  go_wp2_with fail
  refine HIt.out.mono ?_
  rintro e w2 ⟨he, rfl⟩
  obtain ⟨sl, hsl⟩ : ∃ sl, sl = str cs := ⟨_, rfl⟩
  obtain rfl : e = .returned (.tuple #[.string sl, .bool ok]) := by rw [hsl]; exact he
  rw [← hsl] at HHas
  clear hsl he g0
  have g0 := HX1.out.cell 0 rfl
  have g1 := HX1.out.cell 1 rfl
  have g2 := HX1.out.cell 2 rfl
  have g3 := HX1.out.cell 3 rfl
  have g4 := HX1.out.cell 4 rfl
  have g5 := HX1.out.cell 5 rfl
  have g6 := HX1.out.cell 6 rfl
  have g7 := HX1.out.cell 7 rfl
  have g8 := HX1.out.cell 8 rfl
  have g9 := HX1.out.cell 9 rfl
  have g10 := HX1.out.cell 10 rfl
  have g11 := HX1.out.cell 11 rfl
  have g12 := HX1.out.cell 12 rfl
  go_wp2_with fail
  refine (HCp.out w2 (Below.refl _ _)).mono ?_
  rintro e w3 ⟨ga, he, hgo, hb3⟩
  obtain rfl : e = .returned (.agg #[.int .i64 f.kind, .int .i64 f.id, .int .i64 f.at_, .int .i64 f.n, .int .i64 f.code, .bool f.fin, .slice ga.da f.data.length ga.dc, .slice ga.ca f.cid.length ga.cc, .slice ga.sa f.spans.length ga.sc, .int .i64 f.delay, .int .i64 f.e0, .int .i64 f.e1, .int .i64 f.e2]) := he
  obtain ⟨w4, hw4⟩ : ∃ w4, w4 = w3.alloc (.cells #[.int .i64 f.kind, .int .i64 f.id, .int .i64 f.at_, .int .i64 f.n, .int .i64 f.code, .bool f.fin, .slice ga.da f.data.length ga.dc, .slice ga.ca f.cid.length ga.cc, .slice ga.sa f.spans.length ga.sc, .int .i64 f.delay, .int .i64 f.e0, .int .i64 f.e1, .int .i64 f.e2] 34) := ⟨_, rfl⟩
  obtain ⟨gb, hgb⟩ : ∃ gb, gb = w3.heap.size := ⟨_, rfl⟩
  have hal : Below w3.heap.size w3 w4 := by rw [hw4]; exact alB w3 _
  have HS0 : Hid (BSt w w4 xb gb rb f fa f ga) := Lib.hid ⟨by rw [hw4, hgb]; exact Has.new _ _ _, (HX1.out.kept (X := none') (Kept.of_below hb3) (fun h => h)).kept (X := none') (Kept.of_below hal) (fun h => h), (HR1.out.kept (X := none') (Kept.of_below hb3) (fun h => h)).kept (X := none') (Kept.of_below hal) (fun h => h), (hgo.mono HB1.out.size).below hal, (HB1.out.trans (hb3.mono HB1.out.size)).trans (hal.mono (Nat.le_trans HB1.out.size hb3.size)), by rw [hgb]; exact Nat.le_trans HB1.out.size hb3.size, by have h1 := HLt.out; have h2 := hb3.size; rw [hgb]; exact ⟨Nat.ne_of_lt (Nat.lt_of_lt_of_le h1.1 h2), Nat.ne_of_lt (Nat.lt_of_lt_of_le h1.2 h2)⟩⟩
  clear hgo hb3 hal g0 g1 g2 g3 g4 g5 g6 g7 g8 g9 g10 g11 g12
  go_upto_region 3 with fail
  rw [← hw4, ← hgb]
  clear hw4 hgb
  -- bi
  obtain ⟨b1, hb1⟩ : ∃ b, b = cs.contains 105 := ⟨_, rfl⟩
  have HH1 : Hid (∀ w', Calls Try.prog 35 #[.string sl, .int .u8 105] w' (BoolOf w' b1)) := Lib.hid (fun w' => by rw [hb1]; exact HHas.out w' 105)
  have HBq1 := Lib.hid hb1
  clear hb1
  go_wp2_with fail
  refine (HH1.out _).mono ?_
  rintro e v1 ⟨rfl, hv1⟩
  have HT1 := Lib.hid (HS0.out.below hv1)
  clear hv1
  go_upto_if 16 with fail
  go_cut [] (fun wc => BS w wc xb gb rb f fa (bi b1 f))
  case first =>
    have c0 := HT1.out.gx.cell 1 rfl
    have f0 := HT1.out.gx.free 1
    rcases @ft b1 with e | e
    · subst e
      go_wp2_with fail
      go_meet
      case rel => exact ⟨_, HT1.out⟩
    · subst e
      go_wp2_with fail
      go_meet
      case rel => exact ⟨ga, HT1.out.put (g' := { f with id := 0 }) (ga' := ga) 1 (.int .i64 0) rfl (fun _ h => ⟨h.data, h.cid, h.spans⟩)⟩
  case rest =>
  obtain ⟨ga1, hS⟩ := hcut
  obtain ⟨f1, hf1⟩ : ∃ x, x = bi b1 f := ⟨_, rfl⟩
  rw [← hf1] at hS
  have HS1 := Lib.hid hS
  have HFq1 := Lib.hid hf1
  clear hS hf1
  -- ba
  obtain ⟨b2, hb2⟩ : ∃ b, b = cs.contains 97 := ⟨_, rfl⟩
  have HH2 : Hid (∀ w', Calls Try.prog 35 #[.string sl, .int .u8 97] w' (BoolOf w' b2)) := Lib.hid (fun w' => by rw [hb2]; exact HHas.out w' 97)
  have HBq2 := Lib.hid hb2
  clear hb2
  go_wp2_with fail
  refine (HH2.out _).mono ?_
  rintro e v2 ⟨rfl, hv2⟩
  have HT2 := Lib.hid (HS1.out.below hv2)
  clear hv2
  go_upto_if 20 with fail
  go_cut [] (fun wc => BS w wc xb gb rb f fa (ba b2 f1))
  case first =>
    have c0 := HT2.out.gx.cell 2 rfl
    have f0 := HT2.out.gx.free 2
    rcases @ft b2 with e | e
    · subst e
      go_wp2_with fail
      go_meet
      case rel => exact ⟨_, HT2.out⟩
    · subst e
      go_wp2_with fail
      go_meet
      case rel => exact ⟨ga1, HT2.out.put (g' := { f1 with at_ := 0 }) (ga' := ga1) 2 (.int .i64 0) rfl (fun _ h => ⟨h.data, h.cid, h.spans⟩)⟩
  case rest =>
  obtain ⟨ga2, hS⟩ := hcut
  obtain ⟨f2, hf2⟩ : ∃ x, x = ba b2 f1 := ⟨_, rfl⟩
  rw [← hf2] at hS
  have HS2 := Lib.hid hS
  have HFq2 := Lib.hid hf2
  clear hS hf2
  -- bn
  obtain ⟨b3, hb3⟩ : ∃ b, b = cs.contains 110 := ⟨_, rfl⟩
  have HH3 : Hid (∀ w', Calls Try.prog 35 #[.string sl, .int .u8 110] w' (BoolOf w' b3)) := Lib.hid (fun w' => by rw [hb3]; exact HHas.out w' 110)
  have HBq3 := Lib.hid hb3
  clear hb3
  obtain ⟨q3, hq3⟩ : ∃ q, q = (b3 || decide (f.kind = 0)) := ⟨_, rfl⟩
  have HQ3 := Lib.hid hq3
  clear hq3
  go_upto_region 7 with fail
  go_cut [29] (fun v wc => v = .bool (!q3) ∧ BSt w wc xb gb rb f fa f2 ga2)
  case first =>
    go_wp2_with fail
    refine (HH3.out _).mono ?_
    rintro e v3 ⟨rfl, hv3⟩
    have HT3 := Lib.hid (HS2.out.below hv3)
    clear hv3
    have x0 := HT3.out.x.cell 0 rfl
    rcases @ft b3 with e | e
    · subst e
      have HD : Hid (q3 = true) := Lib.hid (by rw [HQ3.out]; rfl)
      go_wp2_with fail
      go_meet
      case rel => exact ⟨by rw [HD.out]; rfl, HT3.out⟩
    · subst e
      by_cases hk : f.kind = 0
      · have HD : Hid (q3 = true) := Lib.hid (by rw [HQ3.out]; simp [hk])
        rw [hk] at x0
        clear hk
        go_wp2_with fail
        go_meet
        case rel => exact ⟨by rw [HD.out]; rfl, HT3.out⟩
      · have y0 : ¬ f.kind = 0 := hk
        have HD : Hid (q3 = false) := Lib.hid (by rw [HQ3.out]; simp [hk])
        clear hk
        go_wp2_with fail
        go_meet
        case rel => exact ⟨by rw [HD.out]; simp [y0], HT3.out⟩
  case rest =>
  obtain ⟨rfl, hT3⟩ := hcut
  have HT3 := Lib.hid hT3
  clear hT3
  go_upto_if 29 with fail
  go_cut [] (fun wc => BS w wc xb gb rb f fa (bn q3 f2))
  case first =>
    have c0 := HT3.out.gx.cell 3 rfl
    have f0 := HT3.out.gx.free 3
    rcases @ft q3 with e | e
    · subst e
      go_wp2_with fail
      go_meet
      case rel => exact ⟨_, HT3.out⟩
    · subst e
      go_wp2_with fail
      go_meet
      case rel => exact ⟨ga2, HT3.out.put (g' := { f2 with n := 0 }) (ga' := ga2) 3 (.int .i64 0) rfl (fun _ h => ⟨h.data, h.cid, h.spans⟩)⟩
  case rest =>
  obtain ⟨ga3, hS⟩ := hcut
  obtain ⟨f3, hf3⟩ : ∃ x, x = bn q3 f2 := ⟨_, rfl⟩
  rw [← hf3] at hS
  have HS3 := Lib.hid hS
  have HFq3 := Lib.hid hf3
  clear hS hf3
  -- bc
  obtain ⟨b4, hb4⟩ : ∃ b, b = cs.contains 99 := ⟨_, rfl⟩
  have HH4 : Hid (∀ w', Calls Try.prog 35 #[.string sl, .int .u8 99] w' (BoolOf w' b4)) := Lib.hid (fun w' => by rw [hb4]; exact HHas.out w' 99)
  have HBq4 := Lib.hid hb4
  clear hb4
  go_wp2_with fail
  refine (HH4.out _).mono ?_
  rintro e v4 ⟨rfl, hv4⟩
  have HT4 := Lib.hid (HS3.out.below hv4)
  clear hv4
  go_upto_if 33 with fail
  go_cut [] (fun wc => BS w wc xb gb rb f fa (bc b4 f3))
  case first =>
    have c0 := HT4.out.gx.cell 4 rfl
    have f0 := HT4.out.gx.free 4
    rcases @ft b4 with e | e
    · subst e
      go_wp2_with fail
      go_meet
      case rel => exact ⟨_, HT4.out⟩
    · subst e
      go_wp2_with fail
      go_meet
      case rel => exact ⟨ga3, HT4.out.put (g' := { f3 with code := 0 }) (ga' := ga3) 4 (.int .i64 0) rfl (fun _ h => ⟨h.data, h.cid, h.spans⟩)⟩
  case rest =>
  obtain ⟨ga4, hS⟩ := hcut
  obtain ⟨f4, hf4⟩ : ∃ x, x = bc b4 f3 := ⟨_, rfl⟩
  rw [← hf4] at hS
  have HS4 := Lib.hid hS
  have HFq4 := Lib.hid hf4
  clear hS hf4
  -- bf
  have x0 := HS4.out.x.cell 0 rfl
  go_upto_if 37 with fail
  go_cut [] (fun wc => BS w wc xb gb rb f fa (bf (decide (f.kind = 8)) f4))
  case first =>
    have c0 := HS4.out.gx.cell 5 rfl
    have f0 := HS4.out.gx.free 5
    by_cases hk : f.kind = 8
    · have y0 : (f.kind != 8) = false := by simp [hk]
      have y1 : (f.kind == 8) = true := by simp [hk]
      have HD : Hid (decide (f.kind = 8) = true) := Lib.hid (by simp [hk])
      clear hk
      go_wp2_with fail
      go_meet
      case rel => exact ⟨_, by rw [HD.out]; exact HS4.out⟩
    · have y0 : (f.kind != 8) = true := by simp [hk]
      have y1 : (f.kind == 8) = false := by simp [hk]
      have HD : Hid (decide (f.kind = 8) = false) := Lib.hid (by simp [hk])
      clear hk
      go_wp2_with fail
      go_meet
      case rel => exact ⟨ga4, by rw [HD.out]; exact HS4.out.put (g' := { f4 with fin := false }) (ga' := ga4) 5 (.bool false) rfl (fun _ h => ⟨h.data, h.cid, h.spans⟩)⟩
  case rest =>
  obtain ⟨ga5, hS⟩ := hcut
  obtain ⟨f5, hf5⟩ : ∃ x, x = bf (decide (f.kind = 8)) f4 := ⟨_, rfl⟩
  rw [← hf5] at hS
  have HS5 := Lib.hid hS
  have HFq5 := Lib.hid hf5
  clear hS hf5
  -- bd_
  obtain ⟨b6a, hb6a⟩ : ∃ b, b = cs.contains 100 := ⟨_, rfl⟩
  have HH6a : Hid (∀ w', Calls Try.prog 35 #[.string sl, .int .u8 100] w' (BoolOf w' b6a)) := Lib.hid (fun w' => by rw [hb6a]; exact HHas.out w' 100)
  have HBq6a := Lib.hid hb6a
  clear hb6a
  obtain ⟨b6b, hb6b⟩ : ∃ b, b = cs.contains 116 := ⟨_, rfl⟩
  have HH6b : Hid (∀ w', Calls Try.prog 35 #[.string sl, .int .u8 116] w' (BoolOf w' b6b)) := Lib.hid (fun w' => by rw [hb6b]; exact HHas.out w' 116)
  have HBq6b := Lib.hid hb6b
  clear hb6b
  obtain ⟨b6c, hb6c⟩ : ∃ b, b = cs.contains 112 := ⟨_, rfl⟩
  have HH6c : Hid (∀ w', Calls Try.prog 35 #[.string sl, .int .u8 112] w' (BoolOf w' b6c)) := Lib.hid (fun w' => by rw [hb6c]; exact HHas.out w' 112)
  have HBq6c := Lib.hid hb6c
  clear hb6c
  clear x0
  obtain ⟨q6, hq6⟩ : ∃ q, q = (b6a || (b6b || b6c)) := ⟨_, rfl⟩
  have HQ6 := Lib.hid hq6
  clear hq6
  go_upto_region 13 with fail
  go_cut [51] (fun v wc => v = .bool (!q6) ∧ BSt w wc xb gb rb f fa f5 ga5)
  case first =>
    go_wp2_with fail
    refine (HH6a.out _).mono ?_
    rintro e va ⟨rfl, hv⟩
    have HT6a := Lib.hid (HS5.out.below hv)
    clear hv
    rcases @ft b6a with e | e
    · subst e
      have HD : Hid (q6 = true) := Lib.hid (by rw [HQ6.out]; rfl)
      go_wp2_with fail
      go_meet
      case rel => exact ⟨by rw [HD.out]; rfl, HT6a.out⟩
    · subst e
      go_wp2_with fail
      refine (HH6b.out _).mono ?_
      rintro e vb ⟨rfl, hv⟩
      have HT6b := Lib.hid (HT6a.out.below hv)
      clear hv
      rcases @ft b6b with e | e
      · subst e
        have HD : Hid (q6 = true) := Lib.hid (by rw [HQ6.out]; rfl)
        go_wp2_with fail
        go_meet
        case rel => exact ⟨by rw [HD.out]; rfl, HT6b.out⟩
      · subst e
        go_wp2_with fail
        refine (HH6c.out _).mono ?_
        rintro e vc ⟨rfl, hv⟩
        have HT6c := Lib.hid (HT6b.out.below hv)
        clear hv
        rcases @ft b6c with e | e
        · subst e
          have HD : Hid (q6 = true) := Lib.hid (by rw [HQ6.out]; rfl)
          go_wp2_with fail
          go_meet
          case rel => exact ⟨by rw [HD.out]; rfl, HT6c.out⟩
        · subst e
          have HD : Hid (q6 = false) := Lib.hid (by rw [HQ6.out]; rfl)
          go_wp2_with fail
          go_meet
          case rel => exact ⟨by rw [HD.out]; rfl, HT6c.out⟩
  case rest =>
  obtain ⟨rfl, hT6⟩ := hcut
  have HT6 := Lib.hid hT6
  clear hT6
  go_upto_if 51 with fail
  go_cut [] (fun wc => BS w wc xb gb rb f fa (bd_ q6 f5))
  case first =>
    have c0 := HT6.out.gx.cell 6 rfl
    have f0 := HT6.out.gx.free 6
    rcases @ft q6 with e | e
    · subst e
      go_wp2_with fail
      go_meet
      case rel => exact ⟨_, HT6.out⟩
    · subst e
      go_wp2_with fail
      go_meet
      case rel => exact ⟨{ ga5 with da := none, dc := 0 }, HT6.out.put (g' := { f5 with data := [] }) (ga' := { ga5 with da := none, dc := 0 }) 6 (.slice none 0 0) rfl (fun _ h => ⟨⟨rfl, .inl ⟨rfl, rfl⟩⟩, h.cid, h.spans⟩)⟩
  case rest =>
  obtain ⟨ga6, hS⟩ := hcut
  obtain ⟨f6, hf6⟩ : ∃ x, x = bd_ q6 f5 := ⟨_, rfl⟩
  rw [← hf6] at hS
  have HS6 := Lib.hid hS
  have HFq6 := Lib.hid hf6
  clear hS hf6
  -- bk
  obtain ⟨b7, hb7⟩ : ∃ b, b = cs.contains 107 := ⟨_, rfl⟩
  have HH7 : Hid (∀ w', Calls Try.prog 35 #[.string sl, .int .u8 107] w' (BoolOf w' b7)) := Lib.hid (fun w' => by rw [hb7]; exact HHas.out w' 107)
  have HBq7 := Lib.hid hb7
  clear hb7
  go_wp2_with fail
  refine (HH7.out _).mono ?_
  rintro e v7 ⟨rfl, hv7⟩
  have HT7 := Lib.hid (HS6.out.below hv7)
  clear hv7
  go_upto_if 55 with fail
  go_cut [] (fun wc => BS w wc xb gb rb f fa (bk b7 f6))
  case first =>
    have c0 := HT7.out.gx.cell 7 rfl
    have f0 := HT7.out.gx.free 7
    rcases @ft b7 with e | e
    · subst e
      go_wp2_with fail
      go_meet
      case rel => exact ⟨_, HT7.out⟩
    · subst e
      go_wp2_with fail
      go_meet
      case rel => exact ⟨{ ga6 with ca := none, cc := 0 }, HT7.out.put (g' := { f6 with cid := [] }) (ga' := { ga6 with ca := none, cc := 0 }) 7 (.slice none 0 0) rfl (fun _ h => ⟨h.data, ⟨rfl, .inl ⟨rfl, rfl⟩⟩, h.spans⟩)⟩
  case rest =>
  obtain ⟨ga7, hS⟩ := hcut
  obtain ⟨f7, hf7⟩ : ∃ x, x = bk b7 f6 := ⟨_, rfl⟩
  rw [← hf7] at hS
  have HS7 := Lib.hid hS
  have HFq7 := Lib.hid hf7
  clear hS hf7
  -- bs
  obtain ⟨b8, hb8⟩ : ∃ b, b = cs.contains 115 := ⟨_, rfl⟩
  have HH8 : Hid (∀ w', Calls Try.prog 35 #[.string sl, .int .u8 115] w' (BoolOf w' b8)) := Lib.hid (fun w' => by rw [hb8]; exact HHas.out w' 115)
  have HBq8 := Lib.hid hb8
  clear hb8
  go_wp2_with fail
  refine (HH8.out _).mono ?_
  rintro e v8 ⟨rfl, hv8⟩
  have HT8 := Lib.hid (HS7.out.below hv8)
  clear hv8
  go_upto_if 59 with fail
  go_cut [] (fun wc => BS w wc xb gb rb f fa (bs b8 f7))
  case first =>
    have c0 := HT8.out.gx.cell 8 rfl
    have f0 := HT8.out.gx.free 8
    have c1 := HT8.out.gx.cell 9 rfl
    have f1 := HT8.out.gx.free 9
    rcases @ft b8 with e | e
    · subst e
      go_wp2_with fail
      go_meet
      case rel => exact ⟨_, HT8.out⟩
    · subst e
      go_wp2_with fail
      go_meet
      case rel => exact ⟨{ ga7 with sa := none, sc := 0 }, (HT8.out.put (g' := { f7 with spans := [] }) (ga' := { ga7 with sa := none, sc := 0 }) 8 (.slice none 0 0) rfl (fun _ h => ⟨h.data, h.cid, ⟨rfl, .inl ⟨rfl, rfl⟩⟩⟩)).put (g' := { f7 with spans := [], delay := 0 }) (ga' := { ga7 with sa := none, sc := 0 }) 9 (.int .i64 0) rfl (fun _ h => ⟨h.data, h.cid, h.spans⟩)⟩
  case rest =>
  obtain ⟨ga8, hS⟩ := hcut
  obtain ⟨f8, hf8⟩ : ∃ x, x = bs b8 f7 := ⟨_, rfl⟩
  rw [← hf8] at hS
  have HS8 := Lib.hid hS
  have HFq8 := Lib.hid hf8
  clear hS hf8
  -- be
  obtain ⟨b9, hb9⟩ : ∃ b, b = cs.contains 101 := ⟨_, rfl⟩
  have HH9 : Hid (∀ w', Calls Try.prog 35 #[.string sl, .int .u8 101] w' (BoolOf w' b9)) := Lib.hid (fun w' => by rw [hb9]; exact HHas.out w' 101)
  have HBq9 := Lib.hid hb9
  clear hb9
  go_wp2_with fail
  refine (HH9.out _).mono ?_
  rintro e v9 ⟨rfl, hv9⟩
  have HT9 := Lib.hid (HS8.out.below hv9)
  clear hv9
  go_upto_if 64 with fail
  go_cut [] (fun wc => BS w wc xb gb rb f fa (be b9 f8))
  case first =>
    have c0 := HT9.out.gx.cell 10 rfl
    have f0 := HT9.out.gx.free 10
    rcases @ft b9 with e | e
    · subst e
      go_wp2_with fail
      go_meet
      case rel => exact ⟨_, HT9.out⟩
    · subst e
      have hth : v9.there gb 10 3 := fun j hj => by
        have h2 := HT9.out.gx.there (n := 13) rfl (10 + j) (by omega)
        rw [Nat.zero_add] at h2
        exact h2
      have h1 : Array.all (#[.int .i64 0, .int .i64 0, .int .i64 0] : Array Value) (·.oneCell') = true := by simp [Value.oneCell']
      go_wp2_with (refine wpList_store_mid rfl 24 (.tmp 66) (.tmp 65) rfl gb 10 #[.int .i64 0, .int .i64 0, .int .i64 0] rfl rfl hth infoE3 h1 ?_)
      go_meet
      case rel => exact ⟨ga8, ((HT9.out.put (g' := { f8 with e0 := 0 }) (ga' := ga8) 10 (.int .i64 0) rfl (fun _ h => ⟨h.data, h.cid, h.spans⟩)).put (g' := { f8 with e0 := 0, e1 := 0 }) (ga' := ga8) 11 (.int .i64 0) rfl (fun _ h => ⟨h.data, h.cid, h.spans⟩)).put (g' := { f8 with e0 := 0, e1 := 0, e2 := 0 }) (ga' := ga8) 12 (.int .i64 0) rfl (fun _ h => ⟨h.data, h.cid, h.spans⟩)⟩
  case rest =>
  obtain ⟨ga9, hS⟩ := hcut
  obtain ⟨f9, hf9⟩ : ∃ x, x = be b9 f8 := ⟨_, rfl⟩
  rw [← hf9] at hS
  have HS9 := Lib.hid hS
  have HFq9 := Lib.hid hf9
  clear hS hf9
  have HE : Hid (f9 = bareF f) := Lib.hid (by
    rw [HFq9.out, HFq8.out, HFq7.out, HFq6.out, HQ6.out, HFq5.out, HFq4.out, HFq3.out, HQ3.out, HFq2.out, HFq1.out, HBq9.out, HBq8.out, HBq7.out, HBq6a.out, HBq6b.out, HBq6c.out, HBq4.out, HBq3.out, HBq2.out, HBq1.out]
    exact HSt.out)
  have g0 := HS9.out.gx.cell 0 rfl
  have g1 := HS9.out.gx.cell 1 rfl
  have g2 := HS9.out.gx.cell 2 rfl
  have g3 := HS9.out.gx.cell 3 rfl
  have g4 := HS9.out.gx.cell 4 rfl
  have g5 := HS9.out.gx.cell 5 rfl
  have g6 := HS9.out.gx.cell 6 rfl
  have g7 := HS9.out.gx.cell 7 rfl
  have g8 := HS9.out.gx.cell 8 rfl
  have g9 := HS9.out.gx.cell 9 rfl
  have g10 := HS9.out.gx.cell 10 rfl
  have g11 := HS9.out.gx.cell 11 rfl
  have g12 := HS9.out.gx.cell 12 rfl
  have hth := HS9.out.r.there rfl
  have h1 : Array.all (#[.int .i64 f9.kind, .int .i64 f9.id, .int .i64 f9.at_, .int .i64 f9.n, .int .i64 f9.code, .bool f9.fin, .slice ga9.da f9.data.length ga9.dc, .slice ga9.ca f9.cid.length ga9.cc, .slice ga9.sa f9.spans.length ga9.sc, .int .i64 f9.delay, .int .i64 f9.e0, .int .i64 f9.e1, .int .i64 f9.e2] : Array Value) (·.oneCell') = true := by simp [Value.oneCell']
  obtain ⟨w8, hw8⟩ : ∃ w8, w8 = wc.setCells rb 0 (fcells f9 ga9) := ⟨_, rfl⟩
  have HW8 := Lib.hid hw8
  clear hw8
  go_wp2_with (refine wpList_store_mid rfl 34 (.tmp 2) (.tmp 67) rfl rb 0 #[.int .i64 f9.kind, .int .i64 f9.id, .int .i64 f9.at_, .int .i64 f9.n, .int .i64 f9.code, .bool f9.fin, .slice ga9.da f9.data.length ga9.dc, .slice ga9.ca f9.cid.length ga9.cc, .slice ga9.sa f9.spans.length ga9.sc, .int .i64 f9.delay, .int .i64 f9.e0, .int .i64 f9.e1, .int .i64 f9.e2] rfl rfl hth infoFrR h1 ?_; clear hth h1; rw [show wc.setCells rb 0 (#[.int .i64 f9.kind, .int .i64 f9.id, .int .i64 f9.at_, .int .i64 f9.n, .int .i64 f9.code, .bool f9.fin, .slice ga9.da f9.data.length ga9.dc, .slice ga9.ca f9.cid.length ga9.cc, .slice ga9.sa f9.spans.length ga9.sc, .int .i64 f9.delay, .int .i64 f9.e0, .int .i64 f9.e1, .int .i64 f9.e2] : Array Value).toList = w8 from HW8.out.symm])
  go_wp2
  have hX8 : Has w8 rb 34 (fcells f9 ga9) := by rw [HW8.out]; exact HS9.out.r.store rfl
  refine bodyPost_ret (results_frR rfl _ rfl hX8 rfl) rfl ?_
  have hks := Kept.sets rb (fcells f9 ga9) 0 wc
  rw [← HW8.out] at hks
  refine ⟨ga9, by rw [HE.out], ?_, HS9.out.bel.trans (hks.below HS9.out.bel.size (fun k e => by rw [e]; exact HRl.out))⟩
  rw [← HE.out]
  exact HS9.out.own.kept hks (HS9.out.own.nty HS9.out.r (by decide) (by decide))
end Go.Proofs.Ytppkilkfmclpkaa

namespace Go.Proofs.Ytppkilkfmclpkaa
open Go.RowKit Go.ChangeShapes Go.WideShapes

/-- frames in a row that came in -/
structure FsAt (W : World) (a : Option Addr) (n c : Nat) (L : List (Fm × FA)) : Prop where
  len : L.length = n
  small : n ≤ 1048576
  cap : n ≤ c
  max : c ≤ maxLen
  cells : 0 < n → ∃ b off, a = some ⟨b, off, none⟩ ∧ ∀ i (h : i < L.length), ∀ j, j < 13 → W.cell? ⟨b, off + i * 13 + j, none⟩ = (fcells L[i].1 L[i].2)[j]?
  inn : ∀ p ∈ L, FIn W p.1 p.2 ∧ FSz p.1
theorem bulk_innerF {H : Type} {els sp parts e2 s2 : List (DataW H)} {i : Nat} (h1 : els[i]? = some (.agg parts)) (h2 : DataW.slice e2 s2 ∈ parts) : e2.length ≤ Rows.uptoBulk (DataW.slice els sp) := by
  have a1 := bulk_part (List.mem_of_getElem? h1)
  have a2 := bulk_part h2
  have a3 := bulk_slice (elems := e2) (spare := s2)
  simp only [Rows.uptoBulk] at a1 a3 ⊢
  have : Rows.uptoBulk (DataW.slice e2 s2) ≤ Rows.uptoBulkAll parts := a2
  simp only [Rows.uptoBulk] at this
  omega
set_option maxRecDepth 100000 in
theorem open_frames {H : Type} {enc : TypeId × Value → H} {W : World} {v : Value} {d : DataW H} {ps : List MemPlace} {base : Nat} {ds : List (DataW H)}
    (hv : Value.okWide Try.prog W .any base 42 v) (h : DataW.Trod enc Try.prog W 0 (fun _ => true) true 42 v d ps) (hk : Rows.uptoSmall H ds = true) (hd : d ∈ ds) :
    ∃ (a : Option Addr) (n c : Nat) (L : List (Fm × FA)), v = .slice a n c ∧ FsAt W a n c L := by
  obtain ⟨a, n, c, rfl⟩ := okWide_slice Try.underlying42 hv
  obtain ⟨fuel, hf⟩ := h
  have hb := bulk_bound hk
  have hdb := bulk_part hd
  rcases DataW.trod_slice Try.underlying42 hf with ⟨h0, hx⟩ | ⟨x', len, cap, elems, rest, m, _, hcs, hx, _, hl, hm, hlen, hel, _⟩
  · simp [Value.cells] at h0
    obtain ⟨rfl, rfl, rfl⟩ := h0
    exact ⟨none, 0, 0, [], rfl, ⟨rfl, Nat.zero_le _, Nat.le_refl _, Nat.zero_le _, fun h => absurd h (Nat.lt_irrefl _), fun p hp => by cases hp⟩⟩
  · simp [Value.cells] at hcs
    obtain ⟨rfl, rfl, rfl⟩ := hcs
    have hC : Try.prog.cellsOf 26 = 13 := by kernel_rfl
    have hdx : d = .slice (elems.map (·.1)) (rest.map (·.1)) := by
      simp only [Prod.mk.injEq] at hx
      exact hx.1
    have hn6 : n ≤ 1048576 := by
      have h1 := bulk_slice (elems := elems.map (·.1)) (spare := rest.map (·.1))
      rw [← hdx] at h1
      simp only [List.length_map] at h1
      omega
    by_cases hn : 0 < n
    · obtain ⟨b, off, spot⟩ := x'
      have each : ∀ i, i < n → ∃ (p : Fm × FA), (∀ j, j < 13 → W.cell? (((⟨b, off, spot⟩ : Addr).add (i * 13)).add j) = (fcells p.1 p.2)[j]?) ∧ FIn W p.1 p.2 ∧ FSz p.1 := by
        intro i hi
        have h1 := hel i hi
        have hy : elems[i]? = some (elems[i]'(by omega)) := List.getElem?_eq_getElem (by omega)
        rw [hy, Option.bind_eq_some_iff] at h1
        obtain ⟨cs', hc', hy'⟩ := h1
        obtain ⟨_, hl', hcell⟩ := World.cells?_some hc'
        rw [hC] at hl' hcell
        obtain ⟨f, fa, xs, d6, d7, d8, hcs2, hin, hfi, hxa, h6, h7, h8, z6, z7, z8⟩ := open_fr hy'
        subst hcs2
        have hei : (elems.map (·.1))[i]? = some (DataW.agg xs) := by rw [List.getElem?_map, hy]; exact congrArg some hxa
        have bnd : ∀ {y : DataW H} {k : Nat}, xs[k]? = some y → ∀ {q : Nat}, (q = 0 ∨ ∃ el sp, y = .slice el sp ∧ el.length = q) → q ≤ 1048576 := fun {y k} hyk {q} hq => by
          rcases hq with rfl | ⟨el, sp, rfl, rfl⟩
          · omega
          · have h2 := bulk_innerF (sp := rest.map (·.1)) hei (List.mem_of_getElem? hyk)
            rw [← hdx] at h2
            omega
        refine ⟨(f, fa), fun j hj => ?_, hin, ⟨?_, ?_, ?_⟩⟩
        · exact hcell j hj
        · have h9 := bnd h6 z6; show f.data.length ≤ _; omega
        · have h9 := bnd h7 z7; show f.cid.length ≤ _; omega
        · have h9 := bnd h8 z8; show f.spans.length * 16 ≤ _; omega
      have hspot : spot = none := by
        obtain ⟨p, h0, _⟩ := each 0 hn
        have h1 := h0 0 (by decide)
        have h2 : W.cell? (((⟨b, off, spot⟩ : Addr).add (0 * 13)).add 0) = some (.int .i64 p.1.kind) := h1
        simpa [Addr.add] using World.cell?_spot h2
      subst hspot
      obtain ⟨l, hll, hlq⟩ := list_of n (fun i (p : Fm × FA) => (∀ j, j < 13 → W.cell? ⟨b, off + i * 13 + j, none⟩ = (fcells p.1 p.2)[j]?) ∧ FIn W p.1 p.2 ∧ FSz p.1) (fun i hi => by
        obtain ⟨p, h1, h2⟩ := each i hi
        refine ⟨p, fun j hj => ?_, h2⟩
        have h3 := h1 j hj
        rw [addr_add', addr_add'] at h3
        exact h3)
      refine ⟨_, _, _, l, rfl, ⟨hll, hn6, hl, hm, fun _ => ⟨b, off, rfl, fun i hi => (hlq i hi).1⟩, fun p hp => ?_⟩⟩
      obtain ⟨i, hi, rfl⟩ := List.getElem_of_mem hp
      exact (hlq i hi).2
    · obtain rfl : n = 0 := by omega
      exact ⟨_, _, _, [], rfl, ⟨rfl, hn6, hl, hm, fun h => absurd h hn, fun p hp => by cases hp⟩⟩
end Go.Proofs.Ytppkilkfmclpkaa

namespace Go.Proofs.Ytppkilkfmclpkaa
open Go.RowKit

theorem fown_lowB {w : World} {B : Nat} {f : Fm} {a : FA} (h : FOwn w B f a) : FLow w.heap.size a := fun k hk => by
  rcases hk with hk | hk | hk
  · exact (ownsRow_ge h.data k hk).2
  · exact (ownsRow_ge h.cid k hk).2
  · exact (ownsRow_ge h.spans k hk).2
/-- the right frames among the first i -/
def gd (fs : List Fm) (i : Nat) : List Fm := (fs.take i).filter (fun f => decide (chkF f = 0))
theorem gd_ok {fs : List Fm} {i : Nat} (hi : i < fs.length) (h : chkF fs[i] = 0) : gd fs (i + 1) = gd fs i ++ [fs[i]] := by
  unfold gd
  rw [List.take_succ_eq_append_getElem hi, List.filter_append]
  simp [h]
theorem gd_bad {fs : List Fm} {i : Nat} (hi : i < fs.length) (h : ¬ chkF fs[i] = 0) : gd fs (i + 1) = gd fs i := by
  unfold gd
  rw [List.take_succ_eq_append_getElem hi, List.filter_append]
  simp [h]
theorem gd_chk (fs : List Fm) (i : Nat) : ∀ f ∈ gd fs i, chkF f = 0 := fun f hf => by
  have := (List.mem_filter.1 hf).2
  simpa using this
/-- the frames that are kept: told, not too many, no padding too long -/
structure Wt (fs : List Fm) (i : Nat) (b : List UInt8) (l : List Fm) : Prop where
  eqb : b = (gd fs i).flatMap encB
  eql : l = (gd fs i).foldl stepB []
  bl : b.length ≤ i * 100000
  ll : l.length ≤ i
  pad : ∀ p ∈ l, p.kind = 0 → 0 ≤ p.n ∧ p.n ≤ (i : Int) * 16384
theorem wt1 {x i : Nat} (h : x ≤ i * 100000) : x ≤ (i + 1) * 100000 := Nat.le_trans h (Nat.mul_le_mul_right _ (Nat.le_succ i))
theorem wt2 {x y i : Nat} (h : x ≤ i * 100000) (h2 : y ≤ 100000) : x + y ≤ (i + 1) * 100000 := by rw [Nat.succ_mul]; exact Nat.add_le_add h h2
theorem wt3 {x : Int} {i : Nat} (h : 0 ≤ x ∧ x ≤ (i : Int) * 16384) : 0 ≤ x ∧ x ≤ ((i + 1 : Nat) : Int) * 16384 := by push_cast; omega
theorem wt4 {x : Int} {i : Nat} (h : 1 ≤ x ∧ x ≤ 16384) : 0 ≤ x ∧ x ≤ ((i + 1 : Nat) : Int) * 16384 := by push_cast; omega
theorem wt5 {x y : Int} {i : Nat} (h : 0 ≤ x ∧ x ≤ (i : Int) * 16384) (h2 : 1 ≤ y ∧ y ≤ 16384) : 0 ≤ x + y ∧ x + y ≤ ((i + 1 : Nat) : Int) * 16384 := by push_cast; omega
theorem Wt.zero (fs : List Fm) : Wt fs 0 [] [] := ⟨by simp [gd], by simp [gd], Nat.zero_le _, Nat.zero_le _, fun p hp => by cases hp⟩
theorem Wt.skip {fs : List Fm} {i : Nat} {b : List UInt8} {l : List Fm} (h : Wt fs i b l) (hi : i < fs.length) (hc : ¬ chkF fs[i] = 0) : Wt fs (i + 1) b l :=
  ⟨by rw [gd_bad hi hc]; exact h.eqb, by rw [gd_bad hi hc]; exact h.eql, wt1 h.bl, Nat.le_succ_of_le h.ll, fun p hp h0 => wt3 (h.pad p hp h0)⟩
theorem Wt.new {fs : List Fm} {i : Nat} {b : List UInt8} {l : List Fm} (h : Wt fs i b l) (hi : i < fs.length) (hc : chkF fs[i] = 0) (hn : stepB l fs[i] = l ++ [bareF fs[i]]) : Wt fs (i + 1) (b ++ encB fs[i]) (l ++ [bareF fs[i]]) := by
  refine ⟨?_, ?_, ?_, ?_, fun p hp h0 => ?_⟩
  · rw [gd_ok hi hc, h.eqb]; simp
  · rw [gd_ok hi hc, List.foldl_append, ← h.eql]; exact hn.symm
  · rw [List.length_append]; exact wt2 h.bl (encB_len hc)
  · rw [List.length_append, List.length_singleton]; exact Nat.succ_le_succ h.ll
  · rcases List.mem_append.1 hp with hp | hp
    · exact wt3 (h.pad p hp h0)
    · rw [List.mem_singleton.1 hp] at h0 ⊢
      have hb := bare_kind fs[i] (chk0 hc).1
      rw [hb] at h0
      have h2 := chk_pad hc h0
      rw [bare_pad h0]
      exact wt4 h2
theorem Wt.old {fs : List Fm} {i : Nat} {b : List UInt8} {l : List Fm} {p : Fm} (h : Wt fs i b (l ++ [p])) (hi : i < fs.length) (hc : chkF fs[i] = 0) (hk : fs[i].kind = 0) (hp : p.kind = 0) : Wt fs (i + 1) (b ++ encB fs[i]) (l ++ [{ p with n := p.n + fs[i].n }]) := by
  refine ⟨?_, ?_, ?_, ?_, fun q hq h0 => ?_⟩
  · rw [gd_ok hi hc, h.eqb]; simp
  · rw [gd_ok hi hc, List.foldl_append, ← h.eql]; exact (stepB_old hk hp).symm
  · rw [List.length_append]; exact wt2 h.bl (encB_len hc)
  · have h3 := h.ll
    rw [List.length_append, List.length_singleton] at h3 ⊢
    exact Nat.le_succ_of_le h3
  · rcases List.mem_append.1 hq with hq | hq
    · exact wt3 (h.pad q (List.mem_append_left _ hq) h0)
    · rw [List.mem_singleton.1 hq]
      have h1 := h.pad p (List.mem_append_right _ (List.mem_singleton.2 rfl)) hp
      have h2 := chk_pad hc hk
      exact wt5 h1 h2
/-- the two rows that grow, apart -/
structure Rw (w wr : World) (ba : Option Addr) (bc : Nat) (b : List UInt8) (wa : Option Addr) (wc : Nat) (L : List (Fm × FA)) : Prop where
  own : wr.ownsRow w.heap.size 5 1 (.slice ba b.length bc) b.length (bv b)
  row : FRow 34 wr w.heap.size wa wc L
  apart : ∀ p ∈ L, ∀ k, (blk p.2.da k ∨ blk p.2.ca k ∨ blk p.2.sa k) → ¬ blk ba k
  bel : Below w.heap.size w wr
theorem Rw.below {w wr v : World} {ba : Option Addr} {bc : Nat} {b : List UInt8} {wa : Option Addr} {wc : Nat} {L : List (Fm × FA)} (h : Rw w wr ba bc b wa wc L) (hb : Below wr.heap.size wr v) : Rw w v ba bc b wa wc L :=
  ⟨own_below h.own hb, h.row.below hb, h.apart, h.bel.trans (hb.mono h.bel.size)⟩
theorem Rw.app {w wr : World} {ba : Option Addr} {bc : Nat} {b : List UInt8} {wa : Option Addr} {wc : Nat} {L : List (Fm × FA)} (h : Rw w wr ba bc b wa wc L) (tyo : TypeId) {a2 : Option Addr} {n2 c2 : Nat} {p : List UInt8} (h2 : Sl wr a2 n2 c2 (bv p)) (hs : b.length + n2 ≤ 140737488355328) :
    ∃ ba' bc' v, (Builtin.append_ #[22, 22] tyo #[.slice ba b.length bc, .slice a2 n2 c2]).run Try.prog wr = .ok (.slice ba' (b.length + n2) bc') v ∧ Rw w v ba' bc' (b ++ p) wa wc L ∧ Kept (fun k => blk ba k) wr v := by
  obtain ⟨ba', bc', v, hr, ho, hg, hno⟩ := run_app_own (tyo := tyo) tyU8 h.own h2 (bv_one _) (by omega) (by unfold maxLen; omega) h.bel.size
  have hk := Kept.of_grown hg
  have hlen : (b ++ p).length = b.length + n2 := by rw [List.length_append, h2.byte]
  have hk2 : Kept (fun k => blk ba k) wr v := hk.more (fun k _ e => blk_own e)
  refine ⟨ba', bc', v, hr, ⟨by rw [hlen, bv_append]; exact ho, ⟨own_kept h.row.row hk (fun k e1 e2 => own_own h.row.row h.own (by decide) k e1 e2), fun q hq => (h.row.own q hq).kept hk2 (fun k e => h.apart q hq k e)⟩, fun q hq k e hb => ?_, h.bel.trans (hk2.below h.bel.size (fun k e => (ownsRow_ge h.own k e).1))⟩, hk2⟩
  rcases hno k (own_blk hb) with h1 | h1
  · exact h.apart q hq k e (blk_own h1)
  · have h3 : k < wr.heap.size := by
      rcases e with e | e | e
      · exact (ownsRow_ge (h.row.own q hq).data k e).2
      · exact (ownsRow_ge (h.row.own q hq).cid k e).2
      · exact (ownsRow_ge (h.row.own q hq).spans k e).2
    omega
/-- a frame behind the others -/
theorem Rw.push {w wr : World} {ba : Option Addr} {bc : Nat} {b : List UInt8} {wa : Option Addr} {wc : Nat} {L : List (Fm × FA)} (h : Rw w wr ba bc b wa wc L) (tyo : TypeId) {x : Nat} {p : Fm × FA} (hrow : wr.heap[x]? = some (.cells (fcells p.1 p.2).toArray 34 (0, 0))) (hp : FOwn wr w.heap.size p.1 p.2) (hap : ∀ k, (blk p.2.da k ∨ blk p.2.ca k ∨ blk p.2.sa k) → ¬ blk ba k) (hl : L.length ≤ 100000000) :
    ∃ wa' wc' v, (Builtin.append_ #[45, 45] tyo #[.slice wa L.length wc, .slice (some ⟨x, 0, none⟩) 1 1]).run Try.prog wr = .ok (.slice wa' (L.length + 1) wc') v ∧ Rw w v ba bc b wa' wc' (L ++ [p]) := by
  obtain ⟨wa', wc', v, hr, hf, hg, _⟩ := run_app_fr ftyR (by decide) (by decide) (tyo := tyo) (b := x) h.row hrow hp hl h.bel.size
  have hk := Kept.of_grown hg
  refine ⟨wa', wc', v, hr, ⟨own_kept h.own hk (fun k e1 e2 => own_own h.own h.row.row (by decide) k e1 e2), hf, fun q hq k e => ?_, h.bel.trans (hk.below h.bel.size (fun k e => (ownsRow_ge h.row.row k (blk_own e)).1))⟩⟩
  rcases List.mem_append.1 hq with hq | hq
  · exact h.apart q hq k e
  · rw [List.mem_singleton.1 hq] at e; exact hap k e
/-- the last padding is longer -/
theorem Rw.last {w wr : World} {ba : Option Addr} {bc : Nat} {b : List UInt8} {s wc : Nat} {L : List (Fm × FA)} {p : Fm × FA} (h : Rw w wr ba bc b (some ⟨s, 0, none⟩) wc (L ++ [p])) (x : Int) :
    Rw w (wr.setCell ⟨s, L.length * 13 + 3, none⟩ (.int .i64 x)) ba bc b (some ⟨s, 0, none⟩) wc (L ++ [({ p.1 with n := x }, p.2)]) := by
  have hk := Kept.set wr s (L.length * 13 + 3) (.int .i64 x)
  refine ⟨own_rows h.own h.row.row (by decide) _ _, h.row.last x (by decide) (by decide), fun q hq k e => ?_, h.bel.trans (hk.below h.bel.size (fun k e => by rw [e]; exact (ownsRow_ge h.row.row s ⟨_, rfl, rfl⟩).1))⟩
  rcases List.mem_append.1 hq with hq | hq
  · exact h.apart q (List.mem_append_left _ hq) k e
  · rw [List.mem_singleton.1 hq] at e
    exact h.apart p (List.mem_append_right _ (List.mem_singleton.2 rfl)) k e
def BRel (w : World) (fs : List Fm) (bv_ wv v : Value) (wr : World) : Prop :=
  ∃ (i : Nat) (ba : Option Addr) (bc : Nat) (b : List UInt8) (wa : Option Addr) (wc : Nat) (L : List (Fm × FA)), v = .int .i64 (i : Int) ∧ bv_ = .slice ba b.length bc ∧ wv = .slice wa L.length wc ∧ i ≤ fs.length ∧ Wt fs i b (L.map (·.1)) ∧ Rw w wr ba bc b wa wc L
theorem fbk1 {k n : Nat} (h : k < n) (hn : n ≤ 1048576) : (k : Int) < (n : Int) ∧ IntKind.i64.wrap ((k : Int) + 1) = ((k + 1 : Nat) : Int) ∧ RowKit.wrap64 ((k : Int) + 1) = ((k + 1 : Nat) : Int) := by
  rw [IntKind.wrap_i64]; unfold RowKit.wrap64; omega
theorem fbk2 {b i n : Nat} (h : b ≤ i * 100000) (hi : i ≤ 1048576) (hn : n ≤ 100000) : b + n ≤ 140737488355328 := by omega
theorem fbk3 {l i : Nat} (h : l ≤ i) (hi : i ≤ 1048576) : l ≤ 100000000 := by omega
theorem fbk4 {x y : Int} {i : Nat} (h : 0 ≤ x ∧ x ≤ (i : Int) * 16384) (hi : i ≤ 1048576) (hy : 1 ≤ y ∧ y ≤ 16384) : IntKind.i64.wrap (x + y) = x + y ∧ RowKit.wrap64 (x + y) = x + y := by
  rw [IntKind.wrap_i64]; unfold RowKit.wrap64; omega
theorem fbk5 {n m : Nat} (h : n = m + 1) (hn : n ≤ 1048576) : (0 : Int) < (n : Int) ∧ IntKind.i64.wrap ((n : Int) - 1) = (m : Int) ∧ RowKit.wrap64 ((n : Int) - 1) = (m : Int) ∧ (m : Int) < (n : Int) ∧ m < n := by
  rw [IntKind.wrap_i64]; unfold RowKit.wrap64; omega
theorem fbk6 {n : Nat} (h : n = 0) : ¬ (0 : Int) < (n : Int) := by omega
theorem fbk7 {b i : Nat} (h : b ≤ i * 100000) (hi : i ≤ 1048576) : b ≤ 140737488351232 := by omega
theorem fbk8 {n : Nat} (h : ¬ n = 0) : ((n : Int) == 0) = false := by simp; omega
theorem fbk9 {n : Nat} (h : ¬ 16384 < n) : ¬ (16384 : Int) < (n : Int) := by omega
theorem brel_drew {w wr : World} {fs : List Fm} {x y z : Value} (h : BRel w fs x y z wr) : BRel w fs x y z wr.drew := by
  obtain ⟨i, ba, bc, b, wa, wc, L, h1, h2, h3, h4, h5, h6⟩ := h
  exact ⟨i, ba, bc, b, wa, wc, L, h1, h2, h3, h4, h5, h6.below (below_drewN (Below.refl _ _) 1)⟩
theorem lenz {L : List (Fm × FA)} (h : L.map (·.1) = []) : L.length = 0 := by
  have := congrArg List.length h
  simpa using this
theorem decV_bad {b : List UInt8} (h : b.length = 0 ∨ 16384 < b.length) : ∃ x : Int, x ≠ 0 ∧ decV b = ([], 0, x) := by
  unfold decV
  by_cases h1 : 16384 < b.length
  · rw [if_pos h1]; exact ⟨52, by decide, rfl⟩
  · rw [if_neg h1, if_pos (by omega)]; exact ⟨12, by decide, rfl⟩
set_option maxRecDepth 100000 in
set_option maxHeartbeats 4000000 in
/-- FrameBack -/
theorem back5_any (w : World) (a : Option Addr) (n c : Nat) (L0 : List (Fm × FA)) (h : FsAt w a n c L0) : Calls Try.prog 5 #[.slice a n c] w (BoolOf w true) := by
  obtain ⟨fs, hfs⟩ : ∃ fs, fs = L0.map (·.1) := ⟨_, rfl⟩
  have HFs := Lib.hid hfs
  have HLn : Hid (fs.length = n) := Lib.hid (by rw [hfs, List.length_map]; exact h.len)
  have HSm := Lib.hid h.small
  have HIn := Lib.hid h.inn
  have HLl := Lib.hid h.len
  have HCl := Lib.hid h.cells
  have hcp := h.cap
  have HCp := Lib.hid hcp
  have HAw := Lib.hid (fun w' => awake5_any w')
  clear h hfs hcp
  go_enter Try.func5, Try.ntmps5
  go_wp2_with fail
  go_loopw [3, 4, 15] (fun bv_ wv v wr => BRel w fs bv_ wv v wr) (fun _ _ v _ => n - (intOf v).toNat)
  case atStart => exact ⟨0, none, 0, [], none, 0, [], rfl, rfl, rfl, Nat.zero_le _, Wt.zero fs, ⟨World.ownsRow_nil _ _ _ _, FRow.nil _ _ _, (fun p hp => by cases hp), Below.refl _ _⟩⟩
  case round =>
    obtain ⟨i, ba, bc, b, wa, wc, L, rfl, rfl, rfl, hi, hwt, hrw⟩ := hrel
    have HWt := Lib.hid hwt
    have HRw := Lib.hid hrw
    obtain ⟨bl, hbl⟩ : ∃ bl, bl = b.length := ⟨_, rfl⟩
    obtain ⟨ln, hln⟩ : ∃ ln, ln = L.length := ⟨_, rfl⟩
    rw [← hbl, ← hln]
    have HBl := Lib.hid hbl
    have HLg := Lib.hid hln
    clear hwt hrw hbl hln
    by_cases hin : i < n
    · have HI := Lib.hid hin
      obtain ⟨z1, z2, z3⟩ := fbk1 hin HSm.out
      obtain ⟨xb0, off, rfl, hcl⟩ := HCl.out (Nat.lt_of_le_of_lt (Nat.zero_le _) hin)
      have hi0 : i < L0.length := by rw [HLl.out]; exact hin
      have hif : i < fs.length := by rw [HLn.out]; exact hin
      have hci := hcl i hi0
      have hfe : L0[i].1 = fs[i] := by simp only [HFs.out, List.getElem_map]
      obtain ⟨hii, hsz⟩ := HIn.out _ (List.getElem_mem hi0)
      obtain ⟨p, hp⟩ : ∃ p, p = L0[i] := ⟨_, rfl⟩
      rw [← hp] at hci hfe hii hsz
      obtain ⟨f, fa⟩ := p
      simp only at hci hfe hii hsz
      have HFe := Lib.hid hfe
      have HIf := Lib.hid hif
      have HWk : Hid (i ≤ 1048576) := Lib.hid (Nat.le_trans (Nat.le_of_lt hin) HSm.out)
      have hic : (n : Int) ≤ (c : Int) := Int.ofNat_le.2 HCp.out
      have k0 : wr.cell? ⟨xb0, off + i * 13, none⟩ = some (.int .i64 f.kind) := by have h1 := hci 0 (by decide); have h1 : w.cell? ⟨xb0, off + i * 13, none⟩ = some (.int .i64 f.kind) := h1; rw [HRw.out.bel.cell (World.block_lt_of_cell? w _ h1)]; exact h1
      have k1 : wr.cell? ⟨xb0, off + i * 13 + 1, none⟩ = some (.int .i64 f.id) := by have h1 := hci 1 (by decide); have h1 : w.cell? ⟨xb0, off + i * 13 + 1, none⟩ = some (.int .i64 f.id) := h1; rw [HRw.out.bel.cell (World.block_lt_of_cell? w _ h1)]; exact h1
      have k2 : wr.cell? ⟨xb0, off + i * 13 + 2, none⟩ = some (.int .i64 f.at_) := by have h1 := hci 2 (by decide); have h1 : w.cell? ⟨xb0, off + i * 13 + 2, none⟩ = some (.int .i64 f.at_) := h1; rw [HRw.out.bel.cell (World.block_lt_of_cell? w _ h1)]; exact h1
      have k3 : wr.cell? ⟨xb0, off + i * 13 + 3, none⟩ = some (.int .i64 f.n) := by have h1 := hci 3 (by decide); have h1 : w.cell? ⟨xb0, off + i * 13 + 3, none⟩ = some (.int .i64 f.n) := h1; rw [HRw.out.bel.cell (World.block_lt_of_cell? w _ h1)]; exact h1
      have k4 : wr.cell? ⟨xb0, off + i * 13 + 4, none⟩ = some (.int .i64 f.code) := by have h1 := hci 4 (by decide); have h1 : w.cell? ⟨xb0, off + i * 13 + 4, none⟩ = some (.int .i64 f.code) := h1; rw [HRw.out.bel.cell (World.block_lt_of_cell? w _ h1)]; exact h1
      have k5 : wr.cell? ⟨xb0, off + i * 13 + 5, none⟩ = some (.bool f.fin) := by have h1 := hci 5 (by decide); have h1 : w.cell? ⟨xb0, off + i * 13 + 5, none⟩ = some (.bool f.fin) := h1; rw [HRw.out.bel.cell (World.block_lt_of_cell? w _ h1)]; exact h1
      have k6 : wr.cell? ⟨xb0, off + i * 13 + 6, none⟩ = some (.slice fa.da f.data.length fa.dc) := by have h1 := hci 6 (by decide); have h1 : w.cell? ⟨xb0, off + i * 13 + 6, none⟩ = some (.slice fa.da f.data.length fa.dc) := h1; rw [HRw.out.bel.cell (World.block_lt_of_cell? w _ h1)]; exact h1
      have k7 : wr.cell? ⟨xb0, off + i * 13 + 7, none⟩ = some (.slice fa.ca f.cid.length fa.cc) := by have h1 := hci 7 (by decide); have h1 : w.cell? ⟨xb0, off + i * 13 + 7, none⟩ = some (.slice fa.ca f.cid.length fa.cc) := h1; rw [HRw.out.bel.cell (World.block_lt_of_cell? w _ h1)]; exact h1
      have k8 : wr.cell? ⟨xb0, off + i * 13 + 8, none⟩ = some (.slice fa.sa f.spans.length fa.sc) := by have h1 := hci 8 (by decide); have h1 : w.cell? ⟨xb0, off + i * 13 + 8, none⟩ = some (.slice fa.sa f.spans.length fa.sc) := h1; rw [HRw.out.bel.cell (World.block_lt_of_cell? w _ h1)]; exact h1
      have k9 : wr.cell? ⟨xb0, off + i * 13 + 9, none⟩ = some (.int .i64 f.delay) := by have h1 := hci 9 (by decide); have h1 : w.cell? ⟨xb0, off + i * 13 + 9, none⟩ = some (.int .i64 f.delay) := h1; rw [HRw.out.bel.cell (World.block_lt_of_cell? w _ h1)]; exact h1
      have k10 : wr.cell? ⟨xb0, off + i * 13 + 10, none⟩ = some (.int .i64 f.e0) := by have h1 := hci 10 (by decide); have h1 : w.cell? ⟨xb0, off + i * 13 + 10, none⟩ = some (.int .i64 f.e0) := h1; rw [HRw.out.bel.cell (World.block_lt_of_cell? w _ h1)]; exact h1
      have k11 : wr.cell? ⟨xb0, off + i * 13 + 11, none⟩ = some (.int .i64 f.e1) := by have h1 := hci 11 (by decide); have h1 : w.cell? ⟨xb0, off + i * 13 + 11, none⟩ = some (.int .i64 f.e1) := h1; rw [HRw.out.bel.cell (World.block_lt_of_cell? w _ h1)]; exact h1
      have k12 : wr.cell? ⟨xb0, off + i * 13 + 12, none⟩ = some (.int .i64 f.e2) := by have h1 := hci 12 (by decide); have h1 : w.cell? ⟨xb0, off + i * 13 + 12, none⟩ = some (.int .i64 f.e2) := h1; rw [HRw.out.bel.cell (World.block_lt_of_cell? w _ h1)]; exact h1
      obtain ⟨wv, hwv⟩ : ∃ wv, wv = wr.alloc (.cells #[.int .i64 f.kind, .int .i64 f.id, .int .i64 f.at_, .int .i64 f.n, .int .i64 f.code, .bool f.fin, .slice fa.da f.data.length fa.dc, .slice fa.ca f.cid.length fa.cc, .slice fa.sa f.spans.length fa.sc, .int .i64 f.delay, .int .i64 f.e0, .int .i64 f.e1, .int .i64 f.e2] 26) := ⟨_, rfl⟩
      obtain ⟨xb, hxb⟩ : ∃ xb, xb = wr.heap.size := ⟨_, rfl⟩
      have hal : Below wr.heap.size wr wv := by rw [hwv]; exact alB wr _
      have HX := Lib.hid (show Has wv xb 26 (fcells f fa) by rw [hwv, hxb]; exact Has.new _ _ _)
      have HRv := Lib.hid (HRw.out.below hal)
      have HFv := Lib.hid (hii.below (HRw.out.below hal).bel)
      have HSz := Lib.hid hsz
      have HI0 := Lib.hid hii
      have HCo := Lib.hid (copied_any wv (hii.below (HRw.out.below hal).bel) hsz)
      clear hcl hi0 hci hfe hii hsz hp hal hin hi
      go_upto_region 6 with fail
      rw [← hwv, ← hxb]
      clear hwv hxb k0 k1 k2 k3 k4 k5 k6 k7 k8 k9 k10 k11 k12
      have g0 := HX.out.cell 0 rfl
      have g1 := HX.out.cell 1 rfl
      have g2 := HX.out.cell 2 rfl
      have g3 := HX.out.cell 3 rfl
      have g4 := HX.out.cell 4 rfl
      have g5 := HX.out.cell 5 rfl
      have g6 := HX.out.cell 6 rfl
      have g7 := HX.out.cell 7 rfl
      have g8 := HX.out.cell 8 rfl
      have g9 := HX.out.cell 9 rfl
      have g10 := HX.out.cell 10 rfl
      have g11 := HX.out.cell 11 rfl
      have g12 := HX.out.cell 12 rfl
      go_wp2_with fail
      refine HCo.out.mono ?_
      rintro e v1 ⟨fb, rfl, hfb, hb1⟩
      have HX1 := Lib.hid (HX.out.kept (X := none') (Kept.of_below hb1) (fun h => h))
      have HR1 := Lib.hid (HRv.out.below hb1)
      have HF1 := Lib.hid (HFv.out.below hb1)
      have HEn := Lib.hid (encode_any v1 hfb.fin (fown_lowB hfb))
      clear hfb hb1 g0 g1 g2 g3 g4 g5 g6 g7 g8 g9 g10 g11 g12
      by_cases hc0 : ¬ chkF f = 0
      · rw [show encF f = ([], chkF f) by unfold encF; rw [if_neg hc0]] at HEn
        obtain ⟨ck, hck⟩ : ∃ ck, ck = chkF f := ⟨_, rfl⟩
        rw [← hck] at HEn
        have y1 := onj11 (show ¬ ck = 0 by rw [hck]; exact hc0)
        have HWt2 := Lib.hid (HWt.out.skip HIf.out (by rw [← HFe.out]; exact hc0))
        clear hc0 hck
        go_wp2_with fail
        refine HEn.out.mono ?_
        rintro e v2 ⟨pa, pc, he, hpo, hb2⟩
        obtain rfl : e = .returned (.tuple #[.slice pa 0 pc, .int .i64 ck]) := he
        have HR2 := Lib.hid (HR1.out.below hb2)
        clear hpo hb2
        go_wp2_with fail
        go_roundw
        case rel => exact ⟨i + 1, ba, bc, b, wa, wc, L, by first | rfl | (push_cast; rfl), by rw [HBl.out], by rw [HLg.out], HIf.out, HWt2.out, HR2.out⟩
        case measure => exact ssj3 HI.out
      have hc1 : chkF f = 0 := Decidable.not_not.1 hc0
      have HC1 := Lib.hid hc1
      rw [show encF f = (encB f, 0) by unfold encF; rw [if_pos hc1]] at HEn
      obtain ⟨eb, heb⟩ : ∃ eb, eb = encB f := ⟨_, rfl⟩
      rw [← heb] at HEn
      have HEb := Lib.hid heb
      have HEl : Hid (eb.length ≤ 100000) := Lib.hid (by rw [heb]; exact encB_len hc1)
      clear hc0 hc1 heb
      go_wp2_with fail
      refine HEn.out.mono ?_
      rintro e v2 ⟨pa, pc, he, hpo, hb2⟩
      obtain ⟨pn, hpn⟩ : ∃ pn, pn = eb.length := ⟨_, rfl⟩
      obtain rfl : e = .returned (.tuple #[.slice pa pn pc, .int .i64 0]) := by rw [he, hpn]
      have hR2 := HR1.out.below hb2
      obtain ⟨ba2, bc2, v3, hr3, hR3, hk3⟩ := hR2.app 22 (own_sl hpo) (fbk2 HWt.out.bl HWk.out HEl.out)
      rw [← hpn, ← HBl.out] at hr3
      have hX2 := HX1.out.kept (X := none') (Kept.of_below hb2) (fun h => h)
      have HX3 := Lib.hid (hX2.kept hk3 (fun e => by
        obtain ⟨ad, h1, h2⟩ := e
        exact own_nty hR2.own hX2 (by decide) xb (by rw [h1]; simp only [Value.ownBlock, h2]) rfl))
      have HR3 := Lib.hid hR3
      have HB2n : Hid ((b ++ eb).length = bl + pn) := Lib.hid (by rw [List.length_append, HBl.out, hpn])
      clear he hpo hb2 hR2 hR3 hk3 hX2 hpn
      have g0 := HX3.out.cell 0 rfl
      have g3 := HX3.out.cell 3 rfl
      have HRow3 := Lib.hid HR3.out.row
      rcases lnil L with hL | ⟨L', p, hL⟩
      · subst hL
        have y3 : ln = 0 := HLg.out
        subst y3
        have HPu : Hid (stepB (([] : List (Fm × FA)).map (·.1)) f = ([] : List (Fm × FA)).map (·.1) ++ [bareF f]) := Lib.hid (stepB_new (by rintro ⟨_, l, p, h, _⟩; simp at h))
        by_cases hk0 : f.kind = 0
        · have y9 : (f.kind == 0) = true := by simp [hk0]
          clear hk0
          go_upto_region 12 with (at_builtin; refine Lib.wpList_append_run _ rfl _ _ _ _ rfl (.slice ba bl bc) (.slice pa pn pc) rfl rfl _ _ hr3 ?_)
          clear hr3 g0 g3
          have g0 := HX3.out.cell 0 rfl
          have g1 := HX3.out.cell 1 rfl
          have g2 := HX3.out.cell 2 rfl
          have g3 := HX3.out.cell 3 rfl
          have g4 := HX3.out.cell 4 rfl
          have g5 := HX3.out.cell 5 rfl
          have g6 := HX3.out.cell 6 rfl
          have g7 := HX3.out.cell 7 rfl
          have g8 := HX3.out.cell 8 rfl
          have g9 := HX3.out.cell 9 rfl
          have g10 := HX3.out.cell 10 rfl
          have g11 := HX3.out.cell 11 rfl
          have g12 := HX3.out.cell 12 rfl
          go_wp2_with fail
          refine (of_any v3 f fa).mono ?_
          rintro e v4 ⟨rfl, hb4⟩
          have HR4 := Lib.hid (HR3.out.below hb4)
          have HBa := Lib.hid (rbare_any v4 (HI0.out.below HR4.out.bel) HSz.out HC1.out)
          clear hb4 g0 g1 g2 g3 g4 g5 g6 g7 g8 g9 g10 g11 g12
          go_wp2_with fail
          refine HBa.out.mono ?_
          rintro e v5 ⟨ga, he, hgo, hb5⟩
          obtain ⟨bf, hbf⟩ : ∃ bf, bf = bareF f := ⟨_, rfl⟩
          rw [← hbf] at he hgo
          obtain rfl : e = .returned (.agg #[.int .i64 bf.kind, .int .i64 bf.id, .int .i64 bf.at_, .int .i64 bf.n, .int .i64 bf.code, .bool bf.fin, .slice ga.da bf.data.length ga.dc, .slice ga.ca bf.cid.length ga.cc, .slice ga.sa bf.spans.length ga.sc, .int .i64 bf.delay, .int .i64 bf.e0, .int .i64 bf.e1, .int .i64 bf.e2]) := he
          have hal6 : Below v5.heap.size v5 (v5.alloc (.cells #[.int .i64 bf.kind, .int .i64 bf.id, .int .i64 bf.at_, .int .i64 bf.n, .int .i64 bf.code, .bool bf.fin, .slice ga.da bf.data.length ga.dc, .slice ga.ca bf.cid.length ga.cc, .slice ga.sa bf.spans.length ga.sc, .int .i64 bf.delay, .int .i64 bf.e0, .int .i64 bf.e1, .int .i64 bf.e2] 34)) := alB v5 _
          have hR6 := (HR4.out.below hb5).below hal6
          obtain ⟨wa7, wc7, v7, hr7, hR7⟩ := hR6.push 45 (x := v5.heap.size) (p := (bf, ga)) (heap_alloc_new v5 _) ((hgo.mono HR4.out.bel.size).below hal6) (fun k e hk => by
            have h1 := (ownsRow_ge HR4.out.own k hk).2
            have h2 : v4.heap.size ≤ k := by
              rcases e with e | e | e
              · exact (ownsRow_ge hgo.data k e).1
              · exact (ownsRow_ge hgo.cid k e).1
              · exact (ownsRow_ge hgo.spans k e).1
            exact Nat.lt_irrefl _ (Nat.lt_of_lt_of_le h1 h2)) (fbk3 (by have h1 := HWt.out.ll; rw [List.length_map] at h1; exact h1) HWk.out)
          have HRel : Hid (BRel w fs (.slice ba2 (bl + pn) bc2) (.slice wa7 (0 + 1) wc7) (.int .i64 ((i + 1 : Nat) : Int)) v7) := Lib.hid (by
            have h4 := HWt.out.new HIf.out (by rw [← HFe.out]; exact HC1.out) (by rw [← HFe.out]; exact HPu.out)
            rw [← HFe.out, ← HEb.out, ← hbf] at h4
            refine ⟨i + 1, ba2, bc2, b ++ eb, wa7, wc7, _, rfl, by rw [HB2n.out], ?_, HIf.out, ?_, hR7⟩
            · rw [List.length_append, List.length_singleton, ← HLg.out]
            · rw [List.map_append]; exact h4)
          rw [← HLg.out] at hr7
          clear hgo hb5 hal6 hR6 hR7 hbf
          go_wp2_with (at_builtin; refine Lib.wpList_append_run _ rfl _ _ _ _ rfl (.slice wa 0 wc) _ rfl rfl _ _ hr7 ?_)
          go_roundw
          case rel => exact HRel.out
          case measure => exact ssj3 HI.out
        · have y9 := onj11 hk0
          clear hk0
          go_upto_region 12 with (at_builtin; refine Lib.wpList_append_run _ rfl _ _ _ _ rfl (.slice ba bl bc) (.slice pa pn pc) rfl rfl _ _ hr3 ?_)
          clear hr3 g0 g3
          have g0 := HX3.out.cell 0 rfl
          have g1 := HX3.out.cell 1 rfl
          have g2 := HX3.out.cell 2 rfl
          have g3 := HX3.out.cell 3 rfl
          have g4 := HX3.out.cell 4 rfl
          have g5 := HX3.out.cell 5 rfl
          have g6 := HX3.out.cell 6 rfl
          have g7 := HX3.out.cell 7 rfl
          have g8 := HX3.out.cell 8 rfl
          have g9 := HX3.out.cell 9 rfl
          have g10 := HX3.out.cell 10 rfl
          have g11 := HX3.out.cell 11 rfl
          have g12 := HX3.out.cell 12 rfl
          go_wp2_with fail
          refine (of_any v3 f fa).mono ?_
          rintro e v4 ⟨rfl, hb4⟩
          have HR4 := Lib.hid (HR3.out.below hb4)
          have HBa := Lib.hid (rbare_any v4 (HI0.out.below HR4.out.bel) HSz.out HC1.out)
          clear hb4 g0 g1 g2 g3 g4 g5 g6 g7 g8 g9 g10 g11 g12
          go_wp2_with fail
          refine HBa.out.mono ?_
          rintro e v5 ⟨ga, he, hgo, hb5⟩
          obtain ⟨bf, hbf⟩ : ∃ bf, bf = bareF f := ⟨_, rfl⟩
          rw [← hbf] at he hgo
          obtain rfl : e = .returned (.agg #[.int .i64 bf.kind, .int .i64 bf.id, .int .i64 bf.at_, .int .i64 bf.n, .int .i64 bf.code, .bool bf.fin, .slice ga.da bf.data.length ga.dc, .slice ga.ca bf.cid.length ga.cc, .slice ga.sa bf.spans.length ga.sc, .int .i64 bf.delay, .int .i64 bf.e0, .int .i64 bf.e1, .int .i64 bf.e2]) := he
          have hal6 : Below v5.heap.size v5 (v5.alloc (.cells #[.int .i64 bf.kind, .int .i64 bf.id, .int .i64 bf.at_, .int .i64 bf.n, .int .i64 bf.code, .bool bf.fin, .slice ga.da bf.data.length ga.dc, .slice ga.ca bf.cid.length ga.cc, .slice ga.sa bf.spans.length ga.sc, .int .i64 bf.delay, .int .i64 bf.e0, .int .i64 bf.e1, .int .i64 bf.e2] 34)) := alB v5 _
          have hR6 := (HR4.out.below hb5).below hal6
          obtain ⟨wa7, wc7, v7, hr7, hR7⟩ := hR6.push 45 (x := v5.heap.size) (p := (bf, ga)) (heap_alloc_new v5 _) ((hgo.mono HR4.out.bel.size).below hal6) (fun k e hk => by
            have h1 := (ownsRow_ge HR4.out.own k hk).2
            have h2 : v4.heap.size ≤ k := by
              rcases e with e | e | e
              · exact (ownsRow_ge hgo.data k e).1
              · exact (ownsRow_ge hgo.cid k e).1
              · exact (ownsRow_ge hgo.spans k e).1
            exact Nat.lt_irrefl _ (Nat.lt_of_lt_of_le h1 h2)) (fbk3 (by have h1 := HWt.out.ll; rw [List.length_map] at h1; exact h1) HWk.out)
          have HRel : Hid (BRel w fs (.slice ba2 (bl + pn) bc2) (.slice wa7 (0 + 1) wc7) (.int .i64 ((i + 1 : Nat) : Int)) v7) := Lib.hid (by
            have h4 := HWt.out.new HIf.out (by rw [← HFe.out]; exact HC1.out) (by rw [← HFe.out]; exact HPu.out)
            rw [← HFe.out, ← HEb.out, ← hbf] at h4
            refine ⟨i + 1, ba2, bc2, b ++ eb, wa7, wc7, _, rfl, by rw [HB2n.out], ?_, HIf.out, ?_, hR7⟩
            · rw [List.length_append, List.length_singleton, ← HLg.out]
            · rw [List.map_append]; exact h4)
          rw [← HLg.out] at hr7
          clear hgo hb5 hal6 hR6 hR7 hbf
          go_wp2_with (at_builtin; refine Lib.wpList_append_run _ rfl _ _ _ _ rfl (.slice wa 0 wc) _ rfl rfl _ _ hr7 ?_)
          go_roundw
          case rel => exact HRel.out
          case measure => exact ssj3 HI.out
      · have hln1 : ln = L'.length + 1 := by rw [HLg.out, hL]; simp
        obtain ⟨n1, hn1⟩ : ∃ n1, n1 = L'.length := ⟨_, rfl⟩
        rw [← hn1] at hln1
        have HLm : Hid (ln ≤ 1048576) := Lib.hid (by
          have h1 := HWt.out.ll
          rw [List.length_map] at h1
          rw [HLg.out]
          exact Nat.le_trans h1 HWk.out)
        obtain ⟨y3, y4, y5, y6, y7⟩ := fbk5 hln1 HLm.out
        have hi1 : n1 < L.length := by rw [hL, hn1]; simp
        obtain ⟨s, hs, hcl, hfz, hnc, hcm⟩ := own_fr HRow3.out.row rfl (i := n1) hi1
        have hLi : L[n1] = p := by subst hL; subst hn1; simp
        rw [hLi] at hcl
        have p0 : v3.cell? ⟨s, n1 * 13, none⟩ = some (.int .i64 p.1.kind) := hcl 0 (by decide)
        have p3 : v3.cell? ⟨s, n1 * 13 + 3, none⟩ = some (.int .i64 p.1.n) := hcl 3 (by decide)
        have pf := hfz (n1 * 13 + 3)
        have hnc' : (ln : Int) ≤ (wc : Int) := by rw [HLg.out]; exact Int.ofNat_le.2 hnc
        clear hcl hfz hi1 hLi hnc hcm
        by_cases hk0 : f.kind = 0
        · by_cases hB : p.1.kind = 0
          · have y8 : (p.1.kind == 0) = true := by simp [hB]
            have y9 : (f.kind == 0) = true := by simp [hk0]
            obtain ⟨u1, u2⟩ := fbk4 (HWt.out.pad p.1 (by rw [hL]; simp) hB) HWk.out (chk_pad HC1.out hk0)
            have HRel : Hid (BRel w fs (.slice ba2 (bl + pn) bc2) (.slice (some ⟨s, 0, none⟩) ln wc) (.int .i64 ((i + 1 : Nat) : Int)) (v3.setCell ⟨s, n1 * 13 + 3, none⟩ (.int .i64 (p.1.n + f.n)))) := Lib.hid (by
              have h1 := HR3.out
              rw [hs, hL] at h1
              have h2 := h1.last (p.1.n + f.n)
              have h3 := HWt.out
              rw [hL, List.map_append] at h3
              have h4 := Wt.old (p := p.1) h3 HIf.out (by rw [← HFe.out]; exact HC1.out) (by rw [← HFe.out]; exact hk0) hB
              rw [← HFe.out, ← HEb.out] at h4
              refine ⟨i + 1, ba2, bc2, b ++ eb, some ⟨s, 0, none⟩, wc, L' ++ [({ p.1 with n := p.1.n + f.n }, p.2)], rfl, by rw [HB2n.out], by rw [hln1, hn1]; simp, HIf.out, by rw [List.map_append]; exact h4, ?_⟩
              rw [hn1]; exact h2)
            have HSat : Hid (Sat [(⟨s, n1 * 13 + 3, none⟩, .int .i64 p.1.n), (⟨xb, 3, none⟩, .int .i64 f.n)] v3.drew) := Lib.hid (Sat.cons (w := v3.drew) p3 (Sat.cons (w := v3.drew) g3 (Sat.nil _)))
            clear hB hL hln1 hn1 hk0
            subst hs
            go_upto_region 11 with (at_builtin; refine Lib.wpList_append_run _ rfl _ _ _ _ rfl (.slice ba bl bc) (.slice pa pn pc) rfl rfl _ _ hr3 ?_)
            refine Mx.regionZ [] (Sat [(⟨s, n1 * 13 + 3, none⟩, .int .i64 p.1.n), (⟨xb, 3, none⟩, .int .i64 f.n)]) (by kernel_rfl) (by kernel_rfl) HSat.out ?_
            repeat ((first | (refine Mx.skips (by kernel_rfl) ?_; go_big_quiet_skip) | (refine Mx.quietly rfl ?_; go_big_quiet_want; go_big_quiet_op; go_big_quiet_on)); refine Mx.done ?_)
            refine Mx.cell ⟨s, n1 * 13 + 3, none⟩ (.int .i64 p.1.n) (by kernel_rfl) (by kernel_rfl) (by kernel_rfl) Try.isAgg3 (fun w' h => h 0 _ _ rfl) ?_
            go_big_quiet_want; go_big_quiet_op; go_big_quiet_on; refine Mx.done ?_
            repeat ((first | (refine Mx.skips (by kernel_rfl) ?_; go_big_quiet_skip) | (refine Mx.quietly rfl ?_; go_big_quiet_want; go_big_quiet_op; go_big_quiet_on)); refine Mx.done ?_)
            refine Mx.cell ⟨xb, 3, none⟩ (.int .i64 f.n) (by kernel_rfl) (by kernel_rfl) (by kernel_rfl) Try.isAgg3 (fun w' h => h 1 _ _ rfl) ?_
            go_big_quiet_want; go_big_quiet_op; go_big_quiet_on; refine Mx.done ?_
            repeat ((first | (refine Mx.skips (by kernel_rfl) ?_; go_big_quiet_skip) | (refine Mx.quietly rfl ?_; go_big_quiet_want; go_big_quiet_op; go_big_quiet_on)); refine Mx.done ?_)
            refine Mx.atLast (by kernel_rfl) (by kernel_rfl) ?_
            clear hr3
            go_wp2_with fail
            go_roundw
            case rel => exact brel_drew HRel.out
            case measure => exact ssj3 HI.out
          · have y8 := onj11 hB
            have y9 : (f.kind == 0) = true := by simp [hk0]
            have HPu : Hid (stepB (L.map (·.1)) f = L.map (·.1) ++ [bareF f]) := Lib.hid (stepB_new (by
              rintro ⟨_, l, p', h, hp'⟩
              rw [hL, List.map_append] at h
              have h2 := List.append_inj_right' h rfl
              simp only [List.map_cons, List.map_nil, List.cons.injEq, and_true] at h2
              exact hB (by rw [h2]; exact hp')))
            clear hB hL hln1 hn1 hk0
            subst hs
            go_upto_region 12 with (at_builtin; refine Lib.wpList_append_run _ rfl _ _ _ _ rfl (.slice ba bl bc) (.slice pa pn pc) rfl rfl _ _ hr3 ?_)
            clear hr3 g0 g3
            have g0 := HX3.out.cell 0 rfl
            have g1 := HX3.out.cell 1 rfl
            have g2 := HX3.out.cell 2 rfl
            have g3 := HX3.out.cell 3 rfl
            have g4 := HX3.out.cell 4 rfl
            have g5 := HX3.out.cell 5 rfl
            have g6 := HX3.out.cell 6 rfl
            have g7 := HX3.out.cell 7 rfl
            have g8 := HX3.out.cell 8 rfl
            have g9 := HX3.out.cell 9 rfl
            have g10 := HX3.out.cell 10 rfl
            have g11 := HX3.out.cell 11 rfl
            have g12 := HX3.out.cell 12 rfl
            go_wp2_with fail
            refine (of_any v3 f fa).mono ?_
            rintro e v4 ⟨rfl, hb4⟩
            have HR4 := Lib.hid (HR3.out.below hb4)
            have HBa := Lib.hid (rbare_any v4 (HI0.out.below HR4.out.bel) HSz.out HC1.out)
            clear hb4 g0 g1 g2 g3 g4 g5 g6 g7 g8 g9 g10 g11 g12
            go_wp2_with fail
            refine HBa.out.mono ?_
            rintro e v5 ⟨ga, he, hgo, hb5⟩
            obtain ⟨bf, hbf⟩ : ∃ bf, bf = bareF f := ⟨_, rfl⟩
            rw [← hbf] at he hgo
            obtain rfl : e = .returned (.agg #[.int .i64 bf.kind, .int .i64 bf.id, .int .i64 bf.at_, .int .i64 bf.n, .int .i64 bf.code, .bool bf.fin, .slice ga.da bf.data.length ga.dc, .slice ga.ca bf.cid.length ga.cc, .slice ga.sa bf.spans.length ga.sc, .int .i64 bf.delay, .int .i64 bf.e0, .int .i64 bf.e1, .int .i64 bf.e2]) := he
            have hal6 : Below v5.heap.size v5 (v5.alloc (.cells #[.int .i64 bf.kind, .int .i64 bf.id, .int .i64 bf.at_, .int .i64 bf.n, .int .i64 bf.code, .bool bf.fin, .slice ga.da bf.data.length ga.dc, .slice ga.ca bf.cid.length ga.cc, .slice ga.sa bf.spans.length ga.sc, .int .i64 bf.delay, .int .i64 bf.e0, .int .i64 bf.e1, .int .i64 bf.e2] 34)) := alB v5 _
            have hR6 := (HR4.out.below hb5).below hal6
            obtain ⟨wa7, wc7, v7, hr7, hR7⟩ := hR6.push 45 (x := v5.heap.size) (p := (bf, ga)) (heap_alloc_new v5 _) ((hgo.mono HR4.out.bel.size).below hal6) (fun k e hk => by
              have h1 := (ownsRow_ge HR4.out.own k hk).2
              have h2 : v4.heap.size ≤ k := by
                rcases e with e | e | e
                · exact (ownsRow_ge hgo.data k e).1
                · exact (ownsRow_ge hgo.cid k e).1
                · exact (ownsRow_ge hgo.spans k e).1
              exact Nat.lt_irrefl _ (Nat.lt_of_lt_of_le h1 h2)) (fbk3 (by have h1 := HWt.out.ll; rw [List.length_map] at h1; exact h1) HWk.out)
            have HRel : Hid (BRel w fs (.slice ba2 (bl + pn) bc2) (.slice wa7 (ln + 1) wc7) (.int .i64 ((i + 1 : Nat) : Int)) v7) := Lib.hid (by
              have h4 := HWt.out.new HIf.out (by rw [← HFe.out]; exact HC1.out) (by rw [← HFe.out]; exact HPu.out)
              rw [← HFe.out, ← HEb.out, ← hbf] at h4
              refine ⟨i + 1, ba2, bc2, b ++ eb, wa7, wc7, _, rfl, by rw [HB2n.out], ?_, HIf.out, ?_, hR7⟩
              · rw [List.length_append, List.length_singleton, ← HLg.out]
              · rw [List.map_append]; exact h4)
            rw [← HLg.out] at hr7
            clear hgo hb5 hal6 hR6 hR7 hbf
            go_wp2_with (at_builtin; refine Lib.wpList_append_run _ rfl _ _ _ _ rfl (.slice (some ⟨s, 0, none⟩) ln wc) _ rfl rfl _ _ hr7 ?_)
            go_roundw
            case rel => exact HRel.out
            case measure => exact ssj3 HI.out
        · have y9 := onj11 hk0
          have HPu : Hid (stepB (L.map (·.1)) f = L.map (·.1) ++ [bareF f]) := Lib.hid (stepB_new (fun h => hk0 h.1))
          clear hL hln1 hn1 hk0
          subst hs
          go_upto_region 12 with (at_builtin; refine Lib.wpList_append_run _ rfl _ _ _ _ rfl (.slice ba bl bc) (.slice pa pn pc) rfl rfl _ _ hr3 ?_)
          clear hr3 g0 g3
          have g0 := HX3.out.cell 0 rfl
          have g1 := HX3.out.cell 1 rfl
          have g2 := HX3.out.cell 2 rfl
          have g3 := HX3.out.cell 3 rfl
          have g4 := HX3.out.cell 4 rfl
          have g5 := HX3.out.cell 5 rfl
          have g6 := HX3.out.cell 6 rfl
          have g7 := HX3.out.cell 7 rfl
          have g8 := HX3.out.cell 8 rfl
          have g9 := HX3.out.cell 9 rfl
          have g10 := HX3.out.cell 10 rfl
          have g11 := HX3.out.cell 11 rfl
          have g12 := HX3.out.cell 12 rfl
          go_wp2_with fail
          refine (of_any v3 f fa).mono ?_
          rintro e v4 ⟨rfl, hb4⟩
          have HR4 := Lib.hid (HR3.out.below hb4)
          have HBa := Lib.hid (rbare_any v4 (HI0.out.below HR4.out.bel) HSz.out HC1.out)
          clear hb4 g0 g1 g2 g3 g4 g5 g6 g7 g8 g9 g10 g11 g12
          go_wp2_with fail
          refine HBa.out.mono ?_
          rintro e v5 ⟨ga, he, hgo, hb5⟩
          obtain ⟨bf, hbf⟩ : ∃ bf, bf = bareF f := ⟨_, rfl⟩
          rw [← hbf] at he hgo
          obtain rfl : e = .returned (.agg #[.int .i64 bf.kind, .int .i64 bf.id, .int .i64 bf.at_, .int .i64 bf.n, .int .i64 bf.code, .bool bf.fin, .slice ga.da bf.data.length ga.dc, .slice ga.ca bf.cid.length ga.cc, .slice ga.sa bf.spans.length ga.sc, .int .i64 bf.delay, .int .i64 bf.e0, .int .i64 bf.e1, .int .i64 bf.e2]) := he
          have hal6 : Below v5.heap.size v5 (v5.alloc (.cells #[.int .i64 bf.kind, .int .i64 bf.id, .int .i64 bf.at_, .int .i64 bf.n, .int .i64 bf.code, .bool bf.fin, .slice ga.da bf.data.length ga.dc, .slice ga.ca bf.cid.length ga.cc, .slice ga.sa bf.spans.length ga.sc, .int .i64 bf.delay, .int .i64 bf.e0, .int .i64 bf.e1, .int .i64 bf.e2] 34)) := alB v5 _
          have hR6 := (HR4.out.below hb5).below hal6
          obtain ⟨wa7, wc7, v7, hr7, hR7⟩ := hR6.push 45 (x := v5.heap.size) (p := (bf, ga)) (heap_alloc_new v5 _) ((hgo.mono HR4.out.bel.size).below hal6) (fun k e hk => by
            have h1 := (ownsRow_ge HR4.out.own k hk).2
            have h2 : v4.heap.size ≤ k := by
              rcases e with e | e | e
              · exact (ownsRow_ge hgo.data k e).1
              · exact (ownsRow_ge hgo.cid k e).1
              · exact (ownsRow_ge hgo.spans k e).1
            exact Nat.lt_irrefl _ (Nat.lt_of_lt_of_le h1 h2)) (fbk3 (by have h1 := HWt.out.ll; rw [List.length_map] at h1; exact h1) HWk.out)
          have HRel : Hid (BRel w fs (.slice ba2 (bl + pn) bc2) (.slice wa7 (ln + 1) wc7) (.int .i64 ((i + 1 : Nat) : Int)) v7) := Lib.hid (by
            have h4 := HWt.out.new HIf.out (by rw [← HFe.out]; exact HC1.out) (by rw [← HFe.out]; exact HPu.out)
            rw [← HFe.out, ← HEb.out, ← hbf] at h4
            refine ⟨i + 1, ba2, bc2, b ++ eb, wa7, wc7, _, rfl, by rw [HB2n.out], ?_, HIf.out, ?_, hR7⟩
            · rw [List.length_append, List.length_singleton, ← HLg.out]
            · rw [List.map_append]; exact h4)
          rw [← HLg.out] at hr7
          clear hgo hb5 hal6 hR6 hR7 hbf
          go_wp2_with (at_builtin; refine Lib.wpList_append_run _ rfl _ _ _ _ rfl (.slice (some ⟨s, 0, none⟩) ln wc) _ rfl rfl _ _ hr7 ?_)
          go_roundw
          case rel => exact HRel.out
          case measure => exact ssj3 HI.out
    · have z1 := ssj2 hin
      have hco := copy_any wr (own_sl HRw.out.own) (fbk7 HWt.out.bl (Nat.le_trans hi (by rw [HLn.out]; exact HSm.out)))
      rw [← HBl.out] at hco
      have HCo := Lib.hid hco
      clear hco
      have HBr := Lib.hid HRw.out.bel
      clear hin hi
      go_wp2_with fail
      refine HCo.out.mono ?_
      rintro e v1 ⟨a2, c2, he, ho, hb1⟩
      obtain rfl : e = .returned (.slice a2 bl c2) := by rw [he, HBl.out]
      have HR1 := Lib.hid (HRw.out.below hb1)
      have hd := decode_any v1 (own_sl ho)
      rw [← HBl.out] at hd
      clear he ho hb1
      by_cases hlen : bl = 0 ∨ 16384 < bl
      · obtain ⟨x, hx, hdv⟩ := decV_bad (b := b) (by rw [← HBl.out]; exact hlen)
        rw [hdv] at hd
        have HD := Lib.hid hd
        have y2 := onj11 hx
        have y2' : ¬ x = 0 := hx
        clear hd hdv hx
        rcases hlen with hl0 | hl1
        · subst hl0
          go_wp2_with fail
          refine HD.out.mono ?_
          rintro e v2 ⟨a3, c3, L3, he, hrow, hL, hb2⟩
          have hz := lenz hL
          obtain rfl : e = .returned (.tuple #[.slice a3 0 c3, .int .i64 0, .int .i64 x]) := by rw [← hz]; exact he
          have HR2 := Lib.hid (HR1.out.below hb2)
          have HAw2 := Lib.hid (HAw.out v2)
          clear hrow hL hb2 hz
          go_wp2_with fail
          refine HAw2.out.mono ?_
          rintro e v3 ⟨rfl, hb3⟩
          have HR3 := Lib.hid (HR2.out.below hb3)
          clear hb3
          go_wp2
          go_ret
          exact ⟨congrArg (fun b => Ending.returned (Value.bool b)) (show (x != 0) = true by simp [y2']), HR3.out.bel⟩
        · have y3 := dcj2 hl1
          have y4 := fbk8 (n := bl) (fun h => by rw [h] at hl1; exact absurd hl1 (by decide))
          clear hl1
          go_wp2_with fail
          refine HD.out.mono ?_
          rintro e v2 ⟨a3, c3, L3, he, hrow, hL, hb2⟩
          have hz := lenz hL
          obtain rfl : e = .returned (.tuple #[.slice a3 0 c3, .int .i64 0, .int .i64 x]) := by rw [← hz]; exact he
          have HR2 := Lib.hid (HR1.out.below hb2)
          have HAw2 := Lib.hid (HAw.out v2)
          clear hrow hL hb2 hz
          go_wp2_with fail
          refine HAw2.out.mono ?_
          rintro e v3 ⟨rfl, hb3⟩
          have HR3 := Lib.hid (HR2.out.below hb3)
          clear hb3
          go_wp2
          go_ret
          exact ⟨congrArg (fun b => Ending.returned (Value.bool b)) (show (x != 0) = true by simp [y2']), HR3.out.bel⟩
      · have hdv : decV b = (L.map (·.1), 0, 0) := by
          have h1 := HWt.out.eqb
          have h2 := HBl.out
          rw [h1]
          rw [h1] at h2
          rw [decV_back (gd fs i) (gd_chk fs i) (fun h => hlen (.inr (by rw [h2]; exact h))) (fun h => hlen (.inl (h2.trans h))), ← HWt.out.eql]
        rw [hdv] at hd
        have HD := Lib.hid hd
        have y3 : ¬ (16384 : Int) < (bl : Int) := fbk9 (fun h => hlen (.inr h))
        have y4 := fbk8 (n := bl) (fun h => hlen (.inl h))
        clear hd hdv hlen
        go_wp2_with fail
        refine HD.out.mono ?_
        rintro e v2 ⟨a3, c3, L3, he, hrow, hL, hb2⟩
        have HR2 := Lib.hid (HR1.out.below hb2)
        have hsm := lsame_eq v2 hrow HR2.out.row hL
        obtain ⟨n3, hn3⟩ : ∃ n3, n3 = L3.length := ⟨_, rfl⟩
        obtain rfl : e = .returned (.tuple #[.slice a3 n3 c3, .int .i64 0, .int .i64 0]) := by rw [hn3]; exact he
        rw [← hn3, ← HLg.out] at hsm
        have HSa := Lib.hid hsm
        clear hrow hL hb2 hsm hn3
        go_wp2_with fail
        refine HSa.out.mono ?_
        rintro e v3 ⟨rfl, hb3⟩
        have HR3 := Lib.hid (HR2.out.below hb3)
        have HAw3 := Lib.hid (HAw.out v3)
        clear hb3
        go_wp2_with fail
        refine HAw3.out.mono ?_
        rintro e v4 ⟨rfl, hb4⟩
        have HR4 := Lib.hid (HR3.out.below hb4)
        clear hb4
        go_wp2
        go_ret
        exact ⟨rfl, HR4.out.bel⟩
end Go.Proofs.Ytppkilkfmclpkaa

/- Contracts of the reader's over, and of barred, known, one. No condition. -/
import Derived.Test.YtbplmnmkgkgkhaaHfStep
import Derived.Deep.DeepCutAuto
import Derived.Deep.CutBlock
namespace Go.Proofs.Ytbplmnmkgkgkhaa
open Go.RowKit

def barB (k : Int) : Bool := k == 2 || k == 3 || k == 5 || k == 6 || k == 8 || k == 9
def knoB (k : Int) : Bool := k == 0 || k == 1 || k == 4 || k == 7 || k == 13
set_option maxRecDepth 100000 in
set_option maxHeartbeats 1000000 in
theorem barred_any (w : World) (k : Int) : Calls Try.prog 36 #[.int .i64 k] w (BoolOf w (barB k)) := by
  by_cases h : k = 2 ∨ k = 3 ∨ k = 5 ∨ k = 6 ∨ k = 8 ∨ k = 9
  · rcases h with rfl | rfl | rfl | rfl | rfl | rfl <;>
    · go_enter Try.func36, Try.ntmps36
      go_wp2
      go_ret
      exact ⟨rfl, Below.refl _ _⟩
  · have g2 : ((k : Int) == 2) = false := by simp; omega
    have g3 : ((k : Int) == 3) = false := by simp; omega
    have g5 : ((k : Int) == 5) = false := by simp; omega
    have g6 : ((k : Int) == 6) = false := by simp; omega
    have g8 : ((k : Int) == 8) = false := by simp; omega
    have g9 : ((k : Int) == 9) = false := by simp; omega
    have e : barB k = false := by unfold barB; rw [g2, g3, g5, g6, g8, g9]; rfl
    rw [e]
    clear h e
    go_enter Try.func36, Try.ntmps36
    go_wp2
    go_ret
    exact ⟨rfl, Below.refl _ _⟩
set_option maxRecDepth 100000 in
set_option maxHeartbeats 1000000 in
theorem known_any (w : World) (k : Int) : Calls Try.prog 32 #[.int .i64 k] w (BoolOf w (knoB k)) := by
  by_cases h : k = 0 ∨ k = 1 ∨ k = 4 ∨ k = 7 ∨ k = 13
  · rcases h with rfl | rfl | rfl | rfl | rfl <;>
    · go_enter Try.func32, Try.ntmps32
      go_wp2
      go_ret
      exact ⟨rfl, Below.refl _ _⟩
  · have g2 : ((k : Int) == 0) = false := by simp; omega
    have g3 : ((k : Int) == 1) = false := by simp; omega
    have g5 : ((k : Int) == 4) = false := by simp; omega
    have g6 : ((k : Int) == 7) = false := by simp; omega
    have g8 : ((k : Int) == 13) = false := by simp; omega
    have e : knoB k = false := by unfold knoB; rw [g2, g3, g5, g6, g8]; rfl
    rw [e]
    clear h e
    go_enter Try.func32, Try.ntmps32
    go_wp2
    go_ret
    exact ⟨rfl, Below.refl _ _⟩

/-- a payload that is one number -/
def oneV (l : List UInt8) : Nat × Int := if (getV l 0).2.2 = 0 ∧ (getV l 0).2.1 = l.length then ((getV l 0).1, 0) else (0, 54)
def One2 (w : World) (r : Nat × Int) (e : Ending) (w' : World) : Prop := e = .returned (.tuple #[.int .i64 (r.1 : Int), .int .i64 r.2]) ∧ Below w.heap.size w w'
set_option maxRecDepth 100000 in
set_option maxHeartbeats 1000000 in
theorem one_any (w : World) {a : Option Addr} {n c : Nat} {l : List UInt8} (h : Sl w a n c (bv l)) :
    Calls Try.prog 33 #[.slice a n c] w (One2 w (oneV l)) := by
  have hl := h.byte
  have HG := Lib.hid (get_any w h 0 (by decide))
  obtain ⟨gv, hgv⟩ : ∃ gv, gv = getV l 0 := ⟨_, rfl⟩
  have ho : oneV l = if gv.2.2 = 0 ∧ gv.2.1 = n then (gv.1, 0) else (0, 54) := by unfold oneV; rw [hgv, hl]
  rw [← hgv] at HG
  rw [ho]
  clear ho hgv hl h
  obtain ⟨v, at_, er⟩ := gv
  by_cases h1 : er = 0
  · subst h1
    by_cases h2 : at_ = n
    · subst h2
      rw [if_pos ⟨rfl, rfl⟩]
      go_enter Try.func33, Try.ntmps33
      go_wp2_with fail
      refine HG.out.mono ?_
      rintro e w2 ⟨rfl, hb2⟩
      go_wp2
      go_ret2
      exact ⟨rfl, hb2⟩
    · rw [if_neg (by simp [h2])]
      have g1 : ((at_ : Int) == (n : Int)) = false := by simp; omega
      have g2 : ¬ (at_ : Int) = (n : Int) := by omega
      go_enter Try.func33, Try.ntmps33
      go_wp2_with fail
      refine HG.out.mono ?_
      rintro e w2 ⟨rfl, hb2⟩
      go_wp2
      go_ret2
      exact ⟨rfl, hb2⟩
  · rw [if_neg (by simp [h1])]
    have g1 : ((er : Int) == 0) = false := by simp; omega
    go_enter Try.func33, Try.ntmps33
    go_wp2_with fail
    refine HG.out.mono ?_
    rintro e w2 ⟨rfl, hb2⟩
    go_wp2
    go_ret2
    exact ⟨rfl, hb2⟩

/-- the bytes end between two frames -/
def overR (R : Rd) : Int × Rd :=
  if R.ended = false then (0, R) else if R.req = false then (172, { R with fault := 172 }) else if R.heads = 0 then (183, { R with fault := 183 }) else (0, { R with done := true })
set_option maxRecDepth 100000 in
set_option maxHeartbeats 1000000 in
theorem over_any (w : World) {g : Nat} {R : Rd} {ba : Option Addr} {bc : Nat} (hR : RB w g R ba bc) :
    Calls Try.prog 28 #[.pointer (some ⟨g, 0, none⟩)] w (Tells0 w g ba bc (overR R).1 (overR R).2) := by
  obtain ⟨w1, hw1⟩ : ∃ w1, w1 = w.alloc (.cells #[.int .i64 0, .slice none 0 0, .int .i64 0, .int .i64 0, .int .i64 0, .int .i64 0] 32) := ⟨_, rfl⟩
  have hal : Below w.heap.size w w1 := by rw [hw1]; exact (Below.refl _ _).alloc (Nat.le_refl _) _
  have hE1 : Has w1 w.heap.size 32 evz := by rw [hw1]; exact Has.new _ _ _
  have hglt := hR.has.lt
  have hR1 := hR.below hal
  have c3 := hR1.has.cell 3 rfl
  have c0 := hR1.has.cell 0 rfl
  have c6 := hR1.has.cell 6 rfl
  have f4 := hR1.has.free 4
  obtain ⟨eb, heb⟩ : ∃ eb, eb = w.heap.size := ⟨_, rfl⟩
  have hbn : ∀ ad, ba = some ad → ad.block ≠ eb := fun ad ha => by have := hR.row.lt ad ha; omega
  rw [← heb] at hE1 hglt
  have HEb := Lib.hid heb
  clear heb
  have HAl := Lib.hid hal
  -- the two that fail
  have hfail : ∀ (z : Int) (w2 : World), Kept (fun k => k = g) w1 w2 → RB w2 g { R with fault := z } ba bc → Has w2 eb 32 evz := fun z w2 hk _ => hE1.kept hk (by omega)
  have HFl := Lib.hid hfail
  clear hfail
  cases hen : R.ended
  · have e : overR R = (0, R) := by unfold overR; rw [hen]; rfl
    rw [e]
    rw [hen] at c3
    have HE := Lib.hid hE1
    have HR := Lib.hid hR1
    have HW1 := Lib.hid hw1
    rw [hw1] at c3
    clear hal hE1 hR hR1 hw1 e c0 c6 f4
    go_enter Try.func28, Try.ntmps28
    go_wp2
    rw [← HW1.out]
    have hE := HE.out
    rw [HEb.out] at hE
    refine bodyPost_ret (results_ev rfl _ rfl hE rfl) rfl ?_
    exact ⟨rfl, Kept.of_below HAl.out, HR.out⟩
  · rw [hen] at c3
    cases hq : R.req
    · have e : overR R = (172, { R with fault := 172 }) := by unfold overR; rw [hen, hq]; rfl
      rw [e]
      rw [hq] at c0
      have HF := Lib.hid (fail_any w1 hR1 172)
      rw [hw1] at c3 c0
      clear hal hE1 hR hR1 e c6 f4
      go_enter Try.func28, Try.ntmps28
      go_wp2_with fail
      rw [← hw1, ← HEb.out]
      refine HF.out.mono ?_
      rintro e w2 ⟨rfl, hk2, hR2⟩
      have hE2 := HFl.out _ w2 hk2 hR2
      have x0 := hE2.free 0
      have x1 := hE2.free 1
      have x2 := hE2.free 2
      have x3 := hE2.free 3
      have x4 := hE2.free 4
      have x5 := hE2.free 5
      have e0 := hE2.cell 0 rfl
      have e1 := hE2.cell 1 rfl
      have e2 := hE2.cell 2 rfl
      have e3 := hE2.cell 3 rfl
      have e4 := hE2.cell 4 rfl
      have e5 := hE2.cell 5 rfl
      have HK2 := Lib.hid hk2
      have HR2 := Lib.hid hR2
      have HE2 := Lib.hid hE2
      clear hk2 hR2 hE2 hw1
      go_wp2
      refine bodyPost_ret (results_ev rfl _ rfl (HE2.out.ev0 _ _ _ _ _ _) rfl) rfl ?_
      have hEb := HEb.out
      refine ⟨rfl, ?_, ?_⟩
      · exact ((Kept.of_below HAl.out).trans HK2.out (fun _ _ h => h)).trans (Kept.ev0 _ _ _ _ _ _ _ _) (fun k hk e => by omega)
      · exact HR2.out.kept (Kept.ev0 _ _ _ _ _ _ _ _) (by omega) hbn
    · rw [hq] at c0
      by_cases hh : R.heads = 0
      · have e : overR R = (183, { R with fault := 183 }) := by unfold overR; rw [hen, hq, if_pos hh]; rfl
        rw [e]
        rw [hh] at c6
        have HF := Lib.hid (fail_any w1 hR1 183)
        rw [hw1] at c3 c0 c6
        clear hal hE1 hR hR1 e f4
        go_enter Try.func28, Try.ntmps28
        go_wp2_with fail
        rw [← hw1, ← HEb.out]
        refine HF.out.mono ?_
        rintro e w2 ⟨rfl, hk2, hR2⟩
        have hE2 := HFl.out _ w2 hk2 hR2
        have x0 := hE2.free 0
        have x1 := hE2.free 1
        have x2 := hE2.free 2
        have x3 := hE2.free 3
        have x4 := hE2.free 4
        have x5 := hE2.free 5
        have e0 := hE2.cell 0 rfl
        have e1 := hE2.cell 1 rfl
        have e2 := hE2.cell 2 rfl
        have e3 := hE2.cell 3 rfl
        have e4 := hE2.cell 4 rfl
        have e5 := hE2.cell 5 rfl
        have HK2 := Lib.hid hk2
        have HR2 := Lib.hid hR2
        have HE2 := Lib.hid hE2
        clear hk2 hR2 hE2 hw1
        go_wp2
        refine bodyPost_ret (results_ev rfl _ rfl (HE2.out.ev0 _ _ _ _ _ _) rfl) rfl ?_
        have hEb := HEb.out
        refine ⟨rfl, ?_, ?_⟩
        · exact ((Kept.of_below HAl.out).trans HK2.out (fun _ _ h => h)).trans (Kept.ev0 _ _ _ _ _ _ _ _) (fun k hk e => by omega)
        · exact HR2.out.kept (Kept.ev0 _ _ _ _ _ _ _ _) (by omega) hbn
      · have e : overR R = (0, { R with done := true }) := by unfold overR; rw [hen, hq, if_neg hh]; rfl
        rw [e]
        obtain ⟨hd, hhd⟩ : ∃ hd, hd = R.heads := ⟨_, rfl⟩
        rw [← hhd] at c6 hh
        have g6 : (hd == 0) = false := by simpa using hh
        have HR := Lib.hid hR1
        have HE := Lib.hid hE1
        have HW1 := Lib.hid hw1
        have F4 := Lib.hid f4
        have C3 := Lib.hid c3
        have C0 := Lib.hid c0
        have C6 := Lib.hid c6
        clear hal hE1 hR hR1 hw1 e f4 hh hhd hen hq c3 c0 c6
        go_enter Try.func28, Try.ntmps28
        go_upto_region 2 with fail
        rw [← HW1.out, ← HEb.out]
        have c3 := C3.out
        have c0 := C0.out
        have c6 := C6.out
        have f4 := F4.out
        have c4 := HR.out.has.cell 4 rfl
        have hH2 := HR.out.set 4 (.bool true) (R' := { R with done := true }) rfl rfl
        have hE2 := HE.out.kept (Kept.set w1 g 4 (.bool true)) (by omega)
        have HR2 := Lib.hid hH2
        have x0 := hE2.free 0
        have x1 := hE2.free 1
        have x2 := hE2.free 2
        have x3 := hE2.free 3
        have x4 := hE2.free 4
        have x5 := hE2.free 5
        have e0 := hE2.cell 0 rfl
        have e1 := hE2.cell 1 rfl
        have e2 := hE2.cell 2 rfl
        have e3 := hE2.cell 3 rfl
        have e4 := hE2.cell 4 rfl
        have e5 := hE2.cell 5 rfl
        have HE2 := Lib.hid hE2
        clear hH2 hE2
        go_wp2
        refine bodyPost_ret (results_ev rfl _ rfl (HE2.out.ev0 _ _ _ _ _ _) rfl) rfl ?_
        have hEb := HEb.out
        refine ⟨rfl, ?_, ?_⟩
        · exact ((Kept.of_below HAl.out).trans (Kept.set w1 g 4 (.bool true)) (fun _ _ h => h)).trans (Kept.ev0 _ _ _ _ _ _ _ _) (fun k hk e => by omega)
        · exact HR2.out.kept (Kept.ev0 _ _ _ _ _ _ _ _) (by omega) hbn
end Go.Proofs.Ytbplmnmkgkgkhaa

/- Contracts of the reader's fail, wait, over, and of one. No condition. -/
import Derived.Test.YtbplmnmkgkgkhaaHfAwake
namespace Go.Proofs.Ytbplmnmkgkgkhaa
open Go.RowKit

theorem RB.set {w : World} {g : Nat} {R R' : Rd} {ba : Option Addr} {bc : Nat} (h : RB w g R ba bc) (j : Nat) (v : Value) (he : rcells R' ba bc = (rcells R ba bc).set j v) (hb : R'.b = R.b) : RB (w.setCell ⟨g, j, none⟩ v) g R' ba bc := by
  refine ⟨by rw [he]; exact h.has.set j v, ?_, h.ne⟩
  rw [hb]
  exact h.row.kept (Kept.set w g j v) (fun ad ha e => h.ne ad ha e)
/-- no event, the error's number -/
def Tells0 (w : World) (g : Nat) (ba : Option Addr) (bc : Nat) (z : Int) (R : Rd) (e : Ending) (w' : World) : Prop :=
  e = .returned (.tuple #[.agg #[.int .i64 0, .slice none 0 0, .int .i64 0, .int .i64 0, .int .i64 0, .int .i64 0], .bool false, .int .i64 z]) ∧ Kept (fun k => k = g) w w' ∧ RB w' g R ba bc

set_option maxRecDepth 100000 in
set_option maxHeartbeats 1000000 in
theorem fail_any (w : World) {g : Nat} {R : Rd} {ba : Option Addr} {bc : Nat} (hR : RB w g R ba bc) (z : Int) :
    Calls Try.prog 31 #[.pointer (some ⟨g, 0, none⟩), .int .i64 z] w (Tells0 w g ba bc z { R with fault := z }) := by
  have c5 := hR.has.cell 5 rfl
  have f5 := hR.has.free 5
  have hlt := hR.has.lt
  have HR := Lib.hid (hR.set 5 (.int .i64 z) (R' := { R with fault := z }) rfl rfl)
  clear hR
  go_enter Try.func31, Try.ntmps31
  go_wp2
  have hH : Has ((w.setCell ⟨g, 5, none⟩ (.int .i64 z)).alloc (.cells #[.int .i64 0, .slice none 0 0, .int .i64 0, .int .i64 0, .int .i64 0, .int .i64 0] 32)) w.heap.size 32 [.int .i64 0, .slice none 0 0, .int .i64 0, .int .i64 0, .int .i64 0, .int .i64 0] := by
    have := Has.new (w.setCell ⟨g, 5, none⟩ (.int .i64 z)) 32 #[.int .i64 0, .slice none 0 0, .int .i64 0, .int .i64 0, .int .i64 0, .int .i64 0]
    simpa [World.setCell] using this
  refine bodyPost_ret (results_ev rfl _ rfl hH rfl) rfl ?_
  exact ⟨rfl, (Kept.set w g 5 _).trans (Kept.alloc none' _ _) (fun _ _ h => h.elim), HR.out.below ((Below.refl _ _).alloc (Nat.le_refl _) _)⟩

/-- more must come, or there is no more -/
def waitR (R : Rd) : Int × Rd := if R.ended = true then (12, { R with fault := 12 }) else (0, R)
/-- storing an event into a variable that holds one -/
theorem Has.ev0 {w : World} {eb : Nat} {u0 u1 u2 u3 u4 u5 : Value} (h : Has w eb 32 [u0, u1, u2, u3, u4, u5]) (v0 v1 v2 v3 v4 v5 : Value) :
    Has ((((((w.setCell ⟨eb, 0, none⟩ v0).setCell ⟨eb, 1, none⟩ v1).setCell ⟨eb, 2, none⟩ v2).setCell ⟨eb, 3, none⟩ v3).setCell ⟨eb, 4, none⟩ v4).setCell ⟨eb, 5, none⟩ v5) eb 32 [v0, v1, v2, v3, v4, v5] := by
  have h0 : Has (w.setCell ⟨eb, 0, none⟩ v0) eb 32 [v0, u1, u2, u3, u4, u5] := h.set 0 v0
  have h1 : Has ((w.setCell ⟨eb, 0, none⟩ v0).setCell ⟨eb, 1, none⟩ v1) eb 32 [v0, v1, u2, u3, u4, u5] := h0.set 1 v1
  clear h h0
  generalize (w.setCell ⟨eb, 0, none⟩ v0).setCell ⟨eb, 1, none⟩ v1 = w1 at h1 ⊢
  have h2 : Has (w1.setCell ⟨eb, 2, none⟩ v2) eb 32 [v0, v1, v2, u3, u4, u5] := h1.set 2 v2
  have h3 : Has ((w1.setCell ⟨eb, 2, none⟩ v2).setCell ⟨eb, 3, none⟩ v3) eb 32 [v0, v1, v2, v3, u4, u5] := h2.set 3 v3
  clear h1 h2
  generalize (w1.setCell ⟨eb, 2, none⟩ v2).setCell ⟨eb, 3, none⟩ v3 = w3 at h3 ⊢
  have h4 : Has (w3.setCell ⟨eb, 4, none⟩ v4) eb 32 [v0, v1, v2, v3, v4, u5] := h3.set 4 v4
  exact h4.set 5 v5
theorem Kept.ev0 (w : World) (eb : Nat) (v0 v1 v2 v3 v4 v5 : Value) : Kept (fun k => k = eb) w ((((((w.setCell ⟨eb, 0, none⟩ v0).setCell ⟨eb, 1, none⟩ v1).setCell ⟨eb, 2, none⟩ v2).setCell ⟨eb, 3, none⟩ v3).setCell ⟨eb, 4, none⟩ v4).setCell ⟨eb, 5, none⟩ v5) :=
  (((((Kept.set w eb 0 v0).trans (Kept.set _ eb 1 v1) (fun _ _ h => h)).trans (Kept.set _ eb 2 v2) (fun _ _ h => h)).trans (Kept.set _ eb 3 v3) (fun _ _ h => h)).trans (Kept.set _ eb 4 v4) (fun _ _ h => h)).trans (Kept.set _ eb 5 v5) (fun _ _ h => h)

set_option maxRecDepth 100000 in
set_option maxHeartbeats 2000000 in
theorem wait_any (w : World) {g : Nat} {R : Rd} {ba : Option Addr} {bc : Nat} (hR : RB w g R ba bc) :
    Calls Try.prog 26 #[.pointer (some ⟨g, 0, none⟩)] w (Tells0 w g ba bc (waitR R).1 (waitR R).2) := by
  obtain ⟨w1, hw1⟩ : ∃ w1, w1 = w.alloc (.cells #[.int .i64 0, .slice none 0 0, .int .i64 0, .int .i64 0, .int .i64 0, .int .i64 0] 32) := ⟨_, rfl⟩
  have hal : Below w.heap.size w w1 := by rw [hw1]; exact (Below.refl _ _).alloc (Nat.le_refl _) _
  have hE1 : Has w1 w.heap.size 32 evz := by rw [hw1]; exact Has.new _ _ _
  have hglt := hR.has.lt
  have hR1 := hR.below hal
  have c3 := hR1.has.cell 3 rfl
  obtain ⟨eb, heb⟩ : ∃ eb, eb = w.heap.size := ⟨_, rfl⟩
  have hbn : ∀ ad, ba = some ad → ad.block ≠ eb := fun ad ha => by have := hR.row.lt ad ha; omega
  rw [← heb] at hE1 hglt
  have HEb := Lib.hid heb
  clear heb
  have HAl := Lib.hid hal
  cases hen : R.ended
  · have e : waitR R = (0, R) := by unfold waitR; rw [hen]; rfl
    rw [e]
    rw [hen] at c3
    have HE := Lib.hid hE1
    have HR := Lib.hid hR1
    have HW1 := Lib.hid hw1
    rw [hw1] at c3
    clear hal hE1 hR hR1 hw1 e
    go_enter Try.func26, Try.ntmps26
    go_wp2
    rw [← HW1.out]
    have hE := HE.out
    rw [HEb.out] at hE
    refine bodyPost_ret (results_ev rfl _ rfl hE rfl) rfl ?_
    exact ⟨rfl, Kept.of_below HAl.out, HR.out⟩
  · have e : waitR R = (12, { R with fault := 12 }) := by unfold waitR; rw [hen]; rfl
    rw [e]
    rw [hen] at c3
    have HF := Lib.hid (fail_any w1 hR1 12)
    have HE := Lib.hid hE1
    clear hal hE1 hR hR1 e
    go_enter Try.func26, Try.ntmps26
    rw [hw1] at c3
    go_wp2_with fail
    rw [← hw1, ← HEb.out]
    refine HF.out.mono ?_
    rintro e w2 ⟨rfl, hk2, hR2⟩
    have hE2 := HE.out.kept hk2 (by omega)
    have e0 := hE2.cell 0 rfl
    have e1 := hE2.cell 1 rfl
    have e2 := hE2.cell 2 rfl
    have e3 := hE2.cell 3 rfl
    have e4 := hE2.cell 4 rfl
    have e5 := hE2.cell 5 rfl
    have x0 := hE2.free 0
    have x1 := hE2.free 1
    have x2 := hE2.free 2
    have x3 := hE2.free 3
    have x4 := hE2.free 4
    have x5 := hE2.free 5
    have HK2 := Lib.hid hk2
    have HR2 := Lib.hid hR2
    have HE2 := Lib.hid hE2
    clear hk2 hR2 hE2 hw1
    go_wp2
    refine bodyPost_ret (results_ev rfl _ rfl (HE2.out.ev0 _ _ _ _ _ _) rfl) rfl ?_
    have hEb := HEb.out
    refine ⟨rfl, ?_, ?_⟩
    · exact ((Kept.of_below HAl.out).trans HK2.out (fun _ _ h => h)).trans (Kept.ev0 _ _ _ _ _ _ _ _) (fun k hk e => by omega)
    · exact HR2.out.kept (Kept.ev0 _ _ _ _ _ _ _ _) (by omega) hbn
end Go.Proofs.Ytbplmnmkgkgkhaa

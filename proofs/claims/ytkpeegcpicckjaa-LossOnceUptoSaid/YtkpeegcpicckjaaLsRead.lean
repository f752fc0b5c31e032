/- Loss detection: contracts of New, Rtt, Window, rightSpace, rightTime. -/
import Derived.Test.YtkpeegcpicckjaaLsPure
namespace Go.Proofs.Ytkpeegcpicckjaa
open Go.RowKit

theorem window_any (w : World) {F : Nat → Prop} {g : Nat} {L : Lo} (h : LAt F w g L) : Calls Try.prog 12 #[.pointer (some ⟨g, 0, none⟩)] w (IntOf w L.window) := by
  obtain ⟨a0, c0, a1, c1, a2, c2, hb, _⟩ := h
  have d := hb.has.cell 22 rfl
  go_enter Try.func12, Try.ntmps12
  go_wp2
  go_ret
  exact ⟨rfl, Below.refl _ w⟩

theorem rightSpace_any (w : World) (s : Int) : Calls Try.prog 21 #[.int .i64 s] w fun e w' => e = .returned (.bool (decide (0 ≤ s ∧ s ≤ 2))) ∧ w = w' := by
  by_cases h1 : 0 ≤ s
  · by_cases h2 : s ≤ 2
    · simp only [show decide (0 ≤ s ∧ s ≤ 2) = true by simp [h1, h2]]
      go_enter Try.func21, Try.ntmps21
      go_wp2
      go_ret
      exact ⟨rfl, rfl⟩
    · simp only [show decide (0 ≤ s ∧ s ≤ 2) = false by simp [h1, h2]]
      go_enter Try.func21, Try.ntmps21
      go_wp2
      go_ret
      exact ⟨rfl, rfl⟩
  · simp only [show decide (0 ≤ s ∧ s ≤ 2) = false by simp [h1]]
    go_enter Try.func21, Try.ntmps21
    go_wp2
    go_ret
    exact ⟨rfl, rfl⟩

theorem rightTime_any (w : World) {F : Nat → Prop} {g : Nat} {L : Lo} (h : LAt F w g L) (now : Int) : Calls Try.prog 22 #[.pointer (some ⟨g, 0, none⟩), .int .i64 now] w fun e w' => e = .returned (.bool (decide (L.now ≤ now ∧ now ≤ 1099511627776))) ∧ w = w' := by
  obtain ⟨a0, c0, a1, c1, a2, c2, hb, _⟩ := h
  have d := hb.has.cell 16 rfl
  by_cases h1 : L.now ≤ now
  · by_cases h2 : now ≤ 1099511627776
    · simp only [show decide (L.now ≤ now ∧ now ≤ 1099511627776) = true by simp [h1, h2]]
      go_enter Try.func22, Try.ntmps22
      go_wp2
      go_ret
      exact ⟨rfl, rfl⟩
    · simp only [show decide (L.now ≤ now ∧ now ≤ 1099511627776) = false by simp [h1, h2]]
      go_enter Try.func22, Try.ntmps22
      go_wp2
      go_ret
      exact ⟨rfl, rfl⟩
  · simp only [show decide (L.now ≤ now ∧ now ≤ 1099511627776) = false by simp [h1]]
    go_enter Try.func22, Try.ntmps22
    go_wp2
    go_ret
    exact ⟨rfl, rfl⟩

theorem results_tmp4 {fn : Func} {t u v x : Tmp} (h : fn.results = #[.tmp t, .tmp u, .tmp v, .tmp x]) (tmps : Array Value) (P : Program) (w : World) :
    (results fn tmps).run P w = .ok (.tuple #[tmps.getD t undef, tmps.getD u undef, tmps.getD v undef, tmps.getD x undef]) w := by
  simp [results, h]

set_option maxRecDepth 100000 in
theorem rtt_any (w : World) {F : Nat → Prop} {g : Nat} {L : Lo} (h : LAt F w g L) : Calls Try.prog 9 #[.pointer (some ⟨g, 0, none⟩)] w fun e w' => e = .returned (.tuple #[.int .i64 L.latest, .int .i64 L.least, .int .i64 L.smooth, .int .i64 L.vary]) ∧ Below w.heap.size w w' := by
  obtain ⟨a0, c0, a1, c1, a2, c2, hb, _⟩ := h
  have d1 := hb.has.cell 18 rfl
  have d2 := hb.has.cell 19 rfl
  have d3 := hb.has.cell 20 rfl
  have d4 := hb.has.cell 21 rfl
  go_enter Try.func9, Try.ntmps9
  go_wp2
  go_quiet (fail)
  go_wp2
  refine bodyPost_ret (results_tmp4 rfl _ _ _) rfl ?_
  exact ⟨rfl, below_drewN (Below.refl _ w) _⟩

/-- what New makes -/
def Made (w : World) (most : Int) (e : Ending) (w' : World) : Prop :=
  ((most < 0 ∨ 16383 < most) ∧ e = .returned (.tuple #[.pointer none, .int .i64 30]) ∧ w = w') ∨
  (0 ≤ most ∧ most ≤ 16383 ∧ ∃ g, e = .returned (.tuple #[.pointer (some ⟨g, 0, none⟩), .int .i64 0]) ∧ LAt (fun k => w.heap.size ≤ k ∧ k < w'.heap.size) w' g (Lo.new most) ∧ Below w.heap.size w w')

def spz : List Value := [.slice none 0 0, .int .i64 0, .int .i64 0, .int .i64 0, .int .i64 0]
def spn : List Value := [.slice none 0 0, .int .i64 0, .int .i64 (-1), .int .i64 (-1), .int .i64 (-1)]
def ncells (most : Int) (k : Nat) : List Value := [.int .i64 most] ++ (if 0 < k then spn else spz) ++ (if 1 < k then spn else spz) ++ (if 2 < k then spn else spz) ++
  [.int .i64 0, .bool false, .int .i64 0, .int .i64 0, .int .i64 333, .int .i64 166, .int .i64 12000, .int .i64 4611686018427387904, .int .i64 (-1), .int .i64 0]

set_option maxRecDepth 100000 in
set_option maxHeartbeats 1000000 in
theorem new_any (w : World) (most : Int) : Calls Try.prog 7 #[.int .i64 most] w (Made w most) := by
  by_cases h1 : most < 0
  · go_enter Try.func7, Try.ntmps7
    go_wp2
    go_ret2
    exact .inl ⟨.inl h1, rfl, rfl⟩
  · by_cases h2 : 16384 ≤ most
    · go_enter Try.func7, Try.ntmps7
      go_wp2
      go_ret2
      exact .inl ⟨.inr (by omega), rfl, rfl⟩
    · have h2' : most < 16384 := by omega
      go_enter Try.func7, Try.ntmps7
      go_wp2_with fail
      go_loopw [15] (fun v wr => ∃ k : Nat, v = .int .i64 (k : Int) ∧ k ≤ 3 ∧ Has wr w.heap.size 64 (ncells most k) ∧ Below w.heap.size w wr) (fun v _ => 3 - (intOf v).toNat)
      case atStart => exact ⟨0, rfl, by omega, Has.new _ _ _, (Below.refl _ _).alloc (Nat.le_refl _) _⟩
      case round =>
        obtain ⟨k, rfl, hk, hH, hB⟩ := hrel
        have hz := hH.lt
        have d0 := fun (j : Nat) (v : Value) (h : (ncells most k)[j]? = some v) => hH.cell j h
        have f0 := fun (j : Nat) => hH.free j
        rcases (show k = 0 ∨ k = 1 ∨ k = 2 ∨ k = 3 by omega) with rfl | rfl | rfl | rfl
        · have c1 := d0 1 _ rfl
          have c2 := d0 2 _ rfl
          have c3 := d0 3 _ rfl
          have c4 := d0 4 _ rfl
          have c5 := d0 5 _ rfl
          have e1 := f0 1
          have e2 := f0 2
          have e3 := f0 3
          have e4 := f0 4
          have e5 := f0 5
          clear d0 f0
          go_wp2
          refine ⟨⟨1, rfl, by omega, ((((hH.set 1 _).set 2 _).set 3 _).set 4 _).set 5 _, ?_⟩, by simp [intOf]⟩
          exact hB.trans ((((((Kept.set wr w.heap.size 1 _).trans (Kept.set _ w.heap.size 2 _) (fun _ _ h => h)).trans (Kept.set _ w.heap.size 3 _) (fun _ _ h => h)).trans (Kept.set _ w.heap.size 4 _) (fun _ _ h => h)).trans (Kept.set _ w.heap.size 5 _) (fun _ _ h => h)).below hB.size (fun j e => by rw [e]; exact Nat.le_refl _))
        · have c1 := d0 6 _ rfl
          have c2 := d0 7 _ rfl
          have c3 := d0 8 _ rfl
          have c4 := d0 9 _ rfl
          have c5 := d0 10 _ rfl
          have e1 := f0 6
          have e2 := f0 7
          have e3 := f0 8
          have e4 := f0 9
          have e5 := f0 10
          clear d0 f0
          go_wp2
          refine ⟨⟨2, rfl, by omega, ((((hH.set 6 _).set 7 _).set 8 _).set 9 _).set 10 _, ?_⟩, by simp [intOf]⟩
          exact hB.trans ((((((Kept.set wr w.heap.size 6 _).trans (Kept.set _ w.heap.size 7 _) (fun _ _ h => h)).trans (Kept.set _ w.heap.size 8 _) (fun _ _ h => h)).trans (Kept.set _ w.heap.size 9 _) (fun _ _ h => h)).trans (Kept.set _ w.heap.size 10 _) (fun _ _ h => h)).below hB.size (fun j e => by rw [e]; exact Nat.le_refl _))
        · have c1 := d0 11 _ rfl
          have c2 := d0 12 _ rfl
          have c3 := d0 13 _ rfl
          have c4 := d0 14 _ rfl
          have c5 := d0 15 _ rfl
          have e1 := f0 11
          have e2 := f0 12
          have e3 := f0 13
          have e4 := f0 14
          have e5 := f0 15
          clear d0 f0
          go_wp2
          refine ⟨⟨3, rfl, by omega, ((((hH.set 11 _).set 12 _).set 13 _).set 14 _).set 15 _, ?_⟩, by simp [intOf]⟩
          exact hB.trans ((((((Kept.set wr w.heap.size 11 _).trans (Kept.set _ w.heap.size 12 _) (fun _ _ h => h)).trans (Kept.set _ w.heap.size 13 _) (fun _ _ h => h)).trans (Kept.set _ w.heap.size 14 _) (fun _ _ h => h)).trans (Kept.set _ w.heap.size 15 _) (fun _ _ h => h)).below hB.size (fun j e => by rw [e]; exact Nat.le_refl _))
        · clear d0 f0
          go_wp2
          go_ret2
          refine .inr ⟨by omega, by omega, w.heap.size, rfl, ⟨none, 0, none, 0, none, 0, ⟨hH, World.ownsRow_nil _ _ _ _, World.ownsRow_nil _ _ _ _, World.ownsRow_nil _ _ _ _, by simp, by simp, by simp, by simp, by simp, by simp⟩, ⟨Nat.le_refl _, hz⟩, by simp, by simp, by simp⟩, hB⟩
end Go.Proofs.Ytkpeegcpicckjaa

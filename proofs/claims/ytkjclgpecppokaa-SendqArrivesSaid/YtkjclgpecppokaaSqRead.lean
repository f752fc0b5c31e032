/- Contracts of the queue's calls that only read: Room, Written, Sent, Base, Done; and New. -/
import Derived.Test.YtkjclgpecppokaaSqPure
namespace Go.Proofs.Ytkjclgpecppokaa
open Go.RowKit

/-- an int that a reading call hands back -/
def IntOf (w : World) (z : Int) (e : Ending) (w' : World) : Prop := e = .returned (.int .i64 z) ∧ Below w.heap.size w w'

theorem room_any (w : World) {F : Nat → Prop} {g : Nat} {q : Qu} (h : QAt F w g q) (hq : q.Ok) : Calls Try.prog 11 #[.pointer (some ⟨g, 0, none⟩)] w (IntOf w ((q.room : Int) - q.data.length)) := by
  obtain ⟨da, dc, sa, sc, hb, _⟩ := h
  have c0 := hb.has.cell 0 rfl
  have c3 := hb.has.cell 3 rfl
  have r1 := hq.room1
  have r2 := hq.room2
  have r3 := hq.fit
  have f1 : IntKind.i64.wrap ((q.room : Int) - (q.data.length : Int)) = (q.room : Int) - q.data.length := by rw [IntKind.wrap_i64]; omega
  go_enter Try.func11, Try.ntmps11
  go_wp2
  go_quiet (fail)
  go_wp2
  go_ret
  exact ⟨rfl, below_drewN (Below.refl _ w) _⟩

theorem written_any (w : World) {F : Nat → Prop} {g : Nat} {q : Qu} (h : QAt F w g q) (hq : q.Ok) : Calls Try.prog 12 #[.pointer (some ⟨g, 0, none⟩)] w (IntOf w ((q.base : Int) + q.data.length)) := by
  obtain ⟨da, dc, sa, sc, hb, _⟩ := h
  have c0 := hb.has.cell 1 rfl
  have c3 := hb.has.cell 3 rfl
  have r1 := hq.most
  have f1 : IntKind.i64.wrap ((q.base : Int) + (q.data.length : Int)) = (q.base : Int) + q.data.length := by rw [IntKind.wrap_i64]; omega
  go_enter Try.func12, Try.ntmps12
  go_wp2
  go_quiet (fail)
  go_wp2
  go_ret
  exact ⟨rfl, below_drewN (Below.refl _ w) _⟩

theorem sent_any (w : World) {F : Nat → Prop} {g : Nat} {q : Qu} (h : QAt F w g q) : Calls Try.prog 13 #[.pointer (some ⟨g, 0, none⟩)] w (IntOf w q.sent) := by
  obtain ⟨da, dc, sa, sc, hb, _⟩ := h
  have c0 := hb.has.cell 2 rfl
  go_enter Try.func13, Try.ntmps13
  go_wp2
  go_ret
  exact ⟨rfl, Below.refl _ w⟩

theorem base_any (w : World) {F : Nat → Prop} {g : Nat} {q : Qu} (h : QAt F w g q) : Calls Try.prog 14 #[.pointer (some ⟨g, 0, none⟩)] w (IntOf w q.base) := by
  obtain ⟨da, dc, sa, sc, hb, _⟩ := h
  have c0 := hb.has.cell 1 rfl
  go_enter Try.func14, Try.ntmps14
  go_wp2
  go_ret
  exact ⟨rfl, Below.refl _ w⟩

theorem done_any (w : World) {F : Nat → Prop} {g : Nat} {q : Qu} (h : QAt F w g q) : Calls Try.prog 15 #[.pointer (some ⟨g, 0, none⟩)] w fun e w' => e = .returned (.bool (q.e == 3 && q.data.length == 0)) ∧ Below w.heap.size w w' := by
  obtain ⟨da, dc, sa, sc, hb, _⟩ := h
  have c6 := hb.has.cell 6 rfl
  have c3 := hb.has.cell 3 rfl
  by_cases he : q.e = 3
  · have h1 : ((q.e.toNat : Int) == 3) = true := by rw [he]; rfl
    by_cases hn : q.data.length = 0
    · have h2 : ((q.data.length : Int) == 0) = true := by rw [hn]; rfl
      have HR := Lib.hid (show true = (q.e == 3 && q.data.length == 0) by rw [he, hn]; rfl)
      clear he hn
      go_enter Try.func15, Try.ntmps15
      go_wp2
      go_ret
      exact ⟨by rw [← HR.out]; rfl, Below.refl _ w⟩
    · have h2 : ((q.data.length : Int) == 0) = false := by rw [beq_eq_false_iff_ne]; omega
      have HR := Lib.hid (show false = (q.e == 3 && q.data.length == 0) by rw [he]; simp; intro h; simp [h] at hn)
      clear he hn
      go_enter Try.func15, Try.ntmps15
      go_wp2
      go_ret
      exact ⟨by rw [← HR.out]; rfl, Below.refl _ w⟩
  · have h1 : ((q.e.toNat : Int) == 3) = false := by rw [beq_eq_false_iff_ne]; exact fun h => he (u8_inj h)
    have HR := Lib.hid (show false = (q.e == 3 && q.data.length == 0) by simp [he])
    clear he
    go_enter Try.func15, Try.ntmps15
    go_wp2
    go_ret
    exact ⟨by rw [← HR.out]; rfl, Below.refl _ w⟩

/-- what New hands back -/
def Made (w : World) (room : Int) (e : Ending) (w' : World) : Prop :=
  ((room < 1 ∨ 65536 < room) ∧ e = .returned (.tuple #[.pointer none, .int .i64 20]) ∧ Below w.heap.size w w') ∨
  (1 ≤ room ∧ room ≤ 65536 ∧ ∃ g, e = .returned (.tuple #[.pointer (some ⟨g, 0, none⟩), .int .i64 0]) ∧ QAt (fun k => w.heap.size ≤ k ∧ k < w'.heap.size) w' g (Qu.new room.toNat) ∧ Below w.heap.size w w')

theorem new_any (w : World) (room : Int) : Calls Try.prog 8 #[.int .i64 room] w (Made w room) := by
  by_cases h1 : room < 1
  · go_enter Try.func8, Try.ntmps8
    go_wp2
    go_ret2
    exact .inl ⟨.inl h1, rfl, Below.refl _ w⟩
  · by_cases h2 : 65536 < room
    · go_enter Try.func8, Try.ntmps8
      go_wp2
      go_ret2
      exact .inl ⟨.inr h2, rfl, Below.refl _ w⟩
    · obtain ⟨n, rfl⟩ := Int.eq_ofNat_of_zero_le (show 0 ≤ room by omega)
      go_enter Try.func8, Try.ntmps8
      go_wp2
      go_ret2
      refine .inr ⟨by omega, by omega, w.heap.size, rfl, ⟨none, 0, none, 0, ⟨Has.new w _ _, World.ownsRow_nil _ _ _ _, World.ownsRow_nil _ _ _ _, by simp, by simp, by simp⟩, by simp, by simp, by simp⟩, (Below.refl _ w).alloc (Nat.le_refl _) _⟩
end Go.Proofs.Ytkjclgpecppokaa

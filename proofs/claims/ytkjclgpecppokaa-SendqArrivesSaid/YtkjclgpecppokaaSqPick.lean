/- Contract of the queue's pick. -/
import Derived.Test.YtkjclgpecppokaaSqRun
namespace Go.Proofs.Ytkjclgpecppokaa
open Go.RowKit

/-- two ints that a call hands back, which leaves what was there -/
def Int2 (w : World) (y z : Int) (e : Ending) (w' : World) : Prop := e = .returned (.tuple #[.int .i64 y, .int .i64 z]) ∧ Below w.heap.size w w'

set_option maxRecDepth 100000 in
theorem pick_any (w : World) {F : Nat → Prop} {g : Nat} {q : Qu} (h : QAt F w g q) (hq : q.Ok) (most limit : Int) (hl : limit ≤ 9223372036854775807) :
    Calls Try.prog 24 #[.pointer (some ⟨g, 0, none⟩), .int .i64 most, .int .i64 limit] w (Int2 w (q.pick most limit).1 (q.pick most limit).2) := by
  have hQ := h
  obtain ⟨da, dc, sa, sc, hb, _⟩ := h
  have c4 := hb.has.cell 4 rfl
  have c1 := hb.has.cell 1 rfl
  have hs := own_sl hb.s
  have S2 : Calls Try.prog 39 #[.slice sa q.st.length sc, .int .u8 2] w fun e w' => e = .returned (.int .i64 (Lib.indexByte q.st 2)) ∧ w = w' := ixs w hs 2
  have S0 : Calls Try.prog 39 #[.slice sa q.st.length sc, .int .u8 0] w fun e w' => e = .returned (.int .i64 (Lib.indexByte q.st 0)) ∧ w = w' := ixs w hs 0
  have hB : q.base ≤ 1152921504606846976 := by have := hq.most; omega
  have hlm : q.st.length ≤ 65536 := by have := hq.len; have := hq.fit; have := hq.room2; omega
  clear hs hb
  by_cases h2 : 0 ≤ Lib.indexByte q.st 2
  · have hlt := ib_lt h2
    have HP : Hid (q.pick most limit = ((Lib.indexByte q.st 2).toNat, runL 2 (q.st.drop (Lib.indexByte q.st 2).toNat) most.toNat)) := Lib.hid (by unfold Qu.pick; rw [if_pos h2])
    obtain ⟨m, hm⟩ := Int.eq_ofNat_of_zero_le h2
    rw [hm] at HP S2 hlt
    have R : Calls Try.prog 30 #[.pointer (some ⟨g, 0, none⟩), .int .i64 (m : Int), .int .u8 2, .int .i64 most] w (IntOf w (runL 2 (q.st.drop m) most.toNat)) := run_any w hQ hq m (by simpa using Nat.le_of_lt hlt) 2 most
    have HS := Lib.hid S2
    have HR := Lib.hid R
    clear S2 S0 R hm h2 hQ hq hlt
    go_enter Try.func24, Try.ntmps24
    go_wp2_with fail
    refine HS.out.mono ?_
    rintro e w' ⟨rfl, rfl⟩
    go_wp2_with fail
    refine HR.out.mono ?_
    rintro e w1 ⟨rfl, hb1⟩
    go_wp2
    go_ret2
    exact ⟨by rw [HP.out]; rfl, hb1⟩
  · have h2' : ¬ Lib.indexByte q.st 2 ≥ 0 := h2
    by_cases h0 : 0 ≤ Lib.indexByte q.st 0
    · have hlt := ib_lt h0
      by_cases hx : q.base + Lib.indexByte q.st 0 < limit
      · have HP : Hid (q.pick most limit = ((Lib.indexByte q.st 0).toNat, runL 0 (q.st.drop (Lib.indexByte q.st 0).toNat) (min most (limit - q.base - Lib.indexByte q.st 0)).toNat)) := Lib.hid (by unfold Qu.pick; rw [if_neg h2, if_pos ⟨h0, hx⟩])
        obtain ⟨m, hm⟩ := Int.eq_ofNat_of_zero_le h0
        rw [hm] at HP S0 hlt hx
        simp only [Int.toNat_natCast] at hlt HP
        have R : Calls Try.prog 30 #[.pointer (some ⟨g, 0, none⟩), .int .i64 (m : Int), .int .u8 0, .int .i64 (min most (limit - q.base - m))] w (IntOf w (runL 0 (q.st.drop m) (min most (limit - q.base - m)).toNat)) := run_any w hQ hq m (by omega) 0 _
        have f1 : IntKind.i64.wrap ((q.base : Int) + (m : Int)) = (q.base : Int) + m := by rw [IntKind.wrap_i64]; omega
        have f2 : IntKind.i64.wrap (limit - (q.base : Int)) = limit - (q.base : Int) := by rw [IntKind.wrap_i64]; omega
        have f3 : IntKind.i64.wrap (limit - (q.base : Int) - (m : Int)) = limit - (q.base : Int) - m := by rw [IntKind.wrap_i64]; omega
        have hmin : (if limit - (q.base : Int) - (m : Int) < most then limit - (q.base : Int) - (m : Int) else most) = min most (limit - (q.base : Int) - m) := by split <;> omega
        have hx' : limit > (q.base : Int) + (m : Int) := hx
        have HS := Lib.hid S2
        have HS0 := Lib.hid S0
        have HR := Lib.hid R
        clear S2 S0 R hm h2 hQ hq hlt hx
        go_enter Try.func24, Try.ntmps24
        go_wp2_with fail
        refine HS.out.mono ?_
        rintro e w' ⟨rfl, rfl⟩
        go_wp2_with fail
        refine HS0.out.mono ?_
        rintro e w' ⟨rfl, rfl⟩
        go_wp2_with fail
        refine HR.out.mono ?_
        rintro e w1 ⟨rfl, hb1⟩
        go_wp2
        go_ret2
        exact ⟨by rw [HP.out]; rfl, hb1⟩
      · have HP : Hid (q.pick most limit = (0, 0)) := Lib.hid (by unfold Qu.pick; rw [if_neg h2, if_neg (fun h => hx h.2)])
        obtain ⟨m, hm⟩ := Int.eq_ofNat_of_zero_le h0
        rw [hm] at S0 hlt hx
        simp only [Int.toNat_natCast] at hlt
        have f1 : IntKind.i64.wrap ((q.base : Int) + (m : Int)) = (q.base : Int) + m := by rw [IntKind.wrap_i64]; omega
        have hx' : ¬ limit > (q.base : Int) + (m : Int) := hx
        have HS := Lib.hid S2
        have HS0 := Lib.hid S0
        clear S2 S0 hm h2 hQ hq hlt hx
        go_enter Try.func24, Try.ntmps24
        go_wp2_with fail
        refine HS.out.mono ?_
        rintro e w' ⟨rfl, rfl⟩
        go_wp2_with fail
        refine HS0.out.mono ?_
        rintro e w' ⟨rfl, rfl⟩
        go_wp2
        go_ret2
        exact ⟨by rw [HP.out]; rfl, Below.refl _ _⟩
    · have HP : Hid (q.pick most limit = (0, 0)) := Lib.hid (by unfold Qu.pick; rw [if_neg h2, if_neg (fun h => h0 h.1)])
      have h0' : ¬ Lib.indexByte q.st 0 ≥ 0 := h0
      have HS := Lib.hid S2
      have HS0 := Lib.hid S0
      clear S2 S0 h2 hQ hq h0
      go_enter Try.func24, Try.ntmps24
      go_wp2_with fail
      refine HS.out.mono ?_
      rintro e w' ⟨rfl, rfl⟩
      go_wp2_with fail
      refine HS0.out.mono ?_
      rintro e w' ⟨rfl, rfl⟩
      go_wp2
      go_ret2
      exact ⟨by rw [HP.out]; rfl, Below.refl _ _⟩
end Go.Proofs.Ytkjclgpecppokaa

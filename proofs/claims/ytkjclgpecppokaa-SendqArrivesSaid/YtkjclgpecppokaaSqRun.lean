/- Contracts of the queue's run and pick. -/
import Derived.Test.YtkjclgpecppokaaSqRead
namespace Go.Proofs.Ytkjclgpecppokaa
open Go.RowKit

set_option maxRecDepth 100000 in
theorem run_any (w : World) {F : Nat → Prop} {g : Nat} {q : Qu} (h : QAt F w g q) (hq : q.Ok) (i : Nat) (hi : i ≤ q.st.length) (s : UInt8) (most : Int) :
    Calls Try.prog 30 #[.pointer (some ⟨g, 0, none⟩), .int .i64 (i : Int), .int .u8 (s.toNat : Int), .int .i64 most] w (IntOf w (runL s (q.st.drop i) most.toNat)) := by
  obtain ⟨da, dc, sa, sc, hb, _⟩ := h
  have c4 := hb.has.cell 4 rfl
  have hlm : q.st.length ≤ 65536 := by have := hq.len; have := hq.fit; have := hq.room2; omega
  clear hq
  have hown := hb.s
  clear hb
  go_enter Try.func30, Try.ntmps30
  go_wp2_with fail
  go_loopw [9] (fun n wr => ∃ k : Nat, n = .int .i64 (k : Int) ∧ w = wr ∧ i + k ≤ q.st.length ∧ (k : Int) ≤ max most 0 ∧ Hid (∀ j, j < k → (q.st.drop i)[j]? = some s)) (fun n _ => q.st.length - (intOf n).toNat)
  case atStart => exact ⟨0, rfl, rfl, by omega, by omega, Lib.hid fun j hj => absurd hj (Nat.not_lt_zero _)⟩
  case round =>
    obtain ⟨k, rfl, rfl, hik, hkm, HJ⟩ := hrel
    have f1 : IntKind.i64.wrap ((i : Int) + (k : Int)) = (i : Int) + k := by rw [IntKind.wrap_i64]; omega
    have f2 : IntKind.i64.wrap ((k : Int) + 1) = (k : Int) + 1 := by rw [IntKind.wrap_i64]; omega
    by_cases h1 : (k : Int) < most
    · by_cases h2 : i + k < q.st.length
      · have h2' : (i : Int) + (k : Int) < (q.st.length : Int) := by omega
        obtain ⟨b, rfl, hc, _, hn1, hn2⟩ := own_cell hown h2
        rw [bv_get q.st _ h2] at hc
        obtain ⟨y, hy⟩ : ∃ y : UInt8, y = q.st[i + k] := ⟨_, rfl⟩
        rw [← hy] at hc
        have HY : Hid ((q.st.drop i)[k]? = some y) := Lib.hid (by rw [List.getElem?_drop, List.getElem?_eq_getElem h2, ← hy])
        clear hy
        have hcap : (q.st.length : Int) ≤ (sc : Int) := by omega
        clear hown
        have f3 : ((i : Int) + (k : Int)).toNat = i + k := by omega
        by_cases hys : y = s
        · have hd : ((y.toNat : Int) == (s.toNat : Int)) = true := by rw [hys]; simp
          have HS := Lib.hid hys
          clear hys
          go_wp2
          go_roundw
          case rel =>
            refine ⟨k + 1, by push_cast; rfl, by trivial, by omega, by push_cast; omega, Lib.hid fun j hj => ?_⟩
            by_cases hjk : j < k
            · exact HJ.out j hjk
            · obtain rfl : j = k := by omega
              rw [HY.out, HS.out]
          case measure => simp [intOf]; omega
        · have hd : ((y.toNat : Int) == (s.toNat : Int)) = false := by rw [beq_eq_false_iff_ne]; exact fun h => hys (u8_inj h)
          have HR : Hid (runL s (q.st.drop i) most.toNat = k) := Lib.hid (runL_is s _ _ k (by omega) HJ.out (.inr (by rw [HY.out]; exact fun h => hys (Option.some.inj h))))
          clear hys
          go_wp2
          go_ret
          exact ⟨by rw [HR.out]; rfl, Below.refl _ _⟩
      · have h2' : ¬ (i : Int) + (k : Int) < (q.st.length : Int) := by omega
        have HR : Hid (runL s (q.st.drop i) most.toNat = k) := Lib.hid (runL_is s _ _ k (by omega) HJ.out (.inr (by rw [List.getElem?_eq_none (by simp; omega)]; simp)))
        clear hown h2
        go_wp2
        go_ret
        exact ⟨by rw [HR.out]; rfl, Below.refl _ _⟩
    · have HR : Hid (runL s (q.st.drop i) most.toNat = k) := Lib.hid (runL_is s _ _ k (by omega) HJ.out (.inl (by omega)))
      clear hown
      go_wp2
      go_ret
      exact ⟨by rw [HR.out]; rfl, Below.refl _ _⟩

/-- bytes.IndexByte over a row -/
theorem ixs (w : World) {a : Option Addr} {n c : Nat} {l : List UInt8} (h : Sl w a n c (bv l)) (x : UInt8) :
    Calls Try.prog 39 #[.slice a n c, .int .u8 (x.toNat : Int)] w fun e w' => e = .returned (.int .i64 (Lib.indexByte l x)) ∧ w = w' := by
  have hl := h.byte
  have hb : Lib.bytesOf (l.map fun b => (b.toNat : Int)) = l := by
    unfold Lib.bytesOf
    rw [List.map_map]
    conv => rhs; rw [← List.map_id l]
    refine List.map_congr_left fun b _ => ?_
    simp
  have hx : ((x.toNat : Int)).toNat.toUInt8 = x := by simp
  cases a with
  | none =>
    have := h.nil rfl
    subst this
    have : n = 0 := by have := h.cap_le; omega
    subst this
    obtain rfl : l = [] := List.eq_nil_of_length_eq_zero hl
    refine (Try.bytes_IndexByte_nil (x.toNat : Int) w).mono ?_
    rintro e w' ⟨rfl, rfl⟩
    exact ⟨rfl, rfl⟩
  | some ad =>
    by_cases hn : n = 0
    · subst hn
      obtain rfl : l = [] := List.eq_nil_of_length_eq_zero hl
      refine (Try.bytes_IndexByte_at ad 0 c [] (x.toNat : Int) w rfl (fun i hi => absurd hi (Nat.not_lt_zero _))).mono ?_
      rintro e w' ⟨rfl, rfl⟩
      exact ⟨rfl, rfl⟩
    · obtain ⟨b, off, hab, hc⟩ := h.cells (by omega)
      simp only [Option.some.injEq] at hab
      subst hab
      refine (Try.bytes_IndexByte b off n c (l.map fun b => (b.toNat : Int)) (x.toNat : Int) w (by simpa using hl) (fun i hi => ?_)).mono ?_
      · rw [hc i hi, bv_get l i (by omega)]
        simp [show i < l.length by omega]
      · rintro e w' ⟨rfl, rfl⟩
        rw [hb, hx]
        exact ⟨rfl, rfl⟩
end Go.Proofs.Ytkjclgpecppokaa

/- Contracts of hframe's PutGoaway, PutSettings and of the document's Frame and Settings. No condition but the sizes. -/
import Derived.Test.YtbplmnmkgkgkhaaHfPut
namespace Go.Proofs.Ytbplmnmkgkgkhaa
open Go.RowKit

theorem sl_three {w : World} {t : TypeId} {u v x : Value} : Sl (w.alloc (.cells #[u, v, x] t)) (some ⟨w.heap.size, 0, none⟩) 3 3 [u, v, x] := by
  refine ⟨rfl, Nat.le_refl _, by decide, by simp, fun _ => ⟨_, 0, rfl, fun i hi => ?_⟩⟩
  have hN : Has (w.alloc (.cells #[u, v, x] t)) w.heap.size t [u, v, x] := Has.new _ _ _
  have : i = 0 ∨ i = 1 ∨ i = 2 := by omega
  rcases this with rfl | rfl | rfl
  · exact hN.cell 0 rfl
  · exact hN.cell 1 rfl
  · exact hN.cell 2 rfl
/-- a goaway's frame -/
def gaB (id : Int) : List UInt8 × Int := if id < 0 ∨ 4611686018427387903 < id then ([], 10) else frB 7 (vl id.toNat)
set_option maxRecDepth 100000 in
theorem goaway_any (w : World) (id : Int) : Calls Try.prog 17 #[.int .i64 id] w (RetBE w.heap.size w (gaB id)) := by
  by_cases hk : id < 0 ∨ 4611686018427387903 < id
  · have e : gaB id = ([], 10) := if_pos hk
    rw [e]
    have hc : id < 0 ∨ (¬ id < 0 ∧ 4611686018427387903 < id) := by omega
    clear hk e
    rcases hc with h1 | ⟨h1, h2⟩
    all_goals
      go_enter Try.func17, Try.ntmps17
      go_wp2
      go_ret2
      exact RetBE.none' rfl (Below.refl _ _)
  · obtain ⟨k, rfl⟩ := Int.eq_ofNat_of_zero_le (show 0 ≤ id by omega)
    have k1 : ¬ (k : Int) < 0 := by omega
    have k2 : ¬ (4611686018427387903 : Int) < (k : Int) := by omega
    have HE : Hid (gaB (k : Int) = frB 7 (vl k)) := Lib.hid (by unfold gaB; rw [if_neg hk]; rfl)
    have HN : Hid (∀ t, Calls Try.prog 24 #[.slice (some ⟨w.heap.size, 0, none⟩) 1 1] (w.alloc (.cells #[.int .i64 (k : Int)] t)) (RetB (w.alloc (.cells #[.int .i64 (k : Int)] t)) (vl k))) := Lib.hid (fun t => by
      have := numbers_any (w.alloc (.cells #[.int .i64 (k : Int)] t)) (l := [k]) sl_one (by simp) (by
        intro x hx
        simp only [List.mem_cons, List.not_mem_nil, or_false] at hx
        subst hx; omega)
      rwa [numsB_one] at this)
    clear hk
    go_enter Try.func17, Try.ntmps17
    go_wp2_with fail
    refine (HN.out _).mono ?_
    rintro e w2 ⟨na, nc, rfl, hno, hb2⟩
    have hal : Below w.heap.size w (w.alloc (.cells #[.int .i64 (k : Int)] 3)) := (Below.refl _ _).alloc (Nat.le_refl _) _
    have hb := hal.trans (hb2.mono (by simp))
    have HF := Lib.hid (frame_any w2 7 (own_sl hno))
    clear hal hb2 hno
    go_wp2_with fail
    refine HF.out.mono ?_
    rintro e w3 ⟨fa, fc, rfl, hfo, hb3⟩
    have hb33 := hb.trans (hb3.mono hb.size)
    have z := hb.size
    go_wp2
    go_ret2
    exact RetBE.mk rfl (by rw [HE.out]) (own_mono hfo z) (by rw [HE.out]) hb33

set_option maxRecDepth 100000 in
set_option maxHeartbeats 1000000 in
theorem refframe_any (w : World) (kind : Int) {a : Option Addr} {n c : Nat} {p : List UInt8} (h : Sl w a n c (bv p)) (hp : p.length ≤ 140737488355000) :
    Calls Try.prog 14 #[.int .i64 kind, .slice a n c] w (RetBE w.heap.size w (frB kind p)) := by
  have hn := h.byte
  subst hn
  by_cases hk : kind < 0 ∨ 4611686018427387903 < kind
  · have e : frB kind p = ([], 10) := if_pos hk
    rw [e]
    have hc : kind < 0 ∨ (¬ kind < 0 ∧ 4611686018427387903 < kind) := by omega
    clear hk e
    rcases hc with h1 | ⟨h1, h2⟩
    all_goals
      go_enter Try.func14, Try.ntmps14
      go_wp2
      go_ret2
      exact RetBE.none' rfl (Below.refl _ _)
  · obtain ⟨k, rfl⟩ := Int.eq_ofNat_of_zero_le (show 0 ≤ kind by omega)
    have k1 : ¬ (k : Int) < 0 := by omega
    have k2 : ¬ (4611686018427387903 : Int) < (k : Int) := by omega
    have hk62 : k < 4611686018427387904 := by omega
    by_cases hp2 : 1048576 < p.length
    · have e : frB (k : Int) p = ([], 52) := by unfold frB; rw [if_neg hk, if_pos hp2]
      rw [e]
      have hp' : (1048576 : Int) < (p.length : Int) := by omega
      clear hk e
      go_enter Try.func14, Try.ntmps14
      go_wp2
      go_ret2
      exact RetBE.none' rfl (Below.refl _ _)
    · have HE : Hid (frB (k : Int) p = (vl k ++ (vl p.length ++ p), 0)) := Lib.hid (by unfold frB; rw [if_neg hk, if_neg hp2]; rfl)
      have hp' : ¬ (1048576 : Int) < (p.length : Int) := by omega
      have HP1 := Lib.hid (refput_any w k hk62)
      have HP2 : Hid (∀ w', Calls Try.prog 18 #[.int .i64 (p.length : Int)] w' (RetB w' (vl p.length))) := Lib.hid (fun w' => refput_any w' p.length (by omega))
      have HVk := Lib.hid (vl_length k)
      have HVp := Lib.hid (vl_length p.length)
      have hk8 := (szN_pos k).2
      have hp8 := (szN_pos p.length).2
      have HS := Lib.hid h
      clear hk h
      go_enter Try.func14, Try.ntmps14
      go_wp2_with fail
      refine HP1.out.mono ?_
      rintro e w2 ⟨xa, xc, rfl, hxo, hb2⟩
      have HX := Lib.hid (own_sl hxo)
      go_wp2_with fail
      refine (HP2.out w2).mono ?_
      rintro e w3 ⟨ya, yc, rfl, hyo, hb3⟩
      have hb33 := hb2.trans (hb3.mono hb2.size)
      have HJ : Hid (∀ t, Calls Try.prog 13 #[.slice (some ⟨w3.heap.size, 0, none⟩) 3 3] (w3.alloc (.cells #[.slice xa (vl k).length xc, .slice ya (vl p.length).length yc, .slice a p.length c] t)) (RetB (w3.alloc (.cells #[.slice xa (vl k).length xc, .slice ya (vl p.length).length yc, .slice a p.length c] t)) (vl k ++ (vl p.length ++ p)))) := Lib.hid (fun t => by
        have hal : Below w3.heap.size w3 (w3.alloc (.cells #[.slice xa (vl k).length xc, .slice ya (vl p.length).length yc, .slice a p.length c] t)) := (Below.refl _ _).alloc (Nat.le_refl _) _
        have := join_any (w3.alloc (.cells #[.slice xa (vl k).length xc, .slice ya (vl p.length).length yc, .slice a p.length c] t)) (ps := [⟨xa, (vl k).length, xc, vl k⟩, ⟨ya, (vl p.length).length, yc, vl p.length⟩, ⟨a, p.length, c, p⟩]) sl_three (by
          intro q hq
          simp only [List.mem_cons, List.not_mem_nil, or_false] at hq
          rcases hq with rfl | rfl | rfl
          · exact ((HX.out).below hb3).below hal
          · exact (own_sl hyo).below hal
          · exact (HS.out.below hb33).below hal) (by have := HVk.out; have := HVp.out; simp [joined]; omega)
        have e : joined [⟨xa, (vl k).length, xc, vl k⟩, ⟨ya, (vl p.length).length, yc, vl p.length⟩, ⟨a, p.length, c, p⟩] = vl k ++ (vl p.length ++ p) := by simp [joined]
        rwa [e] at this)
      have hal : Below w3.heap.size w3 (w3.alloc (.cells #[.slice xa (vl k).length xc, .slice ya (vl p.length).length yc, .slice a p.length c] 34)) := (Below.refl _ _).alloc (Nat.le_refl _) _
      clear hxo hyo hb2 hb3 hal
      go_wp2_with fail
      refine (HJ.out _).mono ?_
      rintro e w4 ⟨ja, jc, rfl, hjo, hb4⟩
      have hb44 := hb33.trans (((Below.refl w3.heap.size w3).alloc (Nat.le_refl _) _).trans (hb4.mono (by simp)) |>.mono hb33.size)
      have z : w.heap.size ≤ w3.heap.size := hb33.size
      obtain ⟨m, hm⟩ : ∃ m, m = (vl k ++ (vl p.length ++ p)).length := ⟨_, rfl⟩
      rw [← hm] at hjo ⊢
      have hjo2 := own_mono hjo (show w.heap.size ≤ _ by rw [World.size_alloc]; omega)
      clear hjo hm
      go_wp2
      go_ret2
      exact RetBE.mk rfl (by rw [HE.out]) hjo2 (by rw [HE.out]) hb44
end Go.Proofs.Ytbplmnmkgkgkhaa

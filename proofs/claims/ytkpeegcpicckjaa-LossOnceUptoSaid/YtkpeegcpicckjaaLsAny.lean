/- Loss detection: does any packet of a row elicit? Contracts of the search with the deadline's question. -/
import Derived.Test.YtkpeegcpicckjaaLsUnder
namespace Go.Proofs.Ytkpeegcpicckjaa
open Go.RowKit

theorem elicits_any (w : World) (p : Pk) : Calls Try.prog 34 #[.agg #[.int .i64 p.num, .int .i64 p.size, .int .i64 p.at_, .bool p.el]] w (BoolOf w p.el) := by
  have hal : Below w.heap.size w (w.alloc (.cells #[.int .i64 p.num, .int .i64 p.size, .int .i64 p.at_, .bool p.el] 68)) := (Below.refl _ _).alloc (Nat.le_refl _) _
  go_enter Try.func34, Try.ntmps34
  go_wp2
  go_ret
  exact ⟨rfl, hal⟩

set_option maxRecDepth 100000 in
set_option maxHeartbeats 1000000 in
theorem indexEl_any (w : World) {a : Option Addr} {c : Nat} {l : List Pk} (h : w.ownsRow 0 68 4 (.slice a l.length c) l.length (pv l)) (hl : l.length ≤ 1152921504606846976) :
    Calls Try.prog 38 #[.slice a l.length c, .func (.func 34) #[] #[]] w fun e w' => ∃ z : Int, e = .returned (.int .i64 z) ∧ decide (0 ≤ z) = l.any (·.el) ∧ Below w.heap.size w w' := by
  have HO := Lib.hid h
  clear h
  go_enter Try.func38, Try.ntmps38
  go_wp2_with fail
  go_loopw [8] (fun v wr => ∃ k : Nat, v = .int .i64 (k : Int) ∧ k ≤ l.length ∧ Hid ((l.take k).any (·.el) = false) ∧ Below w.heap.size w wr) (fun v _ => l.length - (intOf v).toNat)
  case atStart => exact ⟨0, rfl, Nat.zero_le _, Lib.hid (by simp), Below.refl _ _⟩
  case round =>
    obtain ⟨k, rfl, hk, HA, hB⟩ := hrel
    by_cases hkl : k < l.length
    · have hkl' : (k : Int) < (l.length : Int) := by omega
      have g2 : IntKind.i64.wrap ((k : Int) + 1) = (k : Int) + 1 := by rw [IntKind.wrap_i64]; omega
      obtain ⟨sb, rfl, e0, e1, e2, e3, s1, s2⟩ := own_pk (own_below HO.out hB) rfl hkl
      have s1' : (l.length : Int) ≤ (c : Int) := by omega
      have HT := Lib.hid (List.take_succ_eq_append_getElem hkl)
      have HM := Lib.hid (List.getElem_mem hkl)
      generalize hp : l[k] = p at HT HM e0 e1 e2 e3
      clear hp
      cases hel : p.el
      · have HA2 : Hid ((l.take (k + 1)).any (·.el) = false) := Lib.hid (by rw [HT.out, List.any_append, HA.out]; simp [hel])
        have HE : Hid (∀ w', Calls Try.prog 34 #[.agg #[.int .i64 p.num, .int .i64 p.size, .int .i64 p.at_, .bool p.el]] w' (BoolOf w' false)) := Lib.hid (fun w' => (elicits_any w' p).mono (by
          rintro e w'' ⟨h1, h2⟩
          exact ⟨by rw [h1, hel], h2⟩))
        clear hel
        go_wp2_with fail
        refine (HE.out wr).mono ?_
        rintro e w2 ⟨rfl, hb2⟩
        go_wp2
        go_roundw
        case rel => exact ⟨k + 1, by push_cast; rfl, by omega, HA2, hB.trans (hb2.mono hB.size)⟩
        case measure => simp [intOf]; omega
      · have HA2 : Hid (l.any (·.el) = true) := Lib.hid (List.any_eq_true.2 ⟨p, HM.out, hel⟩)
        have HE : Hid (∀ w', Calls Try.prog 34 #[.agg #[.int .i64 p.num, .int .i64 p.size, .int .i64 p.at_, .bool p.el]] w' (BoolOf w' true)) := Lib.hid (fun w' => (elicits_any w' p).mono (by
          rintro e w'' ⟨h1, h2⟩
          exact ⟨by rw [h1, hel], h2⟩))
        clear hel
        go_wp2_with fail
        refine (HE.out wr).mono ?_
        rintro e w2 ⟨rfl, hb2⟩
        go_wp2
        go_ret
        exact ⟨_, rfl, by rw [HA2.out]; simp, hB.trans (hb2.mono hB.size)⟩
    · obtain rfl : k = l.length := by omega
      go_wp2
      go_ret
      refine ⟨_, rfl, ?_, hB⟩
      have := HA.out
      rw [List.take_length] at this
      rw [this]
      rfl

theorem containsEl_any (w : World) {a : Option Addr} {c : Nat} {l : List Pk} (h : w.ownsRow 0 68 4 (.slice a l.length c) l.length (pv l)) (hl : l.length ≤ 1152921504606846976) :
    Calls Try.prog 30 #[.slice a l.length c, .func (.func 34) #[] #[]] w (BoolOf w (l.any (·.el))) := by
  have HI := Lib.hid (indexEl_any w h hl)
  clear h
  go_enter Try.func30, Try.ntmps30
  go_wp2_with fail
  refine HI.out.mono ?_
  rintro e w2 ⟨z, rfl, hz, hb2⟩
  have HZ := Lib.hid hz
  clear hz
  go_wp2
  go_ret
  exact ⟨by rw [← HZ.out]; rfl, hb2⟩
end Go.Proofs.Ytkpeegcpicckjaa

/- Loss detection: contracts of rightSpans, sample, grow, and of the search for a packet that elicits in Ack. -/
import Derived.Test.YtkpeegcpicckjaaLsSpan
namespace Go.Proofs.Ytkpeegcpicckjaa
open Go.RowKit

theorem elicits2_any (w : World) (p : Pk) : Calls Try.prog 31 #[.agg #[.int .i64 p.num, .int .i64 p.size, .int .i64 p.at_, .bool p.el]] w (BoolOf w p.el) := by
  have hal : Below w.heap.size w (w.alloc (.cells #[.int .i64 p.num, .int .i64 p.size, .int .i64 p.at_, .bool p.el] 68)) := (Below.refl _ _).alloc (Nat.le_refl _) _
  go_enter Try.func31, Try.ntmps31
  go_wp2
  go_ret
  exact ⟨rfl, hal⟩

set_option maxRecDepth 100000 in
set_option maxHeartbeats 1000000 in
theorem indexEl2_any (w : World) {a : Option Addr} {c : Nat} {l : List Pk} (h : w.ownsRow 0 68 4 (.slice a l.length c) l.length (pv l)) (hl : l.length ≤ 1152921504606846976) :
    Calls Try.prog 38 #[.slice a l.length c, .func (.func 31) #[] #[]] w fun e w' => ∃ z : Int, e = .returned (.int .i64 z) ∧ decide (0 ≤ z) = l.any (·.el) ∧ Below w.heap.size w w' := by
  have HO := Lib.hid h
  clear h
  go_enter Try.func38, Try.ntmps38
  go_wp2_with fail
  go_loopw [8] (fun v wr => ∃ k : Nat, v = .int .i64 (k : Int) ∧ k ≤ l.length ∧ Hid ((l.take k).any (·.el) = false) ∧ Below w.heap.size w wr) (fun v _ => l.length - (intOf v).toNat)
  case atStart => exact ⟨0, rfl, Nat.zero_le _, Lib.hid (by simp), Below.refl _ _⟩
  case round =>
    obtain ⟨k, rfl, hk, HA, hB⟩ := hrel
    by_cases hkl : k < l.length
    · have hkl' : (k : Int) < (l.length : Int) := by omega
      have g2 : IntKind.i64.wrap ((k : Int) + 1) = (k : Int) + 1 := by rw [IntKind.wrap_i64]; omega
      obtain ⟨sb, rfl, e0, e1, e2, e3, s1, s2⟩ := own_pk (own_below HO.out hB) rfl hkl
      have s1' : (l.length : Int) ≤ (c : Int) := by omega
      have HT := Lib.hid (List.take_succ_eq_append_getElem hkl)
      have HM := Lib.hid (List.getElem_mem hkl)
      generalize hp : l[k] = p at HT HM e0 e1 e2 e3
      clear hp
      cases hel : p.el
      · have HA2 : Hid ((l.take (k + 1)).any (·.el) = false) := Lib.hid (by rw [HT.out, List.any_append, HA.out]; simp [hel])
        have HE : Hid (∀ w', Calls Try.prog 31 #[.agg #[.int .i64 p.num, .int .i64 p.size, .int .i64 p.at_, .bool p.el]] w' (BoolOf w' false)) := Lib.hid (fun w' => (elicits2_any w' p).mono (by
          rintro e w'' ⟨h1, h2⟩
          exact ⟨by rw [h1, hel], h2⟩))
        clear hel
        go_wp2_with fail
        refine (HE.out wr).mono ?_
        rintro e w2 ⟨rfl, hb2⟩
        go_wp2
        go_roundw
        case rel => exact ⟨k + 1, by push_cast; rfl, by omega, HA2, hB.trans (hb2.mono hB.size)⟩
        case measure => simp [intOf]; omega
      · have HA2 : Hid (l.any (·.el) = true) := Lib.hid (List.any_eq_true.2 ⟨p, HM.out, hel⟩)
        have HE : Hid (∀ w', Calls Try.prog 31 #[.agg #[.int .i64 p.num, .int .i64 p.size, .int .i64 p.at_, .bool p.el]] w' (BoolOf w' true)) := Lib.hid (fun w' => (elicits2_any w' p).mono (by
          rintro e w'' ⟨h1, h2⟩
          exact ⟨by rw [h1, hel], h2⟩))
        clear hel
        go_wp2_with fail
        refine (HE.out wr).mono ?_
        rintro e w2 ⟨rfl, hb2⟩
        go_wp2
        go_ret
        exact ⟨_, rfl, by rw [HA2.out]; simp, hB.trans (hb2.mono hB.size)⟩
    · obtain rfl : k = l.length := by omega
      go_wp2
      go_ret
      refine ⟨_, rfl, ?_, hB⟩
      have := HA.out
      rw [List.take_length] at this
      rw [this]
      rfl

theorem containsEl2_any (w : World) {a : Option Addr} {c : Nat} {l : List Pk} (h : w.ownsRow 0 68 4 (.slice a l.length c) l.length (pv l)) (hl : l.length ≤ 1152921504606846976) :
    Calls Try.prog 30 #[.slice a l.length c, .func (.func 31) #[] #[]] w (BoolOf w (l.any (·.el))) := by
  have HI := Lib.hid (indexEl2_any w h hl)
  clear h
  go_enter Try.func30, Try.ntmps30
  go_wp2_with fail
  refine HI.out.mono ?_
  rintro e w2 ⟨z, rfl, hz, hb2⟩
  have HZ := Lib.hid hz
  clear hz
  go_wp2
  go_ret
  exact ⟨by rw [← HZ.out]; rfl, hb2⟩

/-- are the spans rising, with gaps, up to high? the last one's end -/
def rsGo (high : Int) : List Sn → Int → Option Int
  | [], last => some last
  | x :: r, last => if high < x.to_ ∨ x.from_ ≤ last + 1 ∨ x.to_ < x.from_ then none else rsGo high r x.to_
def rightS (l : List Sn) (high : Int) : Bool :=
  match rsGo high l (-2) with
  | none => false
  | some last => decide (0 < l.length) && decide (l.length ≤ 64) && decide (0 < last)

set_option maxRecDepth 100000 in
set_option maxHeartbeats 2000000 in
theorem rightSpans_any (w : World) {B : Nat} {a : Option Addr} {c : Nat} {l : List Sn} (h : Sps w B a c l) (hl : l.length ≤ 1152921504606846976) (high : Int) (hh : 0 ≤ high ∧ high ≤ 4611686018427387903) :
    Calls Try.prog 25 #[.slice a l.length c, .int .i64 high] w (BoolOf w (rightS l high)) := by
  have HO := Lib.hid h
  clear h
  obtain ⟨rb, hrb⟩ : ∃ rb, rb = rightS l high := ⟨_, rfl⟩
  rw [← hrb]
  have HRB := Lib.hid hrb
  clear hrb
  go_enter Try.func25, Try.ntmps25
  go_wp2_with fail
  go_loopw [5, 10] (fun lv iv wr => ∃ (k : Nat) (last : Int), iv = .int .i64 (k : Int) ∧ lv = .int .i64 last ∧ k ≤ l.length ∧ -2 ≤ last ∧ last ≤ 4611686018427387903 ∧ Hid (rsGo high l (-2) = rsGo high (l.drop k) last) ∧ Below w.heap.size w wr) (fun _ iv _ => l.length - (intOf iv).toNat)
  case atStart => exact ⟨0, -2, rfl, rfl, Nat.zero_le _, by omega, by omega, Lib.hid rfl, Below.refl _ _⟩
  case round =>
    obtain ⟨k, last, rfl, rfl, hk, hl1, hl2, HG, hB⟩ := hrel
    by_cases hkl : k < l.length
    · have hkl' : (k : Int) < (l.length : Int) := by omega
      have g2 : IntKind.i64.wrap ((k : Int) + 1) = (k : Int) + 1 := by rw [IntKind.wrap_i64]; omega
      have g3 : IntKind.i64.wrap (last + 1) = last + 1 := by rw [IntKind.wrap_i64]; omega
      obtain ⟨sb, rfl, e0, e1, s1, s2⟩ := own_sn (own_below HO.out hB) rfl hkl
      have s1' : (l.length : Int) ≤ (c : Int) := by omega
      have HT := Lib.hid (List.drop_eq_getElem_cons hkl)
      generalize l[k] = x at HT e0 e1
      have hBa : Below w.heap.size w (wr.alloc (.cells #[.int .i64 x.from_, .int .i64 x.to_] 47)) := hB.alloc hB.size _
      by_cases c1 : high < x.to_
      · have hF : Hid (rb = false) := Lib.hid (by rw [HRB.out]; unfold rightS; rw [HG.out, HT.out, rsGo, if_pos (.inl c1)])
        go_wp2
        go_ret
        exact ⟨by rw [hF.out]; rfl, hBa⟩
      · by_cases c2 : x.from_ ≤ last + 1
        · have hF : Hid (rb = false) := Lib.hid (by rw [HRB.out]; unfold rightS; rw [HG.out, HT.out, rsGo, if_pos (.inr (.inl c2))])
          go_wp2
          go_ret
          exact ⟨by rw [hF.out]; rfl, hBa⟩
        · by_cases c3 : x.to_ < x.from_
          · have hF : Hid (rb = false) := Lib.hid (by rw [HRB.out]; unfold rightS; rw [HG.out, HT.out, rsGo, if_pos (.inr (.inr c3))])
            go_wp2
            go_ret
            exact ⟨by rw [hF.out]; rfl, hBa⟩
          · have HG2 : Hid (rsGo high l (-2) = rsGo high (l.drop (k + 1)) x.to_) := Lib.hid (by rw [HG.out, HT.out, rsGo, if_neg (by omega)])
            go_wp2
            go_roundw
            case rel => exact ⟨k + 1, x.to_, by push_cast; rfl, rfl, by omega, by omega, by omega, HG2, hBa⟩
            case measure => simp [intOf]; omega
    · obtain rfl : k = l.length := by omega
      have HG2 : Hid (rsGo high l (-2) = some last) := Lib.hid (by rw [HG.out, List.drop_length]; rfl)
      have HR2 : Hid (rb = (decide (0 < l.length) && decide (l.length ≤ 64) && decide (0 < last))) := Lib.hid (by rw [HRB.out]; unfold rightS; rw [HG2.out])
      by_cases c1 : 0 < l.length
      · have c1' : (0 : Int) < (l.length : Int) := by omega
        by_cases c2 : l.length ≤ 64
        · have c2' : (l.length : Int) ≤ 64 := by omega
          have HR3 : Hid (rb = decide (0 < last)) := Lib.hid (by rw [HR2.out]; simp [c1, c2])
          clear c1 c2
          go_wp2
          go_ret
          exact ⟨by rw [HR3.out]; rfl, hB⟩
        · have c2' : ¬ (l.length : Int) ≤ 64 := by omega
          have HR3 : Hid (rb = false) := Lib.hid (by rw [HR2.out]; simp [c2])
          clear c1 c2
          go_wp2
          go_ret
          exact ⟨by rw [HR3.out]; rfl, hB⟩
      · have c1' : ¬ (0 : Int) < (l.length : Int) := by omega
        have HR3 : Hid (rb = false) := Lib.hid (by rw [HR2.out]; simp [c1])
        clear c1
        go_wp2
        go_ret
        exact ⟨by rw [HR3.out]; rfl, hB⟩
end Go.Proofs.Ytkpeegcpicckjaa

/- Loss detection: contract of Sent. -/
import Derived.Test.YtkpeegcpicckjaaLsGrow
namespace Go.Proofs.Ytkpeegcpicckjaa
open Go.RowKit

def Sp.sent (s : Sp) (number size : Int) (el : Bool) (now : Int) : Sp :=
  { s with out := s.out ++ [⟨number, if el then size else 0, now, el⟩], high := number, last := if el then now else s.last }
def Lo.sent0 (L : Lo) (number size : Int) (el : Bool) (now : Int) : Lo := { L with s0 := L.s0.sent number size el now, now := now }
def Lo.sent1 (L : Lo) (number size : Int) (el : Bool) (now : Int) : Lo := { L with s1 := L.s1.sent number size el now, now := now }
def Lo.sent2 (L : Lo) (number size : Int) (el : Bool) (now : Int) : Lo := { L with s2 := L.s2.sent number size el now, now := now }
/-- a packet that may be sent in a space -/
def Sp.takes (s : Sp) (number size : Int) : Prop := s.high < number ∧ number ≤ 4611686018427387903 ∧ 0 ≤ size ∧ size ≤ 65535

theorem sent_space (w : World) {g : Nat} (s number size : Int) (el : Bool) (now : Int) (h : ¬ (0 ≤ s ∧ s ≤ 2)) :
    Calls Try.prog 13 #[.pointer (some ⟨g, 0, none⟩), .int .i64 s, .int .i64 number, .int .i64 size, .bool el, .int .i64 now] w fun e w' => e = .returned (.int .i64 110) ∧ w = w' := by
  have HS := Lib.hid (rightSpace_any w s)
  rw [decide_eq_false h] at HS
  clear h
  go_enter Try.func13, Try.ntmps13
  go_wp2_with fail
  refine HS.out.mono ?_
  rintro e w2 ⟨rfl, rfl⟩
  go_wp2
  go_ret
  exact ⟨rfl, rfl⟩
theorem sent_time (w : World) {F : Nat → Prop} {g : Nat} {L : Lo} (hL : LAt F w g L) (s number size : Int) (el : Bool) (now : Int) (h : 0 ≤ s ∧ s ≤ 2) (ht : ¬ (L.now ≤ now ∧ now ≤ 1099511627776)) :
    Calls Try.prog 13 #[.pointer (some ⟨g, 0, none⟩), .int .i64 s, .int .i64 number, .int .i64 size, .bool el, .int .i64 now] w fun e w' => e = .returned (.int .i64 112) ∧ w = w' := by
  have HS := Lib.hid (rightSpace_any w s)
  rw [decide_eq_true h] at HS
  have HT := Lib.hid (rightTime_any w hL now)
  rw [decide_eq_false ht] at HT
  clear h ht hL
  go_enter Try.func13, Try.ntmps13
  go_wp2_with fail
  refine HS.out.mono ?_
  rintro e w2 ⟨rfl, rfl⟩
  go_wp2_with fail
  refine HT.out.mono ?_
  rintro e w3 ⟨rfl, rfl⟩
  go_wp2
  go_ret
  exact ⟨rfl, rfl⟩

set_option maxRecDepth 100000 in
theorem sent_packet0 (w : World) {F : Nat → Prop} {g : Nat} {L : Lo} (hL : LAt F w g L) (number size : Int) (el : Bool) (now : Int) (ht : L.now ≤ now ∧ now ≤ 1099511627776) (hp : ¬ L.s0.takes number size) :
    Calls Try.prog 13 #[.pointer (some ⟨g, 0, none⟩), .int .i64 0, .int .i64 number, .int .i64 size, .bool el, .int .i64 now] w fun e w' => e = .returned (.int .i64 111) ∧ w = w' := by
  have HS := Lib.hid (rightSpace_any w 0)
  rw [decide_eq_true (by decide)] at HS
  have HT := Lib.hid (rightTime_any w hL now)
  rw [decide_eq_true ht] at HT
  obtain ⟨a0, c0, a1, c1, a2, c2, hb, _⟩ := hL
  have d1 := hb.has.cell 2 rfl
  clear hb ht
  have cs : (number ≤ L.s0.high) ∨ (¬ number ≤ L.s0.high ∧ 4611686018427387903 < number) ∨ (¬ number ≤ L.s0.high ∧ ¬ 4611686018427387903 < number ∧ size < 0) ∨ (¬ number ≤ L.s0.high ∧ ¬ 4611686018427387903 < number ∧ ¬ size < 0 ∧ 65535 < size) := by
    unfold Sp.takes at hp
    omega
  clear hp
  rcases cs with h1 | ⟨h1, h2⟩ | ⟨h1, h2, h3⟩ | ⟨h1, h2, h3, h4⟩
  all_goals
    go_enter Try.func13, Try.ntmps13
    go_wp2_with fail
    refine HS.out.mono ?_
    rintro e w2 ⟨rfl, rfl⟩
    go_wp2_with fail
    refine HT.out.mono ?_
    rintro e w3 ⟨rfl, rfl⟩
    go_wp2
    go_ret
    exact ⟨rfl, rfl⟩

set_option maxRecDepth 100000 in
theorem sent_full0 (w : World) {F : Nat → Prop} {g : Nat} {L : Lo} (hL : LAt F w g L) (number size : Int) (el : Bool) (now : Int) (ht : L.now ≤ now ∧ now ≤ 1099511627776) (hp : L.s0.takes number size) (hf : 4096 ≤ L.s0.out.length) :
    Calls Try.prog 13 #[.pointer (some ⟨g, 0, none⟩), .int .i64 0, .int .i64 number, .int .i64 size, .bool el, .int .i64 now] w fun e w' => e = .returned (.int .i64 20) ∧ w = w' := by
  have HS := Lib.hid (rightSpace_any w 0)
  rw [decide_eq_true (by decide)] at HS
  have HT := Lib.hid (rightTime_any w hL now)
  rw [decide_eq_true ht] at HT
  obtain ⟨a0, c0, a1, c1, a2, c2, hb, _⟩ := hL
  have d0 := hb.has.cell 1 rfl
  have d1 := hb.has.cell 2 rfl
  have hfI : 4096 ≤ (L.s0.out.length : Int) := by omega
  obtain ⟨p1, p2, p3, p4⟩ := hp
  clear hb ht
  go_enter Try.func13, Try.ntmps13
  go_wp2_with fail
  refine HS.out.mono ?_
  rintro e w2 ⟨rfl, rfl⟩
  go_wp2_with fail
  refine HT.out.mono ?_
  rintro e w3 ⟨rfl, rfl⟩
  go_wp2
  go_ret
  exact ⟨rfl, rfl⟩

set_option maxRecDepth 100000 in
set_option maxHeartbeats 2000000 in
theorem sent_ok0_true (w : World) {F : Nat → Prop} {g : Nat} {L : Lo} (hL : LAt F w g L) (number size : Int) (now : Int) (ht : L.now ≤ now ∧ now ≤ 1099511627776) (hp : L.s0.takes number size) (hf : L.s0.out.length < 4096) :
    Calls Try.prog 13 #[.pointer (some ⟨g, 0, none⟩), .int .i64 0, .int .i64 number, .int .i64 size, .bool true, .int .i64 now] w fun e w' => e = .returned (.int .i64 0) ∧ Kept F w w' ∧ LAt (Fat F w w') w' g (L.sent0 number size true now) := by
  have HS := Lib.hid (rightSpace_any w 0)
  rw [decide_eq_true (by decide)] at HS
  have HT := Lib.hid (rightTime_any w hL now)
  rw [decide_eq_true ht] at HT
  obtain ⟨a0, c0, a1, c1, a2, c2, hb, F0, Fa0, Fa1, Fa2⟩ := hL
  have d0 := hb.has.cell 1 rfl
  have d1 := hb.has.cell 2 rfl
  have d2 := hb.has.cell 16 rfl
  have d3 := hb.has.cell 5 rfl
  have f1 := hb.has.free 2
  have f2 := hb.has.free 16
  have f3 := hb.has.free 5
  have hfI : ¬ 4096 ≤ (L.s0.out.length : Int) := by omega
  obtain ⟨p1, p2, p3, p4⟩ := hp
  clear ht
  -- now, the number, the last one's time
  have k1 := Kept.set w g 16 (.int .i64 now)
  have k2 := k1.trans (Kept.set (w.setCell ⟨g, 16, none⟩ (.int .i64 now)) g 2 (.int .i64 number)) (fun _ _ h => h)
  have H2 := (hb.has.set 16 (.int .i64 now)).set 2 (.int .i64 number)
  have k3 := k2.trans (Kept.set ((w.setCell ⟨g, 16, none⟩ (.int .i64 now)).setCell ⟨g, 2, none⟩ (.int .i64 number)) g 5 (.int .i64 now)) (fun _ _ h => h)
  have H3 := H2.set 5 (.int .i64 now)
  have R0 := own_kept' hb.r0 k3 (fun ad ha e => hb.g0 ad ha e)
  have R1 := own_kept' hb.r1 k3 (fun ad ha e => hb.g1 ad ha e)
  have R2 := own_kept' hb.r2 k3 (fun ad ha e => hb.g2 ad ha e)
  have e0 := H3.cell 1 rfl
  have e0f := H3.free 1
  have z3 := k3.size
  have hgz := H3.lt
  -- the packet
  have hal : Below ((((w.setCell ⟨g, 16, none⟩ (.int .i64 now)).setCell ⟨g, 2, none⟩ (.int .i64 number)).setCell ⟨g, 5, none⟩ (.int .i64 now))).heap.size ((((w.setCell ⟨g, 16, none⟩ (.int .i64 now)).setCell ⟨g, 2, none⟩ (.int .i64 number)).setCell ⟨g, 5, none⟩ (.int .i64 now))) (((((w.setCell ⟨g, 16, none⟩ (.int .i64 now)).setCell ⟨g, 2, none⟩ (.int .i64 number)).setCell ⟨g, 5, none⟩ (.int .i64 now))).alloc (.cells #[.int .i64 number, .int .i64 size, .int .i64 now, .bool true] 68)) := (Below.refl _ _).alloc (Nat.le_refl _) _
  have sz3 : ((((w.setCell ⟨g, 16, none⟩ (.int .i64 now)).setCell ⟨g, 2, none⟩ (.int .i64 number)).setCell ⟨g, 5, none⟩ (.int .i64 now))).heap.size = w.heap.size := by simp [World.setCell]
  obtain ⟨a4, c4', w4, hr4, ho4, hg4, hno4⟩ := run_app_pk (tyo := 59) (B := 0) (p := ⟨number, size, now, true⟩) (b := ((((w.setCell ⟨g, 16, none⟩ (.int .i64 now)).setCell ⟨g, 2, none⟩ (.int .i64 number)).setCell ⟨g, 5, none⟩ (.int .i64 now))).heap.size) (own_below R0 hal) (heap_alloc_new ((((w.setCell ⟨g, 16, none⟩ (.int .i64 now)).setCell ⟨g, 2, none⟩ (.int .i64 number)).setCell ⟨g, 5, none⟩ (.int .i64 now))) _) (by omega) (Nat.zero_le _)
  rw [sz3] at hr4
  have k4 := Kept.of_grown hg4
  have g0 := hb.g0
  have H4 := (H3.kept (Kept.of_below (X := none') hal) (fun h => h)).kept k4 (fun e => blk_ne g0 e)
  have RX_4 := own_kept' (own_below R1 hal) k4 (fun ad ha e => by
    cases hda : a0 with
    | none => rw [hda] at e; cases e
    | some y => rw [hda] at e; exact hb.d01 y ad hda ha (by simpa [Value.ownBlock] using e))
  have RY_4 := own_kept' (own_below R2 hal) k4 (fun ad ha e => by
    cases hda : a0 with
    | none => rw [hda] at e; cases e
    | some y => rw [hda] at e; exact hb.d02 y ad hda ha (by simpa [Value.ownBlock] using e))
  have t0 := H4.cell 1 rfl
  have t0f := H4.free 1
  have k5 := Kept.set w4 g 1 (.slice a4 (L.s0.out.length + 1) c4')
  have H5 := H4.set 1 (.slice a4 (L.s0.out.length + 1) c4')
  have a4g : ∀ ad, a4 = some ad → ad.block ≠ g := fun ad ha => by
    rcases newOr_at hno4 ha with ⟨y, hy, e⟩ | e
    · rw [← e]; exact hb.g0 y hy
    · have := hal.size; omega
  have RX_5 := own_kept' RX_4 k5 (fun ad ha e => hb.g1 ad ha e)
  have RY_5 := own_kept' RY_4 k5 (fun ad ha e => hb.g2 ad ha e)
  have R5 := own_kept' ho4 k5 (fun ad ha e => a4g ad ha e)
  have z4 := k4.size
  have z5 := k5.size
  have z34 := hal.size
  have aX : ∀ ad ad', a4 = some ad → a1 = some ad' → ad.block ≠ ad'.block := fun ad ad' ha ha' => by
    rcases newOr_at hno4 ha with ⟨y, hy, e⟩ | e
    · rw [← e]; exact hb.d01 y ad' hy ha'
    · have := own_at R1 ha'; omega
  have aY : ∀ ad ad', a4 = some ad → a2 = some ad' → ad.block ≠ ad'.block := fun ad ad' ha ha' => by
    rcases newOr_at hno4 ha with ⟨y, hy, e⟩ | e
    · rw [← e]; exact hb.d02 y ad' hy ha'
    · have := own_at R2 ha'; omega
  have HRES : Hid (Kept F w (w4.setCell ⟨g, 1, none⟩ (.slice a4 (L.s0.out.length + 1) c4')) ∧ LAt (Fat F w (w4.setCell ⟨g, 1, none⟩ (.slice a4 (L.s0.out.length + 1) c4'))) (w4.setCell ⟨g, 1, none⟩ (.slice a4 (L.s0.out.length + 1) c4')) g (L.sent0 number size true now)) := Lib.hid (by
    refine ⟨?_, a4, c4', a1, c1, a2, c2, ⟨?_, ?_, RX_5, RY_5, a4g, hb.g1, hb.g2, aX, aY, hb.d12⟩, .inl F0, (fun ad ha => by
      rcases newOr_at hno4 ha with ⟨y, hy, e⟩ | e
      · rw [← e]; exact .inl (Fa0 y hy)
      · exact .inr ⟨by omega, own_at R5 ha⟩), (fun ad ha => .inl (Fa1 ad ha)), (fun ad ha => .inl (Fa2 ad ha))⟩
    · have K3 : Kept F w ((((w.setCell ⟨g, 16, none⟩ (.int .i64 now)).setCell ⟨g, 2, none⟩ (.int .i64 number)).setCell ⟨g, 5, none⟩ (.int .i64 now))) := k3.more (fun _ _ e => by rw [e]; exact F0)
      have K4 := (K3.trans (Kept.of_below (X := none') hal) (fun _ _ h => h.elim)).trans k4 (fun j hj e => by
        cases hda : a0 with
        | none => rw [hda] at e; cases e
        | some y => rw [hda] at e; simp only [Value.ownBlock, Option.some.injEq] at e; rw [← e]; exact Fa0 y hda)
      exact K4.trans k5 (fun j _ e => by rw [e]; exact F0)
    · have lo : (L.s0.sent number size true now).out.length = L.s0.out.length + 1 := by simp [Sp.sent]
      have e : lcells (L.sent0 number size true now) a4 c4' a1 c1 a2 c2 = ((((lcells L a0 c0 a1 c1 a2 c2).set 16 (.int .i64 now)).set 2 (.int .i64 number)).set 5 (.int .i64 now)).set 1 (.slice a4 (L.s0.out.length + 1) c4') := by
        unfold lcells Lo.sent0 spc
        simp only [lo]
        rfl
      rw [e]
      exact H5
    · have lo : (L.s0.sent number size true now).out.length = L.s0.out.length + 1 := by simp [Sp.sent]
      show (w4.setCell _ _).ownsRow 0 _ 4 (.slice a4 (L.s0.sent number size true now).out.length c4') (L.s0.sent number size true now).out.length (pv (L.s0.sent number size true now).out)
      rw [lo]
      exact R5)
  clear k1 k2 H2 k3 H3 R0 R1 R2 hal k4 H4 RX_4 RY_4 k5 H5 RX_5 RY_5 R5 hb hg4 ho4
  go_enter Try.func13, Try.ntmps13
  go_wp2_with fail
  refine HS.out.mono ?_
  rintro e w2 ⟨rfl, rfl⟩
  go_wp2_with fail
  refine HT.out.mono ?_
  rintro e w3 ⟨rfl, rfl⟩
  go_wp2_with (at_builtin; refine Lib.wpList_append_run _ rfl _ _ _ _ rfl (.slice a0 L.s0.out.length c0) (.slice (some ⟨w.heap.size, 0, none⟩) 1 1) rfl rfl _ _ hr4 ?_)
  go_ret
  exact ⟨rfl, HRES.out.1, HRES.out.2⟩

set_option maxRecDepth 100000 in
set_option maxHeartbeats 2000000 in
theorem sent_ok0_false (w : World) {F : Nat → Prop} {g : Nat} {L : Lo} (hL : LAt F w g L) (number size : Int) (now : Int) (ht : L.now ≤ now ∧ now ≤ 1099511627776) (hp : L.s0.takes number size) (hf : L.s0.out.length < 4096) :
    Calls Try.prog 13 #[.pointer (some ⟨g, 0, none⟩), .int .i64 0, .int .i64 number, .int .i64 size, .bool false, .int .i64 now] w fun e w' => e = .returned (.int .i64 0) ∧ Kept F w w' ∧ LAt (Fat F w w') w' g (L.sent0 number size false now) := by
  have HS := Lib.hid (rightSpace_any w 0)
  rw [decide_eq_true (by decide)] at HS
  have HT := Lib.hid (rightTime_any w hL now)
  rw [decide_eq_true ht] at HT
  obtain ⟨a0, c0, a1, c1, a2, c2, hb, F0, Fa0, Fa1, Fa2⟩ := hL
  have d0 := hb.has.cell 1 rfl
  have d1 := hb.has.cell 2 rfl
  have d2 := hb.has.cell 16 rfl
  have d3 := hb.has.cell 5 rfl
  have f1 := hb.has.free 2
  have f2 := hb.has.free 16
  have f3 := hb.has.free 5
  have hfI : ¬ 4096 ≤ (L.s0.out.length : Int) := by omega
  obtain ⟨p1, p2, p3, p4⟩ := hp
  clear ht
  -- now, the number, the last one's time
  have k1 := Kept.set w g 16 (.int .i64 now)
  have k2 := k1.trans (Kept.set (w.setCell ⟨g, 16, none⟩ (.int .i64 now)) g 2 (.int .i64 number)) (fun _ _ h => h)
  have H2 := (hb.has.set 16 (.int .i64 now)).set 2 (.int .i64 number)
  have k3 := k2
  have H3 := H2
  have R0 := own_kept' hb.r0 k3 (fun ad ha e => hb.g0 ad ha e)
  have R1 := own_kept' hb.r1 k3 (fun ad ha e => hb.g1 ad ha e)
  have R2 := own_kept' hb.r2 k3 (fun ad ha e => hb.g2 ad ha e)
  have e0 := H3.cell 1 rfl
  have e0f := H3.free 1
  have z3 := k3.size
  have hgz := H3.lt
  -- the packet
  have hal : Below (((w.setCell ⟨g, 16, none⟩ (.int .i64 now)).setCell ⟨g, 2, none⟩ (.int .i64 number))).heap.size (((w.setCell ⟨g, 16, none⟩ (.int .i64 now)).setCell ⟨g, 2, none⟩ (.int .i64 number))) ((((w.setCell ⟨g, 16, none⟩ (.int .i64 now)).setCell ⟨g, 2, none⟩ (.int .i64 number))).alloc (.cells #[.int .i64 number, .int .i64 0, .int .i64 now, .bool false] 68)) := (Below.refl _ _).alloc (Nat.le_refl _) _
  have sz3 : (((w.setCell ⟨g, 16, none⟩ (.int .i64 now)).setCell ⟨g, 2, none⟩ (.int .i64 number))).heap.size = w.heap.size := by simp [World.setCell]
  obtain ⟨a4, c4', w4, hr4, ho4, hg4, hno4⟩ := run_app_pk (tyo := 59) (B := 0) (p := ⟨number, 0, now, false⟩) (b := (((w.setCell ⟨g, 16, none⟩ (.int .i64 now)).setCell ⟨g, 2, none⟩ (.int .i64 number))).heap.size) (own_below R0 hal) (heap_alloc_new (((w.setCell ⟨g, 16, none⟩ (.int .i64 now)).setCell ⟨g, 2, none⟩ (.int .i64 number))) _) (by omega) (Nat.zero_le _)
  rw [sz3] at hr4
  have k4 := Kept.of_grown hg4
  have g0 := hb.g0
  have H4 := (H3.kept (Kept.of_below (X := none') hal) (fun h => h)).kept k4 (fun e => blk_ne g0 e)
  have RX_4 := own_kept' (own_below R1 hal) k4 (fun ad ha e => by
    cases hda : a0 with
    | none => rw [hda] at e; cases e
    | some y => rw [hda] at e; exact hb.d01 y ad hda ha (by simpa [Value.ownBlock] using e))
  have RY_4 := own_kept' (own_below R2 hal) k4 (fun ad ha e => by
    cases hda : a0 with
    | none => rw [hda] at e; cases e
    | some y => rw [hda] at e; exact hb.d02 y ad hda ha (by simpa [Value.ownBlock] using e))
  have t0 := H4.cell 1 rfl
  have t0f := H4.free 1
  have k5 := Kept.set w4 g 1 (.slice a4 (L.s0.out.length + 1) c4')
  have H5 := H4.set 1 (.slice a4 (L.s0.out.length + 1) c4')
  have a4g : ∀ ad, a4 = some ad → ad.block ≠ g := fun ad ha => by
    rcases newOr_at hno4 ha with ⟨y, hy, e⟩ | e
    · rw [← e]; exact hb.g0 y hy
    · have := hal.size; omega
  have RX_5 := own_kept' RX_4 k5 (fun ad ha e => hb.g1 ad ha e)
  have RY_5 := own_kept' RY_4 k5 (fun ad ha e => hb.g2 ad ha e)
  have R5 := own_kept' ho4 k5 (fun ad ha e => a4g ad ha e)
  have z4 := k4.size
  have z5 := k5.size
  have z34 := hal.size
  have aX : ∀ ad ad', a4 = some ad → a1 = some ad' → ad.block ≠ ad'.block := fun ad ad' ha ha' => by
    rcases newOr_at hno4 ha with ⟨y, hy, e⟩ | e
    · rw [← e]; exact hb.d01 y ad' hy ha'
    · have := own_at R1 ha'; omega
  have aY : ∀ ad ad', a4 = some ad → a2 = some ad' → ad.block ≠ ad'.block := fun ad ad' ha ha' => by
    rcases newOr_at hno4 ha with ⟨y, hy, e⟩ | e
    · rw [← e]; exact hb.d02 y ad' hy ha'
    · have := own_at R2 ha'; omega
  have HRES : Hid (Kept F w (w4.setCell ⟨g, 1, none⟩ (.slice a4 (L.s0.out.length + 1) c4')) ∧ LAt (Fat F w (w4.setCell ⟨g, 1, none⟩ (.slice a4 (L.s0.out.length + 1) c4'))) (w4.setCell ⟨g, 1, none⟩ (.slice a4 (L.s0.out.length + 1) c4')) g (L.sent0 number size false now)) := Lib.hid (by
    refine ⟨?_, a4, c4', a1, c1, a2, c2, ⟨?_, ?_, RX_5, RY_5, a4g, hb.g1, hb.g2, aX, aY, hb.d12⟩, .inl F0, (fun ad ha => by
      rcases newOr_at hno4 ha with ⟨y, hy, e⟩ | e
      · rw [← e]; exact .inl (Fa0 y hy)
      · exact .inr ⟨by omega, own_at R5 ha⟩), (fun ad ha => .inl (Fa1 ad ha)), (fun ad ha => .inl (Fa2 ad ha))⟩
    · have K3 : Kept F w (((w.setCell ⟨g, 16, none⟩ (.int .i64 now)).setCell ⟨g, 2, none⟩ (.int .i64 number))) := k3.more (fun _ _ e => by rw [e]; exact F0)
      have K4 := (K3.trans (Kept.of_below (X := none') hal) (fun _ _ h => h.elim)).trans k4 (fun j hj e => by
        cases hda : a0 with
        | none => rw [hda] at e; cases e
        | some y => rw [hda] at e; simp only [Value.ownBlock, Option.some.injEq] at e; rw [← e]; exact Fa0 y hda)
      exact K4.trans k5 (fun j _ e => by rw [e]; exact F0)
    · have lo : (L.s0.sent number size false now).out.length = L.s0.out.length + 1 := by simp [Sp.sent]
      have e : lcells (L.sent0 number size false now) a4 c4' a1 c1 a2 c2 = ((((lcells L a0 c0 a1 c1 a2 c2).set 16 (.int .i64 now)).set 2 (.int .i64 number))).set 1 (.slice a4 (L.s0.out.length + 1) c4') := by
        unfold lcells Lo.sent0 spc
        simp only [lo]
        rfl
      rw [e]
      exact H5
    · have lo : (L.s0.sent number size false now).out.length = L.s0.out.length + 1 := by simp [Sp.sent]
      show (w4.setCell _ _).ownsRow 0 _ 4 (.slice a4 (L.s0.sent number size false now).out.length c4') (L.s0.sent number size false now).out.length (pv (L.s0.sent number size false now).out)
      rw [lo]
      exact R5)
  clear k1 k2 H2 k3 H3 R0 R1 R2 hal k4 H4 RX_4 RY_4 k5 H5 RX_5 RY_5 R5 hb hg4 ho4
  go_enter Try.func13, Try.ntmps13
  go_wp2_with fail
  refine HS.out.mono ?_
  rintro e w2 ⟨rfl, rfl⟩
  go_wp2_with fail
  refine HT.out.mono ?_
  rintro e w3 ⟨rfl, rfl⟩
  go_wp2_with (at_builtin; refine Lib.wpList_append_run _ rfl _ _ _ _ rfl (.slice a0 L.s0.out.length c0) (.slice (some ⟨w.heap.size, 0, none⟩) 1 1) rfl rfl _ _ hr4 ?_)
  go_ret
  exact ⟨rfl, HRES.out.1, HRES.out.2⟩

set_option maxRecDepth 100000 in
theorem sent_packet1 (w : World) {F : Nat → Prop} {g : Nat} {L : Lo} (hL : LAt F w g L) (number size : Int) (el : Bool) (now : Int) (ht : L.now ≤ now ∧ now ≤ 1099511627776) (hp : ¬ L.s1.takes number size) :
    Calls Try.prog 13 #[.pointer (some ⟨g, 0, none⟩), .int .i64 1, .int .i64 number, .int .i64 size, .bool el, .int .i64 now] w fun e w' => e = .returned (.int .i64 111) ∧ w = w' := by
  have HS := Lib.hid (rightSpace_any w 1)
  rw [decide_eq_true (by decide)] at HS
  have HT := Lib.hid (rightTime_any w hL now)
  rw [decide_eq_true ht] at HT
  obtain ⟨a0, c0, a1, c1, a2, c2, hb, _⟩ := hL
  have d1 := hb.has.cell 7 rfl
  clear hb ht
  have cs : (number ≤ L.s1.high) ∨ (¬ number ≤ L.s1.high ∧ 4611686018427387903 < number) ∨ (¬ number ≤ L.s1.high ∧ ¬ 4611686018427387903 < number ∧ size < 0) ∨ (¬ number ≤ L.s1.high ∧ ¬ 4611686018427387903 < number ∧ ¬ size < 0 ∧ 65535 < size) := by
    unfold Sp.takes at hp
    omega
  clear hp
  rcases cs with h1 | ⟨h1, h2⟩ | ⟨h1, h2, h3⟩ | ⟨h1, h2, h3, h4⟩
  all_goals
    go_enter Try.func13, Try.ntmps13
    go_wp2_with fail
    refine HS.out.mono ?_
    rintro e w2 ⟨rfl, rfl⟩
    go_wp2_with fail
    refine HT.out.mono ?_
    rintro e w3 ⟨rfl, rfl⟩
    go_wp2
    go_ret
    exact ⟨rfl, rfl⟩

set_option maxRecDepth 100000 in
theorem sent_full1 (w : World) {F : Nat → Prop} {g : Nat} {L : Lo} (hL : LAt F w g L) (number size : Int) (el : Bool) (now : Int) (ht : L.now ≤ now ∧ now ≤ 1099511627776) (hp : L.s1.takes number size) (hf : 4096 ≤ L.s1.out.length) :
    Calls Try.prog 13 #[.pointer (some ⟨g, 0, none⟩), .int .i64 1, .int .i64 number, .int .i64 size, .bool el, .int .i64 now] w fun e w' => e = .returned (.int .i64 20) ∧ w = w' := by
  have HS := Lib.hid (rightSpace_any w 1)
  rw [decide_eq_true (by decide)] at HS
  have HT := Lib.hid (rightTime_any w hL now)
  rw [decide_eq_true ht] at HT
  obtain ⟨a0, c0, a1, c1, a2, c2, hb, _⟩ := hL
  have d0 := hb.has.cell 6 rfl
  have d1 := hb.has.cell 7 rfl
  have hfI : 4096 ≤ (L.s1.out.length : Int) := by omega
  obtain ⟨p1, p2, p3, p4⟩ := hp
  clear hb ht
  go_enter Try.func13, Try.ntmps13
  go_wp2_with fail
  refine HS.out.mono ?_
  rintro e w2 ⟨rfl, rfl⟩
  go_wp2_with fail
  refine HT.out.mono ?_
  rintro e w3 ⟨rfl, rfl⟩
  go_wp2
  go_ret
  exact ⟨rfl, rfl⟩

set_option maxRecDepth 100000 in
set_option maxHeartbeats 2000000 in
theorem sent_ok1_true (w : World) {F : Nat → Prop} {g : Nat} {L : Lo} (hL : LAt F w g L) (number size : Int) (now : Int) (ht : L.now ≤ now ∧ now ≤ 1099511627776) (hp : L.s1.takes number size) (hf : L.s1.out.length < 4096) :
    Calls Try.prog 13 #[.pointer (some ⟨g, 0, none⟩), .int .i64 1, .int .i64 number, .int .i64 size, .bool true, .int .i64 now] w fun e w' => e = .returned (.int .i64 0) ∧ Kept F w w' ∧ LAt (Fat F w w') w' g (L.sent1 number size true now) := by
  have HS := Lib.hid (rightSpace_any w 1)
  rw [decide_eq_true (by decide)] at HS
  have HT := Lib.hid (rightTime_any w hL now)
  rw [decide_eq_true ht] at HT
  obtain ⟨a0, c0, a1, c1, a2, c2, hb, F0, Fa0, Fa1, Fa2⟩ := hL
  have d0 := hb.has.cell 6 rfl
  have d1 := hb.has.cell 7 rfl
  have d2 := hb.has.cell 16 rfl
  have d3 := hb.has.cell 10 rfl
  have f1 := hb.has.free 7
  have f2 := hb.has.free 16
  have f3 := hb.has.free 10
  have hfI : ¬ 4096 ≤ (L.s1.out.length : Int) := by omega
  obtain ⟨p1, p2, p3, p4⟩ := hp
  clear ht
  -- now, the number, the last one's time
  have k1 := Kept.set w g 16 (.int .i64 now)
  have k2 := k1.trans (Kept.set (w.setCell ⟨g, 16, none⟩ (.int .i64 now)) g 7 (.int .i64 number)) (fun _ _ h => h)
  have H2 := (hb.has.set 16 (.int .i64 now)).set 7 (.int .i64 number)
  have k3 := k2.trans (Kept.set ((w.setCell ⟨g, 16, none⟩ (.int .i64 now)).setCell ⟨g, 7, none⟩ (.int .i64 number)) g 10 (.int .i64 now)) (fun _ _ h => h)
  have H3 := H2.set 10 (.int .i64 now)
  have R0 := own_kept' hb.r0 k3 (fun ad ha e => hb.g0 ad ha e)
  have R1 := own_kept' hb.r1 k3 (fun ad ha e => hb.g1 ad ha e)
  have R2 := own_kept' hb.r2 k3 (fun ad ha e => hb.g2 ad ha e)
  have e0 := H3.cell 6 rfl
  have e0f := H3.free 6
  have z3 := k3.size
  have hgz := H3.lt
  -- the packet
  have hal : Below ((((w.setCell ⟨g, 16, none⟩ (.int .i64 now)).setCell ⟨g, 7, none⟩ (.int .i64 number)).setCell ⟨g, 10, none⟩ (.int .i64 now))).heap.size ((((w.setCell ⟨g, 16, none⟩ (.int .i64 now)).setCell ⟨g, 7, none⟩ (.int .i64 number)).setCell ⟨g, 10, none⟩ (.int .i64 now))) (((((w.setCell ⟨g, 16, none⟩ (.int .i64 now)).setCell ⟨g, 7, none⟩ (.int .i64 number)).setCell ⟨g, 10, none⟩ (.int .i64 now))).alloc (.cells #[.int .i64 number, .int .i64 size, .int .i64 now, .bool true] 68)) := (Below.refl _ _).alloc (Nat.le_refl _) _
  have sz3 : ((((w.setCell ⟨g, 16, none⟩ (.int .i64 now)).setCell ⟨g, 7, none⟩ (.int .i64 number)).setCell ⟨g, 10, none⟩ (.int .i64 now))).heap.size = w.heap.size := by simp [World.setCell]
  obtain ⟨a4, c4', w4, hr4, ho4, hg4, hno4⟩ := run_app_pk (tyo := 59) (B := 0) (p := ⟨number, size, now, true⟩) (b := ((((w.setCell ⟨g, 16, none⟩ (.int .i64 now)).setCell ⟨g, 7, none⟩ (.int .i64 number)).setCell ⟨g, 10, none⟩ (.int .i64 now))).heap.size) (own_below R1 hal) (heap_alloc_new ((((w.setCell ⟨g, 16, none⟩ (.int .i64 now)).setCell ⟨g, 7, none⟩ (.int .i64 number)).setCell ⟨g, 10, none⟩ (.int .i64 now))) _) (by omega) (Nat.zero_le _)
  rw [sz3] at hr4
  have k4 := Kept.of_grown hg4
  have g1 := hb.g1
  have H4 := (H3.kept (Kept.of_below (X := none') hal) (fun h => h)).kept k4 (fun e => blk_ne g1 e)
  have RX_4 := own_kept' (own_below R0 hal) k4 (fun ad ha e => by
    cases hda : a1 with
    | none => rw [hda] at e; cases e
    | some y => rw [hda] at e; exact hb.d01 ad y ha hda (by simpa [Value.ownBlock] using e.symm))
  have RY_4 := own_kept' (own_below R2 hal) k4 (fun ad ha e => by
    cases hda : a1 with
    | none => rw [hda] at e; cases e
    | some y => rw [hda] at e; exact hb.d12 y ad hda ha (by simpa [Value.ownBlock] using e))
  have t0 := H4.cell 6 rfl
  have t0f := H4.free 6
  have k5 := Kept.set w4 g 6 (.slice a4 (L.s1.out.length + 1) c4')
  have H5 := H4.set 6 (.slice a4 (L.s1.out.length + 1) c4')
  have a4g : ∀ ad, a4 = some ad → ad.block ≠ g := fun ad ha => by
    rcases newOr_at hno4 ha with ⟨y, hy, e⟩ | e
    · rw [← e]; exact hb.g1 y hy
    · have := hal.size; omega
  have RX_5 := own_kept' RX_4 k5 (fun ad ha e => hb.g0 ad ha e)
  have RY_5 := own_kept' RY_4 k5 (fun ad ha e => hb.g2 ad ha e)
  have R5 := own_kept' ho4 k5 (fun ad ha e => a4g ad ha e)
  have z4 := k4.size
  have z5 := k5.size
  have z34 := hal.size
  have aX : ∀ ad ad', a4 = some ad → a0 = some ad' → ad.block ≠ ad'.block := fun ad ad' ha ha' => by
    rcases newOr_at hno4 ha with ⟨y, hy, e⟩ | e
    · rw [← e]; exact fun e2 => hb.d01 ad' y ha' hy e2.symm
    · have := own_at R0 ha'; omega
  have aY : ∀ ad ad', a4 = some ad → a2 = some ad' → ad.block ≠ ad'.block := fun ad ad' ha ha' => by
    rcases newOr_at hno4 ha with ⟨y, hy, e⟩ | e
    · rw [← e]; exact hb.d12 y ad' hy ha'
    · have := own_at R2 ha'; omega
  have HRES : Hid (Kept F w (w4.setCell ⟨g, 6, none⟩ (.slice a4 (L.s1.out.length + 1) c4')) ∧ LAt (Fat F w (w4.setCell ⟨g, 6, none⟩ (.slice a4 (L.s1.out.length + 1) c4'))) (w4.setCell ⟨g, 6, none⟩ (.slice a4 (L.s1.out.length + 1) c4')) g (L.sent1 number size true now)) := Lib.hid (by
    refine ⟨?_, a0, c0, a4, c4', a2, c2, ⟨?_, RX_5, ?_, RY_5, hb.g0, a4g, hb.g2, (fun ad ad' ha ha' e => aX ad' ad ha' ha e.symm), hb.d02, aY⟩, .inl F0, (fun ad ha => .inl (Fa0 ad ha)), (fun ad ha => by
      rcases newOr_at hno4 ha with ⟨y, hy, e⟩ | e
      · rw [← e]; exact .inl (Fa1 y hy)
      · exact .inr ⟨by omega, own_at R5 ha⟩), (fun ad ha => .inl (Fa2 ad ha))⟩
    · have K3 : Kept F w ((((w.setCell ⟨g, 16, none⟩ (.int .i64 now)).setCell ⟨g, 7, none⟩ (.int .i64 number)).setCell ⟨g, 10, none⟩ (.int .i64 now))) := k3.more (fun _ _ e => by rw [e]; exact F0)
      have K4 := (K3.trans (Kept.of_below (X := none') hal) (fun _ _ h => h.elim)).trans k4 (fun j hj e => by
        cases hda : a1 with
        | none => rw [hda] at e; cases e
        | some y => rw [hda] at e; simp only [Value.ownBlock, Option.some.injEq] at e; rw [← e]; exact Fa1 y hda)
      exact K4.trans k5 (fun j _ e => by rw [e]; exact F0)
    · have lo : (L.s1.sent number size true now).out.length = L.s1.out.length + 1 := by simp [Sp.sent]
      have e : lcells (L.sent1 number size true now) a0 c0 a4 c4' a2 c2 = ((((lcells L a0 c0 a1 c1 a2 c2).set 16 (.int .i64 now)).set 7 (.int .i64 number)).set 10 (.int .i64 now)).set 6 (.slice a4 (L.s1.out.length + 1) c4') := by
        unfold lcells Lo.sent1 spc
        simp only [lo]
        rfl
      rw [e]
      exact H5
    · have lo : (L.s1.sent number size true now).out.length = L.s1.out.length + 1 := by simp [Sp.sent]
      show (w4.setCell _ _).ownsRow 0 _ 4 (.slice a4 (L.s1.sent number size true now).out.length c4') (L.s1.sent number size true now).out.length (pv (L.s1.sent number size true now).out)
      rw [lo]
      exact R5)
  clear k1 k2 H2 k3 H3 R0 R1 R2 hal k4 H4 RX_4 RY_4 k5 H5 RX_5 RY_5 R5 hb hg4 ho4
  go_enter Try.func13, Try.ntmps13
  go_wp2_with fail
  refine HS.out.mono ?_
  rintro e w2 ⟨rfl, rfl⟩
  go_wp2_with fail
  refine HT.out.mono ?_
  rintro e w3 ⟨rfl, rfl⟩
  go_wp2_with (at_builtin; refine Lib.wpList_append_run _ rfl _ _ _ _ rfl (.slice a1 L.s1.out.length c1) (.slice (some ⟨w.heap.size, 0, none⟩) 1 1) rfl rfl _ _ hr4 ?_)
  go_ret
  exact ⟨rfl, HRES.out.1, HRES.out.2⟩

set_option maxRecDepth 100000 in
set_option maxHeartbeats 2000000 in
theorem sent_ok1_false (w : World) {F : Nat → Prop} {g : Nat} {L : Lo} (hL : LAt F w g L) (number size : Int) (now : Int) (ht : L.now ≤ now ∧ now ≤ 1099511627776) (hp : L.s1.takes number size) (hf : L.s1.out.length < 4096) :
    Calls Try.prog 13 #[.pointer (some ⟨g, 0, none⟩), .int .i64 1, .int .i64 number, .int .i64 size, .bool false, .int .i64 now] w fun e w' => e = .returned (.int .i64 0) ∧ Kept F w w' ∧ LAt (Fat F w w') w' g (L.sent1 number size false now) := by
  have HS := Lib.hid (rightSpace_any w 1)
  rw [decide_eq_true (by decide)] at HS
  have HT := Lib.hid (rightTime_any w hL now)
  rw [decide_eq_true ht] at HT
  obtain ⟨a0, c0, a1, c1, a2, c2, hb, F0, Fa0, Fa1, Fa2⟩ := hL
  have d0 := hb.has.cell 6 rfl
  have d1 := hb.has.cell 7 rfl
  have d2 := hb.has.cell 16 rfl
  have d3 := hb.has.cell 10 rfl
  have f1 := hb.has.free 7
  have f2 := hb.has.free 16
  have f3 := hb.has.free 10
  have hfI : ¬ 4096 ≤ (L.s1.out.length : Int) := by omega
  obtain ⟨p1, p2, p3, p4⟩ := hp
  clear ht
  -- now, the number, the last one's time
  have k1 := Kept.set w g 16 (.int .i64 now)
  have k2 := k1.trans (Kept.set (w.setCell ⟨g, 16, none⟩ (.int .i64 now)) g 7 (.int .i64 number)) (fun _ _ h => h)
  have H2 := (hb.has.set 16 (.int .i64 now)).set 7 (.int .i64 number)
  have k3 := k2
  have H3 := H2
  have R0 := own_kept' hb.r0 k3 (fun ad ha e => hb.g0 ad ha e)
  have R1 := own_kept' hb.r1 k3 (fun ad ha e => hb.g1 ad ha e)
  have R2 := own_kept' hb.r2 k3 (fun ad ha e => hb.g2 ad ha e)
  have e0 := H3.cell 6 rfl
  have e0f := H3.free 6
  have z3 := k3.size
  have hgz := H3.lt
  -- the packet
  have hal : Below (((w.setCell ⟨g, 16, none⟩ (.int .i64 now)).setCell ⟨g, 7, none⟩ (.int .i64 number))).heap.size (((w.setCell ⟨g, 16, none⟩ (.int .i64 now)).setCell ⟨g, 7, none⟩ (.int .i64 number))) ((((w.setCell ⟨g, 16, none⟩ (.int .i64 now)).setCell ⟨g, 7, none⟩ (.int .i64 number))).alloc (.cells #[.int .i64 number, .int .i64 0, .int .i64 now, .bool false] 68)) := (Below.refl _ _).alloc (Nat.le_refl _) _
  have sz3 : (((w.setCell ⟨g, 16, none⟩ (.int .i64 now)).setCell ⟨g, 7, none⟩ (.int .i64 number))).heap.size = w.heap.size := by simp [World.setCell]
  obtain ⟨a4, c4', w4, hr4, ho4, hg4, hno4⟩ := run_app_pk (tyo := 59) (B := 0) (p := ⟨number, 0, now, false⟩) (b := (((w.setCell ⟨g, 16, none⟩ (.int .i64 now)).setCell ⟨g, 7, none⟩ (.int .i64 number))).heap.size) (own_below R1 hal) (heap_alloc_new (((w.setCell ⟨g, 16, none⟩ (.int .i64 now)).setCell ⟨g, 7, none⟩ (.int .i64 number))) _) (by omega) (Nat.zero_le _)
  rw [sz3] at hr4
  have k4 := Kept.of_grown hg4
  have g1 := hb.g1
  have H4 := (H3.kept (Kept.of_below (X := none') hal) (fun h => h)).kept k4 (fun e => blk_ne g1 e)
  have RX_4 := own_kept' (own_below R0 hal) k4 (fun ad ha e => by
    cases hda : a1 with
    | none => rw [hda] at e; cases e
    | some y => rw [hda] at e; exact hb.d01 ad y ha hda (by simpa [Value.ownBlock] using e.symm))
  have RY_4 := own_kept' (own_below R2 hal) k4 (fun ad ha e => by
    cases hda : a1 with
    | none => rw [hda] at e; cases e
    | some y => rw [hda] at e; exact hb.d12 y ad hda ha (by simpa [Value.ownBlock] using e))
  have t0 := H4.cell 6 rfl
  have t0f := H4.free 6
  have k5 := Kept.set w4 g 6 (.slice a4 (L.s1.out.length + 1) c4')
  have H5 := H4.set 6 (.slice a4 (L.s1.out.length + 1) c4')
  have a4g : ∀ ad, a4 = some ad → ad.block ≠ g := fun ad ha => by
    rcases newOr_at hno4 ha with ⟨y, hy, e⟩ | e
    · rw [← e]; exact hb.g1 y hy
    · have := hal.size; omega
  have RX_5 := own_kept' RX_4 k5 (fun ad ha e => hb.g0 ad ha e)
  have RY_5 := own_kept' RY_4 k5 (fun ad ha e => hb.g2 ad ha e)
  have R5 := own_kept' ho4 k5 (fun ad ha e => a4g ad ha e)
  have z4 := k4.size
  have z5 := k5.size
  have z34 := hal.size
  have aX : ∀ ad ad', a4 = some ad → a0 = some ad' → ad.block ≠ ad'.block := fun ad ad' ha ha' => by
    rcases newOr_at hno4 ha with ⟨y, hy, e⟩ | e
    · rw [← e]; exact fun e2 => hb.d01 ad' y ha' hy e2.symm
    · have := own_at R0 ha'; omega
  have aY : ∀ ad ad', a4 = some ad → a2 = some ad' → ad.block ≠ ad'.block := fun ad ad' ha ha' => by
    rcases newOr_at hno4 ha with ⟨y, hy, e⟩ | e
    · rw [← e]; exact hb.d12 y ad' hy ha'
    · have := own_at R2 ha'; omega
  have HRES : Hid (Kept F w (w4.setCell ⟨g, 6, none⟩ (.slice a4 (L.s1.out.length + 1) c4')) ∧ LAt (Fat F w (w4.setCell ⟨g, 6, none⟩ (.slice a4 (L.s1.out.length + 1) c4'))) (w4.setCell ⟨g, 6, none⟩ (.slice a4 (L.s1.out.length + 1) c4')) g (L.sent1 number size false now)) := Lib.hid (by
    refine ⟨?_, a0, c0, a4, c4', a2, c2, ⟨?_, RX_5, ?_, RY_5, hb.g0, a4g, hb.g2, (fun ad ad' ha ha' e => aX ad' ad ha' ha e.symm), hb.d02, aY⟩, .inl F0, (fun ad ha => .inl (Fa0 ad ha)), (fun ad ha => by
      rcases newOr_at hno4 ha with ⟨y, hy, e⟩ | e
      · rw [← e]; exact .inl (Fa1 y hy)
      · exact .inr ⟨by omega, own_at R5 ha⟩), (fun ad ha => .inl (Fa2 ad ha))⟩
    · have K3 : Kept F w (((w.setCell ⟨g, 16, none⟩ (.int .i64 now)).setCell ⟨g, 7, none⟩ (.int .i64 number))) := k3.more (fun _ _ e => by rw [e]; exact F0)
      have K4 := (K3.trans (Kept.of_below (X := none') hal) (fun _ _ h => h.elim)).trans k4 (fun j hj e => by
        cases hda : a1 with
        | none => rw [hda] at e; cases e
        | some y => rw [hda] at e; simp only [Value.ownBlock, Option.some.injEq] at e; rw [← e]; exact Fa1 y hda)
      exact K4.trans k5 (fun j _ e => by rw [e]; exact F0)
    · have lo : (L.s1.sent number size false now).out.length = L.s1.out.length + 1 := by simp [Sp.sent]
      have e : lcells (L.sent1 number size false now) a0 c0 a4 c4' a2 c2 = ((((lcells L a0 c0 a1 c1 a2 c2).set 16 (.int .i64 now)).set 7 (.int .i64 number))).set 6 (.slice a4 (L.s1.out.length + 1) c4') := by
        unfold lcells Lo.sent1 spc
        simp only [lo]
        rfl
      rw [e]
      exact H5
    · have lo : (L.s1.sent number size false now).out.length = L.s1.out.length + 1 := by simp [Sp.sent]
      show (w4.setCell _ _).ownsRow 0 _ 4 (.slice a4 (L.s1.sent number size false now).out.length c4') (L.s1.sent number size false now).out.length (pv (L.s1.sent number size false now).out)
      rw [lo]
      exact R5)
  clear k1 k2 H2 k3 H3 R0 R1 R2 hal k4 H4 RX_4 RY_4 k5 H5 RX_5 RY_5 R5 hb hg4 ho4
  go_enter Try.func13, Try.ntmps13
  go_wp2_with fail
  refine HS.out.mono ?_
  rintro e w2 ⟨rfl, rfl⟩
  go_wp2_with fail
  refine HT.out.mono ?_
  rintro e w3 ⟨rfl, rfl⟩
  go_wp2_with (at_builtin; refine Lib.wpList_append_run _ rfl _ _ _ _ rfl (.slice a1 L.s1.out.length c1) (.slice (some ⟨w.heap.size, 0, none⟩) 1 1) rfl rfl _ _ hr4 ?_)
  go_ret
  exact ⟨rfl, HRES.out.1, HRES.out.2⟩

set_option maxRecDepth 100000 in
theorem sent_packet2 (w : World) {F : Nat → Prop} {g : Nat} {L : Lo} (hL : LAt F w g L) (number size : Int) (el : Bool) (now : Int) (ht : L.now ≤ now ∧ now ≤ 1099511627776) (hp : ¬ L.s2.takes number size) :
    Calls Try.prog 13 #[.pointer (some ⟨g, 0, none⟩), .int .i64 2, .int .i64 number, .int .i64 size, .bool el, .int .i64 now] w fun e w' => e = .returned (.int .i64 111) ∧ w = w' := by
  have HS := Lib.hid (rightSpace_any w 2)
  rw [decide_eq_true (by decide)] at HS
  have HT := Lib.hid (rightTime_any w hL now)
  rw [decide_eq_true ht] at HT
  obtain ⟨a0, c0, a1, c1, a2, c2, hb, _⟩ := hL
  have d1 := hb.has.cell 12 rfl
  clear hb ht
  have cs : (number ≤ L.s2.high) ∨ (¬ number ≤ L.s2.high ∧ 4611686018427387903 < number) ∨ (¬ number ≤ L.s2.high ∧ ¬ 4611686018427387903 < number ∧ size < 0) ∨ (¬ number ≤ L.s2.high ∧ ¬ 4611686018427387903 < number ∧ ¬ size < 0 ∧ 65535 < size) := by
    unfold Sp.takes at hp
    omega
  clear hp
  rcases cs with h1 | ⟨h1, h2⟩ | ⟨h1, h2, h3⟩ | ⟨h1, h2, h3, h4⟩
  all_goals
    go_enter Try.func13, Try.ntmps13
    go_wp2_with fail
    refine HS.out.mono ?_
    rintro e w2 ⟨rfl, rfl⟩
    go_wp2_with fail
    refine HT.out.mono ?_
    rintro e w3 ⟨rfl, rfl⟩
    go_wp2
    go_ret
    exact ⟨rfl, rfl⟩

set_option maxRecDepth 100000 in
theorem sent_full2 (w : World) {F : Nat → Prop} {g : Nat} {L : Lo} (hL : LAt F w g L) (number size : Int) (el : Bool) (now : Int) (ht : L.now ≤ now ∧ now ≤ 1099511627776) (hp : L.s2.takes number size) (hf : 4096 ≤ L.s2.out.length) :
    Calls Try.prog 13 #[.pointer (some ⟨g, 0, none⟩), .int .i64 2, .int .i64 number, .int .i64 size, .bool el, .int .i64 now] w fun e w' => e = .returned (.int .i64 20) ∧ w = w' := by
  have HS := Lib.hid (rightSpace_any w 2)
  rw [decide_eq_true (by decide)] at HS
  have HT := Lib.hid (rightTime_any w hL now)
  rw [decide_eq_true ht] at HT
  obtain ⟨a0, c0, a1, c1, a2, c2, hb, _⟩ := hL
  have d0 := hb.has.cell 11 rfl
  have d1 := hb.has.cell 12 rfl
  have hfI : 4096 ≤ (L.s2.out.length : Int) := by omega
  obtain ⟨p1, p2, p3, p4⟩ := hp
  clear hb ht
  go_enter Try.func13, Try.ntmps13
  go_wp2_with fail
  refine HS.out.mono ?_
  rintro e w2 ⟨rfl, rfl⟩
  go_wp2_with fail
  refine HT.out.mono ?_
  rintro e w3 ⟨rfl, rfl⟩
  go_wp2
  go_ret
  exact ⟨rfl, rfl⟩

set_option maxRecDepth 100000 in
set_option maxHeartbeats 2000000 in
theorem sent_ok2_true (w : World) {F : Nat → Prop} {g : Nat} {L : Lo} (hL : LAt F w g L) (number size : Int) (now : Int) (ht : L.now ≤ now ∧ now ≤ 1099511627776) (hp : L.s2.takes number size) (hf : L.s2.out.length < 4096) :
    Calls Try.prog 13 #[.pointer (some ⟨g, 0, none⟩), .int .i64 2, .int .i64 number, .int .i64 size, .bool true, .int .i64 now] w fun e w' => e = .returned (.int .i64 0) ∧ Kept F w w' ∧ LAt (Fat F w w') w' g (L.sent2 number size true now) := by
  have HS := Lib.hid (rightSpace_any w 2)
  rw [decide_eq_true (by decide)] at HS
  have HT := Lib.hid (rightTime_any w hL now)
  rw [decide_eq_true ht] at HT
  obtain ⟨a0, c0, a1, c1, a2, c2, hb, F0, Fa0, Fa1, Fa2⟩ := hL
  have d0 := hb.has.cell 11 rfl
  have d1 := hb.has.cell 12 rfl
  have d2 := hb.has.cell 16 rfl
  have d3 := hb.has.cell 15 rfl
  have f1 := hb.has.free 12
  have f2 := hb.has.free 16
  have f3 := hb.has.free 15
  have hfI : ¬ 4096 ≤ (L.s2.out.length : Int) := by omega
  obtain ⟨p1, p2, p3, p4⟩ := hp
  clear ht
  -- now, the number, the last one's time
  have k1 := Kept.set w g 16 (.int .i64 now)
  have k2 := k1.trans (Kept.set (w.setCell ⟨g, 16, none⟩ (.int .i64 now)) g 12 (.int .i64 number)) (fun _ _ h => h)
  have H2 := (hb.has.set 16 (.int .i64 now)).set 12 (.int .i64 number)
  have k3 := k2.trans (Kept.set ((w.setCell ⟨g, 16, none⟩ (.int .i64 now)).setCell ⟨g, 12, none⟩ (.int .i64 number)) g 15 (.int .i64 now)) (fun _ _ h => h)
  have H3 := H2.set 15 (.int .i64 now)
  have R0 := own_kept' hb.r0 k3 (fun ad ha e => hb.g0 ad ha e)
  have R1 := own_kept' hb.r1 k3 (fun ad ha e => hb.g1 ad ha e)
  have R2 := own_kept' hb.r2 k3 (fun ad ha e => hb.g2 ad ha e)
  have e0 := H3.cell 11 rfl
  have e0f := H3.free 11
  have z3 := k3.size
  have hgz := H3.lt
  -- the packet
  have hal : Below ((((w.setCell ⟨g, 16, none⟩ (.int .i64 now)).setCell ⟨g, 12, none⟩ (.int .i64 number)).setCell ⟨g, 15, none⟩ (.int .i64 now))).heap.size ((((w.setCell ⟨g, 16, none⟩ (.int .i64 now)).setCell ⟨g, 12, none⟩ (.int .i64 number)).setCell ⟨g, 15, none⟩ (.int .i64 now))) (((((w.setCell ⟨g, 16, none⟩ (.int .i64 now)).setCell ⟨g, 12, none⟩ (.int .i64 number)).setCell ⟨g, 15, none⟩ (.int .i64 now))).alloc (.cells #[.int .i64 number, .int .i64 size, .int .i64 now, .bool true] 68)) := (Below.refl _ _).alloc (Nat.le_refl _) _
  have sz3 : ((((w.setCell ⟨g, 16, none⟩ (.int .i64 now)).setCell ⟨g, 12, none⟩ (.int .i64 number)).setCell ⟨g, 15, none⟩ (.int .i64 now))).heap.size = w.heap.size := by simp [World.setCell]
  obtain ⟨a4, c4', w4, hr4, ho4, hg4, hno4⟩ := run_app_pk (tyo := 59) (B := 0) (p := ⟨number, size, now, true⟩) (b := ((((w.setCell ⟨g, 16, none⟩ (.int .i64 now)).setCell ⟨g, 12, none⟩ (.int .i64 number)).setCell ⟨g, 15, none⟩ (.int .i64 now))).heap.size) (own_below R2 hal) (heap_alloc_new ((((w.setCell ⟨g, 16, none⟩ (.int .i64 now)).setCell ⟨g, 12, none⟩ (.int .i64 number)).setCell ⟨g, 15, none⟩ (.int .i64 now))) _) (by omega) (Nat.zero_le _)
  rw [sz3] at hr4
  have k4 := Kept.of_grown hg4
  have g2 := hb.g2
  have H4 := (H3.kept (Kept.of_below (X := none') hal) (fun h => h)).kept k4 (fun e => blk_ne g2 e)
  have RX_4 := own_kept' (own_below R0 hal) k4 (fun ad ha e => by
    cases hda : a2 with
    | none => rw [hda] at e; cases e
    | some y => rw [hda] at e; exact hb.d02 ad y ha hda (by simpa [Value.ownBlock] using e.symm))
  have RY_4 := own_kept' (own_below R1 hal) k4 (fun ad ha e => by
    cases hda : a2 with
    | none => rw [hda] at e; cases e
    | some y => rw [hda] at e; exact hb.d12 ad y ha hda (by simpa [Value.ownBlock] using e.symm))
  have t0 := H4.cell 11 rfl
  have t0f := H4.free 11
  have k5 := Kept.set w4 g 11 (.slice a4 (L.s2.out.length + 1) c4')
  have H5 := H4.set 11 (.slice a4 (L.s2.out.length + 1) c4')
  have a4g : ∀ ad, a4 = some ad → ad.block ≠ g := fun ad ha => by
    rcases newOr_at hno4 ha with ⟨y, hy, e⟩ | e
    · rw [← e]; exact hb.g2 y hy
    · have := hal.size; omega
  have RX_5 := own_kept' RX_4 k5 (fun ad ha e => hb.g0 ad ha e)
  have RY_5 := own_kept' RY_4 k5 (fun ad ha e => hb.g1 ad ha e)
  have R5 := own_kept' ho4 k5 (fun ad ha e => a4g ad ha e)
  have z4 := k4.size
  have z5 := k5.size
  have z34 := hal.size
  have aX : ∀ ad ad', a4 = some ad → a0 = some ad' → ad.block ≠ ad'.block := fun ad ad' ha ha' => by
    rcases newOr_at hno4 ha with ⟨y, hy, e⟩ | e
    · rw [← e]; exact fun e2 => hb.d02 ad' y ha' hy e2.symm
    · have := own_at R0 ha'; omega
  have aY : ∀ ad ad', a4 = some ad → a1 = some ad' → ad.block ≠ ad'.block := fun ad ad' ha ha' => by
    rcases newOr_at hno4 ha with ⟨y, hy, e⟩ | e
    · rw [← e]; exact fun e2 => hb.d12 ad' y ha' hy e2.symm
    · have := own_at R1 ha'; omega
  have HRES : Hid (Kept F w (w4.setCell ⟨g, 11, none⟩ (.slice a4 (L.s2.out.length + 1) c4')) ∧ LAt (Fat F w (w4.setCell ⟨g, 11, none⟩ (.slice a4 (L.s2.out.length + 1) c4'))) (w4.setCell ⟨g, 11, none⟩ (.slice a4 (L.s2.out.length + 1) c4')) g (L.sent2 number size true now)) := Lib.hid (by
    refine ⟨?_, a0, c0, a1, c1, a4, c4', ⟨?_, RX_5, RY_5, ?_, hb.g0, hb.g1, a4g, hb.d01, (fun ad ad' ha ha' e => aX ad' ad ha' ha e.symm), (fun ad ad' ha ha' e => aY ad' ad ha' ha e.symm)⟩, .inl F0, (fun ad ha => .inl (Fa0 ad ha)), (fun ad ha => .inl (Fa1 ad ha)), (fun ad ha => by
      rcases newOr_at hno4 ha with ⟨y, hy, e⟩ | e
      · rw [← e]; exact .inl (Fa2 y hy)
      · exact .inr ⟨by omega, own_at R5 ha⟩)⟩
    · have K3 : Kept F w ((((w.setCell ⟨g, 16, none⟩ (.int .i64 now)).setCell ⟨g, 12, none⟩ (.int .i64 number)).setCell ⟨g, 15, none⟩ (.int .i64 now))) := k3.more (fun _ _ e => by rw [e]; exact F0)
      have K4 := (K3.trans (Kept.of_below (X := none') hal) (fun _ _ h => h.elim)).trans k4 (fun j hj e => by
        cases hda : a2 with
        | none => rw [hda] at e; cases e
        | some y => rw [hda] at e; simp only [Value.ownBlock, Option.some.injEq] at e; rw [← e]; exact Fa2 y hda)
      exact K4.trans k5 (fun j _ e => by rw [e]; exact F0)
    · have lo : (L.s2.sent number size true now).out.length = L.s2.out.length + 1 := by simp [Sp.sent]
      have e : lcells (L.sent2 number size true now) a0 c0 a1 c1 a4 c4' = ((((lcells L a0 c0 a1 c1 a2 c2).set 16 (.int .i64 now)).set 12 (.int .i64 number)).set 15 (.int .i64 now)).set 11 (.slice a4 (L.s2.out.length + 1) c4') := by
        unfold lcells Lo.sent2 spc
        simp only [lo]
        rfl
      rw [e]
      exact H5
    · have lo : (L.s2.sent number size true now).out.length = L.s2.out.length + 1 := by simp [Sp.sent]
      show (w4.setCell _ _).ownsRow 0 _ 4 (.slice a4 (L.s2.sent number size true now).out.length c4') (L.s2.sent number size true now).out.length (pv (L.s2.sent number size true now).out)
      rw [lo]
      exact R5)
  clear k1 k2 H2 k3 H3 R0 R1 R2 hal k4 H4 RX_4 RY_4 k5 H5 RX_5 RY_5 R5 hb hg4 ho4
  go_enter Try.func13, Try.ntmps13
  go_wp2_with fail
  refine HS.out.mono ?_
  rintro e w2 ⟨rfl, rfl⟩
  go_wp2_with fail
  refine HT.out.mono ?_
  rintro e w3 ⟨rfl, rfl⟩
  go_wp2_with (at_builtin; refine Lib.wpList_append_run _ rfl _ _ _ _ rfl (.slice a2 L.s2.out.length c2) (.slice (some ⟨w.heap.size, 0, none⟩) 1 1) rfl rfl _ _ hr4 ?_)
  go_ret
  exact ⟨rfl, HRES.out.1, HRES.out.2⟩

set_option maxRecDepth 100000 in
set_option maxHeartbeats 2000000 in
theorem sent_ok2_false (w : World) {F : Nat → Prop} {g : Nat} {L : Lo} (hL : LAt F w g L) (number size : Int) (now : Int) (ht : L.now ≤ now ∧ now ≤ 1099511627776) (hp : L.s2.takes number size) (hf : L.s2.out.length < 4096) :
    Calls Try.prog 13 #[.pointer (some ⟨g, 0, none⟩), .int .i64 2, .int .i64 number, .int .i64 size, .bool false, .int .i64 now] w fun e w' => e = .returned (.int .i64 0) ∧ Kept F w w' ∧ LAt (Fat F w w') w' g (L.sent2 number size false now) := by
  have HS := Lib.hid (rightSpace_any w 2)
  rw [decide_eq_true (by decide)] at HS
  have HT := Lib.hid (rightTime_any w hL now)
  rw [decide_eq_true ht] at HT
  obtain ⟨a0, c0, a1, c1, a2, c2, hb, F0, Fa0, Fa1, Fa2⟩ := hL
  have d0 := hb.has.cell 11 rfl
  have d1 := hb.has.cell 12 rfl
  have d2 := hb.has.cell 16 rfl
  have d3 := hb.has.cell 15 rfl
  have f1 := hb.has.free 12
  have f2 := hb.has.free 16
  have f3 := hb.has.free 15
  have hfI : ¬ 4096 ≤ (L.s2.out.length : Int) := by omega
  obtain ⟨p1, p2, p3, p4⟩ := hp
  clear ht
  -- now, the number, the last one's time
  have k1 := Kept.set w g 16 (.int .i64 now)
  have k2 := k1.trans (Kept.set (w.setCell ⟨g, 16, none⟩ (.int .i64 now)) g 12 (.int .i64 number)) (fun _ _ h => h)
  have H2 := (hb.has.set 16 (.int .i64 now)).set 12 (.int .i64 number)
  have k3 := k2
  have H3 := H2
  have R0 := own_kept' hb.r0 k3 (fun ad ha e => hb.g0 ad ha e)
  have R1 := own_kept' hb.r1 k3 (fun ad ha e => hb.g1 ad ha e)
  have R2 := own_kept' hb.r2 k3 (fun ad ha e => hb.g2 ad ha e)
  have e0 := H3.cell 11 rfl
  have e0f := H3.free 11
  have z3 := k3.size
  have hgz := H3.lt
  -- the packet
  have hal : Below (((w.setCell ⟨g, 16, none⟩ (.int .i64 now)).setCell ⟨g, 12, none⟩ (.int .i64 number))).heap.size (((w.setCell ⟨g, 16, none⟩ (.int .i64 now)).setCell ⟨g, 12, none⟩ (.int .i64 number))) ((((w.setCell ⟨g, 16, none⟩ (.int .i64 now)).setCell ⟨g, 12, none⟩ (.int .i64 number))).alloc (.cells #[.int .i64 number, .int .i64 0, .int .i64 now, .bool false] 68)) := (Below.refl _ _).alloc (Nat.le_refl _) _
  have sz3 : (((w.setCell ⟨g, 16, none⟩ (.int .i64 now)).setCell ⟨g, 12, none⟩ (.int .i64 number))).heap.size = w.heap.size := by simp [World.setCell]
  obtain ⟨a4, c4', w4, hr4, ho4, hg4, hno4⟩ := run_app_pk (tyo := 59) (B := 0) (p := ⟨number, 0, now, false⟩) (b := (((w.setCell ⟨g, 16, none⟩ (.int .i64 now)).setCell ⟨g, 12, none⟩ (.int .i64 number))).heap.size) (own_below R2 hal) (heap_alloc_new (((w.setCell ⟨g, 16, none⟩ (.int .i64 now)).setCell ⟨g, 12, none⟩ (.int .i64 number))) _) (by omega) (Nat.zero_le _)
  rw [sz3] at hr4
  have k4 := Kept.of_grown hg4
  have g2 := hb.g2
  have H4 := (H3.kept (Kept.of_below (X := none') hal) (fun h => h)).kept k4 (fun e => blk_ne g2 e)
  have RX_4 := own_kept' (own_below R0 hal) k4 (fun ad ha e => by
    cases hda : a2 with
    | none => rw [hda] at e; cases e
    | some y => rw [hda] at e; exact hb.d02 ad y ha hda (by simpa [Value.ownBlock] using e.symm))
  have RY_4 := own_kept' (own_below R1 hal) k4 (fun ad ha e => by
    cases hda : a2 with
    | none => rw [hda] at e; cases e
    | some y => rw [hda] at e; exact hb.d12 ad y ha hda (by simpa [Value.ownBlock] using e.symm))
  have t0 := H4.cell 11 rfl
  have t0f := H4.free 11
  have k5 := Kept.set w4 g 11 (.slice a4 (L.s2.out.length + 1) c4')
  have H5 := H4.set 11 (.slice a4 (L.s2.out.length + 1) c4')
  have a4g : ∀ ad, a4 = some ad → ad.block ≠ g := fun ad ha => by
    rcases newOr_at hno4 ha with ⟨y, hy, e⟩ | e
    · rw [← e]; exact hb.g2 y hy
    · have := hal.size; omega
  have RX_5 := own_kept' RX_4 k5 (fun ad ha e => hb.g0 ad ha e)
  have RY_5 := own_kept' RY_4 k5 (fun ad ha e => hb.g1 ad ha e)
  have R5 := own_kept' ho4 k5 (fun ad ha e => a4g ad ha e)
  have z4 := k4.size
  have z5 := k5.size
  have z34 := hal.size
  have aX : ∀ ad ad', a4 = some ad → a0 = some ad' → ad.block ≠ ad'.block := fun ad ad' ha ha' => by
    rcases newOr_at hno4 ha with ⟨y, hy, e⟩ | e
    · rw [← e]; exact fun e2 => hb.d02 ad' y ha' hy e2.symm
    · have := own_at R0 ha'; omega
  have aY : ∀ ad ad', a4 = some ad → a1 = some ad' → ad.block ≠ ad'.block := fun ad ad' ha ha' => by
    rcases newOr_at hno4 ha with ⟨y, hy, e⟩ | e
    · rw [← e]; exact fun e2 => hb.d12 ad' y ha' hy e2.symm
    · have := own_at R1 ha'; omega
  have HRES : Hid (Kept F w (w4.setCell ⟨g, 11, none⟩ (.slice a4 (L.s2.out.length + 1) c4')) ∧ LAt (Fat F w (w4.setCell ⟨g, 11, none⟩ (.slice a4 (L.s2.out.length + 1) c4'))) (w4.setCell ⟨g, 11, none⟩ (.slice a4 (L.s2.out.length + 1) c4')) g (L.sent2 number size false now)) := Lib.hid (by
    refine ⟨?_, a0, c0, a1, c1, a4, c4', ⟨?_, RX_5, RY_5, ?_, hb.g0, hb.g1, a4g, hb.d01, (fun ad ad' ha ha' e => aX ad' ad ha' ha e.symm), (fun ad ad' ha ha' e => aY ad' ad ha' ha e.symm)⟩, .inl F0, (fun ad ha => .inl (Fa0 ad ha)), (fun ad ha => .inl (Fa1 ad ha)), (fun ad ha => by
      rcases newOr_at hno4 ha with ⟨y, hy, e⟩ | e
      · rw [← e]; exact .inl (Fa2 y hy)
      · exact .inr ⟨by omega, own_at R5 ha⟩)⟩
    · have K3 : Kept F w (((w.setCell ⟨g, 16, none⟩ (.int .i64 now)).setCell ⟨g, 12, none⟩ (.int .i64 number))) := k3.more (fun _ _ e => by rw [e]; exact F0)
      have K4 := (K3.trans (Kept.of_below (X := none') hal) (fun _ _ h => h.elim)).trans k4 (fun j hj e => by
        cases hda : a2 with
        | none => rw [hda] at e; cases e
        | some y => rw [hda] at e; simp only [Value.ownBlock, Option.some.injEq] at e; rw [← e]; exact Fa2 y hda)
      exact K4.trans k5 (fun j _ e => by rw [e]; exact F0)
    · have lo : (L.s2.sent number size false now).out.length = L.s2.out.length + 1 := by simp [Sp.sent]
      have e : lcells (L.sent2 number size false now) a0 c0 a1 c1 a4 c4' = ((((lcells L a0 c0 a1 c1 a2 c2).set 16 (.int .i64 now)).set 12 (.int .i64 number))).set 11 (.slice a4 (L.s2.out.length + 1) c4') := by
        unfold lcells Lo.sent2 spc
        simp only [lo]
        rfl
      rw [e]
      exact H5
    · have lo : (L.s2.sent number size false now).out.length = L.s2.out.length + 1 := by simp [Sp.sent]
      show (w4.setCell _ _).ownsRow 0 _ 4 (.slice a4 (L.s2.sent number size false now).out.length c4') (L.s2.sent number size false now).out.length (pv (L.s2.sent number size false now).out)
      rw [lo]
      exact R5)
  clear k1 k2 H2 k3 H3 R0 R1 R2 hal k4 H4 RX_4 RY_4 k5 H5 RX_5 RY_5 R5 hb hg4 ho4
  go_enter Try.func13, Try.ntmps13
  go_wp2_with fail
  refine HS.out.mono ?_
  rintro e w2 ⟨rfl, rfl⟩
  go_wp2_with fail
  refine HT.out.mono ?_
  rintro e w3 ⟨rfl, rfl⟩
  go_wp2_with (at_builtin; refine Lib.wpList_append_run _ rfl _ _ _ _ rfl (.slice a2 L.s2.out.length c2) (.slice (some ⟨w.heap.size, 0, none⟩) 1 1) rfl rfl _ _ hr4 ?_)
  go_ret
  exact ⟨rfl, HRES.out.1, HRES.out.2⟩

end Go.Proofs.Ytkpeegcpicckjaa

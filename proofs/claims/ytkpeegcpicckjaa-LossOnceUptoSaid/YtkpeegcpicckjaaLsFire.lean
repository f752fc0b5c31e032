/- Loss detection: contracts of Fire, where nothing is lost. -/
import Derived.Test.YtkpeegcpicckjaaLsLaw1
namespace Go.Proofs.Ytkpeegcpicckjaa
open Go.RowKit

/-- one cell of the record is written that no row and no space holds -/
theorem LAt.set {F : Nat → Prop} {w : World} {g : Nat} {L L' : Lo} (h : LAt F w g L) (i : Nat) (v : Value) (h0 : L'.s0 = L.s0) (h1 : L'.s1 = L.s1) (h2 : L'.s2 = L.s2)
    (hc : ∀ a0 c0 a1 c1 a2 c2, lcells L' a0 c0 a1 c1 a2 c2 = (lcells L a0 c0 a1 c1 a2 c2).set i v) : Kept F w (w.setCell ⟨g, i, none⟩ v) ∧ LAt F (w.setCell ⟨g, i, none⟩ v) g L' := by
  obtain ⟨a0, c0, a1, c1, a2, c2, hb, f, f0, f1, f2⟩ := h
  have ks := Kept.set w g i v
  refine ⟨ks.more (fun _ _ e => by rw [e]; exact f), a0, c0, a1, c1, a2, c2, ⟨?_, ?_, ?_, ?_, hb.g0, hb.g1, hb.g2, hb.d01, hb.d02, hb.d12⟩, f, f0, f1, f2⟩
  · rw [hc]; exact hb.has.set i v
  · rw [h0]; exact own_kept' hb.r0 ks (fun ad ha e => hb.g0 ad ha e)
  · rw [h1]; exact own_kept' hb.r1 ks (fun ad ha e => hb.g1 ad ha e)
  · rw [h2]; exact own_kept' hb.r2 ks (fun ad ha e => hb.g2 ad ha e)
theorem LAt.cell {F : Nat → Prop} {w : World} {g : Nat} {L : Lo} (h : LAt F w g L) (j : Nat) {v : Value} (hv : ∀ a0 c0 a1 c1 a2 c2, (lcells L a0 c0 a1 c1 a2 c2)[j]? = some v) : w.cell? ⟨g, j, none⟩ = some v ∧ w.frozen? ⟨g, j, none⟩ = false := by
  obtain ⟨a0, c0, a1, c1, a2, c2, hb, _⟩ := h
  exact ⟨hb.has.cell j (hv _ _ _ _ _ _), hb.has.free j⟩

def Lo.at' (L : Lo) (now : Int) : Lo := { L with now := now }
theorem at_dead (L : Lo) (now : Int) : (L.at' now).dead = L.dead := rfl
theorem Lo.TimeOk.at' {L : Lo} (h : L.TimeOk) (now : Int) : (L.at' now).TimeOk := ⟨h.most, h.smooth, h.vary, h.probes, h.last0, h.last1, h.last2, h.len0, h.len1, h.len2⟩
def Lo.probed (L : Lo) (now : Int) : Lo := { L with now := now, probes := min (L.probes + 1) 20 }

set_option maxRecDepth 100000 in
set_option maxHeartbeats 1000000 in
theorem fire_idle (w : World) {F : Nat → Prop} {g : Nat} {L : Lo} (h : LAt F w g L) (hq : L.TimeOk) (now : Int) (ht : L.now ≤ now ∧ now ≤ 1099511627776) (hd : L.dead.1 < 0 ∨ now < L.dead.2.1) :
    Calls Try.prog 14 #[.pointer (some ⟨g, 0, none⟩), .int .i64 now] w fun e w' => e = .returned (.tuple #[.int .i64 (-1), .slice none 0 0, .bool false, .int .i64 0]) ∧ Kept F w w' ∧ LAt F w' g (L.at' now) := by
  have HT := Lib.hid (rightTime_any w h now)
  rw [decide_eq_true ht] at HT
  obtain ⟨d2, f2⟩ := h.cell 16 (v := .int .i64 L.now) (fun _ _ _ _ _ _ => rfl)
  obtain ⟨k1, h1⟩ := h.set (L' := L.at' now) 16 (.int .i64 now) rfl rfl rfl (fun _ _ _ _ _ _ => rfl)
  have HD := Lib.hid (deadline_any _ h1 (hq.at' now))
  rw [at_dead] at HD
  obtain ⟨d, hdd⟩ : ∃ d, d = L.dead := ⟨_, rfl⟩
  rw [← hdd] at HD hd
  obtain ⟨sp, at_, lo⟩ := d
  simp only [] at HD hd
  have H1 := Lib.hid (And.intro k1 h1)
  clear hdd h hq ht k1 h1
  have cs : (sp < 0) ∨ (¬ sp < 0 ∧ now < at_) := by omega
  clear hd
  rcases cs with c1 | ⟨c1, c2⟩
  all_goals
    go_enter Try.func14, Try.ntmps14
    go_wp2_with fail
    refine HT.out.mono ?_
    rintro e w2 ⟨rfl, rfl⟩
    go_wp2_with fail
    refine HD.out.mono ?_
    rintro e w3 ⟨rfl, hb3⟩
    go_wp2
    refine bodyPost_ret (results_tmp4 rfl _ _ _) rfl ?_
    exact ⟨rfl, H1.out.1.trans (Kept.of_below (X := none') hb3) (fun _ _ h => h.elim), H1.out.2.below hb3⟩

set_option maxRecDepth 100000 in
set_option maxHeartbeats 1000000 in
theorem fire_probe (w : World) {F : Nat → Prop} {g : Nat} {L : Lo} (h : LAt F w g L) (hq : L.TimeOk) (now : Int) (ht : L.now ≤ now ∧ now ≤ 1099511627776) (hd1 : 0 ≤ L.dead.1) (hd2 : L.dead.2.1 ≤ now) (hd3 : L.dead.2.2 = false) :
    Calls Try.prog 14 #[.pointer (some ⟨g, 0, none⟩), .int .i64 now] w fun e w' => e = .returned (.tuple #[.int .i64 L.dead.1, .slice none 0 0, .bool true, .int .i64 0]) ∧ Kept F w w' ∧ LAt F w' g (L.probed now) := by
  have HT := Lib.hid (rightTime_any w h now)
  rw [decide_eq_true ht] at HT
  obtain ⟨d2, f2⟩ := h.cell 16 (v := .int .i64 L.now) (fun _ _ _ _ _ _ => rfl)
  obtain ⟨k1, h1⟩ := h.set (L' := L.at' now) 16 (.int .i64 now) rfl rfl rfl (fun _ _ _ _ _ _ => rfl)
  have HD := Lib.hid (deadline_any _ h1 (hq.at' now))
  rw [at_dead] at HD
  obtain ⟨d, hdd⟩ : ∃ d, d = L.dead := ⟨_, rfl⟩
  rw [← hdd] at HD hd1 hd2 hd3 ⊢
  obtain ⟨sp, at_, lo⟩ := d
  simp only [] at HD hd1 hd2 hd3
  subst hd3
  have H1 := Lib.hid (And.intro k1 h1)
  have q4 := hq.probes
  have f1 : IntKind.i64.wrap (L.probes + 1) = L.probes + 1 := by rw [IntKind.wrap_i64]; omega
  obtain ⟨pm, hpm⟩ : ∃ pm, pm = min (L.probes + 1) 20 := ⟨_, rfl⟩
  have c1 : ¬ sp < 0 := by omega
  have c2 : ¬ now < at_ := by omega
  have cs : (L.probes + 1 ≤ 20 ∧ pm = L.probes + 1) ∨ (20 < L.probes + 1 ∧ pm = 20) := by omega
  have HPM := Lib.hid hpm
  clear hdd h hq ht k1 h1 hd1 hd2 hpm
  rcases cs with ⟨hp, rfl⟩ | ⟨hp, rfl⟩
  all_goals
    go_enter Try.func14, Try.ntmps14
    go_wp2_with fail
    refine HT.out.mono ?_
    rintro e w2 ⟨rfl, rfl⟩
    go_wp2_with fail
    refine HD.out.mono ?_
    rintro e w3 ⟨rfl, hb3⟩
    have K3 := H1.out.1.trans (Kept.of_below (X := none') hb3) (fun _ _ h => h.elim)
    have L3 := H1.out.2.below hb3
    obtain ⟨e25, e25f⟩ := L3.cell 25 (v := .int .i64 L.probes) (fun _ _ _ _ _ _ => rfl)
    go_wp2
    all_goals try (exfalso; omega)
    refine bodyPost_ret (results_tmp4 rfl _ _ _) rfl ?_
    obtain ⟨k5, h5⟩ := L3.set (L' := L.probed now) 25 (.int .i64 _) rfl rfl rfl (fun a0 c0 a1 c1 a2 c2 => by
      have e : lcells (L.probed now) a0 c0 a1 c1 a2 c2 = (lcells (L.at' now) a0 c0 a1 c1 a2 c2).set 25 (.int .i64 (min (L.probes + 1) 20)) := rfl
      rw [← HPM.out] at e
      exact e)
    exact ⟨rfl, K3.trans k5 (fun _ _ h => h), h5⟩
end Go.Proofs.Ytkpeegcpicckjaa

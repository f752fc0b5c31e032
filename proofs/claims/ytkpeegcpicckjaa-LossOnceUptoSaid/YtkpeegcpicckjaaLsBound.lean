/- Loss detection: the bounds are kept. Plain lemmas. -/
import Derived.Test.YtkpeegcpicckjaaLsDrop
import Derived.Test.YtkpeegcpicckjaaLsSample
namespace Go.Proofs.Ytkpeegcpicckjaa

theorem SpB.up {s : Sp} {now now' : Int} (h : SpB s now) (hn : now ≤ now') : SpB s now' := ⟨h.len, h.high, h.acked, h.loss, h.last, fun p hp => by have := h.pk p hp; omega⟩
theorem SpB.cut {s : Sp} {now : Int} (h : SpB s now) (ask : Pk → Bool) : SpB (s.cut ask) now :=
  ⟨Nat.le_trans (List.length_filter_le _ _) h.len, h.high, h.acked, h.loss, h.last, fun p hp => h.pk p (List.mem_filter.1 hp).1⟩
theorem SpB.sent {s : Sp} {now now' number size : Int} {el : Bool} (h : SpB s now) (hn : now ≤ now') (h0 : 0 ≤ now') (h1 : now' ≤ 1099511627776) (hp : s.takes number size) (hf : s.out.length < 4096) : SpB (s.sent number size el now') now' := by
  obtain ⟨p1, p2, p3, p4⟩ := hp
  have hh := h.high
  refine ⟨by simp [Sp.sent]; omega, ⟨by show 0 ≤ number; omega, p2⟩, h.acked, h.loss, ?_, ?_⟩
  · have := h.last
    show -1 ≤ (if el then now' else s.last) ∧ (if el then now' else s.last) ≤ _
    split <;> omega
  · intro p hp
    simp only [Sp.sent, List.mem_append, List.mem_cons, List.not_mem_nil, or_false] at hp
    show 1 ≤ p.num ∧ p.num ≤ number ∧ _
    rcases hp with hp | rfl
    · have := h.pk p hp; omega
    · simp only []
      cases el <;> simp <;> omega
theorem SpB.drop {s : Sp} {now : Int} (h : SpB s now) : SpB { s with out := [], loss := -1, last := -1 } now := ⟨by simp, h.high, h.acked, by simp, by simp, by simp⟩
theorem SpB.lost {s : Sp} {now t : Int} (h : SpB s now) (ht : -1 ≤ t ∧ t ≤ 6597069766656) : SpB { s with loss := t } now := ⟨h.len, h.high, h.acked, ht, h.last, h.pk⟩
theorem SpB.ack {s : Sp} {now e : Int} (h : SpB s now) (he : e ≤ s.high) : SpB { s with acked := if s.acked < e then e else s.acked } now := by
  have h1 := h.acked
  have h2 := h.high
  refine ⟨h.len, h.high, ?_, h.loss, h.last, h.pk⟩
  show -1 ≤ (if s.acked < e then e else s.acked) ∧ (if s.acked < e then e else s.acked) ≤ 4611686018427387903
  split <;> omega

theorem LoB.probed {L : Lo} (h : LoB L) (now : Int) (hn : L.now ≤ now ∧ now ≤ 1099511627776) : LoB (L.probed now) := by
  have h1 := h.at' now hn
  have h2 := h.probes
  exact ⟨h1.most, h1.now, h1.latest, h1.least, h1.smooth, h1.vary, h1.window, h1.threshold, h1.recovery, ⟨by show 0 ≤ min (L.probes + 1) 20; omega, by show min (L.probes + 1) 20 ≤ 20; omega⟩, h1.b0, h1.b1, h1.b2⟩
theorem LoB.zero {L : Lo} (h : LoB L) : LoB { L with probes := 0 } := ⟨h.most, h.now, h.latest, h.least, h.smooth, h.vary, h.window, h.threshold, h.recovery, by simp, h.b0, h.b1, h.b2⟩
theorem LoB.crash {L : Lo} (h : LoB L) (n : Int) : LoB (L.crash n) ∧ (L.crash n).window ≤ max L.window 2400 := by
  have h1 := h.now
  have h2 := h.window
  unfold Lo.crash
  split
  · exact ⟨⟨h.most, h.now, h.latest, h.least, h.smooth, h.vary, ⟨by show 2400 ≤ max (L.window / 2) 2400; omega, by show max (L.window / 2) 2400 ≤ _; omega⟩, ⟨by show 0 ≤ L.window / 2; omega, by show L.window / 2 ≤ _; omega⟩, ⟨by show -1 ≤ L.now; omega, h1.2⟩, h.probes, h.b0, h.b1, h.b2⟩, by show max (L.window / 2) 2400 ≤ _; omega⟩
  · exact ⟨h, by omega⟩
theorem LoB.grown {L : Lo} (h : LoB L) (p : Pk) (hp : 0 ≤ p.size ∧ p.size ≤ 65535) (hw : L.window + 65535 ≤ 1152921504606846976) : LoB (L.grown p) ∧ (L.grown p).window ≤ L.window + 65535 := by
  have h2 := h.window
  unfold Lo.grown
  split
  · exact ⟨h, by omega⟩
  · split
    · exact ⟨⟨h.most, h.now, h.latest, h.least, h.smooth, h.vary, ⟨by show 2400 ≤ L.window + p.size; omega, by show L.window + p.size ≤ _; omega⟩, h.threshold, h.recovery, h.probes, h.b0, h.b1, h.b2⟩, by show L.window + p.size ≤ _; omega⟩
    · have hd : 0 ≤ 1200 * p.size / L.window ∧ 1200 * p.size / L.window ≤ 65535 := by
        refine ⟨Int.ediv_nonneg (by omega) (by omega), ?_⟩
        have h3 : 1200 * p.size ≤ 65535 * L.window := by omega
        exact Int.ediv_le_of_le_mul (by omega) h3
      exact ⟨⟨h.most, h.now, h.latest, h.least, h.smooth, h.vary, ⟨by show 2400 ≤ L.window + 1200 * p.size / L.window; omega, by show L.window + 1200 * p.size / L.window ≤ _; omega⟩, h.threshold, h.recovery, h.probes, h.b0, h.b1, h.b2⟩, by show L.window + 1200 * p.size / L.window ≤ _; omega⟩
theorem LoB.sample1 {L : Lo} (h : LoB L) (latest : Int) (h1 : 0 ≤ latest ∧ latest ≤ 1099511627776) : LoB (L.sample1 latest) :=
  ⟨h.most, h.now, h1, ⟨h1.1, Int.le_refl _⟩, h1, ⟨by show 0 ≤ latest / 2; omega, by show latest / 2 ≤ _; omega⟩, h.window, h.threshold, h.recovery, h.probes, h.b0, h.b1, h.b2⟩
theorem LoB.sample2 {L : Lo} (h : LoB L) (latest cut : Int) (h1 : 0 ≤ latest ∧ latest ≤ 1099511627776) (h2 : 0 ≤ cut) : LoB (L.sample2 latest cut) := by
  have hl := h.least
  have hs := h.smooth
  have hv := h.vary
  have hb : 0 ≤ L.lean latest cut ∧ L.lean latest cut ≤ 1099511627776 := by
    unfold Lo.lean
    split <;> omega
  refine ⟨h.most, h.now, h1, ⟨by show 0 ≤ min L.least latest; omega, by show min L.least latest ≤ latest; omega⟩, ?_, ?_, h.window, h.threshold, h.recovery, h.probes, h.b0, h.b1, h.b2⟩
  · show 0 ≤ (7 * L.smooth + L.lean latest cut) / 8 ∧ (7 * L.smooth + L.lean latest cut) / 8 ≤ _
    omega
  · show 0 ≤ (3 * L.vary + max (L.smooth - L.lean latest cut) (L.lean latest cut - L.smooth)) / 4 ∧ (3 * L.vary + max (L.smooth - L.lean latest cut) (L.lean latest cut - L.smooth)) / 4 ≤ _
    omega
theorem LoB.cut0 {L : Lo} (h : LoB L) (ask : Pk → Bool) : LoB (L.cut0 ask) := ⟨h.most, h.now, h.latest, h.least, h.smooth, h.vary, h.window, h.threshold, h.recovery, h.probes, h.b0.cut ask, h.b1, h.b2⟩
theorem LoB.drop0 {L : Lo} (h : LoB L) : LoB L.drop0 := ⟨h.most, h.now, h.latest, h.least, h.smooth, h.vary, h.window, h.threshold, h.recovery, h.probes, h.b0.drop, h.b1, h.b2⟩
theorem LoB.loss0 {L : Lo} (h : LoB L) (t : Int) (ht : -1 ≤ t ∧ t ≤ 6597069766656) : LoB (L.loss0 t) := ⟨h.most, h.now, h.latest, h.least, h.smooth, h.vary, h.window, h.threshold, h.recovery, h.probes, h.b0.lost ht, h.b1, h.b2⟩
theorem LoB.sent0 {L : Lo} (h : LoB L) (number size : Int) (el : Bool) (now : Int) (hn : L.now ≤ now ∧ now ≤ 1099511627776) (hp : L.s0.takes number size) (hf : L.s0.out.length < 4096) : LoB (L.sent0 number size el now) := by
  have h0 := h.now
  exact ⟨h.most, ⟨by show 0 ≤ now; omega, hn.2⟩, h.latest, h.least, h.smooth, h.vary, h.window, h.threshold, h.recovery, h.probes, h.b0.sent hn.1 (by omega) hn.2 hp hf, h.b1.up hn.1, h.b2.up hn.1⟩
theorem LoB.found0 {L : Lo} (h : LoB L) : LoB L.found0 ∧ L.found0.window ≤ max L.window 2400 := by
  have hd := Lo.late_bounds h.latest h.smooth
  obtain ⟨h1, h2⟩ := (h.cut0 L.ask0).crash (newest (L.s0.out.filter L.ask0) (-1))
  have hb := lossAt_bounds L.s0.acked L.late hd (L.s0.out.filter fun p => !L.ask0 p) (-1) (fun p hp => by
    have := h.b0.pk p (List.mem_filter.1 hp).1
    have := h.now
    omega) (by omega) (by omega)
  exact ⟨h1.loss0 _ hb, h2⟩
theorem LoB.cut1 {L : Lo} (h : LoB L) (ask : Pk → Bool) : LoB (L.cut1 ask) := ⟨h.most, h.now, h.latest, h.least, h.smooth, h.vary, h.window, h.threshold, h.recovery, h.probes, h.b0, h.b1.cut ask, h.b2⟩
theorem LoB.drop1 {L : Lo} (h : LoB L) : LoB L.drop1 := ⟨h.most, h.now, h.latest, h.least, h.smooth, h.vary, h.window, h.threshold, h.recovery, h.probes, h.b0, h.b1.drop, h.b2⟩
theorem LoB.loss1 {L : Lo} (h : LoB L) (t : Int) (ht : -1 ≤ t ∧ t ≤ 6597069766656) : LoB (L.loss1 t) := ⟨h.most, h.now, h.latest, h.least, h.smooth, h.vary, h.window, h.threshold, h.recovery, h.probes, h.b0, h.b1.lost ht, h.b2⟩
theorem LoB.sent1 {L : Lo} (h : LoB L) (number size : Int) (el : Bool) (now : Int) (hn : L.now ≤ now ∧ now ≤ 1099511627776) (hp : L.s1.takes number size) (hf : L.s1.out.length < 4096) : LoB (L.sent1 number size el now) := by
  have h0 := h.now
  exact ⟨h.most, ⟨by show 0 ≤ now; omega, hn.2⟩, h.latest, h.least, h.smooth, h.vary, h.window, h.threshold, h.recovery, h.probes, h.b0.up hn.1, h.b1.sent hn.1 (by omega) hn.2 hp hf, h.b2.up hn.1⟩
theorem LoB.found1 {L : Lo} (h : LoB L) : LoB L.found1 ∧ L.found1.window ≤ max L.window 2400 := by
  have hd := Lo.late_bounds h.latest h.smooth
  obtain ⟨h1, h2⟩ := (h.cut1 L.ask1).crash (newest (L.s1.out.filter L.ask1) (-1))
  have hb := lossAt_bounds L.s1.acked L.late hd (L.s1.out.filter fun p => !L.ask1 p) (-1) (fun p hp => by
    have := h.b1.pk p (List.mem_filter.1 hp).1
    have := h.now
    omega) (by omega) (by omega)
  exact ⟨h1.loss1 _ hb, h2⟩
theorem LoB.cut2 {L : Lo} (h : LoB L) (ask : Pk → Bool) : LoB (L.cut2 ask) := ⟨h.most, h.now, h.latest, h.least, h.smooth, h.vary, h.window, h.threshold, h.recovery, h.probes, h.b0, h.b1, h.b2.cut ask⟩
theorem LoB.drop2 {L : Lo} (h : LoB L) : LoB L.drop2 := ⟨h.most, h.now, h.latest, h.least, h.smooth, h.vary, h.window, h.threshold, h.recovery, h.probes, h.b0, h.b1, h.b2.drop⟩
theorem LoB.loss2 {L : Lo} (h : LoB L) (t : Int) (ht : -1 ≤ t ∧ t ≤ 6597069766656) : LoB (L.loss2 t) := ⟨h.most, h.now, h.latest, h.least, h.smooth, h.vary, h.window, h.threshold, h.recovery, h.probes, h.b0, h.b1, h.b2.lost ht⟩
theorem LoB.sent2 {L : Lo} (h : LoB L) (number size : Int) (el : Bool) (now : Int) (hn : L.now ≤ now ∧ now ≤ 1099511627776) (hp : L.s2.takes number size) (hf : L.s2.out.length < 4096) : LoB (L.sent2 number size el now) := by
  have h0 := h.now
  exact ⟨h.most, ⟨by show 0 ≤ now; omega, hn.2⟩, h.latest, h.least, h.smooth, h.vary, h.window, h.threshold, h.recovery, h.probes, h.b0.up hn.1, h.b1.up hn.1, h.b2.sent hn.1 (by omega) hn.2 hp hf⟩
theorem LoB.found2 {L : Lo} (h : LoB L) : LoB L.found2 ∧ L.found2.window ≤ max L.window 2400 := by
  have hd := Lo.late_bounds h.latest h.smooth
  obtain ⟨h1, h2⟩ := (h.cut2 L.ask2).crash (newest (L.s2.out.filter L.ask2) (-1))
  have hb := lossAt_bounds L.s2.acked L.late hd (L.s2.out.filter fun p => !L.ask2 p) (-1) (fun p hp => by
    have := h.b2.pk p (List.mem_filter.1 hp).1
    have := h.now
    omega) (by omega) (by omega)
  exact ⟨h1.loss2 _ hb, h2⟩
end Go.Proofs.Ytkpeegcpicckjaa

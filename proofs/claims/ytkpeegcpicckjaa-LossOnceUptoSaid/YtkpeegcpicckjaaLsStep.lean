/- Loss detection: each call, told once for all of its arms. -/
import Derived.Test.YtkpeegcpicckjaaLsAck
import Derived.Test.YtkpeegcpicckjaaLsAckE
import Derived.Test.YtkpeegcpicckjaaLsBound
namespace Go.Proofs.Ytkpeegcpicckjaa
open Go.RowKit

def Lo.sp (L : Lo) (k : Int) : Sp := if k = 0 then L.s0 else if k = 1 then L.s1 else L.s2
theorem sp_0 (L : Lo) : L.sp 0 = L.s0 := rfl
theorem sp_1 (L : Lo) : L.sp 1 = L.s1 := rfl
theorem sp_2 (L : Lo) : L.sp 2 = L.s2 := rfl
theorem sp_eq {L L' : Lo} (h0 : L'.s0 = L.s0) (h1 : L'.s1 = L.s1) (h2 : L'.s2 = L.s2) (j : Int) : L'.sp j = L.sp j := by unfold Lo.sp; rw [h0, h1, h2]
theorem LoB.sp {L : Lo} (h : LoB L) (k : Int) : SpB (L.sp k) L.now := by
  unfold Lo.sp
  split
  · exact h.b0
  · split
    · exact h.b1
    · exact h.b2

theorem smp_s (L : Lo) (a b : Int) : (smp L a b).s0 = L.s0 ∧ (smp L a b).s1 = L.s1 ∧ (smp L a b).s2 = L.s2 ∧ (smp L a b).window = L.window ∧ (smp L a b).now = L.now := by
  unfold smp Lo.sample1 Lo.sample2
  split <;> exact ⟨rfl, rfl, rfl, rfl, rfl⟩
theorem grown_s (L : Lo) (p : Pk) : (L.grown p).s0 = L.s0 ∧ (L.grown p).s1 = L.s1 ∧ (L.grown p).s2 = L.s2 := by
  unfold Lo.grown
  split
  · exact ⟨rfl, rfl, rfl⟩
  · split <;> exact ⟨rfl, rfl, rfl⟩
theorem growAll_s : ∀ (G : List Pk) (L : Lo), (growAll L G).s0 = L.s0 ∧ (growAll L G).s1 = L.s1 ∧ (growAll L G).s2 = L.s2
  | [], L => ⟨rfl, rfl, rfl⟩
  | p :: r, L => by
    obtain ⟨a, b, c⟩ := growAll_s r (L.grown p)
    obtain ⟨a', b', c'⟩ := grown_s L p
    exact ⟨a.trans a', b.trans b', c.trans c'⟩
theorem crash_s (L : Lo) (n : Int) : (L.crash n).s0 = L.s0 ∧ (L.crash n).s1 = L.s1 ∧ (L.crash n).s2 = L.s2 := by
  unfold Lo.crash
  split <;> exact ⟨rfl, rfl, rfl⟩
theorem LoB.smp {L : Lo} (h : LoB L) (latest cut : Int) (h1 : 0 ≤ latest ∧ latest ≤ 1099511627776) (h2 : 0 ≤ cut) : LoB (smp L latest cut) := by
  unfold Proofs.Ytkpeegcpicckjaa.smp
  split
  · exact h.sample2 latest cut h1 h2
  · exact h.sample1 latest h1
theorem LoB.growAll : ∀ (G : List Pk) {L : Lo} (_ : LoB L) (_ : ∀ p ∈ G, 0 ≤ p.size ∧ p.size ≤ 65535) (_ : L.window + 65535 * (G.length : Int) ≤ 1152921504606846976), LoB (growAll L G) ∧ (growAll L G).window ≤ L.window + 65535 * (G.length : Int)
  | [], L, h, _, _ => ⟨h, by simp [Proofs.Ytkpeegcpicckjaa.growAll]⟩
  | p :: r, L, h, hp, hw => by
    rw [List.length_cons] at hw
    push_cast at hw
    obtain ⟨h1, h2⟩ := h.grown p (hp p (by simp)) (by omega)
    obtain ⟨h3, h4⟩ := LoB.growAll r h1 (fun q hq => hp q (by simp [hq])) (by omega)
    refine ⟨h3, ?_⟩
    rw [List.length_cons]
    push_cast
    have : (Proofs.Ytkpeegcpicckjaa.growAll L (p :: r)).window = (Proofs.Ytkpeegcpicckjaa.growAll (L.grown p) r).window := rfl
    omega
theorem dead_le (L : Lo) : -1 ≤ L.dead.1 ∧ L.dead.1 ≤ 2 := by
  have d1 : ∀ (i : Int) (s : Sp) (r : Int × Int), -1 ≤ r.1 ∧ r.1 ≤ 2 → -1 ≤ i ∧ i ≤ 2 → -1 ≤ (dl1 i s r).1 ∧ (dl1 i s r).1 ≤ 2 := by
    intro i s r hr hi
    unfold dl1
    split
    · exact hi
    · exact hr
  have d2 : ∀ (i : Int) (s : Sp) (e : Int) (r : Int × Int), -1 ≤ r.1 ∧ r.1 ≤ 2 → -1 ≤ i ∧ i ≤ 2 → -1 ≤ (dl2 L i s e r).1 ∧ (dl2 L i s e r).1 ≤ 2 := by
    intro i s e r hr hi
    unfold dl2
    split
    · split
      · exact hi
      · exact hr
    · exact hr
  have h1 : -1 ≤ (L.dloss 3).1 ∧ (L.dloss 3).1 ≤ 2 := d1 2 _ _ (d1 1 _ _ (d1 0 _ _ (by decide) (by decide)) (by decide)) (by decide)
  unfold Lo.dead
  split
  · exact h1
  · exact d2 2 _ _ _ (d2 1 _ _ _ (d2 0 _ _ _ h1 (by decide)) (by decide)) (by decide)
theorem lostB_lt {acked now d : Int} {p : Pk} (h : lostB acked now d p = true) : p.num < acked := by
  unfold lostB at h
  simp only [Bool.and_eq_true, decide_eq_true_eq] at h
  exact h.1

/-- what a call does to the packets of a space: those of f1 are told, then those of f2 -/
structure Moves (L L' : Lo) (k : Int) (f1 f2 : Pk → Bool) : Prop where
  hk : 0 ≤ k ∧ k ≤ 2
  rest : ∀ j, 0 ≤ j → j ≤ 2 → j ≠ k → (L'.sp j).out = (L.sp j).out ∧ (L'.sp j).acked = (L.sp j).acked
  out : (L'.sp k).out = ((L.sp k).out.filter fun p => !f1 p).filter fun p => !f2 p
  less : ∀ p, f2 p = true → p.num < (L'.sp k).acked
def no : Pk → Bool := fun _ => false
theorem filter_no (l : List Pk) : (l.filter fun p => !no p) = l := by simp [no]
theorem Kept.rf (F : Nat → Prop) (w : World) : Kept F w w := Kept.of_below (X := F) (Below.refl _ w)
theorem LAt.fat {F : Nat → Prop} {w w' : World} {g : Nat} {L : Lo} (h : LAt F w' g L) : LAt (Fat F w w') w' g L := h.more (fun _ hk _ => .inl hk)

def SentOk (L L' : Lo) (s number size : Int) (el : Bool) (now : Int) : Prop :=
  (0 ≤ s ∧ s ≤ 2) ∧ (L.sp s).high < number ∧ (L'.sp s).out = (L.sp s).out ++ [⟨number, if el then size else 0, now, el⟩] ∧ (L'.sp s).acked = (L.sp s).acked ∧ 0 ≤ size ∧ size ≤ 65535 ∧
  ∀ j, 0 ≤ j → j ≤ 2 → j ≠ s → (L'.sp j).out = (L.sp j).out ∧ (L'.sp j).acked = (L.sp j).acked
theorem sentOk0 (L : Lo) (number size : Int) (el : Bool) (now : Int) (hp : L.s0.takes number size) : SentOk L (L.sent0 number size el now) 0 number size el now := by
  refine ⟨by decide, hp.1, rfl, rfl, hp.2.2.1, hp.2.2.2, fun j h0 h2 hj => ?_⟩
  have : j = 1 ∨ j = 2 := by omega
  rcases this with rfl | rfl <;> exact ⟨rfl, rfl⟩
theorem found_moves0 (L0 L : Lo) (f1 : Pk → Bool) (h0 : L.s0.out = L0.s0.out.filter fun p => !f1 p) (ha : L.s1.out = L0.s1.out ∧ L.s1.acked = L0.s1.acked) (hb : L.s2.out = L0.s2.out ∧ L.s2.acked = L0.s2.acked) : Moves L0 L.found0 0 f1 L.ask0 := by
  obtain ⟨c0, c1, c2⟩ := crash_s (L.cut0 L.ask0) (newest (L.s0.out.filter L.ask0) (-1))
  refine ⟨by decide, fun j h0 h2 hj => ?_, ?_, fun p hp => ?_⟩
  · have : j = 1 ∨ j = 2 := by omega
    rcases this with rfl | rfl
    · show (Lo.found0 L).s1.out = _ ∧ (Lo.found0 L).s1.acked = _
      have e : (Lo.found0 L).s1 = L.s1 := c1
      rw [e]; exact ha
    · show (Lo.found0 L).s2.out = _ ∧ (Lo.found0 L).s2.acked = _
      have e : (Lo.found0 L).s2 = L.s2 := c2
      rw [e]; exact hb
  · show (Lo.found0 L).s0.out = _
    have e : (Lo.found0 L).s0.out = (L.cut0 L.ask0).s0.out := by
      show ((L.cut0 L.ask0).crash (newest (L.s0.out.filter L.ask0) (-1))).s0.out = _
      rw [c0]
    rw [e]
    show L.s0.out.filter _ = _
    rw [h0]
    rfl
  · show p.num < (Lo.found0 L).s0.acked
    have e : (Lo.found0 L).s0.acked = (L.cut0 L.ask0).s0.acked := by
      show ((L.cut0 L.ask0).crash (newest (L.s0.out.filter L.ask0) (-1))).s0.acked = _
      rw [c0]
    rw [e]
    exact lostB_lt hp
theorem sentOk1 (L : Lo) (number size : Int) (el : Bool) (now : Int) (hp : L.s1.takes number size) : SentOk L (L.sent1 number size el now) 1 number size el now := by
  refine ⟨by decide, hp.1, rfl, rfl, hp.2.2.1, hp.2.2.2, fun j h0 h2 hj => ?_⟩
  have : j = 0 ∨ j = 2 := by omega
  rcases this with rfl | rfl <;> exact ⟨rfl, rfl⟩
theorem found_moves1 (L0 L : Lo) (f1 : Pk → Bool) (h0 : L.s1.out = L0.s1.out.filter fun p => !f1 p) (ha : L.s0.out = L0.s0.out ∧ L.s0.acked = L0.s0.acked) (hb : L.s2.out = L0.s2.out ∧ L.s2.acked = L0.s2.acked) : Moves L0 L.found1 1 f1 L.ask1 := by
  obtain ⟨c0, c1, c2⟩ := crash_s (L.cut1 L.ask1) (newest (L.s1.out.filter L.ask1) (-1))
  refine ⟨by decide, fun j h0 h2 hj => ?_, ?_, fun p hp => ?_⟩
  · have : j = 0 ∨ j = 2 := by omega
    rcases this with rfl | rfl
    · show (Lo.found1 L).s0.out = _ ∧ (Lo.found1 L).s0.acked = _
      have e : (Lo.found1 L).s0 = L.s0 := c0
      rw [e]; exact ha
    · show (Lo.found1 L).s2.out = _ ∧ (Lo.found1 L).s2.acked = _
      have e : (Lo.found1 L).s2 = L.s2 := c2
      rw [e]; exact hb
  · show (Lo.found1 L).s1.out = _
    have e : (Lo.found1 L).s1.out = (L.cut1 L.ask1).s1.out := by
      show ((L.cut1 L.ask1).crash (newest (L.s1.out.filter L.ask1) (-1))).s1.out = _
      rw [c1]
    rw [e]
    show L.s1.out.filter _ = _
    rw [h0]
    rfl
  · show p.num < (Lo.found1 L).s1.acked
    have e : (Lo.found1 L).s1.acked = (L.cut1 L.ask1).s1.acked := by
      show ((L.cut1 L.ask1).crash (newest (L.s1.out.filter L.ask1) (-1))).s1.acked = _
      rw [c1]
    rw [e]
    exact lostB_lt hp
theorem sentOk2 (L : Lo) (number size : Int) (el : Bool) (now : Int) (hp : L.s2.takes number size) : SentOk L (L.sent2 number size el now) 2 number size el now := by
  refine ⟨by decide, hp.1, rfl, rfl, hp.2.2.1, hp.2.2.2, fun j h0 h2 hj => ?_⟩
  have : j = 0 ∨ j = 1 := by omega
  rcases this with rfl | rfl <;> exact ⟨rfl, rfl⟩
theorem found_moves2 (L0 L : Lo) (f1 : Pk → Bool) (h0 : L.s2.out = L0.s2.out.filter fun p => !f1 p) (ha : L.s0.out = L0.s0.out ∧ L.s0.acked = L0.s0.acked) (hb : L.s1.out = L0.s1.out ∧ L.s1.acked = L0.s1.acked) : Moves L0 L.found2 2 f1 L.ask2 := by
  obtain ⟨c0, c1, c2⟩ := crash_s (L.cut2 L.ask2) (newest (L.s2.out.filter L.ask2) (-1))
  refine ⟨by decide, fun j h0 h2 hj => ?_, ?_, fun p hp => ?_⟩
  · have : j = 0 ∨ j = 1 := by omega
    rcases this with rfl | rfl
    · show (Lo.found2 L).s0.out = _ ∧ (Lo.found2 L).s0.acked = _
      have e : (Lo.found2 L).s0 = L.s0 := c0
      rw [e]; exact ha
    · show (Lo.found2 L).s1.out = _ ∧ (Lo.found2 L).s1.acked = _
      have e : (Lo.found2 L).s1 = L.s1 := c1
      rw [e]; exact hb
  · show (Lo.found2 L).s2.out = _
    have e : (Lo.found2 L).s2.out = (L.cut2 L.ask2).s2.out := by
      show ((L.cut2 L.ask2).crash (newest (L.s2.out.filter L.ask2) (-1))).s2.out = _
      rw [c2]
    rw [e]
    show L.s2.out.filter _ = _
    rw [h0]
    rfl
  · show p.num < (Lo.found2 L).s2.acked
    have e : (Lo.found2 L).s2.acked = (L.cut2 L.ask2).s2.acked := by
      show ((L.cut2 L.ask2).crash (newest (L.s2.out.filter L.ask2) (-1))).s2.acked = _
      rw [c2]
    rw [e]
    exact lostB_lt hp

def SentP (F : Nat → Prop) (w : World) (g : Nat) (L : Lo) (s number size : Int) (el : Bool) (now : Int) (e : Ending) (w' : World) : Prop :=
  ∃ z L', e = .returned (.int .i64 z) ∧ Kept F w w' ∧ LAt (Fat F w w') w' g L' ∧ LoB L' ∧ L'.window = L.window ∧ ((z ≠ 0 ∧ L' = L) ∨ (z = 0 ∧ SentOk L L' s number size el now))
theorem sent_all (w : World) {F : Nat → Prop} {g : Nat} {L : Lo} (hL : LAt F w g L) (hq : LoB L) (s number size : Int) (el : Bool) (now : Int) :
    Calls Try.prog 13 #[.pointer (some ⟨g, 0, none⟩), .int .i64 s, .int .i64 number, .int .i64 size, .bool el, .int .i64 now] w (SentP F w g L s number size el now) := by
  have bad : ∀ (z : Int) (e : Ending) (w' : World), z ≠ 0 → e = .returned (.int .i64 z) ∧ w = w' → SentP F w g L s number size el now e w' := by
    rintro z e w' hz ⟨rfl, rfl⟩
    exact ⟨z, L, rfl, Kept.rf _ _, hL.fat, hq, rfl, .inl ⟨hz, rfl⟩⟩
  by_cases hs : 0 ≤ s ∧ s ≤ 2
  · by_cases ht : L.now ≤ now ∧ now ≤ 1099511627776
    · have hcs : s = 0 ∨ s = 1 ∨ s = 2 := by omega
      rcases hcs with rfl | rfl | rfl
      · by_cases hp : L.s0.takes number size
        · by_cases hf : L.s0.out.length < 4096
          · have hB := hq.sent0 number size el now ht hp hf
            have hO := sentOk0 L number size el now hp
            cases el
            · exact (sent_ok0_false w hL number size now ht hp hf).mono (fun e w' ⟨h1, h2, h3⟩ => ⟨0, _, h1, h2, h3, hB, rfl, .inr ⟨rfl, hO⟩⟩)
            · exact (sent_ok0_true w hL number size now ht hp hf).mono (fun e w' ⟨h1, h2, h3⟩ => ⟨0, _, h1, h2, h3, hB, rfl, .inr ⟨rfl, hO⟩⟩)
          · exact (sent_full0 w hL number size el now ht hp (by omega)).mono (fun e w' h => bad 20 e w' (by decide) h)
        · exact (sent_packet0 w hL number size el now ht hp).mono (fun e w' h => bad 111 e w' (by decide) h)
      · by_cases hp : L.s1.takes number size
        · by_cases hf : L.s1.out.length < 4096
          · have hB := hq.sent1 number size el now ht hp hf
            have hO := sentOk1 L number size el now hp
            cases el
            · exact (sent_ok1_false w hL number size now ht hp hf).mono (fun e w' ⟨h1, h2, h3⟩ => ⟨0, _, h1, h2, h3, hB, rfl, .inr ⟨rfl, hO⟩⟩)
            · exact (sent_ok1_true w hL number size now ht hp hf).mono (fun e w' ⟨h1, h2, h3⟩ => ⟨0, _, h1, h2, h3, hB, rfl, .inr ⟨rfl, hO⟩⟩)
          · exact (sent_full1 w hL number size el now ht hp (by omega)).mono (fun e w' h => bad 20 e w' (by decide) h)
        · exact (sent_packet1 w hL number size el now ht hp).mono (fun e w' h => bad 111 e w' (by decide) h)
      · by_cases hp : L.s2.takes number size
        · by_cases hf : L.s2.out.length < 4096
          · have hB := hq.sent2 number size el now ht hp hf
            have hO := sentOk2 L number size el now hp
            cases el
            · exact (sent_ok2_false w hL number size now ht hp hf).mono (fun e w' ⟨h1, h2, h3⟩ => ⟨0, _, h1, h2, h3, hB, rfl, .inr ⟨rfl, hO⟩⟩)
            · exact (sent_ok2_true w hL number size now ht hp hf).mono (fun e w' ⟨h1, h2, h3⟩ => ⟨0, _, h1, h2, h3, hB, rfl, .inr ⟨rfl, hO⟩⟩)
          · exact (sent_full2 w hL number size el now ht hp (by omega)).mono (fun e w' h => bad 20 e w' (by decide) h)
        · exact (sent_packet2 w hL number size el now ht hp).mono (fun e w' h => bad 111 e w' (by decide) h)
    · exact (sent_time w hL s number size el now hs ht).mono (fun e w' h => bad 112 e w' (by decide) h)
  · exact (sent_space w s number size el now hs).mono (fun e w' h => bad 110 e w' (by decide) h)

/-- a row of numbers that the call made -/
def NRow (w w' : World) (a : Option Addr) (n c : Nat) (zs : List Int) : Prop := n = zs.length ∧ w'.ownsRow w.heap.size 3 1 (.slice a n c) n (nums zs)
theorem NRow.nil (w w' : World) : NRow w w' none 0 0 [] := ⟨rfl, World.ownsRow_nil _ _ _ _⟩
theorem found_acked0 (L : Lo) : (L.found0.sp 0).acked = (L.sp 0).acked := by
  obtain ⟨c0, c1, c2⟩ := crash_s (L.cut0 L.ask0) (newest (L.s0.out.filter L.ask0) (-1))
  show ((L.cut0 L.ask0).crash (newest (L.s0.out.filter L.ask0) (-1))).s0.acked = _
  rw [c0]
  rfl
theorem found_acked1 (L : Lo) : (L.found1.sp 1).acked = (L.sp 1).acked := by
  obtain ⟨c0, c1, c2⟩ := crash_s (L.cut1 L.ask1) (newest (L.s1.out.filter L.ask1) (-1))
  show ((L.cut1 L.ask1).crash (newest (L.s1.out.filter L.ask1) (-1))).s1.acked = _
  rw [c1]
  rfl
theorem found_acked2 (L : Lo) : (L.found2.sp 2).acked = (L.sp 2).acked := by
  obtain ⟨c0, c1, c2⟩ := crash_s (L.cut2 L.ask2) (newest (L.s2.out.filter L.ask2) (-1))
  show ((L.cut2 L.ask2).crash (newest (L.s2.out.filter L.ask2) (-1))).s2.acked = _
  rw [c2]
  rfl
def FireP (F : Nat → Prop) (w : World) (g : Nat) (L : Lo) (e : Ending) (w' : World) : Prop :=
  ∃ s p z L' a n c zs, e = .returned (.tuple #[.int .i64 s, .slice a n c, .bool p, .int .i64 z]) ∧ NRow w w' a n c zs ∧ Kept F w w' ∧ LAt (Fat F w w') w' g L' ∧ LoB L' ∧ L'.window ≤ L.window ∧
    ((zs = [] ∧ ∀ j, L'.sp j = L.sp j) ∨ (p = false ∧ (L'.sp s).acked = (L.sp s).acked ∧ ∃ f2, Moves L L' s no f2 ∧ zs = ((L.sp s).out.filter f2).map (·.num)))
theorem fire_all (w : World) {F : Nat → Prop} {g : Nat} {L : Lo} (hL : LAt F w g L) (hq : LoB L) (now : Int) :
    Calls Try.prog 14 #[.pointer (some ⟨g, 0, none⟩), .int .i64 now] w (FireP F w g L) := by
  have hw := hq.window
  by_cases ht : L.now ≤ now ∧ now ≤ 1099511627776
  · by_cases hd : L.dead.1 < 0 ∨ now < L.dead.2.1
    · exact (fire_idle w hL hq.time now ht hd).mono (fun e w' ⟨h1, h2, h3⟩ => ⟨_, _, _, L.at' now, _, _, _, [], h1, NRow.nil _ _, h2, h3.fat, hq.at' now ht, Int.le_refl _, .inl ⟨rfl, fun _ => rfl⟩⟩)
    · cases hl : L.dead.2.2
      · exact (fire_probe w hL hq.time now ht (by omega) (by omega) hl).mono (fun e w' ⟨h1, h2, h3⟩ => ⟨_, _, _, L.probed now, _, _, _, [], h1, NRow.nil _ _, h2, h3.fat, hq.probed now ht, Int.le_refl _, .inl ⟨rfl, fun _ => rfl⟩⟩)
      · have := dead_le L
        have hcs : L.dead.1 = 0 ∨ L.dead.1 = 1 ∨ L.dead.1 = 2 := by omega
        rcases hcs with h0 | h0 | h0
        · obtain ⟨hB, hW⟩ := (hq.at' now ht).found0
          have hM := found_moves0 L (L.at' now) no (filter_no _).symm ⟨rfl, rfl⟩ ⟨rfl, rfl⟩
          have hW2 : (L.at' now).window = L.window := rfl
          exact (fire_lost0 w hL hq now ht h0 (by omega) hl).mono (fun e w' ⟨a, c, h1, h2, h3, h4⟩ => ⟨_, _, _, _, _, _, _, _, h1, ⟨by simp, h2⟩, h3, h4, hB, by omega, .inr ⟨rfl, found_acked0 (L.at' now), _, hM, rfl⟩⟩)
        · obtain ⟨hB, hW⟩ := (hq.at' now ht).found1
          have hM := found_moves1 L (L.at' now) no (filter_no _).symm ⟨rfl, rfl⟩ ⟨rfl, rfl⟩
          have hW2 : (L.at' now).window = L.window := rfl
          exact (fire_lost1 w hL hq now ht h0 (by omega) hl).mono (fun e w' ⟨a, c, h1, h2, h3, h4⟩ => ⟨_, _, _, _, _, _, _, _, h1, ⟨by simp, h2⟩, h3, h4, hB, by omega, .inr ⟨rfl, found_acked1 (L.at' now), _, hM, rfl⟩⟩)
        · obtain ⟨hB, hW⟩ := (hq.at' now ht).found2
          have hM := found_moves2 L (L.at' now) no (filter_no _).symm ⟨rfl, rfl⟩ ⟨rfl, rfl⟩
          have hW2 : (L.at' now).window = L.window := rfl
          exact (fire_lost2 w hL hq now ht h0 (by omega) hl).mono (fun e w' ⟨a, c, h1, h2, h3, h4⟩ => ⟨_, _, _, _, _, _, _, _, h1, ⟨by simp, h2⟩, h3, h4, hB, by omega, .inr ⟨rfl, found_acked2 (L.at' now), _, hM, rfl⟩⟩)
  · exact (fire_time w hL now ht).mono (fun e w' ⟨h1, h2⟩ => by
      subst h2
      exact ⟨_, _, _, L, _, _, _, [], h1, NRow.nil _ _, Kept.rf _ _, hL.fat, hq, Int.le_refl _, .inl ⟨rfl, fun _ => rfl⟩⟩)

def DropP (F : Nat → Prop) (w : World) (g : Nat) (L : Lo) (s : Int) (e : Ending) (w' : World) : Prop :=
  ∃ z L' a n c zs, e = .returned (.tuple #[.slice a n c, .int .i64 z]) ∧ NRow w w' a n c zs ∧ Kept F w w' ∧ LAt (Fat F w w') w' g L' ∧ LoB L' ∧ L'.window = L.window ∧
    ((¬ (0 ≤ s ∧ s ≤ 2) ∧ zs = [] ∧ L' = L) ∨ (Moves L L' s (fun _ => true) no ∧ zs = (L.sp s).out.map (·.num)))
theorem drop_all (w : World) {F : Nat → Prop} {g : Nat} {L : Lo} (hL : LAt F w g L) (hq : LoB L) (s : Int) :
    Calls Try.prog 19 #[.pointer (some ⟨g, 0, none⟩), .int .i64 s] w (DropP F w g L s) := by
  by_cases hs : 0 ≤ s ∧ s ≤ 2
  · have hcs : s = 0 ∨ s = 1 ∨ s = 2 := by omega
    rcases hcs with rfl | rfl | rfl
    · have hM : Moves L L.drop0 0 (fun _ => true) no := by
        refine ⟨by decide, fun j h0 h2 hj => ?_, ?_, fun p hp => by simp [no] at hp⟩
        · have : j = 1 ∨ j = 2 := by omega
          rcases this with rfl | rfl <;> exact ⟨rfl, rfl⟩
        · show [] = _
          simp
      exact (drop_0 w hL hq.b0.len).mono (fun e w' ⟨a, c, h1, h2, h3, h4⟩ => ⟨_, _, _, _, _, _, h1, ⟨by simp, h2⟩, h3, h4.fat, hq.drop0, rfl, .inr ⟨hM, rfl⟩⟩)
    · have hM : Moves L L.drop1 1 (fun _ => true) no := by
        refine ⟨by decide, fun j h0 h2 hj => ?_, ?_, fun p hp => by simp [no] at hp⟩
        · have : j = 0 ∨ j = 2 := by omega
          rcases this with rfl | rfl <;> exact ⟨rfl, rfl⟩
        · show [] = _
          simp
      exact (drop_1 w hL hq.b1.len).mono (fun e w' ⟨a, c, h1, h2, h3, h4⟩ => ⟨_, _, _, _, _, _, h1, ⟨by simp, h2⟩, h3, h4.fat, hq.drop1, rfl, .inr ⟨hM, rfl⟩⟩)
    · have hM : Moves L L.drop2 2 (fun _ => true) no := by
        refine ⟨by decide, fun j h0 h2 hj => ?_, ?_, fun p hp => by simp [no] at hp⟩
        · have : j = 0 ∨ j = 1 := by omega
          rcases this with rfl | rfl <;> exact ⟨rfl, rfl⟩
        · show [] = _
          simp
      exact (drop_2 w hL hq.b2.len).mono (fun e w' ⟨a, c, h1, h2, h3, h4⟩ => ⟨_, _, _, _, _, _, h1, ⟨by simp, h2⟩, h3, h4.fat, hq.drop2, rfl, .inr ⟨hM, rfl⟩⟩)
  · exact (drop_space w s hs).mono (fun e w' ⟨h1, h2⟩ => by
      subst h2
      exact ⟨_, L, _, _, _, [], h1, NRow.nil _ _, Kept.rf _ _, hL.fat, hq, rfl, .inl ⟨hs, rfl, rfl⟩⟩)

/-- what Ack does: the packets of f1 are acknowledged -/
structure AckOk (L L' : Lo) (k : Int) (l : List Sn) (f2 : Pk → Bool) (told lost : List Int) : Prop where
  mv : Moves L L' k (askOf l) f2
  hT : told = ((L.sp k).out.filter (askOf l)).map (·.num)
  hO : lost = (((L.sp k).out.filter fun p => !askOf l p).filter f2).map (·.num)
  hA : (told = [] ∧ (L'.sp k).acked = (L.sp k).acked) ∨ (told ≠ [] ∧ ∃ en, l[l.length - 1]?.map (·.to_) = some en ∧ (L'.sp k).acked = if (L.sp k).acked < en then en else (L.sp k).acked)
def AckP (F : Nat → Prop) (w : World) (g : Nat) (L : Lo) (k : Int) (l : List Sn) (e : Ending) (w' : World) : Prop :=
  ∃ z L' a1 n1 c1 a2 n2 c2 told lost, e = .returned (.tuple #[.slice a1 n1 c1, .slice a2 n2 c2, .int .i64 z]) ∧ NRow w w' a1 n1 c1 told ∧ NRow w w' a2 n2 c2 lost ∧ Kept F w w' ∧ LAt (Fat F w w') w' g L' ∧ LoB L' ∧ L'.window ≤ L.window + 268435456 ∧
    ((z ≠ 0 ∧ told = [] ∧ lost = [] ∧ L' = L) ∨ (z = 0 ∧ 0 < l.length ∧ ∃ f2, AckOk L L' k l f2 told lost))
theorem ack_ok0 (w : World) {F : Nat → Prop} {g : Nat} {L : Lo} (hL : LAt F w g L) (hq : LoB L) (hw : L.window ≤ 1152921504338411520) {B : Nat} {a : Option Addr} {c : Nat} {l : List Sn} (hS : Sps w B a c l) (hsg : ∀ ad, a = some ad → ad.block ≠ g) (delay now : Int)
    (ht : L.now ≤ now ∧ now ≤ 1099511627776) (hr : rightS l L.s0.high = true) (hd : 0 ≤ delay ∧ delay ≤ 4611686018427387903) :
    Calls Try.prog 15 #[.pointer (some ⟨g, 0, none⟩), .int .i64 0, .slice a l.length c, .int .i64 delay, .int .i64 now] w (AckP F w g L 0 l) := by
  obtain ⟨hl0, _, hle, en, hen, hen0⟩ := rightS_is hr
  have hFg := hL.fg
  have hKF : ∀ w', Kept (fun k => k = g) w w' → Kept F w w' := fun w' h => h.more (fun k _ e => by rw [e]; exact hFg)
  have hat := hq.at' now ht
  by_cases hG : L.s0.out.filter (askOf l) = []
  · have hM : Moves L ((L.at' now).cut0 (askOf l)) 0 (askOf l) no := by
      refine ⟨by decide, fun j h0 h2 hj => ?_, ?_, fun p hp => by simp [no] at hp⟩
      · have : j = 1 ∨ j = 2 := by omega
        rcases this with rfl | rfl <;> exact ⟨rfl, rfl⟩
      · rw [filter_no]; rfl
    exact (ack_none0 w hL hq hS delay now ht hr hd hG hsg).mono (fun e w' ⟨h1, h2, h3⟩ => ⟨_, _, _, _, _, _, _, _, [], [], h1, NRow.nil _ _, NRow.nil _ _, hKF w' h2, h3, hat.cut0 _, by show L.window ≤ _; omega, .inr ⟨rfl, hl0, no, hM, by
      show [] = _
      rw [sp_0, hG]; rfl, by simp [no], .inl ⟨rfl, rfl⟩⟩⟩)
  · obtain ⟨G, hGe⟩ : ∃ G, G = L.s0.out.filter (askOf l) := ⟨_, rfl⟩
    rw [← hGe] at hG
    have hG0 : 0 < G.length := List.length_pos_iff.2 hG
    have hGl : G.length ≤ 4096 := by rw [hGe]; exact Nat.le_trans (List.length_filter_le _ _) hq.b0.len
    have hpk := fun p (hp : p ∈ G) => hq.b0.pk p (by rw [hGe] at hp; exact (List.mem_filter.1 hp).1)
    have htop : G[G.length - 1]? = some (G[G.length - 1]'(by omega)) := List.getElem?_eq_getElem _
    have hpt := hpk _ (List.getElem_mem (show G.length - 1 < G.length by omega))
    generalize G[G.length - 1]'(by omega) = top at htop hpt
    have hel : en ≤ L.s0.high := by
      rw [List.getElem?_eq_getElem (by omega)] at hen
      simp only [Option.map_some, Option.some.injEq] at hen
      have := hle _ (List.getElem_mem (show l.length - 1 < l.length by omega))
      omega
    have h2 : LoB (L.a02 l now en) := by
      have h := hat.cut0 (askOf l)
      exact ⟨h.most, h.now, h.latest, h.least, h.smooth, h.vary, h.window, h.threshold, h.recovery, h.probes, h.b0.ack hel, h.b1, h.b2⟩
    obtain ⟨L3, h3⟩ : ∃ L3, L3 = if top.num = en ∧ G.any (·.el) = true then smp (L.a02 l now en) (now - top.at_) (min 0 L.most) else L.a02 l now en := ⟨_, rfl⟩
    have hmo := hq.most
    have hno := hq.now
    have hL3 : LoB L3 ∧ L3.window = L.window ∧ L3.s0 = (L.a02 l now en).s0 ∧ L3.s1 = (L.a02 l now en).s1 ∧ L3.s2 = (L.a02 l now en).s2 := by
      rw [h3]
      split
      · obtain ⟨e0, e1, e2, e3, _⟩ := smp_s (L.a02 l now en) (now - top.at_) (min 0 L.most)
        exact ⟨h2.smp _ _ (by omega) (by omega), e3, e0, e1, e2⟩
      · exact ⟨h2, rfl, rfl, rfl, rfl⟩
    obtain ⟨hB3, hw3, e0, e1, e2⟩ := hL3
    have hps : ∀ p ∈ G, 0 ≤ p.size ∧ p.size ≤ 65535 := fun p hp => ⟨(hpk p hp).2.2.1, (hpk p hp).2.2.2.1⟩
    have hgr : ∀ j, j ≤ G.length → LoB (growAll L3 (G.take j)) ∧ (growAll L3 (G.take j)).window ≤ L3.window + 65535 * ((G.take j).length : Int) := fun j hj =>
      LoB.growAll (G.take j) hB3 (fun p hp => hps p (List.mem_of_mem_take hp)) (by simp; omega)
    obtain ⟨hBg, hwg⟩ := hgr G.length (Nat.le_refl _)
    rw [List.take_length] at hBg hwg
    have hB5 := hBg.zero
    obtain ⟨hBf, hwf⟩ := hB5.found0
    have hwf' : ({ growAll L3 G with probes := 0 } : Lo).window = (growAll L3 G).window := rfl
    have hwz := hBg.window
    have hGI : (G.length : Int) ≤ 4096 := by omega
    have hwe : ({ growAll L3 G with probes := 0 } : Lo).found0.window ≤ L.window + 268435456 := by
      refine Int.le_trans hwf ?_
      rw [hwf', Int.max_def]
      split <;> omega
    obtain ⟨g0, g1, g2⟩ := growAll_s G L3
    have hM : Moves L ({ growAll L3 G with probes := 0 } : Lo).found0 0 (askOf l) ({ growAll L3 G with probes := 0 } : Lo).ask0 := found_moves0 L { growAll L3 G with probes := 0 } (askOf l)
      (by show (growAll L3 G).s0.out = _; rw [g0, e0]; rfl) (by show (growAll L3 G).s1.out = _ ∧ (growAll L3 G).s1.acked = _; rw [g1, e1]; exact ⟨rfl, rfl⟩) (by show (growAll L3 G).s2.out = _ ∧ (growAll L3 G).s2.acked = _; rw [g2, e2]; exact ⟨rfl, rfl⟩)
    have hou : ({ growAll L3 G with probes := 0 } : Lo).s0.out = L.s0.out.filter fun p => !askOf l p := by show (growAll L3 G).s0.out = _; rw [g0, e0]; rfl
    have hac : (({ growAll L3 G with probes := 0 } : Lo).found0.sp 0).acked = if (L.sp 0).acked < en then en else (L.sp 0).acked := by
      obtain ⟨c0, c1, c2⟩ := crash_s (({ growAll L3 G with probes := 0 } : Lo).cut0 ({ growAll L3 G with probes := 0 } : Lo).ask0) (newest (({ growAll L3 G with probes := 0 } : Lo).s0.out.filter ({ growAll L3 G with probes := 0 } : Lo).ask0) (-1))
      show ((({ growAll L3 G with probes := 0 } : Lo).cut0 ({ growAll L3 G with probes := 0 } : Lo).ask0).crash (newest (({ growAll L3 G with probes := 0 } : Lo).s0.out.filter ({ growAll L3 G with probes := 0 } : Lo).ask0) (-1))).s0.acked = _
      rw [c0]
      show (growAll L3 G).s0.acked = _
      rw [g0, e0]
      rfl
    refine (ack_got0 w hL hq hS delay now ht hr hd hsg hGe htop hen h3 (fun j hj => by have := (hgr j hj).1.window; omega) hB5).mono ?_
    rintro e w' ⟨a1, c1, a2, c2, r1, r2, r3, r4, r5⟩
    refine ⟨0, _, _, _, _, _, _, _, _, _, r1, ⟨by simp, r2⟩, ⟨by simp, r3⟩, hKF w' r4, r5, hBf, hwe, .inr ⟨rfl, hl0, _, hM, by rw [hGe]; rfl, by rw [hou]; rfl, .inr ⟨?_, en, hen, hac⟩⟩⟩
    intro he
    rw [List.map_eq_nil_iff] at he
    exact hG he
theorem ack_ok1 (w : World) {F : Nat → Prop} {g : Nat} {L : Lo} (hL : LAt F w g L) (hq : LoB L) (hw : L.window ≤ 1152921504338411520) {B : Nat} {a : Option Addr} {c : Nat} {l : List Sn} (hS : Sps w B a c l) (hsg : ∀ ad, a = some ad → ad.block ≠ g) (delay now : Int)
    (ht : L.now ≤ now ∧ now ≤ 1099511627776) (hr : rightS l L.s1.high = true) (hd : 0 ≤ delay ∧ delay ≤ 4611686018427387903) :
    Calls Try.prog 15 #[.pointer (some ⟨g, 0, none⟩), .int .i64 1, .slice a l.length c, .int .i64 delay, .int .i64 now] w (AckP F w g L 1 l) := by
  obtain ⟨hl0, _, hle, en, hen, hen0⟩ := rightS_is hr
  have hFg := hL.fg
  have hKF : ∀ w', Kept (fun k => k = g) w w' → Kept F w w' := fun w' h => h.more (fun k _ e => by rw [e]; exact hFg)
  have hat := hq.at' now ht
  by_cases hG : L.s1.out.filter (askOf l) = []
  · have hM : Moves L ((L.at' now).cut1 (askOf l)) 1 (askOf l) no := by
      refine ⟨by decide, fun j h0 h2 hj => ?_, ?_, fun p hp => by simp [no] at hp⟩
      · have : j = 0 ∨ j = 2 := by omega
        rcases this with rfl | rfl <;> exact ⟨rfl, rfl⟩
      · rw [filter_no]; rfl
    exact (ack_none1 w hL hq hS delay now ht hr hd hG hsg).mono (fun e w' ⟨h1, h2, h3⟩ => ⟨_, _, _, _, _, _, _, _, [], [], h1, NRow.nil _ _, NRow.nil _ _, hKF w' h2, h3, hat.cut1 _, by show L.window ≤ _; omega, .inr ⟨rfl, hl0, no, hM, by
      show [] = _
      rw [sp_1, hG]; rfl, by simp [no], .inl ⟨rfl, rfl⟩⟩⟩)
  · obtain ⟨G, hGe⟩ : ∃ G, G = L.s1.out.filter (askOf l) := ⟨_, rfl⟩
    rw [← hGe] at hG
    have hG0 : 0 < G.length := List.length_pos_iff.2 hG
    have hGl : G.length ≤ 4096 := by rw [hGe]; exact Nat.le_trans (List.length_filter_le _ _) hq.b1.len
    have hpk := fun p (hp : p ∈ G) => hq.b1.pk p (by rw [hGe] at hp; exact (List.mem_filter.1 hp).1)
    have htop : G[G.length - 1]? = some (G[G.length - 1]'(by omega)) := List.getElem?_eq_getElem _
    have hpt := hpk _ (List.getElem_mem (show G.length - 1 < G.length by omega))
    generalize G[G.length - 1]'(by omega) = top at htop hpt
    have hel : en ≤ L.s1.high := by
      rw [List.getElem?_eq_getElem (by omega)] at hen
      simp only [Option.map_some, Option.some.injEq] at hen
      have := hle _ (List.getElem_mem (show l.length - 1 < l.length by omega))
      omega
    have h2 : LoB (L.a12 l now en) := by
      have h := hat.cut1 (askOf l)
      exact ⟨h.most, h.now, h.latest, h.least, h.smooth, h.vary, h.window, h.threshold, h.recovery, h.probes, h.b0, h.b1.ack hel, h.b2⟩
    obtain ⟨L3, h3⟩ : ∃ L3, L3 = if top.num = en ∧ G.any (·.el) = true then smp (L.a12 l now en) (now - top.at_) (min 0 L.most) else L.a12 l now en := ⟨_, rfl⟩
    have hmo := hq.most
    have hno := hq.now
    have hL3 : LoB L3 ∧ L3.window = L.window ∧ L3.s0 = (L.a12 l now en).s0 ∧ L3.s1 = (L.a12 l now en).s1 ∧ L3.s2 = (L.a12 l now en).s2 := by
      rw [h3]
      split
      · obtain ⟨e0, e1, e2, e3, _⟩ := smp_s (L.a12 l now en) (now - top.at_) (min 0 L.most)
        exact ⟨h2.smp _ _ (by omega) (by omega), e3, e0, e1, e2⟩
      · exact ⟨h2, rfl, rfl, rfl, rfl⟩
    obtain ⟨hB3, hw3, e0, e1, e2⟩ := hL3
    have hps : ∀ p ∈ G, 0 ≤ p.size ∧ p.size ≤ 65535 := fun p hp => ⟨(hpk p hp).2.2.1, (hpk p hp).2.2.2.1⟩
    have hgr : ∀ j, j ≤ G.length → LoB (growAll L3 (G.take j)) ∧ (growAll L3 (G.take j)).window ≤ L3.window + 65535 * ((G.take j).length : Int) := fun j hj =>
      LoB.growAll (G.take j) hB3 (fun p hp => hps p (List.mem_of_mem_take hp)) (by simp; omega)
    obtain ⟨hBg, hwg⟩ := hgr G.length (Nat.le_refl _)
    rw [List.take_length] at hBg hwg
    have hB5 := hBg.zero
    obtain ⟨hBf, hwf⟩ := hB5.found1
    have hwf' : ({ growAll L3 G with probes := 0 } : Lo).window = (growAll L3 G).window := rfl
    have hwz := hBg.window
    have hGI : (G.length : Int) ≤ 4096 := by omega
    have hwe : ({ growAll L3 G with probes := 0 } : Lo).found1.window ≤ L.window + 268435456 := by
      refine Int.le_trans hwf ?_
      rw [hwf', Int.max_def]
      split <;> omega
    obtain ⟨g0, g1, g2⟩ := growAll_s G L3
    have hM : Moves L ({ growAll L3 G with probes := 0 } : Lo).found1 1 (askOf l) ({ growAll L3 G with probes := 0 } : Lo).ask1 := found_moves1 L { growAll L3 G with probes := 0 } (askOf l)
      (by show (growAll L3 G).s1.out = _; rw [g1, e1]; rfl) (by show (growAll L3 G).s0.out = _ ∧ (growAll L3 G).s0.acked = _; rw [g0, e0]; exact ⟨rfl, rfl⟩) (by show (growAll L3 G).s2.out = _ ∧ (growAll L3 G).s2.acked = _; rw [g2, e2]; exact ⟨rfl, rfl⟩)
    have hou : ({ growAll L3 G with probes := 0 } : Lo).s1.out = L.s1.out.filter fun p => !askOf l p := by show (growAll L3 G).s1.out = _; rw [g1, e1]; rfl
    have hac : (({ growAll L3 G with probes := 0 } : Lo).found1.sp 1).acked = if (L.sp 1).acked < en then en else (L.sp 1).acked := by
      obtain ⟨c0, c1, c2⟩ := crash_s (({ growAll L3 G with probes := 0 } : Lo).cut1 ({ growAll L3 G with probes := 0 } : Lo).ask1) (newest (({ growAll L3 G with probes := 0 } : Lo).s1.out.filter ({ growAll L3 G with probes := 0 } : Lo).ask1) (-1))
      show ((({ growAll L3 G with probes := 0 } : Lo).cut1 ({ growAll L3 G with probes := 0 } : Lo).ask1).crash (newest (({ growAll L3 G with probes := 0 } : Lo).s1.out.filter ({ growAll L3 G with probes := 0 } : Lo).ask1) (-1))).s1.acked = _
      rw [c1]
      show (growAll L3 G).s1.acked = _
      rw [g1, e1]
      rfl
    refine (ack_got1 w hL hq hS delay now ht hr hd hsg hGe htop hen h3 (fun j hj => by have := (hgr j hj).1.window; omega) hB5).mono ?_
    rintro e w' ⟨a1, c1, a2, c2, r1, r2, r3, r4, r5⟩
    refine ⟨0, _, _, _, _, _, _, _, _, _, r1, ⟨by simp, r2⟩, ⟨by simp, r3⟩, hKF w' r4, r5, hBf, hwe, .inr ⟨rfl, hl0, _, hM, by rw [hGe]; rfl, by rw [hou]; rfl, .inr ⟨?_, en, hen, hac⟩⟩⟩
    intro he
    rw [List.map_eq_nil_iff] at he
    exact hG he
theorem ack_ok2 (w : World) {F : Nat → Prop} {g : Nat} {L : Lo} (hL : LAt F w g L) (hq : LoB L) (hw : L.window ≤ 1152921504338411520) {B : Nat} {a : Option Addr} {c : Nat} {l : List Sn} (hS : Sps w B a c l) (hsg : ∀ ad, a = some ad → ad.block ≠ g) (delay now : Int)
    (ht : L.now ≤ now ∧ now ≤ 1099511627776) (hr : rightS l L.s2.high = true) (hd : 0 ≤ delay ∧ delay ≤ 4611686018427387903) :
    Calls Try.prog 15 #[.pointer (some ⟨g, 0, none⟩), .int .i64 2, .slice a l.length c, .int .i64 delay, .int .i64 now] w (AckP F w g L 2 l) := by
  obtain ⟨hl0, _, hle, en, hen, hen0⟩ := rightS_is hr
  have hFg := hL.fg
  have hKF : ∀ w', Kept (fun k => k = g) w w' → Kept F w w' := fun w' h => h.more (fun k _ e => by rw [e]; exact hFg)
  have hat := hq.at' now ht
  by_cases hG : L.s2.out.filter (askOf l) = []
  · have hM : Moves L ((L.at' now).cut2 (askOf l)) 2 (askOf l) no := by
      refine ⟨by decide, fun j h0 h2 hj => ?_, ?_, fun p hp => by simp [no] at hp⟩
      · have : j = 0 ∨ j = 1 := by omega
        rcases this with rfl | rfl <;> exact ⟨rfl, rfl⟩
      · rw [filter_no]; rfl
    exact (ack_none2 w hL hq hS delay now ht hr hd hG hsg).mono (fun e w' ⟨h1, h2, h3⟩ => ⟨_, _, _, _, _, _, _, _, [], [], h1, NRow.nil _ _, NRow.nil _ _, hKF w' h2, h3, hat.cut2 _, by show L.window ≤ _; omega, .inr ⟨rfl, hl0, no, hM, by
      show [] = _
      rw [sp_2, hG]; rfl, by simp [no], .inl ⟨rfl, rfl⟩⟩⟩)
  · obtain ⟨G, hGe⟩ : ∃ G, G = L.s2.out.filter (askOf l) := ⟨_, rfl⟩
    rw [← hGe] at hG
    have hG0 : 0 < G.length := List.length_pos_iff.2 hG
    have hGl : G.length ≤ 4096 := by rw [hGe]; exact Nat.le_trans (List.length_filter_le _ _) hq.b2.len
    have hpk := fun p (hp : p ∈ G) => hq.b2.pk p (by rw [hGe] at hp; exact (List.mem_filter.1 hp).1)
    have htop : G[G.length - 1]? = some (G[G.length - 1]'(by omega)) := List.getElem?_eq_getElem _
    have hpt := hpk _ (List.getElem_mem (show G.length - 1 < G.length by omega))
    generalize G[G.length - 1]'(by omega) = top at htop hpt
    have hel : en ≤ L.s2.high := by
      rw [List.getElem?_eq_getElem (by omega)] at hen
      simp only [Option.map_some, Option.some.injEq] at hen
      have := hle _ (List.getElem_mem (show l.length - 1 < l.length by omega))
      omega
    have h2 : LoB (L.a22 l now en) := by
      have h := hat.cut2 (askOf l)
      exact ⟨h.most, h.now, h.latest, h.least, h.smooth, h.vary, h.window, h.threshold, h.recovery, h.probes, h.b0, h.b1, h.b2.ack hel⟩
    obtain ⟨L3, h3⟩ : ∃ L3, L3 = if top.num = en ∧ G.any (·.el) = true then smp (L.a22 l now en) (now - top.at_) (min delay L.most) else L.a22 l now en := ⟨_, rfl⟩
    have hmo := hq.most
    have hno := hq.now
    have hL3 : LoB L3 ∧ L3.window = L.window ∧ L3.s0 = (L.a22 l now en).s0 ∧ L3.s1 = (L.a22 l now en).s1 ∧ L3.s2 = (L.a22 l now en).s2 := by
      rw [h3]
      split
      · obtain ⟨e0, e1, e2, e3, _⟩ := smp_s (L.a22 l now en) (now - top.at_) (min delay L.most)
        exact ⟨h2.smp _ _ (by omega) (by omega), e3, e0, e1, e2⟩
      · exact ⟨h2, rfl, rfl, rfl, rfl⟩
    obtain ⟨hB3, hw3, e0, e1, e2⟩ := hL3
    have hps : ∀ p ∈ G, 0 ≤ p.size ∧ p.size ≤ 65535 := fun p hp => ⟨(hpk p hp).2.2.1, (hpk p hp).2.2.2.1⟩
    have hgr : ∀ j, j ≤ G.length → LoB (growAll L3 (G.take j)) ∧ (growAll L3 (G.take j)).window ≤ L3.window + 65535 * ((G.take j).length : Int) := fun j hj =>
      LoB.growAll (G.take j) hB3 (fun p hp => hps p (List.mem_of_mem_take hp)) (by simp; omega)
    obtain ⟨hBg, hwg⟩ := hgr G.length (Nat.le_refl _)
    rw [List.take_length] at hBg hwg
    have hB5 := hBg.zero
    obtain ⟨hBf, hwf⟩ := hB5.found2
    have hwf' : ({ growAll L3 G with probes := 0 } : Lo).window = (growAll L3 G).window := rfl
    have hwz := hBg.window
    have hGI : (G.length : Int) ≤ 4096 := by omega
    have hwe : ({ growAll L3 G with probes := 0 } : Lo).found2.window ≤ L.window + 268435456 := by
      refine Int.le_trans hwf ?_
      rw [hwf', Int.max_def]
      split <;> omega
    obtain ⟨g0, g1, g2⟩ := growAll_s G L3
    have hM : Moves L ({ growAll L3 G with probes := 0 } : Lo).found2 2 (askOf l) ({ growAll L3 G with probes := 0 } : Lo).ask2 := found_moves2 L { growAll L3 G with probes := 0 } (askOf l)
      (by show (growAll L3 G).s2.out = _; rw [g2, e2]; rfl) (by show (growAll L3 G).s0.out = _ ∧ (growAll L3 G).s0.acked = _; rw [g0, e0]; exact ⟨rfl, rfl⟩) (by show (growAll L3 G).s1.out = _ ∧ (growAll L3 G).s1.acked = _; rw [g1, e1]; exact ⟨rfl, rfl⟩)
    have hou : ({ growAll L3 G with probes := 0 } : Lo).s2.out = L.s2.out.filter fun p => !askOf l p := by show (growAll L3 G).s2.out = _; rw [g2, e2]; rfl
    have hac : (({ growAll L3 G with probes := 0 } : Lo).found2.sp 2).acked = if (L.sp 2).acked < en then en else (L.sp 2).acked := by
      obtain ⟨c0, c1, c2⟩ := crash_s (({ growAll L3 G with probes := 0 } : Lo).cut2 ({ growAll L3 G with probes := 0 } : Lo).ask2) (newest (({ growAll L3 G with probes := 0 } : Lo).s2.out.filter ({ growAll L3 G with probes := 0 } : Lo).ask2) (-1))
      show ((({ growAll L3 G with probes := 0 } : Lo).cut2 ({ growAll L3 G with probes := 0 } : Lo).ask2).crash (newest (({ growAll L3 G with probes := 0 } : Lo).s2.out.filter ({ growAll L3 G with probes := 0 } : Lo).ask2) (-1))).s2.acked = _
      rw [c2]
      show (growAll L3 G).s2.acked = _
      rw [g2, e2]
      rfl
    refine (ack_got2 w hL hq hS delay now ht hr hd hsg hGe htop hen h3 (fun j hj => by have := (hgr j hj).1.window; omega) hB5).mono ?_
    rintro e w' ⟨a1, c1, a2, c2, r1, r2, r3, r4, r5⟩
    refine ⟨0, _, _, _, _, _, _, _, _, _, r1, ⟨by simp, r2⟩, ⟨by simp, r3⟩, hKF w' r4, r5, hBf, hwe, .inr ⟨rfl, hl0, _, hM, by rw [hGe]; rfl, by rw [hou]; rfl, .inr ⟨?_, en, hen, hac⟩⟩⟩
    intro he
    rw [List.map_eq_nil_iff] at he
    exact hG he

theorem ack_all (w : World) {F : Nat → Prop} {g : Nat} {L : Lo} (hL : LAt F w g L) (hq : LoB L) (hw : L.window ≤ 1152921504338411520) {B : Nat} {a : Option Addr} {c : Nat} {l : List Sn} (hS : Sps w B a c l) (hl : l.length ≤ 1152921504606846976) (hsg : ∀ ad, a = some ad → ad.block ≠ g) (s delay now : Int) :
    Calls Try.prog 15 #[.pointer (some ⟨g, 0, none⟩), .int .i64 s, .slice a l.length c, .int .i64 delay, .int .i64 now] w (AckP F w g L s l) := by
  have bad : ∀ (z : Int) (e : Ending) (w' : World), z ≠ 0 → AckErr w z e w' → AckP F w g L s l e w' := by
    rintro z e w' hz ⟨rfl, hb⟩
    exact ⟨z, L, _, _, _, _, _, _, [], [], rfl, NRow.nil _ _, NRow.nil _ _, (Kept.of_below (X := F) hb), (hL.below hb).fat, hq, by omega, .inl ⟨hz, rfl, rfl, rfl⟩⟩
  by_cases hs : 0 ≤ s ∧ s ≤ 2
  · by_cases ht : L.now ≤ now ∧ now ≤ 1099511627776
    · have hcs : s = 0 ∨ s = 1 ∨ s = 2 := by omega
      rcases hcs with rfl | rfl | rfl
      · cases hr : rightS l L.s0.high
        · exact (ack_spans0 w hL hq.b0.high hS hl delay now ht hr).mono (fun e w' h => bad 111 e w' (by decide) h)
        · by_cases hd : 0 ≤ delay ∧ delay ≤ 4611686018427387903
          · exact ack_ok0 w hL hq hw hS hsg delay now ht hr hd
          · exact (ack_range0 w hL hq.b0.high hS hl delay now ht hr (by omega)).mono (fun e w' h => bad 30 e w' (by decide) h)
      · cases hr : rightS l L.s1.high
        · exact (ack_spans1 w hL hq.b1.high hS hl delay now ht hr).mono (fun e w' h => bad 111 e w' (by decide) h)
        · by_cases hd : 0 ≤ delay ∧ delay ≤ 4611686018427387903
          · exact ack_ok1 w hL hq hw hS hsg delay now ht hr hd
          · exact (ack_range1 w hL hq.b1.high hS hl delay now ht hr (by omega)).mono (fun e w' h => bad 30 e w' (by decide) h)
      · cases hr : rightS l L.s2.high
        · exact (ack_spans2 w hL hq.b2.high hS hl delay now ht hr).mono (fun e w' h => bad 111 e w' (by decide) h)
        · by_cases hd : 0 ≤ delay ∧ delay ≤ 4611686018427387903
          · exact ack_ok2 w hL hq hw hS hsg delay now ht hr hd
          · exact (ack_range2 w hL hq.b2.high hS hl delay now ht hr (by omega)).mono (fun e w' h => bad 30 e w' (by decide) h)
    · exact (ack_time w hL s delay now a l.length c hs ht).mono (fun e w' h => bad 112 e w' (by decide) h)
  · exact (ack_space w s delay now a l.length c hs).mono (fun e w' h => bad 110 e w' (by decide) h)
end Go.Proofs.Ytkpeegcpicckjaa

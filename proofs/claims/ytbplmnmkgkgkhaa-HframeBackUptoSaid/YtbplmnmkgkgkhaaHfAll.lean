/- Contracts of End, Done and Next over a reader that has a way to go (Runs); what 'all' keeps from round to round. -/
import Derived.Test.YtbplmnmkgkgkhaaHfEvs
namespace Go.Proofs.Ytbplmnmkgkgkhaa
open Go.RowKit

set_option maxRecDepth 100000 in
theorem end_at (w : World) {F : Nat → Prop} {g : Nat} {R : Rd} (hR : RAt F w g R) (he : R.ended = false) :
    Calls Try.prog 22 #[.pointer (some ⟨g, 0, none⟩)] w fun e w' => e = .returned (.int .i64 0) ∧ Kept F w w' ∧ RAt F w' g { R with ended := true } := by
  obtain ⟨ba, bc, hb, fg, fb⟩ := hR
  have c3 : w.cell? ⟨g, 3, none⟩ = some (.bool false) := by rw [← he]; exact hb.has.cell 3 rfl
  have f3 := hb.has.free 3
  have HF : Hid (Kept F w (w.setCell ⟨g, 3, none⟩ (.bool true)) ∧ RAt F (w.setCell ⟨g, 3, none⟩ (.bool true)) g { R with ended := true }) := Lib.hid
    ⟨(Kept.set w g 3 _).more (fun k _ e => by rw [e]; exact fg), ba, bc, hb.set 3 (.bool true) rfl rfl, fg, fb⟩
  clear hb
  go_enter Try.func22, Try.ntmps22
  go_wp2
  go_ret
  exact ⟨rfl, HF.out⟩
set_option maxRecDepth 100000 in
theorem done_at (w : World) {F : Nat → Prop} {g : Nat} {R : Rd} (hR : RAt F w g R) :
    Calls Try.prog 23 #[.pointer (some ⟨g, 0, none⟩)] w fun e w' => e = .returned (.bool R.done) ∧ w' = w := by
  obtain ⟨ba, bc, hb, fg, fb⟩ := hR
  have c4 := hb.has.cell 4 rfl
  clear hb
  go_enter Try.func23, Try.ntmps23
  go_wp2
  go_ret
  exact ⟨rfl, rfl⟩

theorem next_ended : ∀ (k : Nat) (R : Rd), (nextV k R).2.ended = R.ended := by
  intro k
  induction k with
  | zero => intro R; rfl
  | succ k ih =>
    intro R
    have h := step_ended R
    rw [nextV]
    cases e : (stepV R).1 with
    | none => simp only; rw [ih]; exact h
    | some o => exact h
def NextAt (F : Nat → Prop) (w : World) (g : Nat) (R : Rd) (r : Res) (e : Ending) (w' : World) : Prop :=
  ∃ (o : NOut) (R' : Rd) (ea : Option Addr) (ec : Nat), e = .returned (.tuple #[.agg #[.int .i64 o.ev.kind, .slice ea o.ev.data.length ec, .int .i64 o.ev.cap, .int .i64 o.ev.blk, .int .i64 o.ev.lim, .int .i64 o.ev.id], .bool o.ok, .int .i64 o.z]) ∧
    Said R' o R.b.length r ∧ RdOk R' ∧ R'.b.length ≤ R.b.length ∧ R'.ended = R.ended ∧ Sl w' ea o.ev.data.length ec (bv o.ev.data) ∧ (∀ ad, ea = some ad → w.heap.size ≤ ad.block) ∧ Kept F w w' ∧ RAt F w' g R'
theorem next_at (w : World) {F : Nat → Prop} {g : Nat} {R : Rd} (hR : RAt F w g R) (hok : RdOk R) (hlen : R.b.length ≤ 140737488351232) {r : Res} (hr : Runs R r) :
    Calls Try.prog 21 #[.pointer (some ⟨g, 0, none⟩)] w (NextAt F w g R r) := by
  obtain ⟨ba, bc, hb, fg, fb⟩ := hR
  refine (next_any w hb hlen hok.heads hok.left).mono ?_
  rintro e w' ⟨vs, a, c, he, _, ⟨ea, ec, rfl, hs, hbl⟩, hk, hRB, hsame⟩
  obtain ⟨h1, h2, h3⟩ := next_said (R.b.length + 1) R r (Nat.lt_succ_self _) hok hr
  refine ⟨_, _, ea, ec, he, h1, h2, h3, next_ended _ _, hs, hbl, hk.more (fun k _ e => by rw [e]; exact fg), a, c, hRB, fg, fun ad ha => ?_⟩
  obtain ⟨ad0, h4, h5⟩ := hsame ad ha
  rw [h5]; exact fb ad0 h4

theorem SlIn.take {M : Nat → Prop} {w : World} {a : Option Addr} {n c k : Nat} {l : List UInt8} (h : SlIn M w a n c l) (hk : k ≤ n) : SlIn M w a k c (l.take k) :=
  ⟨by rw [bv_take]; exact sl_take h.sl hk, fun h0 => h.out (by omega)⟩
theorem SlIn.drop {M : Nat → Prop} {w : World} {a a' : Option Addr} {n c k : Nat} {l : List UInt8} (h : SlIn M w a n c l) (hk : k ≤ n) (ha' : a' = if c = k then a else Option.map (fun x => x.add k) a) : SlIn M w a' (n - k) (c - k) (l.drop k) := by
  have hnc := h.sl.cap_le
  refine ⟨?_, fun h0 j hb => ?_⟩
  · rw [ha', bv_drop]
    by_cases hc : c = k
    · rw [if_pos hc]
      have hn : n = k := by omega
      subst hn
      rw [hc]
      have e : (bv l).drop n = [] := List.drop_of_length_le (by rw [h.sl.len]; omega)
      rw [e, Nat.sub_self]
      exact ⟨rfl, Nat.le_refl _, Nat.zero_le _, fun _ => rfl, fun h => absurd h (Nat.lt_irrefl _)⟩
    · rw [if_neg hc]
      exact sl_in h.sl hk
  · refine h.out (by omega) j ?_
    obtain ⟨ad, h1, h2⟩ := hb
    rw [ha'] at h1
    by_cases hc : c = k
    · rw [if_pos hc] at h1; exact ⟨ad, h1, h2⟩
    · rw [if_neg hc] at h1
      cases a with
      | none => cases h1
      | some ad1 =>
        cases h1
        exact ⟨ad1, rfl, by rw [← h2]; exact (add_block ad1 k).symm⟩

/-- what is still to come for the loop over the pieces -/
def FinO (R : Rd) (rest : List UInt8) (cs : List Int) (es : List Ev) (bd : List UInt8) (fin : Res) : Prop :=
  ∃ r', AllP R rest cs r' ∧ fin.out = es ++ r'.out ∧ fin.body = bd ++ r'.body ∧ fin.z = r'.z ∧ fin.R.done = r'.R.done
/-- what is still to come for the loop over the events of what has come -/
def FinI (last : Bool) (rest : List UInt8) (cs : List Int) (es : List Ev) (bd : List UInt8) (r fin : Res) : Prop :=
  ((r.z ≠ 0 ∨ last = true) → fin.out = es ++ r.out ∧ fin.body = bd ++ r.body ∧ fin.z = r.z ∧ fin.R.done = r.R.done) ∧ (r.z = 0 → last = false → FinO r.R rest cs (es ++ r.out) (bd ++ r.body) fin)
theorem FinI.cons {last : Bool} {rest : List UInt8} {cs : List Int} {es : List Ev} {bd : List UInt8} {r fin : Res} {e : Ev} (h : FinI last rest cs es bd (r.cons e) fin) :
    (e.kind = 2 → FinI last rest cs es (bd ++ e.data) r fin) ∧ (e.kind ≠ 2 → FinI last rest cs (es ++ [e]) bd r fin) := by
  refine ⟨fun hk => ?_, fun hk => ?_⟩
  · have e1 : r.cons e = { r with body := e.data ++ r.body } := by unfold Res.cons; rw [if_pos hk]
    rw [e1] at h
    obtain ⟨h1, h2⟩ := h
    refine ⟨fun hz => ?_, fun hz hl => ?_⟩
    · obtain ⟨a, b, c, d⟩ := h1 hz
      exact ⟨a, by rw [b, List.append_assoc], c, d⟩
    · have := h2 hz hl
      rw [List.append_assoc]; exact this
  · have e1 : r.cons e = { r with out := e :: r.out } := by unfold Res.cons; rw [if_neg hk]
    rw [e1] at h
    obtain ⟨h1, h2⟩ := h
    refine ⟨fun hz => ?_, fun hz hl => ?_⟩
    · obtain ⟨a, b, c, d⟩ := h1 hz
      exact ⟨by rw [a, List.append_assoc]; rfl, b, c, d⟩
    · have := h2 hz hl
      rw [List.append_assoc]; exact this
theorem FinO.cut {R : Rd} {rest : List UInt8} {cs : List Int} {es : List Ev} {bd : List UInt8} {fin : Res} (h : FinO R rest cs es bd fin) :
    (cutN rest.length cs = rest.length → ∃ r, Runs { R with b := R.b ++ rest, ended := true } r ∧ ∀ rest' cs', FinI true rest' cs' es bd r fin) ∧
    (cutN rest.length cs ≠ rest.length → ∃ r, Runs { R with b := R.b ++ rest.take (cutN rest.length cs) } r ∧ FinI false (rest.drop (cutN rest.length cs)) cs.tail es bd r fin) := by
  obtain ⟨r', ha, h1, h2, h3, h4⟩ := h
  cases ha with
  | last g1 g2 => exact ⟨fun _ => ⟨r', g2, fun _ _ => ⟨fun _ => ⟨h1, h2, h3, h4⟩, fun _ h => by cases h⟩⟩, fun hn => absurd g1 hn⟩
  | err g1 g2 g3 => exact ⟨fun hn => absurd hn g1, fun _ => ⟨r', g2, fun _ => ⟨h1, h2, h3, h4⟩, fun h => absurd h g3⟩⟩
  | @more _ _ _ r r2 g1 g2 g3 g4 =>
    refine ⟨fun hn => absurd hn g1, fun _ => ⟨r, g2, fun h => ?_, fun _ _ => ?_⟩⟩
    · rcases h with h | h
      · exact absurd g3 h
      · cases h
    · exact ⟨r2, g4, by rw [h1, List.append_assoc], by rw [h2, List.append_assoc], h3, h4⟩
end Go.Proofs.Ytbplmnmkgkgkhaa

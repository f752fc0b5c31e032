/- Next in terms of Runs, and what lies in memory while bytes are read to their end: the reader, the events told, the body. Plain. -/
import Derived.Test.YtbplmnmkgkgkhaaHfNext
import Derived.Test.YtbplmnmkgkgkhaaHfRun
import Derived.Test.YtbplmnmkgkgkhaaGrowS
namespace Go.Proofs.Ytbplmnmkgkgkhaa
open Go.RowKit

/-- what keeps a reader readable -/
structure RdOk (R : Rd) : Prop where
  heads : 0 ≤ R.heads
  left : R.left < 4611686018427387904
theorem whole_okR (R : Rd) (k : Int) (pl : List UInt8) (h : RdOk R) : RdOk (wholeE R k pl).2 := by
  obtain ⟨h1, h2⟩ := h
  unfold wholeE
  split
  · exact ⟨by show 0 ≤ R.heads + 1; omega, h2⟩
  · split
    · split <;> exact ⟨h1, h2⟩
    · split <;> exact ⟨h1, h2⟩
theorem wait_okR (R : Rd) (h : RdOk R) : RdOk (waitR R).2 := by unfold waitR; split <;> exact ⟨h.1, h.2⟩
theorem over_okR (R : Rd) (h : RdOk R) : RdOk (overR R).2 := by
  unfold overR
  repeat' split
  all_goals exact ⟨h.1, h.2⟩
theorem step_okR (R : Rd) (h : RdOk R) : RdOk (stepV R).2 := by
  have hs := stepV_sc R
  revert hs
  generalize stepV R = x
  intro hs
  cases hs with
  | starve | short1 | short2 | more => exact wait_okR R h
  | over => exact over_okR R h
  | @skip k t0 s t h0 h1 h2 h3 h4 h5 h6 =>
    refine ⟨h.1, ?_⟩
    have := getV_lt R.b t0
    rw [h4] at this
    exact this
  | whole => exact whole_okR _ _ _ ⟨h.1, h.2⟩
  | pass | data => exact ⟨h.1, by have := h.2; show R.left - R.b.length < _; omega⟩
  | _ => exact ⟨h.1, h.2⟩
theorem step_lenLe (R : Rd) : (stepV R).2.b.length ≤ R.b.length := by
  have hs := stepV_sc R
  revert hs
  generalize stepV R = x
  intro hs
  cases hs with
  | starve | short1 | short2 | more => show (waitR R).2.b.length ≤ _; unfold waitR; split <;> exact Nat.le_refl _
  | over => show (overR R).2.b.length ≤ _; unfold overR; repeat' split
            all_goals exact Nat.le_refl _
  | whole => show (wholeE _ _ _).2.b.length ≤ _; rw [whole_b]; simp
  | fault | bad => exact Nat.le_refl _
  | _ => simp [List.length_drop]
theorem step_told {R R' : Rd} {o : NOut} (h : stepV R = (some o, R')) (ho : o.ok = true) : R'.b.length + o.ev.data.length ≤ R.b.length := by
  have hs := stepV_sc R
  rw [h] at hs
  obtain ⟨x, hx⟩ : ∃ x, x = (some o, R') := ⟨_, rfl⟩
  rw [← hx] at hs
  cases hs with
  | data h0 h1 h2 h3 =>
    cases hx
    show (R.b.drop R.left).length + (R.b.take R.left).length ≤ _
    rw [List.length_drop, List.length_take]; omega
  | @whole k t0 s t h0 h1 h2 h3 h4 h5 h6 h7 h8 =>
    cases hx
    rw [whole_b]
    show (R.b.drop (t + s)).length + _ ≤ _
    have hd : ∀ (R1 : Rd) (pl : List UInt8), (wholeE R1 k pl).1.ev.data.length ≤ pl.length := fun R1 pl => by
      unfold wholeE
      split
      · exact Nat.le_refl _
      · split
        · split <;> exact Nat.zero_le _
        · split <;> exact Nat.zero_le _
    have := hd { R with b := R.b.drop (t + s) } ((R.b.drop t).take s)
    have e2 : ((R.b.drop t).take s).length ≤ s := by rw [List.length_take]; omega
    rw [List.length_drop]; omega
  | _ => cases hx <;> cases ho
/-- what Next says, and what is left to run -/
inductive Said (R' : Rd) (o : NOut) (n : Nat) (r : Res) : Prop
  | err (h : o.z ≠ 0) (e : r = ⟨[], [], o.z, R'⟩)
  | stop (h : o.z = 0) (h1 : o.ok = false) (e : r = ⟨[], [], 0, R'⟩)
  | ev (r' : Res) (h : o.z = 0) (h1 : o.ok = true) (h2 : Runs R' r') (h3 : R'.b.length < n) (h4 : R'.b.length + o.ev.data.length ≤ n) (e : r = r'.cons o.ev)
theorem next_said : ∀ (k : Nat) (R : Rd) (r : Res), R.b.length < k → RdOk R → Runs R r → Said (nextV k R).2 (nextV k R).1 R.b.length r ∧ RdOk (nextV k R).2 ∧ (nextV k R).2.b.length ≤ R.b.length := by
  intro k
  induction k with
  | zero => intro R r h; omega
  | succ k ih =>
    intro R r hk hok hr
    obtain ⟨o, R', e⟩ : ∃ o R', stepV R = (o, R') := ⟨_, _, rfl⟩
    have hok' := step_okR R hok
    have hle := step_lenLe R
    rw [e] at hok' hle
    cases o with
    | none =>
      have hl := stepV_less R (by rw [e])
      rw [e] at hl
      have hl' : R'.b.length < R.b.length := hl
      have en : nextV (k + 1) R = nextV k R' := by rw [nextV, e]
      rw [en]
      cases hr with
      | on g1 g2 =>
        rw [e] at g1; cases g1
        obtain ⟨i1, i2, i3⟩ := ih R' r (by omega) hok' g2
        refine ⟨?_, i2, by omega⟩
        cases i1 with
        | err a b => exact .err a b
        | stop a b c => exact .stop a b c
        | ev r' a b c d d2 f => exact .ev r' a b c (by omega) (by omega) f
      | err g1 _ => rw [e] at g1; cases g1
      | stop g1 _ _ => rw [e] at g1; cases g1
      | ev g1 _ _ _ => rw [e] at g1; cases g1
    | some o =>
      have en : nextV (k + 1) R = (o, R') := by rw [nextV, e]
      rw [en]
      refine ⟨?_, hok', hle⟩
      cases hr with
      | on g1 g2 => rw [e] at g1; cases g1
      | err g1 g2 => rw [e] at g1; cases g1; exact .err g2 rfl
      | stop g1 g2 g3 => rw [e] at g1; cases g1; exact .stop g2 g3 rfl
      | ev g1 g2 g3 g4 => rw [e] at g1; cases g1; exact .ev _ g2 g3 g4 (step_takes e g3) (step_told e g3) rfl

/-- the block of a slice -/
def blk (a : Option Addr) (k : Nat) : Prop := ∃ ad, a = some ad ∧ ad.block = k
theorem blk_own {a : Option Addr} {n c k : Nat} (h : Value.ownBlock (.slice a n c) = some k) : blk a k := by
  cases a with
  | none => cases h
  | some ad => simp only [Value.ownBlock, Option.some.injEq] at h; exact ⟨ad, rfl, h⟩
theorem own_blk {a : Option Addr} {n c k : Nat} (h : blk a k) : Value.ownBlock (.slice a n c) = some k := by
  obtain ⟨ad, rfl, h⟩ := h
  simp only [Value.ownBlock, h]
/-- bytes that lie outside the blocks of M -/
structure SlIn (M : Nat → Prop) (w : World) (a : Option Addr) (n c : Nat) (l : List UInt8) : Prop where
  sl : Sl w a n c (bv l)
  out : 0 < n → ∀ k, blk a k → k < w.heap.size ∧ ¬ M k
theorem SlIn.step {M M' X : Nat → Prop} {w w' : World} {a : Option Addr} {n c : Nat} {l : List UInt8} (h : SlIn M w a n c l) (hk : Kept X w w') (hX : ∀ k, k < w.heap.size → X k → M k) (hM : ∀ k, M' k → M k ∨ w.heap.size ≤ k) : SlIn M' w' a n c l := by
  by_cases hn : 0 < n
  · have ho := h.out hn
    refine ⟨h.sl.kept hk (fun ad ha hx => ?_), fun _ k hb => ?_⟩
    · obtain ⟨h1, h2⟩ := ho ad.block ⟨ad, ha, rfl⟩
      exact h2 (hX _ h1 hx)
    · obtain ⟨h1, h2⟩ := ho k hb
      refine ⟨Nat.lt_of_lt_of_le h1 hk.size, fun hm => ?_⟩
      rcases hM k hm with h3 | h3
      · exact h2 h3
      · omega
  · exact ⟨⟨h.sl.len, h.sl.cap_le, h.sl.cap_max, h.sl.nil, fun h0 => absurd h0 hn⟩, fun h0 => absurd h0 hn⟩
/-- what was just told: it lies in new blocks -/
theorem SlIn.fresh {M : Nat → Prop} {B : Nat} {w' : World} {a : Option Addr} {n c : Nat} {l : List UInt8} (h : Sl w' a n c (bv l)) (hb : ∀ ad, a = some ad → B ≤ ad.block) (hM : ∀ k, M k → k < B) : SlIn M w' a n c l := by
  refine ⟨h, fun hn k ⟨ad, ha, e⟩ => ?_⟩
  obtain ⟨b, off, rfl, hc⟩ := h.cells hn
  cases ha
  have h1 := hc 0 hn
  have hl : 0 < (bv l).length := by rw [h.len]; exact hn
  rw [List.getElem?_eq_getElem hl] at h1
  have h2 := World.block_lt_of_cell? w' _ h1
  have h3 := hb _ rfl
  subst e
  have h2' : b < w'.heap.size := h2
  have h3' : B ≤ b := h3
  exact ⟨h2', fun hm => by have h4 : b < B := hM _ hm; omega⟩
/-- an event's cells -/
def evc (e : Ev) (a : Option Addr) (c : Nat) : List Value := [.int .i64 e.kind, .slice a e.data.length c, .int .i64 e.cap, .int .i64 e.blk, .int .i64 e.lim, .int .i64 e.id]
def EvsIn (M : Nat → Prop) (w : World) : List Ev → List Value → Prop
  | [], cs => cs = []
  | e :: es, cs => ∃ a c r, cs = evc e a c ++ r ∧ SlIn M w a e.data.length c e.data ∧ EvsIn M w es r
theorem EvsIn.step {M M' X : Nat → Prop} {w w' : World} (hk : Kept X w w') (hX : ∀ k, k < w.heap.size → X k → M k) (hM : ∀ k, M' k → M k ∨ w.heap.size ≤ k) : ∀ {es : List Ev} {cs : List Value}, EvsIn M w es cs → EvsIn M' w' es cs := by
  intro es
  induction es with
  | nil => exact fun h => h
  | cons e es ih =>
    rintro cs ⟨a, c, r, h1, h2, h3⟩
    exact ⟨a, c, r, h1, h2.step hk hX hM, ih h3⟩
theorem EvsIn.snoc {M : Nat → Prop} {w : World} {e : Ev} {a : Option Addr} {c : Nat} (he : SlIn M w a e.data.length c e.data) : ∀ {es : List Ev} {cs : List Value}, EvsIn M w es cs → EvsIn M w (es ++ [e]) (cs ++ evc e a c) := by
  intro es
  induction es with
  | nil => intro cs h; cases h; exact ⟨a, c, [], by simp, he, rfl⟩
  | cons x es ih =>
    rintro cs ⟨a', c', r, h1, h2, h3⟩
    exact ⟨a', c', r ++ evc e a c, by rw [h1, List.append_assoc], h2, ih h3⟩
theorem EvsIn.length {M : Nat → Prop} {w : World} : ∀ {es : List Ev} {cs : List Value}, EvsIn M w es cs → cs.length = es.length * 6 := by
  intro es
  induction es with
  | nil => intro cs h; cases h; rfl
  | cons x es ih =>
    rintro cs ⟨a', c', r, h1, h2, h3⟩
    rw [h1, List.length_append, ih h3, List.length_cons]
    simp [evc]; omega
theorem EvsIn.at {M : Nat → Prop} {w : World} : ∀ {es : List Ev} {cs : List Value}, EvsIn M w es cs → ∀ (i : Nat) (h : i < es.length), ∃ a c, (∀ j, j < 6 → cs[i * 6 + j]? = (evc es[i] a c)[j]?) ∧ SlIn M w a es[i].data.length c es[i].data := by
  intro es
  induction es with
  | nil => intro cs _ i h; exact absurd h (Nat.not_lt_zero _)
  | cons x es ih =>
    rintro cs ⟨a', c', r, h1, h2, h3⟩ i h
    cases i with
    | zero =>
      refine ⟨a', c', fun j hj => ?_, h2⟩
      rw [h1, List.getElem?_append_left (by simp [evc]; omega)]
      simp
    | succ i =>
      obtain ⟨a, c, g1, g2⟩ := ih h3 i (by simpa using h)
      refine ⟨a, c, fun j hj => ?_, g2⟩
      rw [h1, List.getElem?_append_right (by simp [evc]; omega)]
      have : (i + 1) * 6 + j - (evc x a' c').length = i * 6 + j := by simp [evc]; omega
      rw [this]
      exact g1 j hj

theorem infoEv : (Try.prog.info? 32).map (fun i => (i.zero, i.size, i.bytes)) = some (some (.agg #[.int .i64 0, .slice none 0 0, .int .i64 0, .int .i64 0, .int .i64 0, .int .i64 0]), 6, 64) := by kernel_rfl
/-- an event appended -/
theorem run_app_ev {B : Nat} {w : World} {tyo : TypeId} {a1 : Option Addr} {n1 c1 : Nat} {cs : List Value} {b : Nat} {e : Ev} {a : Option Addr} {c : Nat} (hown : w.ownsRow B 32 6 (.slice a1 n1 c1) n1 cs)
    (hrow : w.heap[b]? = some (.cells (evc e a c).toArray 32 (0, 0))) (hsz : n1 ≤ 2000000000000) (hBw : B ≤ w.heap.size) :
    ∃ a' c' w', (Builtin.append_ #[25, 25] tyo #[.slice a1 n1 c1, .slice (some ⟨b, 0, none⟩) 1 1]).run Try.prog w = .ok (.slice a' (n1 + 1) c') w' ∧
      w'.ownsRow B 32 6 (.slice a' (n1 + 1) c') (n1 + 1) (cs ++ evc e a c) ∧ w.grownBy w' (Value.ownBlock (.slice a1 n1 c1)) ∧ NewOr w (.slice a1 n1 c1) (.slice a' (n1 + 1) c') := by
  obtain ⟨i, hi, h1, h2, h3⟩ := info_parts infoEv
  have hcell : ∀ j u, (evc e a c)[j]? = some u → w.cell? ((⟨b, 0, none⟩ : Addr).add j) = some u := by
    intro j u hu
    rw [addr_add, Nat.zero_add, cell_of_row w b j _ _ _ hrow, ← hu]
    simp
  exact run_app_s (s := 6) (bytes := 64) (z := .agg #[.int .i64 0, .slice none 0 0, .int .i64 0, .int .i64 0, .int .i64 0, .int .i64 0]) Try.underlying25 hi h1 h2 h3 rfl (by decide) hown (by simp [evc]) hcell
    (by intro u hu; simp only [evc, List.mem_cons, List.not_mem_nil, or_false] at hu; rcases hu with rfl | rfl | rfl | rfl | rfl | rfl <;> rfl) (by decide) (by omega) (by unfold maxLen; omega) hBw

/-- the reader at g, the events, the body: all in blocks of their own from B on -/
structure AI (B : Nat) (M : Nat → Prop) (w : World) (g : Nat) (R : Rd) (es : List Ev) (bd : List UInt8) (oa : Option Addr) (oc : Nat) (ya : Option Addr) (yc : Nat) (F : Nat → Prop) (cs : List Value) : Prop where
  rd : RAt F w g R
  out : w.ownsRow B 32 6 (.slice oa es.length oc) es.length cs
  body : w.ownsRow B 5 1 (.slice ya bd.length yc) bd.length (bv bd)
  evs : EvsIn M w es cs
  mF : ∀ k, F k → M k
  mo : ∀ k, blk oa k → M k
  my : ∀ k, blk ya k → M k
  low : ∀ k, M k → B ≤ k ∧ k < w.heap.size
  Fo : ∀ k, F k → ¬ blk oa k
  Fy : ∀ k, F k → ¬ blk ya k
  oy : ∀ k, blk oa k → ¬ blk ya k
/-- the reader alone was at work -/
theorem AI.reader {B : Nat} {M : Nat → Prop} {w w' : World} {g : Nat} {R R' : Rd} {es : List Ev} {bd : List UInt8} {oa : Option Addr} {oc : Nat} {ya : Option Addr} {yc : Nat} {F F' : Nat → Prop} {cs : List Value} (h : AI B M w g R es bd oa oc ya yc F cs)
    (hk : Kept F w w') (hR : RAt F' w' g R') (hF : ∀ k, F' k → F k ∨ (w.heap.size ≤ k ∧ k < w'.heap.size)) : AI B (fun k => M k ∨ F' k) w' g R' es bd oa oc ya yc F' cs := by
  have hlow := h.low
  have hz := hk.size
  have key : ∀ k, F' k → B ≤ k ∧ k < w'.heap.size := fun k hf => by
    rcases hF k hf with h1 | h1
    · have := hlow k (h.mF k h1); omega
    · refine ⟨?_, h1.2⟩
      have := h.rd
      obtain ⟨ba, bc, hb, fg, _⟩ := this
      have := hlow g (h.mF g fg)
      omega
  have old : ∀ k, F' k → k < w.heap.size → F k := fun k hf hl => by
    rcases hF k hf with h1 | h1
    · exact h1
    · omega
  have ho : ∀ k, F k → Value.ownBlock (.slice oa es.length oc) ≠ some k := fun k hf e => h.Fo k hf (blk_own e)
  have hy : ∀ k, F k → Value.ownBlock (.slice ya bd.length yc) ≠ some k := fun k hf e => h.Fy k hf (blk_own e)
  refine ⟨hR, own_kept h.out hk (fun k e hf => ho k hf e), own_kept h.body hk (fun k e hf => hy k hf e), h.evs.step hk (fun k _ hf => h.mF k hf) (fun k hm => ?_), fun k hf => .inr hf, fun k hb => .inl (h.mo k hb), fun k hb => .inl (h.my k hb), fun k hm => ?_, fun k hf hb => ?_, fun k hf hb => ?_, h.oy⟩
  · rcases hm with hm | hm
    · exact .inl hm
    · rcases hF k hm with h1 | h1
      · exact .inl (h.mF k h1)
      · exact .inr h1.1
  · rcases hm with hm | hm
    · have := hlow k hm; omega
    · exact key k hm
  · exact h.Fo k (old k hf (hlow k (h.mo k hb)).2) hb
  · exact h.Fy k (old k hf (hlow k (h.my k hb)).2) hb
theorem AI.below {B : Nat} {M : Nat → Prop} {w w' : World} {g : Nat} {R : Rd} {es : List Ev} {bd : List UInt8} {oa : Option Addr} {oc : Nat} {ya : Option Addr} {yc : Nat} {F : Nat → Prop} {cs : List Value} (h : AI B M w g R es bd oa oc ya yc F cs)
    (hb : Below w.heap.size w w') : AI B M w' g R es bd oa oc ya yc F cs := by
  have hz := hb.size
  exact ⟨h.rd.below hb, own_below h.out hb, own_below h.body hb, h.evs.step (X := none') (Kept.of_below hb) (fun _ _ h => h.elim) (fun _ h => .inl h), h.mF, h.mo, h.my, fun k hm => by have := h.low k hm; omega, h.Fo, h.Fy, h.oy⟩
/-- the body has grown -/
theorem AI.bodyOn {B : Nat} {M : Nat → Prop} {w w' : World} {g : Nat} {R : Rd} {es : List Ev} {bd d : List UInt8} {oa : Option Addr} {oc : Nat} {ya ya' : Option Addr} {yc yc' n' : Nat} {F : Nat → Prop} {cs : List Value} (h : AI B M w g R es bd oa oc ya yc F cs)
    (hn : n' = (bd ++ d).length) (ho : w'.ownsRow B 5 1 (.slice ya' n' yc') n' (bv bd ++ bv d)) (hg : w.grownBy w' (Value.ownBlock (.slice ya bd.length yc))) (hw : NewOr w (.slice ya bd.length yc) (.slice ya' n' yc')) :
    AI B (fun k => M k ∨ blk ya' k) w' g R es (bd ++ d) oa oc ya' yc' F cs := by
  subst hn
  have hk := Kept.of_grown hg
  have hz := hk.size
  have hX : ∀ k, Value.ownBlock (.slice ya bd.length yc) = some k → blk ya k := fun k e => blk_own e
  have hY : ∀ k, blk ya' k → blk ya k ∨ w.heap.size ≤ k := fun k hb => by
    rcases hw k (own_blk hb) with h1 | h1
    · exact .inl (blk_own h1)
    · exact .inr h1
  have hlt : ∀ k, blk ya' k → B ≤ k ∧ k < w'.heap.size := fun k ⟨ad, ha, e⟩ => by
    rcases ho.2 with ⟨hv, _⟩ | ⟨g, cap, cur, hv, hB, hg', _⟩
    · simp only [Value.slice.injEq] at hv; rw [hv.1] at ha; cases ha
    · simp only [Value.slice.injEq] at hv
      rw [hv.1] at ha; cases ha
      subst e
      exact ⟨hB, (Array.getElem?_eq_some_iff.1 hg').1⟩
  refine ⟨h.rd.kept hk (fun k hf _ e => h.Fy k hf (hX k e)), own_kept h.out hk (fun k e he => h.oy k (blk_own e) (hX k he)), by rw [bv_append]; exact ho, h.evs.step hk (fun k _ e => h.my k (hX k e)) (fun k hm => ?_), fun k hf => .inl (h.mF k hf), fun k hb => .inl (h.mo k hb), fun k hb => .inr hb, fun k hm => ?_, h.Fo, fun k hf hb => ?_, fun k h1 h2 => ?_⟩
  · rcases hm with hm | hm
    · exact .inl hm
    · rcases hY k hm with h1 | h1
      · exact .inl (h.my k h1)
      · exact .inr h1
  · rcases hm with hm | hm
    · have := h.low k hm; omega
    · exact hlt k hm
  · rcases hY k hb with h1 | h1
    · exact h.Fy k hf h1
    · have := h.low k (h.mF k hf); omega
  · rcases hY k h2 with h3 | h3
    · exact h.oy k h1 h3
    · have := h.low k (h.mo k h1); omega
/-- an event has come to the others -/
theorem AI.outOn {B : Nat} {M : Nat → Prop} {w w' : World} {g : Nat} {R : Rd} {es : List Ev} {bd : List UInt8} {oa oa' : Option Addr} {oc oc' : Nat} {ya : Option Addr} {yc : Nat} {F : Nat → Prop} {cs : List Value} {e : Ev} {a : Option Addr} {c : Nat} (h : AI B M w g R es bd oa oc ya yc F cs)
    (he : SlIn M w a e.data.length c e.data) (ho : w'.ownsRow B 32 6 (.slice oa' (es.length + 1) oc') (es.length + 1) (cs ++ evc e a c)) (hg : w.grownBy w' (Value.ownBlock (.slice oa es.length oc))) (hw : NewOr w (.slice oa es.length oc) (.slice oa' (es.length + 1) oc')) :
    AI B (fun k => M k ∨ blk oa' k) w' g R (es ++ [e]) bd oa' oc' ya yc F (cs ++ evc e a c) := by
  have hk := Kept.of_grown hg
  have hz := hk.size
  have hX : ∀ k, Value.ownBlock (.slice oa es.length oc) = some k → blk oa k := fun k e => blk_own e
  have hY : ∀ k, blk oa' k → blk oa k ∨ w.heap.size ≤ k := fun k hb => by
    rcases hw k (own_blk hb) with h1 | h1
    · exact .inl (blk_own h1)
    · exact .inr h1
  have hlt : ∀ k, blk oa' k → B ≤ k ∧ k < w'.heap.size := fun k ⟨ad, ha, e⟩ => by
    rcases ho.2 with ⟨hv, _⟩ | ⟨g, cap, cur, hv, hB, hg', _⟩
    · simp only [Value.slice.injEq] at hv; rw [hv.1] at ha; cases ha
    · simp only [Value.slice.injEq] at hv
      rw [hv.1] at ha; cases ha
      subst e
      exact ⟨hB, (Array.getElem?_eq_some_iff.1 hg').1⟩
  have hM : ∀ k, (M k ∨ blk oa' k) → M k ∨ w.heap.size ≤ k := fun k hm => by
    rcases hm with hm | hm
    · exact .inl hm
    · rcases hY k hm with h1 | h1
      · exact .inl (h.mo k h1)
      · exact .inr h1
  have hl : (es ++ [e]).length = es.length + 1 := by simp
  refine ⟨h.rd.kept hk (fun k hf _ e => h.Fo k hf (hX k e)), by rw [hl]; exact ho, own_kept h.body hk (fun k e he => h.oy k (hX k he) (blk_own e)), (h.evs.step hk (fun k _ e => h.mo k (hX k e)) hM).snoc (he.step hk (fun k _ e => h.mo k (hX k e)) hM), fun k hf => .inl (h.mF k hf), fun k hb => .inr hb, fun k hb => .inl (h.my k hb), fun k hm => ?_, fun k hf hb => ?_, h.Fy, fun k h1 h2 => ?_⟩
  · rcases hm with hm | hm
    · have := h.low k hm; omega
    · exact hlt k hm
  · rcases hY k hb with h1 | h1
    · exact h.Fo k hf h1
    · have := h.low k (h.mF k hf); omega
  · rcases hY k h1 with h3 | h3
    · exact h.oy k h3 h2
    · have := h.low k (h.my k h2); omega
end Go.Proofs.Ytbplmnmkgkgkhaa

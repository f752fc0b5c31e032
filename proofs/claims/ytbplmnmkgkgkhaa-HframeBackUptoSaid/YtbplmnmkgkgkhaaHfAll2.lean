/- The walk of turnpikelaw17.all: bytes that come in pieces, the events told, the body put together: as AllP says. -/
import Derived.Test.YtbplmnmkgkgkhaaHfAll
namespace Go.Proofs.Ytbplmnmkgkgkhaa
open Go.RowKit

structure OS (w : World) (bn : Nat) (g : Nat) (cuts : List Int) (fin : Res) (M F : Nat → Prop) (R : Rd) (es : List Ev) (bd : List UInt8) (oa : Option Addr) (oc : Nat) (ya : Option Addr) (yc : Nat) (cs : List Value) (rest : List UInt8) (ra : Option Addr) (rn rc i : Nat) (wr : World) : Prop where
  ai : AI w.heap.size M wr g R es bd oa oc ya yc F cs
  rst : SlIn M wr ra rn rc rest
  ok : RdOk R
  ended : R.ended = false
  fin : FinO R rest (cuts.drop i) es bd fin
  n1 : es.length + R.b.length + rn ≤ bn
  n2 : bd.length + R.b.length + rn ≤ bn
  n3 : i + rn ≤ bn
  below : Below w.heap.size w wr
def ORel (w : World) (bn g : Nat) (cuts : List Int) (fin : Res) (ov yv rv iv' : Value) (wr : World) : Prop :=
  ∃ M F R es bd oa oc ya yc cs rest ra rn rc, ∃ i : Nat, ov = .slice oa (List.length es) oc ∧ yv = .slice ya (List.length bd) yc ∧ rv = .slice ra rn rc ∧ iv' = .int .i64 (i : Int) ∧ OS w bn g cuts fin M F R es bd oa oc ya yc cs rest ra rn rc i wr
structure IS (w : World) (bn : Nat) (g : Nat) (last : Bool) (rest : List UInt8) (ra : Option Addr) (rn rc : Nat) (cs' : List Int) (fin : Res) (M F : Nat → Prop) (R : Rd) (es : List Ev) (bd : List UInt8) (oa : Option Addr) (oc : Nat) (ya : Option Addr) (yc : Nat) (cs : List Value) (r : Res) (wr : World) : Prop where
  ai : AI w.heap.size M wr g R es bd oa oc ya yc F cs
  rst : SlIn M wr ra rn rc rest
  ok : RdOk R
  ended : last = false → R.ended = false
  run : Runs R r
  fin : FinI last rest cs' es bd r fin
  n1 : es.length + R.b.length + rn ≤ bn
  n2 : bd.length + R.b.length + rn ≤ bn
  below : Below w.heap.size w wr
def IRel (w : World) (bn g : Nat) (last : Bool) (rest : List UInt8) (ra : Option Addr) (rn rc : Nat) (cs' : List Int) (fin : Res) (ov yv : Value) (wr : World) : Prop :=
  ∃ M F R es bd oa oc ya yc cs r, ov = .slice oa (List.length es) oc ∧ yv = .slice ya (List.length bd) yc ∧ IS w bn g last rest ra rn rc cs' fin M F R es bd oa oc ya yc cs r wr
/-- what all answers -/
def AllE (w : World) (fin : Res) (e : Ending) (w' : World) : Prop :=
  ∃ oa oc ya yc cs, e = .returned (.tuple #[.slice oa fin.out.length oc, .slice ya fin.body.length yc, .int .i64 fin.z, .bool fin.R.done]) ∧ w'.ownsRow w.heap.size 32 6 (.slice oa fin.out.length oc) fin.out.length cs ∧ EvsIn none' w' fin.out cs ∧
    w'.ownsRow w.heap.size 5 1 (.slice ya fin.body.length yc) fin.body.length (bv fin.body) ∧ Below w.heap.size w w'
theorem AI.shut {w wr : World} {M F : Nat → Prop} {g : Nat} {R : Rd} {es : List Ev} {bd : List UInt8} {oa : Option Addr} {oc : Nat} {ya : Option Addr} {yc : Nat} {cs : List Value} {fin : Res} {z : Int} (h : AI w.heap.size M wr g R es bd oa oc ya yc F cs) (hb : Below w.heap.size w wr)
    (h1 : fin.out = es) (h2 : fin.body = bd) (h3 : fin.z = z) (h4 : fin.R.done = R.done) :
    AllE w fin (.returned (.tuple #[.slice oa es.length oc, .slice ya bd.length yc, .int .i64 z, .bool R.done])) wr := by
  subst h1 h2 h3
  rw [← h4]
  exact ⟨oa, oc, ya, yc, cs, rfl, h.out, h.evs.step (X := none') (Kept.refl _ _) (fun _ _ h => h.elim) (fun _ h => h.elim), h.body, hb⟩
/-- the reader has answered, and the event lies in a new variable -/
structure TS (w : World) (bn : Nat) (g : Nat) (last : Bool) (rest : List UInt8) (ra : Option Addr) (rn rc : Nat) (cs' : List Int) (fin : Res) (M F : Nat → Prop) (R : Rd) (es : List Ev) (bd : List UInt8) (oa : Option Addr) (oc : Nat) (ya : Option Addr) (yc : Nat) (cs : List Value) (wr : World) (ev : Ev) (ea : Option Addr) (ec : Nat) : Prop where
  ai : AI w.heap.size M wr g R es bd oa oc ya yc F cs
  rst : SlIn M wr ra rn rc rest
  tld : SlIn M wr ea ev.data.length ec ev.data
  ok : RdOk R
  ended : last = false → R.ended = false
  n1 : es.length + R.b.length + rn ≤ bn
  n2 : bd.length + R.b.length + rn ≤ bn
  below : Below w.heap.size w wr
theorem IS.next {w : World} {bn g : Nat} {last : Bool} {rest : List UInt8} {ra : Option Addr} {rn rc : Nat} {cs' : List Int} {fin : Res} {M F : Nat → Prop} {R R' : Rd} {es : List Ev} {bd : List UInt8} {oa : Option Addr} {oc : Nat} {ya : Option Addr} {yc : Nat} {cs : List Value} {r : Res} {wr w' : World} {ev : Ev} {ea : Option Addr} {ec : Nat}
    (h : IS w bn g last rest ra rn rc cs' fin M F R es bd oa oc ya yc cs r wr) (hok : RdOk R') (hlen : R'.b.length ≤ R.b.length) (hend : R'.ended = R.ended) (hs : Sl w' ea ev.data.length ec (bv ev.data)) (hb : ∀ ad, ea = some ad → wr.heap.size ≤ ad.block) (hk : Kept F wr w') (hR : RAt F w' g R') (o : Obj) :
    TS w bn g last rest ra rn rc cs' fin (fun k => M k ∨ F k) F R' es bd oa oc ya yc cs (w'.alloc o) ev ea ec := by
  have h1 := h.n1
  have h2 := h.n2
  have hlow := h.ai.low
  have hal : Below w'.heap.size w' (w'.alloc o) := (Below.refl _ _).alloc (Nat.le_refl _) _
  have hz := hk.size
  have hwz := h.below.size
  refine ⟨(h.ai.reader hk hR (fun k hf => .inl hf)).below hal, (h.rst.step hk (fun k _ hf => h.ai.mF k hf) (fun k hm => ?_)).step (X := none') (Kept.of_below hal) (fun _ _ h => h.elim) (fun _ h => .inl h), (SlIn.fresh hs hb (fun k hm => ?_)).step (X := none') (Kept.of_below hal) (fun _ _ h => h.elim) (fun _ h => .inl h), hok, fun hl => by rw [hend]; exact h.ended hl, by omega, by omega, ?_⟩
  · rcases hm with hm | hm
    · exact .inl hm
    · exact .inl (h.ai.mF k hm)
  · rcases hm with hm | hm
    · exact (hlow k hm).2
    · exact (hlow k (h.ai.mF k hm)).2
  · exact (h.below.trans (hk.below hwz (fun k hf => (hlow k (h.ai.mF k hf)).1))).trans (hal.mono (by omega))
theorem TS.body {w : World} {bn g : Nat} {last : Bool} {rest : List UInt8} {ra : Option Addr} {rn rc : Nat} {cs' : List Int} {fin : Res} {M F : Nat → Prop} {R : Rd} {es : List Ev} {bd : List UInt8} {oa : Option Addr} {oc : Nat} {ya ya' : Option Addr} {yc yc' n' : Nat} {cs : List Value} {r : Res} {wr w' : World} {ev : Ev} {ea : Option Addr} {ec : Nat}
    (h : TS w bn g last rest ra rn rc cs' fin M F R es bd oa oc ya yc cs wr ev ea ec) (hn : n' = (bd ++ ev.data).length) (ho : w'.ownsRow w.heap.size 5 1 (.slice ya' n' yc') n' (bv bd ++ bv ev.data)) (hg : wr.grownBy w' (Value.ownBlock (.slice ya bd.length yc))) (hw : NewOr wr (.slice ya bd.length yc) (.slice ya' n' yc'))
    (hrun : Runs R r) (hfin : FinI last rest cs' es (bd ++ ev.data) r fin) (hl : bd.length + ev.data.length + R.b.length + rn ≤ bn) :
    IS w bn g last rest ra rn rc cs' fin (fun k => M k ∨ blk ya' k) F R es (bd ++ ev.data) oa oc ya' yc' cs r w' := by
  have h1 := h.n1
  have hk := Kept.of_grown hg
  have hlow := h.ai.low
  have hX : ∀ k, Value.ownBlock (.slice ya bd.length yc) = some k → M k := fun k e => h.ai.my k (blk_own e)
  refine ⟨h.ai.bodyOn hn ho hg hw, h.rst.step hk (fun k _ e => hX k e) (fun k hm => ?_), h.ok, h.ended, hrun, hfin, h1, by rw [List.length_append]; omega, h.below.trans (hk.below h.below.size (fun k e => (hlow k (hX k e)).1))⟩
  rcases hm with hm | hm
  · exact .inl hm
  · rcases hw k (own_blk hm) with h2 | h2
    · exact .inl (hX k h2)
    · exact .inr h2
theorem TS.out {w : World} {bn g : Nat} {last : Bool} {rest : List UInt8} {ra : Option Addr} {rn rc : Nat} {cs' : List Int} {fin : Res} {M F : Nat → Prop} {R : Rd} {es : List Ev} {bd : List UInt8} {oa oa' : Option Addr} {oc oc' : Nat} {ya : Option Addr} {yc : Nat} {cs : List Value} {r : Res} {wr w' : World} {ev : Ev} {ea : Option Addr} {ec : Nat}
    (h : TS w bn g last rest ra rn rc cs' fin M F R es bd oa oc ya yc cs wr ev ea ec) (ho : w'.ownsRow w.heap.size 32 6 (.slice oa' (es.length + 1) oc') (es.length + 1) (cs ++ evc ev ea ec)) (hg : wr.grownBy w' (Value.ownBlock (.slice oa es.length oc))) (hw : NewOr wr (.slice oa es.length oc) (.slice oa' (es.length + 1) oc'))
    (hrun : Runs R r) (hfin : FinI last rest cs' (es ++ [ev]) bd r fin) (hl : es.length + 1 + R.b.length + rn ≤ bn) :
    IS w bn g last rest ra rn rc cs' fin (fun k => M k ∨ blk oa' k) F R (es ++ [ev]) bd oa' oc' ya yc (cs ++ evc ev ea ec) r w' := by
  have h1 := h.n2
  have hk := Kept.of_grown hg
  have hlow := h.ai.low
  have hX : ∀ k, Value.ownBlock (.slice oa es.length oc) = some k → M k := fun k e => h.ai.mo k (blk_own e)
  refine ⟨h.ai.outOn h.tld ho hg hw, h.rst.step hk (fun k _ e => hX k e) (fun k hm => ?_), h.ok, h.ended, hrun, hfin, by rw [List.length_append]; exact hl, h1, h.below.trans (hk.below h.below.size (fun k e => (hlow k (hX k e)).1))⟩
  rcases hm with hm | hm
  · exact .inl hm
  · rcases hw k (own_blk hm) with h2 | h2
    · exact .inl (hX k h2)
    · exact .inr h2
theorem TS.alloc {w : World} {bn g : Nat} {last : Bool} {rest : List UInt8} {ra : Option Addr} {rn rc : Nat} {cs' : List Int} {fin : Res} {M F : Nat → Prop} {R : Rd} {es : List Ev} {bd : List UInt8} {oa : Option Addr} {oc : Nat} {ya : Option Addr} {yc : Nat} {cs : List Value} {wr : World} {ev : Ev} {ea : Option Addr} {ec : Nat}
    (h : TS w bn g last rest ra rn rc cs' fin M F R es bd oa oc ya yc cs wr ev ea ec) (o : Obj) : TS w bn g last rest ra rn rc cs' fin M F R es bd oa oc ya yc cs (wr.alloc o) ev ea ec := by
  have hal : Below wr.heap.size wr (wr.alloc o) := (Below.refl _ _).alloc (Nat.le_refl _) _
  exact ⟨h.ai.below hal, h.rst.step (X := none') (Kept.of_below hal) (fun _ _ h => h.elim) (fun _ h => .inl h), h.tld.step (X := none') (Kept.of_below hal) (fun _ _ h => h.elim) (fun _ h => .inl h), h.ok, h.ended, h.n1, h.n2, h.below.trans (hal.mono h.below.size)⟩
/-- the pieces' round has begun: the reader has been fed -/
theorem OS.fed {w : World} {bn g : Nat} {cuts : List Int} {fin : Res} {M F : Nat → Prop} {R : Rd} {es : List Ev} {bd : List UInt8} {oa : Option Addr} {oc : Nat} {ya : Option Addr} {yc : Nat} {cs : List Value} {rest : List UInt8} {ra ra' : Option Addr} {rn rc i k : Nat} {wr w' : World} (h : OS w bn g cuts fin M F R es bd oa oc ya yc cs rest ra rn rc i wr)
    (hk : Kept F wr w') {F2 : Nat → Prop} {R' : Rd} (hR : RAt F2 w' g R') (hF2 : ∀ j, F2 j → F j ∨ (wr.heap.size ≤ j ∧ j < w'.heap.size)) (hRb : R'.b = R.b ++ rest.take k) (hRo : RdOk R') (last : Bool) (hRe : last = false → R'.ended = false) (hkn : k ≤ rn) (ha' : ra' = if rc = k then ra else Option.map (fun x => x.add k) ra) {cs' : List Int} {r : Res} (hrun : Runs R' r) (hfin : FinI last (rest.drop k) cs' es bd r fin) :
    IS w bn g last (rest.drop k) ra' (rn - k) (rc - k) cs' fin (fun j => M j ∨ F2 j) F2 R' es bd oa oc ya yc cs r w' := by
  have hlen : R'.b.length = R.b.length + k := by rw [hRb, List.length_append, List.length_take, h.rst.sl.byte]; omega
  have h1 := h.n1
  have h2 := h.n2
  have hlow := h.ai.low
  refine ⟨h.ai.reader hk hR hF2, (h.rst.step hk (fun j _ hf => h.ai.mF j hf) (fun j hm => ?_)).drop hkn ha', hRo, hRe, hrun, hfin, by omega, by omega, h.below.trans (hk.below h.below.size (fun j hf => (hlow j (h.ai.mF j hf)).1))⟩
  rcases hm with hm | hm
  · exact .inl hm
  · rcases hF2 j hm with hm | hm
    · exact .inl (h.ai.mF j hm)
    · exact .inr hm.1
end Go.Proofs.Ytbplmnmkgkgkhaa

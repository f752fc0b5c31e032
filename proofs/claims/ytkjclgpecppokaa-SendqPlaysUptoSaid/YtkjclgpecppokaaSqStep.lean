/- step of layer 4's law answers true, and the queue and the document's still agree. -/
import Derived.Test.YtkjclgpecppokaaSqRest
import Derived.Test.YtkjclgpecppokaaSqNext3
import Derived.Test.YtkjclgpecppokaaCopy
namespace Go.Proofs.Ytkjclgpecppokaa
open Go.RowKit

/-- both queues lie in memory, apart, above B -/
structure TwinF (B : Nat) (Fq Fr : Nat → Prop) (w : World) (g gr : Nat) (q : Qu) (pre : List UInt8) : Prop where
  atq : QAt Fq w g q
  atr : RAt Fr w gr (q.lift pre)
  inv : PInv q pre
  qb : ∀ k, Fq k → B ≤ k ∧ k < w.heap.size
  rb : ∀ k, Fr k → B ≤ k ∧ k < w.heap.size
  dis : ∀ k, Fq k → ¬ Fr k
theorem TwinF.kept {B : Nat} {Fq Fr X : Nat → Prop} {w w' : World} {g gr : Nat} {q : Qu} {pre : List UInt8} (h : TwinF B Fq Fr w g gr q pre) (hk : Kept X w w') (hX : ∀ k, X k → ¬ Fq k ∧ ¬ Fr k) : TwinF B Fq Fr w' g gr q pre :=
  ⟨h.atq.kept hk (fun k hf _ hx => (hX k hx).1 hf), h.atr.kept hk (fun k hf _ hx => (hX k hx).2 hf), h.inv, fun k hf => ⟨(h.qb k hf).1, by have := (h.qb k hf).2; have := hk.size; omega⟩, fun k hf => ⟨(h.rb k hf).1, by have := (h.rb k hf).2; have := hk.size; omega⟩, h.dis⟩
theorem TwinF.below {B : Nat} {Fq Fr : Nat → Prop} {w w' : World} {g gr : Nat} {q : Qu} {pre : List UInt8} (h : TwinF B Fq Fr w g gr q pre) (hb : Below w.heap.size w w') : TwinF B Fq Fr w' g gr q pre :=
  h.kept (X := none') (Kept.of_below hb) (fun _ h => h.elim)
/-- a call on each has come -/
theorem TwinF.calls {B : Nat} {Fq Fr : Nat → Prop} {w w' w1 w'' : World} {g gr : Nat} {q q' : Qu} {pre pre' : List UInt8} (h : TwinF B Fq Fr w g gr q pre) (hB : B ≤ w.heap.size) (hK1 : Kept Fq w w') (hQ : QAt (Fat Fq w w') w' g q') (hb : Below w'.heap.size w' w1) (hK2 : Kept Fr w1 w'')
    (hR : RAt (Fat Fr w1 w'') w'' gr (q'.lift pre')) (hI : PInv q' pre') : TwinF B (Fat Fq w w') (Fat Fr w1 w'') w'' g gr q' pre' := by
  have z1 := hK1.size
  have z2 := hb.size
  have z3 := hK2.size
  refine ⟨(hQ.below hb).kept hK2 (fun k hf _ hx => ?_), hR, hI, fun k hf => ?_, fun k hf => ?_, fun k hf hx => ?_⟩
  · rcases hf with hf | hf
    · exact h.dis k hf hx
    · have := (h.rb k hx).2; omega
  · rcases hf with hf | hf
    · have := h.qb k hf; omega
    · omega
  · rcases hf with hf | hf
    · have := h.rb k hf; omega
    · omega
  · rcases hf with hf | hf
    · rcases hx with hx | hx
      · exact h.dis k hf hx
      · have := (h.qb k hf).2; omega
    · rcases hx with hx | hx
      · have := (h.rb k hx).2; omega
      · omega

/-- the same, where no memory was made -/
theorem TwinF.calls0 {B : Nat} {Fq Fr : Nat → Prop} {w w' w1 w'' : World} {g gr : Nat} {q q' : Qu} {pre pre' : List UInt8} (h : TwinF B Fq Fr w g gr q pre) (hK1 : Kept Fq w w') (hQ : QAt Fq w' g q') (hb : Below w'.heap.size w' w1) (hK2 : Kept Fr w1 w'')
    (hR : RAt Fr w'' gr (q'.lift pre')) (hI : PInv q' pre') : TwinF B Fq Fr w'' g gr q' pre' := by
  have z1 := hK1.size
  have z2 := hb.size
  have z3 := hK2.size
  exact ⟨(hQ.below hb).kept hK2 (fun k hf _ hx => h.dis k hf hx), hR, hI, fun k hf => by have := h.qb k hf; omega, fun k hf => by have := h.rb k hf; omega, h.dis⟩

theorem Sl.kept0 {X : Nat → Prop} {w w' : World} {a : Option Addr} {n cap : Nat} {xs : List Value} (h : Sl w a n cap xs) (hk : Kept X w w') (hx : 0 < n → ∀ ad, a = some ad → ¬ X ad.block) : Sl w' a n cap xs := by
  rcases Nat.eq_zero_or_pos n with h0 | h0
  · exact ⟨h.len, h.cap_le, h.cap_max, h.nil, fun hp => by omega⟩
  · exact h.kept hk (hx h0)

/-- what a step does -/
def Stepped (B : Nat) (w : World) (g gr : Nat) (q : Qu) (dn : Nat) (e : Ending) (w' : World) : Prop :=
  e = .returned (.bool true) ∧ Below B w w' ∧ ∃ Fq Fr q' pre', TwinF B Fq Fr w' g gr q' pre' ∧ q'.base + q'.data.length ≤ q.base + q.data.length + dn

theorem opHas (w : World) (kind A Bb : Int) (da : Option Addr) (dn dc : Nat) (fin : Bool) : Has (w.alloc (.cells #[.int .i64 kind, .int .i64 A, .int .i64 Bb, .slice da dn dc, .bool fin] 35)) w.heap.size 35 [.int .i64 kind, .int .i64 A, .int .i64 Bb, .slice da dn dc, .bool fin] := Has.new _ _ _

set_option maxRecDepth 100000 in
set_option maxHeartbeats 2000000 in
theorem step_other (w : World) {B : Nat} {Fq Fr : Nat → Prop} {g gr : Nat} {q : Qu} {pre : List UInt8} (T : TwinF B Fq Fr w g gr q pre) (hB : B ≤ w.heap.size) (kind A Bb : Int) (da : Option Addr) (dn dc : Nat) (fin : Bool)
    (j1 : (kind == 1) = false) (j2 : (kind == 2) = false) (j3 : (kind == 3) = false) (j4 : (kind == 4) = false) (j5 : (kind == 5) = false) :
    Calls Try.prog 22 #[.pointer (some ⟨g, 0, none⟩), .pointer (some ⟨gr, 0, none⟩), .agg #[.int .i64 kind, .int .i64 A, .int .i64 Bb, .slice da dn dc, .bool fin]] w (Stepped B w g gr q dn) := by
  have hal : Below w.heap.size w (w.alloc (.cells #[.int .i64 kind, .int .i64 A, .int .i64 Bb, .slice da dn dc, .bool fin] 35)) := (Below.refl _ _).alloc (Nat.le_refl _) _
  have hT := opHas w kind A Bb da dn dc fin
  have HT2 := Lib.hid (T.below hal)
  have t0 := hT.cell 0 rfl
  clear T hT
  go_enter Try.func22, Try.ntmps22
  go_wp2
  go_ret
  exact ⟨rfl, hal.mono hB, Fq, Fr, q, pre, HT2.out, by omega⟩

set_option maxRecDepth 100000 in
set_option maxHeartbeats 2000000 in
theorem step_finish (w : World) {B : Nat} {Fq Fr : Nat → Prop} {g gr : Nat} {q : Qu} {pre : List UInt8} (T : TwinF B Fq Fr w g gr q pre) (hB : B ≤ w.heap.size) (A Bb : Int) (da : Option Addr) (dn dc : Nat) (fin : Bool) :
    Calls Try.prog 22 #[.pointer (some ⟨g, 0, none⟩), .pointer (some ⟨gr, 0, none⟩), .agg #[.int .i64 2, .int .i64 A, .int .i64 Bb, .slice da dn dc, .bool fin]] w (Stepped B w g gr q dn) := by
  have hal : Below w.heap.size w (w.alloc (.cells #[.int .i64 2, .int .i64 A, .int .i64 Bb, .slice da dn dc, .bool fin] 35)) := (Below.refl _ _).alloc (Nat.le_refl _) _
  have hT := opHas w 2 A Bb da dn dc fin
  have T1 := T.below hal
  have t0 := hT.cell 0 rfl
  have HF := Lib.hid (finish_any _ T1.atq)
  have HRf := Lib.hid (fun w' (hk : Kept Fq (w.alloc (.cells #[.int .i64 2, .int .i64 A, .int .i64 Bb, .slice da dn dc, .bool fin] 35)) w') => rfinish_any w' (T1.atr.kept hk (fun k hf _ hx => T1.dis k hx hf)))
  have HT1 := Lib.hid T1
  obtain ⟨ev, hev⟩ : ∃ ev, ev = q.werr := ⟨_, rfl⟩
  have hwe : (q.lift pre).werr = q.werr := lift_werr q pre
  rw [hwe, ← hev] at HRf
  rw [← hev] at HF
  clear T hT T1 hev hwe
  go_enter Try.func22, Try.ntmps22
  go_wp2_with fail
  refine HF.out.mono ?_
  rintro e w2 ⟨rfl, hk2, hQ2⟩
  go_wp2_with fail
  refine (HRf.out w2 hk2).mono ?_
  rintro e w3 ⟨rfl, hk3, hR3⟩
  go_wp2
  go_ret
  have z := hal.size
  have T3 := HT1.out.calls (by omega) hk2 (hQ2.more (fun k h _ => .inl h)) (Below.refl _ _) hk3 (pre' := pre) (hR3.more (fun k h _ => .inl h)) HT1.out.inv.finish
  exact ⟨rfl, ((hal.mono hB).trans (hk2.below (by omega) (fun k h => (HT1.out.qb k h).1))).trans (hk3.below (by have := hk2.size; omega) (fun k h => (HT1.out.rb k h).1)), _, _, _, _, T3, by show q.base + q.data.length ≤ _; omega⟩
end Go.Proofs.Ytkjclgpecppokaa

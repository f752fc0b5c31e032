/- A frame that is being read: the reader, the frame's variable, its own rows; how a part's reading ends. No condition on the program. -/
import Derived.Test.YtppkilkfmclpkaaFrSrc
import Derived.Test.YtppkilkfmclpkaaFrEnc2
import Derived.Test.YtppkilkfmclpkaaFrCopied
namespace Go.Proofs.Ytppkilkfmclpkaa
open Go.RowKit

theorem has_ne {w : World} {x y : Nat} {t1 t2 : TypeId} {vs us : List Value} (h : Has w x t1 vs) (h2 : Has w y t2 us) (ht : t1 ≠ t2) : x ≠ y := by
  intro e
  subst e
  unfold Has at h h2
  rw [h] at h2
  simp only [Option.some.injEq, Obj.cells.injEq] at h2
  exact ht h2.2.1
theorem own_nty {w : World} {B e s b t : Nat} {v : Value} {n : Nat} {xs us : List Value} (h : w.ownsRow B e s v n xs) (h2 : Has w b t us) (ht : e ≠ t) : ∀ k, v.ownBlock = some k → k ≠ b := by
  intro k hk hkb
  rcases h.2 with ⟨hv, _⟩ | ⟨g, cap, cur, hv, hB, hg, _⟩
  · rw [hv] at hk; cases hk
  · rw [hv] at hk
    simp only [Value.ownBlock, Option.some.injEq] at hk
    subst hk
    subst hkb
    unfold Has at h2
    rw [hg] at h2
    simp only [Option.some.injEq, Obj.cells.injEq] at h2
    exact ht h2.2.1
theorem FOwn.kept {X : Nat → Prop} {w w' : World} {B : Nat} {f : Fm} {a : FA} (h : FOwn w B f a) (hk : Kept X w w') (hx : ∀ k, (blk a.da k ∨ blk a.ca k ∨ blk a.sa k) → ¬ X k) : FOwn w' B f a :=
  ⟨own_kept h.data hk (fun k e => hx k (.inl (blk_own e))), own_kept h.cid hk (fun k e => hx k (.inr (.inl (blk_own e)))), own_kept h.spans hk (fun k e => hx k (.inr (.inr (blk_own e))))⟩
theorem FOwn.nty {w : World} {B : Nat} {f : Fm} {a : FA} (h : FOwn w B f a) {b : Nat} {t : TypeId} {us : List Value} (h2 : Has w b t us) (ht : 5 ≠ t) (ht2 : 53 ≠ t) : ∀ k, (blk a.da k ∨ blk a.ca k ∨ blk a.sa k) → k ≠ b := by
  intro k hk
  rcases hk with hk | hk | hk
  · exact own_nty h.data h2 ht k (own_blk hk)
  · exact own_nty h.cid h2 ht k (own_blk hk)
  · exact own_nty h.spans h2 ht2 k (own_blk hk)

/-- the error, the frame, the reader behind it -/
structure Rs where
  err : Int
  f : Fm
  V : Vr
def nxN (V : Vr) (k : Nat → Vr → Rs) : Rs := if (numV V).2.fault = 0 then k (numV V).1 (numV V).2 else ⟨12, fzero, (numV V).2⟩
def nxT (V : Vr) (k : List UInt8 → Vr → Rs) : Rs := if (txtV V).2.fault = 0 then k (txtV V).1 (txtV V).2 else ⟨12, fzero, (txtV V).2⟩
def nxB (V : Vr) (m : Nat) (k : List UInt8 → Vr → Rs) : Rs := if (bytV V m).2.fault = 0 then k (bytV V m).1 (bytV V m).2 else ⟨12, fzero, (bytV V m).2⟩
theorem txtV_l (V : Vr) : (txtV V).2.l = V.l := by
  unfold txtV
  by_cases h : (numV V).2.fault = 0
  · rw [if_pos h, bytV_l, numV_l]
  · rw [if_neg h, numV_l]

/-- the reader at g, the frame's variable at gf, its rows from B on -/
structure SF (w : World) (B g gf : Nat) (a : Option Addr) (c : Nat) (V : Vr) (f : Fm) (fa : FA) : Prop where
  vb : VB w g V a c
  box : Has w gf 26 (fcells f fa)
  own : FOwn w B f fa
  ne : ∀ ad, a = some ad → ad.block ≠ gf
/-- the same with the function's own copy of the source at q -/
structure SG (w : World) (B g q gf : Nat) (a : Option Addr) (c : Nat) (V : Vr) (f : Fm) (fa : FA) : Prop where
  sf : SF w B g gf a c V f fa
  src : Has w q 72 [.pointer (some ⟨g, 0, none⟩)]
section
variable {w w' : World} {B g q gf : Nat} {a : Option Addr} {c : Nat} {V V' : Vr} {f f' : Fm} {fa fa' : FA}
theorem SF.ne_g (h : SF w B g gf a c V f fa) : gf ≠ g := has_ne h.box h.vb.has (by decide)
theorem SF.below (h : SF w B g gf a c V f fa) (hb : Below w.heap.size w w') : SF w' B g gf a c V f fa :=
  ⟨h.vb.below hb, h.box.kept (X := none') (Kept.of_below hb) (fun h => h), h.own.below hb, h.ne⟩
/-- the reader has been read -/
theorem SF.call (h : SF w B g gf a c V f fa) (hk : Kept (fun k => k = g) w w') (hV : VB w' g V' a c) : SF w' B g gf a c V' f fa :=
  ⟨hV, h.box.kept hk h.ne_g, h.own.kept hk (h.own.nty h.vb.has (by decide) (by decide)), h.ne⟩
/-- a field has been written -/
theorem SF.put (h : SF w B g gf a c V f fa) (i : Nat) (v : Value) (he : (fcells f fa).set i v = fcells f' fa') (ho : FOwn w B f' fa') : SF (w.setCell ⟨gf, i, none⟩ v) B g gf a c V f' fa' := by
  have hk := Kept.set w gf i v
  refine ⟨h.vb.kept hk (fun e => h.ne_g e.symm) h.ne, ?_, ho.kept hk (ho.nty h.box (by decide) (by decide)), h.ne⟩
  rw [← he]
  exact h.box.set i v
theorem SG.below (h : SG w B g q gf a c V f fa) (hb : Below w.heap.size w w') : SG w' B g q gf a c V f fa := ⟨h.sf.below hb, h.src.kept (X := none') (Kept.of_below hb) (fun h => h)⟩
theorem SG.drew (h : SG w B g q gf a c V f fa) : SG w.drew B g q gf a c V f fa := h.below (below_drewN (Below.refl _ _) 1)
theorem SG.call (h : SG w B g q gf a c V f fa) (hk : Kept (fun k => k = g) w w') (hV : VB w' g V' a c) : SG w' B g q gf a c V' f fa := ⟨h.sf.call hk hV, h.src.kept hk (has_ne h.src h.sf.vb.has (by decide))⟩
theorem SG.put (h : SG w B g q gf a c V f fa) (i : Nat) (v : Value) (he : (fcells f fa).set i v = fcells f' fa') (ho : FOwn w B f' fa') : SG (w.setCell ⟨gf, i, none⟩ v) B g q gf a c V f' fa' :=
  ⟨h.sf.put i v he ho, h.src.kept (Kept.set w gf i v) (has_ne h.src h.sf.box (by decide))⟩
theorem SG.sat (h : SG w B g q gf a c V f fa) : Sat [(⟨q, 0, none⟩, .pointer (some ⟨g, 0, none⟩))] w := Sat.cons (h.src.cell 0 rfl) (Sat.nil _)
theorem SG.new (h : SF w B g gf a c V f fa) : SG (w.alloc (.cells #[.pointer (some ⟨g, 0, none⟩)] 72)) B g w.heap.size gf a c V f fa := ⟨h.below ((Below.refl _ _).alloc (Nat.le_refl _) _), Has.new _ _ _⟩
/-- a row that was read, not yet stored -/
theorem row_call {B2 : Nat} {v : Value} {n : Nat} {xs : List Value} (ho : w.ownsRow B2 5 1 v n xs) (h : SF w B g gf a c V f fa) (hk : Kept (fun k => k = g) w w') : w'.ownsRow B2 5 1 v n xs := own_kept ho hk (own_nty ho h.vb.has (by decide))
theorem row_put {B2 : Nat} {v : Value} {n : Nat} {xs : List Value} (ho : w.ownsRow B2 5 1 v n xs) (h : SF w B g gf a c V f fa) (i : Nat) (u : Value) : (w.setCell ⟨gf, i, none⟩ u).ownsRow B2 5 1 v n xs := own_kept ho (Kept.set w gf i u) (own_nty ho h.box (by decide))
end
/-- how a part's reading ends -/
def SrcF (w : World) (B g gf : Nat) (a : Option Addr) (c : Nat) (r : Rs) (e : Ending) (w' : World) : Prop :=
  (e = if r.err = 0 then .returned (.tuple #[]) else .panicked (brk r.err)) ∧ Kept (fun k => k = g ∨ k = gf) w w' ∧ ∃ f fa, SF w' B g gf a c r.V f fa ∧ (r.err = 0 → f = r.f)
def SrcD (w : World) (B g gf : Nat) (a : Option Addr) (c : Nat) (r : Rs) (ch : List PanicEntry) (ds : List Deferred) (w' : World) : Prop := ds = [] ∧ SrcF w B g gf a c r (.panicked ch) w'
/-- a step in which the reader alone is read -/
theorem kept_call {w w1 w2 : World} {g gf : Nat} (h1 : Kept (fun k => k = g ∨ k = gf) w w1) (h2 : Kept (fun k => k = g) w1 w2) : Kept (fun k => k = g ∨ k = gf) w w2 := h1.trans h2 (fun _ _ h => .inl h)
theorem kept_put {w w1 : World} {g gf : Nat} (h1 : Kept (fun k => k = g ∨ k = gf) w w1) (i : Nat) (v : Value) : Kept (fun k => k = g ∨ k = gf) w (w1.setCell ⟨gf, i, none⟩ v) := h1.trans (Kept.set w1 gf i v) (fun _ _ h => .inr h)
theorem kept_first {w : World} {g gf : Nat} (o : Obj) : Kept (fun k => k = g ∨ k = gf) w (w.alloc o) := Kept.alloc _ w o
/-- a number's reading that fails ends the part -/
theorem SrcF.bad {w w1 : World} {B g gf : Nat} {a : Option Addr} {c : Nat} {V2 : Vr} {f : Fm} {fa : FA} (hk : Kept (fun k => k = g ∨ k = gf) w w1) (h : SF w1 B g gf a c V2 f fa) : SrcF w B g gf a c ⟨12, fzero, V2⟩ (.panicked (brk 12)) w1 :=
  ⟨rfl, hk, f, fa, h, fun h => by cases h⟩
theorem SrcF.bad51 {w w1 : World} {B g gf : Nat} {a : Option Addr} {c : Nat} {V2 : Vr} {f : Fm} {fa : FA} (hk : Kept (fun k => k = g ∨ k = gf) w w1) (h : SF w1 B g gf a c V2 f fa) : SrcF w B g gf a c ⟨51, fzero, V2⟩ (.panicked (brk 51)) w1 :=
  ⟨rfl, hk, f, fa, h, fun h => by cases h⟩
theorem SrcF.good {w w1 : World} {B g gf : Nat} {a : Option Addr} {c : Nat} {V2 : Vr} {f : Fm} {fa : FA} (hk : Kept (fun k => k = g ∨ k = gf) w w1) (h : SF w1 B g gf a c V2 f fa) : SrcF w B g gf a c ⟨0, f, V2⟩ (.returned (.tuple #[])) w1 :=
  ⟨rfl, hk, f, fa, h, fun _ => rfl⟩

theorem SrcF.err {w w1 : World} {B g gf : Nat} {a : Option Addr} {c : Nat} {r : Rs} {x : Int} (h : SrcF w B g gf a c r (.panicked (brk x)) w1) : r.err = x := by
  have h1 := h.1
  by_cases h0 : r.err = 0
  · rw [if_pos h0] at h1; cases h1
  · rw [if_neg h0] at h1
    simp only [brk, Ending.panicked.injEq, List.cons.injEq, PanicEntry.mk.injEq, Value.iface.injEq, Value.agg.injEq, Array.mk.injEq, Value.int.injEq, true_and, and_true] at h1
    exact h1.symm
/-- a number is read: it fails, or is there -/
def NumP (w : World) (B g q gf : Nat) (a : Option Addr) (c : Nat) (V : Vr) (f : Fm) (fa : FA) (R : Rs) (k : Nat → Vr → Rs) (e : Ending) (w2 : World) : Prop :=
  (e = .panicked (brk 12) ∧ SrcF w B g gf a c R (.panicked (brk 12)) w2) ∨ ∃ (n : Nat) (V' : Vr), e = .returned (.int .i64 (n : Int)) ∧ n < 4611686018427387904 ∧ SG w2 B g q gf a c V' f fa ∧ Kept (fun k => k = g ∨ k = gf) w w2 ∧ R = k n V' ∧ V'.l = V.l ∧ V'.fault = 0 ∧ V.at_ ≤ V'.at_
theorem num_step {w w1 : World} {B g q gf : Nat} {a : Option Addr} {c : Nat} {V : Vr} {f : Fm} {fa : FA} (h : SG w1 B g q gf a c V f fa) (hk : Kept (fun k => k = g ∨ k = gf) w w1) {R : Rs} {k : Nat → Vr → Rs} (hR : R = nxN V k) :
    Calls Try.prog 51 #[.agg #[.pointer (some ⟨g, 0, none⟩)]] w1 (NumP w B g q gf a c V f fa R k) :=
  (snum_any w1 h.sf.vb).mono fun e w2 ⟨he, hk2, hV2⟩ => by
    have h2 := h.call hk2 hV2
    have hk3 := kept_call hk hk2
    unfold nxN at hR
    by_cases h0 : (numV V).2.fault = 0
    · rw [if_pos h0] at he hR
      exact .inr ⟨_, _, he, numV_lt V, h2, hk3, hR, numV_l V, h0, (numV_le V).2.1⟩
    · rw [if_neg h0] at he hR
      refine .inl ⟨he, ?_⟩
      rw [hR]
      exact SrcF.bad hk3 h2.sf
/-- a text is read -/
def BytP (w : World) (B g q gf : Nat) (a : Option Addr) (c : Nat) (V : Vr) (f : Fm) (fa : FA) (R : Rs) (k : List UInt8 → Vr → Rs) (e : Ending) (w2 : World) : Prop :=
  (e = .panicked (brk 12) ∧ SrcF w B g gf a c R (.panicked (brk 12)) w2) ∨ ∃ (l : List UInt8) (V' : Vr) (ra : Option Addr) (rc : Nat), e = .returned (.slice ra l.length rc) ∧ w2.ownsRow B 5 1 (.slice ra l.length rc) l.length (bv l) ∧ SG w2 B g q gf a c V' f fa ∧ Kept (fun k => k = g ∨ k = gf) w w2 ∧ R = k l V' ∧ V'.l = V.l ∧ V'.fault = 0 ∧ l.length ≤ V.l.length
theorem bytV_len (V : Vr) (m : Nat) : (bytV V m).1.length ≤ V.l.length := by
  unfold bytV
  by_cases h : V.fault = 0
  · rw [if_pos h]
    by_cases h2 : V.l.length - V.at_ < m
    · rw [if_pos h2]; exact Nat.zero_le _
    · rw [if_neg h2]
      simp only [List.length_take, List.length_drop]
      omega
  · rw [if_neg h]; exact Nat.zero_le _
theorem txtV_len (V : Vr) : (txtV V).1.length ≤ V.l.length := by
  unfold txtV
  by_cases h : (numV V).2.fault = 0
  · rw [if_pos h]
    have := bytV_len (numV V).2 (numV V).1
    rw [numV_l] at this
    exact this
  · rw [if_neg h]; exact Nat.zero_le _
theorem take_step {w w1 : World} {B g q gf : Nat} {a : Option Addr} {c : Nat} {V : Vr} {f : Fm} {fa : FA} (h : SG w1 B g q gf a c V f fa) (hk : Kept (fun k => k = g ∨ k = gf) w w1) (hB : B ≤ w.heap.size) (hl : V.l.length ≤ 140737488351232) (m : Nat) {R : Rs} {k : List UInt8 → Vr → Rs} (hR : R = nxB V m k) :
    Calls Try.prog 63 #[.agg #[.pointer (some ⟨g, 0, none⟩)], .int .i64 (m : Int)] w1 (BytP w B g q gf a c V f fa R k) :=
  (stake_any w1 h.sf.vb hl m).mono fun e w2 ⟨he, hk2, hV2⟩ => by
    have h2 := h.call hk2 hV2
    have hk3 := kept_call hk hk2
    unfold nxB at hR
    by_cases h0 : (bytV V m).2.fault = 0
    · rw [if_pos h0] at he hR
      obtain ⟨ra, rc, he, ho⟩ := he
      exact .inr ⟨_, _, ra, rc, he, own_mono ho (Nat.le_trans hB hk.size), h2, hk3, hR, bytV_l V m, h0, bytV_len V m⟩
    · rw [if_neg h0] at he hR
      refine .inl ⟨he, ?_⟩
      rw [hR]
      exact SrcF.bad hk3 h2.sf
theorem text_step {w w1 : World} {B g q gf : Nat} {a : Option Addr} {c : Nat} {V : Vr} {f : Fm} {fa : FA} (h : SG w1 B g q gf a c V f fa) (hk : Kept (fun k => k = g ∨ k = gf) w w1) (hB : B ≤ w.heap.size) (hl : V.l.length ≤ 140737488351232) {R : Rs} {k : List UInt8 → Vr → Rs} (hR : R = nxT V k) :
    Calls Try.prog 65 #[.agg #[.pointer (some ⟨g, 0, none⟩)]] w1 (BytP w B g q gf a c V f fa R k) :=
  (stext_any w1 h.sf.vb hl).mono fun e w2 ⟨he, hk2, hV2⟩ => by
    have h2 := h.call hk2 hV2
    have hk3 := kept_call hk hk2
    unfold nxT at hR
    by_cases h0 : (txtV V).2.fault = 0
    · rw [if_pos h0] at he hR
      obtain ⟨ra, rc, he, ho⟩ := he
      exact .inr ⟨_, _, ra, rc, he, own_mono ho (Nat.le_trans hB hk.size), h2, hk3, hR, txtV_l V, h0, txtV_len V⟩
    · rw [if_neg h0] at he hR
      refine .inl ⟨he, ?_⟩
      rw [hR]
      exact SrcF.bad hk3 h2.sf
end Go.Proofs.Ytppkilkfmclpkaa

/- The walk of a region that draws its order (XMix), in steps that never look into the frame. No condition on the program. -/
import Derived.Test.YtaeanhpdlkgghaaDoorMix
namespace Go.Proofs.YtaeanhpdlkgghaaDoor.Mx
open Go Go.RowKit Go.Proofs.YtaeanhpdlkgghaaDoor.Mix

/-- what is left of a region's walk: the operations l, at a and w -/
structure Walk (P : Program) (ops : Array Oper) (S : World → Prop) (z : Bool) (L : List Nat) (Q : Act → World → Prop) (l : List Oper) (a : Act) (w : World) : Prop where
  out : walkM P ops S z (loudX L) Q l a w

section
variable {P : Program} {S : World → Prop} {L : List Nat}
theorem region (L : List Nat) {id : Nat} {l : List Oper} {Q : Exit → Act → World → Prop} {a : Act} {w : World} (S : World → Prop) (hm : P.follows .mixedOrders = true) (hB : okM l.toArray (loudX L) = true) (hS : S w.drew)
    (h : Walk P l.toArray S false L (fun a w => Q .normal a w) l a w.drew) : (Code.region id l.toArray true).wp P Q a w := regionX L S hm hB hS h.out

/-- the same, where nothing has to hold behind the last operation -/
theorem regionZ (L : List Nat) {id : Nat} {l : List Oper} {Q : Exit → Act → World → Prop} {a : Act} {w : World} (S : World → Prop) (hm : P.follows .mixedOrders = true) (hB : (okM l.toArray (loudX L) && lastB l.toArray && decide (0 < l.toArray.size)) = true) (hS : S w.drew)
    (h : Walk P l.toArray S true L (fun a w => Q .normal a w) l a w.drew) : (Code.region id l.toArray true).wp P Q a w := Mix.regionZ L S hm hB hS h.out

variable {z : Bool} {ops : Array Oper} {Q : Act → World → Prop} {o : Oper} {r : List Oper} {a : Act} {w : World}
theorem nil (h : Q a w) : Walk P ops S z L Q [] a w := ⟨h⟩
theorem done {Q : Act → Prop} (h : Q a) : wpQuiet P ops (fun _ => True) Q [] a := h
/-- an operation that computes, or is passed over -/
theorem quietly (hl : loudX L o = false) (h : wpQuiet P ops (fun _ => True) (fun a' => Walk P ops S z L Q r a' w) [o] a) : Walk P ops S z L Q (o :: r) a w := by
  refine ⟨?_⟩
  simp only [wpQuiet] at h
  split at h
  · rename_i hw
    exact Mix.pure hw hl fun K hK => by
      obtain ⟨v, h1, h2⟩ := h
      exact ⟨v, h1, hK _ h2.out⟩
  · rename_i hw
    exact Mix.skip (by simpa using hw) h.out
/-- an operation that is passed over, whatever it be -/
theorem skips {d : Option Tmp} {op : Op} {ty : TypeId} {pos : String} {af : Array Edge} {gd : Option (Nat × Bool)} (hw : Region.wanted ⟨d, op, ty, pos, af, gd⟩ (yielded ops a.tmps) = false)
    (h : wpQuiet P ops (fun _ => True) (fun a' => Walk P ops S z L Q r a' w) [⟨d, .assign (.const undef), ty, pos, af, gd⟩] a) : Walk P ops S z L Q (⟨d, op, ty, pos, af, gd⟩ :: r) a w := by
  refine ⟨Mix.skip hw ?_⟩
  have hw' : ¬ Region.wanted ⟨d, .assign (.const undef), ty, pos, af, gd⟩ (yielded ops a.tmps) = true := by
    have e : Region.wanted ⟨d, .assign (.const undef), ty, pos, af, gd⟩ (yielded ops a.tmps) = Region.wanted ⟨d, op, ty, pos, af, gd⟩ (yielded ops a.tmps) := rfl
    rw [e, hw]; decide
  simp only [wpQuiet] at h
  rw [if_neg hw'] at h
  exact h.out
/-- an operation that reads, writes, makes memory or calls, in its place -/
theorem loudly (hw : Region.wanted o (yielded ops a.tmps) = true) (hl : loudX L o = true) (h : wpList P ops (fun e a w => e = .normal ∧ S w ∧ Walk P ops S z L Q r a w) [o] a w) : Walk P ops S z L Q (o :: r) a w := by
  refine ⟨Mix.isLoud hw hl ?_⟩
  have e : (fun e a w => e = Exit.normal ∧ S w ∧ Walk P ops S z L Q r a w) = (fun e a w => e = Exit.normal ∧ S w ∧ walkM P ops S z (loudX L) Q r a w) := by
    funext e a w
    exact propext ⟨fun h => ⟨h.1, h.2.1, h.2.2.out⟩, fun h => ⟨h.1, h.2.1, ⟨h.2.2⟩⟩⟩
  rw [e] at h
  exact h
/-- the last operation of a region -/
theorem atLast (hw : Region.wanted o (yielded ops a.tmps) = true) (hl : loudX L o = true) (h : wpList P ops (fun e a w => e = .normal ∧ Q a w) [o] a w) : Walk P ops S true L Q [o] a w := by
  refine ⟨Mix.isLoudT hw hl ?_⟩
  have e : (fun e a w => e = Exit.normal ∧ Q a w) = (fun e a w => e = Exit.normal ∧ ((true = true ∧ ([] : List Oper) = []) ∨ S w) ∧ walkM P ops S true (loudX L) Q [] a w) := by
    funext e a w
    exact propext ⟨fun h => ⟨h.1, .inl ⟨rfl, rfl⟩, h.2⟩, fun h => ⟨h.1, h.2.2⟩⟩
  rw [e] at h
  exact h
/-- a cell that lasts is read -/
theorem cell (ad : Addr) (u : Value) {d : Option Tmp} {t ty : TypeId} {x : Operand} {pos : String} {af : Array Edge} {gd : Option (Nat × Bool)} (hw : Region.wanted ⟨d, .load t x, ty, pos, af, gd⟩ (yielded ops a.tmps) = true) (hdx : loudX L ⟨d, .load t x, ty, pos, af, gd⟩ = false)
    (hx : a.eval x = .pointer (some ad)) (hg : ∀ w, (isAgg t).run P w = .ok false w) (hu : ∀ w', S w' → w'.cell? ad = some u)
    (h : wpQuiet P ops (fun _ => True) (fun a' => Walk P ops S z L Q r a' w) [⟨d, .assign (.const u), ty, pos, #[], none⟩] a) : Walk P ops S z L Q (⟨d, .load t x, ty, pos, af, gd⟩ :: r) a w := by
  simp only [wpQuiet, Region.wanted, if_true] at h
  obtain ⟨v, h1, h2⟩ := h
  have h3 := h1 w trivial
  unfold Oper.quietAt at h3
  rw [BigFrame.run_assign (.const u) rfl] at h3
  obtain rfl : u = v := h3.2
  exact ⟨Mix.cell hw hdx rfl hx hg hu h2.out⟩
end
end Go.Proofs.YtaeanhpdlkgghaaDoor.Mx

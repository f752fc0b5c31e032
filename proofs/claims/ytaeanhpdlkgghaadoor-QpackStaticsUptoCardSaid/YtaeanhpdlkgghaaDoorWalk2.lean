/- The walk of a region that draws its order: a struct within a row that lasts is read. No condition on the program. -/
import Derived.Test.YtaeanhpdlkgghaaDoorWalk
import Derived.Deep.MidRow
namespace Go.Proofs.YtaeanhpdlkgghaaDoor.Mx
open Go Go.RowKit Go.Proofs.YtaeanhpdlkgghaaDoor.Mix

section
variable {P : Program} {S : World → Prop} {L : List Nat} {z : Bool} {ops : Array Oper} {Q : Act → World → Prop} {r : List Oper} {a : Act} {w : World}
theorem mid (b k : Nat) (cs : List Value) (dd : TypeDesc) {d : Option Tmp} {t ty : TypeId} {x : Operand} {pos : String} {af : Array Edge} {gd : Option (Nat × Bool)} (hw : Region.wanted ⟨d, .load t x, ty, pos, af, gd⟩ (yielded ops a.tmps) = true) (hdx : loudX L ⟨d, .load t x, ty, pos, af, gd⟩ = false)
    (hx : a.eval x = .pointer (some ⟨b, k, none⟩)) (hu : P.underlying t = some dd) (hd : dd.isRow = true) (hi : (P.info? t).map (·.size) = some cs.length) (hS : ∀ w', S w' → w'.rangeAt b k cs)
    (h : wpQuiet P ops (fun _ => True) (fun a' => Walk P ops S z L Q r a' w) [⟨d, .assign (.const (.agg cs.toArray)), ty, pos, #[], none⟩] a) : Walk P ops S z L Q (⟨d, .load t x, ty, pos, af, gd⟩ :: r) a w := by
  simp only [wpQuiet, Region.wanted, if_true] at h
  obtain ⟨v, h1, h2⟩ := h
  have h3 := h1 w trivial
  unfold Oper.quietAt at h3
  rw [BigFrame.run_assign (.const (.agg cs.toArray)) rfl] at h3
  obtain rfl : Value.agg cs.toArray = v := h3.2
  refine ⟨Mix.reads hw hdx (u := .agg cs.toArray) (fun w' hs => ?_) h2.out⟩
  have h4 := run_loadAt_mid (P := P) w' b k t cs dd (hS w' hs) hu hd hi
  unfold execOp
  simp only [hx]
  rw [Sem.run_bind, h4]
  rfl
end
end Go.Proofs.YtaeanhpdlkgghaaDoor.Mx

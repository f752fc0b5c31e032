/- Cells that hold, as one list: what a region that draws its order reads. No condition on the program. -/
import Derived.Test.YtaeanhpdlkgghaaDoorObj
namespace Go.Proofs.YtaeanhpdlkgghaaDoor
open Go.RowKit

/-- these cells hold these values -/
def Sat (L : List (Addr × Value)) (w : World) : Prop := ∀ (k : Nat) (ad : Addr) (v : Value), L[k]? = some (ad, v) → w.cell? ad = some v
theorem Sat.nil (w : World) : Sat [] w := fun k ad v h => by simp at h
theorem Sat.cons {L : List (Addr × Value)} {w : World} {ad : Addr} {v : Value} (h : w.cell? ad = some v) (hs : Sat L w) : Sat ((ad, v) :: L) w := by
  intro k ad' v' hk
  cases k with
  | zero => simp only [List.getElem?_cons_zero, Option.some.injEq, Prod.mk.injEq] at hk; rw [← hk.1, ← hk.2]; exact h
  | succ k => exact hs k ad' v' (by simpa using hk)
theorem Sat.below {L : List (Addr × Value)} {w w' : World} (h : Sat L w) (hb : Below w.heap.size w w') : Sat L w' := fun k ad v hk => by
  have h1 := h k ad v hk
  rw [hb.cell (World.block_lt_of_cell? w _ h1)]; exact h1
end Go.Proofs.YtaeanhpdlkgghaaDoor

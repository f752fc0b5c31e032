/- Contract of turnpikeref01.Copy: the bytes in new memory. -/
import Derived.Test.YtaeanhpdlkgghaaDoorRef01
namespace Go.Proofs.YtaeanhpdlkgghaaDoor
open Go.RowKit

/-- an answer of bytes in fresh memory -/
def RetB (w : World) (l : List UInt8) (e : Ending) (w' : World) : Prop :=
  ∃ a c, e = .returned (.slice a l.length c) ∧ w'.ownsRow w.heap.size 5 1 (.slice a l.length c) l.length (bv l) ∧ Below w.heap.size w w'
theorem RetB.mk {w w' : World} {l : List UInt8} {a : Option Addr} {c n : Nat} {xs : List Value} {e : Ending} (h : e = .returned (.slice a n c))
    (ho : w'.ownsRow w.heap.size 5 1 (.slice a n c) n xs) (hx : bv l = xs) (hb : Below w.heap.size w w') : RetB w l e w' := by
  have hn : l.length = n := by have := ho.1; rw [← hx, bv_length] at this; omega
  subst hx; subst hn
  exact ⟨a, c, h, ho, hb⟩

set_option maxRecDepth 100000 in
set_option maxHeartbeats 1000000 in
theorem copy_any (w : World) {a : Option Addr} {n c : Nat} {l : List UInt8} (h : Sl w a n c (bv l)) (hn : n ≤ 140737488351232) :
    Calls Tryd.prog 12 #[.slice a n c] w (RetB w l) := by
  have hl := h.byte
  obtain ⟨i, hi, hz, hsize, hby⟩ := tyU8.ex
  go_enter Tryd.func12, Tryd.ntmps12
  go_wp2_with (first | (refine wpList_make_full _ rfl (.tmp 5) (.tmp 5) _ rfl w.heap.size 5 i (.int .u8 0) 1 tyU8.ht hi hz hsize .i64 .i64 _ _ n rfl rfl rfl rfl (by rw [hby]; omega) (by unfold maxLen; omega) (Nat.le_refl _) ?_; intro w1 ho1 hg1) | (refine wpL_copy tyU8 rfl (.tmp 7) (.tmp 8) rfl rfl rfl (by assumption) (h.below ((Below.refl _ w).grown (by assumption) (Nat.le_refl _) (fun k hk => by cases hk))) (bv_one l) ((Below.refl _ w).grown (by assumption) (Nat.le_refl _) (fun k hk => by cases hk)) (Nat.le_refl _) ?_; intro w2 ho2 hb2))
  go_ret
  refine RetB.mk rfl ho2 ?_ hb2
  rw [List.take_of_length_le (by rw [bv_length]; omega), List.drop_of_length_le (by rw [Array.length_toList, size_madeCells]; omega), List.append_nil]
end Go.Proofs.YtaeanhpdlkgghaaDoor

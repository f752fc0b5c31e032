/- Contract of slices.Clone of bytes. No condition but the size. -/
import Derived.Test.YtppkilkfmclpkaaVnGet
import Derived.Test.YtppkilkfmclpkaaWalk
import Derived.Test.YtppkilkfmclpkaaGrow
import Derived.Test.YtppkilkfmclpkaaSat
namespace Go.Proofs.Ytppkilkfmclpkaa
open Go.RowKit

set_option maxRecDepth 100000 in
theorem clone_any (w : World) {a : Option Addr} {n c : Nat} {l : List UInt8} (h : Sl w a n c (bv l)) (hn : n ≤ 140737488351232) :
    Calls Try.prog 49 #[.slice a n c] w fun e w' => ∃ a' c', e = .returned (.slice a' n c') ∧ w'.ownsRow w.heap.size 5 1 (.slice a' n c') n (bv l) ∧ Below w.heap.size w w' := by
  cases a with
  | none =>
    have hc := h.nil rfl
    subst hc
    have hn0 : n = 0 := by have := h.cap_le; omega
    subst hn0
    obtain rfl : l = [] := List.eq_nil_of_length_eq_zero h.byte
    have hq : ∀ w, (binOp .eql 22 (.slice none 0 0) (.slice none 0 0)).run Try.prog w = .ok (.bool true) w := fun w => Lib.run_eql_slice_nil w _ _ none 0 0 0 0 Try.underlying22
    go_enter Try.func49, Try.ntmps49
    go_wp2
    go_ret
    exact ⟨none, 0, rfl, World.ownsRow_nil _ _ _ _, Below.refl _ _⟩
  | some ad =>
    have hb0 : Below w.heap.size w (w.alloc (.cells #[] 5)) := (Below.refl _ w).alloc (Nat.le_refl _) _
    have ho0 : (w.alloc (.cells #[] 5)).ownsRow w.heap.size 5 1 (.slice (some ⟨w.heap.size, 0, none⟩) 0 0) 0 [] := ⟨rfl, .inr ⟨_, 0, #[], rfl, Nat.le_refl _, heap_alloc_new w _, Nat.le_refl _, by decide, rfl, rfl⟩⟩
    have hs0 := h.below hb0
    obtain ⟨a', c', w2, hr, ho2, hg2, _⟩ := run_app_own (tyo := 22) tyU8 (B := w.heap.size) ho0 hs0 (bv_one l) (by omega) (by unfold maxLen; omega) (by simp)
    simp only [Nat.zero_add, List.nil_append] at hr ho2
    have hb2 : Below w.heap.size w w2 := hb0.grown hg2 (by simp) (fun k hk => by cases hk; exact Nat.le_refl _)
    have hq : ∀ w, (binOp .eql 22 (.slice (some ad) n c) (.slice none 0 0)).run Try.prog w = .ok (.bool false) w := fun w => Lib.run_eql_slice_nil w _ _ (some ad) n c 0 0 Try.underlying22
    clear hs0 ho0 hg2
    go_enter Try.func49, Try.ntmps49
    go_wp2_with (at_builtin; refine Lib.wpList_append_run _ rfl _ _ _ _ rfl _ _ rfl rfl _ _ hr ?_)
    go_wp2
    go_ret
    exact ⟨a', c', rfl, ho2, hb2⟩
end Go.Proofs.Ytppkilkfmclpkaa

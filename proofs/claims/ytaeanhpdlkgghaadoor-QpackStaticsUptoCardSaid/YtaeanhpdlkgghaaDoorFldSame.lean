/- turnpikeref16.Same of fields that are the same. No condition but the sizes. -/
import Derived.Test.YtaeanhpdlkgghaaDoorFld
import Derived.Test.YtaeanhpdlkgghaaDoorWalk2
import Derived.Test.YtaeanhpdlkgghaaDoorSat
import Derived.Deep.DeepCutAuto
namespace Go.Proofs.YtaeanhpdlkgghaaDoor
open Go.RowKit

def BoolOf (w : World) (b : Bool) (e : Ending) (w' : World) : Prop := e = .returned (.bool b) ∧ Below w.heap.size w w'
theorem mid2 {w : World} {b o : Nat} {x y : Value} (hx : w.cell? ⟨b, o, none⟩ = some x) (hy : w.cell? ⟨b, o + 1, none⟩ = some y) : w.rangeAt b o [x, y] := by
  intro j v hv
  match j, hv with
  | 0, hv => cases hv; exact hx
  | 1, hv => cases hv; exact hy
theorem ssj1 {k n : Nat} (h : k < n) (hn : n ≤ 9223372036854775807) : (k : Int) < (n : Int) ∧ IntKind.i64.wrap ((k : Int) + 1) = ((k + 1 : Nat) : Int) ∧ RowKit.wrap64 ((k : Int) + 1) = ((k + 1 : Nat) : Int) := by
  rw [IntKind.wrap_i64]; unfold RowKit.wrap64; omega
theorem ssj2 {k n : Nat} (h : ¬ k < n) : ¬ (k : Int) < (n : Int) := by omega
theorem ssj3 {k n : Nat} (h : k < n) : n - (intOf (Value.int .i64 ((k + 1 : Nat) : Int))).toNat < n - (intOf (Value.int .i64 (k : Int))).toNat := by simp only [intOf]; omega
set_option maxRecDepth 100000 in
theorem sames_eq (w : World) {a1 : Option Addr} {n c1 : Nat} {a2 : Option Addr} {c2 : Nat} {l : List Fd} (h1 : SlS w a1 n c1 l) (h2 : SlS w a2 n c2 l) :
    Calls Tryd.prog 18 #[.slice a1 n c1, .slice a2 n c2] w (BoolOf w true) := by
  have hmx : n ≤ 9223372036854775807 := by have := h1.cap; have := h1.max; unfold maxLen at this; omega
  by_cases hp : n = 0
  · subst hp
    clear h1 h2 hmx
    go_enter Tryd.func18, Tryd.ntmps18
    go_wp2
    refine wp_loop_once ?_
    go_wp2
    go_ret
    exact ⟨rfl, Below.refl _ _⟩
  · obtain ⟨b1, o1, rfl, hc1⟩ := h1.cells (by omega)
    obtain ⟨b2, o2, rfl, hc2⟩ := h2.cells (by omega)
    have HC1 := Lib.hid hc1
    have HC2 := Lib.hid hc2
    have HL := Lib.hid h1.len
    have HMx := Lib.hid hmx
    have hne : ((n : Int) != (n : Int)) = false := by simp
    clear h1 h2 hc1 hc2 hmx hp
    go_enter Tryd.func18, Tryd.ntmps18
    go_wp2_with fail
    go_loopw [5] (fun v wr => ∃ k : Nat, v = .int .i64 (k : Int) ∧ Below w.heap.size w wr) (fun v _ => n - (intOf v).toNat)
    case atStart => exact ⟨0, rfl, Below.refl _ _⟩
    case round =>
      obtain ⟨k, rfl, hb⟩ := hrel
      have HB := Lib.hid hb
      clear hb
      by_cases hlt : k < n
      · have HLt := Lib.hid hlt
        obtain ⟨z1, z2, z3⟩ := ssj1 hlt HMx.out
        have hkl : k < l.length := by rw [HL.out]; exact hlt
        obtain ⟨p0, p1⟩ := HC1.out k hkl
        obtain ⟨q0, q1⟩ := HC2.out k hkl
        obtain ⟨xf, hxf⟩ : ∃ xf, xf = l[k].nm := ⟨_, rfl⟩
        obtain ⟨xt, hxt⟩ : ∃ xt, xt = l[k].va := ⟨_, rfl⟩
        rw [← hxf] at p0 q0
        rw [← hxt] at p1 q1
        have hb2 : Below w.heap.size w wr.drew := HB.out.trans ((below_drewN (Below.refl wr.heap.size wr) 1).mono HB.out.size)
        have HSat : Hid (Sat [(⟨b1, o1 + k * 2, none⟩, .string xf), (⟨b1, o1 + k * 2 + 1, none⟩, .string xt), (⟨b2, o2 + k * 2, none⟩, .string xf), (⟨b2, o2 + k * 2 + 1, none⟩, .string xt)] wr.drew) := Lib.hid ((Sat.cons p0 (Sat.cons p1 (Sat.cons q0 (Sat.cons q1 (Sat.nil w))))).below hb2)
        have HB2 := Lib.hid hb2
        clear hlt hkl p0 p1 q0 q1 hxf hxt hb2
        go_upto_region 6 with fail
        refine Mx.region [] (Sat [(⟨b1, o1 + k * 2, none⟩, .string xf), (⟨b1, o1 + k * 2 + 1, none⟩, .string xt), (⟨b2, o2 + k * 2, none⟩, .string xf), (⟨b2, o2 + k * 2 + 1, none⟩, .string xt)]) (by kernel_rfl) (by kernel_rfl) HSat.out ?_
        repeat ((first | (refine Mx.skips (by kernel_rfl) ?_; go_big_quiet_skip) | (refine Mx.quietly rfl ?_; go_big_quiet_want; go_big_quiet_op; go_big_quiet_on)); refine Mx.done ?_)
        refine Mx.mid b1 (o1 + k * 2) [.string xf, .string xt] _ (by kernel_rfl) (by kernel_rfl) (by kernel_rfl) Tryd.underlying23 rfl (by kernel_rfl) (fun w' h => mid2 (h 0 _ _ rfl) (h 1 _ _ rfl)) ?_
        go_big_quiet_want; go_big_quiet_op; go_big_quiet_on; refine Mx.done ?_
        repeat ((first | (refine Mx.skips (by kernel_rfl) ?_; go_big_quiet_skip) | (refine Mx.quietly rfl ?_; go_big_quiet_want; go_big_quiet_op; go_big_quiet_on)); refine Mx.done ?_)
        refine Mx.mid b2 (o2 + k * 2) [.string xf, .string xt] _ (by kernel_rfl) (by kernel_rfl) (by kernel_rfl) Tryd.underlying23 rfl (by kernel_rfl) (fun w' h => mid2 (h 2 _ _ rfl) (h 3 _ _ rfl)) ?_
        go_big_quiet_want; go_big_quiet_op; go_big_quiet_on; refine Mx.done ?_
        repeat ((first | (refine Mx.skips (by kernel_rfl) ?_; go_big_quiet_skip) | (refine Mx.quietly rfl ?_; go_big_quiet_want; go_big_quiet_op; go_big_quiet_on)); refine Mx.done ?_)
        refine Mx.nil ?_
        go_wp2_with fail
        go_roundw
        case rel => exact ⟨k + 1, rfl, HB2.out⟩
        case measure => exact ssj3 HLt.out
      · have z1 := ssj2 hlt
        clear hlt
        go_wp2
        go_ret
        exact ⟨rfl, HB.out⟩
end Go.Proofs.YtaeanhpdlkgghaaDoor

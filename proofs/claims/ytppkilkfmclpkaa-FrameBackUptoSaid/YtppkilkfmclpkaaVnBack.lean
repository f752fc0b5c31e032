/- Contract of slices.Backward over bytes whose loop's body writes those very bytes. No condition. -/
import Derived.RangeFuncNested
import Derived.RangeFuncBound
import Derived.RangeFuncCalls
import Derived.RangeFuncLeaves
import Derived.Shelf.Abstract
import Derived.Shelf.RegionOpen
import Derived.WalkKit
import Derived.OwnWalkIn
import Derived.TacticsInMore
import Derived.LoopNIn
import Derived.LoopIn
import Derived.RangeFuncBox
import Derived.Test.YtppkilkfmclpkaaVnClass
namespace Go.Proofs.Ytppkilkfmclpkaa
open Go.RowKit Go.Shelf

attribute [local go_sem] Oper.semAt_some

/-- what a round keeps: the slice's box, and that the row's cells are bytes -/
def KpB (Bs b len : Nat) (W W' : World) : Prop :=
  (∀ v, W.cell? ⟨Bs, 0, none⟩ = some v → W'.cell? ⟨Bs, 0, none⟩ = some v) ∧ ∀ j, j < len → (∃ x : Int, W.cell? ⟨b, j, none⟩ = some (.int .u8 x)) → ∃ x : Int, W'.cell? ⟨b, j, none⟩ = some (.int .u8 x)
theorem KpB.rf (Bs b len : Nat) (W : World) : KpB Bs b len W W := ⟨fun _ h => h, fun _ _ h => h⟩
theorem KpB.tr {Bs b len : Nat} {A B C : World} (h : KpB Bs b len A B) (k : KpB Bs b len B C) : KpB Bs b len A C := ⟨fun v hv => k.1 v (h.1 v hv), fun j hj hx => k.2 j hj (h.2 j hj hx)⟩
/-- the places, from the last on -/
def dn (len k : Nat) : List Nat := (List.range k).map fun j => len - 1 - j
theorem dn_succ (len k : Nat) : dn len (k + 1) = dn len k ++ [len - 1 - k] := by simp [dn, List.range_succ]

set_option maxRecDepth 100000 in
set_option maxHeartbeats 2000000 in
theorem back1_in (F : Fence) (n : Nat) (h8 : F.fn 72) (hro : F.round = none) (hn : 1 ≤ n) (l Bs b len : Nat) (hlen : len ≤ 1048576) (J Jx : List (Fin len × Int) → World → Prop)
    (hY : ∀ pre x W, J pre W → pre.length < len → YieldAt F (n - 1) Try.prog l #[.int .i64 (x.1.val : Int), .int .u8 x.2] W fun e W' =>
      (e = .returned (.bool true) ∧ J (pre ++ [x]) W' ∧ KpB Bs b len W W') ∨ (e = .returned (.bool false) ∧ Jx (pre ++ [x]) W'))
    (W : World) (hBs : W.cell? ⟨Bs, 0, none⟩ = some (.slice (some ⟨b, 0, none⟩) len len)) (hc : ∀ j, j < len → ∃ x : Int, W.cell? ⟨b, j, none⟩ = some (.int .u8 x)) (h0 : J [] W) :
    CallsIn F n Try.prog 72 #[.func (.yield l) #[] #[], .pointer (some ⟨Bs, 0, none⟩)] W fun e W' => (∃ v, e = .returned v) ∧
      ((∃ ys : List (Fin len × Int), ys.map (fun y => y.1.val) = dn len len ∧ J ys W') ∨ (∃ pre : List (Fin len × Int), True ∧ Jx pre W')) := by
  have fs : IntKind.i64.wrap ((len : Int) - 1) = (len : Int) - 1 := by rw [IntKind.wrap_i64]; omega
  refine callsIn_of_wp Try.func72 rfl h8 ?_ hro
  simp only [Try.ntmps72, List.size_toArray, List.length_cons, List.length_nil, Nat.reduceAdd, Nat.reduceSub, Array.replicate_succ, Array.replicate_zero, List.push_toArray, List.append_toArray, List.nil_append, List.cons_append]
  gi_wp2
  gi_loopw [3] (fun i wr => ∃ (k : Nat) (pre : List (Fin len × Int)), k ≤ len ∧ i = .int .i64 ((len : Int) - 1 - k) ∧ pre.map (fun y => y.1.val) = dn len k ∧ J pre wr ∧ KpB Bs b len W wr)
    (fun i _ => (intOf i + 1).toNat)
  case atStart => exact ⟨0, [], Nat.zero_le _, by simp, rfl, h0, KpB.rf _ _ _ _⟩
  case round =>
    obtain ⟨k, pre, hk, rfl, hpre, hJs, hnx⟩ := hrel
    by_cases hlt : k < len
    · obtain ⟨j, hj⟩ : ∃ j : Nat, j = len - 1 - k := ⟨_, rfl⟩
      have hji : (len : Int) - 1 - (k : Int) = (j : Int) := by omega
      have hjl : j < len := by omega
      have hjl' : (j : Int) < (len : Int) := by omega
      have fj : IntKind.i64.wrap ((j : Int) - 1) = (j : Int) - 1 := by rw [IntKind.wrap_i64]; omega
      rw [hji]
      obtain ⟨x, hx⟩ := hnx.2 j hjl (hc j hjl)
      have hbs := hnx.1 _ hBs
      have hpl : pre.length = k := by have := congrArg List.length hpre; simpa [dn] using this
      obtain ⟨fn, tmps, assign, body, hy, hR⟩ := hY pre (⟨j, hjl⟩, x) wr hJs (by rw [hpl]; exact hlt)
      dsimp only at hy
      have HP := Lib.hid hpre
      have HJ := Lib.hid hj
      have HN := Lib.hid hnx
      clear hpre hj hpl hji hnx
      gi_wp2
      refine hR.mono ?_
      rintro e W3 (⟨rfl, hJ3, hk3⟩ | ⟨rfl, hJx3⟩)
      · gi_wp2
        go_roundw
        case rel => exact ⟨k + 1, pre ++ [(⟨j, hjl⟩, x)], by omega, by have := HJ.out; rw [show (len : Int) - 1 - ((k + 1 : Nat) : Int) = (j : Int) - 1 by omega], by rw [List.map_append, HP.out, dn_succ, ← HJ.out]; rfl, hJ3, HN.out.tr hk3⟩
        case measure => simp [intOf]
      · gi_wp2
        refine bodyPost_ret (results_none rfl _ _ _) rfl ?_
        exact ⟨⟨_, rfl⟩, .inr ⟨_, trivial, hJx3⟩⟩
    · obtain rfl : k = len := by omega
      have hm1 : (k : Int) - 1 - (k : Int) = -1 := by omega
      rw [hm1]
      gi_wp2
      go_end0
      exact ⟨⟨_, rfl⟩, .inl ⟨pre, hpre, hJs⟩⟩
set_option maxHeartbeats 1000000 in
theorem back_in (F : Fence) (n : Nat) (h5 : F.fn 60) (hro : F.round = none) (a : Option Addr) (len cap : Nat) (w : World) :
    CallsIn F n Try.prog 60 #[.slice a len cap] w fun e w' => e = .returned (.func (.func 72) #[] #[.pointer (some ⟨w.heap.size, 0, none⟩)]) ∧ w' = w.alloc (.cells #[.slice a len cap] 22) := by
  refine callsIn_of_wp Try.func60 rfl h5 ?_ hro
  simp only [Try.ntmps60, List.size_toArray, List.length_cons, List.length_nil, Nat.reduceAdd, Nat.reduceSub, Array.replicate_succ, Array.replicate_zero, List.push_toArray, List.append_toArray, List.nil_append, List.cons_append]
  gi_wp2
  go_ret
  exact ⟨rfl, rfl⟩
theorem back_stops (F : Fence) (n : Nat) (h8 : F.fn 72) (hro : F.round = none) (hn : 1 ≤ n) (Bs b len : Nat) (hlen : len ≤ 1048576) (w : World) (hBs : Bs < w.heap.size) (hb : b < w.heap.size)
    (hc : w.cell? ⟨Bs, 0, none⟩ = some (.slice (some ⟨b, 0, none⟩) len len)) (hI : ∀ j, j < len → ∃ x : Int, w.cell? ⟨b, j, none⟩ = some (.int .u8 x)) :
    SeqStopsK F n Try.prog 72 #[.pointer (some ⟨Bs, 0, none⟩)] (fun x : Fin len × Int => #[Value.int .i64 (x.1.val : Int), Value.int .u8 x.2]) (KpB Bs b len) (fun ys => ys.map (fun y => y.1.val) = dn len len)
      (fun _ => True) len w := fun l J Jx W hW _ _ hY h0 =>
  back1_in F n h8 hro hn l Bs b len hlen J Jx hY W ((hW.cell (p := ⟨Bs, 0, none⟩) hBs).trans hc) (fun j hj => by
    obtain ⟨x, hx⟩ := hI j hj
    exact ⟨x, (hW.cell (p := ⟨b, j, none⟩) hb).trans hx⟩) h0
end Go.Proofs.Ytppkilkfmclpkaa

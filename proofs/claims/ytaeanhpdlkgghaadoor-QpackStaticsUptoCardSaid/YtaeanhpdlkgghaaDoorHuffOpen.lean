/- Contract of the code's book: open makes it. -/
import Derived.Test.YtaeanhpdlkgghaaDoorHuffBook
namespace Go.Proofs.YtaeanhpdlkgghaaDoor
open Go.RowKit

theorem Bk.set {w : World} {p : Nat} {r : Value} (h : Bk w p r) (v : Value) : Bk (w.setCell ⟨p, 15, none⟩ v) p v := by
  unfold Bk at h ⊢
  simp only [World.setCell, Array.getElem?_modify, if_pos, h, Option.map_some]
  rfl
theorem Bk.grown {w w' : World} {p : Nat} {r : Value} {row : Option Nat} (h : Bk w p r) (hg : w.grownBy w' row) (hr : some p ≠ row) : Bk w' p r := by
  unfold Bk; rw [hg.block p h.lt hr]; exact h

/-- what open hands back -/
def Book (w : World) (e : Ending) (w' : World) : Prop :=
  ∃ p a c, e = .returned (.pointer (some ⟨p, 0, none⟩)) ∧ Bk w' p (.slice a 182 c) ∧ Sl w' a 182 c (bv restL) ∧ w.heap.size ≤ p ∧ Below w.heap.size w w'

set_option maxRecDepth 100000 in
set_option maxHeartbeats 2000000 in
theorem open_any (w : World) : Calls Tryd.prog 82 #[] w (Book w) := by
  go_enter Tryd.func82, Tryd.ntmps82
  go_wp2_with fail
  refine (classes_any w).mono ?_
  rintro e w1 ⟨rfl, hb1⟩
  have z1 := hb1.size
  have e15 : ((bookC (.slice none 0 0)).take 15).toArray = #[.int .i64 5, .string (strB cl5), .int .i64 0, .int .i64 6, .string (strB cl6), .int .i64 20, .int .i64 7, .string (strB cl7), .int .i64 92,
   .int .i64 8, .string (strB cl8), .int .i64 248, .int .i64 15, .string (strB []), .int .i64 32512] := rfl
  rw [e15]
  clear e15
  go_wp2_with fail
  have hbk0 : Bk (w1.alloc (.cells (bookC (.slice none 0 0)).toArray 157)) w1.heap.size (.slice none 0 0) := heap_alloc_new w1 _
  go_loopw [8] (fun i wr => ∃ (k : Nat) (a : Option Addr) (c : Nat), k ≤ 256 ∧ i = .int .i64 k ∧ Bk wr w1.heap.size (.slice a (restTo k).length c) ∧
    wr.ownsRow (w1.heap.size + 1) 5 1 (.slice a (restTo k).length c) (restTo k).length (bv (restTo k)) ∧ Below w.heap.size w wr ∧ w1.heap.size < wr.heap.size) (fun i _ => 256 - (intOf i).toNat)
  case atStart => exact ⟨0, none, 0, by omega, rfl, hbk0, World.ownsRow_nil _ _ _ _, hb1.alloc z1 _, by simp⟩
  case round =>
    obtain ⟨k, a, c, hk, rfl, hbk, ho, hb, hz⟩ := hrel
    clear hbk0
    have hbs := hb.size
    have hrl := restTo_len k
    by_cases hlt : k < 256
    · have kk : (k : Int) < 256 := by omega
      have hxk : ((UInt8.ofNat k).toNat : Int) = (k : Int) := by simp; omega
      have hS := short_any wr w1.heap.size _ hbk (UInt8.ofNat k)
      rw [hxk] at hS
      have HS := Lib.hid hS
      clear hS hxk
      by_cases hx : (shortR (UInt8.ofNat k)).1 < 0
      · have HR : Hid (restTo (k + 1) = restTo k ++ [UInt8.ofNat k]) := by show restTo (k + 1) = _; rw [restTo, if_pos hx]
        go_wp2_with fail
        refine HS.out.mono ?_
        rintro e w2 ⟨rfl, hb2⟩
        have z2 := hb2.size
        have ho2 := own_below ho hb2
        have hbk2 := hbk.below hb2
        have hb02 := hb.trans (hb2.mono hbs)
        have q15 := hbk2.cell 15 rfl
        go_wp2_with (at_builtin; refine wpL_app1 tyU8 rfl _ _ rfl rfl rfl ho2 rfl (by omega) (by unfold maxLen; omega) hb02 (by omega) (by omega) ?_; intro a' c' w3 ho3 hb3 hg3; have hbk3 := hbk2.grown hg3 (fun e => by have := ho2.lt _ e.symm; omega); have q15' := hbk3.cell 15 rfl; have f15 := hbk3.free ⟨w1.heap.size, 15, none⟩ rfl; have z3 := hg3.size)
        go_roundw
        case rel =>
          have hn : (restTo (k + 1)).length = (restTo k).length + 1 := by rw [HR.out]; simp
          refine ⟨k + 1, a', c', by omega, by go_num, ?_, ?_, ?_, ?_⟩
          · rw [hn]; exact hbk3.set _
          · rw [hn, HR.out]
            refine ownsRow_setCell_below ?_ (by simp) _
            rw [← bv_snoc8 _ _ (by omega)]
            exact ho3
          · exact hb3.setCell (by simp; omega) _
          · simp; omega
        case measure => simp [intOf]; omega
      · have HR : Hid (restTo (k + 1) = restTo k) := by show restTo (k + 1) = _; rw [restTo, if_neg hx]
        go_wp2_with fail
        refine HS.out.mono ?_
        rintro e w2 ⟨rfl, hb2⟩
        have z2 := hb2.size
        have ho2 := own_below ho hb2
        have hbk2 := hbk.below hb2
        have hb02 := hb.trans (hb2.mono hbs)
        go_wp2
        go_roundw
        case rel =>
          refine ⟨k + 1, a, c, by omega, by go_num, ?_, ?_, hb02, by omega⟩
          · rw [HR.out]; exact hbk2
          · rw [HR.out]; exact ho2
        case measure => simp [intOf]; omega
    · obtain rfl : k = 256 := by omega
      have hs := own_sl ho
      rw [restL_eq, restL_len] at hs hbk
      clear ho
      go_wp2
      go_ret
      exact ⟨_, _, _, rfl, hbk, hs, z1, hb⟩
end Go.Proofs.YtaeanhpdlkgghaaDoor

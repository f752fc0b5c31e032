/- Contracts of the book's sized and nth. -/
import Derived.Test.YtkijpjdjkjnpiaaHuffCode
import Derived.Test.YtkijpjdjkjnpiaaHuffBits
namespace Go.Proofs.Ytkijpjdjkjnpiaa
open Go.RowKit

def clsN : Nat → List UInt8 | 0 => cl5 | 1 => cl6 | 2 => cl7 | 3 => cl8 | _ => restL
def lenN : Nat → Nat | 0 => 5 | 1 => 6 | 2 => 7 | 3 => 8 | _ => 15
def firstN : Nat → Nat | 0 => 0 | 1 => 20 | 2 => 92 | 3 => 248 | _ => 32512

set_option maxRecDepth 100000 in
theorem sized_any (w : World) (p : Nat) (a : Option Addr) (cp : Nat) (h : Bk w p (.slice a 182 cp)) (c : Nat) (hc : c < 5) :
    Calls Try.prog 47 #[.pointer (some ⟨p, 0, none⟩), .int .i64 (c : Int)] w fun e w' => e = .returned (.int .i64 ((clsN c).length : Int)) ∧ w = w' := by
  have hcc : c = 0 ∨ c = 1 ∨ c = 2 ∨ c = 3 ∨ c = 4 := by omega
  have q15 := h.cell 15 rfl
  have q1 := h.cell 1 rfl
  have q4 := h.cell 4 rfl
  have q7 := h.cell 7 rfl
  have q10 := h.cell 10 rfl
  have r4 : restL.length = 182 := restL_len
  rcases hcc with rfl | rfl | rfl | rfl | rfl
  all_goals
    go_enter Try.func47, Try.ntmps47
    go_wp2
    go_ret
    exact ⟨rfl, rfl⟩

set_option maxRecDepth 100000 in
theorem nth_any (w : World) (p : Nat) (a : Option Addr) (cp : Nat) (h : Bk w p (.slice a 182 cp)) (hr : Sl w a 182 cp (bv restL)) (c : Nat) (hc : c < 5) (k : Nat) (hk : k < (clsN c).length) :
    Calls Try.prog 48 #[.pointer (some ⟨p, 0, none⟩), .int .i64 (c : Int), .int .i64 (k : Int)] w fun e w' => e = .returned (.int .u8 (((clsN c)[k]'hk).toNat : Int)) ∧ w = w' := by
  have q15 := h.cell 15 rfl
  have q1 := h.cell 1 rfl
  have q4 := h.cell 4 rfl
  have q7 := h.cell 7 rfl
  have q10 := h.cell 10 rfl
  by_cases hc4 : c = 4
  · subst hc4
    have hk' : k < restL.length := hk
    have hk2 : k < 182 := by rw [restL_len] at hk'; exact hk'
    obtain ⟨b, off, rfl, hcc⟩ := hr.cells (by omega)
    have hcell := hcc k hk2
    rw [bv_get restL k hk'] at hcell
    have hcap := hr.cap_le
    have HY : Hid ((clsN 4)[k]'hk = restL[k]'hk') := Lib.hid rfl
    obtain ⟨y, hy⟩ : ∃ y, y = restL[k]'hk' := ⟨_, rfl⟩
    rw [← hy] at hcell HY
    clear hy hcc
    have kk : (k : Int) < 182 := by omega
    go_enter Try.func48, Try.ntmps48
    go_wp2
    go_ret
    exact ⟨by rw [HY.out]; rfl, rfl⟩
  · have hcs : c = 0 ∨ c = 1 ∨ c = 2 ∨ c = 3 := by omega
    rcases hcs with rfl | rfl | rfl | rfl
    · have hs : k < (strB cl5).size := by rw [strB_size]; exact hk
      have hg := Lib.hid (strB_get cl5 k hs)
      go_enter Try.func48, Try.ntmps48
      go_wp2
      go_ret
      exact ⟨rfl, rfl⟩
    · have hs : k < (strB cl6).size := by rw [strB_size]; exact hk
      have hg := Lib.hid (strB_get cl6 k hs)
      go_enter Try.func48, Try.ntmps48
      go_wp2
      go_ret
      exact ⟨rfl, rfl⟩
    · have hs : k < (strB cl7).size := by rw [strB_size]; exact hk
      have hg := Lib.hid (strB_get cl7 k hs)
      go_enter Try.func48, Try.ntmps48
      go_wp2
      go_ret
      exact ⟨rfl, rfl⟩
    · have hs : k < (strB cl8).size := by rw [strB_size]; exact hk
      have hg := Lib.hid (strB_get cl8 k hs)
      go_enter Try.func48, Try.ntmps48
      go_wp2
      go_ret
      exact ⟨rfl, rfl⟩
end Go.Proofs.Ytkijpjdjkjnpiaa

/- norm.Framing and turnpikeref19.Framing. No condition. -/
import Derived.Test.YtohinaohcndndaaDoorNmLast
namespace Go.Proofs.YtohinaohcndndaaDoor
open Go.RowKit

/-- a request -/
structure Rq where
  me : ByteArray
  sc : ByteArray
  au : ByteArray
  pa : ByteArray
  fs : List Fd
  len : Int
def rqV (r : Rq) (a : Option Addr) (c : Nat) : Value := .agg #[.string r.me, .string r.sc, .string r.au, .string r.pa, .slice a r.fs.length c, .int .i64 r.len]
theorem eqT {s : ByteArray} {l : List UInt8} (h : bl s = l) : (s.toList == l) = true := by
  rw [beq_iff_eq, ByteArray.toList_eq]; exact h
theorem eqF {s : ByteArray} {l : List UInt8} (h : ¬ bl s = l) : (s.toList == l) = false := by
  rw [beq_eq_false_iff_ne, ByteArray.toList_eq]; exact h
def framL (r : Rq) (body : Bool) : Int := if 0 ≤ r.len then 1 else if body = true then 2 else if bl r.me = [80, 79, 83, 84] ∨ bl r.me = [80, 85, 84] ∨ bl r.me = [80, 65, 84, 67, 72] then 1 else 0
def IntOf (w : World) (z : Int) (e : Ending) (w' : World) : Prop := e = .returned (.int .i64 z) ∧ Below w.heap.size w w'
set_option maxRecDepth 100000 in
theorem framing_any (w : World) (r : Rq) (a : Option Addr) (c : Nat) (body : Bool) : Calls Tryd.prog 15 #[rqV r a c, .bool body] w (IntOf w (framL r body)) := by
  obtain ⟨me, sc, au, pa, fs, len⟩ := r
  obtain ⟨n, hn⟩ : ∃ n, n = fs.length := ⟨_, rfl⟩
  obtain ⟨R, hR⟩ : ∃ R, R = framL ⟨me, sc, au, pa, fs, len⟩ body := ⟨_, rfl⟩
  rw [← hR]
  unfold rqV
  rw [← hn]
  clear hn
  by_cases h1 : 0 ≤ len
  · obtain rfl : R = 1 := by rw [hR]; unfold framL; rw [if_pos h1]
    clear hR
    go_enter Tryd.func15, Tryd.ntmps15
    go_wp2
    all_goals go_ret
    all_goals exact ⟨rfl, (Below.refl _ w).alloc (Nat.le_refl _) _⟩
  · cases body with
    | true =>
      obtain rfl : R = 2 := by rw [hR]; unfold framL; rw [if_neg h1, if_pos rfl]
      clear hR
      go_enter Tryd.func15, Tryd.ntmps15
      go_wp2
      all_goals go_ret
      all_goals exact ⟨rfl, (Below.refl _ w).alloc (Nat.le_refl _) _⟩
    | false =>
      by_cases p1 : bl me = [80, 79, 83, 84]
      · have e1 := eqT p1
        obtain rfl : R = 1 := by rw [hR]; unfold framL; rw [if_neg h1, if_neg (by decide), if_pos (.inl p1)]
        clear hR p1
        go_enter Tryd.func15, Tryd.ntmps15
        go_wp2
        go_ret
        exact ⟨rfl, (Below.refl _ w).alloc (Nat.le_refl _) _⟩
      · have e1 := eqF p1
        by_cases p2 : bl me = [80, 85, 84]
        · have e2 := eqT p2
          obtain rfl : R = 1 := by rw [hR]; unfold framL; rw [if_neg h1, if_neg (by decide), if_pos (.inr (.inl p2))]
          clear hR p1 p2
          go_enter Tryd.func15, Tryd.ntmps15
          go_wp2
          go_ret
          exact ⟨rfl, (Below.refl _ w).alloc (Nat.le_refl _) _⟩
        · have e2 := eqF p2
          by_cases p3 : bl me = [80, 65, 84, 67, 72]
          · have e3 := eqT p3
            obtain rfl : R = 1 := by rw [hR]; unfold framL; rw [if_neg h1, if_neg (by decide), if_pos (.inr (.inr p3))]
            clear hR p1 p2 p3
            go_enter Tryd.func15, Tryd.ntmps15
            go_wp2
            go_ret
            exact ⟨rfl, (Below.refl _ w).alloc (Nat.le_refl _) _⟩
          · have e3 := eqF p3
            obtain rfl : R = 0 := by rw [hR]; unfold framL; rw [if_neg h1, if_neg (by decide), if_neg (fun h => h.elim p1 (fun h => h.elim p2 p3))]
            clear hR p1 p2 p3
            go_enter Tryd.func15, Tryd.ntmps15
            go_wp2
            go_ret
            exact ⟨rfl, (Below.refl _ w).alloc (Nat.le_refl _) _⟩
set_option maxRecDepth 100000 in
theorem rframing_any (w : World) (r : Rq) (a : Option Addr) (c : Nat) (body : Bool) : Calls Tryd.prog 16 #[rqV r a c, .bool body] w (IntOf w (framL r body)) := by
  obtain ⟨me, sc, au, pa, fs, len⟩ := r
  obtain ⟨n, hn⟩ : ∃ n, n = fs.length := ⟨_, rfl⟩
  obtain ⟨R, hR⟩ : ∃ R, R = framL ⟨me, sc, au, pa, fs, len⟩ body := ⟨_, rfl⟩
  rw [← hR]
  unfold rqV
  rw [← hn]
  clear hn
  by_cases h1 : 0 ≤ len
  · obtain rfl : R = 1 := by rw [hR]; unfold framL; rw [if_pos h1]
    clear hR
    go_enter Tryd.func16, Tryd.ntmps16
    go_wp2
    all_goals go_ret
    all_goals exact ⟨rfl, (Below.refl _ w).alloc (Nat.le_refl _) _⟩
  · cases body with
    | true =>
      obtain rfl : R = 2 := by rw [hR]; unfold framL; rw [if_neg h1, if_pos rfl]
      clear hR
      go_enter Tryd.func16, Tryd.ntmps16
      go_wp2
      all_goals go_ret
      all_goals exact ⟨rfl, (Below.refl _ w).alloc (Nat.le_refl _) _⟩
    | false =>
      by_cases p1 : bl me = [80, 79, 83, 84]
      · have e1 := eqT p1
        obtain rfl : R = 1 := by rw [hR]; unfold framL; rw [if_neg h1, if_neg (by decide), if_pos (.inl p1)]
        clear hR p1
        go_enter Tryd.func16, Tryd.ntmps16
        go_wp2
        go_ret
        exact ⟨rfl, (Below.refl _ w).alloc (Nat.le_refl _) _⟩
      · have e1 := eqF p1
        by_cases p2 : bl me = [80, 85, 84]
        · have e2 := eqT p2
          obtain rfl : R = 1 := by rw [hR]; unfold framL; rw [if_neg h1, if_neg (by decide), if_pos (.inr (.inl p2))]
          clear hR p1 p2
          go_enter Tryd.func16, Tryd.ntmps16
          go_wp2
          go_ret
          exact ⟨rfl, (Below.refl _ w).alloc (Nat.le_refl _) _⟩
        · have e2 := eqF p2
          by_cases p3 : bl me = [80, 65, 84, 67, 72]
          · have e3 := eqT p3
            obtain rfl : R = 1 := by rw [hR]; unfold framL; rw [if_neg h1, if_neg (by decide), if_pos (.inr (.inr p3))]
            clear hR p1 p2 p3
            go_enter Tryd.func16, Tryd.ntmps16
            go_wp2
            go_ret
            exact ⟨rfl, (Below.refl _ w).alloc (Nat.le_refl _) _⟩
          · have e3 := eqF p3
            obtain rfl : R = 0 := by rw [hR]; unfold framL; rw [if_neg h1, if_neg (by decide), if_neg (fun h => h.elim p1 (fun h => h.elim p2 p3))]
            clear hR p1 p2 p3
            go_enter Tryd.func16, Tryd.ntmps16
            go_wp2
            go_ret
            exact ⟨rfl, (Below.refl _ w).alloc (Nat.le_refl _) _⟩
end Go.Proofs.YtohinaohcndndaaDoor

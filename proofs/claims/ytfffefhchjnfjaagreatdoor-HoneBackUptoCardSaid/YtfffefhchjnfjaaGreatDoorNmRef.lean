/- turnpikeref19.Chunk and Last. No condition but the sizes. -/
import Derived.Test.YtfffefhchjnfjaaGreatDoorNmHex
namespace Go.Proofs.YtfffefhchjnfjaaGreatDoor.Mx
open Go Go.RowKit Go.Proofs.YtfffefhchjnfjaaGreatDoor.Mix

section
variable {P : Program} {S : World → Prop} {L : List Nat} {z : Bool} {ops : Array Oper} {Q : Act → World → Prop} {r : List Oper} {a : Act} {w : World}
/-- a conversion that reads what lasts -/
theorem conv (u : Value) {vx : Value} {d : Option Tmp} {t1 t2 ty : TypeId} {x : Operand} {pos : String} {af : Array Edge} {gd : Option (Nat × Bool)} (hw : Region.wanted ⟨d, .convert t1 t2 x, ty, pos, af, gd⟩ (yielded ops a.tmps) = true) (hdx : loudX L ⟨d, .convert t1 t2 x, ty, pos, af, gd⟩ = false)
    (hx : a.eval x = vx) (hS : ∀ w', S w' → (convert t1 t2 vx).run P w' = .ok u w')
    (h : wpQuiet P ops (fun _ => True) (fun a' => Walk P ops S z L Q r a' w) [⟨d, .assign (.const u), ty, pos, #[], none⟩] a) : Walk P ops S z L Q (⟨d, .convert t1 t2 x, ty, pos, af, gd⟩ :: r) a w := by
  simp only [wpQuiet, Region.wanted, if_true] at h
  obtain ⟨v, h1, h2⟩ := h
  have h3 := h1 w trivial
  unfold Oper.quietAt at h3
  rw [BigFrame.run_assign (.const u) rfl] at h3
  obtain rfl : u = v := h3.2
  refine ⟨Mix.reads hw hdx (u := u) (fun w' hs => ?_) h2.out⟩
  have h4 := hS w' hs
  unfold execOp
  simp only [hx]
  rw [Sem.run_bind, h4]
  rfl
end
end Go.Proofs.YtfffefhchjnfjaaGreatDoor.Mx
namespace Go.Proofs.YtfffefhchjnfjaaGreatDoor
open Go.RowKit

/-- a chunk, the error -/
def chunkL (d : List UInt8) : List UInt8 × Int := if 16384 < d.length then ([], 52) else if d.length = 0 then ([], 0) else (hexL d.length ++ ([13, 10] ++ (d ++ [13, 10])), 0)
def StrE (w : World) (r : List UInt8 × Int) (e : Ending) (w' : World) : Prop := e = .returned (.tuple #[.string (strB r.1), .int .i64 r.2]) ∧ Below w.heap.size w w'
theorem hexGo_len : ∀ (fuel m : Nat) (acc : List UInt8), (hexGo fuel m acc).length ≤ acc.length + fuel
  | 0, _, acc => Nat.le_refl _
  | fuel + 1, m, acc => by
    unfold hexGo
    split
    · simp
    · have := hexGo_len fuel (m / 16) (hexD (m % 16) :: acc)
      simp only [List.length_cons] at this
      omega
theorem hexL_len (n : Nat) : (hexL n).length ≤ n + 1 := by
  have := hexGo_len (n + 1) n []
  simpa [hexL] using this
theorem rcj1 {n : Nat} (h : 16384 < n) : (16384 : Int) < (n : Int) := by omega
theorem rcj2 {n : Nat} (h : ¬ 16384 < n) (h0 : ¬ n = 0) : ¬ (16384 : Int) < (n : Int) ∧ ((n : Int) == 0) = false := ⟨by omega, by simpa using h0⟩
theorem rcj3 {a n : Nat} (h : a ≤ n + 1) (hn : ¬ 16384 < n) : ¬ 9223372036854775807 < a + 2 ∧ ¬ 9223372036854775807 < a + 2 + n ∧ ¬ 9223372036854775807 < a + 2 + n + 2 := by omega
set_option maxRecDepth 100000 in
theorem rchunk_any (w : World) {a : Option Addr} {n c : Nat} {d : List UInt8} (h : Sl w a n c (bv d)) : Calls Tryz.prog 9 #[.slice a n c] w (StrE w (chunkL d)) := by
  have hn := h.byte
  have hcp := h.cap_le
  obtain ⟨R, hR⟩ : ∃ R, R = chunkL d := ⟨_, rfl⟩
  rw [← hR]
  by_cases h1 : 16384 < n
  · have y1 := rcj1 h1
    have HE : Hid (R = ([], 52)) := Lib.hid (by rw [hR]; unfold chunkL; rw [if_pos (by rw [hn]; exact h1)])
    clear h hn hcp hR h1
    go_enter Tryz.func9, Tryz.ntmps9
    go_wp2
    go_ret2
    rw [HE.out]
    exact ⟨rfl, Below.refl _ _⟩
  by_cases h0 : n = 0
  · have HE : Hid (R = ([], 0)) := Lib.hid (by rw [hR]; unfold chunkL; rw [if_neg (by rw [hn]; exact h1), if_pos (by rw [hn]; exact h0)])
    subst h0
    clear h hn hcp hR h1
    go_enter Tryz.func9, Tryz.ntmps9
    go_wp2
    go_ret2
    rw [HE.out]
    exact ⟨rfl, Below.refl _ _⟩
  obtain ⟨y1, y2⟩ := rcj2 h1 h0
  have HE : Hid (R = (hexL n ++ ([13, 10] ++ (d ++ [13, 10])), 0)) := Lib.hid (by rw [hR]; unfold chunkL; rw [if_neg (by rw [hn]; exact h1), if_neg (by rw [hn]; exact h0), hn])
  have HH := Lib.hid (fun w' => hex_any w' n (by omega))
  have HS := Lib.hid h
  obtain ⟨hx, hhx⟩ : ∃ hx, hx = hexL n := ⟨_, rfl⟩
  rw [← hhx] at HE HH
  obtain ⟨u1, u2, u3⟩ := rcj3 (a := hx.length) (by rw [hhx]; exact hexL_len n) h1
  have s1 : (strB hx).size = hx.length := strB_size hx
  have s2 : (strB d).size = n := by rw [strB_size]; exact hn
  clear h hn hcp hR h1 h0 hhx
  go_enter Tryz.func9, Tryz.ntmps9
  go_upto_region 5 with fail
  refine Mx.region [] (fun w' => Sl w' a n c (bv d)) (by kernel_rfl) (by kernel_rfl) (HS.out.below (below_drewN (Below.refl _ _) 1)) ?_
  repeat ((first | (refine Mx.skips (by kernel_rfl) ?_; go_big_quiet_skip) | (refine Mx.quietly rfl ?_; go_big_quiet_want; go_big_quiet_op; go_big_quiet_on)); refine Mx.done ?_)
  refine Mx.loudly (by kernel_rfl) (by kernel_rfl) ?_
  go_wp2_with fail
  refine (HH.out w.drew).mono ?_
  rintro e w2 ⟨rfl, hb2⟩
  have hb : Below w.heap.size w w2 := (below_drewN (Below.refl w.heap.size w) 1).trans hb2
  have HB := Lib.hid hb
  have HS2 := Lib.hid (HS.out.below hb)
  clear hb hb2
  go_wp2_with fail
  refine ⟨HS2.out, ?_⟩
  repeat ((first | (refine Mx.skips (by kernel_rfl) ?_; go_big_quiet_skip) | (refine Mx.quietly rfl ?_; go_big_quiet_want; go_big_quiet_op; go_big_quiet_on)); refine Mx.done ?_)
  refine Mx.conv (.string (strB d)) (by kernel_rfl) (by kernel_rfl) (by kernel_rfl) (fun w' h => run_str (P := Tryz.prog) h 23 5 9 Tryz.underlying23 Tryz.underlying5 Tryz.underlying9) ?_
  go_big_quiet_want; go_big_quiet_op; go_big_quiet_on; refine Mx.done ?_
  repeat ((first | (refine Mx.skips (by kernel_rfl) ?_; go_big_quiet_skip) | (refine Mx.quietly rfl ?_; go_big_quiet_want; go_big_quiet_op; go_big_quiet_on)); refine Mx.done ?_)
  refine Mx.nil ?_
  go_wp2
  go_ret2
  rw [HE.out]
  refine ⟨?_, HB.out⟩
  show Ending.returned (.tuple #[.string (strB hx ++ strB [13, 10] ++ strB d ++ strB [13, 10]), .int .i64 0]) = _
  rw [strB_append, strB_append, strB_append, List.append_assoc, List.append_assoc]
end Go.Proofs.YtfffefhchjnfjaaGreatDoor

/- How settings that come in as an argument are opened. -/
import Derived.Test.YtbplmnmkgkgkhaaOpen
namespace Go.Proofs.Ytbplmnmkgkgkhaa
open Go.RowKit Go.ChangeShapes Go.WideShapes

theorem open_set {H : Type} {enc : TypeId × Value → H} {W : World} {v : Value} {d : DataW H} {ps : List MemPlace} {base : Nat}
    (hv : Value.okWide Try.prog W .any base 30 v) (h : DataW.Trod enc Try.prog W 0 (fun _ => true) true 30 v d ps) :
    ∃ a b c : Int, v = .agg #[.int .i64 a, .int .i64 b, .int .i64 c] ∧ (-9223372036854775808 ≤ a ∧ a ≤ 9223372036854775807) ∧ (-9223372036854775808 ≤ b ∧ b ≤ 9223372036854775807) ∧ (-9223372036854775808 ≤ c ∧ c ≤ 9223372036854775807) := by
  simp only [Value.okWide, Try.underlying30] at hv
  obtain ⟨cs, rfl, hsz, _⟩ := hv
  have h3 : Try.prog.cellsOf 30 = 3 := by kernel_rfl
  rw [h3] at hsz
  obtain ⟨v0, v1, v2, rfl⟩ : ∃ v0 v1 v2, cs = #[v0, v1, v2] := by
    rcases cs with ⟨l⟩
    match l, hsz with
    | [v0, v1, v2], _ => exact ⟨v0, v1, v2, rfl⟩
  obtain ⟨fuel, hf⟩ := h
  obtain ⟨xs, k, _, _, _, hxl, hfl⟩ := DataW.trod_struct Try.underlying30 hf
  have g0 : DataW.trod enc Try.prog W 0 (fun _ => true) true k 3 [v0] = xs[0]? := hfl 0 _ rfl
  have g1 : DataW.trod enc Try.prog W 0 (fun _ => true) true k 3 [v1] = xs[1]? := hfl 1 _ rfl
  have g2 : DataW.trod enc Try.prog W 0 (fun _ => true) true k 3 [v2] = xs[2]? := hfl 2 _ rfl
  have l3 : xs.length = 3 := hxl
  rw [List.getElem?_eq_getElem (by omega)] at g0 g1 g2
  obtain ⟨z0, e0, _, w0⟩ := DataW.trod_int Try.underlying3 g0
  obtain ⟨z1, e1, _, w1⟩ := DataW.trod_int Try.underlying3 g1
  obtain ⟨z2, e2, _, w2⟩ := DataW.trod_int Try.underlying3 g2
  simp only [List.cons.injEq, and_true] at e0 e1 e2
  subst e0; subst e1; subst e2
  exact ⟨z0, z1, z2, rfl, bounds_i64 w0, bounds_i64 w1, bounds_i64 w2⟩
end Go.Proofs.Ytbplmnmkgkgkhaa

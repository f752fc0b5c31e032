/- Rows of truth values: their cells, and how an argument that is one is opened. No condition on the program. -/
import Derived.Test.YtkjclgpecppokaaGrow
import Derived.Test.YtkjclgpecppokaaRef01
import Derived.Test.YtkjclgpecppokaaOpen
import Derived.Test.YtkjclgpecppokaaSqPure
namespace Go.Proofs.Ytkjclgpecppokaa
open Go.RowKit Go.ChangeShapes Go.WideShapes

theorem infoBool : (Try.prog.info? 4).map (fun i => (i.zero, i.size, i.bytes)) = some (some (.bool false), 1, 1) := by kernel_rfl
theorem tyBool : ETy Try.prog 33 4 (.bool false) 1 := by
  obtain ⟨i, hi, h1, h2, h3⟩ := info_parts infoBool
  exact ⟨Try.underlying33, ⟨i, hi, h1, h2, h3⟩, rfl⟩
def boV (l : List Bool) : List Value := l.map Value.bool
theorem boV_get (l : List Bool) (i : Nat) : (boV l)[i]? = l[i]?.map Value.bool := by simp [boV]
theorem boV_set (l : List Bool) (i : Nat) (b : Bool) : boV (l.set i b) = (boV l).set i (.bool b) := by simp [boV, List.map_set]
theorem boV_one (l : List Bool) : ∀ u ∈ boV l, u.oneCell' = true := by
  intro u hu
  simp only [boV, List.mem_map] at hu
  obtain ⟨b, _, rfl⟩ := hu
  rfl
/-- what is new since W, but for the row at oa -/
def Fo (W : World) (oa : Option Addr) (k : Nat) : Prop := W.heap.size ≤ k ∧ ∀ ad, oa = some ad → k ≠ ad.block
theorem Fo.not {W : World} {oa : Option Addr} : ∀ ad, oa = some ad → ¬ Fo W oa ad.block := fun ad h hf => hf.2 ad h rfl
/-- a call's own memory has come -/
theorem fo_after {W w w' : World} {oa : Option Addr} {g : Nat} {q : Qu} {F : Nat → Prop} (h : QAt (Fat F w w') w' g q) (hF : ∀ k, F k → Fo W oa k) (hW : W.heap.size ≤ w.heap.size) (hoa : ∀ ad, oa = some ad → ad.block < w.heap.size) : QAt (Fo W oa) w' g q :=
  h.more (fun k hk _ => hk.elim (hF k) (fun h => ⟨by omega, fun ad ha e => by have := hoa ad ha; omega⟩))

theorem iv_get' (k : IntKind) (zs : List Int) (i : Nat) (h : i < zs.length) : (iv k zs)[i]? = some (.int k zs[i]) := by simp [iv, h]
/-- a piece of a row of cells, as the machine cuts it -/
theorem sl_cut {w : World} {a : Option Addr} {n c : Nat} {xs : List Value} (h : Sl w a n c xs) {lo k : Nat} (hk : lo + k ≤ n) : Sl w (if c = lo then a else a.map (·.add lo)) k (c - lo) ((xs.drop lo).take k) := by
  have hc := h.cap_le
  have hm := h.cap_max
  by_cases he : c = lo
  · rw [if_pos he]
    refine ⟨by rw [List.length_take, List.length_drop, h.len]; omega, by omega, by omega, fun _ => by omega, fun h0 => by omega⟩
  · rw [if_neg he]
    refine ⟨by rw [List.length_take, List.length_drop, h.len]; omega, by omega, by omega, fun h0 => ?_, fun h0 => ?_⟩
    · cases a with
      | none => have := h.nil rfl; omega
      | some ad => cases h0
    · obtain ⟨b, off, rfl, hcell⟩ := h.cells (by omega)
      refine ⟨b, off + lo, ?_, fun i hi => ?_⟩
      · simp only [Option.map_some, Addr.add]
        split
        · rename_i h0; subst h0; rfl
        · rfl
      · rw [Nat.add_assoc, hcell (lo + i) (by omega), List.getElem?_take, if_pos hi, List.getElem?_drop]

section
variable {H : Type} {enc : TypeId × Value → H} {P : Program} {W : World}
/-- a slice of truth values that came in -/
theorem open_bools' {t e : TypeId} {v : Value} {d : DataW H} {ps : List MemPlace} {base : Nat} (ht : P.underlying t = some (.slice e)) (he : P.underlying e = some .bool) (hc : P.cellsOf e = 1)
    (hv : Value.okWide P W .any base t v) (h : DataW.Trod enc P W 0 (fun _ => true) true t v d ps) :
    ∃ a n c bs, v = .slice a n c ∧ Sl W a n c (boV bs) := by
  obtain ⟨a, n, c, rfl⟩ := okWide_slice ht hv
  obtain ⟨fuel, hf⟩ := h
  rcases DataW.trod_slice ht hf with ⟨h0, hx⟩ | ⟨x, len, cap, elems, rest, m, _, hcs, hx, _, hl, hm, hlen, hel, _⟩
  · simp [Value.cells] at h0
    obtain ⟨rfl, rfl, rfl⟩ := h0
    exact ⟨none, 0, 0, [], rfl, Sl.empty W⟩
  · simp [Value.cells] at hcs
    obtain ⟨rfl, rfl, rfl⟩ := hcs
    have each : ∀ i, i < n → ∃ bo, W.cell? (x.add i) = some (.bool bo) := by
      intro i hi
      have h1 := hel i hi
      have hy : elems[i]? = some (elems[i]'(by omega)) := List.getElem?_eq_getElem (by omega)
      rw [hy, Option.bind_eq_some_iff] at h1
      obtain ⟨cs', hc', hy'⟩ := h1
      obtain ⟨_, hl', hcell⟩ := World.cells?_some hc'
      rw [hc] at hl' hcell
      have h0 := hcell 0 (by omega)
      match cs', hl' with
      | [u], _ =>
        obtain ⟨bo, e0, _⟩ := DataW.trod_bool he hy'
        simp only [List.cons.injEq, and_true] at e0
        subst e0
        refine ⟨bo, ?_⟩
        simpa [Addr.add] using h0
    by_cases hn : 0 < n
    · obtain ⟨b, off, spot⟩ := x
      obtain ⟨bo, h0⟩ := each 0 hn
      have hsp : spot = none := by simpa [Addr.add] using World.cell?_spot h0
      subst hsp
      have hadd : ∀ i, (⟨b, off, none⟩ : Addr).add i = ⟨b, off + i, none⟩ := fun i => by
        unfold Addr.add; split
        · rename_i h; subst h; rfl
        · rfl
      let bs : List Bool := (List.range n).map fun i => match W.cell? ⟨b, off + i, none⟩ with | some (.bool bo) => bo | _ => false
      refine ⟨_, _, _, bs, rfl, by simp [bs, boV], hl, hm, by simp, fun _ => ⟨b, off, rfl, fun i hi => ?_⟩⟩
      obtain ⟨bo, h1⟩ := each i hi
      rw [hadd] at h1
      rw [h1, boV_get]
      simp [bs, hi, h1]
    · obtain rfl : n = 0 := by omega
      exact ⟨_, _, _, [], rfl, rfl, hl, hm, by simp, fun h => absurd h (Nat.lt_irrefl _)⟩
end
theorem open_bools {H : Type} {enc : TypeId × Value → H} {W : World} {v : Value} {d : DataW H} {ps : List MemPlace} {base : Nat}
    (hv : Value.okWide Try.prog W .any base 33 v) (h : DataW.Trod enc Try.prog W 0 (fun _ => true) true 33 v d ps) :
    ∃ a n c bs, v = .slice a n c ∧ Sl W a n c (boV bs) := open_bools' Try.underlying33 Try.underlying4 (by kernel_rfl) hv h
end Go.Proofs.Ytkjclgpecppokaa

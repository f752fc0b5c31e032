/- How an argument that is a slice of structs of one-cell fields is opened. No condition on the program. -/
import Derived.Test.YtaeanhpdlkgghaaDoorOpen
import Derived.Deep.Fields
namespace Go.Proofs.YtaeanhpdlkgghaaDoor
open Go.RowKit Go.ChangeShapes Go.WideShapes

section
variable {H : Type} {enc : TypeId × Value → H} {P : Program} {w : World}

theorem addr_add' (b off i : Nat) : (⟨b, off, none⟩ : Addr).add i = ⟨b, off + i, none⟩ := by
  unfold Addr.add; split
  · rename_i h; subst h; rfl
  · rfl
/-- an element's field j, at the cell of its own -/
theorem open_rows {t e : TypeId} {fs : Array Field} {v : Value} {d : DataW H} {ps : List MemPlace} {base : Nat} (ht : P.underlying t = some (.slice e)) (hs : P.underlying e = some (.struct fs))
    (hone : ∀ (i : Nat) (f : Field), fs[i]? = some f → f.offset = i ∧ P.cellsOf f.type = 1) (hC : P.cellsOf e = fs.size) (hpos : 0 < fs.size)
    (hv : Value.okWide P w .any base t v) (h : DataW.Trod enc P w 0 (fun _ => true) true t v d ps) :
    ∃ (a : Option Addr) (n c : Nat), v = .slice a n c ∧ n ≤ c ∧ c ≤ maxLen ∧ (0 < n → ∃ (b off : Nat) (els sp : List (DataW H)), a = some ⟨b, off, none⟩ ∧ d = .slice els sp ∧ els.length = n ∧
      ∀ i, i < n → ∃ (parts : List (DataW H)), els[i]? = some (.agg parts) ∧ ∀ j f, fs[j]? = some f → ∃ u x ps' m, w.cell? ⟨b, off + i * fs.size + j, none⟩ = some u ∧ DataW.trod enc P w 0 (fun _ => true) true m f.type [u] = some (x, ps') ∧ x ∈ parts) := by
  obtain ⟨a, n, c, rfl⟩ := okWide_slice ht hv
  obtain ⟨fuel, hf⟩ := h
  rcases DataW.trod_slice ht hf with ⟨h0, hx⟩ | ⟨x, len, cap, elems, rest, m, _, hcs, hx, _, hl, hm, hlen, hel, _⟩
  · simp [Value.cells] at h0
    obtain ⟨rfl, rfl, rfl⟩ := h0
    exact ⟨none, 0, 0, rfl, Nat.le_refl _, Nat.zero_le _, fun h => absurd h (Nat.lt_irrefl _)⟩
  · simp [Value.cells] at hcs
    obtain ⟨rfl, rfl, rfl⟩ := hcs
    simp only [Prod.mk.injEq] at hx
    refine ⟨_, _, _, rfl, hl, hm, fun hn => ?_⟩
    obtain ⟨b, off, spot⟩ := x
    have hspot : spot = none := by
      have h1 := hel 0 hn
      have hy : elems[0]? = some (elems[0]'(by omega)) := List.getElem?_eq_getElem (by omega)
      rw [hy, Option.bind_eq_some_iff] at h1
      obtain ⟨cs', hc', _⟩ := h1
      obtain ⟨_, hl', hcell⟩ := World.cells?_some hc'
      rw [hC] at hl' hcell
      have h0 := hcell 0 hpos
      rw [List.getElem?_eq_getElem (by omega)] at h0
      simpa [Addr.add] using World.cell?_spot h0
    subst hspot
    have each : ∀ i, i < n → ∃ y cs', elems[i]? = some y ∧ cs'.length = fs.size ∧ (∀ j, j < fs.size → w.cell? ⟨b, off + i * fs.size + j, none⟩ = cs'[j]?) ∧ DataW.trod enc P w 0 (fun _ => true) true m e cs' = some y := by
      intro i hi
      have h1 := hel i hi
      have hy : elems[i]? = some (elems[i]'(by omega)) := List.getElem?_eq_getElem (by omega)
      rw [hy, Option.bind_eq_some_iff] at h1
      obtain ⟨cs', hc', hy'⟩ := h1
      obtain ⟨_, hl', hcell⟩ := World.cells?_some hc'
      rw [hC] at hl' hcell
      refine ⟨_, cs', hy, hl', fun j hj => ?_, hy'⟩
      have := hcell j hj
      rwa [addr_add', addr_add'] at this
    refine ⟨b, off, elems.map (·.1), rest.map (·.1), rfl, hx.1, by simpa using hlen, fun i hi => ?_⟩
    obtain ⟨y, cs', hy, hl', hcell, hy'⟩ := each i hi
    obtain ⟨xs, k, _, rfl, _, hxl, hfl⟩ := DataW.trod_struct hs hy'
    refine ⟨xs.map (·.1), by rw [List.getElem?_map, hy]; rfl, fun j f hj => ?_⟩
    have hlt : j < fs.size := (Array.getElem?_eq_some_iff.1 hj).1
    obtain ⟨ho, hc1⟩ := hone j f hj
    have g := hfl j f hj
    rw [ho, hc1] at g
    rw [Go.Deep.take1_drop cs' j undef (by omega), List.getElem?_eq_getElem (by omega)] at g
    refine ⟨cs'.getD j undef, (xs[j]'(by omega)).1, (xs[j]'(by omega)).2, k, ?_, g, List.mem_map.2 ⟨_, List.getElem_mem _, rfl⟩⟩
    have := hcell j hlt
    rw [List.getElem?_eq_getElem (by omega)] at this
    rw [this]
    simp [List.getD, List.getElem?_eq_getElem (show j < cs'.length by omega)]
end
end Go.Proofs.YtaeanhpdlkgghaaDoor

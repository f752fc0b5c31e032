/- How a law's arguments are opened, and what their bulk gives. -/
import Derived.Test.YtaeanhpdlkgghaaDoorMem
import Derived.SizedLaws
import Derived.JoinedCond
namespace Go.Proofs.YtaeanhpdlkgghaaDoor
open Go.RowKit Go.ChangeShapes Go.WideShapes

theorem ownKn : ownKnob Tryd.prog.godebug = none := by kernel_rfl
theorem laidOut : laidOutB Tryd.prog = true := by kernel_rfl

section
variable {H : Type} {enc : TypeId × Value → H} {P : Program} {W : World}

/-- numbers as cells -/
def iv (k : IntKind) (zs : List Int) : List Value := zs.map (Value.int k)

theorem sl_of_ints {k : IntKind} {x : Addr} {len cap : Nat} {zs : List Int} (hl : len ≤ cap) (hm : cap ≤ maxLen) (hz : zs.length = cap)
    (hcell : ∀ i, i < zs.length → W.cell? (x.add i) = some (.int k (zs.getD i 0))) : Sl W (some x) len cap (iv k (zs.take len)) := by
  refine ⟨by simp [iv]; omega, hl, hm, by simp, fun hn => ?_⟩
  obtain ⟨b, off, spot⟩ := x
  have h0 := hcell 0 (by omega)
  have hsp : spot = none := by simpa [Addr.add] using World.cell?_spot h0
  subst hsp
  refine ⟨b, off, rfl, fun i hi => ?_⟩
  have h1 := hcell i (by omega)
  have hadd : (⟨b, off, none⟩ : Addr).add i = ⟨b, off + i, none⟩ := by
    unfold Addr.add; split
    · rename_i h; subst h; rfl
    · rfl
  rw [hadd] at h1
  rw [h1]
  simp [iv, hi, List.getD_eq_getElem?_getD]
  rw [List.getElem?_eq_getElem (by omega)]
  rfl

/-- a slice of integers of one kind that came in -/
theorem open_nums {t e : TypeId} {k : IntKind} {v : Value} {d : DataW H} {ps : List MemPlace} {base : Nat} (ht : P.underlying t = some (.slice e)) (he : P.underlying e = some (.int k)) (hc : P.cellsOf e = 1)
    (hv : Value.okWide P W .any base t v) (h : DataW.Trod enc P W 0 (fun _ => true) true t v d ps) :
    ∃ a n c zs, v = .slice a n c ∧ Sl W a n c (iv k zs) ∧ (∀ z ∈ zs, (Lit.int k z).wf = true) ∧ (n = 0 ∨ ∃ elems spare, d = .slice elems spare ∧ elems.length = n) := by
  obtain ⟨a, n, c, rfl⟩ := okWide_slice ht hv
  obtain ⟨fuel, hf⟩ := h
  rcases open_ints ht he hc hf with ⟨hcs, hx⟩ | ⟨x, len, cap, zs, hcs, _, hl, hm, hz, hx, hcell, hwz⟩
  · simp [Value.cells] at hcs
    obtain ⟨rfl, rfl, rfl⟩ := hcs
    exact ⟨none, 0, 0, [], rfl, Sl.empty W, by simp, .inl rfl⟩
  · simp [Value.cells] at hcs
    obtain ⟨rfl, rfl, rfl⟩ := hcs
    have hz' : zs.length = c := by simpa using hz
    refine ⟨_, _, _, zs.take n, rfl, sl_of_ints hl hm hz' hcell, fun z hz => hwz z (List.mem_of_mem_take hz), .inr ?_⟩
    simp only [Prod.mk.injEq] at hx
    exact ⟨_, _, hx.1, by simp [lits]; omega⟩

/-- a slice of bytes that came in -/
theorem open_bytes {t e : TypeId} {v : Value} {d : DataW H} {ps : List MemPlace} {base : Nat} (ht : P.underlying t = some (.slice e)) (he : P.underlying e = some (.int .u8)) (hc : P.cellsOf e = 1)
    (hv : Value.okWide P W .any base t v) (h : DataW.Trod enc P W 0 (fun _ => true) true t v d ps) :
    ∃ a n c l, v = .slice a n c ∧ Sl W a n c (bv l) ∧ (n = 0 ∨ ∃ elems spare, d = .slice elems spare ∧ elems.length = n) := by
  obtain ⟨a, n, c, zs, hv, hs, hw, hd⟩ := open_nums ht he hc hv h
  refine ⟨a, n, c, zs.map (fun z => UInt8.ofNat z.toNat), hv, ?_, hd⟩
  have e : bv (zs.map (fun z => UInt8.ofNat z.toNat)) = iv .u8 zs := by
    simp only [bv, iv, List.map_map]
    refine List.map_congr_left fun z hz => ?_
    have hb := bounds_u8 (hw z hz)
    simp
    omega
  rw [e]
  exact hs
end

/-! ### bulk -/
theorem bulk_one {H : Type} (d : DataW H) : 1 ≤ Rows.uptoBulk d := by
  cases d with
  | lit l => cases l <;> simp [Rows.uptoBulk]
  | nil => simp [Rows.uptoBulk]
  | ptr d => simp [Rows.uptoBulk]
  | slice elems spare => simp [Rows.uptoBulk]
  | agg parts => simp [Rows.uptoBulk]
  | iface t d => simp [Rows.uptoBulk]
  | map entries => simp [Rows.uptoBulk]
  | held h => simp [Rows.uptoBulk]
theorem bulk_part {H : Type} {d : DataW H} {l : List (DataW H)} (h : d ∈ l) : Rows.uptoBulk d ≤ Rows.uptoBulkAll l := by
  induction l with
  | nil => cases h
  | cons x r ih =>
    simp only [Rows.uptoBulkAll]
    cases List.mem_cons.1 h with
    | inl e => subst e; omega
    | inr e => have := ih e; omega
theorem bulk_length {H : Type} (l : List (DataW H)) : l.length ≤ Rows.uptoBulkAll l := by
  induction l with
  | nil => simp [Rows.uptoBulkAll]
  | cons x r ih => have := bulk_one x; simp only [Rows.uptoBulkAll, List.length_cons]; omega
theorem bulk_slice {H : Type} {elems spare : List (DataW H)} : elems.length ≤ Rows.uptoBulk (.slice elems spare) := by
  have := bulk_length elems
  simp only [Rows.uptoBulk]
  omega
theorem bulk_bound {H : Type} {l : List (DataW H)} (hk : Rows.uptoSmall H l = true) : Rows.uptoBulkAll l ≤ 1048576 := by
  simpa [Rows.uptoSmall] using hk
/-- a slice that came in, under the bound -/
theorem upto_slice {H : Type} {ds : List (DataW H)} (hk : Rows.uptoSmall H ds = true) {d : DataW H} (hd : d ∈ ds) {n : Nat} (h : n = 0 ∨ ∃ elems spare, d = .slice elems spare ∧ elems.length = n) : n ≤ 1048576 := by
  have := bulk_bound hk
  rcases h with rfl | ⟨elems, spare, rfl, rfl⟩
  · omega
  · have := bulk_part hd
    have := bulk_slice (elems := elems) (spare := spare)
    omega
theorem upto_string {H : Type} {ds : List (DataW H)} (hk : Rows.uptoSmall H ds = true) {bytes : List UInt8} (hd : DataW.lit (.string bytes) ∈ ds) : bytes.length ≤ 1048576 := by
  have := bulk_bound hk
  have h2 := bulk_part hd
  have : Rows.uptoBulk (DataW.lit (H := H) (.string bytes)) = bytes.length + 1 := by simp [Rows.uptoBulk]
  omega
/-- a slice that came in, within the form's reach -/
theorem reach_slice {H : Type} {P : Program} {ts : List TypeId} {ds : List (DataW H)} (h : (DataW.weightsEach P ts ds).all (· ≤ reachBytes) = true) {j : Nat} {t e : TypeId} {d : DataW H} (ht : ts[j]? = some t) (hdj : ds[j]? = some d)
    (hu : P.underlying t = some (.slice e)) {b : Nat} (hb : P.bytesOf e = b) {n : Nat} (hd : n = 0 ∨ ∃ elems spare, d = .slice elems spare ∧ elems.length = n) : n * b ≤ 140737488351232 := by
  rcases hd with rfl | ⟨elems, spare, rfl, rfl⟩
  · simp
  · have h1 := sized_slice h ht hdj hu
    rw [hb] at h1
    have h2 : reachBytes = 140737488351232 := by decide
    rw [h2] at h1
    exact Nat.le_trans (Nat.mul_le_mul_right b (Nat.le_add_right _ _)) h1
end Go.Proofs.YtaeanhpdlkgghaaDoor

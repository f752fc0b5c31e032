/- How a script of the loss layer's calls is opened. -/
import Derived.Test.YtkpeegcpicckjaaOpenRows
import Derived.Test.YtkpeegcpicckjaaLsSpan
namespace Go.Proofs.Ytkpeegcpicckjaa
open Go.RowKit Go.ChangeShapes Go.WideShapes

/-- spans that came in, as cells -/
structure SlS (w : World) (a : Option Addr) (n c : Nat) (l : List Sn) : Prop where
  len : l.length = n
  cap : n ≤ c
  max : c ≤ maxLen
  cells : 0 < n → ∃ b off, a = some ⟨b, off, none⟩ ∧ ∀ i (h : i < l.length), w.cell? ⟨b, off + i * 2, none⟩ = some (.int .i64 l[i].from_) ∧ w.cell? ⟨b, off + i * 2 + 1, none⟩ = some (.int .i64 l[i].to_)

section
variable {H : Type} {enc : TypeId × Value → H} {P : Program} {w : World}
/-- a slice of structs of one-cell fields within a cell -/
theorem open_rows1 {t e : TypeId} {fs : Array Field} {v : Value} {d : DataW H} {ps : List MemPlace} {m0 : Nat} (ht : P.underlying t = some (.slice e)) (hs : P.underlying e = some (.struct fs))
    (hone : ∀ (i : Nat) (f : Field), fs[i]? = some f → f.offset = i ∧ P.cellsOf f.type = 1) (hC : P.cellsOf e = fs.size) (hpos : 0 < fs.size)
    (hf : DataW.trod enc P w 0 (fun _ => true) true m0 t [v] = some (d, ps)) :
    ∃ (a : Option Addr) (n c : Nat), v = .slice a n c ∧ n ≤ c ∧ c ≤ maxLen ∧ (0 < n → ∃ (b off : Nat) (els sp : List (DataW H)), a = some ⟨b, off, none⟩ ∧ d = .slice els sp ∧ els.length = n ∧
      ∀ i, i < n → ∃ (parts : List (DataW H)), els[i]? = some (.agg parts) ∧ ∀ j f, fs[j]? = some f → ∃ u x ps' m, w.cell? ⟨b, off + i * fs.size + j, none⟩ = some u ∧ DataW.trod enc P w 0 (fun _ => true) true m f.type [u] = some (x, ps') ∧ x ∈ parts) := by
  rcases DataW.trod_slice ht hf with ⟨h0, hx⟩ | ⟨x, len, cap, elems, rest, m, _, hcs, hx, _, hl, hm, hlen, hel, _⟩
  · simp at h0
    obtain rfl := h0
    exact ⟨none, 0, 0, rfl, Nat.le_refl _, Nat.zero_le _, fun h => absurd h (Nat.lt_irrefl _)⟩
  · simp at hcs
    obtain rfl := hcs
    simp only [Prod.mk.injEq] at hx
    refine ⟨_, _, _, rfl, hl, hm, fun hn => ?_⟩
    obtain ⟨b, off, spot⟩ := x
    have hspot : spot = none := by
      have h1 := hel 0 hn
      have hy : elems[0]? = some (elems[0]'(by omega)) := List.getElem?_eq_getElem (by omega)
      rw [hy, Option.bind_eq_some_iff] at h1
      obtain ⟨cs', hc', _⟩ := h1
      obtain ⟨_, hl', hcell⟩ := World.cells?_some hc'
      rw [hC] at hl' hcell
      have h0 := hcell 0 hpos
      rw [List.getElem?_eq_getElem (by omega)] at h0
      simpa [Addr.add] using World.cell?_spot h0
    subst hspot
    refine ⟨b, off, elems.map (·.1), rest.map (·.1), rfl, hx.1, by simpa using hlen, fun i hi => ?_⟩
    have h1 := hel i hi
    have hy : elems[i]? = some (elems[i]'(by omega)) := List.getElem?_eq_getElem (by omega)
    rw [hy, Option.bind_eq_some_iff] at h1
    obtain ⟨cs', hc', hy'⟩ := h1
    obtain ⟨_, hl', hcell0⟩ := World.cells?_some hc'
    rw [hC] at hl' hcell0
    have hcell : ∀ j, j < fs.size → w.cell? ⟨b, off + i * fs.size + j, none⟩ = cs'[j]? := fun j hj => by
      have := hcell0 j hj
      rwa [addr_add', addr_add'] at this
    obtain ⟨xs, k, _, he, _, hxl, hfl⟩ := DataW.trod_struct hs hy'
    have hel2 : (elems[i]'(by omega)).1 = .agg (xs.map (·.1)) := by first | exact congrArg Prod.fst he | (rw [he])
    refine ⟨xs.map (·.1), by rw [List.getElem?_map, hy]; simp [hel2], fun j f hj => ?_⟩
    have hlt : j < fs.size := (Array.getElem?_eq_some_iff.1 hj).1
    obtain ⟨ho, hc1⟩ := hone j f hj
    have g := hfl j f hj
    rw [ho, hc1] at g
    rw [Go.Deep.take1_drop cs' j undef (by omega), List.getElem?_eq_getElem (by omega)] at g
    refine ⟨cs'.getD j undef, (xs[j]'(by omega)).1, (xs[j]'(by omega)).2, k, ?_, g, List.mem_map.2 ⟨_, List.getElem_mem _, rfl⟩⟩
    have := hcell j hlt
    rw [List.getElem?_eq_getElem (by omega)] at this
    rw [this]
    simp [List.getD, List.getElem?_eq_getElem (show j < cs'.length by omega)]
end

/-- the cells of one call -/
def OpAt (W : World) (b o : Nat) : Prop :=
  ∃ (kind space number size now : Int) (el : Bool) (sa : Option Addr) (sn sc : Nat) (sl : List Sn), W.cell? ⟨b, o, none⟩ = some (.int .i64 kind) ∧ W.cell? ⟨b, o + 1, none⟩ = some (.int .i64 space) ∧ W.cell? ⟨b, o + 2, none⟩ = some (.int .i64 number) ∧
    W.cell? ⟨b, o + 3, none⟩ = some (.int .i64 size) ∧ W.cell? ⟨b, o + 4, none⟩ = some (.int .i64 now) ∧ W.cell? ⟨b, o + 5, none⟩ = some (.bool el) ∧ W.cell? ⟨b, o + 6, none⟩ = some (.slice sa sn sc) ∧ SlS W sa sn sc sl ∧ sn ≤ 1048576 ∧
    (-9223372036854775808 ≤ space ∧ space ≤ 9223372036854775807) ∧ (-9223372036854775808 ≤ number ∧ number ≤ 9223372036854775807) ∧ (-9223372036854775808 ≤ size ∧ size ≤ 9223372036854775807) ∧ (-9223372036854775808 ≤ now ∧ now ≤ 9223372036854775807) ∧
    (∀ x ∈ sl, -9223372036854775808 ≤ x.from_ ∧ x.from_ ≤ 9223372036854775807 ∧ -9223372036854775808 ≤ x.to_ ∧ x.to_ ≤ 9223372036854775807)
def OpsAt (W : World) (a : Option Addr) (n c : Nat) : Prop :=
  n ≤ 1048576 ∧ n ≤ c ∧ c ≤ maxLen ∧ (0 < n → ∃ b off, a = some ⟨b, off, none⟩ ∧ ∀ i, i < n → OpAt W b (off + i * 7))
theorem bulk_inner {H : Type} {els sp parts e2 s2 : List (DataW H)} {i : Nat} (h1 : els[i]? = some (.agg parts)) (h2 : DataW.slice e2 s2 ∈ parts) : e2.length ≤ Rows.uptoBulk (DataW.slice els sp) := by
  have a1 := bulk_part (List.mem_of_getElem? h1)
  have a2 := bulk_part h2
  have a3 := bulk_slice (elems := e2) (spare := s2)
  simp only [Rows.uptoBulk] at a1 a3 ⊢
  have : Rows.uptoBulk (DataW.slice e2 s2) ≤ Rows.uptoBulkAll parts := a2
  simp only [Rows.uptoBulk] at this
  omega
/-- a span's cells, read off -/
noncomputable def snAt (W : World) (b o : Nat) : Sn := ⟨match W.cell? ⟨b, o, none⟩ with | some (.int .i64 z) => z | _ => 0, match W.cell? ⟨b, o + 1, none⟩ with | some (.int .i64 z) => z | _ => 0⟩

theorem open_ops {H : Type} {enc : TypeId × Value → H} {W : World} {v : Value} {d : DataW H} {ps : List MemPlace} {base : Nat} {ds : List (DataW H)}
    (hv : Value.okWide Try.prog W .any base 38 v) (h : DataW.Trod enc Try.prog W 0 (fun _ => true) true 38 v d ps) (hk : Rows.uptoSmall H ds = true) (hd : d ∈ ds) :
    ∃ (a : Option Addr) (n c : Nat), v = .slice a n c ∧ OpsAt W a n c := by
  obtain ⟨a, n, c, rfl, hnc, hcm, hx⟩ := open_rows Try.underlying38 Try.underlying42 (Go.Deep.hone_of (by kernel_rfl)) (by kernel_rfl) (by decide) hv h
  have hb := bulk_bound hk
  have hdb := bulk_part hd
  refine ⟨a, n, c, rfl, ?_, hnc, hcm, fun hn => ?_⟩
  · by_cases hn : 0 < n
    · obtain ⟨b, off, els, sp, rfl, rfl, hel, _⟩ := hx hn
      have := bulk_slice (elems := els) (spare := sp)
      omega
    · omega
  · obtain ⟨b, off, els, sp, rfl, rfl, hel, hi⟩ := hx hn
    refine ⟨b, off, rfl, fun i hin => ?_⟩
    obtain ⟨parts, hpart, hf⟩ := hi i hin
    obtain ⟨u0, x0, p0, m0, c0, t0, _⟩ := hf 0 _ rfl
    obtain ⟨u1, x1, p1, m1, c1, t1, _⟩ := hf 1 _ rfl
    obtain ⟨u2, x2, p2, m2, c2, t2, _⟩ := hf 2 _ rfl
    obtain ⟨u3, x3, p3, m3, c3, t3, _⟩ := hf 3 _ rfl
    obtain ⟨u4, x4, p4, m4, c4, t4, _⟩ := hf 4 _ rfl
    obtain ⟨u5, x5, p5, m5, c5, t5, _⟩ := hf 5 _ rfl
    obtain ⟨u6, x6, p6, m6, c6, t6, hin6⟩ := hf 6 _ rfl
    obtain ⟨z0, e0, _, w0⟩ := DataW.trod_int Try.underlying3 t0
    obtain ⟨z1, e1, _, w1⟩ := DataW.trod_int Try.underlying3 t1
    obtain ⟨z2, e2, _, w2⟩ := DataW.trod_int Try.underlying3 t2
    obtain ⟨z3, e3, _, w3⟩ := DataW.trod_int Try.underlying3 t3
    obtain ⟨z4, e4, _, w4⟩ := DataW.trod_int Try.underlying3 t4
    obtain ⟨z5, e5, _⟩ := DataW.trod_bool Try.underlying4 t5
    simp only [List.cons.injEq, and_true] at e0 e1 e2 e3 e4 e5
    subst e0; subst e1; subst e2; subst e3; subst e4; subst e5
    have b1 := bounds_i64 w1
    have b2 := bounds_i64 w2
    have b3 := bounds_i64 w3
    have b4 := bounds_i64 w4
    obtain ⟨sa, sn, sc, rfl, hsnc, hscm, hxs⟩ := open_rows1 Try.underlying40 Try.underlying47 (Go.Deep.hone_of (by kernel_rfl)) (by kernel_rfl) (by decide) t6
    by_cases hsn : 0 < sn
    · obtain ⟨b', off', els', sp', rfl, rfl, hel', hi'⟩ := hxs hsn
      have hbi := bulk_inner (sp := sp) hpart hin6
      have each : ∀ k, k < sn → ∃ f t, W.cell? ⟨b', off' + k * 2, none⟩ = some (.int .i64 f) ∧ W.cell? ⟨b', off' + k * 2 + 1, none⟩ = some (.int .i64 t) ∧ (-9223372036854775808 ≤ f ∧ f ≤ 9223372036854775807) ∧ (-9223372036854775808 ≤ t ∧ t ≤ 9223372036854775807) := by
        intro k hk
        obtain ⟨parts', _, hf'⟩ := hi' k hk
        obtain ⟨v0, y0, q0, n0, d0, s0, _⟩ := hf' 0 _ rfl
        obtain ⟨v1, y1, q1, n1, d1, s1, _⟩ := hf' 1 _ rfl
        obtain ⟨f, g0, _, wf⟩ := DataW.trod_int Try.underlying3 s0
        obtain ⟨t, g1, _, wt⟩ := DataW.trod_int Try.underlying3 s1
        simp only [List.cons.injEq, and_true] at g0 g1
        subst g0; subst g1
        exact ⟨f, t, d0, d1, bounds_i64 wf, bounds_i64 wt⟩
      refine ⟨z0, z1, z2, z3, z4, z5, _, _, _, (List.range sn).map fun k => snAt W b' (off' + k * 2), c0, c1, c2, c3, c4, c5, c6, ⟨by simp, hsnc, hscm, fun _ => ⟨b', off', rfl, fun k hk => ?_⟩⟩, by omega, b1, b2, b3, b4, fun x hx => ?_⟩
      · simp only [List.length_map, List.length_range] at hk
        obtain ⟨f, t, h1, h2, _⟩ := each k hk
        simp [snAt, h1, h2]
      · simp only [List.mem_map, List.mem_range] at hx
        obtain ⟨k, hk, rfl⟩ := hx
        obtain ⟨f, t, h1, h2, h3, h4⟩ := each k hk
        simp only [snAt, h1, h2]
        exact ⟨h3.1, h3.2, h4.1, h4.2⟩
    · obtain rfl : sn = 0 := by omega
      exact ⟨z0, z1, z2, z3, z4, z5, sa, 0, sc, [], c0, c1, c2, c3, c4, c5, c6, ⟨rfl, hsnc, hscm, fun h => absurd h (Nat.lt_irrefl _)⟩, by omega, b1, b2, b3, b4, by simp⟩
end Go.Proofs.Ytkpeegcpicckjaa

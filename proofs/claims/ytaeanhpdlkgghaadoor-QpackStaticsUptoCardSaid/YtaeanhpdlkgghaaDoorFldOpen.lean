/- How a slice of fields that comes in as an argument is opened, with its bulk. -/
import Derived.Test.YtaeanhpdlkgghaaDoorOpenRows
import Derived.Test.YtaeanhpdlkgghaaDoorFld
namespace Go.Proofs.YtaeanhpdlkgghaaDoor
open Go.RowKit Go.ChangeShapes Go.WideShapes

theorem list_of {α : Type} : ∀ (n : Nat) (Q : Nat → α → Prop), (∀ i, i < n → ∃ p, Q i p) → ∃ l : List α, l.length = n ∧ ∀ i (h : i < l.length), Q i l[i]
  | 0, _, _ => ⟨[], rfl, fun i h => absurd h (Nat.not_lt_zero _)⟩
  | n + 1, Q, h => by
    obtain ⟨l, h1, h2⟩ := list_of n Q (fun i hi => h i (by omega))
    obtain ⟨p, hp⟩ := h n (by omega)
    refine ⟨l ++ [p], by simp [h1], fun i hi => ?_⟩
    by_cases hin : i < l.length
    · rw [List.getElem_append_left hin]; exact h2 i hin
    · have e : i = l.length := by simp at hi; omega
      subst e
      simp only [List.getElem_append_right (Nat.le_refl _), Nat.sub_self, List.getElem_cons_zero]
      rw [h1]; exact hp
/-- what fields weigh -/
def fdz : List Fd → Nat
  | [] => 0
  | f :: r => f.nm.size + f.va.size + 3 + fdz r
theorem fdz_len : ∀ l : List Fd, l.length ≤ fdz l
  | [] => Nat.le_refl _
  | f :: r => by have := fdz_len r; simp only [List.length_cons, fdz]; omega
theorem bulk_zip {H : Type} : ∀ (l : List Fd) (els : List (DataW H)), l.length ≤ els.length → (∀ i (h : i < l.length) (h2 : i < els.length), l[i].nm.size + l[i].va.size + 3 ≤ Rows.uptoBulk els[i]) → fdz l ≤ Rows.uptoBulkAll els
  | [], _, _, _ => Nat.zero_le _
  | f :: r, [], h, _ => by simp at h
  | f :: r, x :: els, h, hq => by
    have h0 := hq 0 (by simp) (by simp)
    have := bulk_zip r els (by simpa using h) (fun i h1 h2 => by have := hq (i + 1) (by simpa using h1) (by simpa using h2); simpa using this)
    simp only [fdz, Rows.uptoBulkAll]
    simp only [List.getElem_cons_zero] at h0
    omega
section
variable {H : Type} {enc : TypeId × Value → H} {W : World}
set_option maxRecDepth 100000 in
/-- fields within a cell, with what they weigh -/
theorem open_fldsW {v : Value} {x : DataW H × List MemPlace} {m0 : Nat} (hf : DataW.trod enc Tryd.prog W 0 (fun _ => true) true m0 43 [v] = some x) :
    ∃ (a : Option Addr) (n c : Nat) (l : List Fd), v = .slice a n c ∧ SlS W a n c l ∧ fdz l + 1 ≤ Rows.uptoBulk x.1 := by
  rcases DataW.trod_slice Tryd.underlying43 hf with ⟨h0, hx⟩ | ⟨x', len, cap, elems, rest, m, _, hcs, hx, _, hl, hm, hlen, hel, _⟩
  · simp only [List.cons.injEq, and_true] at h0
    exact ⟨none, 0, 0, [], h0, ⟨rfl, Nat.le_refl _, Nat.zero_le _, fun h => absurd h (Nat.lt_irrefl _)⟩, bulk_one _⟩
  · simp only [List.cons.injEq, and_true] at hcs
    subst hcs
    have hC : Tryd.prog.cellsOf 23 = 2 := by kernel_rfl
    by_cases hn : 0 < len
    · obtain ⟨b, off, spot⟩ := x'
      have each : ∀ i, i < len → ∃ (p : Fd), W.cell? ((⟨b, off, spot⟩ : Addr).add (i * 2)) = some (.string p.nm) ∧ W.cell? (((⟨b, off, spot⟩ : Addr).add (i * 2)).add 1) = some (.string p.va) ∧ ∀ hi : i < elems.length, p.nm.size + p.va.size + 3 ≤ Rows.uptoBulk (elems[i]).1 := by
        intro i hi
        have h1 := hel i hi
        have hy : elems[i]? = some (elems[i]'(by omega)) := List.getElem?_eq_getElem (by omega)
        rw [hy, Option.bind_eq_some_iff] at h1
        obtain ⟨cs', hc', hy'⟩ := h1
        obtain ⟨_, hl', hcell⟩ := World.cells?_some hc'
        rw [hC] at hl' hcell
        obtain ⟨u0, u1, rfl⟩ : ∃ u0 u1, cs' = [u0, u1] := by
          match cs', hl' with
          | [u0, u1], _ => exact ⟨u0, u1, rfl⟩
        obtain ⟨xs, k, _, he, _, _, hfl⟩ := DataW.trod_struct Tryd.underlying23 hy'
        have g0 : DataW.trod enc Tryd.prog W 0 (fun _ => true) true k 9 [u0] = xs[0]? := hfl 0 _ rfl
        have g1 : DataW.trod enc Tryd.prog W 0 (fun _ => true) true k 9 [u1] = xs[1]? := hfl 1 _ rfl
        have hx2 : xs.length = 2 := by assumption
        obtain ⟨y0, y1, rfl⟩ : ∃ y0 y1, xs = [y0, y1] := by
          match xs, hx2 with
          | [y0, y1], _ => exact ⟨y0, y1, rfl⟩
        obtain ⟨f, e0, d0, _⟩ := DataW.trod_string Tryd.underlying9 (show _ = some y0 from g0)
        obtain ⟨t, e1, d1, _⟩ := DataW.trod_string Tryd.underlying9 (show _ = some y1 from g1)
        simp only [List.cons.injEq, and_true] at e0 e1
        subst e0; subst e1
        have c0 := hcell 0 (by decide)
        have c1 := hcell 1 (by decide)
        refine ⟨⟨f, t⟩, ?_, by simpa using c1, fun hi2 => ?_⟩
        · simpa [Addr.add] using c0
        · have e : (elems[i]).1 = .agg [y0.1, y1.1] := congrArg Prod.fst he
          rw [e, d0, d1]
          simp only [Rows.uptoBulk, Rows.uptoBulkAll, Array.length_toList]
          have e1 : f.data.size = f.size := rfl
          have e2 : t.data.size = t.size := rfl
          omega
      have hspot : spot = none := by
        obtain ⟨p, h0, _⟩ := each 0 hn
        simpa [Addr.add] using World.cell?_spot h0
      subst hspot
      obtain ⟨l, hll, hlq⟩ := list_of len (fun i (p : Fd) => (W.cell? ⟨b, off + i * 2, none⟩ = some (.string p.nm) ∧ W.cell? ⟨b, off + i * 2 + 1, none⟩ = some (.string p.va)) ∧ ∀ hi : i < elems.length, p.nm.size + p.va.size + 3 ≤ Rows.uptoBulk (elems[i]).1) (fun i hi => by
        obtain ⟨p, h1, h2, h3⟩ := each i hi
        rw [addr_add'] at h1
        rw [addr_add', addr_add'] at h2
        exact ⟨p, ⟨h1, h2⟩, h3⟩)
      refine ⟨_, _, _, l, rfl, ⟨hll, hl, hm, fun _ => ⟨b, off, rfl, fun i hi => (hlq i hi).1⟩⟩, ?_⟩
      have hz := bulk_zip l (elems.map (·.1)) (by rw [List.length_map, hll, hlen]; exact Nat.le_refl _) (fun i h1 h2 => by
        rw [List.getElem_map]
        exact (hlq i h1).2 (by simpa using h2))
      rw [hx]
      simp only [Rows.uptoBulk]
      omega
    · obtain rfl : len = 0 := by omega
      exact ⟨_, _, _, [], rfl, ⟨rfl, hl, hm, fun h => absurd h hn⟩, bulk_one _⟩
set_option maxRecDepth 100000 in
/-- a slice of fields that comes in -/
theorem open_flds {v : Value} {d : DataW H} {ps : List MemPlace} {base : Nat} {ds : List (DataW H)}
    (hv : Value.okWide Tryd.prog W .any base 43 v) (h : DataW.Trod enc Tryd.prog W 0 (fun _ => true) true 43 v d ps) (hk : Rows.uptoSmall H ds = true) (hd : d ∈ ds) :
    ∃ (a : Option Addr) (n c : Nat) (l : List Fd), v = .slice a n c ∧ SlS W a n c l ∧ fdz l ≤ 1048576 := by
  obtain ⟨a, n, c, rfl⟩ := okWide_slice Tryd.underlying43 hv
  obtain ⟨fuel, hf⟩ := h
  have hf' : DataW.trod enc Tryd.prog W 0 (fun _ => true) true fuel 43 [.slice a n c] = some (d, ps) := hf
  obtain ⟨a2, n2, c2, l, hv2, hs, hb⟩ := open_fldsW hf'
  simp only [Value.slice.injEq] at hv2
  obtain ⟨rfl, rfl, rfl⟩ := hv2
  have h1 := bulk_bound hk
  have h2 := bulk_part hd
  exact ⟨_, _, _, l, rfl, hs, by simp only at hb; omega⟩
end
end Go.Proofs.YtaeanhpdlkgghaaDoor

/- How a frame that comes in as an argument is opened. -/
import Derived.Test.YtppkilkfmclpkaaOpenRows
import Derived.Test.YtppkilkfmclpkaaFrCopied
namespace Go.Proofs.Ytppkilkfmclpkaa
open Go.RowKit Go.ChangeShapes Go.WideShapes

section
variable {H : Type} {enc : TypeId × Value → H} {P : Program} {W : World}
/-- bytes within a cell, with what they weigh -/
theorem open_bytesW {t e : TypeId} {v : Value} {x : DataW H × List MemPlace} {m : Nat} (ht : P.underlying t = some (.slice e)) (he : P.underlying e = some (.int .u8)) (hc : P.cellsOf e = 1)
    (hf : DataW.trod enc P W 0 (fun _ => true) true m t [v] = some x) : ∃ (a : Option Addr) (n c : Nat) (l : List UInt8), v = .slice a n c ∧ Sl W a n c (bv l) ∧ (n = 0 ∨ ∃ elems spare, x.1 = .slice elems spare ∧ elems.length = n) := by
  rcases open_ints ht he hc hf with ⟨hcs, hx⟩ | ⟨a, len, cap, zs, hcs, _, hl, hm, hz, hx, hcell, hwz⟩
  · simp only [List.cons.injEq, and_true] at hcs
    subst hcs
    exact ⟨none, 0, 0, [], rfl, Sl.empty W, .inl rfl⟩
  · simp only [List.cons.injEq, and_true] at hcs
    subst hcs
    have hz' : zs.length = cap := by simpa using hz
    have hs := sl_of_ints hl hm hz' hcell
    refine ⟨some a, len, cap, (zs.take len).map (fun z => UInt8.ofNat z.toNat), rfl, ?_, .inr ?_⟩
    · have e : bv ((zs.take len).map (fun z => UInt8.ofNat z.toNat)) = iv .u8 (zs.take len) := by
        simp only [bv, iv, List.map_map]
        refine List.map_congr_left fun z hz => ?_
        have hb := bounds_u8 (hwz z (List.mem_of_mem_take hz))
        simp
        omega
      rw [e]
      exact hs
    · rw [hx]
      exact ⟨_, _, rfl, by simp [lits]; omega⟩
end
theorem list_of {α : Type} : ∀ (n : Nat) (Q : Nat → α → Prop), (∀ i, i < n → ∃ p, Q i p) → ∃ l : List α, l.length = n ∧ ∀ i (h : i < l.length), Q i l[i]
  | 0, _, _ => ⟨[], rfl, fun i h => absurd h (Nat.not_lt_zero _)⟩
  | n + 1, Q, h => by
    obtain ⟨l, h1, h2⟩ := list_of n Q (fun i hi => h i (by omega))
    obtain ⟨p, hp⟩ := h n (by omega)
    refine ⟨l ++ [p], by simp [h1], fun i hi => ?_⟩
    by_cases hin : i < l.length
    · rw [List.getElem_append_left hin]; exact h2 i hin
    · have e : i = l.length := by simp at hi; omega
      subst e
      simp only [List.getElem_append_right (Nat.le_refl _), Nat.sub_self, List.getElem_cons_zero]
      rw [h1]; exact hp
section
variable {H : Type} {enc : TypeId × Value → H} {W : World}
set_option maxRecDepth 100000 in
/-- spans within a cell, with what they weigh -/
theorem open_spansW {v : Value} {x : DataW H × List MemPlace} {m0 : Nat} (hf : DataW.trod enc Try.prog W 0 (fun _ => true) true m0 23 [v] = some x) :
    ∃ (a : Option Addr) (n c : Nat) (l : List Sn), v = .slice a n c ∧ SlS W a n c l ∧ (n = 0 ∨ ∃ elems spare, x.1 = .slice elems spare ∧ elems.length = n) := by
  rcases DataW.trod_slice Try.underlying23 hf with ⟨h0, hx⟩ | ⟨x', len, cap, elems, rest, m, _, hcs, hx, _, hl, hm, hlen, hel, _⟩
  · simp only [List.cons.injEq, and_true] at h0
    exact ⟨none, 0, 0, [], h0, ⟨rfl, Nat.le_refl _, Nat.zero_le _, fun h => absurd h (Nat.lt_irrefl _)⟩, .inl rfl⟩
  · simp only [List.cons.injEq, and_true] at hcs
    subst hcs
    have hC : Try.prog.cellsOf 53 = 2 := by kernel_rfl
    have hw : len = 0 ∨ ∃ el sp, x.1 = .slice el sp ∧ el.length = len := .inr ⟨_, _, by rw [hx], by simpa using hlen⟩
    by_cases hn : 0 < len
    · obtain ⟨b, off, spot⟩ := x'
      have each : ∀ i, i < len → ∃ (p : Sn), W.cell? ((⟨b, off, spot⟩ : Addr).add (i * 2)) = some (.int .i64 p.from_) ∧ W.cell? (((⟨b, off, spot⟩ : Addr).add (i * 2)).add 1) = some (.int .i64 p.to_) := by
        intro i hi
        have h1 := hel i hi
        have hy : elems[i]? = some (elems[i]'(by omega)) := List.getElem?_eq_getElem (by omega)
        rw [hy, Option.bind_eq_some_iff] at h1
        obtain ⟨cs', hc', hy'⟩ := h1
        obtain ⟨_, hl', hcell⟩ := World.cells?_some hc'
        rw [hC] at hl' hcell
        obtain ⟨u0, u1, rfl⟩ : ∃ u0 u1, cs' = [u0, u1] := by
          match cs', hl' with
          | [u0, u1], _ => exact ⟨u0, u1, rfl⟩
        obtain ⟨xs, k, _, _, _, _, hfl⟩ := DataW.trod_struct Try.underlying53 hy'
        have g0 : DataW.trod enc Try.prog W 0 (fun _ => true) true k 3 [u0] = xs[0]? := hfl 0 _ rfl
        have g1 : DataW.trod enc Try.prog W 0 (fun _ => true) true k 3 [u1] = xs[1]? := hfl 1 _ rfl
        have hx2 : xs.length = 2 := by assumption
        obtain ⟨y0, y1, rfl⟩ : ∃ y0 y1, xs = [y0, y1] := by
          match xs, hx2 with
          | [y0, y1], _ => exact ⟨y0, y1, rfl⟩
        obtain ⟨f, e0, _, _⟩ := DataW.trod_int Try.underlying3 (show _ = some y0 from g0)
        obtain ⟨t, e1, _, _⟩ := DataW.trod_int Try.underlying3 (show _ = some y1 from g1)
        simp only [List.cons.injEq, and_true] at e0 e1
        subst e0; subst e1
        have c0 := hcell 0 (by decide)
        have c1 := hcell 1 (by decide)
        refine ⟨⟨f, t⟩, ?_, by simpa using c1⟩
        simpa [Addr.add] using c0
      have hspot : spot = none := by
        obtain ⟨p, h0, _⟩ := each 0 hn
        simpa [Addr.add] using World.cell?_spot h0
      subst hspot
      obtain ⟨l, hll, hlq⟩ := list_of len (fun i (p : Sn) => W.cell? ⟨b, off + i * 2, none⟩ = some (.int .i64 p.from_) ∧ W.cell? ⟨b, off + i * 2 + 1, none⟩ = some (.int .i64 p.to_)) (fun i hi => by
        obtain ⟨p, h1, h2⟩ := each i hi
        rw [addr_add'] at h1
        rw [addr_add', addr_add'] at h2
        exact ⟨p, h1, h2⟩)
      exact ⟨_, _, _, l, rfl, ⟨hll, hl, hm, fun _ => ⟨b, off, rfl, hlq⟩⟩, hw⟩
    · obtain rfl : len = 0 := by omega
      exact ⟨_, _, _, [], rfl, ⟨rfl, hl, hm, fun h => absurd h hn⟩, hw⟩
/-- a frame's numbers are Go's -/
structure FI (f : Fm) : Prop where
  kind : -9223372036854775808 ≤ f.kind ∧ f.kind ≤ 9223372036854775807
  id : -9223372036854775808 ≤ f.id ∧ f.id ≤ 9223372036854775807
  at_ : -9223372036854775808 ≤ f.at_ ∧ f.at_ ≤ 9223372036854775807
  n : -9223372036854775808 ≤ f.n ∧ f.n ≤ 9223372036854775807
  code : -9223372036854775808 ≤ f.code ∧ f.code ≤ 9223372036854775807
  delay : -9223372036854775808 ≤ f.delay ∧ f.delay ≤ 9223372036854775807
set_option maxRecDepth 100000 in
/-- a frame's cells -/
theorem open_fr {cs : List Value} {x : DataW H × List MemPlace} {m : Nat} (h : DataW.trod enc Try.prog W 0 (fun _ => true) true m 26 cs = some x) :
    ∃ (f : Fm) (fa : FA) (xs : List (DataW H)) (d ci sp : DataW H), cs = fcells f fa ∧ FIn W f fa ∧ FI f ∧ x.1 = .agg xs ∧ xs[6]? = some d ∧ xs[7]? = some ci ∧ xs[8]? = some sp ∧
      (f.data.length = 0 ∨ ∃ elems spare, d = .slice elems spare ∧ elems.length = f.data.length) ∧ (f.cid.length = 0 ∨ ∃ elems spare, ci = .slice elems spare ∧ elems.length = f.cid.length) ∧ (f.spans.length = 0 ∨ ∃ elems spare, sp = .slice elems spare ∧ elems.length = f.spans.length) := by
  obtain ⟨xs, k, _, he, hcl, hxl, hfl⟩ := DataW.trod_struct Try.underlying26 h
  have h13 : Try.prog.cellsOf 26 = 13 := by kernel_rfl
  rw [h13] at hcl
  obtain ⟨v0, v1, v2, v3, v4, v5, v6, v7, v8, v9, v10, v11, v12, rfl⟩ : ∃ v0 v1 v2 v3 v4 v5 v6 v7 v8 v9 v10 v11 v12, cs = [v0, v1, v2, v3, v4, v5, v6, v7, v8, v9, v10, v11, v12] := by
    match cs, hcl with
    | [v0, v1, v2, v3, v4, v5, v6, v7, v8, v9, v10, v11, v12], _ => exact ⟨v0, v1, v2, v3, v4, v5, v6, v7, v8, v9, v10, v11, v12, rfl⟩
  have hx11 : xs.length = 11 := hxl
  have g0 : DataW.trod enc Try.prog W 0 (fun _ => true) true k 3 [v0] = xs[0]? := hfl 0 _ rfl
  have g1 : DataW.trod enc Try.prog W 0 (fun _ => true) true k 3 [v1] = xs[1]? := hfl 1 _ rfl
  have g2 : DataW.trod enc Try.prog W 0 (fun _ => true) true k 3 [v2] = xs[2]? := hfl 2 _ rfl
  have g3 : DataW.trod enc Try.prog W 0 (fun _ => true) true k 3 [v3] = xs[3]? := hfl 3 _ rfl
  have g4 : DataW.trod enc Try.prog W 0 (fun _ => true) true k 3 [v4] = xs[4]? := hfl 4 _ rfl
  have g5 : DataW.trod enc Try.prog W 0 (fun _ => true) true k 4 [v5] = xs[5]? := hfl 5 _ rfl
  have g6 : DataW.trod enc Try.prog W 0 (fun _ => true) true k 22 [v6] = xs[6]? := hfl 6 _ rfl
  have g7 : DataW.trod enc Try.prog W 0 (fun _ => true) true k 22 [v7] = xs[7]? := hfl 7 _ rfl
  have g8 : DataW.trod enc Try.prog W 0 (fun _ => true) true k 23 [v8] = xs[8]? := hfl 8 _ rfl
  have g9 : DataW.trod enc Try.prog W 0 (fun _ => true) true k 3 [v9] = xs[9]? := hfl 9 _ rfl
  have g10 : DataW.trod enc Try.prog W 0 (fun _ => true) true k 24 [v10, v11, v12] = xs[10]? := hfl 10 _ rfl
  obtain ⟨x0, x1, x2, x3, x4, x5, x6, x7, x8, x9, x10, rfl⟩ : ∃ x0 x1 x2 x3 x4 x5 x6 x7 x8 x9 x10, xs = [x0, x1, x2, x3, x4, x5, x6, x7, x8, x9, x10] := by
    match xs, hx11 with
    | [x0, x1, x2, x3, x4, x5, x6, x7, x8, x9, x10], _ => exact ⟨x0, x1, x2, x3, x4, x5, x6, x7, x8, x9, x10, rfl⟩
  obtain ⟨i0, e0, _, w0⟩ := DataW.trod_int Try.underlying3 (show _ = some x0 from g0)
  obtain ⟨i1, e1, _, w1⟩ := DataW.trod_int Try.underlying3 (show _ = some x1 from g1)
  obtain ⟨i2, e2, _, w2⟩ := DataW.trod_int Try.underlying3 (show _ = some x2 from g2)
  obtain ⟨i3, e3, _, w3⟩ := DataW.trod_int Try.underlying3 (show _ = some x3 from g3)
  obtain ⟨i4, e4, _, w4⟩ := DataW.trod_int Try.underlying3 (show _ = some x4 from g4)
  obtain ⟨b5, e5, _⟩ := DataW.trod_bool Try.underlying4 (show _ = some x5 from g5)
  obtain ⟨a6, n6, c6, l6, rfl, s6, z6⟩ := open_bytesW Try.underlying22 Try.underlying5 (by kernel_rfl) (show _ = some x6 from g6)
  obtain ⟨a7, n7, c7, l7, rfl, s7, z7⟩ := open_bytesW Try.underlying22 Try.underlying5 (by kernel_rfl) (show _ = some x7 from g7)
  obtain ⟨a8, n8, c8, l8, rfl, s8, z8⟩ := open_spansW (show _ = some x8 from g8)
  obtain ⟨i9, e9, _, w9⟩ := DataW.trod_int Try.underlying3 (show _ = some x9 from g9)
  obtain ⟨ys, k2, _, _, _, hy3, hya⟩ := DataW.trod_array Try.underlying24 (show _ = some x10 from g10)
  have hC : Try.prog.cellsOf 3 = 1 := by kernel_rfl
  rw [hC] at hya
  have p0 : DataW.trod enc Try.prog W 0 (fun _ => true) true k2 3 [v10] = ys[0]? := hya 0 (by decide)
  have p1 : DataW.trod enc Try.prog W 0 (fun _ => true) true k2 3 [v11] = ys[1]? := hya 1 (by decide)
  have p2 : DataW.trod enc Try.prog W 0 (fun _ => true) true k2 3 [v12] = ys[2]? := hya 2 (by decide)
  obtain ⟨y0, y1, y2, rfl⟩ : ∃ y0 y1 y2, ys = [y0, y1, y2] := by
    match ys, hy3 with
    | [y0, y1, y2], _ => exact ⟨y0, y1, y2, rfl⟩
  obtain ⟨j0, d0, _, _⟩ := DataW.trod_int Try.underlying3 (show _ = some y0 from p0)
  obtain ⟨j1, d1, _, _⟩ := DataW.trod_int Try.underlying3 (show _ = some y1 from p1)
  obtain ⟨j2, d2, _, _⟩ := DataW.trod_int Try.underlying3 (show _ = some y2 from p2)
  simp only [List.cons.injEq, and_true] at e0 e1 e2 e3 e4 e5 e9 d0 d1 d2
  subst e0; subst e1; subst e2; subst e3; subst e4; subst e5; subst e9; subst d0; subst d1; subst d2
  have q6 := s6.byte
  have q7 := s7.byte
  have q8 := s8.len
  subst q6; subst q7; subst q8
  exact ⟨⟨i0, i1, i2, i3, i4, b5, l6, l7, l8, i9, j0, j1, j2⟩, ⟨a6, c6, a7, c7, a8, c8⟩, _, x6.1, x7.1, x8.1, rfl, ⟨s6, s7, s8⟩, ⟨bounds_i64 w0, bounds_i64 w1, bounds_i64 w2, bounds_i64 w3, bounds_i64 w4, bounds_i64 w9⟩, congrArg Prod.fst he, rfl, rfl, rfl, z6, z7, z8⟩
set_option maxRecDepth 100000 in
/-- a frame that comes in, with its sizes -/
theorem open_frame {v : Value} {d : DataW H} {ps : List MemPlace} {base j : Nat} {ts : List TypeId} {ds : List (DataW H)}
    (hv : Value.okWide Try.prog W .any base 26 v) (h : DataW.Trod enc Try.prog W 0 (fun _ => true) true 26 v d ps) (hsz : (DataW.weightsEach Try.prog ts ds).all (· ≤ reachBytes) = true) (ht : ts[j]? = some 26) (hd : ds[j]? = some d) :
    ∃ (f : Fm) (fa : FA), v = .agg (fcells f fa).toArray ∧ FIn W f fa ∧ FI f ∧ FSz f := by
  simp only [Value.okWide, Try.underlying26] at hv
  obtain ⟨cs, rfl, hsize, _⟩ := hv
  obtain ⟨fuel, hf⟩ := h
  obtain ⟨f, fa, xs, d6, d7, d8, hcs, hin, hfi, hx, h6, h7, h8, z6, z7, z8⟩ := open_fr hf
  have hcs' : cs.toList = fcells f fa := hcs
  refine ⟨f, fa, by rw [← hcs'], hin, hfi, ?_⟩
  have hx' : d = .agg xs := hx
  subst hx'
  have hw : ∀ n ∈ DataW.weights Try.prog 26 (.agg xs), n ≤ reachBytes := fun n hn => by
    have := List.all_eq_true.1 hsz n (DataW.weights_mem_each ht hd n hn)
    simpa using this
  have hw2 : (DataW.weightsEach Try.prog [3, 3, 3, 3, 3, 4, 22, 22, 23, 3, 24] xs).all (· ≤ reachBytes) = true := by
    refine List.all_eq_true.2 fun n hn => ?_
    simp only [decide_eq_true_eq]
    refine hw n ?_
    simp only [DataW.weights, Try.underlying26]
    exact hn
  refine ⟨?_, ?_, ?_⟩
  · have := reach_slice hw2 (j := 6) rfl h6 Try.underlying22 (b := 1) (by kernel_rfl) z6
    omega
  · have := reach_slice hw2 (j := 7) rfl h7 Try.underlying22 (b := 1) (by kernel_rfl) z7
    omega
  · exact reach_slice hw2 (j := 8) rfl h8 Try.underlying23 (b := 16) (by kernel_rfl) z8
end
end Go.Proofs.Ytppkilkfmclpkaa

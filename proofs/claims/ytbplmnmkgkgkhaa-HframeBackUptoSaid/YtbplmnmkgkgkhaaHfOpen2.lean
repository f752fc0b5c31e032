/- How a message that comes in as an argument is opened. -/
import Derived.Test.YtbplmnmkgkgkhaaOpenRows
import Derived.Test.YtbplmnmkgkgkhaaJoin
namespace Go.Proofs.Ytbplmnmkgkgkhaa
open Go.RowKit Go.ChangeShapes Go.WideShapes

section
variable {H : Type} {enc : TypeId × Value → H} {P : Program} {W : World}
/-- bytes within a cell -/
theorem open_bytes1 {t e : TypeId} {v : Value} {x : DataW H × List MemPlace} {m : Nat} (ht : P.underlying t = some (.slice e)) (he : P.underlying e = some (.int .u8)) (hc : P.cellsOf e = 1)
    (hf : DataW.trod enc P W 0 (fun _ => true) true m t [v] = some x) : ∃ p : Piece, v = p.val ∧ Sl W p.a p.n p.c (bv p.l) ∧ p.n + 1 ≤ Rows.uptoBulk x.1 := by
  rcases open_ints ht he hc hf with ⟨hcs, hx⟩ | ⟨a, len, cap, zs, hcs, _, hl, hm, hz, hx, hcell, hwz⟩
  · simp only [List.cons.injEq, and_true] at hcs
    subst hcs
    exact ⟨⟨none, 0, 0, []⟩, rfl, Sl.empty W, bulk_one _⟩
  · simp only [List.cons.injEq, and_true] at hcs
    subst hcs
    have hz' : zs.length = cap := by simpa using hz
    have hs := sl_of_ints hl hm hz' hcell
    refine ⟨⟨some a, len, cap, (zs.take len).map (fun z => UInt8.ofNat z.toNat)⟩, rfl, ?_, ?_⟩
    · have e : bv ((zs.take len).map (fun z => UInt8.ofNat z.toNat)) = iv .u8 (zs.take len) := by
        simp only [bv, iv, List.map_map]
        refine List.map_congr_left fun z hz => ?_
        have hb := bounds_u8 (hwz z (List.mem_of_mem_take hz))
        simp
        omega
      rw [e]
      exact hs
    · rw [hx]
      have h1 := bulk_length (lits (H := H) .u8 (zs.take len))
      have h2 : (lits (H := H) .u8 (zs.take len)).length = len := by simp [lits]; omega
      show len + 1 ≤ _
      simp only [Rows.uptoBulk]
      omega
/-- pieces, one cell behind the other -/
theorem open_pieces {t e : TypeId} {b m : Nat} (ht : P.underlying t = some (.slice e)) (he : P.underlying e = some (.int .u8)) (hc : P.cellsOf e = 1) :
    ∀ (els : List (DataW H × List MemPlace)) (off : Nat), (∀ i y, els[i]? = some y → ∃ v, W.cell? ⟨b, off + i, none⟩ = some v ∧ DataW.trod enc P W 0 (fun _ => true) true m t [v] = some y) →
    ∃ ps : List Piece, ps.length = els.length ∧ (∀ i, i < ps.length → W.cell? ⟨b, off + i, none⟩ = (ps.map Piece.val)[i]?) ∧ (∀ p ∈ ps, Sl W p.a p.n p.c (bv p.l)) ∧ (ps.map Piece.n).sum + ps.length ≤ Rows.uptoBulkAll (els.map (·.1)) := by
  intro els
  induction els with
  | nil => intro off _; exact ⟨[], rfl, fun i h => absurd h (Nat.not_lt_zero _), fun p h => absurd h List.not_mem_nil, Nat.zero_le _⟩
  | cons x els ih =>
    intro off h
    obtain ⟨v, hv, hf⟩ := h 0 x rfl
    obtain ⟨p, rfl, hs, hb⟩ := open_bytes1 ht he hc hf
    obtain ⟨ps, h1, h2, h3, h4⟩ := ih (off + 1) (fun i y hy => by
      have := h (i + 1) y (by simpa using hy)
      rwa [show off + (i + 1) = off + 1 + i by omega] at this)
    refine ⟨p :: ps, by simp [h1], fun i hi => ?_, fun q hq => ?_, ?_⟩
    · cases i with
      | zero => exact hv
      | succ i =>
        have := h2 i (by simpa using hi)
        rw [show off + (i + 1) = off + 1 + i by omega, this]
        simp
    · rcases List.mem_cons.1 hq with rfl | hq
      · exact hs
      · exact h3 q hq
    · simp only [List.map_cons, List.sum_cons, Rows.uptoBulkAll, List.length_cons]
      omega
end

/-- a message in memory -/
structure MsgAt (W : World) (head : Piece) (ba : Option Addr) (bn bc : Nat) (ps : List Piece) (tr : Piece) (odd : Int) (junk : Piece) : Prop where
  shead : Sl W head.a head.n head.c (bv head.l)
  sbody : Sl W ba bn bc (ps.map Piece.val)
  each : ∀ p ∈ ps, Sl W p.a p.n p.c (bv p.l)
  str : Sl W tr.a tr.n tr.c (bv tr.l)
  odd1 : -9223372036854775808 ≤ odd
  odd2 : odd ≤ 9223372036854775807
  sjunk : Sl W junk.a junk.n junk.c (bv junk.l)
  size : head.n + bn + (ps.map Piece.n).sum + tr.n + junk.n ≤ 1048576
theorem open_msg {H : Type} {enc : TypeId × Value → H} {W : World} {v : Value} {d : DataW H} {pls : List MemPlace} {base : Nat} {ds : List (DataW H)}
    (hv : Value.okWide Try.prog W .any base 36 v) (h : DataW.Trod enc Try.prog W 0 (fun _ => true) true 36 v d pls) (hk : Rows.uptoSmall H ds = true) (hd : d ∈ ds) :
    ∃ (head : Piece) (ba : Option Addr) (bn bc : Nat) (ps : List Piece) (tr : Piece) (has : Bool) (odd : Int) (junk : Piece), v = .agg #[head.val, .slice ba bn bc, tr.val, .bool has, .int .i64 odd, junk.val] ∧ MsgAt W head ba bn bc ps tr odd junk := by
  simp only [Value.okWide, Try.underlying36] at hv
  obtain ⟨cs, rfl, hsz, _⟩ := hv
  have h6 : Try.prog.cellsOf 36 = 6 := by kernel_rfl
  rw [h6] at hsz
  obtain ⟨v0, v1, v2, v3, v4, v5, rfl⟩ : ∃ v0 v1 v2 v3 v4 v5, cs = #[v0, v1, v2, v3, v4, v5] := by
    rcases cs with ⟨l⟩
    match l, hsz with
    | [v0, v1, v2, v3, v4, v5], _ => exact ⟨v0, v1, v2, v3, v4, v5, rfl⟩
  obtain ⟨fuel, hf⟩ := h
  obtain ⟨xs, k, _, he, _, hxl, hfl⟩ := DataW.trod_struct Try.underlying36 hf
  have hde : d = .agg (xs.map (·.1)) := congrArg Prod.fst he
  have g0 : DataW.trod enc Try.prog W 0 (fun _ => true) true k 22 [v0] = xs[0]? := hfl 0 _ rfl
  have g1 : DataW.trod enc Try.prog W 0 (fun _ => true) true k 34 [v1] = xs[1]? := hfl 1 _ rfl
  have g2 : DataW.trod enc Try.prog W 0 (fun _ => true) true k 22 [v2] = xs[2]? := hfl 2 _ rfl
  have g3 : DataW.trod enc Try.prog W 0 (fun _ => true) true k 4 [v3] = xs[3]? := hfl 3 _ rfl
  have g4 : DataW.trod enc Try.prog W 0 (fun _ => true) true k 3 [v4] = xs[4]? := hfl 4 _ rfl
  have g5 : DataW.trod enc Try.prog W 0 (fun _ => true) true k 22 [v5] = xs[5]? := hfl 5 _ rfl
  have l6 : xs.length = 6 := hxl
  obtain ⟨x0, x1, x2, x3, x4, x5, rfl⟩ : ∃ x0 x1 x2 x3 x4 x5, xs = [x0, x1, x2, x3, x4, x5] := by
    match xs, l6 with
    | [x0, x1, x2, x3, x4, x5], _ => exact ⟨x0, x1, x2, x3, x4, x5, rfl⟩
  have g0 : DataW.trod enc Try.prog W 0 (fun _ => true) true k 22 [v0] = some x0 := g0
  have g1 : DataW.trod enc Try.prog W 0 (fun _ => true) true k 34 [v1] = some x1 := g1
  have g2 : DataW.trod enc Try.prog W 0 (fun _ => true) true k 22 [v2] = some x2 := g2
  have g3 : DataW.trod enc Try.prog W 0 (fun _ => true) true k 4 [v3] = some x3 := g3
  have g4 : DataW.trod enc Try.prog W 0 (fun _ => true) true k 3 [v4] = some x4 := g4
  have g5 : DataW.trod enc Try.prog W 0 (fun _ => true) true k 22 [v5] = some x5 := g5
  obtain ⟨hd0, rfl, s0, b0⟩ := open_bytes1 Try.underlying22 Try.underlying5 (by kernel_rfl) g0
  obtain ⟨tr, rfl, s2, b2⟩ := open_bytes1 Try.underlying22 Try.underlying5 (by kernel_rfl) g2
  obtain ⟨jk, rfl, s5, b5⟩ := open_bytes1 Try.underlying22 Try.underlying5 (by kernel_rfl) g5
  obtain ⟨has, e3, _⟩ := DataW.trod_bool Try.underlying4 g3
  obtain ⟨odd, e4, _, w4⟩ := DataW.trod_int Try.underlying3 g4
  simp only [List.cons.injEq, and_true] at e3 e4
  subst e3; subst e4
  have w4' := bounds_i64 w4
  have hbk := bulk_bound hk
  have hdb := bulk_part hd
  rw [hde] at hdb
  have hsum : Rows.uptoBulk x0.1 + (Rows.uptoBulk x1.1 + (Rows.uptoBulk x2.1 + (Rows.uptoBulk x3.1 + (Rows.uptoBulk x4.1 + (Rows.uptoBulk x5.1))))) ≤ 1048576 := by
    simp only [Rows.uptoBulk, List.map_cons, List.map_nil, Rows.uptoBulkAll] at hdb
    omega
  have hbody : ∃ (ba : Option Addr) (bn bc : Nat) (ps : List Piece), v1 = .slice ba bn bc ∧ Sl W ba bn bc (ps.map Piece.val) ∧ (∀ p ∈ ps, Sl W p.a p.n p.c (bv p.l)) ∧ bn + (ps.map Piece.n).sum ≤ Rows.uptoBulk x1.1 + Rows.uptoBulk x3.1 + Rows.uptoBulk x4.1 := by
    rcases DataW.trod_slice Try.underlying34 g1 with ⟨h0, hx⟩ | ⟨x, len, cap, elems, rest, m, _, hcs, hx, _, hl, hm, hlen, hel, _⟩
    · simp only [List.cons.injEq, and_true] at h0
      exact ⟨none, 0, 0, [], h0, Sl.empty W, fun p h => absurd h List.not_mem_nil, Nat.zero_le _⟩
    · simp only [List.cons.injEq, and_true] at hcs
      by_cases hn : 0 < len
      · obtain ⟨b, off, spot⟩ := x
        have hC : Try.prog.cellsOf 22 = 1 := by kernel_rfl
        have each : ∀ i, i < len → ∃ y v, elems[i]? = some y ∧ W.cell? ((⟨b, off, spot⟩ : Addr).add i) = some v ∧ DataW.trod enc Try.prog W 0 (fun _ => true) true m 22 [v] = some y := by
          intro i hi
          have h1 := hel i hi
          have hy : elems[i]? = some (elems[i]'(by omega)) := List.getElem?_eq_getElem (by omega)
          rw [hy, Option.bind_eq_some_iff] at h1
          obtain ⟨cs', hc', hy'⟩ := h1
          obtain ⟨_, hl', hcell⟩ := World.cells?_some hc'
          rw [hC] at hl' hcell
          obtain ⟨v, rfl⟩ : ∃ v, cs' = [v] := by
            match cs', hl' with
            | [v], _ => exact ⟨v, rfl⟩
          have h0 := hcell 0 (by decide)
          refine ⟨_, v, hy, ?_, hy'⟩
          rw [Nat.mul_one] at h0
          simpa [Addr.add] using h0
        have hspot : spot = none := by
          obtain ⟨y, v, _, hc0, _⟩ := each 0 hn
          simpa [Addr.add] using World.cell?_spot hc0
        subst hspot
        obtain ⟨ps, p1, p2, p3, p4⟩ := open_pieces (W := W) (b := b) Try.underlying22 Try.underlying5 (by kernel_rfl) elems off (fun i y hy => by
          have hi : i < len := by have := (List.getElem?_eq_some_iff.1 hy).1; omega
          obtain ⟨y', v, hy', hc', ht'⟩ := each i hi
          rw [hy] at hy'
          cases hy'
          exact ⟨v, by rw [addr_add'] at hc'; exact hc', ht'⟩)
        refine ⟨_, _, _, ps, hcs, ⟨by simp; omega, hl, hm, by simp, fun _ => ⟨b, off, rfl, fun i hi => p2 i (by omega)⟩⟩, p3, ?_⟩
        rw [hx]
        simp only [Rows.uptoBulk]
        omega
      · obtain rfl : len = 0 := by omega
        exact ⟨_, _, _, [], hcs, ⟨rfl, hl, hm, by simp, fun h => absurd h hn⟩, fun p h => absurd h List.not_mem_nil, Nat.zero_le _⟩
  obtain ⟨ba, bn, bc, ps, rfl, q1, q2, q3⟩ := hbody
  exact ⟨hd0, ba, bn, bc, ps, tr, has, odd, jk, rfl, s0, q1, q2, s2, w4'.1, w4'.2, s5, by omega⟩
end Go.Proofs.Ytbplmnmkgkgkhaa

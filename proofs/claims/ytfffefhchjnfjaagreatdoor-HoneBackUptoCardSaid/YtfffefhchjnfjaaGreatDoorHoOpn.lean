/- How a struct of bytes, cuts and two bools that comes in is opened (HoneCuts). -/
import Derived.Test.YtfffefhchjnfjaaGreatDoorHoWake
import Derived.Test.YtfffefhchjnfjaaGreatDoorHoLaw1
namespace Go.Proofs.YtfffefhchjnfjaaGreatDoor
open Go.RowKit
section
open Go.ChangeShapes Go.WideShapes
variable {H : Type} {enc : TypeId × Value → H} {W : World}
/-- bytes within a cell, with what they weigh -/
theorem open_bytesW {v : Value} {x : DataW H × List MemPlace} {m : Nat} (hf : DataW.trod enc Tryz.prog W 0 (fun _ => true) true m 23 [v] = some x) : ∃ (a : Option Addr) (n c : Nat) (l : List UInt8), v = .slice a n c ∧ Sl W a n c (bv l) ∧ n + 1 ≤ Rows.uptoBulk x.1 := by
  rcases open_ints Tryz.underlying23 Tryz.underlying5 (by kernel_rfl) hf with ⟨hcs, hx⟩ | ⟨a, len, cap, zs, hcs, _, hl, hm, hz, hx, hcell, hwz⟩
  · simp only [List.cons.injEq, and_true] at hcs
    subst hcs
    exact ⟨none, 0, 0, [], rfl, Sl.empty W, bulk_one _⟩
  · simp only [List.cons.injEq, and_true] at hcs
    subst hcs
    have hz' : zs.length = cap := by simpa using hz
    have hs := sl_of_ints hl hm hz' hcell
    refine ⟨some a, len, cap, (zs.take len).map (fun z => UInt8.ofNat z.toNat), rfl, ?_, ?_⟩
    · have e : bv ((zs.take len).map (fun z => UInt8.ofNat z.toNat)) = iv .u8 (zs.take len) := by
        simp only [bv, iv, List.map_map]
        refine List.map_congr_left fun z hz => ?_
        have hb := bounds_u8 (hwz z (List.mem_of_mem_take hz))
        simp
        omega
      rw [e]
      exact hs
    · rw [hx]
      have h1 := bulk_length (lits (H := H) .u8 (zs.take len))
      have h2 : (lits (H := H) .u8 (zs.take len)).length = len := by simp [lits]; omega
      show len + 1 ≤ _
      simp only [Rows.uptoBulk]
      omega
/-- numbers within a cell -/
theorem open_cutsW {v : Value} {x : DataW H × List MemPlace} {m : Nat} (hf : DataW.trod enc Tryz.prog W 0 (fun _ => true) true m 24 [v] = some x) : ∃ (a : Option Addr) (n c : Nat) (zs : List Int), v = .slice a n c ∧ Sl W a n c (iv .i64 zs) := by
  rcases open_ints Tryz.underlying24 Tryz.underlying3 (by kernel_rfl) hf with ⟨hcs, hx⟩ | ⟨a, len, cap, zs, hcs, _, hl, hm, hz, hx, hcell, hwz⟩
  · simp only [List.cons.injEq, and_true] at hcs
    subst hcs
    exact ⟨none, 0, 0, [], rfl, Sl.empty W⟩
  · simp only [List.cons.injEq, and_true] at hcs
    subst hcs
    have hz' : zs.length = cap := by simpa using hz
    exact ⟨some a, len, cap, zs.take len, rfl, sl_of_ints hl hm hz' hcell⟩
theorem open_boolW {v : Value} {x : DataW H × List MemPlace} {m : Nat} (hf : DataW.trod enc Tryz.prog W 0 (fun _ => true) true m 4 [v] = some x) : ∃ b : Bool, v = .bool b := by
  unfold DataW.trod at hf
  cases m with
  | zero => cases hf
  | succ m =>
    simp only [Tryz.underlying4] at hf
    cases v <;> simp at hf
    exact ⟨_, rfl⟩
set_option maxRecDepth 100000 in
theorem open_cut {v : Value} {d : DataW H} {pls : List MemPlace} {base : Nat} {ds : List (DataW H)}
    (hv : Value.okWide Tryz.prog W .any base 40 v) (h : DataW.Trod enc Tryz.prog W 0 (fun _ => true) true 40 v d pls) (hk : Rows.uptoSmall H ds = true) (hd : d ∈ ds) :
    ∃ (hd : Bool) (ba : Option Addr) (bn bc : Nat) (b : List UInt8) (ca : Option Addr) (cn cc : Nat) (zs : List Int) (fin : Bool), v = .agg #[.bool hd, .slice ba bn bc, .slice ca cn cc, .bool fin] ∧ Sl W ba bn bc (bv b) ∧ bn ≤ 1048576 ∧ Sl W ca cn cc (iv .i64 zs) := by
  simp only [Value.okWide, Tryz.underlying40] at hv
  obtain ⟨cs, rfl, hsz, _⟩ := hv
  have h4 : Tryz.prog.cellsOf 40 = 4 := by kernel_rfl
  rw [h4] at hsz
  obtain ⟨v0, v1, v2, v3, rfl⟩ : ∃ v0 v1 v2 v3, cs = #[v0, v1, v2, v3] := by
    rcases cs with ⟨l⟩
    match l, hsz with
    | [v0, v1, v2, v3], _ => exact ⟨v0, v1, v2, v3, rfl⟩
  obtain ⟨fuel, hf⟩ := h
  obtain ⟨xs, k, _, he, _, hxl, hfl⟩ := DataW.trod_struct Tryz.underlying40 hf
  have hde : d = .agg (xs.map (·.1)) := congrArg Prod.fst he
  have g0 : DataW.trod enc Tryz.prog W 0 (fun _ => true) true k 4 [v0] = xs[0]? := hfl 0 _ rfl
  have g1 : DataW.trod enc Tryz.prog W 0 (fun _ => true) true k 23 [v1] = xs[1]? := hfl 1 _ rfl
  have g2 : DataW.trod enc Tryz.prog W 0 (fun _ => true) true k 24 [v2] = xs[2]? := hfl 2 _ rfl
  have g3 : DataW.trod enc Tryz.prog W 0 (fun _ => true) true k 4 [v3] = xs[3]? := hfl 3 _ rfl
  have l4 : xs.length = 4 := hxl
  obtain ⟨x0, x1, x2, x3, rfl⟩ : ∃ x0 x1 x2 x3, xs = [x0, x1, x2, x3] := by
    match xs, l4 with
    | [x0, x1, x2, x3], _ => exact ⟨x0, x1, x2, x3, rfl⟩
  have g0 : DataW.trod enc Tryz.prog W 0 (fun _ => true) true k 4 [v0] = some x0 := g0
  have g1 : DataW.trod enc Tryz.prog W 0 (fun _ => true) true k 23 [v1] = some x1 := g1
  have g2 : DataW.trod enc Tryz.prog W 0 (fun _ => true) true k 24 [v2] = some x2 := g2
  have g3 : DataW.trod enc Tryz.prog W 0 (fun _ => true) true k 4 [v3] = some x3 := g3
  obtain ⟨c0, rfl⟩ := open_boolW g0
  obtain ⟨ba, bn, bc, b, rfl, s1, b1⟩ := open_bytesW g1
  obtain ⟨ca, cn, cc, zs, rfl, s2⟩ := open_cutsW g2
  obtain ⟨c3, rfl⟩ := open_boolW g3
  have hbk := bulk_bound hk
  have hdb := bulk_part hd
  rw [hde] at hdb
  have hsum : Rows.uptoBulk x0.1 + (Rows.uptoBulk x1.1 + (Rows.uptoBulk x2.1 + Rows.uptoBulk x3.1)) ≤ 1048576 := by
    simp only [Rows.uptoBulk, List.map_cons, List.map_nil, Rows.uptoBulkAll] at hdb
    omega
  exact ⟨c0, ba, bn, bc, b, ca, cn, cc, zs, c3, rfl, s1, by omega, s2⟩
end
theorem cuts_run (w : World) (ht : Tab w) (hd fin : Bool) {ba : Option Addr} {bn bc : Nat} {b : List UInt8} (hb : Sl w ba bn bc (bv b)) (hbn : bn ≤ 1048576) {ca : Option Addr} {cn cc : Nat} {cuts : List Int} (hc : Sl w ca cn cc (iv .i64 cuts)) :
    Calls Tryz.prog 4 #[.agg #[.bool hd, .slice ba bn bc, .slice ca cn cc, .bool fin]] w (BoolOf w true) := cuts_any w ht hd hb hbn hc fin
end Go.Proofs.YtfffefhchjnfjaaGreatDoor

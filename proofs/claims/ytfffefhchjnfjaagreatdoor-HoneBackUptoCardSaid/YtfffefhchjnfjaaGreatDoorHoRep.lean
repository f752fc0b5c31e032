/- How a written response that comes in is opened (HoneBack, HoneEarly). -/
import Derived.Test.YtfffefhchjnfjaaGreatDoorHoOpn
import Derived.Test.YtfffefhchjnfjaaGreatDoorFldOpen
namespace Go.Proofs.YtfffefhchjnfjaaGreatDoor
open Go.RowKit
/-- a written response in memory -/
structure RepAt (W : World) (fa : Option Addr) (fn fc : Nat) (fs : List Fd) (ba : Option Addr) (bn bc : Nat) (b : List UInt8) (ca : Option Addr) (cn cc : Nat) (zs : List Int) (ta : Option Addr) (tn tc : Nat) (ts : List Fd) (ha : Option Addr) (hn hc : Nat) (h : List UInt8) : Prop where
  sf : SlS W fa fn fc fs
  sb : Sl W ba bn bc (bv b)
  sc : Sl W ca cn cc (iv .i64 zs)
  st : SlS W ta tn tc ts
  sh : Sl W ha hn hc (bv h)
  fz : fdz fs ≤ 1048576
  bz : bn ≤ 1048576
  tz : fdz ts ≤ 1048576
  hz : hn ≤ 1048576
section
open Go.ChangeShapes Go.WideShapes
variable {H : Type} {enc : TypeId × Value → H} {W : World}
theorem open_intW {v : Value} {x : DataW H × List MemPlace} {m : Nat} (hf : DataW.trod enc Tryz.prog W 0 (fun _ => true) true m 3 [v] = some x) : ∃ z : Int, v = .int .i64 z := by
  unfold DataW.trod at hf
  cases m with
  | zero => cases hf
  | succ m =>
    simp only [Tryz.underlying3] at hf
    cases v <;> simp at hf
    rename_i k n
    obtain ⟨⟨rfl, _⟩, _⟩ := hf
    exact ⟨n, rfl⟩
set_option maxRecDepth 100000 in
theorem open_reply {v : Value} {d : DataW H} {pls : List MemPlace} {base : Nat} {ds : List (DataW H)}
    (hv : Value.okWide Tryz.prog W .any base 26 v) (h : DataW.Trod enc Tryz.prog W 0 (fun _ => true) true 26 v d pls) (hk : Rows.uptoSmall H ds = true) (hd : d ∈ ds) :
    ∃ (st : Int) (fa : Option Addr) (fn fc : Nat) (fs : List Fd) (ba : Option Addr) (bn bc : Nat) (b : List UInt8) (fr : Int) (ca : Option Addr) (cn cc : Nat) (zs : List Int) (ta : Option Addr) (tn tc : Nat) (ts : List Fd) (ha : Option Addr) (hn hc : Nat) (h : List UInt8),
      v = .agg #[.int .i64 st, .slice fa fn fc, .slice ba bn bc, .int .i64 fr, .slice ca cn cc, .slice ta tn tc, .slice ha hn hc] ∧ RepAt W fa fn fc fs ba bn bc b ca cn cc zs ta tn tc ts ha hn hc h := by
  simp only [Value.okWide, Tryz.underlying26] at hv
  obtain ⟨cs, rfl, hsz, _⟩ := hv
  have h4 : Tryz.prog.cellsOf 26 = 7 := by kernel_rfl
  rw [h4] at hsz
  obtain ⟨v0, v1, v2, v3, v4, v5, v6, rfl⟩ : ∃ v0 v1 v2 v3 v4 v5 v6, cs = #[v0, v1, v2, v3, v4, v5, v6] := by
    rcases cs with ⟨l⟩
    match l, hsz with
    | [v0, v1, v2, v3, v4, v5, v6], _ => exact ⟨v0, v1, v2, v3, v4, v5, v6, rfl⟩
  obtain ⟨fuel, hf⟩ := h
  obtain ⟨xs, k, _, he, _, hxl, hfl⟩ := DataW.trod_struct Tryz.underlying26 hf
  have hde : d = .agg (xs.map (·.1)) := congrArg Prod.fst he
  have g0 : DataW.trod enc Tryz.prog W 0 (fun _ => true) true k 3 [v0] = xs[0]? := hfl 0 _ rfl
  have g1 : DataW.trod enc Tryz.prog W 0 (fun _ => true) true k 22 [v1] = xs[1]? := hfl 1 _ rfl
  have g2 : DataW.trod enc Tryz.prog W 0 (fun _ => true) true k 23 [v2] = xs[2]? := hfl 2 _ rfl
  have g3 : DataW.trod enc Tryz.prog W 0 (fun _ => true) true k 3 [v3] = xs[3]? := hfl 3 _ rfl
  have g4 : DataW.trod enc Tryz.prog W 0 (fun _ => true) true k 24 [v4] = xs[4]? := hfl 4 _ rfl
  have g5 : DataW.trod enc Tryz.prog W 0 (fun _ => true) true k 22 [v5] = xs[5]? := hfl 5 _ rfl
  have g6 : DataW.trod enc Tryz.prog W 0 (fun _ => true) true k 23 [v6] = xs[6]? := hfl 6 _ rfl
  have l4 : xs.length = 7 := hxl
  obtain ⟨x0, x1, x2, x3, x4, x5, x6, rfl⟩ : ∃ x0 x1 x2 x3 x4 x5 x6, xs = [x0, x1, x2, x3, x4, x5, x6] := by
    match xs, l4 with
    | [x0, x1, x2, x3, x4, x5, x6], _ => exact ⟨x0, x1, x2, x3, x4, x5, x6, rfl⟩
  have g0 : DataW.trod enc Tryz.prog W 0 (fun _ => true) true k 3 [v0] = some x0 := g0
  have g1 : DataW.trod enc Tryz.prog W 0 (fun _ => true) true k 22 [v1] = some x1 := g1
  have g2 : DataW.trod enc Tryz.prog W 0 (fun _ => true) true k 23 [v2] = some x2 := g2
  have g3 : DataW.trod enc Tryz.prog W 0 (fun _ => true) true k 3 [v3] = some x3 := g3
  have g4 : DataW.trod enc Tryz.prog W 0 (fun _ => true) true k 24 [v4] = some x4 := g4
  have g5 : DataW.trod enc Tryz.prog W 0 (fun _ => true) true k 22 [v5] = some x5 := g5
  have g6 : DataW.trod enc Tryz.prog W 0 (fun _ => true) true k 23 [v6] = some x6 := g6
  obtain ⟨st, rfl⟩ := open_intW g0
  obtain ⟨fa, fn, fc, fs, rfl, s1, b1⟩ := open_fldsW g1
  obtain ⟨ba, bn, bc, b, rfl, s2, b2⟩ := open_bytesW g2
  obtain ⟨fr, rfl⟩ := open_intW g3
  obtain ⟨ca, cn, cc, zs, rfl, s4⟩ := open_cutsW g4
  obtain ⟨ta, tn, tc, ts, rfl, s5, b5⟩ := open_fldsW g5
  obtain ⟨ha, hn, hc, h, rfl, s6, b6⟩ := open_bytesW g6
  have hbk := bulk_bound hk
  have hdb := bulk_part hd
  rw [hde] at hdb
  have hsum : Rows.uptoBulk x0.1 + (Rows.uptoBulk x1.1 + (Rows.uptoBulk x2.1 + (Rows.uptoBulk x3.1 + (Rows.uptoBulk x4.1 + (Rows.uptoBulk x5.1 + Rows.uptoBulk x6.1))))) ≤ 1048576 := by
    simp only [Rows.uptoBulk, List.map_cons, List.map_nil, Rows.uptoBulkAll] at hdb
    omega
  exact ⟨st, fa, fn, fc, fs, ba, bn, bc, b, fr, ca, cn, cc, zs, ta, tn, tc, ts, ha, hn, hc, h, rfl, s1, s2, s4, s5, s6, by omega, by omega, by omega, by omega⟩
end
end Go.Proofs.YtfffefhchjnfjaaGreatDoor

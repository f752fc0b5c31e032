/- turnpikeref18.Trailers; a request with its body, as an argument, is opened; NormFactors answers true. Premises: the tables, the sizes. -/
import Derived.Test.YtohinaohcndndaaDoorGramW
import Derived.Test.YtohinaohcndndaaDoorFldOpen
import Derived.Test.YtohinaohcndndaaDoorOpenRows
import Derived.Test.YtohinaohcndndaaDoorNmLaw5
import Derived.Test.YtohinaohcndndaaDoorNmRef
import Derived.Test.YtohinaohcndndaaDoorCopy
import Derived.Deep.CutBlock
namespace Go.Proofs.YtohinaohcndndaaDoor
open Go.RowKit

def TrZ (fs : List Fd) (i : Nat) : Prop := ∀ x ∈ (fs.map trailOne).take i, x = 0
theorem trz_on {fs : List Fd} {i : Nat} (h : TrZ fs i) (hi : i < fs.length) (hz : trailOne fs[i] = 0) : TrZ fs (i + 1) := by
  intro x hx
  have hl : i < (fs.map trailOne).length := by simpa using hi
  rw [List.take_succ_eq_append_getElem hl] at hx
  rcases List.mem_append.1 hx with hx | hx
  · exact h x hx
  · simp only [List.mem_singleton, List.getElem_map] at hx
    rw [hx, hz]
theorem trz_stop {fs : List Fd} {i : Nat} (h : TrZ fs i) (hi : i < fs.length) (hz : trailOne fs[i] ≠ 0) : firstNZ (fs.map trailOne) = trailOne fs[i] := by
  have hl : i < (fs.map trailOne).length := by simpa using hi
  have := first_nz hl h (by simpa using hz)
  rw [this]; simp
theorem trz_end {fs : List Fd} {i : Nat} (h : TrZ fs i) (hi : fs.length ≤ i) : firstNZ (fs.map trailOne) = 0 := by
  refine first_z fun x hx => h x ?_
  rwa [List.take_of_length_le (by simpa using hi)]
set_option maxRecDepth 100000 in
set_option maxHeartbeats 4000000 in
theorem trail_any (w : World) {a : Option Addr} {n c : Nat} {fs : List Fd} (h : SlS w a n c fs) (hz : fdz fs ≤ 1048576) (cnt sz : Int) : Calls Tryd.prog 25 #[.slice a n c, .int .i64 cnt, .int .i64 sz] w (IntOf w (trailF fs cnt sz)) := by
  have HMu := Lib.hid (much_any w h hz cnt sz)
  have HS := Lib.hid h
  have HZ := Lib.hid hz
  have HL := Lib.hid h.len
  have HN : Hid (n ≤ 1048576) := Lib.hid (by rw [← h.len]; exact Nat.le_trans (fdz_len fs) hz)
  obtain ⟨R, hR⟩ : ∃ R, R = trailF fs cnt sz := ⟨_, rfl⟩
  rw [← hR]
  have HR := Lib.hid hR
  clear h hz hR
  by_cases hm : muchL fs cnt sz = true
  · rw [hm] at HMu
    obtain rfl : R = 185 := by rw [HR.out, trailF, if_pos hm]
    clear hm
    go_enter Tryd.func25, Tryd.ntmps25
    go_wp2_with fail
    refine HMu.out.mono ?_
    rintro e w2 ⟨rfl, hb2⟩
    have HB2 := Lib.hid hb2
    clear hb2
    go_wp2
    go_ret
    exact ⟨rfl, HB2.out⟩
  · have HR2 : Hid (R = firstNZ (fs.map trailOne)) := Lib.hid (by rw [HR.out, trailF, if_neg hm])
    rw [Bool.not_eq_true] at hm
    rw [hm] at HMu
    clear hm HR
    go_enter Tryd.func25, Tryd.ntmps25
    go_wp2_with fail
    refine HMu.out.mono ?_
    rintro e w2 ⟨rfl, hb2⟩
    have HB2 := Lib.hid hb2
    have HS2 := Lib.hid (HS.out.below hb2)
    clear hb2
    go_wp2_with fail
    go_loopw [7] (fun v wr => ∃ i : Nat, v = .int .i64 (i : Int) ∧ i ≤ n ∧ Hid (TrZ fs i) ∧ Below w2.heap.size w2 wr) (fun v _ => n - (intOf v).toNat)
    case atStart => exact ⟨0, rfl, Nat.zero_le _, Lib.hid (fun x hx => by simp at hx), Below.refl _ _⟩
    case round =>
      obtain ⟨i, rfl, hi, HTz, hbw⟩ := hrel
      have HBr := Lib.hid hbw
      have HSr := Lib.hid (HS2.out.below hbw)
      have HBw : Hid (Below w.heap.size w wr) := Lib.hid (HB2.out.trans (hbw.mono HB2.out.size))
      clear hbw
      by_cases hin : i < n
      · have HI := Lib.hid hin
        obtain ⟨z1, z2, z3⟩ := ssj1 hin (Nat.le_trans HN.out (by decide))
        have hil : i < fs.length := by rw [HL.out]; exact hin
        obtain ⟨bb, o, rfl, hc⟩ := HSr.out.cells (Nat.lt_of_le_of_lt (Nat.zero_le _) hin)
        obtain ⟨p0, p1⟩ := hc i hil
        have HOn := Lib.hid (trz_on HTz.out hil)
        have HSt := Lib.hid (trz_stop HTz.out hil)
        have hsz := fdz_at fs i hil
        obtain ⟨f, hf⟩ : ∃ f, f = fs[i] := ⟨_, rfl⟩
        rw [← hf] at p0 p1 HOn HSt hsz
        obtain ⟨nm, va⟩ := f
        simp only at p0 p1 hsz
        have hnl : (bl nm).length ≤ 1099511627776 := by rw [← bl_size]; have := HZ.out; omega
        have hvl : (bl va).length ≤ 1099511627776 := by rw [← bl_size]; have := HZ.out; omega
        have HPs := Lib.hid (fun w' => by have h := pseudo_any w' (bl nm); rw [strB_bl] at h; exact h)
        have HNm := Lib.hid (fun w' => by have h := name_any w' (bl nm) hnl; rw [strB_bl, show ((bl nm).all nameC && ((bl nm).all tokC && !(bl nm).isEmpty)) = nameL (bl nm) from rfl] at h; exact h)
        have HVl := Lib.hid (fun w' => by have h := value_any w' (bl va) hvl; rw [strB_bl, show ((bl va).all valC && valE (bl va)) = valueL (bl va) from rfl] at h; exact h)
        have HHp := Lib.hid (fun w' => hop_any w' nm va)
        clear hi hin hil hc hf hsz hnl hvl
        go_upto_region 7 with fail
        obtain ⟨w4, hw4⟩ : ∃ w4, w4 = wr.alloc (.cells #[.string nm, .string va] 64) := ⟨_, rfl⟩
        obtain ⟨g4, hg4⟩ : ∃ g4, g4 = wr.heap.size := ⟨_, rfl⟩
        have hh4 : Has w4 g4 64 [.string nm, .string va] := by rw [hw4, hg4]; exact Has.new wr 64 #[.string nm, .string va]
        have hb4 : Below wr.heap.size wr w4 := by rw [hw4]; exact (Below.refl _ wr).alloc (Nat.le_refl _) _
        have HB4 : Hid (Below w2.heap.size w2 w4) := Lib.hid (HBr.out.trans (hb4.mono HBr.out.size))
        have HB4w : Hid (Below w.heap.size w w4) := Lib.hid (HBw.out.trans (hb4.mono HBw.out.size))
        have HH4 := Lib.hid hh4
        have q0 : w4.cell? ⟨g4, 0, none⟩ = some (.string nm) := hh4.cell 0 rfl
        have q1 : w4.cell? ⟨g4, 1, none⟩ = some (.string va) := hh4.cell 1 rfl
        rw [← hw4, ← hg4]
        clear hw4 hg4 hh4 hb4 p0 p1
        have hpsA := HPs.out w4
        have hnmA := HNm.out w4
        have hvlA := HVl.out w4
        have hhpA := HHp.out w4
        by_cases k1 : psL (bl nm) = true
        · rw [k1] at hpsA
          have HA := Lib.hid hpsA
          obtain rfl : R = 182 := by rw [HR2.out, HSt.out (by simp [trailOne, k1])]; simp [trailOne, k1]
          clear k1 hpsA hnmA hvlA hhpA
          go_wp2_with fail
          refine HA.out.mono ?_
          rintro e w5 ⟨rfl, rfl⟩
          go_wp2
          go_ret
          exact ⟨rfl, HB4w.out⟩
        · rw [Bool.not_eq_true] at k1
          rw [k1] at hpsA
          have HA := Lib.hid hpsA
          by_cases k2 : nameL (bl nm) = true
          · rw [k2] at hnmA
            have HA2 := Lib.hid hnmA
            by_cases k3 : valueL (bl va) = true
            · rw [k3] at hvlA
              have HA3 := Lib.hid hvlA
              by_cases k4 : hopL (bl nm) (bl va) = true
              · rw [k4] at hhpA
                have HA4 := Lib.hid hhpA
                obtain rfl : R = 184 := by rw [HR2.out, HSt.out (by simp [trailOne, k1, k2, k3, k4])]; simp [trailOne, k1, k2, k3, k4]
                clear k1 k2 k3 k4 hpsA hnmA hvlA hhpA
                go_wp2_with fail
                refine HA.out.mono ?_
                rintro e w5 ⟨rfl, rfl⟩
                go_wp2_with fail
                refine HA2.out.mono ?_
                rintro e w6 ⟨rfl, rfl⟩
                go_wp2_with fail
                refine HA3.out.mono ?_
                rintro e w7 ⟨rfl, rfl⟩
                go_wp2_with fail
                refine HA4.out.mono ?_
                rintro e w8 ⟨rfl, hb8⟩
                have HB8 : Hid (Below w.heap.size w w8) := Lib.hid (HB4w.out.trans (hb8.mono HB4w.out.size))
                clear hb8
                go_wp2
                go_ret
                exact ⟨rfl, HB8.out⟩
              · rw [Bool.not_eq_true] at k4
                rw [k4] at hhpA
                have HA4 := Lib.hid hhpA
                have HTo : Hid (trailOne ⟨nm, va⟩ = if bl nm = [116, 101] ∨ bl nm = hosN ∨ bl nm = lenN then 184 else 0) := Lib.hid (by simp [trailOne, k1, k2, k3, k4])
                clear k1 k2 k3 k4 hpsA hnmA hvlA hhpA
                by_cases j1 : bl nm = [116, 101] ∨ bl nm = [104, 111, 115, 116] ∨ bl nm = [99, 111, 110, 116, 101, 110, 116, 45, 108, 101, 110, 103, 116, 104]
                · obtain rfl : R = 184 := by
                    have h := HTo.out
                    rw [if_pos (show bl nm = [116, 101] ∨ bl nm = hosN ∨ bl nm = lenN from j1)] at h
                    rw [HR2.out, HSt.out (by rw [h]; decide), h]
                  rcases j1 with j1 | j1 | j1
                  · obtain ⟨e1, e2⟩ := eqT2 j1
                    clear j1
                    go_wp2_with fail
                    refine HA.out.mono ?_
                    rintro e w5 ⟨rfl, rfl⟩
                    go_wp2_with fail
                    refine HA2.out.mono ?_
                    rintro e w6 ⟨rfl, rfl⟩
                    go_wp2_with fail
                    refine HA3.out.mono ?_
                    rintro e w7 ⟨rfl, rfl⟩
                    go_wp2_with fail
                    refine HA4.out.mono ?_
                    rintro e w8 ⟨rfl, hb8⟩
                    have HB8 : Hid (Below w.heap.size w w8) := Lib.hid (HB4w.out.trans (hb8.mono HB4w.out.size))
                    have q0' : w8.cell? ⟨g4, 0, none⟩ = some (.string nm) := (HH4.out.kept (Kept.of_below (X := none') hb8) (fun h => h)).cell 0 rfl
                    clear hb8 q0 q1
                    go_wp2
                    go_ret
                    exact ⟨rfl, HB8.out⟩
                  · obtain ⟨e1, e2⟩ := eqT2 j1
                    obtain ⟨e3, e4⟩ := eqF2 (s := nm) (l := [116, 101]) (by rw [j1]; decide)
                    clear j1
                    go_wp2_with fail
                    refine HA.out.mono ?_
                    rintro e w5 ⟨rfl, rfl⟩
                    go_wp2_with fail
                    refine HA2.out.mono ?_
                    rintro e w6 ⟨rfl, rfl⟩
                    go_wp2_with fail
                    refine HA3.out.mono ?_
                    rintro e w7 ⟨rfl, rfl⟩
                    go_wp2_with fail
                    refine HA4.out.mono ?_
                    rintro e w8 ⟨rfl, hb8⟩
                    have HB8 : Hid (Below w.heap.size w w8) := Lib.hid (HB4w.out.trans (hb8.mono HB4w.out.size))
                    have q0' : w8.cell? ⟨g4, 0, none⟩ = some (.string nm) := (HH4.out.kept (Kept.of_below (X := none') hb8) (fun h => h)).cell 0 rfl
                    clear hb8 q0 q1
                    go_wp2
                    go_ret
                    exact ⟨rfl, HB8.out⟩
                  · obtain ⟨e1, e2⟩ := eqT2 j1
                    obtain ⟨e3, e4⟩ := eqF2 (s := nm) (l := [116, 101]) (by rw [j1]; decide)
                    obtain ⟨e5, e6⟩ := eqF2 (s := nm) (l := [104, 111, 115, 116]) (by rw [j1]; decide)
                    clear j1
                    go_wp2_with fail
                    refine HA.out.mono ?_
                    rintro e w5 ⟨rfl, rfl⟩
                    go_wp2_with fail
                    refine HA2.out.mono ?_
                    rintro e w6 ⟨rfl, rfl⟩
                    go_wp2_with fail
                    refine HA3.out.mono ?_
                    rintro e w7 ⟨rfl, rfl⟩
                    go_wp2_with fail
                    refine HA4.out.mono ?_
                    rintro e w8 ⟨rfl, hb8⟩
                    have HB8 : Hid (Below w.heap.size w w8) := Lib.hid (HB4w.out.trans (hb8.mono HB4w.out.size))
                    have q0' : w8.cell? ⟨g4, 0, none⟩ = some (.string nm) := (HH4.out.kept (Kept.of_below (X := none') hb8) (fun h => h)).cell 0 rfl
                    clear hb8 q0 q1
                    go_wp2
                    go_ret
                    exact ⟨rfl, HB8.out⟩
                · have HZ0 : Hid (TrZ fs (i + 1)) := Lib.hid (HOn.out (by rw [HTo.out, if_neg (show ¬ (bl nm = [116, 101] ∨ bl nm = hosN ∨ bl nm = lenN) from j1)]))
                  rw [not_or, not_or] at j1
                  obtain ⟨e1, e2⟩ := eqF2 j1.1
                  obtain ⟨e3, e4⟩ := eqF2 j1.2.1
                  obtain ⟨e5, e6⟩ := eqF2 j1.2.2
                  clear j1
                  go_wp2_with fail
                  refine HA.out.mono ?_
                  rintro e w5 ⟨rfl, rfl⟩
                  go_wp2_with fail
                  refine HA2.out.mono ?_
                  rintro e w6 ⟨rfl, rfl⟩
                  go_wp2_with fail
                  refine HA3.out.mono ?_
                  rintro e w7 ⟨rfl, rfl⟩
                  go_wp2_with fail
                  refine HA4.out.mono ?_
                  rintro e w8 ⟨rfl, hb8⟩
                  have HB8 : Hid (Below w2.heap.size w2 w8) := Lib.hid (HB4.out.trans (hb8.mono HB4.out.size))
                  have q0' : w8.cell? ⟨g4, 0, none⟩ = some (.string nm) := (HH4.out.kept (Kept.of_below (X := none') hb8) (fun h => h)).cell 0 rfl
                  clear hb8 q0 q1
                  go_wp2_with fail
                  go_roundw
                  case rel => exact ⟨i + 1, by first | rfl | (push_cast; rfl), HI.out, HZ0, HB8.out⟩
                  case measure => exact ssj3 HI.out
            · rw [Bool.not_eq_true] at k3
              rw [k3] at hvlA
              have HA3 := Lib.hid hvlA
              obtain rfl : R = 181 := by rw [HR2.out, HSt.out (by simp [trailOne, k1, k2, k3])]; simp [trailOne, k1, k2, k3]
              clear k1 k2 k3 hpsA hnmA hvlA hhpA
              go_wp2_with fail
              refine HA.out.mono ?_
              rintro e w5 ⟨rfl, rfl⟩
              go_wp2_with fail
              refine HA2.out.mono ?_
              rintro e w6 ⟨rfl, rfl⟩
              go_wp2_with fail
              refine HA3.out.mono ?_
              rintro e w7 ⟨rfl, rfl⟩
              go_wp2
              go_ret
              exact ⟨rfl, HB4w.out⟩
          · rw [Bool.not_eq_true] at k2
            rw [k2] at hnmA
            have HA2 := Lib.hid hnmA
            obtain rfl : R = 180 := by rw [HR2.out, HSt.out (by simp [trailOne, k1, k2])]; simp [trailOne, k1, k2]
            clear k1 k2 hpsA hnmA hvlA hhpA
            go_wp2_with fail
            refine HA.out.mono ?_
            rintro e w5 ⟨rfl, rfl⟩
            go_wp2_with fail
            refine HA2.out.mono ?_
            rintro e w6 ⟨rfl, rfl⟩
            go_wp2
            go_ret
            exact ⟨rfl, HB4w.out⟩
      · have z1 := ssj2 hin
        obtain rfl : R = 0 := by rw [HR2.out, trz_end HTz.out (by rw [HL.out]; exact Nat.le_of_not_lt hin)]
        clear hi hin
        go_wp2
        go_ret
        exact ⟨rfl, HBw.out⟩
section
open Go.ChangeShapes Go.WideShapes
variable {H : Type} {enc : TypeId × Value → H} {W : World}
/-- bytes within a cell, with what they weigh -/
theorem open_bytesW {v : Value} {x : DataW H × List MemPlace} {m : Nat} (hf : DataW.trod enc Tryd.prog W 0 (fun _ => true) true m 28 [v] = some x) : ∃ (a : Option Addr) (n c : Nat) (l : List UInt8), v = .slice a n c ∧ Sl W a n c (bv l) ∧ n + 1 ≤ Rows.uptoBulk x.1 := by
  rcases open_ints Tryd.underlying28 Tryd.underlying5 (by kernel_rfl) hf with ⟨hcs, hx⟩ | ⟨a, len, cap, zs, hcs, _, hl, hm, hz, hx, hcell, hwz⟩
  · simp only [List.cons.injEq, and_true] at hcs
    subst hcs
    exact ⟨none, 0, 0, [], rfl, Sl.empty W, bulk_one _⟩
  · simp only [List.cons.injEq, and_true] at hcs
    subst hcs
    have hz' : zs.length = cap := by simpa using hz
    have hs := sl_of_ints hl hm hz' hcell
    refine ⟨some a, len, cap, (zs.take len).map (fun z => UInt8.ofNat z.toNat), rfl, ?_, ?_⟩
    · have e : bv ((zs.take len).map (fun z => UInt8.ofNat z.toNat)) = iv .u8 (zs.take len) := by
        simp only [bv, iv, List.map_map]
        refine List.map_congr_left fun z hz => ?_
        have hb := bounds_u8 (hwz z (List.mem_of_mem_take hz))
        simp
        omega
      rw [e]
      exact hs
    · rw [hx]
      have h1 := bulk_length (lits (H := H) .u8 (zs.take len))
      have h2 : (lits (H := H) .u8 (zs.take len)).length = len := by simp [lits]; omega
      show len + 1 ≤ _
      simp only [Rows.uptoBulk]
      omega
/-- numbers within a cell -/
theorem open_cutsW {v : Value} {x : DataW H × List MemPlace} {m : Nat} (hf : DataW.trod enc Tryd.prog W 0 (fun _ => true) true m 53 [v] = some x) : ∃ (a : Option Addr) (n c : Nat) (zs : List Int), v = .slice a n c ∧ Sl W a n c (iv .i64 zs) := by
  rcases open_ints Tryd.underlying53 Tryd.underlying3 (by kernel_rfl) hf with ⟨hcs, hx⟩ | ⟨a, len, cap, zs, hcs, _, hl, hm, hz, hx, hcell, hwz⟩
  · simp only [List.cons.injEq, and_true] at hcs
    subst hcs
    exact ⟨none, 0, 0, [], rfl, Sl.empty W⟩
  · simp only [List.cons.injEq, and_true] at hcs
    subst hcs
    have hz' : zs.length = cap := by simpa using hz
    exact ⟨some a, len, cap, zs.take len, rfl, sl_of_ints hl hm hz' hcell⟩
/-- a request with its body -/
structure BodyAt (W : World) (fa : Option Addr) (fn fc : Nat) (fs : List Fd) (ba : Option Addr) (bn bc : Nat) (b : List UInt8) (ca : Option Addr) (cn cc : Nat) (zs : List Int) (ta : Option Addr) (tn tc : Nat) (ts : List Fd) : Prop where
  sf : SlS W fa fn fc fs
  sb : Sl W ba bn bc (bv b)
  sc : Sl W ca cn cc (iv .i64 zs)
  st : SlS W ta tn tc ts
  zf : fdz fs ≤ 1048576
  zt : fdz ts ≤ 1048576
  zb : bn ≤ 1048576
set_option maxRecDepth 100000 in
theorem open_body {v : Value} {d : DataW H} {pls : List MemPlace} {base : Nat} {ds : List (DataW H)}
    (hv : Value.okWide Tryd.prog W .any base 55 v) (h : DataW.Trod enc Tryd.prog W 0 (fun _ => true) true 55 v d pls) (hk : Rows.uptoSmall H ds = true) (hd : d ∈ ds) :
    ∃ (fa : Option Addr) (fn fc : Nat) (fs : List Fd) (ba : Option Addr) (bn bc : Nat) (b : List UInt8) (ca : Option Addr) (cn cc : Nat) (zs : List Int) (ta : Option Addr) (tn tc : Nat) (ts : List Fd), v = .agg #[.slice fa fn fc, .slice ba bn bc, .slice ca cn cc, .slice ta tn tc] ∧ BodyAt W fa fn fc fs ba bn bc b ca cn cc zs ta tn tc ts := by
  simp only [Value.okWide, Tryd.underlying55] at hv
  obtain ⟨cs, rfl, hsz, _⟩ := hv
  have h4 : Tryd.prog.cellsOf 55 = 4 := by kernel_rfl
  rw [h4] at hsz
  obtain ⟨v0, v1, v2, v3, rfl⟩ : ∃ v0 v1 v2 v3, cs = #[v0, v1, v2, v3] := by
    rcases cs with ⟨l⟩
    match l, hsz with
    | [v0, v1, v2, v3], _ => exact ⟨v0, v1, v2, v3, rfl⟩
  obtain ⟨fuel, hf⟩ := h
  obtain ⟨xs, k, _, he, _, hxl, hfl⟩ := DataW.trod_struct Tryd.underlying55 hf
  have hde : d = .agg (xs.map (·.1)) := congrArg Prod.fst he
  have g0 : DataW.trod enc Tryd.prog W 0 (fun _ => true) true k 22 [v0] = xs[0]? := hfl 0 _ rfl
  have g1 : DataW.trod enc Tryd.prog W 0 (fun _ => true) true k 28 [v1] = xs[1]? := hfl 1 _ rfl
  have g2 : DataW.trod enc Tryd.prog W 0 (fun _ => true) true k 53 [v2] = xs[2]? := hfl 2 _ rfl
  have g3 : DataW.trod enc Tryd.prog W 0 (fun _ => true) true k 22 [v3] = xs[3]? := hfl 3 _ rfl
  have l4 : xs.length = 4 := hxl
  obtain ⟨x0, x1, x2, x3, rfl⟩ : ∃ x0 x1 x2 x3, xs = [x0, x1, x2, x3] := by
    match xs, l4 with
    | [x0, x1, x2, x3], _ => exact ⟨x0, x1, x2, x3, rfl⟩
  have g0 : DataW.trod enc Tryd.prog W 0 (fun _ => true) true k 22 [v0] = some x0 := g0
  have g1 : DataW.trod enc Tryd.prog W 0 (fun _ => true) true k 28 [v1] = some x1 := g1
  have g2 : DataW.trod enc Tryd.prog W 0 (fun _ => true) true k 53 [v2] = some x2 := g2
  have g3 : DataW.trod enc Tryd.prog W 0 (fun _ => true) true k 22 [v3] = some x3 := g3
  obtain ⟨fa, fn, fc, fs, rfl, s0, b0⟩ := open_fldsW g0
  obtain ⟨ba, bn, bc, b, rfl, s1, b1⟩ := open_bytesW g1
  obtain ⟨ca, cn, cc, zs, rfl, s2⟩ := open_cutsW g2
  obtain ⟨ta, tn, tc, ts, rfl, s3, b3⟩ := open_fldsW g3
  have hbk := bulk_bound hk
  have hdb := bulk_part hd
  rw [hde] at hdb
  have hsum : Rows.uptoBulk x0.1 + (Rows.uptoBulk x1.1 + (Rows.uptoBulk x2.1 + Rows.uptoBulk x3.1)) ≤ 1048576 := by
    simp only [Rows.uptoBulk, List.map_cons, List.map_nil, Rows.uptoBulkAll] at hdb
    omega
  exact ⟨fa, fn, fc, fs, ba, bn, bc, b, ca, cn, cc, zs, ta, tn, tc, ts, rfl, s0, s1, s2, s3, by omega, by omega, by omega⟩
end
end Go.Proofs.YtohinaohcndndaaDoor

namespace Go.Proofs.YtohinaohcndndaaDoor
open Go.RowKit

theorem chunk_len {d : List UInt8} (h1 : 1 ≤ d.length) (h2 : d.length ≤ 16384) : (chunkL d).2 = 0 ∧ (chunkL d).1.length ≤ 9 * d.length := by
  have h3 := hexGo_le 3 (d.length + 1) d.length [] (by omega)
  unfold chunkL
  rw [if_neg (by omega), if_neg (by omega)]
  refine ⟨rfl, ?_⟩
  simp only [List.length_append, List.length_cons, List.length_nil, hexL] at h3 ⊢
  omega
/-- chunks so far: p bytes of the body -/
structure ChSt (b T : List UInt8) (ds : List (List UInt8)) (p : Nat) : Prop where
  le : p ≤ b.length
  txt : T = ds.flatMap (fun d => (chunkL d).1)
  all : ds.flatten = b.take p
  siz : ∀ d ∈ ds, 1 ≤ d.length ∧ d.length ≤ 16384
  len : T.length ≤ 9 * p
theorem ChSt.start (b : List UInt8) : ChSt b [] [] 0 := ⟨Nat.zero_le _, rfl, rfl, fun d h => by simp at h, Nat.zero_le _⟩
theorem ChSt.on {b T : List UInt8} {ds : List (List UInt8)} {p : Nat} (h : ChSt b T ds p) {k : Nat} (h1 : 1 ≤ k) (hk : k ≤ b.length - p) (hb : b.length ≤ 16384) : ChSt b (T ++ (chunkL ((b.drop p).take k)).1) (ds ++ [(b.drop p).take k]) (p + k) := by
  have hl : ((b.drop p).take k).length = k := by rw [List.length_take, List.length_drop]; omega
  have hc := (chunk_len (d := (b.drop p).take k) (by omega) (by omega)).2
  refine ⟨by omega, ?_, ?_, ?_, ?_⟩
  · rw [h.txt]; simp
  · rw [List.flatten_append, h.all, List.take_add]; simp
  · intro d hd
    rcases List.mem_append.1 hd with hd | hd
    · exact h.siz d hd
    · simp only [List.mem_singleton] at hd; subst hd; omega
  · rw [List.length_append, hl] at *
    have := h.len
    omega
theorem last_len (ts : List Fd) : (lastL ts).length = 5 + (linesL ts).length := by simp [lastL]; omega
theorem lines_fdz : ∀ ts : List Fd, (linesL ts).length ≤ fsz ts + 4 * ts.length
  | [] => Nat.zero_le _
  | f :: r => by
    have := lines_fdz r
    have e : linesL (f :: r) = lineL f ++ linesL r := rfl
    have e2 : fsz (f :: r) = (f.nm.size + f.va.size) + fsz r := by simp [fsz]
    rw [e, List.length_append, line_len, e2, List.length_cons]; omega
theorem last_small {ts : List Fd} (h : fdz ts ≤ 1048576) : (lastL ts).length ≤ 8388608 := by
  have h1 := lines_fdz ts
  have h2 := fsz_fdz ts
  have h3 := fdz_len ts
  rw [last_len]; omega
/-- how the request is framed -/
theorem fr_cases {r : Rq} {bn : Nat} (hl : 0 ≤ r.len → r.len = (bn : Int)) (hlo : -1 ≤ r.len) : (framL r (decide (0 < bn)) = 0 ∧ bn = 0) ∨ (framL r (decide (0 < bn)) = 1 ∧ max r.len 0 = (bn : Int)) ∨ (framL r (decide (0 < bn)) = 2 ∧ 0 < bn) := by
  unfold framL
  split
  · rename_i h0
    exact .inr (.inl ⟨rfl, by have := hl h0; omega⟩)
  · rename_i h0
    by_cases hb : 0 < bn
    · rw [decide_eq_true hb, if_pos rfl]; exact .inr (.inr ⟨rfl, hb⟩)
    · rw [decide_eq_false hb, if_neg (by decide)]
      split
      · exact .inr (.inl ⟨rfl, by omega⟩)
      · exact .inl ⟨rfl, by omega⟩
def lenOf (v : Value) : Nat := match v with | .slice _ n _ => n | _ => 0
/-- what is sent is one request -/
def Sent (me pa : ByteArray) (b : List UInt8) (L : List UInt8) (wt : List Fd) : Prop := L.length ≤ 1099511627776 ∧ L ≠ [] ∧ ∃ G, readV L = .ok (bl me) (bl pa) G b wt []
theorem head_ne {r : Rq} (h : ¬ bl r.me = [67, 79, 78, 78, 69, 67, 84]) (body : Bool) : (headL r body).1 ≠ [] := by
  intro e
  have := congrArg List.length e
  unfold headL at this
  rw [if_neg h] at this
  simp only [List.length_append, head1, head2, List.length_cons, List.length_nil] at this
  omega
theorem fcj1 {N rn p bn bl : Nat} (h1 : rn = bn - p) (h2 : N ≤ rn) (hb : bl = bn) : N ≤ bl - p := by omega
theorem fcj2 {xn tl cl N : Nat} (h1 : xn ≤ 16777216) (h2 : tl ≤ 147456) (h3 : cl ≤ 9 * N) (h4 : N ≤ 16384) : ¬ 9223372036854775807 < xn + tl + cl := by omega
theorem fcj3 {N rn rk : Nat} (h1 : N ≤ rn) (h2 : rn ≤ rk) : (0 : Int) ≤ (N : Int) ∧ (N : Int) ≤ (rn : Int) ∧ (N : Int) ≤ (rk : Int) := by omega
theorem fcj4 {i i1 p bn : Nat} (hi : i ≤ p) (hp : p ≤ bn) (hb : bn ≤ 16384) (h : i1 = i + 1) : RowKit.wrap64 ((i : Int) + 1) = (i1 : Int) ∧ IntKind.i64.wrap ((i : Int) + 1) = (i1 : Int) := by
  rw [IntKind.wrap_i64]; unfold RowKit.wrap64; omega
theorem fcj5 {i i1 p N rn bn : Nat} (hi : i ≤ p) (h : i1 = i + 1) (h1 : 1 ≤ N) (h2 : N ≤ rn) (h3 : rn = bn - p) (hp : p ≤ bn) : i1 ≤ p + N ∧ rn - N = bn - (p + N) ∧ rn - N < rn := by omega
theorem fcj6 {N rn rk p bn bl : Nat} (h1 : N ≤ rn) (h2 : rn ≤ rk) (hk : rk = N) (h3 : rn = bn - p) (hb : bl = bn) : rn = N ∧ bl ≤ p + N := by omega
theorem fcj7 {N rn p bn : Nat} (h2 : N ≤ rn) (h3 : rn = bn - p) (hb : bn ≤ 16384) : N ≤ 16384 ∧ N ≤ 140737488351232 := by omega
theorem fcj8 {xn bn : Nat} (h1 : xn ≤ 16777216) (h2 : bn ≤ 16384) : ¬ 9223372036854775807 < xn + bn ∧ xn + bn ≤ 1099511627776 := by omega
theorem fcj9 {xn tl ln p bn : Nat} (h1 : xn ≤ 16777216) (h2 : tl ≤ 147456 ∧ p ≤ bn) (h3 : ln ≤ 8388608) : ¬ 9223372036854775807 < xn + tl + ln ∧ xn + tl + ln ≤ 1099511627776 := by omega
set_option maxRecDepth 100000 in
set_option maxHeartbeats 8000000 in
theorem factors_any (w : World) (ht : Tabs w) {fa : Option Addr} {fn fc : Nat} {fs : List Fd} {ba : Option Addr} {bn bc : Nat} {b : List UInt8} {ca : Option Addr} {cn cc : Nat} {zs : List Int} {ta : Option Addr} {tn tc : Nat} {ts : List Fd} (h : BodyAt w fa fn fc fs ba bn bc b ca cn cc zs ta tn tc ts) :
    Calls Tryd.prog 6 #[.agg #[.slice fa fn fc, .slice ba bn bc, .slice ca cn cc, .slice ta tn tc]] w (BoolOf w true) := by
  have HT := Lib.hid ht
  have HBA := Lib.hid h
  have hz := h.zf
  have hbd := chkF_bnd hz 1048576 1073741824
  have hgd : (madeF fs).er = 0 → ¬ bl (madeF fs).rq.me = conS → Good (madeF fs).rq := fun h1 h2 => chk_good h1 h2 (last_lt fs (-1) (by omega))
  rw [show chkF fs 1048576 1073741824 = madeF fs by rw [madeF]] at hbd
  obtain ⟨w1, hw1⟩ : ∃ w1, w1 = w.alloc (.cells #[.slice fa fn fc, .slice ba bn bc, .slice ca cn cc, .slice ta tn tc] 55) := ⟨_, rfl⟩
  obtain ⟨g1, hg1⟩ : ∃ g1, g1 = w.heap.size := ⟨_, rfl⟩
  have hb1 : Below w.heap.size w w1 := by rw [hw1]; exact (Below.refl _ w).alloc (Nat.le_refl _) _
  have HH1 : Hid (Has w1.drew g1 55 [.slice fa fn fc, .slice ba bn bc, .slice ca cn cc, .slice ta tn tc]) := Lib.hid ((show Has w1 g1 55 [.slice fa fn fc, .slice ba bn bc, .slice ca cn cc, .slice ta tn tc] by rw [hw1, hg1]; exact Has.new w 55 #[.slice fa fn fc, .slice ba bn bc, .slice ca cn cc, .slice ta tn tc]).kept (Kept.drew none' w1) (fun h => h))
  have hb1d : Below w.heap.size w w1.drew := hb1.trans ((below_drewN (Below.refl w1.heap.size w1) 1).mono hb1.size)
  have HB1 := Lib.hid hb1d
  have HMd := Lib.hid (made_any w1.drew (h.sf.below hb1d) hz (Nat.le_trans (fdz_len _) hbd.fs))
  obtain ⟨R, hR⟩ : ∃ R, R = madeF fs := ⟨_, rfl⟩
  rw [← hR] at hbd HMd hgd
  have HBd := Lib.hid hbd
  have HGd := Lib.hid hgd
  obtain ⟨⟨me, sc, au, pa, fl, len⟩, er⟩ := R
  obtain ⟨k, hk⟩ : ∃ k, k = fl.length := ⟨_, rfl⟩
  have HK := Lib.hid hk
  have HBn : Hid (b.length = bn) := Lib.hid h.sb.byte
  have HAw := Lib.hid (fun w' (hb : Below w.heap.size w w') => awake19_any w' (HT.out.below hb))
  clear ht h hz hbd hR hgd hb1 hb1d
  go_enter Tryd.func6, Tryd.ntmps6
  go_upto_region 1 with fail
  rw [← hw1, ← hg1]
  clear hw1 hg1
  refine Mx.region [] (fun w' => Has w' g1 55 [.slice fa fn fc, .slice ba bn bc, .slice ca cn cc, .slice ta tn tc]) (by kernel_rfl) (by kernel_rfl) HH1.out ?_
  repeat ((first | (refine Mx.skips (by kernel_rfl) ?_; go_big_quiet_skip) | (refine Mx.quietly rfl ?_; go_big_quiet_want; go_big_quiet_op; go_big_quiet_on)); refine Mx.done ?_)
  refine Mx.cell ⟨g1, 0, none⟩ (.slice fa fn fc) (by kernel_rfl) (by kernel_rfl) (by kernel_rfl) Tryd.isAgg22 (fun w' h => h.cell 0 rfl) ?_
  go_big_quiet_want; go_big_quiet_op; go_big_quiet_on; refine Mx.done ?_
  repeat ((first | (refine Mx.skips (by kernel_rfl) ?_; go_big_quiet_skip) | (refine Mx.quietly rfl ?_; go_big_quiet_want; go_big_quiet_op; go_big_quiet_on)); refine Mx.done ?_)
  refine Mx.cell ⟨g1, 1, none⟩ (.slice ba bn bc) (by kernel_rfl) (by kernel_rfl) (by kernel_rfl) Tryd.isAgg28 (fun w' h => h.cell 1 rfl) ?_
  go_big_quiet_want; go_big_quiet_op; go_big_quiet_on; refine Mx.done ?_
  repeat ((first | (refine Mx.skips (by kernel_rfl) ?_; go_big_quiet_skip) | (refine Mx.quietly rfl ?_; go_big_quiet_want; go_big_quiet_op; go_big_quiet_on)); refine Mx.done ?_)
  refine Mx.cell ⟨g1, 2, none⟩ (.slice ca cn cc) (by kernel_rfl) (by kernel_rfl) (by kernel_rfl) Tryd.isAgg53 (fun w' h => h.cell 2 rfl) ?_
  go_big_quiet_want; go_big_quiet_op; go_big_quiet_on; refine Mx.done ?_
  repeat ((first | (refine Mx.skips (by kernel_rfl) ?_; go_big_quiet_skip) | (refine Mx.quietly rfl ?_; go_big_quiet_want; go_big_quiet_op; go_big_quiet_on)); refine Mx.done ?_)
  refine Mx.cell ⟨g1, 3, none⟩ (.slice ta tn tc) (by kernel_rfl) (by kernel_rfl) (by kernel_rfl) Tryd.isAgg22 (fun w' h => h.cell 3 rfl) ?_
  go_big_quiet_want; go_big_quiet_op; go_big_quiet_on; refine Mx.done ?_
  repeat ((first | (refine Mx.skips (by kernel_rfl) ?_; go_big_quiet_skip) | (refine Mx.quietly rfl ?_; go_big_quiet_want; go_big_quiet_op; go_big_quiet_on)); refine Mx.done ?_)
  refine Mx.nil ?_
  go_wp2_with fail
  refine HMd.out.mono ?_
  rintro e w2 ⟨a3, c3, rfl, hs2, hb2⟩
  have HB2 : Hid (Below w.heap.size w w2) := Lib.hid (HB1.out.trans (hb2.mono HB1.out.size))
  unfold rqV
  simp only at hs2 ⊢
  rw [← hk] at hs2 ⊢
  have HS2 := Lib.hid hs2
  clear hs2 hb2 hk HMd HH1
  go_upto_region 3 with fail
  obtain ⟨w3, hw3⟩ : ∃ w3, w3 = w2.alloc (.cells #[.string me, .string sc, .string au, .string pa, .slice a3 k c3, .int .i64 len] 24) := ⟨_, rfl⟩
  obtain ⟨g5, hg5⟩ : ∃ g5, g5 = w2.heap.size := ⟨_, rfl⟩
  have hb3 : Below w2.heap.size w2 w3 := by rw [hw3]; exact (Below.refl _ w2).alloc (Nat.le_refl _) _
  have HH3 : Hid (Has w3 g5 24 (rqC me sc au pa a3 k c3 len)) := Lib.hid (by rw [hw3, hg5]; exact Has.new w2 24 (rqC me sc au pa a3 k c3 len).toArray)
  have HS3 : Hid (SlS w3 a3 k c3 fl) := Lib.hid (HS2.out.below hb3)
  have HB3 : Hid (Below w.heap.size w w3) := Lib.hid (HB2.out.trans (hb3.mono HB2.out.size))
  rw [← hw3, ← hg5]
  clear hw3 hg5 hb3
  by_cases h0 : er = 0
  · subst er
    have b0 := HH3.out.cell 0 rfl
    have b1 := HH3.out.cell 1 rfl
    have b2 := HH3.out.cell 2 rfl
    have b3 := HH3.out.cell 3 rfl
    have b4 := HH3.out.cell 4 rfl
    have b5 := HH3.out.cell 5 rfl
    by_cases hcon : bl me = [67, 79, 78, 78, 69, 67, 84]
    · obtain ⟨t1, t2⟩ := eqT2 hcon
      have HA3 := Lib.hid (HAw.out w3 HB3.out)
      clear hcon
      go_wp2_with fail
      refine HA3.out.mono ?_
      rintro e w4 ⟨rfl, hb4⟩
      have HB4 : Hid (Below w.heap.size w w4) := Lib.hid (HB3.out.trans (hb4.mono HB3.out.size))
      clear hb4
      go_wp2
      go_ret
      exact ⟨rfl, HB4.out⟩
    · obtain ⟨t1, t2⟩ := eqF2 hcon
      have HCon := Lib.hid hcon
      clear hcon
      by_cases hbig : 16384 < bn
      · have y1 : ((16384 : Int) < (bn : Int)) = True := eq_true (by omega)
        have HA3 := Lib.hid (HAw.out w3 HB3.out)
        clear hbig
        go_wp2_with fail
        refine HA3.out.mono ?_
        rintro e w4 ⟨rfl, hb4⟩
        have HB4 : Hid (Below w.heap.size w w4) := Lib.hid (HB3.out.trans (hb4.mono HB3.out.size))
        clear hb4
        go_wp2
        go_ret
        exact ⟨rfl, HB4.out⟩
      · have y1 : ((16384 : Int) < (bn : Int)) = False := eq_false (by omega)
        have HBig : Hid (bn ≤ 16384) := Lib.hid (by omega)
        clear hbig
        by_cases hbad : 0 ≤ len ∧ len ≠ (bn : Int)
        · have y2 : ((0 : Int) ≤ len) = True := eq_true hbad.1
          have y3 : (len != (bn : Int)) = true := by simpa using hbad.2
          have y4 : ¬ len = (bn : Int) := hbad.2
          have HA3 := Lib.hid (HAw.out w3 HB3.out)
          clear hbad
          go_wp2_with fail
          refine HA3.out.mono ?_
          rintro e w4 ⟨rfl, hb4⟩
          have HB4 : Hid (Below w.heap.size w w4) := Lib.hid (HB3.out.trans (hb4.mono HB3.out.size))
          clear hb4
          go_wp2
          go_ret
          exact ⟨rfl, HB4.out⟩
        · have HLn : Hid (0 ≤ len → len = (bn : Int)) := Lib.hid (fun h => by
            rcases Classical.em (len = (bn : Int)) with h2 | h2
            · exact h2
            · exact absurd ⟨h, h2⟩ hbad)
          have HTr := Lib.hid (trail_any w3 (HBA.out.st.below HB3.out) HBA.out.zt 1048576 1073741824)
          obtain ⟨Z, hZ⟩ : ∃ Z, Z = trailF ts 1048576 1073741824 := ⟨_, rfl⟩
          rw [← hZ] at HTr
          have HZ := Lib.hid hZ
          clear hbad hZ
          go_upto_region 5 with fail
          go_cut [62] (fun v wc => v = .bool (Z != 0) ∧ Below w3.heap.size w3 wc)
          case first =>
            by_cases hlen : 0 ≤ len
            · obtain rfl : len = (bn : Int) := HLn.out hlen
              have y2 : ((0 : Int) ≤ (bn : Int)) = True := eq_true hlen
              clear hlen
              go_wp2_with fail
              refine HTr.out.mono ?_
              rintro e w4 ⟨rfl, hb4⟩
              have HB4 := Lib.hid hb4
              clear hb4
              go_wp2_with fail
              go_meet
              case rel => exact ⟨rfl, HB4.out⟩
            · have y2 : ((0 : Int) ≤ len) = False := eq_false hlen
              clear hlen
              go_wp2_with fail
              refine HTr.out.mono ?_
              rintro e w4 ⟨rfl, hb4⟩
              have HB4 := Lib.hid hb4
              clear hb4
              go_wp2_with fail
              go_meet
              case rel => exact ⟨rfl, HB4.out⟩
          case rest =>
            obtain ⟨rfl, hbc⟩ := hcut
            have HBc : Hid (Below w.heap.size w wc) := Lib.hid (HB3.out.trans (hbc.mono HB3.out.size))
            have HHc : Hid (Has wc g5 24 (rqC me sc au pa a3 k c3 len)) := Lib.hid (HH3.out.kept (Kept.of_below (X := none') hbc) (fun h => h))
            have HSc : Hid (SlS wc a3 k c3 fl) := Lib.hid (HS3.out.below hbc)
            clear hbc b0 b1 b2 b3 b4 b5 t1 t2 y1 HTr
            by_cases hz0 : Z = 0
            · have y1 : (Z != 0) = false := by simpa using hz0
              rw [y1]
              have HTg := Lib.hid (trail_good (fs := ts) (cnt := 1048576) (sz := 1073741824) (by rw [← HZ.out]; exact hz0))
              clear y1 hz0
              have b0 := HHc.out.cell 0 rfl
              have b1 := HHc.out.cell 1 rfl
              have b2 := HHc.out.cell 2 rfl
              have b3 := HHc.out.cell 3 rfl
              have b4 := HHc.out.cell 4 rfl
              have b5 := HHc.out.cell 5 rfl
              have hG : Good ⟨me, sc, au, pa, fl, len⟩ := HGd.out rfl HCon.out
              obtain ⟨bd, hbd2⟩ : ∃ bd, bd = decide (0 < bn) := ⟨_, rfl⟩
              obtain ⟨q1, q2⟩ := head_bnd HBd.out.me HBd.out.au HBd.out.pa HBd.out.fs HBd.out.lo HBd.out.hi bd
              have hsm := head_small HBd.out.me HBd.out.au HBd.out.pa HBd.out.fs HBd.out.lo HBd.out.hi bd
              have hHd := head_any wc ⟨me, sc, au, pa, fl, len⟩ (a := a3) (c := c3) (by rw [← HK.out]; exact HSc.out) bd (by have h1 := HBd.out.lo; have h2 := HBd.out.hi; simp only at h1 h2 ⊢; omega) (Nat.le_trans (Nat.le_trans (fdz_len _) HBd.out.fs) (by decide)) (Nat.le_trans q1 (by decide)) q2 (HT.out.below HBc.out).pow
              have he0 : (headL ⟨me, sc, au, pa, fl, len⟩ bd).2 = 0 := by unfold headL; rw [if_neg HCon.out]
              have hne := head_ne (r := ⟨me, sc, au, pa, fl, len⟩) HCon.out bd
              have hfc := fr_cases (r := ⟨me, sc, au, pa, fl, len⟩) (bn := bn) HLn.out HBd.out.lo
              have hFr := fun w' => framing_any w' ⟨me, sc, au, pa, fl, len⟩ a3 c3 bd
              rw [← hbd2] at hfc
              obtain ⟨fr, hfr⟩ : ∃ fr, fr = framL ⟨me, sc, au, pa, fl, len⟩ bd := ⟨_, rfl⟩
              rw [← hfr] at hFr hfc
              have HGo := Lib.hid hG
              have HFre := Lib.hid hfr
              have HFc := Lib.hid hfc
              obtain ⟨Hh, hHh⟩ : ∃ Hh, Hh = headL ⟨me, sc, au, pa, fl, len⟩ bd := ⟨_, rfl⟩
              rw [← hHh] at hHd he0 hsm hne
              have HHe : Hid (Hh = headL ⟨me, sc, au, pa, fl, len⟩ bd) := Lib.hid hHh
              obtain ⟨X, hE⟩ := Hh
              simp only at he0 hsm hne
              subst he0
              obtain ⟨xn, hxn⟩ : ∃ xn, xn = X.length := ⟨_, rfl⟩
              have HXn := Lib.hid hxn
              have HSm : Hid (xn ≤ 16777216) := Lib.hid (by rw [hxn]; exact hsm)
              have HNe := Lib.hid hne
              unfold rqV at hHd hFr
              simp only [← HK.out] at hHd hFr
              rw [hbd2] at hHd hFr
              have HHd := Lib.hid hHd
              have HFr := Lib.hid hFr
              clear q1 q2 hHd hG hsm hne hHh hxn hFr hfr hfc hbd2
              go_wp2_with fail
              refine HHd.out.mono ?_
              rintro e w4 ⟨ha, hc, he, ho4, hb4⟩
              simp only at he ho4
              obtain rfl : e = .returned (.tuple #[.slice ha xn hc, .int .i64 0]) := by rw [he, HXn.out]
              have hsl4 : Sl w4 ha xn hc (bv X) := by rw [HXn.out]; exact own_sl ho4
              have hstr := run_str (P := Tryd.prog) hsl4 28 5 9 Tryd.underlying28 Tryd.underlying5 Tryd.underlying9
              have HB4 : Hid (Below w.heap.size w w4) := Lib.hid (HBc.out.trans (hb4.mono HBc.out.size))
              have HHr4 : Hid (Has w4 g5 24 (rqC me sc au pa a3 k c3 len)) := Lib.hid (HHc.out.kept (Kept.of_below (X := none') hb4) (fun h => h))
              have HFr4 := Lib.hid (HFr.out w4)
              clear he ho4 hb4 b0 b1 b2 b3 b4 b5 HHd hsl4 HFr
              have b0 := HHr4.out.cell 0 rfl
              have b1 := HHr4.out.cell 1 rfl
              have b2 := HHr4.out.cell 2 rfl
              have b3 := HHr4.out.cell 3 rfl
              have b4 := HHr4.out.cell 4 rfl
              have b5 := HHr4.out.cell 5 rfl
              obtain ⟨S0, hS0⟩ : ∃ S0, S0 = strB X := ⟨_, rfl⟩
              have hs0 : S0.size = xn := by rw [hS0, strB_size, HXn.out]
              rw [← hS0] at hstr
              have HS0 := Lib.hid hS0
              clear hS0
              go_wp2_with fail
              refine HFr4.out.mono ?_
              rintro e w5 ⟨rfl, hb5⟩
              have HB5 : Hid (Below w.heap.size w w5) := Lib.hid (HB4.out.trans (hb5.mono HB4.out.size))
              have HHr5 : Hid (Has w5 g5 24 (rqC me sc au pa a3 k c3 len)) := Lib.hid (HHr4.out.kept (Kept.of_below (X := none') hb5) (fun h => h))
              clear hb5 hstr b0 b1 b2 b3 b4 b5 HFr4
              go_upto_block 0 with fail
              go_cut [11, 12] (fun sv wv wd => ∃ (L : List UInt8) (wa : Option Addr) (wn wk : Nat) (wt : List Fd), sv = .string (strB L) ∧ wv = .slice wa wn wk ∧ SlS wd wa wn wk wt ∧ Sent me pa b L wt ∧ Below w5.heap.size w5 wd)
              case first =>
                rcases HFc.out with ⟨rfl, hb0⟩ | ⟨rfl, hlen⟩ | ⟨rfl, hb0⟩
                · have HSe : Hid (Sent me pa b X []) := Lib.hid (by
                    refine ⟨by rw [← HXn.out]; exact Nat.le_trans HSm.out (by decide), HNe.out, (hdFs ⟨me, sc, au, pa, fl, len⟩ bd).map backF, ?_⟩
                    obtain rfl : b = [] := List.eq_nil_of_length_eq_zero (by rw [HBn.out, hb0])
                    have h := read_none HGo.out bd (.inl HFre.out.symm)
                    rw [← HHe.out] at h
                    exact h)
                  clear hb0
                  go_wp2_with fail
                  go_meet
                  case rel => exact ⟨X, none, 0, 0, [], by rw [HS0.out], rfl, SlS.nil _, HSe.out, Below.refl _ _⟩
                · have HSe : Hid (Sent me pa b (X ++ b) []) := Lib.hid (by
                    refine ⟨by rw [List.length_append, ← HXn.out, HBn.out]; exact (fcj8 HSm.out HBig.out).2, by simp [HNe.out], (hdFs ⟨me, sc, au, pa, fl, len⟩ bd).map backF, ?_⟩
                    have h := read_length HGo.out bd HFre.out.symm (b := b) (by rw [HBn.out]; exact hlen)
                    rw [← HHe.out] at h
                    exact h)
                  have hst5 := run_str (P := Tryd.prog) (HBA.out.sb.below HB5.out) 28 5 9 Tryd.underlying28 Tryd.underlying5 Tryd.underlying9
                  obtain ⟨S1, hS1⟩ : ∃ S1, S1 = strB b := ⟨_, rfl⟩
                  have hs1 : S1.size = bn := by rw [hS1, strB_size, HBn.out]
                  have u1 := (fcj8 HSm.out HBig.out).1
                  rw [← hS1] at hst5
                  have HS1 := Lib.hid hS1
                  clear hS1 hlen
                  go_wp2_with fail
                  go_meet
                  case rel => exact ⟨X ++ b, none, 0, 0, [], by rw [← strB_append, HS0.out, HS1.out], rfl, SlS.nil _, HSe.out, Below.refl _ _⟩
                · have HB0 := Lib.hid hb0
                  have HCp := Lib.hid (copy_any w5 (HBA.out.sb.below HB5.out) (by have := HBig.out; omega))
                  clear hb0
                  go_wp2_with fail
                  refine HCp.out.mono ?_
                  rintro e w6 ⟨ra, rk, he, ho6, hb6⟩
                  obtain rfl : e = .returned (.slice ra bn rk) := by rw [he, HBn.out]
                  have HSl6 : Hid (Sl w6 ra bn rk (bv b)) := Lib.hid (by have h := own_sl ho6; rwa [HBn.out] at h)
                  have HB6 := Lib.hid hb6
                  clear he ho6 hb6 HCp
                  go_wp2_with fail
                  go_loopw [11, 13, 14] (fun sv rv iv wr => ∃ (S T : _) (ds : List (List UInt8)) (p i rn : Nat) (ra : Option Addr) (rk : Nat), sv = .string S ∧ rv = .slice ra rn rk ∧ iv = .int .i64 (i : Int) ∧ S = strB (X ++ T) ∧ ChSt b T ds p ∧ rn = bn - p ∧ i ≤ p ∧ Sl wr ra rn rk (bv (b.drop p)) ∧ Below w5.heap.size w5 wr) (fun _ rv _ _ => lenOf rv)
                  case atStart => exact ⟨_, [], [], 0, 0, bn, ra, rk, rfl, rfl, rfl, by rw [HS0.out, List.append_nil], ChSt.start b, rfl, Nat.le_refl _, HSl6.out, HB6.out⟩
                  case round =>
                    obtain ⟨S, T, ds, p, i, rn, ra, rk, rfl, rfl, rfl, hS, hst, hrn, hip, hsl, hbw⟩ := hrel
                    have HS := Lib.hid hS
                    have HSt := Lib.hid hst
                    have HRn := Lib.hid hrn
                    have HIp := Lib.hid hip
                    have HSl := Lib.hid hsl
                    have HBw := Lib.hid hbw
                    have HBw2 : Hid (Below w.heap.size w wr) := Lib.hid (HB5.out.trans (hbw.mono HB5.out.size))
                    have hsz : S.size = xn + T.length := by rw [hS, strB_size, List.length_append, HXn.out]
                    obtain ⟨tl, htl⟩ : ∃ tl, tl = T.length := ⟨_, rfl⟩
                    have HTe := Lib.hid htl
                    rw [← htl] at hsz
                    have HTl : Hid (tl ≤ 147456 ∧ p ≤ bn) := Lib.hid (by have h1 := hst.len; have h2 := hst.le; have h3 := HBig.out; have h4 := HBn.out; omega)
                    clear hS hst hrn hip hsl hbw htl
                    by_cases hr0 : 0 < rn
                    · have HR0 := Lib.hid hr0
                      have z1 : ((0 : Int) < (rn : Int)) = True := eq_true (by omega)
                      have z2 : (0 < rn) = True := eq_true hr0
                      clear hr0
                      go_upto_region 21 with fail
                      go_cut [116] (fun v wz => ∃ bb : Bool, v = .bool bb ∧ Hid (bb = true → ∃ N : Nat, 1 ≤ N ∧ N ≤ rn ∧ i < cn ∧ zs[i]? = some (N : Int)) ∧ wr = wz)
                      case first =>
                        by_cases hic : i < cn
                        · have hsc := HBA.out.sc.below HBw2.out
                          have hzl : zs.length = cn := by have h := hsc.len; simpa [iv] using h
                          obtain ⟨cb, co, rfl, hcc⟩ := hsc.cells (by omega)
                          have hci := hcc i hic
                          obtain ⟨z, hz⟩ : ∃ z, z = zs[i]'(by omega) := ⟨_, rfl⟩
                          rw [show (iv IntKind.i64 zs)[i]? = some (.int .i64 z) by rw [hz]; simp [iv, hzl, hic]] at hci
                          have HZi : Hid (zs[i]? = some z ∧ i < cn) := Lib.hid ⟨by rw [hz]; exact List.getElem?_eq_getElem _, hic⟩
                          have y1 : ((i : Int) < (cn : Int)) = True := eq_true (by omega)
                          have y2 : (0 : Int) ≤ (i : Int) := by omega
                          have y2' : (i : Int) < (cn : Int) := by omega
                          clear hsc hzl hcc hz hic
                          by_cases hz1 : 0 < z
                          · have y3 : ((0 : Int) < z) = True := eq_true hz1
                            by_cases hz2 : z < (rn : Int)
                            · have y4 : (z < (rn : Int)) = True := eq_true hz2
                              have HN : Hid (∃ N : Nat, 1 ≤ N ∧ N ≤ rn ∧ i < cn ∧ zs[i]? = some (N : Int)) := Lib.hid ⟨z.toNat, by omega, by omega, HZi.out.2, by rw [HZi.out.1]; congr 1; omega⟩
                              clear hz1 hz2
                              go_wp2_with fail
                              go_meet
                              case rel => exact ⟨true, rfl, Lib.hid (fun _ => HN.out), rfl⟩
                            · have y4 : (z < (rn : Int)) = False := eq_false hz2
                              clear hz1 hz2
                              go_wp2_with fail
                              go_meet
                              case rel => exact ⟨false, rfl, Lib.hid (fun h => by cases h), rfl⟩
                          · have y3 : ((0 : Int) < z) = False := eq_false hz1
                            clear hz1
                            go_wp2_with fail
                            go_meet
                            case rel => exact ⟨false, rfl, Lib.hid (fun h => by cases h), rfl⟩
                        · have y1 : ((i : Int) < (cn : Int)) = False := eq_false (by omega)
                          clear hic
                          go_wp2_with fail
                          go_meet
                          case rel => exact ⟨false, rfl, Lib.hid (fun h => by cases h), rfl⟩
                      case rest =>
                        obtain ⟨bb, rfl, HBb, rfl⟩ := hcut
                        go_upto_if 116 with fail
                        go_cut [15] (fun v wz => ∃ N : Nat, v = .int .i64 (N : Int) ∧ Hid (1 ≤ N ∧ N ≤ rn) ∧ wr = wz)
                        case first =>
                          cases bb with
                          | true =>
                            obtain ⟨N, hn1, hn2, hic, hzi⟩ := HBb.out rfl
                            have hsc := HBA.out.sc.below HBw2.out
                            obtain ⟨cb, co, rfl, hcc⟩ := hsc.cells (by omega)
                            have hci := hcc i hic
                            rw [show (iv IntKind.i64 zs)[i]? = some (.int .i64 (N : Int)) by simp [iv, hzi]] at hci
                            have y2 : (0 : Int) ≤ (i : Int) := by omega
                            have y2' : (i : Int) < (cn : Int) := by omega
                            have HN := Lib.hid (And.intro hn1 hn2)
                            clear hsc hcc hn1 hn2 hic hzi
                            go_wp2_with fail
                            go_meet
                            case rel => exact ⟨N, rfl, HN, rfl⟩
                          | false =>
                            go_wp2_with fail
                            go_meet
                            case rel => exact ⟨rn, rfl, Lib.hid ⟨HR0.out, Nat.le_refl _⟩, rfl⟩
                        case rest =>
                          obtain ⟨N, rfl, HN, rfl⟩ := hcut
                          obtain ⟨hn1, hn2⟩ := HN.out
                          obtain ⟨rb, ro, rfl, _⟩ := HSl.out.cells HR0.out
                          have hcm := HSl.out.cap_le
                          obtain ⟨v1, v2⟩ := fcj7 hn2 HRn.out HBig.out
                          have hst1 : Sl wr (some ⟨rb, ro, none⟩) N rk (bv ((b.drop p).take N)) := by rw [bv_take]; exact sl_take HSl.out hn2
                          obtain ⟨d, hd⟩ : ∃ d, d = (b.drop p).take N := ⟨_, rfl⟩
                          rw [← hd] at hst1
                          have hdl : d.length = N := hst1.byte
                          have HOn := Lib.hid (HSt.out.on hn1 (fcj1 HRn.out hn2 HBn.out) (by rw [HBn.out]; exact HBig.out))
                          rw [← hd] at HOn
                          have HCp2 := Lib.hid (copy_any wr hst1 v2)
                          have hck := chunk_len (d := d) (by rw [hdl]; exact hn1) (by rw [hdl]; exact v1)
                          obtain ⟨cl, hcl⟩ : ∃ cl, cl = (chunkL d).1.length := ⟨_, rfl⟩
                          have HCl := Lib.hid hcl
                          have HCk := Lib.hid hck
                          have HDl := Lib.hid hdl
                          obtain ⟨y1, y2, y3⟩ := fcj3 hn2 hcm
                          have u1 := fcj2 HSm.out HTl.out.1 (show cl ≤ 9 * N by rw [hcl, ← hdl]; exact hck.2) v1
                          have HRest : Hid (∀ w', Sl w' (some ⟨rb, ro, none⟩) rn rk (bv (b.drop p)) → Sl w' (if rk = N then some ⟨rb, ro, none⟩ else some ⟨rb, ro + N, none⟩) (rn - N) (rk - N) (bv (b.drop (p + N)))) := Lib.hid (fun w' h => by
                            have e : bv (b.drop (p + N)) = (bv (b.drop p)).drop N := by rw [← bv_drop, List.drop_drop]
                            split
                            · rename_i hk
                              obtain ⟨hN, hbl⟩ := fcj6 hn2 hcm hk HRn.out HBn.out
                              have e2 : b.drop (p + N) = [] := List.drop_eq_nil_of_le hbl
                              rw [e2, hN, hk, Nat.sub_self]
                              exact ⟨rfl, Nat.le_refl _, Nat.zero_le _, fun h => (by cases h), fun h => absurd h (Nat.lt_irrefl _)⟩
                            · rw [e]; exact sl_drop h hn2)
                          obtain ⟨i1, hi1⟩ : ∃ i1, i1 = i + 1 := ⟨_, rfl⟩
                          obtain ⟨y5, y6⟩ := fcj4 HIp.out HTl.out.2 HBig.out hi1
                          obtain ⟨r1, r2, r3⟩ := fcj5 HIp.out hi1 hn1 hn2 HRn.out HTl.out.2
                          have HI1 := Lib.hid r1
                          have HR2 := Lib.hid (And.intro r2 r3)
                          clear hn1 hn2 hcm hst1 hd hdl hck hcl hi1 v1 v2 r1 r2 r3
                          go_wp2_with fail
                          refine HCp2.out.mono ?_
                          rintro e w6 ⟨a6, c6, he, ho6, hb6⟩
                          obtain rfl : e = .returned (.slice a6 N c6) := by rw [he, HDl.out]
                          have hsl6 := own_sl ho6
                          rw [HDl.out] at hsl6
                          have HB6 : Hid (Below w5.heap.size w5 w6) := Lib.hid (HBw.out.trans (hb6.mono HBw.out.size))
                          have HCh := Lib.hid (chunk_any w6 hsl6 (HT.out.below (HB5.out.trans (HB6.out.mono HB5.out.size))).tz)
                          have HSl6 := Lib.hid (HSl.out.below hb6)
                          clear he ho6 hb6 hsl6 HCp2
                          go_wp2_with fail
                          refine HCh.out.mono ?_
                          rintro e w7 ⟨a7, c7, he, ho7, hb7⟩
                          obtain rfl : e = .returned (.tuple #[.slice a7 cl c7, .int .i64 0]) := by rw [he, HCl.out, HCk.out.1]
                          have hst7 := run_str (P := Tryd.prog) (own_sl ho7) 28 5 9 Tryd.underlying28 Tryd.underlying5 Tryd.underlying9
                          rw [← HCl.out] at hst7
                          have HB7 : Hid (Below w5.heap.size w5 w7) := Lib.hid (HB6.out.trans (hb7.mono HB6.out.size))
                          have HSl7 := Lib.hid (HRest.out _ (HSl6.out.below hb7))
                          obtain ⟨S2, hS2⟩ : ∃ S2, S2 = strB (chunkL d).1 := ⟨_, rfl⟩
                          have hs2 : S2.size = cl := by rw [hS2, strB_size, HCl.out]
                          rw [← hS2] at hst7
                          have HSn : Hid (S ++ S2 = strB (X ++ (T ++ (chunkL d).1))) := Lib.hid (by rw [HS.out, hS2, strB_append, List.append_assoc])
                          clear he ho7 hb7 hS2 HCh
                          go_wp2_with fail
                          go_roundw
                          case rel => exact ⟨S ++ S2, T ++ (chunkL d).1, ds ++ [d], p + N, i1, rn - N, _, rk - N, rfl, rfl, rfl, HSn.out, HOn.out, HR2.out.1, HI1.out, HSl7.out, HB7.out⟩
                          case measure => exact HR2.out.2
                    · have z1 : ((0 : Int) < (rn : Int)) = False := eq_false (by omega)
                      have z2 : (0 < rn) = False := eq_false hr0
                      have hpb : p = bn := by have h1 := HRn.out; have h2 := HTl.out.2; omega
                      have HCt := Lib.hid (copys_any wr (HBA.out.st.below HBw2.out) (by have h1 := HBA.out.zt; have h2 := fdz_len ts; have h3 := HBA.out.st.len; omega))
                      have HDs : Hid (ds.flatten = b) := Lib.hid (by rw [HSt.out.all, hpb, ← HBn.out, List.take_length])
                      have hll := last_small HBA.out.zt
                      have HLl := Lib.hid hll
                      obtain ⟨tn2, htn⟩ : ∃ tn2, tn2 = ts.length := ⟨_, rfl⟩
                      have htn' : tn = tn2 := by rw [htn]; exact HBA.out.st.len.symm
                      subst htn'
                      have HTn := Lib.hid htn
                      clear hr0 hpb hll htn
                      go_wp2_with fail
                      refine HCt.out.mono ?_
                      rintro e w7 ⟨a7, c7, he, ho7, hb7⟩
                      obtain rfl : e = .returned (.slice a7 tn c7) := by rw [he, HTn.out]
                      have hs7 := Sps.sl (w := w7) (B := wr.heap.size) (a := a7) (c := c7) (l := ts) ho7
                      rw [← HTn.out] at hs7
                      have HB7 : Hid (Below w5.heap.size w5 w7) := Lib.hid (HBw.out.trans (hb7.mono HBw.out.size))
                      have HLa := Lib.hid (last_any w7 hs7 (Nat.le_trans HLl.out (by decide)))
                      clear he ho7 hb7 hs7 HCt
                      go_wp2_with fail
                      refine HLa.out.mono ?_
                      rintro e w8 ⟨a8, c8, he, ho8, hb8⟩
                      obtain ⟨ln, hln⟩ : ∃ ln, ln = (lastL ts).length := ⟨_, rfl⟩
                      obtain rfl : e = .returned (.slice a8 ln c8) := by rw [he, hln]
                      have hsl8 : Sl w8 a8 ln c8 (bv (lastL ts)) := by rw [hln]; exact own_sl ho8
                      have hst8 := run_str (P := Tryd.prog) hsl8 28 5 9 Tryd.underlying28 Tryd.underlying5 Tryd.underlying9
                      have HB8 : Hid (Below w5.heap.size w5 w8) := Lib.hid (HB7.out.trans (hb8.mono HB7.out.size))
                      have HB8w : Hid (Below w.heap.size w w8) := Lib.hid (HB5.out.trans (HB8.out.mono HB5.out.size))
                      obtain ⟨S2, hS2⟩ : ∃ S2, S2 = strB (lastL ts) := ⟨_, rfl⟩
                      have hs2 : S2.size = ln := by rw [hS2, strB_size, hln]
                      have u1 := (fcj9 HSm.out HTl.out (show ln ≤ 8388608 by rw [hln]; exact HLl.out)).1
                      rw [← hS2] at hst8
                      have HSe : Hid (Sent me pa b (X ++ T ++ lastL ts) ts ∧ S ++ S2 = strB (X ++ T ++ lastL ts)) := Lib.hid (by
                        refine ⟨⟨?_, by simp [HNe.out], (hdFs ⟨me, sc, au, pa, fl, len⟩ bd).map backF, ?_⟩, ?_⟩
                        · rw [List.length_append, List.length_append, ← HXn.out, ← HTe.out]
                          exact (fcj9 HSm.out HTl.out HLl.out).2
                        · have h := read_chunks HGo.out bd HFre.out.symm (ds := ds) (ts := ts) HSt.out.siz HTg.out
                          rw [← HHe.out, HDs.out, ← HSt.out.txt, ← List.append_assoc] at h
                          exact h
                        · rw [HS.out, hS2, strB_append])
                      clear he ho8 hb8 hsl8 hS2 hln HLa
                      go_wp2_with fail
                      go_meet
                      case rel => exact ⟨_, ta, tn, tc, ts, by rw [HSe.out.2], rfl, HBA.out.st.below HB8w.out, HSe.out.1, HB8.out⟩
              case rest =>
                obtain ⟨L, wa, wn, wk, wt, rfl, rfl, hsw, hse, hbd3⟩ := hcut
                obtain ⟨hL1, hL2, G, hL3⟩ := hse
                have HSw := Lib.hid hsw
                have HBd3 : Hid (Below w.heap.size w wc) := Lib.hid (HB5.out.trans (hbd3.mono HB5.out.size))
                have HHd3 : Hid (Has wc g5 24 (rqC me sc au pa a3 k c3 len)) := Lib.hid (HHr5.out.kept (Kept.of_below (X := none') hbd3) (fun h => h))
                have HFa := Lib.hid (factor_whole wc L hL1 hL2 hL3)
                clear hsw hbd3 hL1 hL2 hL3
                obtain ⟨nb, hnb⟩ : ∃ nb, nb = b.length := ⟨_, rfl⟩
                have hwn : wn = wt.length := HSw.out.len.symm
                clear HFre HFc HHr5 HHr4
                go_wp2_with fail
                refine HFa.out.mono ?_
                rintro e wf ⟨gw, cw, a1', c1', a2, c2, a4, c4, kk, rfl, hra, hsb, hst, hbf⟩
                rw [strB_bl, strB_bl, ← hnb, ← hwn] at hra
                rw [← hnb] at hsb
                rw [← hwn] at hst
                have d0 : wf.cell? ⟨gw, 0, none⟩ = some (.string me) := hra 0 _ rfl
                have d1 : wf.cell? ⟨gw, 1, none⟩ = some (.string pa) := hra 1 _ rfl
                have d2 : wf.cell? ⟨gw, 2, none⟩ = some (.slice a1' G.length c1') := hra 2 _ rfl
                have d3 : wf.cell? ⟨gw, 3, none⟩ = some (.slice a2 nb c2) := hra 3 _ rfl
                have d4 : wf.cell? ⟨gw, 4, none⟩ = some (.slice a4 wn c4) := hra 4 _ rfl
                have d5 : wf.cell? ⟨gw, 5, none⟩ = some (.int .i64 kk) := hra 5 _ rfl
                have HBf : Hid (Below w.heap.size w wf) := Lib.hid (HBd3.out.trans (hbf.mono HBd3.out.size))
                have HHf : Hid (Has wf g5 24 (rqC me sc au pa a3 k c3 len)) := Lib.hid (HHd3.out.kept (Kept.of_below (X := none') hbf) (fun h => h))
                have HSwf := Lib.hid (HSw.out.below hbf)
                have HSb := Lib.hid hsb
                have HSt := Lib.hid hst
                clear hra hsb hst hbf HFa hwn hnb
                go_upto_region 34 with fail
                obtain ⟨wg, hwg⟩ : ∃ wg, wg = wf.alloc (.cells #[.string me, .string pa, .slice a1' G.length c1', .slice a2 nb c2, .slice a4 wn c4, .int .i64 kk] 58) := ⟨_, rfl⟩
                obtain ⟨g9, hg9⟩ : ∃ g9, g9 = wf.heap.size := ⟨_, rfl⟩
                have hbg : Below wf.heap.size wf wg := by rw [hwg]; exact (Below.refl _ wf).alloc (Nat.le_refl _) _
                have hh9 : Has wg g9 58 [.string me, .string pa, .slice a1' G.length c1', .slice a2 nb c2, .slice a4 wn c4, .int .i64 kk] := by rw [hwg, hg9]; exact Has.new wf 58 #[.string me, .string pa, .slice a1' G.length c1', .slice a2 nb c2, .slice a4 wn c4, .int .i64 kk]
                have HBg : Hid (Below w.heap.size w wg) := Lib.hid (HBf.out.trans (hbg.mono HBf.out.size))
                have HHg : Hid (Has wg g5 24 (rqC me sc au pa a3 k c3 len)) := Lib.hid (HHf.out.kept (Kept.of_below (X := none') hbg) (fun h => h))
                have x0 := hh9.cell 0 rfl
                have x1 := hh9.cell 1 rfl
                have x3 := hh9.cell 3 rfl
                have x4 := hh9.cell 4 rfl
                have b0 := HHg.out.cell 0 rfl
                have b3 := HHg.out.cell 3 rfl
                have hsa := same_any wg (HSb.out.below hbg) (HBA.out.sb.below HBg.out)
                rw [decide_eq_true rfl] at hsa
                have HSa := Lib.hid hsa
                have HSwg := Lib.hid (HSwf.out.below hbg)
                have HStg := Lib.hid (HSt.out.below hbg)
                have HH9 := Lib.hid hh9
                rw [← hwg, ← hg9]
                clear hwg hg9 hbg hh9 hsa d0 d1 d2 d3 d4 d5
                go_wp2_with fail
                refine HSa.out.mono ?_
                rintro e v1 ⟨rfl, hv1⟩
                have HBv : Hid (Below w.heap.size w v1) := Lib.hid (HBg.out.trans (hv1.mono HBg.out.size))
                have x4' : v1.cell? ⟨g9, 4, none⟩ = some (.slice a4 wn c4) := (HH9.out.kept (Kept.of_below (X := none') hv1) (fun h => h)).cell 4 rfl
                have HSm2 := Lib.hid (sames_eq v1 (HStg.out.below hv1) (HSwg.out.below hv1))
                clear hv1 HSa x0 x1 x3 x4 b0 b3
                go_wp2_with fail
                refine HSm2.out.mono ?_
                rintro e v2 ⟨rfl, hv2⟩
                have HBv2 : Hid (Below w.heap.size w v2) := Lib.hid (HBv.out.trans (hv2.mono HBv.out.size))
                have HAv := Lib.hid (HAw.out v2 HBv2.out)
                clear hv2 HSm2
                go_wp2_with fail
                refine HAv.out.mono ?_
                rintro e v3 ⟨rfl, hv3⟩
                have HBv3 : Hid (Below w.heap.size w v3) := Lib.hid (HBv2.out.trans (hv3.mono HBv2.out.size))
                clear hv3
                go_wp2
                go_ret
                exact ⟨rfl, HBv3.out⟩
            · have y1 : (Z != 0) = true := by simpa using hz0
              rw [y1]
              have HAc := Lib.hid (HAw.out wc HBc.out)
              clear y1 hz0
              go_wp2_with fail
              refine HAc.out.mono ?_
              rintro e w4 ⟨rfl, hb4⟩
              have HB4 : Hid (Below w.heap.size w w4) := Lib.hid (HBc.out.trans (hb4.mono HBc.out.size))
              clear hb4
              go_wp2
              go_ret
              exact ⟨rfl, HB4.out⟩
  · have y1 : (er == 0) = false := by simpa using h0
    have HA3 := Lib.hid (HAw.out w3 HB3.out)
    rw [y1]
    clear h0 y1
    go_wp2_with fail
    refine HA3.out.mono ?_
    rintro e w4 ⟨rfl, hb4⟩
    have HB4 : Hid (Below w.heap.size w w4) := Lib.hid (HB3.out.trans (hb4.mono HB3.out.size))
    clear hb4
    go_wp2
    go_ret
    exact ⟨rfl, HB4.out⟩
end Go.Proofs.YtohinaohcndndaaDoor

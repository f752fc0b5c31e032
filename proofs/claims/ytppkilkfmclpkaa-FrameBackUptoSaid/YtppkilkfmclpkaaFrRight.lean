/- Contracts of frame.rightSpans and (Frame).right (printed by gen_frright.py). No condition. -/
import Derived.Test.YtppkilkfmclpkaaFrNums
namespace Go.Proofs.Ytppkilkfmclpkaa
open Go.RowKit

/-- spans in order, apart, behind last -/
def spsOk : Int → List Sn → Bool
  | _, [] => true
  | last, x :: r => !(decide (4611686018427387903 < x.to_) || decide (x.from_ ≤ last + 1) || decide (x.to_ < x.from_)) && spsOk x.to_ r
def rspV (l : List Sn) : Bool := spsOk (-2) l && (decide (0 < l.length) && decide (l.length ≤ 64))
theorem spsOk_last {last : Int} {x : Sn} {r : List Sn} (h1 : -2 ≤ last) (h : ¬ 4611686018427387903 < x.to_) (h2 : ¬ x.from_ ≤ last + 1) (h3 : ¬ x.to_ < x.from_) : spsOk last (x :: r) = spsOk x.to_ r ∧ -2 ≤ x.to_ := by
  refine ⟨?_, by omega⟩
  rw [spsOk]
  simp [h, h2, h3]
theorem spsOk_bad {last : Int} {x : Sn} {r : List Sn} (h : 4611686018427387903 < x.to_ ∨ x.from_ ≤ last + 1 ∨ x.to_ < x.from_) : spsOk last (x :: r) = false := by
  rw [spsOk]
  rcases h with h | h | h <;> simp [h]
set_option maxRecDepth 100000 in
set_option maxHeartbeats 2000000 in
theorem rsp_any (w : World) {a : Option Addr} {n c : Nat} {l : List Sn} (h : SlS w a n c l) : Calls Try.prog 45 #[.slice a n c] w (BoolOf w (rspV l)) := by
  have hl := h.len
  have hc1 := h.cap
  have hc2 := h.max
  have HS := Lib.hid h
  have HL := Lib.hid hl
  clear h hl
  go_enter Try.func45, Try.ntmps45
  go_wp2_with fail
  go_loopw [3, 8] (fun lv v wr => ∃ (i : Nat) (last : Int), lv = .int .i64 last ∧ v = .int .i64 (i : Int) ∧ i ≤ n ∧ -2 ≤ last ∧ last ≤ 4611686018427387903 ∧ Hid (spsOk (-2) l = spsOk last (l.drop i)) ∧ Below w.heap.size w wr) (fun _ v _ => n - (intOf v).toNat)
  case atStart => exact ⟨0, -2, rfl, rfl, Nat.zero_le _, by decide, by decide, Lib.hid rfl, Below.refl _ _⟩
  case round =>
    obtain ⟨i, last, rfl, rfl, hin, hl2, hl3, HP, hb⟩ := hrel
    by_cases hi : i < n
    · have hil : (i : Int) < (n : Int) := by omega
      have hiz : i < l.length := by rw [HL.out]; exact hi
      obtain ⟨b, off, rfl, hcs⟩ := HS.out.cells (by omega)
      obtain ⟨p0, p1⟩ := hcs i hiz
      have p0 : wr.cell? ⟨b, off + i * 2, none⟩ = some (.int .i64 l[i].from_) := by rw [hb.cell (World.block_lt_of_cell? w _ p0)]; exact p0
      have p1 : wr.cell? ⟨b, off + i * 2 + 1, none⟩ = some (.int .i64 l[i].to_) := by rw [hb.cell (World.block_lt_of_cell? w _ p1)]; exact p1
      have HD : Hid (l.drop i = l[i] :: l.drop (i + 1)) := Lib.hid (List.drop_eq_getElem_cons hiz)
      obtain ⟨x, hx⟩ : ∃ x, x = l[i] := ⟨_, rfl⟩
      rw [← hx] at p0 p1 HD
      obtain ⟨sf, st⟩ := x
      simp only at p0 p1
      have hiw : RowKit.wrap64 ((i : Int) + 1) = (i : Int) + 1 := by unfold maxLen at hc2; unfold RowKit.wrap64; omega
      have hlw : IntKind.i64.wrap (last + 1) = last + 1 := by rw [IntKind.wrap_i64]; omega
      have hlw2 : RowKit.wrap64 (last + 1) = last + 1 := by unfold RowKit.wrap64; omega
      have HIw := Lib.hid hiw
      have HI := Lib.hid hi
      have HBw : Hid (Below w.heap.size w (wr.alloc (.cells #[.int .i64 sf, .int .i64 st] 53))) := Lib.hid (hb.alloc hb.size _)
      have HLa := Lib.hid hl2
      by_cases c1 : 4611686018427387903 < st
      · have HR : Hid (rspV l = false) := Lib.hid (by unfold rspV; rw [HP.out, HD.out, spsOk_bad (.inl c1)]; rfl)
        clear hcs hx hb hi hiw
        go_wp2
        go_ret
        exact ⟨ret_bool HR.out.symm, HBw.out⟩
      · by_cases c2 : sf ≤ last + 1
        · have HR : Hid (rspV l = false) := Lib.hid (by unfold rspV; rw [HP.out, HD.out, spsOk_bad (.inr (.inl c2))]; rfl)
          clear hcs hx hb hi hiw
          go_wp2
          go_ret
          exact ⟨ret_bool HR.out.symm, HBw.out⟩
        · by_cases c3 : st < sf
          · have HR : Hid (rspV l = false) := Lib.hid (by unfold rspV; rw [HP.out, HD.out, spsOk_bad (.inr (.inr c3))]; rfl)
            clear hcs hx hb hi hiw
            go_wp2
            go_ret
            exact ⟨ret_bool HR.out.symm, HBw.out⟩
          · have HN := Lib.hid (spsOk_last (x := ⟨sf, st⟩) (r := l.drop (i + 1)) HLa.out c1 c2 c3)
            have HT : Hid (st ≤ 4611686018427387903) := Lib.hid (by omega)
            clear hcs hx hb hi hiw
            go_wp2_with fail
            go_roundw
            case rel => exact ⟨i + 1, st, rfl, by rw [HIw.out]; push_cast; rfl, HI.out, HN.out.2, HT.out, Lib.hid (by rw [HP.out, HD.out, HN.out.1]), HBw.out⟩
            case measure => rw [HIw.out]; exact meas_up HI.out
    · have hil : ¬ (i : Int) < (n : Int) := by omega
      have HR : Hid (spsOk (-2) l = true) := Lib.hid (by rw [HP.out, List.drop_of_length_le (by rw [HL.out]; omega)]; rfl)
      have HBw := Lib.hid hb
      clear hb
      by_cases c1 : 0 < n
      · have d1 : (0 : Int) < (n : Int) := by omega
        by_cases c2 : n ≤ 64
        · have d2 : (n : Int) ≤ 64 := by omega
          have HF : Hid (rspV l = true) := Lib.hid (by unfold rspV; rw [HR.out, HL.out]; simp [c1, c2])
          clear c1 c2
          go_wp2
          go_ret
          exact ⟨ret_bool HF.out.symm, HBw.out⟩
        · have d2 : ¬ (n : Int) ≤ 64 := by omega
          have HF : Hid (rspV l = false) := Lib.hid (by unfold rspV; rw [HR.out, HL.out]; simp [c2])
          clear c1 c2
          go_wp2
          go_ret
          exact ⟨ret_bool HF.out.symm, HBw.out⟩
      · have d1 : ¬ (0 : Int) < (n : Int) := by omega
        have HF : Hid (rspV l = false) := Lib.hid (by unfold rspV; rw [HR.out, HL.out]; simp [c1])
        clear c1
        go_wp2
        go_ret
        exact ⟨ret_bool HF.out.symm, HBw.out⟩

/-- are the fields right? -/
def rightV (f : Fm) : Bool :=
  if f.kind = 0 then decide (1 ≤ f.n) && decide (f.n ≤ 16384)
  else if f.kind = 2 then rspV f.spans && numB f.delay
  else if f.kind = 3 then rspV f.spans && (numB f.delay && [f.e0, f.e1, f.e2].all numB)
  else if f.kind = 4 then [f.id, f.code, f.n].all numB
  else if f.kind = 5 then [f.id, f.code].all numB
  else if f.kind = 6 then numB f.at_ && decide (f.at_ ≤ 4611686018427387903 - (f.data.length : Int))
  else if f.kind = 7 then decide (0 < f.data.length)
  else if f.kind = 8 then [f.id, f.at_].all numB && decide (f.at_ ≤ 4611686018427387903 - (f.data.length : Int))
  else if f.kind = 17 ∨ f.kind = 21 then [f.id, f.n].all numB
  else if f.kind = 18 ∨ f.kind = 19 ∨ f.kind = 22 ∨ f.kind = 23 then decide (0 ≤ f.n) && decide (f.n ≤ 1152921504606846976)
  else if f.kind = 24 then [f.n, f.at_].all numB && (decide (f.at_ ≤ f.n) && (decide (1 ≤ f.cid.length) && (decide (f.cid.length ≤ 20) && decide (f.data.length = 16))))
  else if f.kind = 26 ∨ f.kind = 27 then decide (f.data.length = 8)
  else if f.kind = 28 then [f.code, f.n].all numB
  else if f.kind = 29 then [f.code].all numB
  else if f.kind = 16 ∨ f.kind = 20 ∨ f.kind = 25 then [f.n].all numB
  else true
theorem one_sl (w : World) {t : TypeId} (x : Int) : Sl (w.alloc (.cells #[.int .i64 x] t)) (some ⟨w.heap.size, 0, none⟩) 1 1 (iv .i64 [x]) := by
  refine ⟨rfl, Nat.le_refl _, by decide, by simp, fun _ => ⟨_, 0, rfl, fun i hi => ?_⟩⟩
  match i, hi with
  | 0, _ => simp [iv]
theorem two_sl (w : World) {t : TypeId} (x y : Int) : Sl (w.alloc (.cells #[.int .i64 x, .int .i64 y] t)) (some ⟨w.heap.size, 0, none⟩) 2 2 (iv .i64 [x, y]) := by
  refine ⟨rfl, Nat.le_refl _, by decide, by simp, fun _ => ⟨_, 0, rfl, fun i hi => ?_⟩⟩
  match i, hi with
  | 0, _ => simp [iv]
  | 1, _ => simp [iv]
theorem three_sl (w : World) {t : TypeId} (x y z : Int) : Sl (w.alloc (.cells #[.int .i64 x, .int .i64 y, .int .i64 z] t)) (some ⟨w.heap.size, 0, none⟩) 3 3 (iv .i64 [x, y, z]) := by
  refine ⟨rfl, Nat.le_refl _, by decide, by simp, fun _ => ⟨_, 0, rfl, fun i hi => ?_⟩⟩
  match i, hi with
  | 0, _ => simp [iv]
  | 1, _ => simp [iv]
  | 2, _ => simp [iv]
theorem alB (w : World) (o : Obj) : Below w.heap.size w (w.alloc o) := (Below.refl _ _).alloc (Nat.le_refl _) _

set_option maxRecDepth 100000 in
set_option maxHeartbeats 4000000 in
theorem right_0 (w : World) (i t n c : Int) (fi : Bool) (dt ci : List UInt8) (sp : List Sn) (dl e0 e1 e2 : Int) (da : Option Addr) (dc : Nat) (ca : Option Addr) (cc : Nat) (sa : Option Addr) (sc : Nat) (_ : dt.length ≤ 140737488355328) :
    Calls Try.prog 28 #[.agg (fcells ⟨0, i, t, n, c, fi, dt, ci, sp, dl, e0, e1, e2⟩ ⟨da, dc, ca, cc, sa, sc⟩).toArray] w (BoolOf w (rightV ⟨0, i, t, n, c, fi, dt, ci, sp, dl, e0, e1, e2⟩)) := by
  obtain ⟨R, hR⟩ : ∃ R, R = rightV ⟨0, i, t, n, c, fi, dt, ci, sp, dl, e0, e1, e2⟩ := ⟨_, rfl⟩
  rw [← hR]
  obtain ⟨dn, hdn⟩ : ∃ dn, dn = dt.length := ⟨_, rfl⟩
  obtain ⟨cn, hcn⟩ : ∃ cn, cn = ci.length := ⟨_, rfl⟩
  obtain ⟨sn, hsn⟩ : ∃ sn, sn = sp.length := ⟨_, rfl⟩
  have hf : fcells ⟨0, i, t, n, c, fi, dt, ci, sp, dl, e0, e1, e2⟩ ⟨da, dc, ca, cc, sa, sc⟩ = [.int .i64 0, .int .i64 i, .int .i64 t, .int .i64 n, .int .i64 c, .bool fi, .slice da dn dc, .slice ca cn cc, .slice sa sn sc, .int .i64 dl, .int .i64 e0, .int .i64 e1, .int .i64 e2] := by rw [hdn, hcn, hsn]; rfl
  rw [hf]
  obtain ⟨w2, hw2⟩ : ∃ w2, w2 = w.alloc (.cells #[.int .i64 0, .int .i64 i, .int .i64 t, .int .i64 n, .int .i64 c, .bool fi, .slice da dn dc, .slice ca cn cc, .slice sa sn sc, .int .i64 dl, .int .i64 e0, .int .i64 e1, .int .i64 e2] 26) := ⟨_, rfl⟩
  have HB : Hid (Below w.heap.size w w2) := Lib.hid (by rw [hw2]; exact alB w _)
  obtain ⟨xb, hxb⟩ : ∃ xb, xb = w.heap.size := ⟨_, rfl⟩
  have HG : Hid (Has w2 xb 26 [.int .i64 0, .int .i64 i, .int .i64 t, .int .i64 n, .int .i64 c, .bool fi, .slice da dn dc, .slice ca cn cc, .slice sa sn sc, .int .i64 dl, .int .i64 e0, .int .i64 e1, .int .i64 e2]) := Lib.hid (by rw [hw2, hxb]; exact Has.new _ _ _)
  have HR : Hid (R = (decide (1 ≤ n) && decide (n ≤ 16384))) := Lib.hid (by rw [hR]; rfl)
  clear hR
  clear hf
  have HD := Lib.hid hdn
  have HCn := Lib.hid hcn
  clear hdn hcn hsn
  go_enter Try.func28, Try.ntmps28
  go_upto_region 1 with fail
  rw [← hw2, ← hxb]
  clear hw2 hxb
  have g0 := HG.out.cell 0 rfl
  have g1 := HG.out.cell 1 rfl
  have g2 := HG.out.cell 2 rfl
  have g3 := HG.out.cell 3 rfl
  have g4 := HG.out.cell 4 rfl
  have g5 := HG.out.cell 5 rfl
  have g6 := HG.out.cell 6 rfl
  have g7 := HG.out.cell 7 rfl
  have g8 := HG.out.cell 8 rfl
  have g9 := HG.out.cell 9 rfl
  have g10 := HG.out.cell 10 rfl
  have g11 := HG.out.cell 11 rfl
  have g12 := HG.out.cell 12 rfl
  by_cases c1 : 1 ≤ n
  · by_cases c2 : n ≤ 16384
    · have HF : Hid (R = true) := Lib.hid (by rw [HR.out]; simp [c1, c2])
      go_wp2
      go_ret
      exact ⟨ret_bool HF.out.symm, HB.out⟩
    · have HF : Hid (R = false) := Lib.hid (by rw [HR.out]; simp [c2])
      go_wp2
      go_ret
      exact ⟨ret_bool HF.out.symm, HB.out⟩
  · have HF : Hid (R = false) := Lib.hid (by rw [HR.out]; simp [c1])
    go_wp2
    go_ret
    exact ⟨ret_bool HF.out.symm, HB.out⟩
set_option maxRecDepth 100000 in
set_option maxHeartbeats 4000000 in
theorem right_1 (w : World) (i t n c : Int) (fi : Bool) (dt ci : List UInt8) (sp : List Sn) (dl e0 e1 e2 : Int) (da : Option Addr) (dc : Nat) (ca : Option Addr) (cc : Nat) (sa : Option Addr) (sc : Nat) (_ : dt.length ≤ 140737488355328) :
    Calls Try.prog 28 #[.agg (fcells ⟨1, i, t, n, c, fi, dt, ci, sp, dl, e0, e1, e2⟩ ⟨da, dc, ca, cc, sa, sc⟩).toArray] w (BoolOf w (rightV ⟨1, i, t, n, c, fi, dt, ci, sp, dl, e0, e1, e2⟩)) := by
  obtain ⟨R, hR⟩ : ∃ R, R = rightV ⟨1, i, t, n, c, fi, dt, ci, sp, dl, e0, e1, e2⟩ := ⟨_, rfl⟩
  rw [← hR]
  obtain ⟨dn, hdn⟩ : ∃ dn, dn = dt.length := ⟨_, rfl⟩
  obtain ⟨cn, hcn⟩ : ∃ cn, cn = ci.length := ⟨_, rfl⟩
  obtain ⟨sn, hsn⟩ : ∃ sn, sn = sp.length := ⟨_, rfl⟩
  have hf : fcells ⟨1, i, t, n, c, fi, dt, ci, sp, dl, e0, e1, e2⟩ ⟨da, dc, ca, cc, sa, sc⟩ = [.int .i64 1, .int .i64 i, .int .i64 t, .int .i64 n, .int .i64 c, .bool fi, .slice da dn dc, .slice ca cn cc, .slice sa sn sc, .int .i64 dl, .int .i64 e0, .int .i64 e1, .int .i64 e2] := by rw [hdn, hcn, hsn]; rfl
  rw [hf]
  obtain ⟨w2, hw2⟩ : ∃ w2, w2 = w.alloc (.cells #[.int .i64 1, .int .i64 i, .int .i64 t, .int .i64 n, .int .i64 c, .bool fi, .slice da dn dc, .slice ca cn cc, .slice sa sn sc, .int .i64 dl, .int .i64 e0, .int .i64 e1, .int .i64 e2] 26) := ⟨_, rfl⟩
  have HB : Hid (Below w.heap.size w w2) := Lib.hid (by rw [hw2]; exact alB w _)
  obtain ⟨xb, hxb⟩ : ∃ xb, xb = w.heap.size := ⟨_, rfl⟩
  have HG : Hid (Has w2 xb 26 [.int .i64 1, .int .i64 i, .int .i64 t, .int .i64 n, .int .i64 c, .bool fi, .slice da dn dc, .slice ca cn cc, .slice sa sn sc, .int .i64 dl, .int .i64 e0, .int .i64 e1, .int .i64 e2]) := Lib.hid (by rw [hw2, hxb]; exact Has.new _ _ _)
  have HR : Hid (R = true) := Lib.hid (by rw [hR]; rfl)
  clear hR
  clear hf
  have HD := Lib.hid hdn
  have HCn := Lib.hid hcn
  clear hdn hcn hsn
  go_enter Try.func28, Try.ntmps28
  go_upto_region 1 with fail
  rw [← hw2, ← hxb]
  clear hw2 hxb
  have g0 := HG.out.cell 0 rfl
  have g1 := HG.out.cell 1 rfl
  have g2 := HG.out.cell 2 rfl
  have g3 := HG.out.cell 3 rfl
  have g4 := HG.out.cell 4 rfl
  have g5 := HG.out.cell 5 rfl
  have g6 := HG.out.cell 6 rfl
  have g7 := HG.out.cell 7 rfl
  have g8 := HG.out.cell 8 rfl
  have g9 := HG.out.cell 9 rfl
  have g10 := HG.out.cell 10 rfl
  have g11 := HG.out.cell 11 rfl
  have g12 := HG.out.cell 12 rfl
  go_wp2
  go_ret
  exact ⟨ret_bool HR.out.symm, HB.out⟩
set_option maxRecDepth 100000 in
set_option maxHeartbeats 4000000 in
theorem right_2 (w : World) (i t n c : Int) (fi : Bool) (dt ci : List UInt8) (sp : List Sn) (dl e0 e1 e2 : Int) (da : Option Addr) (dc : Nat) (ca : Option Addr) (cc : Nat) (sa : Option Addr) (sc : Nat) (_ : dt.length ≤ 140737488355328) (hs : SlS w sa sp.length sc sp) :
    Calls Try.prog 28 #[.agg (fcells ⟨2, i, t, n, c, fi, dt, ci, sp, dl, e0, e1, e2⟩ ⟨da, dc, ca, cc, sa, sc⟩).toArray] w (BoolOf w (rightV ⟨2, i, t, n, c, fi, dt, ci, sp, dl, e0, e1, e2⟩)) := by
  obtain ⟨R, hR⟩ : ∃ R, R = rightV ⟨2, i, t, n, c, fi, dt, ci, sp, dl, e0, e1, e2⟩ := ⟨_, rfl⟩
  rw [← hR]
  obtain ⟨dn, hdn⟩ : ∃ dn, dn = dt.length := ⟨_, rfl⟩
  obtain ⟨cn, hcn⟩ : ∃ cn, cn = ci.length := ⟨_, rfl⟩
  obtain ⟨sn, hsn⟩ : ∃ sn, sn = sp.length := ⟨_, rfl⟩
  have hf : fcells ⟨2, i, t, n, c, fi, dt, ci, sp, dl, e0, e1, e2⟩ ⟨da, dc, ca, cc, sa, sc⟩ = [.int .i64 2, .int .i64 i, .int .i64 t, .int .i64 n, .int .i64 c, .bool fi, .slice da dn dc, .slice ca cn cc, .slice sa sn sc, .int .i64 dl, .int .i64 e0, .int .i64 e1, .int .i64 e2] := by rw [hdn, hcn, hsn]; rfl
  rw [hf]
  obtain ⟨w2, hw2⟩ : ∃ w2, w2 = w.alloc (.cells #[.int .i64 2, .int .i64 i, .int .i64 t, .int .i64 n, .int .i64 c, .bool fi, .slice da dn dc, .slice ca cn cc, .slice sa sn sc, .int .i64 dl, .int .i64 e0, .int .i64 e1, .int .i64 e2] 26) := ⟨_, rfl⟩
  have HB : Hid (Below w.heap.size w w2) := Lib.hid (by rw [hw2]; exact alB w _)
  obtain ⟨xb, hxb⟩ : ∃ xb, xb = w.heap.size := ⟨_, rfl⟩
  have HG : Hid (Has w2 xb 26 [.int .i64 2, .int .i64 i, .int .i64 t, .int .i64 n, .int .i64 c, .bool fi, .slice da dn dc, .slice ca cn cc, .slice sa sn sc, .int .i64 dl, .int .i64 e0, .int .i64 e1, .int .i64 e2]) := Lib.hid (by rw [hw2, hxb]; exact Has.new _ _ _)
  have HS : Hid (SlS w2 sa sn sc sp) := Lib.hid (by rw [hsn]; exact hs.below HB.out)
  have HR : Hid (R = (rspV sp && numB dl)) := Lib.hid (by rw [hR]; rfl)
  clear hR
  clear hf hs
  have HD := Lib.hid hdn
  have HCn := Lib.hid hcn
  clear hdn hcn hsn
  go_enter Try.func28, Try.ntmps28
  go_upto_region 1 with fail
  rw [← hw2, ← hxb]
  clear hw2 hxb
  have g0 := HG.out.cell 0 rfl
  have g1 := HG.out.cell 1 rfl
  have g2 := HG.out.cell 2 rfl
  have g3 := HG.out.cell 3 rfl
  have g4 := HG.out.cell 4 rfl
  have g5 := HG.out.cell 5 rfl
  have g6 := HG.out.cell 6 rfl
  have g7 := HG.out.cell 7 rfl
  have g8 := HG.out.cell 8 rfl
  have g9 := HG.out.cell 9 rfl
  have g10 := HG.out.cell 10 rfl
  have g11 := HG.out.cell 11 rfl
  have g12 := HG.out.cell 12 rfl
  have HSp := Lib.hid (rsp_any w2 HS.out)
  cases hb1 : rspV sp with
  | false =>
    rw [hb1] at HSp
    have HF : Hid (R = false) := Lib.hid (by rw [HR.out, hb1]; rfl)
    clear hb1
    go_wp2_with fail
    refine HSp.out.mono ?_
    rintro e w3 ⟨rfl, hb3⟩
    have HB3 := Lib.hid (HB.out.trans (hb3.mono HB.out.size))
    have HG3 := Lib.hid (HG.out.kept (Kept.of_below (X := none') hb3) (fun h => h))
    clear hb3
    go_wp2
    go_ret
    exact ⟨ret_bool HF.out.symm, HB3.out⟩
  | true =>
    rw [hb1] at HSp
    cases hb2 : numB dl with
    | false =>
      have HF : Hid (R = false) := Lib.hid (by rw [HR.out, hb1, hb2]; rfl)
      clear hb1
      go_wp2_with fail
      refine HSp.out.mono ?_
      rintro e w3 ⟨rfl, hb3⟩
      have HB3 := Lib.hid (HB.out.trans (hb3.mono HB.out.size))
      have HG3 := Lib.hid (HG.out.kept (Kept.of_below (X := none') hb3) (fun h => h))
      clear hb3
      have g9 := HG3.out.cell 9 rfl
      have g0 := HG3.out.cell 0 rfl
      have HN := Lib.hid (numbersF_any (w3.alloc (.cells #[.int .i64 dl] 3)) (one_sl w3 dl))
      rw [show [dl].all numB = numB dl by simp, hb2] at HN
      have HBa := Lib.hid (HB3.out.trans ((alB w3 (.cells #[.int .i64 dl] 3)).mono HB3.out.size))
      have HGa := Lib.hid (HG3.out.kept (Kept.of_below (X := none') (alB w3 (.cells #[.int .i64 dl] 3))) (fun h => h))
      have HB2 := Lib.hid hb2
      clear hb2
      go_wp2_with fail
      refine HN.out.mono ?_
      rintro e w4 ⟨rfl, hb4⟩
      have HB4 := Lib.hid (HBa.out.trans (hb4.mono HBa.out.size))
      have HG4 := Lib.hid (HGa.out.kept (Kept.of_below (X := none') hb4) (fun h => h))
      clear hb4
      have g0 := HG4.out.cell 0 rfl
      go_wp2
      go_ret
      exact ⟨ret_bool HF.out.symm, HB4.out⟩
    | true =>
      have HF : Hid (R = true) := Lib.hid (by rw [HR.out, hb1, hb2]; rfl)
      clear hb1
      go_wp2_with fail
      refine HSp.out.mono ?_
      rintro e w3 ⟨rfl, hb3⟩
      have HB3 := Lib.hid (HB.out.trans (hb3.mono HB.out.size))
      have HG3 := Lib.hid (HG.out.kept (Kept.of_below (X := none') hb3) (fun h => h))
      clear hb3
      have g9 := HG3.out.cell 9 rfl
      have g0 := HG3.out.cell 0 rfl
      have HN := Lib.hid (numbersF_any (w3.alloc (.cells #[.int .i64 dl] 3)) (one_sl w3 dl))
      rw [show [dl].all numB = numB dl by simp, hb2] at HN
      have HBa := Lib.hid (HB3.out.trans ((alB w3 (.cells #[.int .i64 dl] 3)).mono HB3.out.size))
      have HGa := Lib.hid (HG3.out.kept (Kept.of_below (X := none') (alB w3 (.cells #[.int .i64 dl] 3))) (fun h => h))
      have HB2 := Lib.hid hb2
      clear hb2
      go_wp2_with fail
      refine HN.out.mono ?_
      rintro e w4 ⟨rfl, hb4⟩
      have HB4 := Lib.hid (HBa.out.trans (hb4.mono HBa.out.size))
      have HG4 := Lib.hid (HGa.out.kept (Kept.of_below (X := none') hb4) (fun h => h))
      clear hb4
      have g0 := HG4.out.cell 0 rfl
      go_wp2
      go_ret
      exact ⟨ret_bool HF.out.symm, HB4.out⟩
set_option maxRecDepth 100000 in
set_option maxHeartbeats 4000000 in
theorem right_3 (w : World) (i t n c : Int) (fi : Bool) (dt ci : List UInt8) (sp : List Sn) (dl e0 e1 e2 : Int) (da : Option Addr) (dc : Nat) (ca : Option Addr) (cc : Nat) (sa : Option Addr) (sc : Nat) (_ : dt.length ≤ 140737488355328) (hs : SlS w sa sp.length sc sp) :
    Calls Try.prog 28 #[.agg (fcells ⟨3, i, t, n, c, fi, dt, ci, sp, dl, e0, e1, e2⟩ ⟨da, dc, ca, cc, sa, sc⟩).toArray] w (BoolOf w (rightV ⟨3, i, t, n, c, fi, dt, ci, sp, dl, e0, e1, e2⟩)) := by
  obtain ⟨R, hR⟩ : ∃ R, R = rightV ⟨3, i, t, n, c, fi, dt, ci, sp, dl, e0, e1, e2⟩ := ⟨_, rfl⟩
  rw [← hR]
  obtain ⟨dn, hdn⟩ : ∃ dn, dn = dt.length := ⟨_, rfl⟩
  obtain ⟨cn, hcn⟩ : ∃ cn, cn = ci.length := ⟨_, rfl⟩
  obtain ⟨sn, hsn⟩ : ∃ sn, sn = sp.length := ⟨_, rfl⟩
  have hf : fcells ⟨3, i, t, n, c, fi, dt, ci, sp, dl, e0, e1, e2⟩ ⟨da, dc, ca, cc, sa, sc⟩ = [.int .i64 3, .int .i64 i, .int .i64 t, .int .i64 n, .int .i64 c, .bool fi, .slice da dn dc, .slice ca cn cc, .slice sa sn sc, .int .i64 dl, .int .i64 e0, .int .i64 e1, .int .i64 e2] := by rw [hdn, hcn, hsn]; rfl
  rw [hf]
  obtain ⟨w2, hw2⟩ : ∃ w2, w2 = w.alloc (.cells #[.int .i64 3, .int .i64 i, .int .i64 t, .int .i64 n, .int .i64 c, .bool fi, .slice da dn dc, .slice ca cn cc, .slice sa sn sc, .int .i64 dl, .int .i64 e0, .int .i64 e1, .int .i64 e2] 26) := ⟨_, rfl⟩
  have HB : Hid (Below w.heap.size w w2) := Lib.hid (by rw [hw2]; exact alB w _)
  obtain ⟨xb, hxb⟩ : ∃ xb, xb = w.heap.size := ⟨_, rfl⟩
  have HG : Hid (Has w2 xb 26 [.int .i64 3, .int .i64 i, .int .i64 t, .int .i64 n, .int .i64 c, .bool fi, .slice da dn dc, .slice ca cn cc, .slice sa sn sc, .int .i64 dl, .int .i64 e0, .int .i64 e1, .int .i64 e2]) := Lib.hid (by rw [hw2, hxb]; exact Has.new _ _ _)
  have HS : Hid (SlS w2 sa sn sc sp) := Lib.hid (by rw [hsn]; exact hs.below HB.out)
  have HR : Hid (R = (rspV sp && (numB dl && [e0, e1, e2].all numB))) := Lib.hid (by rw [hR]; rfl)
  clear hR
  clear hf hs
  have HD := Lib.hid hdn
  have HCn := Lib.hid hcn
  clear hdn hcn hsn
  go_enter Try.func28, Try.ntmps28
  go_upto_region 1 with fail
  rw [← hw2, ← hxb]
  clear hw2 hxb
  have g0 := HG.out.cell 0 rfl
  have g1 := HG.out.cell 1 rfl
  have g2 := HG.out.cell 2 rfl
  have g3 := HG.out.cell 3 rfl
  have g4 := HG.out.cell 4 rfl
  have g5 := HG.out.cell 5 rfl
  have g6 := HG.out.cell 6 rfl
  have g7 := HG.out.cell 7 rfl
  have g8 := HG.out.cell 8 rfl
  have g9 := HG.out.cell 9 rfl
  have g10 := HG.out.cell 10 rfl
  have g11 := HG.out.cell 11 rfl
  have g12 := HG.out.cell 12 rfl
  have HSp := Lib.hid (rsp_any w2 HS.out)
  cases hb1 : rspV sp with
  | false =>
    rw [hb1] at HSp
    have HF : Hid (R = false) := Lib.hid (by rw [HR.out, hb1]; rfl)
    clear hb1
    go_wp2_with fail
    refine HSp.out.mono ?_
    rintro e w3 ⟨rfl, hb3⟩
    have HB3 := Lib.hid (HB.out.trans (hb3.mono HB.out.size))
    have HG3 := Lib.hid (HG.out.kept (Kept.of_below (X := none') hb3) (fun h => h))
    clear hb3
    go_wp2
    go_ret
    exact ⟨ret_bool HF.out.symm, HB3.out⟩
  | true =>
    rw [hb1] at HSp
    cases hb2 : numB dl with
    | false =>
      have HF : Hid (R = false) := Lib.hid (by rw [HR.out, hb1, hb2]; rfl)
      clear hb1
      go_wp2_with fail
      refine HSp.out.mono ?_
      rintro e w3 ⟨rfl, hb3⟩
      have HB3 := Lib.hid (HB.out.trans (hb3.mono HB.out.size))
      have HG3 := Lib.hid (HG.out.kept (Kept.of_below (X := none') hb3) (fun h => h))
      clear hb3
      have g9 := HG3.out.cell 9 rfl
      have g0 := HG3.out.cell 0 rfl
      have HN := Lib.hid (numbersF_any (w3.alloc (.cells #[.int .i64 dl] 3)) (one_sl w3 dl))
      rw [show [dl].all numB = numB dl by simp, hb2] at HN
      have HBa := Lib.hid (HB3.out.trans ((alB w3 (.cells #[.int .i64 dl] 3)).mono HB3.out.size))
      have HGa := Lib.hid (HG3.out.kept (Kept.of_below (X := none') (alB w3 (.cells #[.int .i64 dl] 3))) (fun h => h))
      have HB2 := Lib.hid hb2
      clear hb2
      go_wp2_with fail
      refine HN.out.mono ?_
      rintro e w4 ⟨rfl, hb4⟩
      have HB4 := Lib.hid (HBa.out.trans (hb4.mono HBa.out.size))
      have HG4 := Lib.hid (HGa.out.kept (Kept.of_below (X := none') hb4) (fun h => h))
      clear hb4
      have g0 := HG4.out.cell 0 rfl
      go_wp2
      go_ret
      exact ⟨ret_bool HF.out.symm, HB4.out⟩
    | true =>
      cases hb3 : [e0, e1, e2].all numB with
      | false =>
        have HF : Hid (R = false) := Lib.hid (by rw [HR.out, hb1, hb2, hb3]; rfl)
        clear hb1
        go_wp2_with fail
        refine HSp.out.mono ?_
        rintro e w3 ⟨rfl, hb0⟩
        have HB3 := Lib.hid (HB.out.trans (hb0.mono HB.out.size))
        have HG3 := Lib.hid (HG.out.kept (Kept.of_below (X := none') hb0) (fun h => h))
        clear hb0
        have g9 := HG3.out.cell 9 rfl
        have g0 := HG3.out.cell 0 rfl
        have HN := Lib.hid (numbersF_any (w3.alloc (.cells #[.int .i64 dl] 3)) (one_sl w3 dl))
        rw [show [dl].all numB = numB dl by simp, hb2] at HN
        have HBa := Lib.hid (HB3.out.trans ((alB w3 (.cells #[.int .i64 dl] 3)).mono HB3.out.size))
        have HGa := Lib.hid (HG3.out.kept (Kept.of_below (X := none') (alB w3 (.cells #[.int .i64 dl] 3))) (fun h => h))
        have HB2 := Lib.hid hb2
        clear hb2
        go_wp2_with fail
        refine HN.out.mono ?_
        rintro e w4 ⟨rfl, hb4⟩
        have HB4 := Lib.hid (HBa.out.trans (hb4.mono HBa.out.size))
        have HG4 := Lib.hid (HGa.out.kept (Kept.of_below (X := none') hb4) (fun h => h))
        clear hb4
        have g0 := HG4.out.cell 0 rfl
        have HE : Hid (Sl w4 (some ⟨xb, 10, none⟩) 3 3 (iv .i64 [e0, e1, e2])) := Lib.hid ⟨rfl, Nat.le_refl _, by decide, by simp, fun _ => ⟨xb, 10, rfl, fun j hj => by
          match j, hj with
          | 0, _ => exact HG4.out.cell 10 rfl
          | 1, _ => exact HG4.out.cell 11 rfl
          | 2, _ => exact HG4.out.cell 12 rfl⟩⟩
        have HM := Lib.hid (numbersF_any w4 HE.out)
        rw [hb3] at HM
        have HB3' := Lib.hid hb3
        clear hb3
        go_wp2_with fail
        refine HM.out.mono ?_
        rintro e w5 ⟨rfl, hb5⟩
        have HB5 := Lib.hid (HB4.out.trans (hb5.mono HB4.out.size))
        clear hb5
        go_wp2
        go_ret
        exact ⟨ret_bool HF.out.symm, HB5.out⟩
      | true =>
        have HF : Hid (R = true) := Lib.hid (by rw [HR.out, hb1, hb2, hb3]; rfl)
        clear hb1
        go_wp2_with fail
        refine HSp.out.mono ?_
        rintro e w3 ⟨rfl, hb0⟩
        have HB3 := Lib.hid (HB.out.trans (hb0.mono HB.out.size))
        have HG3 := Lib.hid (HG.out.kept (Kept.of_below (X := none') hb0) (fun h => h))
        clear hb0
        have g9 := HG3.out.cell 9 rfl
        have g0 := HG3.out.cell 0 rfl
        have HN := Lib.hid (numbersF_any (w3.alloc (.cells #[.int .i64 dl] 3)) (one_sl w3 dl))
        rw [show [dl].all numB = numB dl by simp, hb2] at HN
        have HBa := Lib.hid (HB3.out.trans ((alB w3 (.cells #[.int .i64 dl] 3)).mono HB3.out.size))
        have HGa := Lib.hid (HG3.out.kept (Kept.of_below (X := none') (alB w3 (.cells #[.int .i64 dl] 3))) (fun h => h))
        have HB2 := Lib.hid hb2
        clear hb2
        go_wp2_with fail
        refine HN.out.mono ?_
        rintro e w4 ⟨rfl, hb4⟩
        have HB4 := Lib.hid (HBa.out.trans (hb4.mono HBa.out.size))
        have HG4 := Lib.hid (HGa.out.kept (Kept.of_below (X := none') hb4) (fun h => h))
        clear hb4
        have g0 := HG4.out.cell 0 rfl
        have HE : Hid (Sl w4 (some ⟨xb, 10, none⟩) 3 3 (iv .i64 [e0, e1, e2])) := Lib.hid ⟨rfl, Nat.le_refl _, by decide, by simp, fun _ => ⟨xb, 10, rfl, fun j hj => by
          match j, hj with
          | 0, _ => exact HG4.out.cell 10 rfl
          | 1, _ => exact HG4.out.cell 11 rfl
          | 2, _ => exact HG4.out.cell 12 rfl⟩⟩
        have HM := Lib.hid (numbersF_any w4 HE.out)
        rw [hb3] at HM
        have HB3' := Lib.hid hb3
        clear hb3
        go_wp2_with fail
        refine HM.out.mono ?_
        rintro e w5 ⟨rfl, hb5⟩
        have HB5 := Lib.hid (HB4.out.trans (hb5.mono HB4.out.size))
        clear hb5
        go_wp2
        go_ret
        exact ⟨ret_bool HF.out.symm, HB5.out⟩
set_option maxRecDepth 100000 in
set_option maxHeartbeats 4000000 in
theorem right_4 (w : World) (i t n c : Int) (fi : Bool) (dt ci : List UInt8) (sp : List Sn) (dl e0 e1 e2 : Int) (da : Option Addr) (dc : Nat) (ca : Option Addr) (cc : Nat) (sa : Option Addr) (sc : Nat) (_ : dt.length ≤ 140737488355328) :
    Calls Try.prog 28 #[.agg (fcells ⟨4, i, t, n, c, fi, dt, ci, sp, dl, e0, e1, e2⟩ ⟨da, dc, ca, cc, sa, sc⟩).toArray] w (BoolOf w (rightV ⟨4, i, t, n, c, fi, dt, ci, sp, dl, e0, e1, e2⟩)) := by
  obtain ⟨R, hR⟩ : ∃ R, R = rightV ⟨4, i, t, n, c, fi, dt, ci, sp, dl, e0, e1, e2⟩ := ⟨_, rfl⟩
  rw [← hR]
  obtain ⟨dn, hdn⟩ : ∃ dn, dn = dt.length := ⟨_, rfl⟩
  obtain ⟨cn, hcn⟩ : ∃ cn, cn = ci.length := ⟨_, rfl⟩
  obtain ⟨sn, hsn⟩ : ∃ sn, sn = sp.length := ⟨_, rfl⟩
  have hf : fcells ⟨4, i, t, n, c, fi, dt, ci, sp, dl, e0, e1, e2⟩ ⟨da, dc, ca, cc, sa, sc⟩ = [.int .i64 4, .int .i64 i, .int .i64 t, .int .i64 n, .int .i64 c, .bool fi, .slice da dn dc, .slice ca cn cc, .slice sa sn sc, .int .i64 dl, .int .i64 e0, .int .i64 e1, .int .i64 e2] := by rw [hdn, hcn, hsn]; rfl
  rw [hf]
  obtain ⟨w2, hw2⟩ : ∃ w2, w2 = w.alloc (.cells #[.int .i64 4, .int .i64 i, .int .i64 t, .int .i64 n, .int .i64 c, .bool fi, .slice da dn dc, .slice ca cn cc, .slice sa sn sc, .int .i64 dl, .int .i64 e0, .int .i64 e1, .int .i64 e2] 26) := ⟨_, rfl⟩
  have HB : Hid (Below w.heap.size w w2) := Lib.hid (by rw [hw2]; exact alB w _)
  obtain ⟨xb, hxb⟩ : ∃ xb, xb = w.heap.size := ⟨_, rfl⟩
  have HG : Hid (Has w2 xb 26 [.int .i64 4, .int .i64 i, .int .i64 t, .int .i64 n, .int .i64 c, .bool fi, .slice da dn dc, .slice ca cn cc, .slice sa sn sc, .int .i64 dl, .int .i64 e0, .int .i64 e1, .int .i64 e2]) := Lib.hid (by rw [hw2, hxb]; exact Has.new _ _ _)
  have HR : Hid (R = [i, c, n].all numB) := Lib.hid (by rw [hR]; rfl)
  clear hR
  clear hf
  have HD := Lib.hid hdn
  have HCn := Lib.hid hcn
  clear hdn hcn hsn
  go_enter Try.func28, Try.ntmps28
  go_upto_region 1 with fail
  rw [← hw2, ← hxb]
  clear hw2 hxb
  have g0 := HG.out.cell 0 rfl
  have g1 := HG.out.cell 1 rfl
  have g2 := HG.out.cell 2 rfl
  have g3 := HG.out.cell 3 rfl
  have g4 := HG.out.cell 4 rfl
  have g5 := HG.out.cell 5 rfl
  have g6 := HG.out.cell 6 rfl
  have g7 := HG.out.cell 7 rfl
  have g8 := HG.out.cell 8 rfl
  have g9 := HG.out.cell 9 rfl
  have g10 := HG.out.cell 10 rfl
  have g11 := HG.out.cell 11 rfl
  have g12 := HG.out.cell 12 rfl
  have HN := Lib.hid (numbersF_any (w2.alloc (.cells #[.int .i64 i, .int .i64 c, .int .i64 n] 3)) (three_sl w2 i c n))
  have HBa := Lib.hid (HB.out.trans ((alB w2 (.cells #[.int .i64 i, .int .i64 c, .int .i64 n] 3)).mono HB.out.size))
  obtain ⟨b1, hb1⟩ : ∃ b1, b1 = [i, c, n].all numB := ⟨_, rfl⟩
  rw [← hb1] at HN
  rw [← hb1] at HR
  clear hb1
  go_wp2_with fail
  refine HN.out.mono ?_
  rintro e w3 ⟨rfl, hb3⟩
  have HB3 := Lib.hid (HBa.out.trans (hb3.mono HBa.out.size))
  clear hb3
  go_wp2
  go_ret
  exact ⟨ret_bool HR.out.symm, HB3.out⟩
set_option maxRecDepth 100000 in
set_option maxHeartbeats 4000000 in
theorem right_5 (w : World) (i t n c : Int) (fi : Bool) (dt ci : List UInt8) (sp : List Sn) (dl e0 e1 e2 : Int) (da : Option Addr) (dc : Nat) (ca : Option Addr) (cc : Nat) (sa : Option Addr) (sc : Nat) (_ : dt.length ≤ 140737488355328) :
    Calls Try.prog 28 #[.agg (fcells ⟨5, i, t, n, c, fi, dt, ci, sp, dl, e0, e1, e2⟩ ⟨da, dc, ca, cc, sa, sc⟩).toArray] w (BoolOf w (rightV ⟨5, i, t, n, c, fi, dt, ci, sp, dl, e0, e1, e2⟩)) := by
  obtain ⟨R, hR⟩ : ∃ R, R = rightV ⟨5, i, t, n, c, fi, dt, ci, sp, dl, e0, e1, e2⟩ := ⟨_, rfl⟩
  rw [← hR]
  obtain ⟨dn, hdn⟩ : ∃ dn, dn = dt.length := ⟨_, rfl⟩
  obtain ⟨cn, hcn⟩ : ∃ cn, cn = ci.length := ⟨_, rfl⟩
  obtain ⟨sn, hsn⟩ : ∃ sn, sn = sp.length := ⟨_, rfl⟩
  have hf : fcells ⟨5, i, t, n, c, fi, dt, ci, sp, dl, e0, e1, e2⟩ ⟨da, dc, ca, cc, sa, sc⟩ = [.int .i64 5, .int .i64 i, .int .i64 t, .int .i64 n, .int .i64 c, .bool fi, .slice da dn dc, .slice ca cn cc, .slice sa sn sc, .int .i64 dl, .int .i64 e0, .int .i64 e1, .int .i64 e2] := by rw [hdn, hcn, hsn]; rfl
  rw [hf]
  obtain ⟨w2, hw2⟩ : ∃ w2, w2 = w.alloc (.cells #[.int .i64 5, .int .i64 i, .int .i64 t, .int .i64 n, .int .i64 c, .bool fi, .slice da dn dc, .slice ca cn cc, .slice sa sn sc, .int .i64 dl, .int .i64 e0, .int .i64 e1, .int .i64 e2] 26) := ⟨_, rfl⟩
  have HB : Hid (Below w.heap.size w w2) := Lib.hid (by rw [hw2]; exact alB w _)
  obtain ⟨xb, hxb⟩ : ∃ xb, xb = w.heap.size := ⟨_, rfl⟩
  have HG : Hid (Has w2 xb 26 [.int .i64 5, .int .i64 i, .int .i64 t, .int .i64 n, .int .i64 c, .bool fi, .slice da dn dc, .slice ca cn cc, .slice sa sn sc, .int .i64 dl, .int .i64 e0, .int .i64 e1, .int .i64 e2]) := Lib.hid (by rw [hw2, hxb]; exact Has.new _ _ _)
  have HR : Hid (R = [i, c].all numB) := Lib.hid (by rw [hR]; rfl)
  clear hR
  clear hf
  have HD := Lib.hid hdn
  have HCn := Lib.hid hcn
  clear hdn hcn hsn
  go_enter Try.func28, Try.ntmps28
  go_upto_region 1 with fail
  rw [← hw2, ← hxb]
  clear hw2 hxb
  have g0 := HG.out.cell 0 rfl
  have g1 := HG.out.cell 1 rfl
  have g2 := HG.out.cell 2 rfl
  have g3 := HG.out.cell 3 rfl
  have g4 := HG.out.cell 4 rfl
  have g5 := HG.out.cell 5 rfl
  have g6 := HG.out.cell 6 rfl
  have g7 := HG.out.cell 7 rfl
  have g8 := HG.out.cell 8 rfl
  have g9 := HG.out.cell 9 rfl
  have g10 := HG.out.cell 10 rfl
  have g11 := HG.out.cell 11 rfl
  have g12 := HG.out.cell 12 rfl
  have HN := Lib.hid (numbersF_any (w2.alloc (.cells #[.int .i64 i, .int .i64 c] 3)) (two_sl w2 i c))
  have HBa := Lib.hid (HB.out.trans ((alB w2 (.cells #[.int .i64 i, .int .i64 c] 3)).mono HB.out.size))
  obtain ⟨b1, hb1⟩ : ∃ b1, b1 = [i, c].all numB := ⟨_, rfl⟩
  rw [← hb1] at HN
  rw [← hb1] at HR
  clear hb1
  go_wp2_with fail
  refine HN.out.mono ?_
  rintro e w3 ⟨rfl, hb3⟩
  have HB3 := Lib.hid (HBa.out.trans (hb3.mono HBa.out.size))
  clear hb3
  go_wp2
  go_ret
  exact ⟨ret_bool HR.out.symm, HB3.out⟩
set_option maxRecDepth 100000 in
set_option maxHeartbeats 4000000 in
theorem right_6 (w : World) (i t n c : Int) (fi : Bool) (dt ci : List UInt8) (sp : List Sn) (dl e0 e1 e2 : Int) (da : Option Addr) (dc : Nat) (ca : Option Addr) (cc : Nat) (sa : Option Addr) (sc : Nat) (hd : dt.length ≤ 140737488355328) :
    Calls Try.prog 28 #[.agg (fcells ⟨6, i, t, n, c, fi, dt, ci, sp, dl, e0, e1, e2⟩ ⟨da, dc, ca, cc, sa, sc⟩).toArray] w (BoolOf w (rightV ⟨6, i, t, n, c, fi, dt, ci, sp, dl, e0, e1, e2⟩)) := by
  obtain ⟨R, hR⟩ : ∃ R, R = rightV ⟨6, i, t, n, c, fi, dt, ci, sp, dl, e0, e1, e2⟩ := ⟨_, rfl⟩
  rw [← hR]
  obtain ⟨dn, hdn⟩ : ∃ dn, dn = dt.length := ⟨_, rfl⟩
  obtain ⟨cn, hcn⟩ : ∃ cn, cn = ci.length := ⟨_, rfl⟩
  obtain ⟨sn, hsn⟩ : ∃ sn, sn = sp.length := ⟨_, rfl⟩
  have hf : fcells ⟨6, i, t, n, c, fi, dt, ci, sp, dl, e0, e1, e2⟩ ⟨da, dc, ca, cc, sa, sc⟩ = [.int .i64 6, .int .i64 i, .int .i64 t, .int .i64 n, .int .i64 c, .bool fi, .slice da dn dc, .slice ca cn cc, .slice sa sn sc, .int .i64 dl, .int .i64 e0, .int .i64 e1, .int .i64 e2] := by rw [hdn, hcn, hsn]; rfl
  rw [hf]
  obtain ⟨w2, hw2⟩ : ∃ w2, w2 = w.alloc (.cells #[.int .i64 6, .int .i64 i, .int .i64 t, .int .i64 n, .int .i64 c, .bool fi, .slice da dn dc, .slice ca cn cc, .slice sa sn sc, .int .i64 dl, .int .i64 e0, .int .i64 e1, .int .i64 e2] 26) := ⟨_, rfl⟩
  have HB : Hid (Below w.heap.size w w2) := Lib.hid (by rw [hw2]; exact alB w _)
  obtain ⟨xb, hxb⟩ : ∃ xb, xb = w.heap.size := ⟨_, rfl⟩
  have HG : Hid (Has w2 xb 26 [.int .i64 6, .int .i64 i, .int .i64 t, .int .i64 n, .int .i64 c, .bool fi, .slice da dn dc, .slice ca cn cc, .slice sa sn sc, .int .i64 dl, .int .i64 e0, .int .i64 e1, .int .i64 e2]) := Lib.hid (by rw [hw2, hxb]; exact Has.new _ _ _)
  have HR : Hid (R = (numB t && decide (t ≤ 4611686018427387903 - (dt.length : Int)))) := Lib.hid (by rw [hR]; rfl)
  rw [← hdn] at HR
  clear hR
  rw [← hdn] at hd
  clear hf
  have HD := Lib.hid hdn
  have HCn := Lib.hid hcn
  clear hdn hcn hsn
  go_enter Try.func28, Try.ntmps28
  go_upto_region 1 with fail
  rw [← hw2, ← hxb]
  clear hw2 hxb
  have g0 := HG.out.cell 0 rfl
  have g1 := HG.out.cell 1 rfl
  have g2 := HG.out.cell 2 rfl
  have g3 := HG.out.cell 3 rfl
  have g4 := HG.out.cell 4 rfl
  have g5 := HG.out.cell 5 rfl
  have g6 := HG.out.cell 6 rfl
  have g7 := HG.out.cell 7 rfl
  have g8 := HG.out.cell 8 rfl
  have g9 := HG.out.cell 9 rfl
  have g10 := HG.out.cell 10 rfl
  have g11 := HG.out.cell 11 rfl
  have g12 := HG.out.cell 12 rfl
  have dw : IntKind.i64.wrap (4611686018427387903 - (dn : Int)) = 4611686018427387903 - (dn : Int) := by rw [IntKind.wrap_i64]; omega
  have dw2 : RowKit.wrap64 (4611686018427387903 - (dn : Int)) = 4611686018427387903 - (dn : Int) := by unfold RowKit.wrap64; omega
  have HN := Lib.hid (numbersF_any (w2.alloc (.cells #[.int .i64 t] 3)) (one_sl w2 t))
  have HBa := Lib.hid (HB.out.trans ((alB w2 (.cells #[.int .i64 t] 3)).mono HB.out.size))
  obtain ⟨b1, hb1⟩ : ∃ b1, b1 = [t].all numB := ⟨_, rfl⟩
  rw [← hb1] at HN
  have HR2 : Hid (R = (b1 && decide (t ≤ 4611686018427387903 - (dn : Int)))) := Lib.hid (by rw [HR.out, hb1]; simp)
  clear hb1
  cases b1 with
  | true =>
    by_cases c1 : t ≤ 4611686018427387903 - (dn : Int)
    · have HF : Hid (R = true) := Lib.hid (by rw [HR2.out]; simp [c1])
      go_wp2_with fail
      refine HN.out.mono ?_
      rintro e w3 ⟨rfl, hb3⟩
      have HB3 := Lib.hid (HBa.out.trans (hb3.mono HBa.out.size))
      have g2 := (HG.out.kept (Kept.of_below (X := none') ((alB w2 _).trans (hb3.mono (alB w2 _).size))) (fun h => h)).cell 2 rfl
      have g6 := (HG.out.kept (Kept.of_below (X := none') ((alB w2 _).trans (hb3.mono (alB w2 _).size))) (fun h => h)).cell 6 rfl
      clear hb3
      go_wp2
      go_ret
      exact ⟨ret_bool (by first | exact HF.out.symm | (rw [HF.out]; simp [c1])), HB3.out⟩
    · have HF : Hid (R = false) := Lib.hid (by rw [HR2.out]; simp [c1])
      go_wp2_with fail
      refine HN.out.mono ?_
      rintro e w3 ⟨rfl, hb3⟩
      have HB3 := Lib.hid (HBa.out.trans (hb3.mono HBa.out.size))
      have g2 := (HG.out.kept (Kept.of_below (X := none') ((alB w2 _).trans (hb3.mono (alB w2 _).size))) (fun h => h)).cell 2 rfl
      have g6 := (HG.out.kept (Kept.of_below (X := none') ((alB w2 _).trans (hb3.mono (alB w2 _).size))) (fun h => h)).cell 6 rfl
      clear hb3
      go_wp2
      go_ret
      exact ⟨ret_bool (by first | exact HF.out.symm | (rw [HF.out]; simp [c1])), HB3.out⟩
  | false =>
    have HF : Hid (R = false) := Lib.hid (by rw [HR2.out]; rfl)
    go_wp2_with fail
    refine HN.out.mono ?_
    rintro e w3 ⟨rfl, hb3⟩
    have HB3 := Lib.hid (HBa.out.trans (hb3.mono HBa.out.size))
    clear hb3
    go_wp2
    go_ret
    exact ⟨ret_bool (by first | exact HF.out.symm | (rw [HF.out]; simp [c1])), HB3.out⟩
set_option maxRecDepth 100000 in
set_option maxHeartbeats 4000000 in
theorem right_7 (w : World) (i t n c : Int) (fi : Bool) (dt ci : List UInt8) (sp : List Sn) (dl e0 e1 e2 : Int) (da : Option Addr) (dc : Nat) (ca : Option Addr) (cc : Nat) (sa : Option Addr) (sc : Nat) (hd : dt.length ≤ 140737488355328) :
    Calls Try.prog 28 #[.agg (fcells ⟨7, i, t, n, c, fi, dt, ci, sp, dl, e0, e1, e2⟩ ⟨da, dc, ca, cc, sa, sc⟩).toArray] w (BoolOf w (rightV ⟨7, i, t, n, c, fi, dt, ci, sp, dl, e0, e1, e2⟩)) := by
  obtain ⟨R, hR⟩ : ∃ R, R = rightV ⟨7, i, t, n, c, fi, dt, ci, sp, dl, e0, e1, e2⟩ := ⟨_, rfl⟩
  rw [← hR]
  obtain ⟨dn, hdn⟩ : ∃ dn, dn = dt.length := ⟨_, rfl⟩
  obtain ⟨cn, hcn⟩ : ∃ cn, cn = ci.length := ⟨_, rfl⟩
  obtain ⟨sn, hsn⟩ : ∃ sn, sn = sp.length := ⟨_, rfl⟩
  have hf : fcells ⟨7, i, t, n, c, fi, dt, ci, sp, dl, e0, e1, e2⟩ ⟨da, dc, ca, cc, sa, sc⟩ = [.int .i64 7, .int .i64 i, .int .i64 t, .int .i64 n, .int .i64 c, .bool fi, .slice da dn dc, .slice ca cn cc, .slice sa sn sc, .int .i64 dl, .int .i64 e0, .int .i64 e1, .int .i64 e2] := by rw [hdn, hcn, hsn]; rfl
  rw [hf]
  obtain ⟨w2, hw2⟩ : ∃ w2, w2 = w.alloc (.cells #[.int .i64 7, .int .i64 i, .int .i64 t, .int .i64 n, .int .i64 c, .bool fi, .slice da dn dc, .slice ca cn cc, .slice sa sn sc, .int .i64 dl, .int .i64 e0, .int .i64 e1, .int .i64 e2] 26) := ⟨_, rfl⟩
  have HB : Hid (Below w.heap.size w w2) := Lib.hid (by rw [hw2]; exact alB w _)
  obtain ⟨xb, hxb⟩ : ∃ xb, xb = w.heap.size := ⟨_, rfl⟩
  have HG : Hid (Has w2 xb 26 [.int .i64 7, .int .i64 i, .int .i64 t, .int .i64 n, .int .i64 c, .bool fi, .slice da dn dc, .slice ca cn cc, .slice sa sn sc, .int .i64 dl, .int .i64 e0, .int .i64 e1, .int .i64 e2]) := Lib.hid (by rw [hw2, hxb]; exact Has.new _ _ _)
  have HR : Hid (R = decide (0 < dt.length)) := Lib.hid (by rw [hR]; rfl)
  rw [← hdn] at HR
  clear hR
  rw [← hdn] at hd
  clear hf
  have HD := Lib.hid hdn
  have HCn := Lib.hid hcn
  clear hdn hcn hsn
  go_enter Try.func28, Try.ntmps28
  go_upto_region 1 with fail
  rw [← hw2, ← hxb]
  clear hw2 hxb
  have g0 := HG.out.cell 0 rfl
  have g1 := HG.out.cell 1 rfl
  have g2 := HG.out.cell 2 rfl
  have g3 := HG.out.cell 3 rfl
  have g4 := HG.out.cell 4 rfl
  have g5 := HG.out.cell 5 rfl
  have g6 := HG.out.cell 6 rfl
  have g7 := HG.out.cell 7 rfl
  have g8 := HG.out.cell 8 rfl
  have g9 := HG.out.cell 9 rfl
  have g10 := HG.out.cell 10 rfl
  have g11 := HG.out.cell 11 rfl
  have g12 := HG.out.cell 12 rfl
  by_cases c1 : 0 < dn
  · have d1 : (0 : Int) < (dn : Int) := by omega
    have HF : Hid (R = true) := Lib.hid (by rw [HR.out]; simp [c1])
    skip
    skip
    go_wp2
    go_ret
    exact ⟨ret_bool HF.out.symm, HB.out⟩
  · have d1 : ¬ (0 : Int) < (dn : Int) := by omega
    have HF : Hid (R = false) := Lib.hid (by rw [HR.out]; simp [c1])
    skip
    go_wp2
    go_ret
    exact ⟨ret_bool HF.out.symm, HB.out⟩
set_option maxRecDepth 100000 in
set_option maxHeartbeats 4000000 in
theorem right_8 (w : World) (i t n c : Int) (fi : Bool) (dt ci : List UInt8) (sp : List Sn) (dl e0 e1 e2 : Int) (da : Option Addr) (dc : Nat) (ca : Option Addr) (cc : Nat) (sa : Option Addr) (sc : Nat) (hd : dt.length ≤ 140737488355328) :
    Calls Try.prog 28 #[.agg (fcells ⟨8, i, t, n, c, fi, dt, ci, sp, dl, e0, e1, e2⟩ ⟨da, dc, ca, cc, sa, sc⟩).toArray] w (BoolOf w (rightV ⟨8, i, t, n, c, fi, dt, ci, sp, dl, e0, e1, e2⟩)) := by
  obtain ⟨R, hR⟩ : ∃ R, R = rightV ⟨8, i, t, n, c, fi, dt, ci, sp, dl, e0, e1, e2⟩ := ⟨_, rfl⟩
  rw [← hR]
  obtain ⟨dn, hdn⟩ : ∃ dn, dn = dt.length := ⟨_, rfl⟩
  obtain ⟨cn, hcn⟩ : ∃ cn, cn = ci.length := ⟨_, rfl⟩
  obtain ⟨sn, hsn⟩ : ∃ sn, sn = sp.length := ⟨_, rfl⟩
  have hf : fcells ⟨8, i, t, n, c, fi, dt, ci, sp, dl, e0, e1, e2⟩ ⟨da, dc, ca, cc, sa, sc⟩ = [.int .i64 8, .int .i64 i, .int .i64 t, .int .i64 n, .int .i64 c, .bool fi, .slice da dn dc, .slice ca cn cc, .slice sa sn sc, .int .i64 dl, .int .i64 e0, .int .i64 e1, .int .i64 e2] := by rw [hdn, hcn, hsn]; rfl
  rw [hf]
  obtain ⟨w2, hw2⟩ : ∃ w2, w2 = w.alloc (.cells #[.int .i64 8, .int .i64 i, .int .i64 t, .int .i64 n, .int .i64 c, .bool fi, .slice da dn dc, .slice ca cn cc, .slice sa sn sc, .int .i64 dl, .int .i64 e0, .int .i64 e1, .int .i64 e2] 26) := ⟨_, rfl⟩
  have HB : Hid (Below w.heap.size w w2) := Lib.hid (by rw [hw2]; exact alB w _)
  obtain ⟨xb, hxb⟩ : ∃ xb, xb = w.heap.size := ⟨_, rfl⟩
  have HG : Hid (Has w2 xb 26 [.int .i64 8, .int .i64 i, .int .i64 t, .int .i64 n, .int .i64 c, .bool fi, .slice da dn dc, .slice ca cn cc, .slice sa sn sc, .int .i64 dl, .int .i64 e0, .int .i64 e1, .int .i64 e2]) := Lib.hid (by rw [hw2, hxb]; exact Has.new _ _ _)
  have HR : Hid (R = ([i, t].all numB && decide (t ≤ 4611686018427387903 - (dt.length : Int)))) := Lib.hid (by rw [hR]; rfl)
  rw [← hdn] at HR
  clear hR
  rw [← hdn] at hd
  clear hf
  have HD := Lib.hid hdn
  have HCn := Lib.hid hcn
  clear hdn hcn hsn
  go_enter Try.func28, Try.ntmps28
  go_upto_region 1 with fail
  rw [← hw2, ← hxb]
  clear hw2 hxb
  have g0 := HG.out.cell 0 rfl
  have g1 := HG.out.cell 1 rfl
  have g2 := HG.out.cell 2 rfl
  have g3 := HG.out.cell 3 rfl
  have g4 := HG.out.cell 4 rfl
  have g5 := HG.out.cell 5 rfl
  have g6 := HG.out.cell 6 rfl
  have g7 := HG.out.cell 7 rfl
  have g8 := HG.out.cell 8 rfl
  have g9 := HG.out.cell 9 rfl
  have g10 := HG.out.cell 10 rfl
  have g11 := HG.out.cell 11 rfl
  have g12 := HG.out.cell 12 rfl
  have dw : IntKind.i64.wrap (4611686018427387903 - (dn : Int)) = 4611686018427387903 - (dn : Int) := by rw [IntKind.wrap_i64]; omega
  have dw2 : RowKit.wrap64 (4611686018427387903 - (dn : Int)) = 4611686018427387903 - (dn : Int) := by unfold RowKit.wrap64; omega
  have HN := Lib.hid (numbersF_any (w2.alloc (.cells #[.int .i64 i, .int .i64 t] 3)) (two_sl w2 i t))
  have HBa := Lib.hid (HB.out.trans ((alB w2 (.cells #[.int .i64 i, .int .i64 t] 3)).mono HB.out.size))
  obtain ⟨b1, hb1⟩ : ∃ b1, b1 = [i, t].all numB := ⟨_, rfl⟩
  rw [← hb1] at HN
  have HR2 : Hid (R = (b1 && decide (t ≤ 4611686018427387903 - (dn : Int)))) := Lib.hid (by rw [HR.out, hb1])
  clear hb1
  cases b1 with
  | true =>
    by_cases c1 : t ≤ 4611686018427387903 - (dn : Int)
    · have HF : Hid (R = true) := Lib.hid (by rw [HR2.out]; simp [c1])
      go_wp2_with fail
      refine HN.out.mono ?_
      rintro e w3 ⟨rfl, hb3⟩
      have HB3 := Lib.hid (HBa.out.trans (hb3.mono HBa.out.size))
      have g2 := (HG.out.kept (Kept.of_below (X := none') ((alB w2 _).trans (hb3.mono (alB w2 _).size))) (fun h => h)).cell 2 rfl
      have g6 := (HG.out.kept (Kept.of_below (X := none') ((alB w2 _).trans (hb3.mono (alB w2 _).size))) (fun h => h)).cell 6 rfl
      clear hb3
      go_wp2
      go_ret
      exact ⟨ret_bool (by first | exact HF.out.symm | (rw [HF.out]; simp [c1])), HB3.out⟩
    · have HF : Hid (R = false) := Lib.hid (by rw [HR2.out]; simp [c1])
      go_wp2_with fail
      refine HN.out.mono ?_
      rintro e w3 ⟨rfl, hb3⟩
      have HB3 := Lib.hid (HBa.out.trans (hb3.mono HBa.out.size))
      have g2 := (HG.out.kept (Kept.of_below (X := none') ((alB w2 _).trans (hb3.mono (alB w2 _).size))) (fun h => h)).cell 2 rfl
      have g6 := (HG.out.kept (Kept.of_below (X := none') ((alB w2 _).trans (hb3.mono (alB w2 _).size))) (fun h => h)).cell 6 rfl
      clear hb3
      go_wp2
      go_ret
      exact ⟨ret_bool (by first | exact HF.out.symm | (rw [HF.out]; simp [c1])), HB3.out⟩
  | false =>
    have HF : Hid (R = false) := Lib.hid (by rw [HR2.out]; rfl)
    go_wp2_with fail
    refine HN.out.mono ?_
    rintro e w3 ⟨rfl, hb3⟩
    have HB3 := Lib.hid (HBa.out.trans (hb3.mono HBa.out.size))
    clear hb3
    go_wp2
    go_ret
    exact ⟨ret_bool (by first | exact HF.out.symm | (rw [HF.out]; simp [c1])), HB3.out⟩
set_option maxRecDepth 100000 in
set_option maxHeartbeats 4000000 in
theorem right_16 (w : World) (i t n c : Int) (fi : Bool) (dt ci : List UInt8) (sp : List Sn) (dl e0 e1 e2 : Int) (da : Option Addr) (dc : Nat) (ca : Option Addr) (cc : Nat) (sa : Option Addr) (sc : Nat) (_ : dt.length ≤ 140737488355328) :
    Calls Try.prog 28 #[.agg (fcells ⟨16, i, t, n, c, fi, dt, ci, sp, dl, e0, e1, e2⟩ ⟨da, dc, ca, cc, sa, sc⟩).toArray] w (BoolOf w (rightV ⟨16, i, t, n, c, fi, dt, ci, sp, dl, e0, e1, e2⟩)) := by
  obtain ⟨R, hR⟩ : ∃ R, R = rightV ⟨16, i, t, n, c, fi, dt, ci, sp, dl, e0, e1, e2⟩ := ⟨_, rfl⟩
  rw [← hR]
  obtain ⟨dn, hdn⟩ : ∃ dn, dn = dt.length := ⟨_, rfl⟩
  obtain ⟨cn, hcn⟩ : ∃ cn, cn = ci.length := ⟨_, rfl⟩
  obtain ⟨sn, hsn⟩ : ∃ sn, sn = sp.length := ⟨_, rfl⟩
  have hf : fcells ⟨16, i, t, n, c, fi, dt, ci, sp, dl, e0, e1, e2⟩ ⟨da, dc, ca, cc, sa, sc⟩ = [.int .i64 16, .int .i64 i, .int .i64 t, .int .i64 n, .int .i64 c, .bool fi, .slice da dn dc, .slice ca cn cc, .slice sa sn sc, .int .i64 dl, .int .i64 e0, .int .i64 e1, .int .i64 e2] := by rw [hdn, hcn, hsn]; rfl
  rw [hf]
  obtain ⟨w2, hw2⟩ : ∃ w2, w2 = w.alloc (.cells #[.int .i64 16, .int .i64 i, .int .i64 t, .int .i64 n, .int .i64 c, .bool fi, .slice da dn dc, .slice ca cn cc, .slice sa sn sc, .int .i64 dl, .int .i64 e0, .int .i64 e1, .int .i64 e2] 26) := ⟨_, rfl⟩
  have HB : Hid (Below w.heap.size w w2) := Lib.hid (by rw [hw2]; exact alB w _)
  obtain ⟨xb, hxb⟩ : ∃ xb, xb = w.heap.size := ⟨_, rfl⟩
  have HG : Hid (Has w2 xb 26 [.int .i64 16, .int .i64 i, .int .i64 t, .int .i64 n, .int .i64 c, .bool fi, .slice da dn dc, .slice ca cn cc, .slice sa sn sc, .int .i64 dl, .int .i64 e0, .int .i64 e1, .int .i64 e2]) := Lib.hid (by rw [hw2, hxb]; exact Has.new _ _ _)
  have HR : Hid (R = [n].all numB) := Lib.hid (by rw [hR]; rfl)
  clear hR
  clear hf
  have HD := Lib.hid hdn
  have HCn := Lib.hid hcn
  clear hdn hcn hsn
  go_enter Try.func28, Try.ntmps28
  go_upto_region 1 with fail
  rw [← hw2, ← hxb]
  clear hw2 hxb
  have g0 := HG.out.cell 0 rfl
  have g1 := HG.out.cell 1 rfl
  have g2 := HG.out.cell 2 rfl
  have g3 := HG.out.cell 3 rfl
  have g4 := HG.out.cell 4 rfl
  have g5 := HG.out.cell 5 rfl
  have g6 := HG.out.cell 6 rfl
  have g7 := HG.out.cell 7 rfl
  have g8 := HG.out.cell 8 rfl
  have g9 := HG.out.cell 9 rfl
  have g10 := HG.out.cell 10 rfl
  have g11 := HG.out.cell 11 rfl
  have g12 := HG.out.cell 12 rfl
  have HN := Lib.hid (numbersF_any (w2.alloc (.cells #[.int .i64 n] 3)) (one_sl w2 n))
  have HBa := Lib.hid (HB.out.trans ((alB w2 (.cells #[.int .i64 n] 3)).mono HB.out.size))
  obtain ⟨b1, hb1⟩ : ∃ b1, b1 = [n].all numB := ⟨_, rfl⟩
  rw [← hb1] at HN
  rw [← hb1] at HR
  clear hb1
  go_wp2_with fail
  refine HN.out.mono ?_
  rintro e w3 ⟨rfl, hb3⟩
  have HB3 := Lib.hid (HBa.out.trans (hb3.mono HBa.out.size))
  clear hb3
  go_wp2
  go_ret
  exact ⟨ret_bool HR.out.symm, HB3.out⟩
set_option maxRecDepth 100000 in
set_option maxHeartbeats 4000000 in
theorem right_17 (w : World) (i t n c : Int) (fi : Bool) (dt ci : List UInt8) (sp : List Sn) (dl e0 e1 e2 : Int) (da : Option Addr) (dc : Nat) (ca : Option Addr) (cc : Nat) (sa : Option Addr) (sc : Nat) (_ : dt.length ≤ 140737488355328) :
    Calls Try.prog 28 #[.agg (fcells ⟨17, i, t, n, c, fi, dt, ci, sp, dl, e0, e1, e2⟩ ⟨da, dc, ca, cc, sa, sc⟩).toArray] w (BoolOf w (rightV ⟨17, i, t, n, c, fi, dt, ci, sp, dl, e0, e1, e2⟩)) := by
  obtain ⟨R, hR⟩ : ∃ R, R = rightV ⟨17, i, t, n, c, fi, dt, ci, sp, dl, e0, e1, e2⟩ := ⟨_, rfl⟩
  rw [← hR]
  obtain ⟨dn, hdn⟩ : ∃ dn, dn = dt.length := ⟨_, rfl⟩
  obtain ⟨cn, hcn⟩ : ∃ cn, cn = ci.length := ⟨_, rfl⟩
  obtain ⟨sn, hsn⟩ : ∃ sn, sn = sp.length := ⟨_, rfl⟩
  have hf : fcells ⟨17, i, t, n, c, fi, dt, ci, sp, dl, e0, e1, e2⟩ ⟨da, dc, ca, cc, sa, sc⟩ = [.int .i64 17, .int .i64 i, .int .i64 t, .int .i64 n, .int .i64 c, .bool fi, .slice da dn dc, .slice ca cn cc, .slice sa sn sc, .int .i64 dl, .int .i64 e0, .int .i64 e1, .int .i64 e2] := by rw [hdn, hcn, hsn]; rfl
  rw [hf]
  obtain ⟨w2, hw2⟩ : ∃ w2, w2 = w.alloc (.cells #[.int .i64 17, .int .i64 i, .int .i64 t, .int .i64 n, .int .i64 c, .bool fi, .slice da dn dc, .slice ca cn cc, .slice sa sn sc, .int .i64 dl, .int .i64 e0, .int .i64 e1, .int .i64 e2] 26) := ⟨_, rfl⟩
  have HB : Hid (Below w.heap.size w w2) := Lib.hid (by rw [hw2]; exact alB w _)
  obtain ⟨xb, hxb⟩ : ∃ xb, xb = w.heap.size := ⟨_, rfl⟩
  have HG : Hid (Has w2 xb 26 [.int .i64 17, .int .i64 i, .int .i64 t, .int .i64 n, .int .i64 c, .bool fi, .slice da dn dc, .slice ca cn cc, .slice sa sn sc, .int .i64 dl, .int .i64 e0, .int .i64 e1, .int .i64 e2]) := Lib.hid (by rw [hw2, hxb]; exact Has.new _ _ _)
  have HR : Hid (R = [i, n].all numB) := Lib.hid (by rw [hR]; rfl)
  clear hR
  clear hf
  have HD := Lib.hid hdn
  have HCn := Lib.hid hcn
  clear hdn hcn hsn
  go_enter Try.func28, Try.ntmps28
  go_upto_region 1 with fail
  rw [← hw2, ← hxb]
  clear hw2 hxb
  have g0 := HG.out.cell 0 rfl
  have g1 := HG.out.cell 1 rfl
  have g2 := HG.out.cell 2 rfl
  have g3 := HG.out.cell 3 rfl
  have g4 := HG.out.cell 4 rfl
  have g5 := HG.out.cell 5 rfl
  have g6 := HG.out.cell 6 rfl
  have g7 := HG.out.cell 7 rfl
  have g8 := HG.out.cell 8 rfl
  have g9 := HG.out.cell 9 rfl
  have g10 := HG.out.cell 10 rfl
  have g11 := HG.out.cell 11 rfl
  have g12 := HG.out.cell 12 rfl
  have HN := Lib.hid (numbersF_any (w2.alloc (.cells #[.int .i64 i, .int .i64 n] 3)) (two_sl w2 i n))
  have HBa := Lib.hid (HB.out.trans ((alB w2 (.cells #[.int .i64 i, .int .i64 n] 3)).mono HB.out.size))
  obtain ⟨b1, hb1⟩ : ∃ b1, b1 = [i, n].all numB := ⟨_, rfl⟩
  rw [← hb1] at HN
  rw [← hb1] at HR
  clear hb1
  go_wp2_with fail
  refine HN.out.mono ?_
  rintro e w3 ⟨rfl, hb3⟩
  have HB3 := Lib.hid (HBa.out.trans (hb3.mono HBa.out.size))
  clear hb3
  go_wp2
  go_ret
  exact ⟨ret_bool HR.out.symm, HB3.out⟩
set_option maxRecDepth 100000 in
set_option maxHeartbeats 4000000 in
theorem right_18 (w : World) (i t n c : Int) (fi : Bool) (dt ci : List UInt8) (sp : List Sn) (dl e0 e1 e2 : Int) (da : Option Addr) (dc : Nat) (ca : Option Addr) (cc : Nat) (sa : Option Addr) (sc : Nat) (_ : dt.length ≤ 140737488355328) :
    Calls Try.prog 28 #[.agg (fcells ⟨18, i, t, n, c, fi, dt, ci, sp, dl, e0, e1, e2⟩ ⟨da, dc, ca, cc, sa, sc⟩).toArray] w (BoolOf w (rightV ⟨18, i, t, n, c, fi, dt, ci, sp, dl, e0, e1, e2⟩)) := by
  obtain ⟨R, hR⟩ : ∃ R, R = rightV ⟨18, i, t, n, c, fi, dt, ci, sp, dl, e0, e1, e2⟩ := ⟨_, rfl⟩
  rw [← hR]
  obtain ⟨dn, hdn⟩ : ∃ dn, dn = dt.length := ⟨_, rfl⟩
  obtain ⟨cn, hcn⟩ : ∃ cn, cn = ci.length := ⟨_, rfl⟩
  obtain ⟨sn, hsn⟩ : ∃ sn, sn = sp.length := ⟨_, rfl⟩
  have hf : fcells ⟨18, i, t, n, c, fi, dt, ci, sp, dl, e0, e1, e2⟩ ⟨da, dc, ca, cc, sa, sc⟩ = [.int .i64 18, .int .i64 i, .int .i64 t, .int .i64 n, .int .i64 c, .bool fi, .slice da dn dc, .slice ca cn cc, .slice sa sn sc, .int .i64 dl, .int .i64 e0, .int .i64 e1, .int .i64 e2] := by rw [hdn, hcn, hsn]; rfl
  rw [hf]
  obtain ⟨w2, hw2⟩ : ∃ w2, w2 = w.alloc (.cells #[.int .i64 18, .int .i64 i, .int .i64 t, .int .i64 n, .int .i64 c, .bool fi, .slice da dn dc, .slice ca cn cc, .slice sa sn sc, .int .i64 dl, .int .i64 e0, .int .i64 e1, .int .i64 e2] 26) := ⟨_, rfl⟩
  have HB : Hid (Below w.heap.size w w2) := Lib.hid (by rw [hw2]; exact alB w _)
  obtain ⟨xb, hxb⟩ : ∃ xb, xb = w.heap.size := ⟨_, rfl⟩
  have HG : Hid (Has w2 xb 26 [.int .i64 18, .int .i64 i, .int .i64 t, .int .i64 n, .int .i64 c, .bool fi, .slice da dn dc, .slice ca cn cc, .slice sa sn sc, .int .i64 dl, .int .i64 e0, .int .i64 e1, .int .i64 e2]) := Lib.hid (by rw [hw2, hxb]; exact Has.new _ _ _)
  have HR : Hid (R = (decide (0 ≤ n) && decide (n ≤ 1152921504606846976))) := Lib.hid (by rw [hR]; rfl)
  clear hR
  clear hf
  have HD := Lib.hid hdn
  have HCn := Lib.hid hcn
  clear hdn hcn hsn
  go_enter Try.func28, Try.ntmps28
  go_upto_region 1 with fail
  rw [← hw2, ← hxb]
  clear hw2 hxb
  have g0 := HG.out.cell 0 rfl
  have g1 := HG.out.cell 1 rfl
  have g2 := HG.out.cell 2 rfl
  have g3 := HG.out.cell 3 rfl
  have g4 := HG.out.cell 4 rfl
  have g5 := HG.out.cell 5 rfl
  have g6 := HG.out.cell 6 rfl
  have g7 := HG.out.cell 7 rfl
  have g8 := HG.out.cell 8 rfl
  have g9 := HG.out.cell 9 rfl
  have g10 := HG.out.cell 10 rfl
  have g11 := HG.out.cell 11 rfl
  have g12 := HG.out.cell 12 rfl
  by_cases c1 : 0 ≤ n
  · by_cases c2 : n ≤ 1152921504606846976
    · have HF : Hid (R = true) := Lib.hid (by rw [HR.out]; simp [c1, c2])
      go_wp2
      go_ret
      exact ⟨ret_bool HF.out.symm, HB.out⟩
    · have HF : Hid (R = false) := Lib.hid (by rw [HR.out]; simp [c2])
      go_wp2
      go_ret
      exact ⟨ret_bool HF.out.symm, HB.out⟩
  · have HF : Hid (R = false) := Lib.hid (by rw [HR.out]; simp [c1])
    go_wp2
    go_ret
    exact ⟨ret_bool HF.out.symm, HB.out⟩
set_option maxRecDepth 100000 in
set_option maxHeartbeats 4000000 in
theorem right_19 (w : World) (i t n c : Int) (fi : Bool) (dt ci : List UInt8) (sp : List Sn) (dl e0 e1 e2 : Int) (da : Option Addr) (dc : Nat) (ca : Option Addr) (cc : Nat) (sa : Option Addr) (sc : Nat) (_ : dt.length ≤ 140737488355328) :
    Calls Try.prog 28 #[.agg (fcells ⟨19, i, t, n, c, fi, dt, ci, sp, dl, e0, e1, e2⟩ ⟨da, dc, ca, cc, sa, sc⟩).toArray] w (BoolOf w (rightV ⟨19, i, t, n, c, fi, dt, ci, sp, dl, e0, e1, e2⟩)) := by
  obtain ⟨R, hR⟩ : ∃ R, R = rightV ⟨19, i, t, n, c, fi, dt, ci, sp, dl, e0, e1, e2⟩ := ⟨_, rfl⟩
  rw [← hR]
  obtain ⟨dn, hdn⟩ : ∃ dn, dn = dt.length := ⟨_, rfl⟩
  obtain ⟨cn, hcn⟩ : ∃ cn, cn = ci.length := ⟨_, rfl⟩
  obtain ⟨sn, hsn⟩ : ∃ sn, sn = sp.length := ⟨_, rfl⟩
  have hf : fcells ⟨19, i, t, n, c, fi, dt, ci, sp, dl, e0, e1, e2⟩ ⟨da, dc, ca, cc, sa, sc⟩ = [.int .i64 19, .int .i64 i, .int .i64 t, .int .i64 n, .int .i64 c, .bool fi, .slice da dn dc, .slice ca cn cc, .slice sa sn sc, .int .i64 dl, .int .i64 e0, .int .i64 e1, .int .i64 e2] := by rw [hdn, hcn, hsn]; rfl
  rw [hf]
  obtain ⟨w2, hw2⟩ : ∃ w2, w2 = w.alloc (.cells #[.int .i64 19, .int .i64 i, .int .i64 t, .int .i64 n, .int .i64 c, .bool fi, .slice da dn dc, .slice ca cn cc, .slice sa sn sc, .int .i64 dl, .int .i64 e0, .int .i64 e1, .int .i64 e2] 26) := ⟨_, rfl⟩
  have HB : Hid (Below w.heap.size w w2) := Lib.hid (by rw [hw2]; exact alB w _)
  obtain ⟨xb, hxb⟩ : ∃ xb, xb = w.heap.size := ⟨_, rfl⟩
  have HG : Hid (Has w2 xb 26 [.int .i64 19, .int .i64 i, .int .i64 t, .int .i64 n, .int .i64 c, .bool fi, .slice da dn dc, .slice ca cn cc, .slice sa sn sc, .int .i64 dl, .int .i64 e0, .int .i64 e1, .int .i64 e2]) := Lib.hid (by rw [hw2, hxb]; exact Has.new _ _ _)
  have HR : Hid (R = (decide (0 ≤ n) && decide (n ≤ 1152921504606846976))) := Lib.hid (by rw [hR]; rfl)
  clear hR
  clear hf
  have HD := Lib.hid hdn
  have HCn := Lib.hid hcn
  clear hdn hcn hsn
  go_enter Try.func28, Try.ntmps28
  go_upto_region 1 with fail
  rw [← hw2, ← hxb]
  clear hw2 hxb
  have g0 := HG.out.cell 0 rfl
  have g1 := HG.out.cell 1 rfl
  have g2 := HG.out.cell 2 rfl
  have g3 := HG.out.cell 3 rfl
  have g4 := HG.out.cell 4 rfl
  have g5 := HG.out.cell 5 rfl
  have g6 := HG.out.cell 6 rfl
  have g7 := HG.out.cell 7 rfl
  have g8 := HG.out.cell 8 rfl
  have g9 := HG.out.cell 9 rfl
  have g10 := HG.out.cell 10 rfl
  have g11 := HG.out.cell 11 rfl
  have g12 := HG.out.cell 12 rfl
  by_cases c1 : 0 ≤ n
  · by_cases c2 : n ≤ 1152921504606846976
    · have HF : Hid (R = true) := Lib.hid (by rw [HR.out]; simp [c1, c2])
      go_wp2
      go_ret
      exact ⟨ret_bool HF.out.symm, HB.out⟩
    · have HF : Hid (R = false) := Lib.hid (by rw [HR.out]; simp [c2])
      go_wp2
      go_ret
      exact ⟨ret_bool HF.out.symm, HB.out⟩
  · have HF : Hid (R = false) := Lib.hid (by rw [HR.out]; simp [c1])
    go_wp2
    go_ret
    exact ⟨ret_bool HF.out.symm, HB.out⟩
set_option maxRecDepth 100000 in
set_option maxHeartbeats 4000000 in
theorem right_20 (w : World) (i t n c : Int) (fi : Bool) (dt ci : List UInt8) (sp : List Sn) (dl e0 e1 e2 : Int) (da : Option Addr) (dc : Nat) (ca : Option Addr) (cc : Nat) (sa : Option Addr) (sc : Nat) (_ : dt.length ≤ 140737488355328) :
    Calls Try.prog 28 #[.agg (fcells ⟨20, i, t, n, c, fi, dt, ci, sp, dl, e0, e1, e2⟩ ⟨da, dc, ca, cc, sa, sc⟩).toArray] w (BoolOf w (rightV ⟨20, i, t, n, c, fi, dt, ci, sp, dl, e0, e1, e2⟩)) := by
  obtain ⟨R, hR⟩ : ∃ R, R = rightV ⟨20, i, t, n, c, fi, dt, ci, sp, dl, e0, e1, e2⟩ := ⟨_, rfl⟩
  rw [← hR]
  obtain ⟨dn, hdn⟩ : ∃ dn, dn = dt.length := ⟨_, rfl⟩
  obtain ⟨cn, hcn⟩ : ∃ cn, cn = ci.length := ⟨_, rfl⟩
  obtain ⟨sn, hsn⟩ : ∃ sn, sn = sp.length := ⟨_, rfl⟩
  have hf : fcells ⟨20, i, t, n, c, fi, dt, ci, sp, dl, e0, e1, e2⟩ ⟨da, dc, ca, cc, sa, sc⟩ = [.int .i64 20, .int .i64 i, .int .i64 t, .int .i64 n, .int .i64 c, .bool fi, .slice da dn dc, .slice ca cn cc, .slice sa sn sc, .int .i64 dl, .int .i64 e0, .int .i64 e1, .int .i64 e2] := by rw [hdn, hcn, hsn]; rfl
  rw [hf]
  obtain ⟨w2, hw2⟩ : ∃ w2, w2 = w.alloc (.cells #[.int .i64 20, .int .i64 i, .int .i64 t, .int .i64 n, .int .i64 c, .bool fi, .slice da dn dc, .slice ca cn cc, .slice sa sn sc, .int .i64 dl, .int .i64 e0, .int .i64 e1, .int .i64 e2] 26) := ⟨_, rfl⟩
  have HB : Hid (Below w.heap.size w w2) := Lib.hid (by rw [hw2]; exact alB w _)
  obtain ⟨xb, hxb⟩ : ∃ xb, xb = w.heap.size := ⟨_, rfl⟩
  have HG : Hid (Has w2 xb 26 [.int .i64 20, .int .i64 i, .int .i64 t, .int .i64 n, .int .i64 c, .bool fi, .slice da dn dc, .slice ca cn cc, .slice sa sn sc, .int .i64 dl, .int .i64 e0, .int .i64 e1, .int .i64 e2]) := Lib.hid (by rw [hw2, hxb]; exact Has.new _ _ _)
  have HR : Hid (R = [n].all numB) := Lib.hid (by rw [hR]; rfl)
  clear hR
  clear hf
  have HD := Lib.hid hdn
  have HCn := Lib.hid hcn
  clear hdn hcn hsn
  go_enter Try.func28, Try.ntmps28
  go_upto_region 1 with fail
  rw [← hw2, ← hxb]
  clear hw2 hxb
  have g0 := HG.out.cell 0 rfl
  have g1 := HG.out.cell 1 rfl
  have g2 := HG.out.cell 2 rfl
  have g3 := HG.out.cell 3 rfl
  have g4 := HG.out.cell 4 rfl
  have g5 := HG.out.cell 5 rfl
  have g6 := HG.out.cell 6 rfl
  have g7 := HG.out.cell 7 rfl
  have g8 := HG.out.cell 8 rfl
  have g9 := HG.out.cell 9 rfl
  have g10 := HG.out.cell 10 rfl
  have g11 := HG.out.cell 11 rfl
  have g12 := HG.out.cell 12 rfl
  have HN := Lib.hid (numbersF_any (w2.alloc (.cells #[.int .i64 n] 3)) (one_sl w2 n))
  have HBa := Lib.hid (HB.out.trans ((alB w2 (.cells #[.int .i64 n] 3)).mono HB.out.size))
  obtain ⟨b1, hb1⟩ : ∃ b1, b1 = [n].all numB := ⟨_, rfl⟩
  rw [← hb1] at HN
  rw [← hb1] at HR
  clear hb1
  go_wp2_with fail
  refine HN.out.mono ?_
  rintro e w3 ⟨rfl, hb3⟩
  have HB3 := Lib.hid (HBa.out.trans (hb3.mono HBa.out.size))
  clear hb3
  go_wp2
  go_ret
  exact ⟨ret_bool HR.out.symm, HB3.out⟩
set_option maxRecDepth 100000 in
set_option maxHeartbeats 4000000 in
theorem right_21 (w : World) (i t n c : Int) (fi : Bool) (dt ci : List UInt8) (sp : List Sn) (dl e0 e1 e2 : Int) (da : Option Addr) (dc : Nat) (ca : Option Addr) (cc : Nat) (sa : Option Addr) (sc : Nat) (_ : dt.length ≤ 140737488355328) :
    Calls Try.prog 28 #[.agg (fcells ⟨21, i, t, n, c, fi, dt, ci, sp, dl, e0, e1, e2⟩ ⟨da, dc, ca, cc, sa, sc⟩).toArray] w (BoolOf w (rightV ⟨21, i, t, n, c, fi, dt, ci, sp, dl, e0, e1, e2⟩)) := by
  obtain ⟨R, hR⟩ : ∃ R, R = rightV ⟨21, i, t, n, c, fi, dt, ci, sp, dl, e0, e1, e2⟩ := ⟨_, rfl⟩
  rw [← hR]
  obtain ⟨dn, hdn⟩ : ∃ dn, dn = dt.length := ⟨_, rfl⟩
  obtain ⟨cn, hcn⟩ : ∃ cn, cn = ci.length := ⟨_, rfl⟩
  obtain ⟨sn, hsn⟩ : ∃ sn, sn = sp.length := ⟨_, rfl⟩
  have hf : fcells ⟨21, i, t, n, c, fi, dt, ci, sp, dl, e0, e1, e2⟩ ⟨da, dc, ca, cc, sa, sc⟩ = [.int .i64 21, .int .i64 i, .int .i64 t, .int .i64 n, .int .i64 c, .bool fi, .slice da dn dc, .slice ca cn cc, .slice sa sn sc, .int .i64 dl, .int .i64 e0, .int .i64 e1, .int .i64 e2] := by rw [hdn, hcn, hsn]; rfl
  rw [hf]
  obtain ⟨w2, hw2⟩ : ∃ w2, w2 = w.alloc (.cells #[.int .i64 21, .int .i64 i, .int .i64 t, .int .i64 n, .int .i64 c, .bool fi, .slice da dn dc, .slice ca cn cc, .slice sa sn sc, .int .i64 dl, .int .i64 e0, .int .i64 e1, .int .i64 e2] 26) := ⟨_, rfl⟩
  have HB : Hid (Below w.heap.size w w2) := Lib.hid (by rw [hw2]; exact alB w _)
  obtain ⟨xb, hxb⟩ : ∃ xb, xb = w.heap.size := ⟨_, rfl⟩
  have HG : Hid (Has w2 xb 26 [.int .i64 21, .int .i64 i, .int .i64 t, .int .i64 n, .int .i64 c, .bool fi, .slice da dn dc, .slice ca cn cc, .slice sa sn sc, .int .i64 dl, .int .i64 e0, .int .i64 e1, .int .i64 e2]) := Lib.hid (by rw [hw2, hxb]; exact Has.new _ _ _)
  have HR : Hid (R = [i, n].all numB) := Lib.hid (by rw [hR]; rfl)
  clear hR
  clear hf
  have HD := Lib.hid hdn
  have HCn := Lib.hid hcn
  clear hdn hcn hsn
  go_enter Try.func28, Try.ntmps28
  go_upto_region 1 with fail
  rw [← hw2, ← hxb]
  clear hw2 hxb
  have g0 := HG.out.cell 0 rfl
  have g1 := HG.out.cell 1 rfl
  have g2 := HG.out.cell 2 rfl
  have g3 := HG.out.cell 3 rfl
  have g4 := HG.out.cell 4 rfl
  have g5 := HG.out.cell 5 rfl
  have g6 := HG.out.cell 6 rfl
  have g7 := HG.out.cell 7 rfl
  have g8 := HG.out.cell 8 rfl
  have g9 := HG.out.cell 9 rfl
  have g10 := HG.out.cell 10 rfl
  have g11 := HG.out.cell 11 rfl
  have g12 := HG.out.cell 12 rfl
  have HN := Lib.hid (numbersF_any (w2.alloc (.cells #[.int .i64 i, .int .i64 n] 3)) (two_sl w2 i n))
  have HBa := Lib.hid (HB.out.trans ((alB w2 (.cells #[.int .i64 i, .int .i64 n] 3)).mono HB.out.size))
  obtain ⟨b1, hb1⟩ : ∃ b1, b1 = [i, n].all numB := ⟨_, rfl⟩
  rw [← hb1] at HN
  rw [← hb1] at HR
  clear hb1
  go_wp2_with fail
  refine HN.out.mono ?_
  rintro e w3 ⟨rfl, hb3⟩
  have HB3 := Lib.hid (HBa.out.trans (hb3.mono HBa.out.size))
  clear hb3
  go_wp2
  go_ret
  exact ⟨ret_bool HR.out.symm, HB3.out⟩
set_option maxRecDepth 100000 in
set_option maxHeartbeats 4000000 in
theorem right_22 (w : World) (i t n c : Int) (fi : Bool) (dt ci : List UInt8) (sp : List Sn) (dl e0 e1 e2 : Int) (da : Option Addr) (dc : Nat) (ca : Option Addr) (cc : Nat) (sa : Option Addr) (sc : Nat) (_ : dt.length ≤ 140737488355328) :
    Calls Try.prog 28 #[.agg (fcells ⟨22, i, t, n, c, fi, dt, ci, sp, dl, e0, e1, e2⟩ ⟨da, dc, ca, cc, sa, sc⟩).toArray] w (BoolOf w (rightV ⟨22, i, t, n, c, fi, dt, ci, sp, dl, e0, e1, e2⟩)) := by
  obtain ⟨R, hR⟩ : ∃ R, R = rightV ⟨22, i, t, n, c, fi, dt, ci, sp, dl, e0, e1, e2⟩ := ⟨_, rfl⟩
  rw [← hR]
  obtain ⟨dn, hdn⟩ : ∃ dn, dn = dt.length := ⟨_, rfl⟩
  obtain ⟨cn, hcn⟩ : ∃ cn, cn = ci.length := ⟨_, rfl⟩
  obtain ⟨sn, hsn⟩ : ∃ sn, sn = sp.length := ⟨_, rfl⟩
  have hf : fcells ⟨22, i, t, n, c, fi, dt, ci, sp, dl, e0, e1, e2⟩ ⟨da, dc, ca, cc, sa, sc⟩ = [.int .i64 22, .int .i64 i, .int .i64 t, .int .i64 n, .int .i64 c, .bool fi, .slice da dn dc, .slice ca cn cc, .slice sa sn sc, .int .i64 dl, .int .i64 e0, .int .i64 e1, .int .i64 e2] := by rw [hdn, hcn, hsn]; rfl
  rw [hf]
  obtain ⟨w2, hw2⟩ : ∃ w2, w2 = w.alloc (.cells #[.int .i64 22, .int .i64 i, .int .i64 t, .int .i64 n, .int .i64 c, .bool fi, .slice da dn dc, .slice ca cn cc, .slice sa sn sc, .int .i64 dl, .int .i64 e0, .int .i64 e1, .int .i64 e2] 26) := ⟨_, rfl⟩
  have HB : Hid (Below w.heap.size w w2) := Lib.hid (by rw [hw2]; exact alB w _)
  obtain ⟨xb, hxb⟩ : ∃ xb, xb = w.heap.size := ⟨_, rfl⟩
  have HG : Hid (Has w2 xb 26 [.int .i64 22, .int .i64 i, .int .i64 t, .int .i64 n, .int .i64 c, .bool fi, .slice da dn dc, .slice ca cn cc, .slice sa sn sc, .int .i64 dl, .int .i64 e0, .int .i64 e1, .int .i64 e2]) := Lib.hid (by rw [hw2, hxb]; exact Has.new _ _ _)
  have HR : Hid (R = (decide (0 ≤ n) && decide (n ≤ 1152921504606846976))) := Lib.hid (by rw [hR]; rfl)
  clear hR
  clear hf
  have HD := Lib.hid hdn
  have HCn := Lib.hid hcn
  clear hdn hcn hsn
  go_enter Try.func28, Try.ntmps28
  go_upto_region 1 with fail
  rw [← hw2, ← hxb]
  clear hw2 hxb
  have g0 := HG.out.cell 0 rfl
  have g1 := HG.out.cell 1 rfl
  have g2 := HG.out.cell 2 rfl
  have g3 := HG.out.cell 3 rfl
  have g4 := HG.out.cell 4 rfl
  have g5 := HG.out.cell 5 rfl
  have g6 := HG.out.cell 6 rfl
  have g7 := HG.out.cell 7 rfl
  have g8 := HG.out.cell 8 rfl
  have g9 := HG.out.cell 9 rfl
  have g10 := HG.out.cell 10 rfl
  have g11 := HG.out.cell 11 rfl
  have g12 := HG.out.cell 12 rfl
  by_cases c1 : 0 ≤ n
  · by_cases c2 : n ≤ 1152921504606846976
    · have HF : Hid (R = true) := Lib.hid (by rw [HR.out]; simp [c1, c2])
      go_wp2
      go_ret
      exact ⟨ret_bool HF.out.symm, HB.out⟩
    · have HF : Hid (R = false) := Lib.hid (by rw [HR.out]; simp [c2])
      go_wp2
      go_ret
      exact ⟨ret_bool HF.out.symm, HB.out⟩
  · have HF : Hid (R = false) := Lib.hid (by rw [HR.out]; simp [c1])
    go_wp2
    go_ret
    exact ⟨ret_bool HF.out.symm, HB.out⟩
set_option maxRecDepth 100000 in
set_option maxHeartbeats 4000000 in
theorem right_23 (w : World) (i t n c : Int) (fi : Bool) (dt ci : List UInt8) (sp : List Sn) (dl e0 e1 e2 : Int) (da : Option Addr) (dc : Nat) (ca : Option Addr) (cc : Nat) (sa : Option Addr) (sc : Nat) (_ : dt.length ≤ 140737488355328) :
    Calls Try.prog 28 #[.agg (fcells ⟨23, i, t, n, c, fi, dt, ci, sp, dl, e0, e1, e2⟩ ⟨da, dc, ca, cc, sa, sc⟩).toArray] w (BoolOf w (rightV ⟨23, i, t, n, c, fi, dt, ci, sp, dl, e0, e1, e2⟩)) := by
  obtain ⟨R, hR⟩ : ∃ R, R = rightV ⟨23, i, t, n, c, fi, dt, ci, sp, dl, e0, e1, e2⟩ := ⟨_, rfl⟩
  rw [← hR]
  obtain ⟨dn, hdn⟩ : ∃ dn, dn = dt.length := ⟨_, rfl⟩
  obtain ⟨cn, hcn⟩ : ∃ cn, cn = ci.length := ⟨_, rfl⟩
  obtain ⟨sn, hsn⟩ : ∃ sn, sn = sp.length := ⟨_, rfl⟩
  have hf : fcells ⟨23, i, t, n, c, fi, dt, ci, sp, dl, e0, e1, e2⟩ ⟨da, dc, ca, cc, sa, sc⟩ = [.int .i64 23, .int .i64 i, .int .i64 t, .int .i64 n, .int .i64 c, .bool fi, .slice da dn dc, .slice ca cn cc, .slice sa sn sc, .int .i64 dl, .int .i64 e0, .int .i64 e1, .int .i64 e2] := by rw [hdn, hcn, hsn]; rfl
  rw [hf]
  obtain ⟨w2, hw2⟩ : ∃ w2, w2 = w.alloc (.cells #[.int .i64 23, .int .i64 i, .int .i64 t, .int .i64 n, .int .i64 c, .bool fi, .slice da dn dc, .slice ca cn cc, .slice sa sn sc, .int .i64 dl, .int .i64 e0, .int .i64 e1, .int .i64 e2] 26) := ⟨_, rfl⟩
  have HB : Hid (Below w.heap.size w w2) := Lib.hid (by rw [hw2]; exact alB w _)
  obtain ⟨xb, hxb⟩ : ∃ xb, xb = w.heap.size := ⟨_, rfl⟩
  have HG : Hid (Has w2 xb 26 [.int .i64 23, .int .i64 i, .int .i64 t, .int .i64 n, .int .i64 c, .bool fi, .slice da dn dc, .slice ca cn cc, .slice sa sn sc, .int .i64 dl, .int .i64 e0, .int .i64 e1, .int .i64 e2]) := Lib.hid (by rw [hw2, hxb]; exact Has.new _ _ _)
  have HR : Hid (R = (decide (0 ≤ n) && decide (n ≤ 1152921504606846976))) := Lib.hid (by rw [hR]; rfl)
  clear hR
  clear hf
  have HD := Lib.hid hdn
  have HCn := Lib.hid hcn
  clear hdn hcn hsn
  go_enter Try.func28, Try.ntmps28
  go_upto_region 1 with fail
  rw [← hw2, ← hxb]
  clear hw2 hxb
  have g0 := HG.out.cell 0 rfl
  have g1 := HG.out.cell 1 rfl
  have g2 := HG.out.cell 2 rfl
  have g3 := HG.out.cell 3 rfl
  have g4 := HG.out.cell 4 rfl
  have g5 := HG.out.cell 5 rfl
  have g6 := HG.out.cell 6 rfl
  have g7 := HG.out.cell 7 rfl
  have g8 := HG.out.cell 8 rfl
  have g9 := HG.out.cell 9 rfl
  have g10 := HG.out.cell 10 rfl
  have g11 := HG.out.cell 11 rfl
  have g12 := HG.out.cell 12 rfl
  by_cases c1 : 0 ≤ n
  · by_cases c2 : n ≤ 1152921504606846976
    · have HF : Hid (R = true) := Lib.hid (by rw [HR.out]; simp [c1, c2])
      go_wp2
      go_ret
      exact ⟨ret_bool HF.out.symm, HB.out⟩
    · have HF : Hid (R = false) := Lib.hid (by rw [HR.out]; simp [c2])
      go_wp2
      go_ret
      exact ⟨ret_bool HF.out.symm, HB.out⟩
  · have HF : Hid (R = false) := Lib.hid (by rw [HR.out]; simp [c1])
    go_wp2
    go_ret
    exact ⟨ret_bool HF.out.symm, HB.out⟩
set_option maxRecDepth 100000 in
set_option maxHeartbeats 4000000 in
theorem right_24 (w : World) (i t n c : Int) (fi : Bool) (dt ci : List UInt8) (sp : List Sn) (dl e0 e1 e2 : Int) (da : Option Addr) (dc : Nat) (ca : Option Addr) (cc : Nat) (sa : Option Addr) (sc : Nat) (hd : dt.length ≤ 140737488355328) :
    Calls Try.prog 28 #[.agg (fcells ⟨24, i, t, n, c, fi, dt, ci, sp, dl, e0, e1, e2⟩ ⟨da, dc, ca, cc, sa, sc⟩).toArray] w (BoolOf w (rightV ⟨24, i, t, n, c, fi, dt, ci, sp, dl, e0, e1, e2⟩)) := by
  obtain ⟨R, hR⟩ : ∃ R, R = rightV ⟨24, i, t, n, c, fi, dt, ci, sp, dl, e0, e1, e2⟩ := ⟨_, rfl⟩
  rw [← hR]
  obtain ⟨dn, hdn⟩ : ∃ dn, dn = dt.length := ⟨_, rfl⟩
  obtain ⟨cn, hcn⟩ : ∃ cn, cn = ci.length := ⟨_, rfl⟩
  obtain ⟨sn, hsn⟩ : ∃ sn, sn = sp.length := ⟨_, rfl⟩
  have hf : fcells ⟨24, i, t, n, c, fi, dt, ci, sp, dl, e0, e1, e2⟩ ⟨da, dc, ca, cc, sa, sc⟩ = [.int .i64 24, .int .i64 i, .int .i64 t, .int .i64 n, .int .i64 c, .bool fi, .slice da dn dc, .slice ca cn cc, .slice sa sn sc, .int .i64 dl, .int .i64 e0, .int .i64 e1, .int .i64 e2] := by rw [hdn, hcn, hsn]; rfl
  rw [hf]
  obtain ⟨w2, hw2⟩ : ∃ w2, w2 = w.alloc (.cells #[.int .i64 24, .int .i64 i, .int .i64 t, .int .i64 n, .int .i64 c, .bool fi, .slice da dn dc, .slice ca cn cc, .slice sa sn sc, .int .i64 dl, .int .i64 e0, .int .i64 e1, .int .i64 e2] 26) := ⟨_, rfl⟩
  have HB : Hid (Below w.heap.size w w2) := Lib.hid (by rw [hw2]; exact alB w _)
  obtain ⟨xb, hxb⟩ : ∃ xb, xb = w.heap.size := ⟨_, rfl⟩
  have HG : Hid (Has w2 xb 26 [.int .i64 24, .int .i64 i, .int .i64 t, .int .i64 n, .int .i64 c, .bool fi, .slice da dn dc, .slice ca cn cc, .slice sa sn sc, .int .i64 dl, .int .i64 e0, .int .i64 e1, .int .i64 e2]) := Lib.hid (by rw [hw2, hxb]; exact Has.new _ _ _)
  have HR : Hid (R = ([n, t].all numB && (decide (t ≤ n) && (decide (1 ≤ ci.length) && (decide (ci.length ≤ 20) && decide (dt.length = 16)))))) := Lib.hid (by rw [hR]; rfl)
  rw [← hdn, ← hcn] at HR
  clear hR
  rw [← hdn] at hd
  clear hf
  have HD := Lib.hid hdn
  have HCn := Lib.hid hcn
  clear hdn hcn hsn
  go_enter Try.func28, Try.ntmps28
  go_upto_region 1 with fail
  rw [← hw2, ← hxb]
  clear hw2 hxb
  have g0 := HG.out.cell 0 rfl
  have g1 := HG.out.cell 1 rfl
  have g2 := HG.out.cell 2 rfl
  have g3 := HG.out.cell 3 rfl
  have g4 := HG.out.cell 4 rfl
  have g5 := HG.out.cell 5 rfl
  have g6 := HG.out.cell 6 rfl
  have g7 := HG.out.cell 7 rfl
  have g8 := HG.out.cell 8 rfl
  have g9 := HG.out.cell 9 rfl
  have g10 := HG.out.cell 10 rfl
  have g11 := HG.out.cell 11 rfl
  have g12 := HG.out.cell 12 rfl
  have HN := Lib.hid (numbersF_any (w2.alloc (.cells #[.int .i64 n, .int .i64 t] 3)) (two_sl w2 n t))
  have HBa := Lib.hid (HB.out.trans ((alB w2 (.cells #[.int .i64 n, .int .i64 t] 3)).mono HB.out.size))
  obtain ⟨b1, hb1⟩ : ∃ b1, b1 = [n, t].all numB := ⟨_, rfl⟩
  rw [← hb1] at HN
  rw [← hb1] at HR
  clear hb1
  cases b1 with
  | true =>
    by_cases c1 : t ≤ n
    · by_cases c2 : 1 ≤ cn
      · have d2 : (1 : Int) ≤ (cn : Int) := by omega
        by_cases c3 : cn ≤ 20
        · have d3 : (cn : Int) ≤ 20 := by omega
          by_cases c4 : dn = 16
          · have HF : Hid (R = true) := Lib.hid (by rw [HR.out]; simp [c1, c2, c3, c4])
            clear HR HD c2 c3
            subst c4
            go_wp2_with fail
            refine HN.out.mono ?_
            rintro e w3 ⟨rfl, hb3⟩
            have HB3 := Lib.hid (HBa.out.trans (hb3.mono HBa.out.size))
            have hG3 := HG.out.kept (Kept.of_below (X := none') ((alB w2 _).trans (hb3.mono (alB w2 _).size))) (fun h => h)
            have g2 := hG3.cell 2 rfl
            have g3 := hG3.cell 3 rfl
            have g6 := hG3.cell 6 rfl
            have g7 := hG3.cell 7 rfl
            clear hb3 hG3
            go_wp2
            go_ret
            exact ⟨ret_bool HF.out.symm, HB3.out⟩
          · have d4 : ((dn : Int) == 16) = false := by simp; omega
            have HF : Hid (R = false) := Lib.hid (by rw [HR.out]; simp [c4])
            clear c2 c3 c4
            go_wp2_with fail
            refine HN.out.mono ?_
            rintro e w3 ⟨rfl, hb3⟩
            have HB3 := Lib.hid (HBa.out.trans (hb3.mono HBa.out.size))
            have hG3 := HG.out.kept (Kept.of_below (X := none') ((alB w2 _).trans (hb3.mono (alB w2 _).size))) (fun h => h)
            have g2 := hG3.cell 2 rfl
            have g3 := hG3.cell 3 rfl
            have g6 := hG3.cell 6 rfl
            have g7 := hG3.cell 7 rfl
            clear hb3 hG3
            go_wp2
            go_ret
            exact ⟨ret_bool HF.out.symm, HB3.out⟩
        · have d3 : ¬ (cn : Int) ≤ 20 := by omega
          have HF : Hid (R = false) := Lib.hid (by rw [HR.out]; simp [c3])
          clear c2 c3
          go_wp2_with fail
          refine HN.out.mono ?_
          rintro e w3 ⟨rfl, hb3⟩
          have HB3 := Lib.hid (HBa.out.trans (hb3.mono HBa.out.size))
          have hG3 := HG.out.kept (Kept.of_below (X := none') ((alB w2 _).trans (hb3.mono (alB w2 _).size))) (fun h => h)
          have g2 := hG3.cell 2 rfl
          have g3 := hG3.cell 3 rfl
          have g6 := hG3.cell 6 rfl
          have g7 := hG3.cell 7 rfl
          clear hb3 hG3
          go_wp2
          go_ret
          exact ⟨ret_bool HF.out.symm, HB3.out⟩
      · have d2 : ¬ (1 : Int) ≤ (cn : Int) := by omega
        have HF : Hid (R = false) := Lib.hid (by rw [HR.out]; simp [c2])
        clear c2
        go_wp2_with fail
        refine HN.out.mono ?_
        rintro e w3 ⟨rfl, hb3⟩
        have HB3 := Lib.hid (HBa.out.trans (hb3.mono HBa.out.size))
        have hG3 := HG.out.kept (Kept.of_below (X := none') ((alB w2 _).trans (hb3.mono (alB w2 _).size))) (fun h => h)
        have g2 := hG3.cell 2 rfl
        have g3 := hG3.cell 3 rfl
        have g6 := hG3.cell 6 rfl
        have g7 := hG3.cell 7 rfl
        clear hb3 hG3
        go_wp2
        go_ret
        exact ⟨ret_bool HF.out.symm, HB3.out⟩
    · have HF : Hid (R = false) := Lib.hid (by rw [HR.out]; simp [c1])
      go_wp2_with fail
      refine HN.out.mono ?_
      rintro e w3 ⟨rfl, hb3⟩
      have HB3 := Lib.hid (HBa.out.trans (hb3.mono HBa.out.size))
      have hG3 := HG.out.kept (Kept.of_below (X := none') ((alB w2 _).trans (hb3.mono (alB w2 _).size))) (fun h => h)
      have g2 := hG3.cell 2 rfl
      have g3 := hG3.cell 3 rfl
      have g6 := hG3.cell 6 rfl
      have g7 := hG3.cell 7 rfl
      clear hb3 hG3
      go_wp2
      go_ret
      exact ⟨ret_bool HF.out.symm, HB3.out⟩
  | false =>
    have HF : Hid (R = false) := Lib.hid (by rw [HR.out]; rfl)
    go_wp2_with fail
    refine HN.out.mono ?_
    rintro e w3 ⟨rfl, hb3⟩
    have HB3 := Lib.hid (HBa.out.trans (hb3.mono HBa.out.size))
    have hG3 := HG.out.kept (Kept.of_below (X := none') ((alB w2 _).trans (hb3.mono (alB w2 _).size))) (fun h => h)
    have g2 := hG3.cell 2 rfl
    have g3 := hG3.cell 3 rfl
    have g6 := hG3.cell 6 rfl
    have g7 := hG3.cell 7 rfl
    clear hb3 hG3
    go_wp2
    go_ret
    exact ⟨ret_bool HF.out.symm, HB3.out⟩
set_option maxRecDepth 100000 in
set_option maxHeartbeats 4000000 in
theorem right_25 (w : World) (i t n c : Int) (fi : Bool) (dt ci : List UInt8) (sp : List Sn) (dl e0 e1 e2 : Int) (da : Option Addr) (dc : Nat) (ca : Option Addr) (cc : Nat) (sa : Option Addr) (sc : Nat) (_ : dt.length ≤ 140737488355328) :
    Calls Try.prog 28 #[.agg (fcells ⟨25, i, t, n, c, fi, dt, ci, sp, dl, e0, e1, e2⟩ ⟨da, dc, ca, cc, sa, sc⟩).toArray] w (BoolOf w (rightV ⟨25, i, t, n, c, fi, dt, ci, sp, dl, e0, e1, e2⟩)) := by
  obtain ⟨R, hR⟩ : ∃ R, R = rightV ⟨25, i, t, n, c, fi, dt, ci, sp, dl, e0, e1, e2⟩ := ⟨_, rfl⟩
  rw [← hR]
  obtain ⟨dn, hdn⟩ : ∃ dn, dn = dt.length := ⟨_, rfl⟩
  obtain ⟨cn, hcn⟩ : ∃ cn, cn = ci.length := ⟨_, rfl⟩
  obtain ⟨sn, hsn⟩ : ∃ sn, sn = sp.length := ⟨_, rfl⟩
  have hf : fcells ⟨25, i, t, n, c, fi, dt, ci, sp, dl, e0, e1, e2⟩ ⟨da, dc, ca, cc, sa, sc⟩ = [.int .i64 25, .int .i64 i, .int .i64 t, .int .i64 n, .int .i64 c, .bool fi, .slice da dn dc, .slice ca cn cc, .slice sa sn sc, .int .i64 dl, .int .i64 e0, .int .i64 e1, .int .i64 e2] := by rw [hdn, hcn, hsn]; rfl
  rw [hf]
  obtain ⟨w2, hw2⟩ : ∃ w2, w2 = w.alloc (.cells #[.int .i64 25, .int .i64 i, .int .i64 t, .int .i64 n, .int .i64 c, .bool fi, .slice da dn dc, .slice ca cn cc, .slice sa sn sc, .int .i64 dl, .int .i64 e0, .int .i64 e1, .int .i64 e2] 26) := ⟨_, rfl⟩
  have HB : Hid (Below w.heap.size w w2) := Lib.hid (by rw [hw2]; exact alB w _)
  obtain ⟨xb, hxb⟩ : ∃ xb, xb = w.heap.size := ⟨_, rfl⟩
  have HG : Hid (Has w2 xb 26 [.int .i64 25, .int .i64 i, .int .i64 t, .int .i64 n, .int .i64 c, .bool fi, .slice da dn dc, .slice ca cn cc, .slice sa sn sc, .int .i64 dl, .int .i64 e0, .int .i64 e1, .int .i64 e2]) := Lib.hid (by rw [hw2, hxb]; exact Has.new _ _ _)
  have HR : Hid (R = [n].all numB) := Lib.hid (by rw [hR]; rfl)
  clear hR
  clear hf
  have HD := Lib.hid hdn
  have HCn := Lib.hid hcn
  clear hdn hcn hsn
  go_enter Try.func28, Try.ntmps28
  go_upto_region 1 with fail
  rw [← hw2, ← hxb]
  clear hw2 hxb
  have g0 := HG.out.cell 0 rfl
  have g1 := HG.out.cell 1 rfl
  have g2 := HG.out.cell 2 rfl
  have g3 := HG.out.cell 3 rfl
  have g4 := HG.out.cell 4 rfl
  have g5 := HG.out.cell 5 rfl
  have g6 := HG.out.cell 6 rfl
  have g7 := HG.out.cell 7 rfl
  have g8 := HG.out.cell 8 rfl
  have g9 := HG.out.cell 9 rfl
  have g10 := HG.out.cell 10 rfl
  have g11 := HG.out.cell 11 rfl
  have g12 := HG.out.cell 12 rfl
  have HN := Lib.hid (numbersF_any (w2.alloc (.cells #[.int .i64 n] 3)) (one_sl w2 n))
  have HBa := Lib.hid (HB.out.trans ((alB w2 (.cells #[.int .i64 n] 3)).mono HB.out.size))
  obtain ⟨b1, hb1⟩ : ∃ b1, b1 = [n].all numB := ⟨_, rfl⟩
  rw [← hb1] at HN
  rw [← hb1] at HR
  clear hb1
  go_wp2_with fail
  refine HN.out.mono ?_
  rintro e w3 ⟨rfl, hb3⟩
  have HB3 := Lib.hid (HBa.out.trans (hb3.mono HBa.out.size))
  clear hb3
  go_wp2
  go_ret
  exact ⟨ret_bool HR.out.symm, HB3.out⟩
set_option maxRecDepth 100000 in
set_option maxHeartbeats 4000000 in
theorem right_26 (w : World) (i t n c : Int) (fi : Bool) (dt ci : List UInt8) (sp : List Sn) (dl e0 e1 e2 : Int) (da : Option Addr) (dc : Nat) (ca : Option Addr) (cc : Nat) (sa : Option Addr) (sc : Nat) (hd : dt.length ≤ 140737488355328) :
    Calls Try.prog 28 #[.agg (fcells ⟨26, i, t, n, c, fi, dt, ci, sp, dl, e0, e1, e2⟩ ⟨da, dc, ca, cc, sa, sc⟩).toArray] w (BoolOf w (rightV ⟨26, i, t, n, c, fi, dt, ci, sp, dl, e0, e1, e2⟩)) := by
  obtain ⟨R, hR⟩ : ∃ R, R = rightV ⟨26, i, t, n, c, fi, dt, ci, sp, dl, e0, e1, e2⟩ := ⟨_, rfl⟩
  rw [← hR]
  obtain ⟨dn, hdn⟩ : ∃ dn, dn = dt.length := ⟨_, rfl⟩
  obtain ⟨cn, hcn⟩ : ∃ cn, cn = ci.length := ⟨_, rfl⟩
  obtain ⟨sn, hsn⟩ : ∃ sn, sn = sp.length := ⟨_, rfl⟩
  have hf : fcells ⟨26, i, t, n, c, fi, dt, ci, sp, dl, e0, e1, e2⟩ ⟨da, dc, ca, cc, sa, sc⟩ = [.int .i64 26, .int .i64 i, .int .i64 t, .int .i64 n, .int .i64 c, .bool fi, .slice da dn dc, .slice ca cn cc, .slice sa sn sc, .int .i64 dl, .int .i64 e0, .int .i64 e1, .int .i64 e2] := by rw [hdn, hcn, hsn]; rfl
  rw [hf]
  obtain ⟨w2, hw2⟩ : ∃ w2, w2 = w.alloc (.cells #[.int .i64 26, .int .i64 i, .int .i64 t, .int .i64 n, .int .i64 c, .bool fi, .slice da dn dc, .slice ca cn cc, .slice sa sn sc, .int .i64 dl, .int .i64 e0, .int .i64 e1, .int .i64 e2] 26) := ⟨_, rfl⟩
  have HB : Hid (Below w.heap.size w w2) := Lib.hid (by rw [hw2]; exact alB w _)
  obtain ⟨xb, hxb⟩ : ∃ xb, xb = w.heap.size := ⟨_, rfl⟩
  have HG : Hid (Has w2 xb 26 [.int .i64 26, .int .i64 i, .int .i64 t, .int .i64 n, .int .i64 c, .bool fi, .slice da dn dc, .slice ca cn cc, .slice sa sn sc, .int .i64 dl, .int .i64 e0, .int .i64 e1, .int .i64 e2]) := Lib.hid (by rw [hw2, hxb]; exact Has.new _ _ _)
  have HR : Hid (R = decide (dt.length = 8)) := Lib.hid (by rw [hR]; rfl)
  rw [← hdn] at HR
  clear hR
  rw [← hdn] at hd
  clear hf
  have HD := Lib.hid hdn
  have HCn := Lib.hid hcn
  clear hdn hcn hsn
  go_enter Try.func28, Try.ntmps28
  go_upto_region 1 with fail
  rw [← hw2, ← hxb]
  clear hw2 hxb
  have g0 := HG.out.cell 0 rfl
  have g1 := HG.out.cell 1 rfl
  have g2 := HG.out.cell 2 rfl
  have g3 := HG.out.cell 3 rfl
  have g4 := HG.out.cell 4 rfl
  have g5 := HG.out.cell 5 rfl
  have g6 := HG.out.cell 6 rfl
  have g7 := HG.out.cell 7 rfl
  have g8 := HG.out.cell 8 rfl
  have g9 := HG.out.cell 9 rfl
  have g10 := HG.out.cell 10 rfl
  have g11 := HG.out.cell 11 rfl
  have g12 := HG.out.cell 12 rfl
  by_cases c1 : dn = 8
  · have d1 : (dn : Int) = 8 := by omega
    have HF : Hid (R = true) := Lib.hid (by rw [HR.out]; simp [c1])
    have d2 : ((dn : Int) == 8) = true := by rw [c1]; rfl
    clear HR; subst c1
    go_wp2
    go_ret
    exact ⟨ret_bool HF.out.symm, HB.out⟩
  · have d1 : ¬ (dn : Int) = 8 := by omega
    have HF : Hid (R = false) := Lib.hid (by rw [HR.out]; simp [c1])
    have d2 : ((dn : Int) == 8) = false := by simp; omega
    go_wp2
    go_ret
    exact ⟨ret_bool HF.out.symm, HB.out⟩
set_option maxRecDepth 100000 in
set_option maxHeartbeats 4000000 in
theorem right_27 (w : World) (i t n c : Int) (fi : Bool) (dt ci : List UInt8) (sp : List Sn) (dl e0 e1 e2 : Int) (da : Option Addr) (dc : Nat) (ca : Option Addr) (cc : Nat) (sa : Option Addr) (sc : Nat) (hd : dt.length ≤ 140737488355328) :
    Calls Try.prog 28 #[.agg (fcells ⟨27, i, t, n, c, fi, dt, ci, sp, dl, e0, e1, e2⟩ ⟨da, dc, ca, cc, sa, sc⟩).toArray] w (BoolOf w (rightV ⟨27, i, t, n, c, fi, dt, ci, sp, dl, e0, e1, e2⟩)) := by
  obtain ⟨R, hR⟩ : ∃ R, R = rightV ⟨27, i, t, n, c, fi, dt, ci, sp, dl, e0, e1, e2⟩ := ⟨_, rfl⟩
  rw [← hR]
  obtain ⟨dn, hdn⟩ : ∃ dn, dn = dt.length := ⟨_, rfl⟩
  obtain ⟨cn, hcn⟩ : ∃ cn, cn = ci.length := ⟨_, rfl⟩
  obtain ⟨sn, hsn⟩ : ∃ sn, sn = sp.length := ⟨_, rfl⟩
  have hf : fcells ⟨27, i, t, n, c, fi, dt, ci, sp, dl, e0, e1, e2⟩ ⟨da, dc, ca, cc, sa, sc⟩ = [.int .i64 27, .int .i64 i, .int .i64 t, .int .i64 n, .int .i64 c, .bool fi, .slice da dn dc, .slice ca cn cc, .slice sa sn sc, .int .i64 dl, .int .i64 e0, .int .i64 e1, .int .i64 e2] := by rw [hdn, hcn, hsn]; rfl
  rw [hf]
  obtain ⟨w2, hw2⟩ : ∃ w2, w2 = w.alloc (.cells #[.int .i64 27, .int .i64 i, .int .i64 t, .int .i64 n, .int .i64 c, .bool fi, .slice da dn dc, .slice ca cn cc, .slice sa sn sc, .int .i64 dl, .int .i64 e0, .int .i64 e1, .int .i64 e2] 26) := ⟨_, rfl⟩
  have HB : Hid (Below w.heap.size w w2) := Lib.hid (by rw [hw2]; exact alB w _)
  obtain ⟨xb, hxb⟩ : ∃ xb, xb = w.heap.size := ⟨_, rfl⟩
  have HG : Hid (Has w2 xb 26 [.int .i64 27, .int .i64 i, .int .i64 t, .int .i64 n, .int .i64 c, .bool fi, .slice da dn dc, .slice ca cn cc, .slice sa sn sc, .int .i64 dl, .int .i64 e0, .int .i64 e1, .int .i64 e2]) := Lib.hid (by rw [hw2, hxb]; exact Has.new _ _ _)
  have HR : Hid (R = decide (dt.length = 8)) := Lib.hid (by rw [hR]; rfl)
  rw [← hdn] at HR
  clear hR
  rw [← hdn] at hd
  clear hf
  have HD := Lib.hid hdn
  have HCn := Lib.hid hcn
  clear hdn hcn hsn
  go_enter Try.func28, Try.ntmps28
  go_upto_region 1 with fail
  rw [← hw2, ← hxb]
  clear hw2 hxb
  have g0 := HG.out.cell 0 rfl
  have g1 := HG.out.cell 1 rfl
  have g2 := HG.out.cell 2 rfl
  have g3 := HG.out.cell 3 rfl
  have g4 := HG.out.cell 4 rfl
  have g5 := HG.out.cell 5 rfl
  have g6 := HG.out.cell 6 rfl
  have g7 := HG.out.cell 7 rfl
  have g8 := HG.out.cell 8 rfl
  have g9 := HG.out.cell 9 rfl
  have g10 := HG.out.cell 10 rfl
  have g11 := HG.out.cell 11 rfl
  have g12 := HG.out.cell 12 rfl
  by_cases c1 : dn = 8
  · have d1 : (dn : Int) = 8 := by omega
    have HF : Hid (R = true) := Lib.hid (by rw [HR.out]; simp [c1])
    have d2 : ((dn : Int) == 8) = true := by rw [c1]; rfl
    clear HR; subst c1
    go_wp2
    go_ret
    exact ⟨ret_bool HF.out.symm, HB.out⟩
  · have d1 : ¬ (dn : Int) = 8 := by omega
    have HF : Hid (R = false) := Lib.hid (by rw [HR.out]; simp [c1])
    have d2 : ((dn : Int) == 8) = false := by simp; omega
    go_wp2
    go_ret
    exact ⟨ret_bool HF.out.symm, HB.out⟩
set_option maxRecDepth 100000 in
set_option maxHeartbeats 4000000 in
theorem right_28 (w : World) (i t n c : Int) (fi : Bool) (dt ci : List UInt8) (sp : List Sn) (dl e0 e1 e2 : Int) (da : Option Addr) (dc : Nat) (ca : Option Addr) (cc : Nat) (sa : Option Addr) (sc : Nat) (_ : dt.length ≤ 140737488355328) :
    Calls Try.prog 28 #[.agg (fcells ⟨28, i, t, n, c, fi, dt, ci, sp, dl, e0, e1, e2⟩ ⟨da, dc, ca, cc, sa, sc⟩).toArray] w (BoolOf w (rightV ⟨28, i, t, n, c, fi, dt, ci, sp, dl, e0, e1, e2⟩)) := by
  obtain ⟨R, hR⟩ : ∃ R, R = rightV ⟨28, i, t, n, c, fi, dt, ci, sp, dl, e0, e1, e2⟩ := ⟨_, rfl⟩
  rw [← hR]
  obtain ⟨dn, hdn⟩ : ∃ dn, dn = dt.length := ⟨_, rfl⟩
  obtain ⟨cn, hcn⟩ : ∃ cn, cn = ci.length := ⟨_, rfl⟩
  obtain ⟨sn, hsn⟩ : ∃ sn, sn = sp.length := ⟨_, rfl⟩
  have hf : fcells ⟨28, i, t, n, c, fi, dt, ci, sp, dl, e0, e1, e2⟩ ⟨da, dc, ca, cc, sa, sc⟩ = [.int .i64 28, .int .i64 i, .int .i64 t, .int .i64 n, .int .i64 c, .bool fi, .slice da dn dc, .slice ca cn cc, .slice sa sn sc, .int .i64 dl, .int .i64 e0, .int .i64 e1, .int .i64 e2] := by rw [hdn, hcn, hsn]; rfl
  rw [hf]
  obtain ⟨w2, hw2⟩ : ∃ w2, w2 = w.alloc (.cells #[.int .i64 28, .int .i64 i, .int .i64 t, .int .i64 n, .int .i64 c, .bool fi, .slice da dn dc, .slice ca cn cc, .slice sa sn sc, .int .i64 dl, .int .i64 e0, .int .i64 e1, .int .i64 e2] 26) := ⟨_, rfl⟩
  have HB : Hid (Below w.heap.size w w2) := Lib.hid (by rw [hw2]; exact alB w _)
  obtain ⟨xb, hxb⟩ : ∃ xb, xb = w.heap.size := ⟨_, rfl⟩
  have HG : Hid (Has w2 xb 26 [.int .i64 28, .int .i64 i, .int .i64 t, .int .i64 n, .int .i64 c, .bool fi, .slice da dn dc, .slice ca cn cc, .slice sa sn sc, .int .i64 dl, .int .i64 e0, .int .i64 e1, .int .i64 e2]) := Lib.hid (by rw [hw2, hxb]; exact Has.new _ _ _)
  have HR : Hid (R = [c, n].all numB) := Lib.hid (by rw [hR]; rfl)
  clear hR
  clear hf
  have HD := Lib.hid hdn
  have HCn := Lib.hid hcn
  clear hdn hcn hsn
  go_enter Try.func28, Try.ntmps28
  go_upto_region 1 with fail
  rw [← hw2, ← hxb]
  clear hw2 hxb
  have g0 := HG.out.cell 0 rfl
  have g1 := HG.out.cell 1 rfl
  have g2 := HG.out.cell 2 rfl
  have g3 := HG.out.cell 3 rfl
  have g4 := HG.out.cell 4 rfl
  have g5 := HG.out.cell 5 rfl
  have g6 := HG.out.cell 6 rfl
  have g7 := HG.out.cell 7 rfl
  have g8 := HG.out.cell 8 rfl
  have g9 := HG.out.cell 9 rfl
  have g10 := HG.out.cell 10 rfl
  have g11 := HG.out.cell 11 rfl
  have g12 := HG.out.cell 12 rfl
  have HN := Lib.hid (numbersF_any (w2.alloc (.cells #[.int .i64 c, .int .i64 n] 3)) (two_sl w2 c n))
  have HBa := Lib.hid (HB.out.trans ((alB w2 (.cells #[.int .i64 c, .int .i64 n] 3)).mono HB.out.size))
  obtain ⟨b1, hb1⟩ : ∃ b1, b1 = [c, n].all numB := ⟨_, rfl⟩
  rw [← hb1] at HN
  rw [← hb1] at HR
  clear hb1
  go_wp2_with fail
  refine HN.out.mono ?_
  rintro e w3 ⟨rfl, hb3⟩
  have HB3 := Lib.hid (HBa.out.trans (hb3.mono HBa.out.size))
  clear hb3
  go_wp2
  go_ret
  exact ⟨ret_bool HR.out.symm, HB3.out⟩
set_option maxRecDepth 100000 in
set_option maxHeartbeats 4000000 in
theorem right_29 (w : World) (i t n c : Int) (fi : Bool) (dt ci : List UInt8) (sp : List Sn) (dl e0 e1 e2 : Int) (da : Option Addr) (dc : Nat) (ca : Option Addr) (cc : Nat) (sa : Option Addr) (sc : Nat) (_ : dt.length ≤ 140737488355328) :
    Calls Try.prog 28 #[.agg (fcells ⟨29, i, t, n, c, fi, dt, ci, sp, dl, e0, e1, e2⟩ ⟨da, dc, ca, cc, sa, sc⟩).toArray] w (BoolOf w (rightV ⟨29, i, t, n, c, fi, dt, ci, sp, dl, e0, e1, e2⟩)) := by
  obtain ⟨R, hR⟩ : ∃ R, R = rightV ⟨29, i, t, n, c, fi, dt, ci, sp, dl, e0, e1, e2⟩ := ⟨_, rfl⟩
  rw [← hR]
  obtain ⟨dn, hdn⟩ : ∃ dn, dn = dt.length := ⟨_, rfl⟩
  obtain ⟨cn, hcn⟩ : ∃ cn, cn = ci.length := ⟨_, rfl⟩
  obtain ⟨sn, hsn⟩ : ∃ sn, sn = sp.length := ⟨_, rfl⟩
  have hf : fcells ⟨29, i, t, n, c, fi, dt, ci, sp, dl, e0, e1, e2⟩ ⟨da, dc, ca, cc, sa, sc⟩ = [.int .i64 29, .int .i64 i, .int .i64 t, .int .i64 n, .int .i64 c, .bool fi, .slice da dn dc, .slice ca cn cc, .slice sa sn sc, .int .i64 dl, .int .i64 e0, .int .i64 e1, .int .i64 e2] := by rw [hdn, hcn, hsn]; rfl
  rw [hf]
  obtain ⟨w2, hw2⟩ : ∃ w2, w2 = w.alloc (.cells #[.int .i64 29, .int .i64 i, .int .i64 t, .int .i64 n, .int .i64 c, .bool fi, .slice da dn dc, .slice ca cn cc, .slice sa sn sc, .int .i64 dl, .int .i64 e0, .int .i64 e1, .int .i64 e2] 26) := ⟨_, rfl⟩
  have HB : Hid (Below w.heap.size w w2) := Lib.hid (by rw [hw2]; exact alB w _)
  obtain ⟨xb, hxb⟩ : ∃ xb, xb = w.heap.size := ⟨_, rfl⟩
  have HG : Hid (Has w2 xb 26 [.int .i64 29, .int .i64 i, .int .i64 t, .int .i64 n, .int .i64 c, .bool fi, .slice da dn dc, .slice ca cn cc, .slice sa sn sc, .int .i64 dl, .int .i64 e0, .int .i64 e1, .int .i64 e2]) := Lib.hid (by rw [hw2, hxb]; exact Has.new _ _ _)
  have HR : Hid (R = [c].all numB) := Lib.hid (by rw [hR]; rfl)
  clear hR
  clear hf
  have HD := Lib.hid hdn
  have HCn := Lib.hid hcn
  clear hdn hcn hsn
  go_enter Try.func28, Try.ntmps28
  go_upto_region 1 with fail
  rw [← hw2, ← hxb]
  clear hw2 hxb
  have g0 := HG.out.cell 0 rfl
  have g1 := HG.out.cell 1 rfl
  have g2 := HG.out.cell 2 rfl
  have g3 := HG.out.cell 3 rfl
  have g4 := HG.out.cell 4 rfl
  have g5 := HG.out.cell 5 rfl
  have g6 := HG.out.cell 6 rfl
  have g7 := HG.out.cell 7 rfl
  have g8 := HG.out.cell 8 rfl
  have g9 := HG.out.cell 9 rfl
  have g10 := HG.out.cell 10 rfl
  have g11 := HG.out.cell 11 rfl
  have g12 := HG.out.cell 12 rfl
  have HN := Lib.hid (numbersF_any (w2.alloc (.cells #[.int .i64 c] 3)) (one_sl w2 c))
  have HBa := Lib.hid (HB.out.trans ((alB w2 (.cells #[.int .i64 c] 3)).mono HB.out.size))
  obtain ⟨b1, hb1⟩ : ∃ b1, b1 = [c].all numB := ⟨_, rfl⟩
  rw [← hb1] at HN
  rw [← hb1] at HR
  clear hb1
  go_wp2_with fail
  refine HN.out.mono ?_
  rintro e w3 ⟨rfl, hb3⟩
  have HB3 := Lib.hid (HBa.out.trans (hb3.mono HBa.out.size))
  clear hb3
  go_wp2
  go_ret
  exact ⟨ret_bool HR.out.symm, HB3.out⟩
set_option maxRecDepth 100000 in
set_option maxHeartbeats 4000000 in
theorem right_30 (w : World) (i t n c : Int) (fi : Bool) (dt ci : List UInt8) (sp : List Sn) (dl e0 e1 e2 : Int) (da : Option Addr) (dc : Nat) (ca : Option Addr) (cc : Nat) (sa : Option Addr) (sc : Nat) (_ : dt.length ≤ 140737488355328) :
    Calls Try.prog 28 #[.agg (fcells ⟨30, i, t, n, c, fi, dt, ci, sp, dl, e0, e1, e2⟩ ⟨da, dc, ca, cc, sa, sc⟩).toArray] w (BoolOf w (rightV ⟨30, i, t, n, c, fi, dt, ci, sp, dl, e0, e1, e2⟩)) := by
  obtain ⟨R, hR⟩ : ∃ R, R = rightV ⟨30, i, t, n, c, fi, dt, ci, sp, dl, e0, e1, e2⟩ := ⟨_, rfl⟩
  rw [← hR]
  obtain ⟨dn, hdn⟩ : ∃ dn, dn = dt.length := ⟨_, rfl⟩
  obtain ⟨cn, hcn⟩ : ∃ cn, cn = ci.length := ⟨_, rfl⟩
  obtain ⟨sn, hsn⟩ : ∃ sn, sn = sp.length := ⟨_, rfl⟩
  have hf : fcells ⟨30, i, t, n, c, fi, dt, ci, sp, dl, e0, e1, e2⟩ ⟨da, dc, ca, cc, sa, sc⟩ = [.int .i64 30, .int .i64 i, .int .i64 t, .int .i64 n, .int .i64 c, .bool fi, .slice da dn dc, .slice ca cn cc, .slice sa sn sc, .int .i64 dl, .int .i64 e0, .int .i64 e1, .int .i64 e2] := by rw [hdn, hcn, hsn]; rfl
  rw [hf]
  obtain ⟨w2, hw2⟩ : ∃ w2, w2 = w.alloc (.cells #[.int .i64 30, .int .i64 i, .int .i64 t, .int .i64 n, .int .i64 c, .bool fi, .slice da dn dc, .slice ca cn cc, .slice sa sn sc, .int .i64 dl, .int .i64 e0, .int .i64 e1, .int .i64 e2] 26) := ⟨_, rfl⟩
  have HB : Hid (Below w.heap.size w w2) := Lib.hid (by rw [hw2]; exact alB w _)
  obtain ⟨xb, hxb⟩ : ∃ xb, xb = w.heap.size := ⟨_, rfl⟩
  have HG : Hid (Has w2 xb 26 [.int .i64 30, .int .i64 i, .int .i64 t, .int .i64 n, .int .i64 c, .bool fi, .slice da dn dc, .slice ca cn cc, .slice sa sn sc, .int .i64 dl, .int .i64 e0, .int .i64 e1, .int .i64 e2]) := Lib.hid (by rw [hw2, hxb]; exact Has.new _ _ _)
  have HR : Hid (R = true) := Lib.hid (by rw [hR]; rfl)
  clear hR
  clear hf
  have HD := Lib.hid hdn
  have HCn := Lib.hid hcn
  clear hdn hcn hsn
  go_enter Try.func28, Try.ntmps28
  go_upto_region 1 with fail
  rw [← hw2, ← hxb]
  clear hw2 hxb
  have g0 := HG.out.cell 0 rfl
  have g1 := HG.out.cell 1 rfl
  have g2 := HG.out.cell 2 rfl
  have g3 := HG.out.cell 3 rfl
  have g4 := HG.out.cell 4 rfl
  have g5 := HG.out.cell 5 rfl
  have g6 := HG.out.cell 6 rfl
  have g7 := HG.out.cell 7 rfl
  have g8 := HG.out.cell 8 rfl
  have g9 := HG.out.cell 9 rfl
  have g10 := HG.out.cell 10 rfl
  have g11 := HG.out.cell 11 rfl
  have g12 := HG.out.cell 12 rfl
  go_wp2
  go_ret
  exact ⟨ret_bool HR.out.symm, HB.out⟩
/-- all kinds -/
theorem right_any (w : World) {f : Fm} {a : FA} (h : FIn w f a) (hz : f.data.length ≤ 140737488351232) (hk : knoF f.kind = true) :
    Calls Try.prog 28 #[.agg (fcells f a).toArray] w (BoolOf w (rightV f)) := by
  obtain ⟨k, i, t, n, c, fi, dt, ci, sp, dl, e0, e1, e2⟩ := f
  obtain ⟨da, dc, ca, cc, sa, sc⟩ := a
  have hd : dt.length ≤ 140737488355328 := by simp only at hz; omega
  have hs : SlS w sa sp.length sc sp := h.spans
  have hk : knoF k = true := hk
  have hc : k = 0 ∨ k = 1 ∨ k = 2 ∨ k = 3 ∨ k = 4 ∨ k = 5 ∨ k = 6 ∨ k = 7 ∨ k = 8 ∨ k = 16 ∨ k = 17 ∨ k = 18 ∨ k = 19 ∨ k = 20 ∨ k = 21 ∨ k = 22 ∨ k = 23 ∨ k = 24 ∨ k = 25 ∨ k = 26 ∨ k = 27 ∨ k = 28 ∨ k = 29 ∨ k = 30 := by
    unfold knoF at hk
    simp at hk
    omega
  rcases hc with rfl | rfl | rfl | rfl | rfl | rfl | rfl | rfl | rfl | rfl | rfl | rfl | rfl | rfl | rfl | rfl | rfl | rfl | rfl | rfl | rfl | rfl | rfl | rfl
  · exact right_0 w i t n c fi dt ci sp dl e0 e1 e2 da dc ca cc sa sc hd
  · exact right_1 w i t n c fi dt ci sp dl e0 e1 e2 da dc ca cc sa sc hd
  · exact right_2 w i t n c fi dt ci sp dl e0 e1 e2 da dc ca cc sa sc hd hs
  · exact right_3 w i t n c fi dt ci sp dl e0 e1 e2 da dc ca cc sa sc hd hs
  · exact right_4 w i t n c fi dt ci sp dl e0 e1 e2 da dc ca cc sa sc hd
  · exact right_5 w i t n c fi dt ci sp dl e0 e1 e2 da dc ca cc sa sc hd
  · exact right_6 w i t n c fi dt ci sp dl e0 e1 e2 da dc ca cc sa sc hd
  · exact right_7 w i t n c fi dt ci sp dl e0 e1 e2 da dc ca cc sa sc hd
  · exact right_8 w i t n c fi dt ci sp dl e0 e1 e2 da dc ca cc sa sc hd
  · exact right_16 w i t n c fi dt ci sp dl e0 e1 e2 da dc ca cc sa sc hd
  · exact right_17 w i t n c fi dt ci sp dl e0 e1 e2 da dc ca cc sa sc hd
  · exact right_18 w i t n c fi dt ci sp dl e0 e1 e2 da dc ca cc sa sc hd
  · exact right_19 w i t n c fi dt ci sp dl e0 e1 e2 da dc ca cc sa sc hd
  · exact right_20 w i t n c fi dt ci sp dl e0 e1 e2 da dc ca cc sa sc hd
  · exact right_21 w i t n c fi dt ci sp dl e0 e1 e2 da dc ca cc sa sc hd
  · exact right_22 w i t n c fi dt ci sp dl e0 e1 e2 da dc ca cc sa sc hd
  · exact right_23 w i t n c fi dt ci sp dl e0 e1 e2 da dc ca cc sa sc hd
  · exact right_24 w i t n c fi dt ci sp dl e0 e1 e2 da dc ca cc sa sc hd
  · exact right_25 w i t n c fi dt ci sp dl e0 e1 e2 da dc ca cc sa sc hd
  · exact right_26 w i t n c fi dt ci sp dl e0 e1 e2 da dc ca cc sa sc hd
  · exact right_27 w i t n c fi dt ci sp dl e0 e1 e2 da dc ca cc sa sc hd
  · exact right_28 w i t n c fi dt ci sp dl e0 e1 e2 da dc ca cc sa sc hd
  · exact right_29 w i t n c fi dt ci sp dl e0 e1 e2 da dc ca cc sa sc hd
  · exact right_30 w i t n c fi dt ci sp dl e0 e1 e2 da dc ca cc sa sc hd
end Go.Proofs.Ytppkilkfmclpkaa

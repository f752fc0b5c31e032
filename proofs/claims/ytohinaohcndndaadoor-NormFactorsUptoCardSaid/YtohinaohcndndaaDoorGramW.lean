/- turnpikeref19.Line, field, start, HexValue, fields, chunks, Read, Factor. Conditions: the text's size; bad texts are left out. -/
import Derived.Test.YtohinaohcndndaaDoorGram
import Derived.Deep.RegionHeld3
import Derived.Deep.DeepCutAuto
import Derived.Lib.AppendStr
namespace Go.Proofs.YtohinaohcndndaaDoor
open Go.RowKit

theorem lij1 {i i1 i2 n : Nat} (h1 : i1 = i + 1) (h2 : i2 = i + 2) (h : i1 < n) (hn : n ≤ 1099511627776) : RowKit.wrap64 ((i : Int) + 1) = (i1 : Int) ∧ IntKind.i64.wrap ((i : Int) + 1) = (i1 : Int) ∧ (i1 : Int) < (n : Int) ∧ RowKit.wrap64 ((i : Int) + 2) = (i2 : Int) ∧ IntKind.i64.wrap ((i : Int) + 2) = (i2 : Int) := by
  rw [IntKind.wrap_i64, IntKind.wrap_i64]; unfold RowKit.wrap64; omega
theorem lij2 {i i1 n : Nat} (h1 : i1 = i + 1) (h : ¬ i1 < n) (hi : i ≤ n) (hn : n ≤ 1099511627776) : RowKit.wrap64 ((i : Int) + 1) = (i1 : Int) ∧ IntKind.i64.wrap ((i : Int) + 1) = (i1 : Int) ∧ ¬ (i1 : Int) < (n : Int) := by
  rw [IntKind.wrap_i64]; unfold RowKit.wrap64; omega
theorem lij3 {i i1 n : Nat} (h1 : i1 = i + 1) (h : i1 < n) : n - (intOf (Value.int .i64 (i1 : Int))).toNat < n - (intOf (Value.int .i64 (i : Int))).toNat := by simp only [intOf]; omega
theorem u8ne {b : UInt8} {x : Int} {k : Nat} (hx : x = (b.toNat : Int)) (h : ¬ b = UInt8.ofNat k) (hk : k < 256) : (x == (k : Int)) = false ∧ ¬ x = (k : Int) := by
  have h1 : ¬ x = (k : Int) := fun e => h (UInt8.toNat_inj.1 (by simp; omega))
  exact ⟨by simpa using h1, h1⟩
set_option maxRecDepth 100000 in
theorem rline_any (w : World) (L : List UInt8) (hn : L.length ≤ 1099511627776) (a : Nat) (ha : a ≤ L.length) : Calls Tryd.prog 64 #[.string (strB L), .int .i64 (a : Int)] w (Ret w (.tuple #[.string (strB (lineV L a).1), .int .i64 (lineV L a).2])) := by
  obtain ⟨n, hl⟩ : ∃ n, n = L.length := ⟨_, rfl⟩
  have hsz : (strB L).size = n := by rw [strB_size, hl]
  have HN : Hid (n ≤ 1099511627776) := Lib.hid (by rw [hl]; exact hn)
  have HL := Lib.hid hl
  have HA : Hid (a ≤ n) := Lib.hid (by rw [hl]; exact ha)
  obtain ⟨R, hR⟩ : ∃ R, R = lineV L a := ⟨_, rfl⟩
  rw [← hR]
  have HR := Lib.hid hR
  clear hR hl hn ha
  go_enter Tryd.func64, Tryd.ntmps64
  go_wp2_with fail
  go_loopw [6] (fun v wr => ∃ i : Nat, v = .int .i64 (i : Int) ∧ a ≤ i ∧ i ≤ n ∧ Hid (NoEnd L a i) ∧ wr = w) (fun v _ => n - (intOf v).toNat)
  case atStart => exact ⟨a, rfl, Nat.le_refl _, HA.out, Lib.hid (NoEnd.nil L a), rfl⟩
  case round =>
    obtain ⟨i, rfl, hai, hi, HNo, rfl⟩ := hrel
    have HAi := Lib.hid hai
    obtain ⟨i1, hi1⟩ : ∃ i1, i1 = i + 1 := ⟨_, rfl⟩
    obtain ⟨i2, hi2⟩ : ∃ i2, i2 = i + 2 := ⟨_, rfl⟩
    have HI1 := Lib.hid hi1
    have HI2 := Lib.hid hi2
    by_cases hin : i1 < n
    · have HI := Lib.hid hin
      obtain ⟨z1, z2, z3, z4, z5⟩ := lij1 hi1 hi2 hin HN.out
      have hil : i < L.length := by rw [← HL.out]; omega
      have hil2 : i1 < L.length := by rw [← HL.out]; exact hin
      have ix := idxS wr L i hil
      have iy := idxS wr L i1 hil2
      have HB : Hid (L[i]? = some L[i] ∧ L[i1]? = some L[i1]) := Lib.hid ⟨List.getElem?_eq_getElem hil, List.getElem?_eq_getElem hil2⟩
      obtain ⟨b, hb⟩ : ∃ b, b = L[i] := ⟨_, rfl⟩
      obtain ⟨c, hc⟩ : ∃ c, c = L[i1] := ⟨_, rfl⟩
      rw [← hb] at ix HB
      rw [← hc] at iy HB
      obtain ⟨x, hx⟩ : ∃ x : Int, x = (b.toNat : Int) := ⟨_, rfl⟩
      obtain ⟨y, hy⟩ : ∃ y : Int, y = (c.toNat : Int) := ⟨_, rfl⟩
      rw [← hx] at ix
      rw [← hy] at iy
      have ex := strB_cut L a i hai (by rw [← HL.out]; exact hi)
      obtain ⟨k1, k2, k3⟩ := pcj3 hai hi
      clear hi hai hin hil hil2 hb hc hi1 hi2
      by_cases h1 : b = 13
      · have hx1 : x = 13 := by rw [hx, h1]; rfl
        by_cases h2 : c = 10
        · have hy1 : y = 10 := by rw [hy, h2]; rfl
          have HR2 : Hid (R = ((L.drop a).take (i - a), (i2 : Int))) := Lib.hid (by rw [HR.out]; rw [HI2.out]; exact line_hit HNo.out HAi.out (by rw [HB.out.1, h1]) (by rw [← HI1.out, HB.out.2, h2]))
          clear hx hy h1 h2
          subst hx1 hy1
          rw [HR2.out]
          go_wp2
          go_ret2
          exact ⟨rfl, rfl⟩
        · obtain ⟨y1, y2⟩ : (y == 10) = false ∧ ¬ y = 10 := u8ne (k := 10) hy h2 (by decide)
          have HNo2 : Hid (NoEnd L a i1) := Lib.hid (by rw [HI1.out]; exact HNo.out.on (by rw [← HI1.out, HB.out.2]; rintro ⟨_, h⟩; exact h2 (Option.some.inj h)))
          clear hx hy h1 h2
          subst hx1
          go_wp2_with fail
          go_roundw
          case rel => exact ⟨i1, rfl, by have h1 := HAi.out; have h2 := HI1.out; omega, Nat.le_of_lt HI.out, HNo2, by trivial⟩
          case measure => exact lij3 HI1.out HI.out
      · obtain ⟨y1, y2⟩ : (x == 13) = false ∧ ¬ x = 13 := u8ne (k := 13) hx h1 (by decide)
        have HNo2 : Hid (NoEnd L a i1) := Lib.hid (by rw [HI1.out]; exact HNo.out.on (by rw [HB.out.1]; rintro ⟨h, _⟩; exact h1 (Option.some.inj h)))
        clear hx hy h1
        go_wp2_with fail
        go_roundw
        case rel => exact ⟨i1, rfl, by have h1 := HAi.out; have h2 := HI1.out; omega, Nat.le_of_lt HI.out, HNo2, by trivial⟩
        case measure => exact lij3 HI1.out HI.out
    · obtain ⟨z1, z2, z3⟩ := lij2 hi1 hin hi HN.out
      have HR2 : Hid (R = ([], -1)) := Lib.hid (by rw [HR.out]; exact line_miss HNo.out (by rw [← HL.out, ← hi1]; exact Nat.le_of_not_lt hin))
      clear hi hai hin hi1 hi2
      obtain rfl : R = ([], -1) := HR2.out
      go_wp2
      go_ret2
      exact ⟨rfl, rfl⟩
/-- the first byte c, if there is one -/
theorem cutAt_some {c : UInt8} : ∀ {l a b : List UInt8}, cutAt c l = some (a, b) → l = a ++ c :: b
  | [], a, b, h => by simp [cutAt] at h
  | x :: r, a, b, h => by
    unfold cutAt at h
    split at h
    · rename_i hx
      simp only [Option.some.injEq, Prod.mk.injEq] at h
      rw [hx, ← h.1, ← h.2]; rfl
    · simp only [Option.map_eq_some_iff, Prod.mk.injEq] at h
      obtain ⟨⟨a', b'⟩, h1, rfl, rfl⟩ := h
      rw [cutAt_some h1]; rfl
def fdV (f : Fd) : Value := .agg #[.string f.nm, .string f.va]
/-- a line that is there -/
theorem line_some {L : List UInt8} {a : Nat} {x r : List UInt8} (ha : a ≤ L.length) (h : cutL (L.drop a) = some (x, r)) : ∃ a2, a2 ≤ L.length ∧ r = L.drop a2 ∧ lineV L a = (x, (a2 : Int)) ∧ a < a2 ∧ a2 = L.length - r.length ∧ x.length ≤ L.length := by
  have h1 := cut_lt h
  rw [List.length_drop] at h1
  refine ⟨L.length - r.length, by omega, ?_, ?_, by omega, rfl, by omega⟩
  · have h2 := cut_eq h
    have h3 : r = (L.drop a).drop (x.length + 2) := by
      rw [h2, ← List.drop_drop, List.drop_left]; rfl
    rw [List.drop_drop] at h3
    have e : a + (x.length + 2) = L.length - r.length := by omega
    rw [e] at h3
    exact h3
  · unfold lineV; rw [h]
theorem line_none {L : List UInt8} {a : Nat} (h : cutL (L.drop a) = none) : lineV L a = ([], -1) := by unfold lineV; rw [h]
theorem infoFd : (Tryd.prog.info? 64).map (·.size) = some 2 := by kernel_rfl
theorem results_fd2 {fn : Func} {c u : Tmp} (h : fn.results = #[.cell c 64, .tmp u]) (tmps : Array Value) {w : World} {b : Nat} {vs : List Value} (hc : tmps.getD c undef = .pointer (some ⟨b, 0, none⟩)) (hH : Has w b 64 vs) (hl : vs.length = 2) :
    (results fn tmps).run Tryd.prog w = .ok (.tuple #[.agg vs.toArray, tmps.getD u undef]) w := by
  have hr := run_loadVar_mid (P := Tryd.prog) w b 0 64 vs _ hH.rangeAt Tryd.underlying64 rfl (by rw [infoFd, hl])
  simp only [results, h]
  simp only [Array.getD_eq_getD_getElem?] at hc ⊢
  simp [hc, asAddr, hr]
/-- what field answers -/
def FieldP (w : World) (f : Fd) (e : Ending) (w' : World) : Prop := e = .returned (.tuple #[fdV f, .bool true]) ∧ Below w.heap.size w w'
/-- what the last question of field reads -/
def FdHas (g : Nat) (f : Fd) (w : World) : Prop := Has w g 64 [.string f.nm, .string f.va]
theorem fij1 {i i1 n : Nat} (h1 : i1 = i + 1) (h : i < n) (hn : n ≤ 1099511627776) : (0 : Int) ≤ (i : Int) ∧ (i : Int) ≤ (n : Int) ∧ (0 : Int) ≤ (i1 : Int) ∧ (i1 : Int) ≤ (n : Int) ∧ (i : Int) < (n : Int) ∧ IntKind.i64.wrap ((i : Int) + 1) = (i1 : Int) ∧ RowKit.wrap64 ((i : Int) + 1) = (i1 : Int) := by
  rw [IntKind.wrap_i64]; unfold RowKit.wrap64; omega
theorem fij3 {i i1 n : Nat} (h1 : i1 = i + 1) (h : i < n) : n - (intOf (Value.int .i64 (i1 : Int))).toNat < n - (intOf (Value.int .i64 (i : Int))).toNat := by simp only [intOf]; omega
theorem strB_from (L : List UInt8) (i n : Nat) (hn : n = L.length) : (strB L).extract i n = strB (L.drop i) := by
  apply ByteArray.ext
  subst hn
  have e : (L.drop i).take (L.length - i) = L.drop i := List.take_of_length_le (by simp)
  simp [strB, ByteArray.data_extract, e]
theorem strB_upto (L : List UInt8) (i : Nat) : (strB L).extract 0 i = strB (L.take i) := by
  apply ByteArray.ext
  simp [strB, ByteArray.data_extract]
set_option maxRecDepth 100000 in
set_option maxHeartbeats 4000000 in
theorem field_any (w : World) (L : List UInt8) (hn : L.length ≤ 1099511627776) (hb : (fieldV L).2 = true) : Calls Tryd.prog 84 #[.string (strB L)] w (FieldP w (fieldV L).1) := by
  obtain ⟨n, hl⟩ : ∃ n, n = L.length := ⟨_, rfl⟩
  have hsz : (strB L).size = n := by rw [strB_size, hl]
  have HN : Hid (n ≤ 1099511627776) := Lib.hid (by rw [hl]; exact hn)
  have HL := Lib.hid hl
  have HBd := Lib.hid hb
  clear hl hn hb
  obtain ⟨w2, hw2⟩ : ∃ w2, w2 = w.alloc (.cells #[.string ⟨#[]⟩, .string ⟨#[]⟩] 64) := ⟨_, rfl⟩
  obtain ⟨g2, hg2⟩ : ∃ g2, g2 = w.heap.size := ⟨_, rfl⟩
  have HH2 : Hid (Has w2 g2 64 [.string ⟨#[]⟩, .string ⟨#[]⟩]) := Lib.hid (by rw [hw2, hg2]; exact Has.new w 64 #[.string ⟨#[]⟩, .string ⟨#[]⟩])
  have HB2 : Hid (Below w.heap.size w w2) := Lib.hid (by rw [hw2]; exact (Below.refl _ w).alloc (Nat.le_refl _) _)
  have HG2 : Hid (w.heap.size ≤ g2) := Lib.hid (by rw [hg2]; exact Nat.le_refl _)
  go_enter Tryd.func84, Tryd.ntmps84
  go_upto_region 1 with fail
  rw [← hw2, ← hg2]
  clear hw2 hg2
  go_wp2_with fail
  go_loopw [4] (fun v wr => ∃ i : Nat, v = .int .i64 (i : Int) ∧ i ≤ n ∧ Hid (∀ b ∈ L.take i, b ≠ 58) ∧ wr = w2) (fun v _ => n - (intOf v).toNat)
  case atStart => exact ⟨0, rfl, Nat.zero_le _, Lib.hid (by simp), rfl⟩
  case round =>
    obtain ⟨i, rfl, hi, HNo, rfl⟩ := hrel
    obtain ⟨i1, hi1⟩ : ∃ i1, i1 = i + 1 := ⟨_, rfl⟩
    have HI1 := Lib.hid hi1
    by_cases hin : i < n
    · have HI := Lib.hid hin
      obtain ⟨k1, k2, k3, k4, z1, z2, z3⟩ := fij1 hi1 hin HN.out
      have hil : i < L.length := by rw [← HL.out]; exact hin
      have ix := idxS wr L i hil
      obtain ⟨b, hb⟩ : ∃ b, b = L[i] := ⟨_, rfl⟩
      have HBe : Hid (b = L[i]) := Lib.hid hb
      rw [← hb] at ix
      obtain ⟨x, hx⟩ : ∃ x : Int, x = (b.toNat : Int) := ⟨_, rfl⟩
      rw [← hx] at ix
      clear hi hin hb hi1
      by_cases h1 : b = 58
      · have hx1 : x = 58 := by rw [hx, h1]; rfl
        have hcut := cutAt_hit (c := 58) hil HNo.out (by rw [← HBe.out, h1])
        rw [← HI1.out] at hcut
        obtain ⟨p, hp⟩ : ∃ p, p = L.take i := ⟨_, rfl⟩
        obtain ⟨q, hq⟩ : ∃ q, q = L.drop i1 := ⟨_, rfl⟩
        have e1 := strB_upto L i
        have e2 := strB_from L i1 n HL.out
        rw [← hp] at e1 hcut
        rw [← hq] at e2 hcut
        have hpl : p.length ≤ 1099511627776 := by rw [hp, List.length_take]; have := HN.out; have := HL.out; omega
        have hql : q.length ≤ 1099511627776 := by rw [hq, List.length_drop]; have := HN.out; have := HL.out; omega
        have hV : fieldV L = (⟨strB (smallL p), strB (trimL q)⟩, tokenL p && valueL (trimL q)) := by unfold fieldV; rw [hcut]
        have hb2 := HBd.out
        rw [hV] at hb2 ⊢
        simp only [Bool.and_eq_true] at hb2 ⊢
        have hT := token_any wr p hpl
        rw [show (p.all tokC && !p.isEmpty) = true from hb2.1] at hT
        have HTk := Lib.hid (fun w' => by have h := token_any w' p hpl; rw [show (p.all tokC && !p.isEmpty) = true from hb2.1] at h; exact h)
        have HVl := Lib.hid (fun w' => by have h := value_any w' (trimL q) (Nat.le_trans (trim_len q) hql); rw [show ((trimL q).all valC && valE (trimL q)) = true from hb2.2] at h; exact h)
        have HSm := Lib.hid (fun w' => by have h := rsmall_any w' (strB p) (by rw [strB_size]; omega); rw [bl_strB'] at h; exact h)
        have HTr := Lib.hid (fun w' => by have h := rtrim_any w' (strB q) (by rw [strB_size]; omega); rw [bl_strB'] at h; exact h)
        clear hx h1 HBe hil HNo hcut hp hq hV hb2 hT hpl hql
        subst hx1
        obtain ⟨sp, hsp⟩ : ∃ sp, sp = smallL p := ⟨_, rfl⟩
        obtain ⟨tq, htq⟩ : ∃ tq, tq = trimL q := ⟨_, rfl⟩
        rw [← hsp] at HSm ⊢
        rw [← htq] at HTr HVl ⊢
        clear hsp htq
        go_upto_region 5 with fail
        go_cut [5] (fun s5 wc => ∃ g5, s5 = .pointer (some ⟨g5, 0, none⟩) ∧ Has wc g5 64 [.string (strB sp), .string (strB tq)] ∧ Has wc g2 64 [.string ⟨#[]⟩, .string ⟨#[]⟩] ∧ Below w.heap.size w wc ∧ g2 ≠ g5)
        case first =>
          go_region_held3 (fun _ => True) (trivial) (first | (go_at_call 28; refine (HSm.out _).mono ?_; rintro e w' ⟨rfl, hb'⟩; first | (have hA := (Has.new wr.drew 64 #[.string ⟨#[]⟩, .string ⟨#[]⟩]).kept (Kept.of_below (X := none') hb') (fun h => h); have q0 : w'.cell? ⟨wr.heap.size, 0, none⟩ = some (.string ⟨#[]⟩) := hA.cell 0 rfl; have q1 : w'.cell? ⟨wr.heap.size, 1, none⟩ = some (.string ⟨#[]⟩) := hA.cell 1 rfl; have q2 : w'.frozen? ⟨wr.heap.size, 0, none⟩ = false := hA.free 0; have q3 : w'.frozen? ⟨wr.heap.size, 1, none⟩ = false := hA.free 1) | skip) | (go_at_call 80; refine (HTr.out _).mono ?_; rintro e w' ⟨rfl, rfl⟩))
          · have hd : Below wr.heap.size wr w' := (below_drewN (Below.refl wr.heap.size wr) 1).trans hb'
            have hal : Below w'.heap.size w' (w'.alloc (.cells #[.string (strB sp), .string (strB tq)] 64)) := (Below.refl _ _).alloc (Nat.le_refl _) _
            have HX : Hid (Has (w'.alloc (.cells #[.string (strB sp), .string (strB tq)] 64)) w'.heap.size 64 [.string (strB sp), .string (strB tq)] ∧ Has (w'.alloc (.cells #[.string (strB sp), .string (strB tq)] 64)) g2 64 [.string ⟨#[]⟩, .string ⟨#[]⟩] ∧ Below w.heap.size w (w'.alloc (.cells #[.string (strB sp), .string (strB tq)] 64)) ∧ g2 ≠ w'.heap.size) := Lib.hid ⟨Has.new w' 64 #[.string (strB sp), .string (strB tq)], (HH2.out.kept (Kept.of_below (X := none') hd) (fun h => h)).kept (Kept.of_below (X := none') hal) (fun h => h), (HB2.out.trans (hd.mono HB2.out.size)).trans (hal.mono (Nat.le_trans HB2.out.size hd.size)), Nat.ne_of_lt (HH2.out.kept (Kept.of_below (X := none') hd) (fun h => h)).lt⟩
            clear hd hal hb'
            go_wp2_with fail
            go_meet
            case rel => exact ⟨_, rfl, HX.out⟩
          · have hd : Below wr.heap.size wr w' := (below_drewN (Below.refl wr.heap.size wr) 1).trans hb'
            have hal : Below w'.heap.size w' (w'.alloc (.cells #[.string (strB sp), .string (strB tq)] 64)) := (Below.refl _ _).alloc (Nat.le_refl _) _
            have HX : Hid (Has (w'.alloc (.cells #[.string (strB sp), .string (strB tq)] 64)) w'.heap.size 64 [.string (strB sp), .string (strB tq)] ∧ Has (w'.alloc (.cells #[.string (strB sp), .string (strB tq)] 64)) g2 64 [.string ⟨#[]⟩, .string ⟨#[]⟩] ∧ Below w.heap.size w (w'.alloc (.cells #[.string (strB sp), .string (strB tq)] 64)) ∧ g2 ≠ w'.heap.size) := Lib.hid ⟨Has.new w' 64 #[.string (strB sp), .string (strB tq)], (HH2.out.kept (Kept.of_below (X := none') hd) (fun h => h)).kept (Kept.of_below (X := none') hal) (fun h => h), (HB2.out.trans (hd.mono HB2.out.size)).trans (hal.mono (Nat.le_trans HB2.out.size hd.size)), Nat.ne_of_lt (HH2.out.kept (Kept.of_below (X := none') hd) (fun h => h)).lt⟩
            clear hd hal hb'
            go_wp2_with fail
            go_meet
            case rel => exact ⟨_, rfl, HX.out⟩
          · have hal : Below wr.heap.size wr (wr.drew.alloc (.cells #[.string ⟨#[]⟩, .string ⟨#[]⟩] 64)) := (below_drewN (Below.refl wr.heap.size wr) 1).alloc (Nat.le_refl _) _
            have hd : Below wr.heap.size wr w' := hal.trans (hb'.mono hal.size)
            have hn : Has w' wr.heap.size 64 [.string ⟨#[]⟩, .string ⟨#[]⟩] := (Has.new wr.drew 64 #[.string ⟨#[]⟩, .string ⟨#[]⟩]).kept (Kept.of_below (X := none') hb') (fun h => h)
            have HX : Hid (Has ((w'.setCell ⟨wr.heap.size, 0, none⟩ (.string (strB sp))).setCell ⟨wr.heap.size, 1, none⟩ (.string (strB tq))) wr.heap.size 64 [.string (strB sp), .string (strB tq)] ∧ Has ((w'.setCell ⟨wr.heap.size, 0, none⟩ (.string (strB sp))).setCell ⟨wr.heap.size, 1, none⟩ (.string (strB tq))) g2 64 [.string ⟨#[]⟩, .string ⟨#[]⟩] ∧ Below w.heap.size w ((w'.setCell ⟨wr.heap.size, 0, none⟩ (.string (strB sp))).setCell ⟨wr.heap.size, 1, none⟩ (.string (strB tq))) ∧ g2 ≠ wr.heap.size) := Lib.hid ⟨(hn.set 0 _).set 1 _, ((HH2.out.kept (Kept.of_below (X := none') hd) (fun h => h)).other (Nat.ne_of_lt HH2.out.lt) 0 _).other (Nat.ne_of_lt HH2.out.lt) 1 _, ((HB2.out.trans (hd.mono HB2.out.size)).setCell (p := ⟨wr.heap.size, 0, none⟩) HB2.out.size _).setCell (p := ⟨wr.heap.size, 1, none⟩) HB2.out.size _, Nat.ne_of_lt HH2.out.lt⟩
            clear hd hal hb' hn q0 q1 q2 q3
            go_wp2_with fail
            go_meet
            case rel => exact ⟨_, rfl, HX.out⟩
        case rest =>
          obtain ⟨g5, rfl, hh5, hh2, hbc, hne⟩ := hcut
          have HH5 := Lib.hid hh5
          have HHc := Lib.hid hh2
          have HBc := Lib.hid hbc
          have HNe := Lib.hid hne
          have HTk5 := Lib.hid (HTk.out wc.drew)
          have HVl5 := Lib.hid (HVl.out wc.drew)
          have HS5 : Hid (Has wc.drew g5 64 [.string (strB sp), .string (strB tq)]) := Lib.hid (hh5.kept (Kept.drew none' wc) (fun h => h))
          have HD : Hid (Below w.heap.size w wc.drew) := Lib.hid (hbc.trans ((below_drewN (Below.refl wc.heap.size wc) 1).mono hbc.size))
          have HHd : Hid (Has wc.drew g2 64 [.string ⟨#[]⟩, .string ⟨#[]⟩]) := Lib.hid (hh2.kept (Kept.drew none' wc) (fun h => h))
          clear hh5 hh2 hbc hne HH2 HSm HTr HTk HVl HB2
          go_upto_region 6 with fail
          refine Mx.region [] (fun w' => Has w' g5 64 [.string (strB sp), .string (strB tq)]) (by kernel_rfl) (by kernel_rfl) HS5.out ?_
          repeat ((first | (refine Mx.skips (by kernel_rfl) ?_; go_big_quiet_skip) | (refine Mx.quietly rfl ?_; go_big_quiet_want; go_big_quiet_op; go_big_quiet_on)); refine Mx.done ?_)
          refine Mx.mid g5 0 [.string (strB sp), .string (strB tq)] _ (by kernel_rfl) (by kernel_rfl) (by kernel_rfl) Tryd.underlying64 rfl (by kernel_rfl) (fun w' h => h.rangeAt) ?_
          go_big_quiet_want; go_big_quiet_op; go_big_quiet_on; refine Mx.done ?_
          repeat ((first | (refine Mx.skips (by kernel_rfl) ?_; go_big_quiet_skip) | (refine Mx.quietly rfl ?_; go_big_quiet_want; go_big_quiet_op; go_big_quiet_on)); refine Mx.done ?_)
          refine Mx.loudly (by kernel_rfl) (by kernel_rfl) ?_
          go_wp2_with fail
          refine HTk5.out.mono ?_
          rintro e w7 ⟨rfl, rfl⟩
          go_wp2_with fail
          refine ⟨HS5.out, ?_⟩
          repeat ((first | (refine Mx.skips (by kernel_rfl) ?_; go_big_quiet_skip) | (refine Mx.quietly rfl ?_; go_big_quiet_want; go_big_quiet_op; go_big_quiet_on)); refine Mx.done ?_)
          refine Mx.cell ⟨g5, 1, none⟩ (.string (strB tq)) (by kernel_rfl) (by kernel_rfl) (by kernel_rfl) Tryd.isAgg9 (fun w' h => h.cell 1 rfl) ?_
          go_big_quiet_want; go_big_quiet_op; go_big_quiet_on; refine Mx.done ?_
          repeat ((first | (refine Mx.skips (by kernel_rfl) ?_; go_big_quiet_skip) | (refine Mx.quietly rfl ?_; go_big_quiet_want; go_big_quiet_op; go_big_quiet_on)); refine Mx.done ?_)
          refine Mx.loudly (by kernel_rfl) (by kernel_rfl) ?_
          go_wp2_with fail
          refine HVl5.out.mono ?_
          rintro e w7 ⟨rfl, rfl⟩
          go_wp2_with fail
          refine ⟨HS5.out, ?_⟩
          repeat ((first | (refine Mx.skips (by kernel_rfl) ?_; go_big_quiet_skip) | (refine Mx.quietly rfl ?_; go_big_quiet_want; go_big_quiet_op; go_big_quiet_on)); refine Mx.done ?_)
          refine Mx.loudly (by kernel_rfl) (by kernel_rfl) ?_
          have hth := HHd.out.there (n := 2) rfl
          have hst := HHd.out.store (vs := [.string (strB sp), .string (strB tq)]) rfl
          have ho1 : Array.all (#[.string (strB sp), .string (strB tq)] : Array Value) (·.oneCell') = true := by simp [Value.oneCell']
          have hkst := Kept.sets g2 [.string (strB sp), .string (strB tq)] 0 wc.drew
          have HStk : Hid (Has (wc.drew.setCells g2 0 [.string (strB sp), .string (strB tq)]) g5 64 [.string (strB sp), .string (strB tq)]) := Lib.hid (HS5.out.kept hkst (fun h => HNe.out h.symm))
          have HBk : Hid (Below w.heap.size w (wc.drew.setCells g2 0 [.string (strB sp), .string (strB tq)])) := Lib.hid (HD.out.trans (hkst.below HD.out.size (fun k h => by rw [h]; exact HG2.out)))
          have HSt := Lib.hid hst
          clear hkst hst
          go_wp2_with (refine wpList_store_mid rfl 64 (.tmp 2) (.tmp 26) rfl g2 0 #[.string (strB sp), .string (strB tq)] rfl rfl hth infoFd ho1 ?_)
          refine ⟨HStk.out, ?_⟩
          repeat ((first | (refine Mx.skips (by kernel_rfl) ?_; go_big_quiet_skip) | (refine Mx.quietly rfl ?_; go_big_quiet_want; go_big_quiet_op; go_big_quiet_on)); refine Mx.done ?_)
          refine Mx.nil ?_
          go_wp2_with fail
          refine bodyPost_ret (results_fd2 rfl _ rfl HSt.out rfl) rfl ?_
          exact ⟨rfl, HBk.out⟩
      · obtain ⟨y1, y2⟩ : (x == 58) = false ∧ ¬ x = 58 := u8ne (k := 58) hx h1 (by decide)
        have HNo2 : Hid (∀ b ∈ L.take i1, b ≠ 58) := Lib.hid (by
          rw [HI1.out, List.take_succ_eq_append_getElem hil, ← HBe.out]
          intro c hc
          rcases List.mem_append.1 hc with hc | hc
          · exact HNo.out c hc
          · simp only [List.mem_singleton] at hc; rw [hc]; exact h1)
        clear HBe hx h1 hil
        go_wp2_with fail
        go_roundw
        case rel => exact ⟨i1, rfl, by rw [HI1.out]; exact HI.out, HNo2, by trivial⟩
        case measure => exact fij3 HI1.out HI.out
    · have hb2 := HBd.out
      have hcut := cutAt_miss (c := 58) (l := L) (by
        have h := HNo.out
        rwa [List.take_of_length_le (by rw [← HL.out]; exact Nat.le_of_not_lt hin)] at h)
      rw [show fieldV L = (fd0, false) by unfold fieldV; rw [hcut]] at hb2
      cases hb2
end Go.Proofs.YtohinaohcndndaaDoor

namespace Go.Proofs.YtohinaohcndndaaDoor
open Go.RowKit

/-- a value, and nothing but new memory -/
def TupOf (w : World) (v : Value) (e : Ending) (w' : World) : Prop := e = .returned v ∧ Below w.heap.size w w'
/-- what start takes -/
theorem start_parts {L m t : List UInt8} (h : startV L = (m, t, true)) : 11 ≤ L.length ∧ L.drop (L.length - 9) = verS ∧ cutAt 32 (L.take (L.length - 9)) = some (m, t) ∧ t.all tgtC = true ∧ tokenL m = true ∧ t ≠ [] := by
  unfold startV at h
  split at h
  · cases h
  · rename_i hc
    rw [not_or, Classical.not_not] at hc
    cases hq : cutAt 32 (L.take (L.length - 9)) with
    | none => rw [hq] at h; cases h
    | some p =>
      obtain ⟨m', t'⟩ := p
      rw [hq] at h
      simp only at h
      split at h
      · rename_i ht
        simp only [Prod.mk.injEq, Bool.and_eq_true, Bool.not_eq_true'] at h
        obtain ⟨rfl, rfl, h1, h2⟩ := h
        exact ⟨by omega, hc.2, rfl, ht, h1, by cases t' <;> simp_all⟩
      · cases h
theorem stj1 {n : Nat} (h : 11 ≤ n) (hn : n ≤ 1099511627776) : ((n : Int) < 11) = False ∧ RowKit.wrap64 ((n : Int) - 9) = ((n - 9 : Nat) : Int) ∧ IntKind.i64.wrap ((n : Int) - 9) = ((n - 9 : Nat) : Int) ∧ (0 : Int) ≤ ((n - 9 : Nat) : Int) ∧ ((n - 9 : Nat) : Int) ≤ (n : Int) := by
  rw [IntKind.wrap_i64]; unfold RowKit.wrap64
  exact ⟨eq_false (by omega), by omega, by omega, by omega, by omega⟩
theorem tgt_b {b : UInt8} {x : Int} (hx : x = (b.toNat : Int)) (h : tgtC b = true) : (x ≤ 32) = False ∧ ((127 : Int) ≤ x) = False := by
  unfold tgtC at h
  simp only [Bool.and_eq_true, decide_eq_true_eq] at h
  exact ⟨eq_false (by omega), eq_false (by omega)⟩
set_option maxRecDepth 100000 in
set_option maxHeartbeats 4000000 in
theorem start_any (w : World) (L m t : List UInt8) (hn : L.length ≤ 1099511627776) (hb : startV L = (m, t, true)) : Calls Tryd.prog 65 #[.string (strB L)] w (TupOf w (.tuple #[.string (strB m), .string (strB t), .bool true])) := by
  obtain ⟨h11, hv, hc, ht, hm, hne⟩ := start_parts hb
  obtain ⟨n, hl⟩ : ∃ n, n = L.length := ⟨_, rfl⟩
  have hsz : (strB L).size = n := by rw [strB_size, hl]
  rw [← hl] at h11 hv hc hn
  obtain ⟨a1, a2, a3, a4, a5⟩ := stj1 h11 hn
  obtain ⟨n1, hn1⟩ : ∃ n1, n1 = n - 9 := ⟨_, rfl⟩
  obtain ⟨K, hK⟩ : ∃ K, K = L.take n1 := ⟨_, rfl⟩
  have e1 := strB_from L n1 n hl
  have e2 := strB_upto L n1
  rw [← hn1] at hv hc a2 a3 a4 a5
  rw [← hK] at hc e2
  rw [hv] at e1
  have hKl : n1 = K.length := by rw [hK, List.length_take]; omega
  have hKs : (strB K).size = n1 := by rw [strB_size, hKl]
  obtain ⟨V, hV⟩ : ∃ V, V = strB verS := ⟨_, rfl⟩
  have hVb : bl V = [32, 72, 84, 84, 80, 47, 49, 46, 49] := by rw [hV, bl_strB']; rfl
  rw [← hV] at e1
  obtain ⟨v1, v2⟩ := eqT2 hVb
  have v3 : (V.toList != [32, 72, 84, 84, 80, 47, 49, 46, 49]) = false := by rw [bne, v1]; rfl
  have HN : Hid (n1 ≤ 1099511627776) := Lib.hid (by omega)
  have HK := Lib.hid hKl
  have HC := Lib.hid hc
  have HT := Lib.hid ht
  have HM := Lib.hid hm
  have HNe := Lib.hid hne
  clear hb h11 hv hc ht hm hne hl hn hn1 hK hKl hV hVb
  go_enter Tryd.func65, Tryd.ntmps65
  go_wp2_with fail
  go_loopw [6] (fun v wr => ∃ i : Nat, v = .int .i64 (i : Int) ∧ i ≤ n1 ∧ Hid (∀ b ∈ K.take i, b ≠ 32) ∧ wr = w) (fun v _ => n1 - (intOf v).toNat)
  case atStart => exact ⟨0, rfl, Nat.zero_le _, Lib.hid (by simp), rfl⟩
  case round =>
    obtain ⟨i, rfl, hi, HNo, rfl⟩ := hrel
    obtain ⟨i1, hi1⟩ : ∃ i1, i1 = i + 1 := ⟨_, rfl⟩
    have HI1 := Lib.hid hi1
    by_cases hin : i < n1
    · have HI := Lib.hid hin
      obtain ⟨k1, k2, k3, k4, z1, z2, z3⟩ := fij1 hi1 hin HN.out
      have hil : i < K.length := by rw [← HK.out]; exact hin
      have ix := idxS wr K i hil
      obtain ⟨b, hb⟩ : ∃ b, b = K[i] := ⟨_, rfl⟩
      have HBe : Hid (b = K[i]) := Lib.hid hb
      rw [← hb] at ix
      obtain ⟨x, hx⟩ : ∃ x : Int, x = (b.toNat : Int) := ⟨_, rfl⟩
      rw [← hx] at ix
      clear hi hin hb hi1
      by_cases h1 : b = 32
      · have hx1 : x = 32 := by rw [hx, h1]; rfl
        have hcut := cutAt_hit (c := 32) hil HNo.out (by rw [← HBe.out, h1])
        rw [HC.out, ← HI1.out] at hcut
        simp only [Option.some.injEq, Prod.mk.injEq] at hcut
        have f1 := strB_upto K i
        have f2 := strB_from K i1 n1 HK.out
        rw [← hcut.1] at f1
        rw [← hcut.2] at f2
        obtain ⟨nt, hnt⟩ : ∃ nt, nt = t.length := ⟨_, rfl⟩
        have hts : (strB t).size = nt := by rw [strB_size, hnt]
        have HNt : Hid (nt = t.length) := Lib.hid hnt
        have HNl : Hid (nt ≤ 1099511627776) := Lib.hid (by rw [hnt, hcut.2, List.length_drop, ← HK.out]; have := HN.out; omega)
        have hml : m.length ≤ 1099511627776 := by rw [hcut.1, List.length_take, ← HK.out]; have := HN.out; omega
        have HTk := Lib.hid (fun w' => by have h := token_any w' m hml; rw [show (m.all tokC && !m.isEmpty) = true from HM.out] at h; exact h)
        obtain ⟨tf1, tf2⟩ := eqF2 (s := strB t) (l := []) (by rw [bl_strB']; exact HNe.out)
        have tf3 : ((strB t).toList != []) = true := by rw [bne, tf1]; rfl
        clear hx h1 HBe hil HNo hcut hnt hml
        subst hx1
        go_wp2_with fail
        go_loopw [8] (fun v wz => ∃ k : Nat, v = .int .i64 (k : Int) ∧ k ≤ nt ∧ wz = wr) (fun v _ => nt - (intOf v).toNat)
        case atStart => exact ⟨0, rfl, Nat.zero_le _, rfl⟩
        case round =>
          obtain ⟨k, rfl, hk, rfl⟩ := hrel
          obtain ⟨k5, hk5⟩ : ∃ k5, k5 = k + 1 := ⟨_, rfl⟩
          have HK5 := Lib.hid hk5
          by_cases hkn : k < nt
          · have HI2 := Lib.hid hkn
            obtain ⟨q1, q2, q3, q4, y1, y2, y3⟩ := fij1 hk5 hkn HNl.out
            have hkl : k < t.length := by rw [← HNt.out]; exact hkn
            have ik := idxS wr t k hkl
            have hbk := List.all_eq_true.1 HT.out t[k] (List.getElem_mem _)
            obtain ⟨c, hc⟩ : ∃ c, c = t[k] := ⟨_, rfl⟩
            rw [← hc] at ik hbk
            obtain ⟨y, hy⟩ : ∃ y : Int, y = (c.toNat : Int) := ⟨_, rfl⟩
            rw [← hy] at ik
            obtain ⟨g1, g2⟩ := tgt_b hy hbk
            clear hk hkn hkl hc hy hbk q1 q2 q3 q4 hk5
            go_wp2_with fail
            go_roundw
            case rel => exact ⟨k5, rfl, by rw [HK5.out]; exact HI2.out, by trivial⟩
            case measure => exact fij3 HK5.out HI2.out
          · have y1 := ssj2 hkn
            clear hk hkn hk5
            go_upto_region 15 with fail
            refine Mx.region [] (fun _ => True) (by kernel_rfl) (by kernel_rfl) trivial ?_
            repeat ((first | (refine Mx.skips (by kernel_rfl) ?_; go_big_quiet_skip) | (refine Mx.quietly rfl ?_; go_big_quiet_want; go_big_quiet_op; go_big_quiet_on)); refine Mx.done ?_)
            refine Mx.loudly (by kernel_rfl) (by kernel_rfl) ?_
            have HTk2 := Lib.hid (HTk.out wr.drew)
            go_wp2_with fail
            refine HTk2.out.mono ?_
            rintro e w3 ⟨rfl, rfl⟩
            go_wp2_with fail
            repeat ((first | (refine Mx.skips (by kernel_rfl) ?_; go_big_quiet_skip) | (refine Mx.quietly rfl ?_; go_big_quiet_want; go_big_quiet_op; go_big_quiet_on)); refine Mx.done ?_)
            refine Mx.nil ?_
            go_wp2
            go_ret3
            exact ⟨rfl, below_drewN (Below.refl _ _) 1⟩
      · obtain ⟨y1, y2⟩ : (x == 32) = false ∧ ¬ x = 32 := u8ne (k := 32) hx h1 (by decide)
        have HNo2 : Hid (∀ b ∈ K.take i1, b ≠ 32) := Lib.hid (by
          rw [HI1.out, List.take_succ_eq_append_getElem hil, ← HBe.out]
          intro c hc
          rcases List.mem_append.1 hc with hc | hc
          · exact HNo.out c hc
          · simp only [List.mem_singleton] at hc; rw [hc]; exact h1)
        clear HBe hx h1 hil k1 k2 k3 k4
        go_wp2_with fail
        go_roundw
        case rel => exact ⟨i1, rfl, by rw [HI1.out]; exact HI.out, HNo2, by trivial⟩
        case measure => exact fij3 HI1.out HI.out
    · have hcut := cutAt_miss (c := 32) (l := K) (by
        have h := HNo.out
        rwa [List.take_of_length_le (by rw [← HK.out]; exact Nat.le_of_not_lt hin)] at h)
      rw [HC.out] at hcut
      cases hcut
theorem hex_digit {b : UInt8} {d : Nat} (h : hexDg b = some d) : (48 ≤ (smallB b).toNat ∧ (smallB b).toNat ≤ 57 ∧ d = (smallB b).toNat - 48) ∨ (97 ≤ (smallB b).toNat ∧ (smallB b).toNat ≤ 102 ∧ d = (smallB b).toNat - 87) := by
  unfold hexDg at h
  split at h
  · rename_i hc
    simp only [Option.some.injEq] at h
    exact .inl ⟨hc.1, hc.2, h.symm⟩
  · split at h
    · rename_i hc
      simp only [Option.some.injEq] at h
      exact .inr ⟨hc.1, hc.2, h.symm⟩
    · cases h
theorem hex_lt {b : UInt8} {d : Nat} (h : hexDg b = some d) : d < 16 := by
  rcases hex_digit h with h | h <;> omega
theorem hexAc_cons {q : Nat} {b : UInt8} {r : List UInt8} {N : Nat} (h : hexAc q (b :: r) = some N) : ∃ d, hexDg b = some d ∧ hexAc (q * 16 + d) r = some N := by
  unfold hexAc at h
  cases hd : hexDg b with
  | none => rw [hd] at h; cases h
  | some d => rw [hd] at h; exact ⟨d, rfl, h⟩
theorem hvj1 {q d i : Nat} (hq : q < 16 ^ i) (hd : d < 16) (hi : i ≤ 7) : q * 16 + d < 16 ^ (i + 1) ∧ q < 268435456 ∧ q * 16 + d < 4294967296 := by
  have h1 : 16 ^ i ≤ 16 ^ 7 := Nat.pow_le_pow_right (by decide) hi
  have h2 : (16 : Nat) ^ 7 = 268435456 := by decide
  rw [Nat.pow_succ]
  omega
theorem hvj2 {q : Nat} {x : Int} (hq : q < 268435456) (h1 : 48 ≤ x) (h2 : x ≤ 57) : RowKit.wrap64 ((q : Int) * 16) = (q : Int) * 16 ∧ RowKit.wrap64 ((q : Int) * 16 + x) = (q : Int) * 16 + x ∧ RowKit.wrap64 ((q : Int) * 16 + x - 48) = (q : Int) * 16 + x - 48 ∧ IntKind.i64.wrap ((q : Int) * 16) = (q : Int) * 16 ∧ IntKind.i64.wrap ((q : Int) * 16 + x) = (q : Int) * 16 + x ∧ IntKind.i64.wrap ((q : Int) * 16 + x - 48) = (q : Int) * 16 + x - 48 ∧ ((48 : Int) ≤ x) = True ∧ (x ≤ 57) = True := by
  rw [IntKind.wrap_i64, IntKind.wrap_i64, IntKind.wrap_i64]; unfold RowKit.wrap64
  exact ⟨by omega, by omega, by omega, by omega, by omega, by omega, eq_true h1, eq_true h2⟩
theorem hvj3 {q : Nat} {x : Int} (hq : q < 268435456) (h1 : 97 ≤ x) (h2 : x ≤ 102) : RowKit.wrap64 ((q : Int) * 16) = (q : Int) * 16 ∧ RowKit.wrap64 ((q : Int) * 16 + x) = (q : Int) * 16 + x ∧ RowKit.wrap64 ((q : Int) * 16 + x - 97) = (q : Int) * 16 + x - 97 ∧ RowKit.wrap64 ((q : Int) * 16 + x - 97 + 10) = (q : Int) * 16 + x - 97 + 10 ∧ IntKind.i64.wrap ((q : Int) * 16) = (q : Int) * 16 ∧ IntKind.i64.wrap ((q : Int) * 16 + x) = (q : Int) * 16 + x ∧ IntKind.i64.wrap ((q : Int) * 16 + x - 97) = (q : Int) * 16 + x - 97 ∧ IntKind.i64.wrap ((q : Int) * 16 + x - 97 + 10) = (q : Int) * 16 + x - 97 + 10 ∧ ((48 : Int) ≤ x) = True ∧ (x ≤ 57) = False ∧ ((97 : Int) ≤ x) = True ∧ (x ≤ 102) = True := by
  rw [IntKind.wrap_i64, IntKind.wrap_i64, IntKind.wrap_i64, IntKind.wrap_i64]; unfold RowKit.wrap64
  exact ⟨by omega, by omega, by omega, by omega, by omega, by omega, by omega, by omega, eq_true (by omega), eq_false (by omega), eq_true h1, eq_true h2⟩
theorem hvj4 {n : Nat} (h1 : 1 ≤ n) (h2 : n ≤ 8) : ((n : Int) < 1) = False ∧ ((8 : Int) < (n : Int)) = False := ⟨eq_false (by omega), eq_false (by omega)⟩
theorem strB_at (L : List UInt8) (i : Nat) (h : i < L.length) : (strB L).extract i (i + 1) = strB [L[i]] := by
  apply ByteArray.ext
  have e : (L.drop i).take 1 = [L[i]] := by rw [List.drop_eq_getElem_cons h]; rfl
  simp [strB, ByteArray.data_extract, e]
theorem u8w (b : UInt8) {x : Int} (h : x = (b.toNat : Int)) : RowKit.wrap64 x = x ∧ IntKind.i64.wrap x = x := by
  have := b.toNat_lt
  rw [IntKind.wrap_i64]; unfold RowKit.wrap64; omega
set_option maxRecDepth 100000 in
set_option maxHeartbeats 4000000 in
theorem hexval_any (w : World) (L : List UInt8) (N : Nat) (hb : hexV L = (N : Int)) : Calls Tryd.prog 85 #[.string (strB L)] w (IntOf w (N : Int)) := by
  obtain ⟨n, hl⟩ : ∃ n, n = L.length := ⟨_, rfl⟩
  have hsz : (strB L).size = n := by rw [strB_size, hl]
  have h18 : 1 ≤ n ∧ n ≤ 8 ∧ hexAc 0 L = some N := by
    unfold hexV at hb
    split at hb
    · omega
    · rename_i hc
      cases hq : hexAc 0 L with
      | none => rw [hq] at hb; simp at hb
      | some k =>
        rw [hq] at hb
        simp only at hb
        exact ⟨by omega, by omega, by rw [show k = N by omega]⟩
  obtain ⟨h1, h8, hac⟩ := h18
  obtain ⟨y1, y2⟩ := hvj4 h1 h8
  have HL := Lib.hid hl
  have H8 := Lib.hid h8
  have HAc := Lib.hid hac
  clear hb h1 h8 hac hl
  go_enter Tryd.func85, Tryd.ntmps85
  go_wp2_with fail
  go_loopw [3, 4] (fun qv v wr => ∃ i q : Nat, v = .int .i64 (i : Int) ∧ qv = .int .i64 (q : Int) ∧ i ≤ n ∧ Hid (hexAc q (L.drop i) = some N) ∧ Hid (q < 16 ^ i) ∧ Below w.heap.size w wr) (fun _ v _ => n - (intOf v).toNat)
  case atStart => exact ⟨0, 0, rfl, rfl, Nat.zero_le _, Lib.hid HAc.out, Lib.hid (by decide), Below.refl _ _⟩
  case round =>
    obtain ⟨i, q, rfl, rfl, hi, HA, HQ, hbw⟩ := hrel
    have HBw := Lib.hid hbw
    clear hbw
    obtain ⟨i1, hi1⟩ : ∃ i1, i1 = i + 1 := ⟨_, rfl⟩
    have HI1 := Lib.hid hi1
    by_cases hin : i < n
    · have HI := Lib.hid hin
      obtain ⟨k1, k2, k3, k4, z1, z2, z3⟩ := fij1 hi1 hin (Nat.le_trans H8.out (by decide))
      have hil : i < L.length := by rw [← HL.out]; exact hin
      have hdr : L.drop i = L[i] :: L.drop (i + 1) := List.drop_eq_getElem_cons hil
      have ha := HA.out
      rw [hdr] at ha
      obtain ⟨d, hd, ha2⟩ := hexAc_cons ha
      have k5 : (i : Int) ≤ (i1 : Int) := by omega
      have ex := strB_at L i hil
      rw [← hi1] at ex ha2
      obtain ⟨b, hb⟩ : ∃ b, b = L[i] := ⟨_, rfl⟩
      rw [← hb] at hd ex
      obtain ⟨c, hc⟩ : ∃ c, c = smallB b := ⟨_, rfl⟩
      have hSm := rsmall_any wr (strB [b]) (by rw [strB_size]; show 1 ≤ 9223372036854775807; decide)
      rw [bl_strB', show smallL [b] = [c] by rw [hc]; rfl] at hSm
      have HSm := Lib.hid hSm
      have hcs := hex_digit hd
      rw [← hc] at hcs
      obtain ⟨x, hx⟩ : ∃ x : Int, x = (c.toNat : Int) := ⟨_, rfl⟩
      have ix := fun w' => idx0 w' c []
      simp only [← hx] at ix
      obtain ⟨u1, u2⟩ := u8w c hx
      obtain ⟨p1, p2, p3⟩ := hvj1 HQ.out (hex_lt hd) (by have := H8.out; omega)
      have HA2 := Lib.hid ha2
      have HQ2 : Hid (q * 16 + d < 16 ^ i1) := Lib.hid (by rw [hi1]; exact p1)
      have HQv : Hid (((q * 16 + d : Nat) : Int) = if x ≤ 57 then (q : Int) * 16 + x - 48 else (q : Int) * 16 + x - 97 + 10) := Lib.hid (by split <;> omega)
      rcases hcs with ⟨c1, c2, c3⟩ | ⟨c1, c2, c3⟩
      · obtain ⟨r1, r2, r3, r4, r5, r6, r7, r8⟩ := hvj2 (q := q) (x := x) p2 (by omega) (by omega)
        have HE : Hid ((q : Int) * 16 + x - 48 = ((q * 16 + d : Nat) : Int)) := Lib.hid (by rw [HQv.out, if_pos (by omega)])
        clear hi hin hi1 hil hdr ha hd hb hc hx p1 p2 p3 c1 c2 c3 ha2 HQv HQ HA
        go_wp2_with fail
        refine HSm.out.mono ?_
        rintro e w3 ⟨rfl, hb3⟩
        have HB3 : Hid (Below w.heap.size w w3) := Lib.hid (HBw.out.trans (hb3.mono HBw.out.size))
        clear hb3
        go_wp2_with fail
        go_roundw
        case rel => exact ⟨i1, q * 16 + d, rfl, by rw [HE.out], by rw [HI1.out]; exact HI.out, HA2, HQ2, HB3.out⟩
        case measure => exact fij3 HI1.out HI.out
      · obtain ⟨r1, r2, r3, r4, r5, r6, r7, r8, r9, r10, r11, r12⟩ := hvj3 (q := q) (x := x) p2 (by omega) (by omega)
        have HE : Hid ((q : Int) * 16 + x - 97 + 10 = ((q * 16 + d : Nat) : Int)) := Lib.hid (by rw [HQv.out, if_neg (by omega)])
        clear hi hin hi1 hil hdr ha hd hb hc hx p1 p2 p3 c1 c2 c3 ha2 HQv HQ HA
        go_wp2_with fail
        refine HSm.out.mono ?_
        rintro e w3 ⟨rfl, hb3⟩
        have HB3 : Hid (Below w.heap.size w w3) := Lib.hid (HBw.out.trans (hb3.mono HBw.out.size))
        clear hb3
        go_wp2_with fail
        go_roundw
        case rel => exact ⟨i1, q * 16 + d, rfl, by rw [HE.out], by rw [HI1.out]; exact HI.out, HA2, HQ2, HB3.out⟩
        case measure => exact fij3 HI1.out HI.out
    · have z1 := ssj2 hin
      have hq : q = N := by
        have h := HA.out
        rw [List.drop_eq_nil_of_le (by rw [← HL.out]; exact Nat.le_of_not_lt hin)] at h
        simpa [hexAc] using h
      subst hq
      clear hi hin hi1
      go_wp2
      go_ret
      exact ⟨rfl, HBw.out⟩
end Go.Proofs.YtohinaohcndndaaDoor

namespace Go.Proofs.YtohinaohcndndaaDoor
open Go.RowKit

/-- a field appended to fields of one's own, however many -/
theorem app_fdB {B : Nat} {w : World} {tyo : TypeId} {a1 : Option Addr} {c1 n : Nat} {l : List Fd} (p : Fd) (hown : Sps w B a1 c1 l) (hn : l.length = n) (hsz : n ≤ 1099511627776) (hBw : B ≤ w.heap.size) :
    ∃ a' c' w', (Builtin.append_ #[22, 22] tyo #[.slice a1 n c1, .slice (some ⟨w.heap.size, 0, none⟩) 1 1]).run Tryd.prog (w.alloc (.cells #[.string p.nm, .string p.va] 64)) = .ok (.slice a' (n + 1) c') w' ∧ Sps w' B a' c' (l ++ [p]) ∧ Below B w w' := by
  obtain ⟨i, hi, h1, h2, h3⟩ := info_parts infoFld
  subst hn
  have hal : Below w.heap.size w (w.alloc (.cells #[.string p.nm, .string p.va] 64)) := (Below.refl _ w).alloc (Nat.le_refl _) _
  have hcell : ∀ j u, (scells p)[j]? = some u → (w.alloc (.cells #[.string p.nm, .string p.va] 64)).cell? ((⟨w.heap.size, 0, none⟩ : Addr).add j) = some u := by
    intro j u hu
    rw [addr_add, Nat.zero_add]
    exact (Has.new w 64 #[.string p.nm, .string p.va]).cell j hu
  have e : sv (l ++ [p]) = sv l ++ scells p := by rw [sv_append]; simp [sv]
  obtain ⟨a', c', w', hr, ho, hg, hnew⟩ := run_app_s (P := Tryd.prog) Tryd.underlying22 hi h1 h2 h3 rfl (by decide) (tyo := tyo) (own_below hown hal) (by rfl) hcell (fun u hu => by simp [scells] at hu; rcases hu with rfl | rfl <;> rfl) (n2 := 1) (c2 := 1) (by decide) (by omega) (by unfold maxLen; omega) (Nat.le_trans hBw hal.size)
  refine ⟨a', c', w', hr, ?_, (hal.mono hBw).grown hg (Nat.le_trans hBw hal.size) (fun k hk => (hown.lt k hk).1)⟩
  unfold Sps
  rw [e, List.length_append]
  exact ho
def FR.pre (done : List Fd) : FR → FR
  | .ok l r => .ok (done ++ l) r
  | .short => .short
  | .bad => .bad
theorem FR.pre_nil (F : FR) : FR.pre [] F = F := by cases F <;> rfl
theorem FR.pre_cons (done : List Fd) (f : Fd) (F : FR) : FR.pre done (F.cons f) = FR.pre (done ++ [f]) F := by cases F <;> simp [FR.pre, FR.cons]
/-- what fields answers: n is the text's length -/
def FldsP (w : World) (n : Nat) (F : FR) (e : Ending) (w' : World) : Prop :=
  match F with
  | .ok l r => ∃ a c, e = .returned (.tuple #[.slice a l.length c, .int .i64 ((n - r.length : Nat) : Int)]) ∧ Sps w' w.heap.size a c l ∧ Below w.heap.size w w'
  | _ => e = .returned (.tuple #[.slice none 0 0, .int .i64 (-1)]) ∧ Below w.heap.size w w'
theorem FldsP.short {w w' : World} {n : Nat} {F : FR} (h : F = .short) (hb : Below w.heap.size w w') : FldsP w n F (.returned (.tuple #[.slice none 0 0, .int .i64 (-1)])) w' := by subst h; exact ⟨rfl, hb⟩
theorem FldsP.ok {w w' : World} {n : Nat} {F : FR} {l : List Fd} {r : List UInt8} (h : F = .ok l r) {a : Option Addr} {c k a2 : Nat} (hk : k = l.length) (ha : a2 = n - r.length) (hs : Sps w' w.heap.size a c l) (hb : Below w.heap.size w w') : FldsP w n F (.returned (.tuple #[.slice a k c, .int .i64 (a2 : Int)])) w' := by
  subst h hk ha; exact ⟨a, c, rfl, hs, hb⟩
theorem fsj2 {a a2 n : Nat} (h : a < a2) (hn : a2 ≤ n) : n - (intOf (Value.int .i64 (a2 : Int))).toNat < n - (intOf (Value.int .i64 (a : Int))).toNat := by simp only [intOf]; omega
set_option maxRecDepth 100000 in
set_option maxHeartbeats 4000000 in
theorem fields_any (w : World) (L : List UInt8) (hn : L.length ≤ 1099511627776) (a : Nat) (ha : a ≤ L.length) (hb : fldsL (L.drop a) ≠ .bad) : Calls Tryd.prog 66 #[.string (strB L), .int .i64 (a : Int)] w (FldsP w L.length (fldsL (L.drop a))) := by
  obtain ⟨F, hF⟩ : ∃ F, F = fldsL (L.drop a) := ⟨_, rfl⟩
  rw [← hF] at hb ⊢
  obtain ⟨n, hl⟩ : ∃ n, n = L.length := ⟨_, rfl⟩
  rw [← hl]
  have HN : Hid (n ≤ 1099511627776) := Lib.hid (by rw [hl]; exact hn)
  have HL := Lib.hid hl
  have HF := Lib.hid hF
  have HBd := Lib.hid hb
  have HA : Hid (a ≤ n) := Lib.hid (by rw [hl]; exact ha)
  clear hF hl hn ha hb
  go_enter Tryd.func66, Tryd.ntmps66
  go_wp2_with fail
  go_loopw [1, 6] (fun av ov wr => ∃ (p k : Nat) (done : List Fd) (a' : Option Addr) (c' : Nat), av = .int .i64 (p : Int) ∧ ov = .slice a' k c' ∧ p ≤ n ∧ k ≤ p ∧ Hid (k = done.length) ∧ Hid (F = FR.pre done (fldsL (L.drop p))) ∧ Sps wr w.heap.size a' c' done ∧ Below w.heap.size w wr) (fun av _ _ => n - (intOf av).toNat)
  case atStart => exact ⟨a, 0, [], none, 0, rfl, rfl, HA.out, Nat.zero_le _, Lib.hid rfl, Lib.hid (by rw [FR.pre_nil]; exact HF.out), World.ownsRow_nil _ _ _ _, Below.refl _ _⟩
  case round =>
    obtain ⟨p, k, done, a', c', rfl, rfl, hp, hkp, HK, HFp, hs, hbw⟩ := hrel
    have HSp := Lib.hid hs
    have HBw := Lib.hid hbw
    have HKp := Lib.hid hkp
    have HP := Lib.hid hp
    have hli := rline_any wr L (by rw [← HL.out]; exact HN.out) p (by rw [← HL.out]; exact hp)
    clear hs hbw hkp hp HF
    cases hc : cutL (L.drop p) with
    | none =>
      rw [line_none hc] at hli
      have HLi := Lib.hid hli
      have HFs : Hid (F = .short) := Lib.hid (by rw [HFp.out, fldsL_none hc]; rfl)
      clear hli hc
      go_wp2_with fail
      refine HLi.out.mono ?_
      rintro e w3 ⟨rfl, rfl⟩
      go_wp2
      go_ret2
      exact FldsP.short HFs.out HBw.out
    | some xr =>
      obtain ⟨x, r⟩ := xr
      obtain ⟨p2, hp2, hr, hlv, hpp, hpr, hxl⟩ := line_some (by rw [← HL.out]; exact HP.out) hc
      rw [hlv] at hli
      have HLi := Lib.hid hli
      have y1 : ((p2 : Int) < 0) = False := eq_false (by omega)
      have HPp := Lib.hid hpp
      have HPr := Lib.hid hpr
      have HP2 : Hid (p2 ≤ n) := Lib.hid (by rw [HL.out]; exact hp2)
      by_cases hx : x = []
      · obtain ⟨S, hS⟩ : ∃ S, S = strB x := ⟨_, rfl⟩
        obtain ⟨t1, t2⟩ := eqT2 (s := S) (l := []) (by rw [hS, bl_strB']; exact hx)
        have HFs : Hid (F = .ok done r) := Lib.hid (by rw [HFp.out, fldsL_end (by rw [hc, hx])]; simp [FR.pre])
        rw [← hS] at HLi
        clear hli hc hr hlv hpp hpr hp2 hx hS hxl
        go_wp2_with fail
        refine HLi.out.mono ?_
        rintro e w3 ⟨rfl, rfl⟩
        go_wp2
        go_ret2
        exact FldsP.ok HFs.out HK.out (by rw [HPr.out, HL.out]) HSp.out HBw.out
      · obtain ⟨S, hS⟩ : ∃ S, S = strB x := ⟨_, rfl⟩
        obtain ⟨t1, t2⟩ := eqF2 (s := S) (l := []) (by rw [hS, bl_strB']; exact hx)
        have hfb : (fieldV x).2 = true := by
          cases hq : (fieldV x).2 with
          | true => rfl
          | false =>
            exfalso
            refine HBd.out ?_
            rw [HFp.out, fldsL_bad hc hx hq]; rfl
        have HFs : Hid (F = FR.pre (done ++ [(fieldV x).1]) (fldsL (L.drop p2))) := Lib.hid (by rw [HFp.out, fldsL_cons hc hx hfb, FR.pre_cons, hr])
        have hfi := field_any wr x (by have h1 := HN.out; have h2 := HL.out; omega) hfb
        obtain ⟨f, hf⟩ : ∃ f, f = (fieldV x).1 := ⟨_, rfl⟩
        rw [← hf] at hfi HFs
        obtain ⟨nm, va⟩ := f
        have HFi := Lib.hid hfi
        rw [← hS] at HLi HFi
        clear hli hc hr hlv hpp hpr hp2 hx hS hxl hfb hfi hf HFp
        go_wp2_with fail
        refine HLi.out.mono ?_
        rintro e w3 ⟨rfl, rfl⟩
        go_wp2_with fail
        refine HFi.out.mono ?_
        rintro e w4 ⟨rfl, hb4⟩
        have HB4 : Hid (Below w.heap.size w w4) := Lib.hid (HBw.out.trans (hb4.mono HBw.out.size))
        have HSp4 : Hid (Sps w4 w.heap.size a' c' done) := Lib.hid (own_below HSp.out hb4)
        clear hb4 HFi HLi
        unfold fdV
        go_upto_region 9 with fail
        obtain ⟨w5, hw5⟩ : ∃ w5, w5 = w4.alloc (.cells #[.string nm, .string va] 64) := ⟨_, rfl⟩
        obtain ⟨g5, hg5⟩ : ∃ g5, g5 = w4.heap.size := ⟨_, rfl⟩
        have hb5 : Below w4.heap.size w4 w5 := by rw [hw5]; exact (Below.refl _ w4).alloc (Nat.le_refl _) _
        have hh5 : Has w5 g5 64 [.string nm, .string va] := by rw [hw5, hg5]; exact Has.new w4 64 #[.string nm, .string va]
        have HB5 : Hid (Below w.heap.size w w5) := Lib.hid (HB4.out.trans (hb5.mono HB4.out.size))
        have HSp5 : Hid (Sps w5 w.heap.size a' c' done) := Lib.hid (own_below HSp4.out hb5)
        have q0 : w5.cell? ⟨g5, 0, none⟩ = some (.string nm) := hh5.cell 0 rfl
        have q1 : w5.cell? ⟨g5, 1, none⟩ = some (.string va) := hh5.cell 1 rfl
        rw [← hw5, ← hg5]
        clear hw5 hg5 hb5 hh5
        obtain ⟨a6, c6, w6, hr6, hsp6, hb6⟩ := app_fdB (tyo := 22) ⟨nm, va⟩ HSp5.out HK.out.symm (Nat.le_trans HKp.out (Nat.le_trans HP.out HN.out)) HB5.out.size
        have HSp6 := Lib.hid hsp6
        have HB6 : Hid (Below w.heap.size w w6) := Lib.hid (HB5.out.trans hb6)
        clear hsp6 hb6
        go_wp2_with (at_builtin; refine Lib.wpList_append_run _ rfl _ _ _ _ rfl (.slice a' k c') (.slice (some ⟨w5.heap.size, 0, none⟩) 1 1) rfl rfl _ _ hr6 ?_)
        clear hr6
        go_wp2_with fail
        go_roundw
        case rel => exact ⟨p2, k + 1, done ++ [⟨nm, va⟩], a6, c6, rfl, rfl, HP2.out, by have h1 := HKp.out; have h2 := HPp.out; omega, Lib.hid (by rw [List.length_append, ← HK.out]; rfl), HFs, HSp6.out, HB6.out⟩
        case measure => exact fsj2 HPp.out HP2.out
def CR.pre (d : List UInt8) : CR → CR
  | .ok b t r => .ok (d ++ b) t r
  | .short => .short
  | .bad => .bad
theorem CR.pre_cons (d e : List UInt8) (F : CR) : CR.pre d (F.cons e) = CR.pre (d ++ e) F := by cases F <;> simp [CR.pre, CR.cons]
/-- what chunks answers of a body that is there whole -/
def ChkP (w : World) (n : Nat) (b : List UInt8) (t : List Fd) (r : List UInt8) (e : Ending) (w' : World) : Prop :=
  ∃ a1 c1 a2 c2, e = .returned (.tuple #[.slice a1 b.length c1, .slice a2 t.length c2, .int .i64 ((n - r.length : Nat) : Int)]) ∧ w'.ownsRow w.heap.size 5 1 (.slice a1 b.length c1) b.length (bv b) ∧ Sps w' w.heap.size a2 c2 t ∧ Below w.heap.size w w'
/-- a round of chunks that goes well -/
theorem chunks_step {l : List UInt8} {b : List UInt8} {t : List Fd} {R : List UInt8} {done : List UInt8} (h : CR.pre done (chunksL l) = .ok b t R) :
    ∃ x r, cutL l = some (x, r) ∧ ((hexV x = 0 ∧ fldsL r = .ok t R ∧ b = done) ∨ (∃ N : Nat, hexV x = (N : Int) ∧ 1 ≤ N ∧ N + 2 ≤ r.length ∧ (r.drop N).take 2 = [13, 10] ∧ CR.pre (done ++ r.take N) (chunksL (r.drop (N + 2))) = .ok b t R)) := by
  cases hc : cutL l with
  | none => rw [chunksL_none hc] at h; cases h
  | some xr =>
    obtain ⟨x, r⟩ := xr
    refine ⟨x, r, rfl, ?_⟩
    rw [chunksL_eq hc] at h
    split at h
    · cases h
    · rename_i h1
      split at h
      · rename_i h2
        cases hf : fldsL r with
        | short => rw [hf] at h; cases h
        | bad => rw [hf] at h; cases h
        | ok t2 r2 =>
          rw [hf] at h
          simp only [CR.ofF, CR.pre, CR.ok.injEq, List.append_nil] at h
          obtain ⟨rfl, rfl, rfl⟩ := h
          exact .inl ⟨h2, rfl, rfl⟩
      · rename_i h2
        split at h
        · cases h
        · rename_i h3
          split at h
          · cases h
          · rename_i h4
            refine .inr ⟨(hexV x).toNat, by omega, by omega, by omega, Classical.not_not.1 h4, ?_⟩
            rw [← CR.pre_cons]; exact h
theorem csj1 {p2 N n r ln N2 p3 p4 : Nat} (hr : r = n - p2) (hp : p2 ≤ n) (hN : N + 2 ≤ r) (h1 : 1 ≤ N) (hn : n ≤ 1099511627776) (e1 : ln = n - p2) (e2 : N2 = N + 2) (e3 : p3 = p2 + N) (e4 : p4 = p2 + N + 2) : ((N : Int) < 0) = False ∧ ((N : Int) == 0) = false ∧ RowKit.wrap64 ((n : Int) - (p2 : Int)) = (ln : Int) ∧ IntKind.i64.wrap ((n : Int) - (p2 : Int)) = (ln : Int) ∧ RowKit.wrap64 ((N : Int) + 2) = (N2 : Int) ∧ IntKind.i64.wrap ((N : Int) + 2) = (N2 : Int) ∧ ((ln : Int) < (N2 : Int)) = False ∧
    RowKit.wrap64 ((p2 : Int) + (N : Int)) = (p3 : Int) ∧ IntKind.i64.wrap ((p2 : Int) + (N : Int)) = (p3 : Int) ∧ RowKit.wrap64 ((p3 : Int) + 2) = (p4 : Int) ∧ IntKind.i64.wrap ((p3 : Int) + 2) = (p4 : Int) ∧ (0 : Int) ≤ (p3 : Int) ∧ (p3 : Int) ≤ (p4 : Int) ∧ (p4 : Int) ≤ (n : Int) ∧ (0 : Int) ≤ (p2 : Int) ∧ (p2 : Int) ≤ (p3 : Int) ∧ (p3 : Int) ≤ (n : Int) := by
  rw [IntKind.wrap_i64, IntKind.wrap_i64, IntKind.wrap_i64, IntKind.wrap_i64]; unfold RowKit.wrap64
  exact ⟨eq_false (by omega), by simp; omega, by omega, by omega, by omega, by omega, eq_false (by omega), by omega, by omega, by omega, by omega, by omega, by omega, by omega, by omega, by omega, by omega⟩
theorem csj2 {p2 N n r p3 p4 : Nat} (e3 : p3 = p2 + N) (e4 : p4 = p2 + N + 2) (hp : p2 ≤ n) (hr : r = n - p2) (hN : N + 2 ≤ r) : p3 ≤ p4 ∧ p4 ≤ n ∧ p2 ≤ p3 ∧ (p4 - p3 = 2 ∧ p3 - p2 = N) := by omega
theorem csj3 {k p p2 N p4 n : Nat} (h1 : k ≤ p) (h2 : p < p2) (h3 : p4 = p2 + N + 2) (h4 : p4 ≤ n) : k + N + 2 ≤ p4 ∧ p4 ≤ n ∧ p2 < p4 := by omega
theorem infoU8c : (Tryd.prog.info? 5).map (fun i => (i.zero, i.size, i.bytes)) = some (some (.int .u8 0), 1, 1) := by kernel_rfl
theorem str_cells (l : List UInt8) : Lib.strCells (strB l) = bv l := by simp [Lib.strCells, strB, bv]
theorem app_strB {B : Nat} {w : World} {tyo : TypeId} {a1 : Option Addr} {c1 n : Nat} {d : List UInt8} (s : List UInt8) (hown : w.ownsRow B 5 1 (.slice a1 n c1) n (bv d)) (hsz : n + s.length ≤ 140737488355328) (hBw : B ≤ w.heap.size) :
    ∃ a' c' w', (Builtin.append_ #[28, 9] tyo #[.slice a1 n c1, .string (strB s)]).run Tryd.prog w = .ok (.slice a' (n + s.length) c') w' ∧ w'.ownsRow B 5 1 (.slice a' (n + s.length) c') (n + s.length) (bv (d ++ s)) ∧ Below B w w' := by
  obtain ⟨i, hi, h1, h2, h3⟩ := info_parts infoU8c
  obtain ⟨v', w', hr, ho, hg, _⟩ := Lib.run_append_own_string (P := Tryd.prog) w B 28 9 tyo 5 i Tryd.underlying28 Tryd.underlying9 hi h1 h2 h3 _ n (bv d) hown (strB s) (by rw [strB_size]; unfold maxLen; omega) (by rw [strB_size]; omega) hBw
  rw [strB_size, str_cells, ← bv_append] at ho
  obtain ⟨a', c', rfl⟩ := own_slice ho
  exact ⟨a', c', w', hr, ho, (Below.refl B w).grown hg hBw (fun k hk => (hown.lt k hk).1)⟩
set_option maxRecDepth 100000 in
set_option maxHeartbeats 4000000 in
theorem chunks_any (w : World) (L : List UInt8) (hn : L.length ≤ 1099511627776) (a : Nat) (ha : a ≤ L.length) {b : List UInt8} {t : List Fd} {r : List UInt8} (hb : chunksL (L.drop a) = .ok b t r) : Calls Tryd.prog 67 #[.string (strB L), .int .i64 (a : Int)] w (ChkP w L.length b t r) := by
  obtain ⟨n, hl⟩ : ∃ n, n = L.length := ⟨_, rfl⟩
  rw [← hl]
  have hsz : (strB L).size = n := by rw [strB_size, hl]
  have HN : Hid (n ≤ 1099511627776) := Lib.hid (by rw [hl]; exact hn)
  have HL := Lib.hid hl
  have HBd := Lib.hid hb
  have HA : Hid (a ≤ n) := Lib.hid (by rw [hl]; exact ha)
  clear hl hn ha hb
  go_enter Tryd.func67, Tryd.ntmps67
  go_wp2_with fail
  go_loopw [1, 7] (fun av ov wr => ∃ (p k : Nat) (done : List UInt8) (a' : Option Addr) (c' : Nat), av = .int .i64 (p : Int) ∧ ov = .slice a' k c' ∧ p ≤ n ∧ k ≤ p ∧ Hid (k = done.length) ∧ Hid (CR.pre done (chunksL (L.drop p)) = .ok b t r) ∧ wr.ownsRow w.heap.size 5 1 (.slice a' k c') k (bv done) ∧ Below w.heap.size w wr) (fun av _ _ => n - (intOf av).toNat)
  case atStart => exact ⟨a, 0, [], none, 0, rfl, rfl, HA.out, Nat.zero_le _, Lib.hid rfl, Lib.hid (by rw [HBd.out]; rfl), World.ownsRow_nil _ _ _ _, Below.refl _ _⟩
  case round =>
    obtain ⟨p, k, done, a', c', rfl, rfl, hp, hkp, HK, HFp, hs, hbw⟩ := hrel
    have HSp := Lib.hid hs
    have HBw := Lib.hid hbw
    have HKp := Lib.hid hkp
    have HP := Lib.hid hp
    have hli := rline_any wr L (by rw [← HL.out]; exact HN.out) p (by rw [← HL.out]; exact hp)
    clear hs hbw hkp hp HBd
    obtain ⟨x, r1, hc, hcase⟩ := chunks_step HFp.out
    obtain ⟨p2, hp2, hr, hlv, hpp, hpr, hxl⟩ := line_some (by rw [← HL.out]; exact HP.out) hc
    rw [hlv] at hli
    have HLi := Lib.hid hli
    have y1 : ((p2 : Int) < 0) = False := eq_false (by omega)
    have HPp := Lib.hid hpp
    have HPr := Lib.hid hpr
    have HP2 : Hid (p2 ≤ n) := Lib.hid (by rw [HL.out]; exact hp2)
    rcases hcase with ⟨h0, hf, hbd⟩ | ⟨N, h1, h2, h3, h4, h5⟩
    · have HHx := Lib.hid (hexval_any wr x 0 h0)
      have HBe : Hid (b = done) := Lib.hid hbd
      have y2 : (((0 : Nat) : Int) < 0) = False := eq_false (by omega)
      have y3 : (((0 : Nat) : Int) == 0) = true := by decide
      rw [hr] at hf
      have HFl := Lib.hid (fun w' => by have h := fields_any w' L (by rw [← HL.out]; exact HN.out) p2 hp2 (by rw [hf]; simp); rw [hf, ← HL.out] at h; exact h)
      clear hli hc hr hlv hpp hpr hp2 hxl h0 hf hbd HFp
      go_wp2_with fail
      refine HLi.out.mono ?_
      rintro e w3 ⟨rfl, rfl⟩
      go_wp2_with fail
      refine HHx.out.mono ?_
      rintro e w4 ⟨rfl, hb4⟩
      have HB4 : Hid (Below w.heap.size w w4) := Lib.hid (HBw.out.trans (hb4.mono HBw.out.size))
      have HSp4 := Lib.hid (own_below HSp.out hb4)
      have HFl4 := Lib.hid (HFl.out w4)
      clear hb4
      go_wp2_with fail
      refine HFl4.out.mono ?_
      rintro e w5 ⟨a5, c5, rfl, hs5, hb5⟩
      have HB5 : Hid (Below w.heap.size w w5) := Lib.hid (HB4.out.trans (hb5.mono HB4.out.size))
      have HSp5 := Lib.hid (own_below HSp4.out hb5)
      have HS5 : Hid (Sps w5 w.heap.size a5 c5 t) := Lib.hid (own_mono hs5 HB4.out.size)
      clear hs5 hb5
      go_wp2
      go_ret3
      refine ⟨a', c', a5, c5, ?_, ?_, HS5.out, HB5.out⟩
      · rw [HBe.out, ← HK.out]; rfl
      · rw [HBe.out, ← HK.out]; exact HSp5.out
    · have HHx := Lib.hid (hexval_any wr x N h1)
      have hrl : r1.length = n - p2 := by rw [hr, List.length_drop, ← HL.out]
      obtain ⟨ln, e5⟩ : ∃ ln, ln = n - p2 := ⟨_, rfl⟩
      obtain ⟨N2, e6⟩ : ∃ N2, N2 = N + 2 := ⟨_, rfl⟩
      obtain ⟨p3, e7⟩ : ∃ p3, p3 = p2 + N := ⟨_, rfl⟩
      obtain ⟨p4, e8⟩ : ∃ p4, p4 = p2 + N + 2 := ⟨_, rfl⟩
      obtain ⟨i1, i2, i3, i4⟩ := csj2 e7 e8 HP2.out hrl h3
      have e1 := strB_cut L p3 p4 i1 (by rw [← HL.out]; exact i2)
      have e2 := strB_cut L p2 p3 i3 (by rw [← HL.out]; exact Nat.le_trans i1 i2)
      have e3 : (L.drop p3).take (p4 - p3) = [13, 10] := by
        rw [hr, List.drop_drop] at h4
        rw [i4.1, e7]; exact h4
      have e4 : (L.drop p2).take (p3 - p2) = r1.take N := by rw [← hr, i4.2]
      rw [e3] at e1
      rw [e4] at e2
      obtain ⟨V, hV⟩ : ∃ V, V = strB [13, 10] := ⟨_, rfl⟩
      have hVb : bl V = [13, 10] := by rw [hV, bl_strB']
      rw [← hV] at e1
      obtain ⟨v1, v2⟩ := eqT2 hVb
      have v3 : (V.toList != [13, 10]) = false := by rw [bne, v1]; rfl
      obtain ⟨d, hd⟩ : ∃ d, d = r1.take N := ⟨_, rfl⟩
      rw [← hd] at e2 h5
      have hdl : d.length = N := by rw [hd, List.length_take]; exact Nat.min_eq_left (by omega)
      have HDl := Lib.hid hdl
      have HF2 : Hid (CR.pre (done ++ d) (chunksL (L.drop p4)) = .ok b t r) := Lib.hid (by rw [← h5, hr, List.drop_drop, e8]; rfl)
      have HKn : Hid (k + N + 2 ≤ p4 ∧ p4 ≤ n ∧ p2 < p4) := Lib.hid (csj3 HKp.out HPp.out e8 i2)
      obtain ⟨g1, g2, g3, g4, g5, g6, g7, g8, g9, g10, g11, g12, g13, g14, g15, g16, g17⟩ := csj1 hrl HP2.out h3 h2 HN.out e5 e6 e7 e8
      clear i1 i2 i3 i4 hli hc hr hlv hpp hpr hp2 hxl h1 h2 h3 h4 h5 hrl e3 e4 e5 e6 e7 e8 hV hVb hd hdl HFp
      go_wp2_with fail
      refine HLi.out.mono ?_
      rintro e w3 ⟨rfl, rfl⟩
      go_wp2_with fail
      refine HHx.out.mono ?_
      rintro e w4 ⟨rfl, hb4⟩
      have HB4 : Hid (Below w.heap.size w w4) := Lib.hid (HBw.out.trans (hb4.mono HBw.out.size))
      have HSp4 := Lib.hid (own_below HSp.out hb4)
      clear hb4
      obtain ⟨a6, c6, w6, hr6, ho6, hb6⟩ := app_strB (tyo := 28) d HSp4.out (by have h6 := HKn.out; have h7 := HN.out; rw [HDl.out]; omega) HB4.out.size
      rw [HDl.out] at hr6 ho6
      have HO6 := Lib.hid ho6
      have HB6 : Hid (Below w.heap.size w w6) := Lib.hid (HB4.out.trans hb6)
      clear ho6 hb6
      go_wp2_with (at_builtin; refine Lib.wpList_append_run _ rfl _ _ _ _ rfl (.slice a' k c') (.string (strB d)) rfl rfl _ _ hr6 ?_)
      clear hr6
      go_wp2_with fail
      go_roundw
      case rel => exact ⟨p4, k + N, done ++ d, a6, c6, rfl, rfl, HKn.out.2.1, by have := HKn.out.1; omega, Lib.hid (by rw [List.length_append, ← HK.out, HDl.out]), HF2, HO6.out, HB6.out⟩
      case measure => exact fsj2 (by have h7 := HPp.out; have h8 := HKn.out.2.2; omega) HKn.out.2.1
end Go.Proofs.YtohinaohcndndaaDoor

namespace Go.Proofs.YtohinaohcndndaaDoor
open Go.RowKit

/-- a slice that lies at B or behind it -/
def Up (B : Nat) (a : Option Addr) : Prop := ∀ ad, a = some ad → B ≤ ad.block
theorem own_up {w : World} {B e s : Nat} {a : Option Addr} {n c : Nat} {xs : List Value} (h : w.ownsRow B e s (.slice a n c) n xs) : Up B a := by
  intro ad ha
  rcases h.2 with ⟨hv, _⟩ | ⟨g, cap, cur, hv, hB, _⟩
  · simp only [Value.slice.injEq] at hv; rw [hv.1] at ha; cases ha
  · simp only [Value.slice.injEq] at hv; rw [hv.1] at ha; cases ha; exact hB
theorem SlS.kept {X : Nat → Prop} {w w' : World} {a : Option Addr} {n c : Nat} {l : List Fd} (h : SlS w a n c l) (hk : Kept X w w') (hx : ∀ ad, a = some ad → ¬ X ad.block) : SlS w' a n c l := by
  refine ⟨h.len, h.cap, h.max, fun hn => ?_⟩
  obtain ⟨b, off, rfl, hc⟩ := h.cells hn
  have hX : ¬ X b := hx ⟨b, off, none⟩ rfl
  exact ⟨b, off, rfl, fun i hi => ⟨hk.cell (hc i hi).1 hX, hk.cell (hc i hi).2 hX⟩⟩
theorem SlS.nil (w : World) : SlS w none 0 0 [] := ⟨rfl, Nat.le_refl _, Nat.zero_le _, fun h => absurd h (Nat.lt_irrefl _)⟩
theorem bts_sl {w : World} {g : Nat} {l : List UInt8} (h : Bts w g l) (c : Nat) (hc : l.length ≤ c) (hm : c ≤ maxLen) : Sl w (some ⟨g, 0, none⟩) l.length c (bv l) := by
  refine ⟨by rw [bv_length], hc, hm, fun h0 => (by cases h0), fun _ => ⟨g, 0, rfl, fun i hi => ?_⟩⟩
  rw [bv_get l i hi]
  simpa using h.cell i hi
theorem conv_bts2 (w : World) (l : List UInt8) (hl : l.length ≤ maxLen) : ∃ c w2, (convert 9 28 (.string (strB l))).run Tryd.prog w = .ok (.slice (some ⟨w.heap.size, 0, none⟩) l.length c) w2 ∧ Bts w2 w.heap.size l ∧ (l.length ≤ c ∧ c ≤ maxLen) ∧ Below w.heap.size w w2 := by
  have hr := Lib.run_convert_string_bytes (P := Tryd.prog) w 9 28 5 (strB l) Tryd.underlying9 Tryd.underlying28 Tryd.underlying5
  obtain ⟨c, w2, hr2, hb, hw⟩ := conv_bts w (strB l)
  rw [hr] at hr2
  simp only [Result.ok.injEq, Value.slice.injEq, true_and] at hr2
  obtain ⟨rfl, rfl⟩ := hr2
  rw [strB_size] at hr
  rw [bl_strB'] at hb
  exact ⟨_, _, hr, hb, ⟨grownCap_ge w l.length 0 5, grownCap_le_maxLen w l.length 0 5 hl⟩, hw⟩
/-- a request's cells -/
def whC (m t : ByteArray) (a1 : Option Addr) (n1 c1 : Nat) (a2 : Option Addr) (n2 c2 : Nat) (a3 : Option Addr) (n3 c3 : Nat) (k : Int) : List Value := [.string m, .string t, .slice a1 n1 c1, .slice a2 n2 c2, .slice a3 n3 c3, .int .i64 k]
def wh0C : List Value := whC ⟨#[]⟩ ⟨#[]⟩ none 0 0 none 0 0 none 0 0 0
theorem whC_one (m t : ByteArray) (a1 : Option Addr) (n1 c1 : Nat) (a2 : Option Addr) (n2 c2 : Nat) (a3 : Option Addr) (n3 c3 : Nat) (k : Int) : Array.all (#[.string m, .string t, .slice a1 n1 c1, .slice a2 n2 c2, .slice a3 n3 c3, .int .i64 k] : Array Value) (·.oneCell') = true := by simp [Value.oneCell']
theorem infoWh : (Tryd.prog.info? 58).map (·.size) = some 6 := by kernel_rfl
theorem results_wh2 {fn : Func} {c u : Tmp} (h : fn.results = #[.cell c 58, .tmp u]) (tmps : Array Value) {w : World} {b : Nat} {vs : List Value} (hc : tmps.getD c undef = .pointer (some ⟨b, 0, none⟩)) (hH : Has w b 58 vs) (hl : vs.length = 6) :
    (results fn tmps).run Tryd.prog w = .ok (.tuple #[.agg vs.toArray, tmps.getD u undef]) w := by
  have hr := run_loadVar_mid (P := Tryd.prog) w b 0 58 vs _ hH.rangeAt Tryd.underlying58 rfl (by rw [infoWh, hl])
  simp only [results, h]
  simp only [Array.getD_eq_getD_getElem?] at hc ⊢
  simp [hc, asAddr, hr]
/-- what Read answers of a whole request, R is left: n the text's length -/
def ReadP (w : World) (n : Nat) (m t : List UInt8) (fs : List Fd) (b : List UInt8) (tr : List Fd) (R : List UInt8) (e : Ending) (w' : World) : Prop :=
  ∃ a1 c1 a2 c2 a3 c3, e = .returned (.tuple #[.agg (whC (strB m) (strB t) a1 fs.length c1 a2 b.length c2 a3 tr.length c3 ((n - R.length : Nat) : Int)).toArray, .int .i64 1]) ∧ SlS w' a1 fs.length c1 fs ∧ Sl w' a2 b.length c2 (bv b) ∧ SlS w' a3 tr.length c3 tr ∧ Below w.heap.size w w'
/-- the parts of a whole request -/
theorem read_parts {L m t : List UInt8} {fs : List Fd} {b : List UInt8} {tr : List Fd} {R : List UInt8} (h : readV L = .ok m t fs b tr R) :
    ∃ x r1 r2 len ch, cutL L = some (x, r1) ∧ startV x = (m, t, true) ∧ fldsL r1 = .ok fs r2 ∧ headsV fs (-1) false 0 = some (len, ch, 1) ∧ ((ch = true → ¬ 0 ≤ len ∧ chunksL r2 = .ok b tr R) ∧ (ch = false → if 0 < len then len.toNat ≤ r2.length ∧ b = r2.take len.toNat ∧ tr = [] ∧ R = r2.drop len.toNat else b = [] ∧ tr = [] ∧ R = r2)) := by
  cases hc : cutL L with
  | none => unfold readV at h; rw [hc] at h; cases h
  | some xr =>
    obtain ⟨x, r1⟩ := xr
    unfold readV at h
    rw [hc] at h
    simp only at h
    split at h
    · cases h
    · rename_i hs
      cases hf : fldsL r1 with
      | short => rw [hf] at h; cases h
      | bad => rw [hf] at h; cases h
      | ok fs' r2 =>
        rw [hf] at h
        simp only [bodyV] at h
        cases hh : headsV fs' (-1) false 0 with
        | none => rw [hh] at h; cases h
        | some v =>
          obtain ⟨len, ch, k⟩ := v
          rw [hh] at h
          simp only at h
          split at h
          · cases h
          · rename_i hk
            rw [not_or, Classical.not_not, not_and] at hk
            obtain ⟨hk1, hk2⟩ := hk
            have hst : startV x = ((startV x).1, (startV x).2.1, true) := by
              have : (startV x).2.2 = true := by simpa using hs
              rw [← this]
            cases ch with
            | true =>
              rw [if_pos rfl] at h
              cases hq : chunksL r2 with
              | short => rw [hq] at h; cases h
              | bad => rw [hq] at h; cases h
              | ok b3 t3 r3 =>
                rw [hq] at h
                simp only [RR.ofC, RR.ok.injEq] at h
                obtain ⟨rfl, rfl, rfl, rfl, rfl, rfl⟩ := h
                subst hk1
                exact ⟨x, r1, r2, len, true, rfl, hst, hf, hh, fun _ => ⟨hk2 rfl, hq⟩, fun e => (by cases e)⟩
            | false =>
              rw [if_neg (by decide)] at h
              by_cases hlen : 0 < len
              · rw [if_pos hlen] at h
                split at h
                · cases h
                · rename_i hle
                  simp only [RR.ok.injEq] at h
                  obtain ⟨rfl, rfl, rfl, rfl, rfl, rfl⟩ := h
                  subst hk1
                  exact ⟨x, r1, r2, len, false, rfl, hst, hf, hh, fun e => (by cases e), fun _ => by rw [if_pos hlen]; exact ⟨by omega, rfl, rfl, rfl⟩⟩
              · rw [if_neg hlen] at h
                simp only [RR.ok.injEq] at h
                obtain ⟨rfl, rfl, rfl, rfl, rfl, rfl⟩ := h
                subst hk1
                exact ⟨x, r1, r2, len, false, rfl, hst, hf, hh, fun e => (by cases e), fun _ => by rw [if_neg hlen]; exact ⟨rfl, rfl, rfl⟩⟩
/-- what is left behind fields is an end of the text -/
theorem suf_drop {L r : List UInt8} (h : r <:+ L) : r = L.drop (L.length - r.length) := by
  obtain ⟨p, rfl⟩ := h
  rw [List.length_append, Nat.add_sub_cancel]
  exact List.drop_left.symm
theorem flds_suf : ∀ (n : Nat) (p : List UInt8), p.length < n → ∀ l r, fldsL p = .ok l r → r <:+ p
  | 0, p, h => by omega
  | n + 1, p, h => fun l r hf => by
    cases hc : cutL p with
    | none => rw [fldsL_none hc] at hf; cases hf
    | some xr =>
      obtain ⟨x, r'⟩ := xr
      have hl := cut_lt hc
      have hsuf : r' <:+ p := ⟨x ++ [13, 10], by rw [cut_eq hc]; simp⟩
      by_cases hx : x = []
      · subst hx
        rw [fldsL_end hc] at hf
        cases hf
        exact hsuf
      · cases hb : (fieldV x).2 with
        | false => rw [fldsL_bad hc hx hb] at hf; cases hf
        | true =>
          rw [fldsL_cons hc hx hb] at hf
          cases hq : fldsL r' with
          | short => rw [hq] at hf; cases hf
          | bad => rw [hq] at hf; cases hf
          | ok l2 r2 =>
            rw [hq] at hf
            simp only [FR.cons, FR.ok.injEq] at hf
            obtain ⟨_, rfl⟩ := hf
            exact (flds_suf n r' (by omega) l2 r2 hq).trans hsuf
theorem flds_end (L : List UInt8) (n : Nat) (p : List UInt8) (h : p.length < n) (l : List Fd) (r : List UInt8) (hf : fldsL p = .ok l r) (hs : p <:+ L) : r = L.drop (L.length - r.length) := suf_drop ((flds_suf n p h l r hf).trans hs)
theorem flds_count : ∀ (n : Nat) (p : List UInt8), p.length < n → ∀ l r, fldsL p = .ok l r → l.length ≤ p.length
  | 0, p, h => by omega
  | n + 1, p, h => fun l r hf => by
    cases hc : cutL p with
    | none => rw [fldsL_none hc] at hf; cases hf
    | some xr =>
      obtain ⟨x, r'⟩ := xr
      have hl := cut_lt hc
      by_cases hx : x = []
      · subst hx
        rw [fldsL_end hc] at hf
        cases hf
        exact Nat.zero_le _
      · cases hb : (fieldV x).2 with
        | false => rw [fldsL_bad hc hx hb] at hf; cases hf
        | true =>
          rw [fldsL_cons hc hx hb] at hf
          cases hq : fldsL r' with
          | short => rw [hq] at hf; cases hf
          | bad => rw [hq] at hf; cases hf
          | ok l2 r2 =>
            rw [hq] at hf
            have := flds_count n r' (by omega) l2 r2 hq
            simp only [FR.cons, FR.ok.injEq] at hf
            obtain ⟨rfl, _⟩ := hf
            simp only [List.length_cons]; omega
theorem rdj1 {n p q s ln : Nat} (hp : p ≤ n) (hq : q ≤ n - p) (h0 : 0 < q) (hn : n ≤ 1099511627776) (e : s = p + q) (e2 : ln = n - p) : ((0 : Int) < (q : Int)) = True ∧ RowKit.wrap64 ((n : Int) - (p : Int)) = (ln : Int) ∧ IntKind.i64.wrap ((n : Int) - (p : Int)) = (ln : Int) ∧ ((ln : Int) < (q : Int)) = False ∧
    RowKit.wrap64 ((p : Int) + (q : Int)) = (s : Int) ∧ IntKind.i64.wrap ((p : Int) + (q : Int)) = (s : Int) ∧ (0 : Int) ≤ (p : Int) ∧ (p : Int) ≤ (s : Int) ∧ (s : Int) ≤ (n : Int) := by
  rw [IntKind.wrap_i64, IntKind.wrap_i64]; unfold RowKit.wrap64
  exact ⟨eq_true (by omega), by omega, by omega, eq_false (by omega), by omega, by omega, by omega, by omega, by omega⟩
theorem rdj3 {n p q s r : Nat} (e : s = p + q) (hr : r = n - p) (hp : p ≤ n) (hq : q ≤ r) : p ≤ s ∧ s ≤ n ∧ s - p = q := by omega
theorem rdj2 {n p q r : Nat} (hr : r = n - p) (hp : p ≤ n) (hq : q ≤ r) : p + q = n - (r - q) := by omega
set_option maxRecDepth 100000 in
set_option maxHeartbeats 4000000 in
/-- the beginning of a request -/
theorem read_short (w : World) (L : List UInt8) (hn : L.length ≤ 1099511627776) (h : cutL L = none ∨ ∃ x r m t, cutL L = some (x, r) ∧ startV x = (m, t, true) ∧ fldsL r = .short) : Calls Tryd.prog 46 #[.string (strB L)] w (TupOf w (.tuple #[.agg wh0C.toArray, .int .i64 0])) := by
  obtain ⟨w2, hw2⟩ : ∃ w2, w2 = w.alloc (.cells #[.string ⟨#[]⟩, .string ⟨#[]⟩, .slice none 0 0, .slice none 0 0, .slice none 0 0, .int .i64 0] 58) := ⟨_, rfl⟩
  obtain ⟨g2, hg2⟩ : ∃ g2, g2 = w.heap.size := ⟨_, rfl⟩
  have HH2 : Hid (Has w2 g2 58 wh0C) := Lib.hid (by rw [hw2, hg2]; exact Has.new w 58 wh0C.toArray)
  have HB2 : Hid (Below w.heap.size w w2) := Lib.hid (by rw [hw2]; exact (Below.refl _ w).alloc (Nat.le_refl _) _)
  have HG2 : Hid (w.heap.size ≤ g2) := Lib.hid (by rw [hg2]; exact Nat.le_refl _)
  have hli := rline_any w2 L hn 0 (Nat.zero_le _)
  have HNl := Lib.hid hn
  rcases h with hc | ⟨x, r, m, t, hc, hs, hf⟩
  · rw [line_none (by rw [List.drop_zero]; exact hc)] at hli
    have HLi := Lib.hid hli
    clear hli hc hn
    go_enter Tryd.func46, Tryd.ntmps46
    go_upto_region 1 with fail
    rw [← hw2, ← hg2]
    clear hw2 hg2
    go_wp2_with fail
    refine HLi.out.mono ?_
    rintro e w3 ⟨rfl, rfl⟩
    have hth := HH2.out.there (n := 6) rfl
    have ho1 := whC_one ⟨#[]⟩ ⟨#[]⟩ none 0 0 none 0 0 none 0 0 0
    go_wp2_with (refine wpList_store_mid rfl 58 (.tmp 2) (.tmp 21) rfl g2 0 #[.string ⟨#[]⟩, .string ⟨#[]⟩, .slice none 0 0, .slice none 0 0, .slice none 0 0, .int .i64 0] rfl rfl hth infoWh ho1 ?_)
    refine bodyPost_ret (results_wh2 rfl _ rfl (HH2.out.store (vs := wh0C) rfl) rfl) rfl ?_
    exact ⟨rfl, HB2.out.trans ((Kept.sets g2 wh0C 0 w3).below HB2.out.size (fun k h => by rw [h]; exact HG2.out))⟩
  · obtain ⟨p1, hp1, hr, hlv, hpp, hpr, hxl⟩ := line_some (a := 0) (Nat.zero_le _) (by rw [List.drop_zero]; exact hc)
    rw [hlv] at hli
    have HLi := Lib.hid hli
    have HP1 := Lib.hid hp1
    rw [hr] at hf
    have HFs := Lib.hid hf
    have HSt := Lib.hid (fun w' => start_any w' x m t (Nat.le_trans hxl HNl.out) hs)
    have y1 : ((p1 : Int) < 0) = False := eq_false (by omega)
    have y2 : ((-1 : Int) < 0) = True := eq_true (by decide)
    clear hli hc hn hp1 hr hlv hpp hpr hxl hs hf
    go_enter Tryd.func46, Tryd.ntmps46
    go_upto_region 1 with fail
    rw [← hw2, ← hg2]
    clear hw2 hg2
    go_wp2_with fail
    refine HLi.out.mono ?_
    rintro e w3 ⟨rfl, rfl⟩
    obtain ⟨S1, hS1⟩ : ∃ S1, S1 = strB m := ⟨_, rfl⟩
    obtain ⟨S2, hS2⟩ : ∃ S2, S2 = strB t := ⟨_, rfl⟩
    rw [← hS1, ← hS2] at HSt
    clear hS1 hS2
    go_upto_region 5 with fail
    obtain ⟨w4, hw4⟩ : ∃ w4, w4 = w3.alloc (.cells #[.string ⟨#[]⟩, .string ⟨#[]⟩, .slice none 0 0, .slice none 0 0, .slice none 0 0, .int .i64 0] 58) := ⟨_, rfl⟩
    obtain ⟨g6, hg6⟩ : ∃ g6, g6 = w3.heap.size := ⟨_, rfl⟩
    have hb4 : Below w3.heap.size w3 w4 := by rw [hw4]; exact (Below.refl _ w3).alloc (Nat.le_refl _) _
    have HB4 : Hid (Below w.heap.size w w4) := Lib.hid (HB2.out.trans (hb4.mono HB2.out.size))
    have HH4 : Hid (Has w4 g2 58 wh0C) := Lib.hid (HH2.out.kept (Kept.of_below (X := none') hb4) (fun h => h))
    have HH6 : Hid (Has w4 g6 58 wh0C) := Lib.hid (by rw [hw4, hg6]; exact Has.new w3 58 wh0C.toArray)
    have HG26 : Hid (g2 ≠ g6) := Lib.hid (by rw [hg6]; exact Nat.ne_of_lt HH2.out.lt)
    have HG6 : Hid (w.heap.size ≤ g6) := Lib.hid (by rw [hg6]; exact HB2.out.size)
    have HSt4 := Lib.hid (HSt.out w4)
    rw [← hw4, ← hg6]
    clear hw4 hg6 hb4 HSt
    go_wp2_with fail
    refine HSt4.out.mono ?_
    rintro e w5 ⟨rfl, hb5⟩
    have HB5 : Hid (Below w.heap.size w w5) := Lib.hid (HB4.out.trans (hb5.mono HB4.out.size))
    have HH52 : Hid (Has w5 g2 58 wh0C) := Lib.hid (HH4.out.kept (Kept.of_below (X := none') hb5) (fun h => h))
    have HH56 : Hid (Has w5 g6 58 wh0C) := Lib.hid (HH6.out.kept (Kept.of_below (X := none') hb5) (fun h => h))
    clear hb5
    have z0 := HH56.out.cell 0 rfl
    have z1 := HH56.out.cell 1 rfl
    have f0 := HH56.out.free 0
    have f1 := HH56.out.free 1
    go_upto_region 7 with fail
    obtain ⟨w6, hw6⟩ : ∃ w6, w6 = (w5.setCell ⟨g6, 0, none⟩ (.string S1)).setCell ⟨g6, 1, none⟩ (.string S2) := ⟨_, rfl⟩
    have hk6 : Kept (fun k => k = g6) w5 w6 := by rw [hw6]; exact (Kept.set w5 g6 0 _).trans (Kept.set _ g6 1 _) (fun _ _ h => h)
    have HH62 : Hid (Has w6 g2 58 wh0C) := Lib.hid (HH52.out.kept hk6 (fun h => HG26.out h))
    have HH66 : Hid (Has w6 g6 58 (whC S1 S2 none 0 0 none 0 0 none 0 0 0)) := Lib.hid (by rw [hw6]; exact (HH56.out.set 0 _).set 1 _)
    have HB6 : Hid (Below w.heap.size w w6) := Lib.hid (HB5.out.trans (hk6.below HB5.out.size (fun k h => by rw [h]; exact HG6.out)))
    have HFl := Lib.hid (fields_any w6 L HNl.out p1 HP1.out (by rw [HFs.out]; simp))
    rw [HFs.out] at HFl
    rw [← hw6]
    clear hw6 hk6 z0 z1 f0 f1
    go_wp2_with fail
    refine HFl.out.mono ?_
    rintro e w7 ⟨rfl, hb7⟩
    have HB7 : Hid (Below w.heap.size w w7) := Lib.hid (HB6.out.trans (hb7.mono HB6.out.size))
    have HH72 : Hid (Has w7 g2 58 wh0C) := Lib.hid (HH62.out.kept (Kept.of_below (X := none') hb7) (fun h => h))
    have HH76 : Hid (Has w7 g6 58 (whC S1 S2 none 0 0 none 0 0 none 0 0 0)) := Lib.hid (HH66.out.kept (Kept.of_below (X := none') hb7) (fun h => h))
    clear hb7
    have z2 := HH76.out.cell 2 rfl
    have f2 := HH76.out.free 2
    go_upto_region 10 with fail
    obtain ⟨w8, hw8⟩ : ∃ w8, w8 = w7.setCell ⟨g6, 2, none⟩ (.slice none 0 0) := ⟨_, rfl⟩
    have hk8 : Kept (fun k => k = g6) w7 w8 := by rw [hw8]; exact Kept.set w7 g6 2 _
    have HH82 : Hid (Has w8 g2 58 wh0C) := Lib.hid (HH72.out.kept hk8 (fun h => HG26.out h))
    have HB8 : Hid (Below w.heap.size w w8) := Lib.hid (HB7.out.trans (hk8.below HB7.out.size (fun k h => by rw [h]; exact HG6.out)))
    rw [← hw8]
    clear hw8 hk8 z2 f2
    have hth := HH82.out.there (n := 6) rfl
    have ho1 := whC_one ⟨#[]⟩ ⟨#[]⟩ none 0 0 none 0 0 none 0 0 0
    go_wp2_with (refine wpList_store_mid rfl 58 (.tmp 2) (.tmp 43) rfl g2 0 #[.string ⟨#[]⟩, .string ⟨#[]⟩, .slice none 0 0, .slice none 0 0, .slice none 0 0, .int .i64 0] rfl rfl hth infoWh ho1 ?_)
    refine bodyPost_ret (results_wh2 rfl _ rfl (HH82.out.store (vs := wh0C) rfl) rfl) rfl ?_
    exact ⟨rfl, HB8.out.trans ((Kept.sets g2 wh0C 0 w8).below HB8.out.size (fun k h => by rw [h]; exact HG2.out))⟩
set_option maxRecDepth 100000 in
set_option maxHeartbeats 8000000 in
/-- a whole request -/
theorem read_whole (w : World) (L : List UInt8) (hn : L.length ≤ 1099511627776) {m t : List UInt8} {fs : List Fd} {b : List UInt8} {tr : List Fd} {R : List UInt8} (h : readV L = .ok m t fs b tr R) : Calls Tryd.prog 46 #[.string (strB L)] w (ReadP w L.length m t fs b tr R) := by
  obtain ⟨x, r1, r2, lenF, chF, hc, hs, hf, hhd, hbody⟩ := read_parts h
  obtain ⟨n, hl⟩ : ∃ n, n = L.length := ⟨_, rfl⟩
  have hsz : (strB L).size = n := by rw [strB_size, hl]
  rw [← hl]
  obtain ⟨w2, hw2⟩ : ∃ w2, w2 = w.alloc (.cells #[.string ⟨#[]⟩, .string ⟨#[]⟩, .slice none 0 0, .slice none 0 0, .slice none 0 0, .int .i64 0] 58) := ⟨_, rfl⟩
  obtain ⟨g2, hg2⟩ : ∃ g2, g2 = w.heap.size := ⟨_, rfl⟩
  have HH2 : Hid (Has w2 g2 58 wh0C) := Lib.hid (by rw [hw2, hg2]; exact Has.new w 58 wh0C.toArray)
  have HB2 : Hid (Below w.heap.size w w2) := Lib.hid (by rw [hw2]; exact (Below.refl _ w).alloc (Nat.le_refl _) _)
  have HG2 : Hid (w.heap.size ≤ g2) := Lib.hid (by rw [hg2]; exact Nat.le_refl _)
  have hli := rline_any w2 L hn 0 (Nat.zero_le _)
  obtain ⟨p1, hp1, hr, hlv, hpp, hpr, hxl⟩ := line_some (a := 0) (Nat.zero_le _) (by rw [List.drop_zero]; exact hc)
  rw [hlv] at hli
  have HLi := Lib.hid hli
  have HNl := Lib.hid hn
  have HL := Lib.hid hl
  have HP1 := Lib.hid hp1
  rw [hr] at hf
  have HFs := Lib.hid hf
  have hfl := flds_len (L.length + 1) (L.drop p1) (by rw [List.length_drop]; omega) _ _ hf
  rw [List.length_drop] at hfl
  obtain ⟨p2, hp2⟩ : ∃ p2, p2 = n - r2.length := ⟨_, rfl⟩
  have HR2 : Hid (r2 = L.drop p2) := Lib.hid (by
    rw [hp2, hl]
    exact flds_end _ (L.length + 1) (L.drop p1) (by rw [List.length_drop]; omega) _ _ hf ⟨L.take p1, List.take_append_drop _ _⟩)
  have HP2 : Hid (p2 ≤ n ∧ r2.length = n - p2) := Lib.hid (by omega)
  have HP2e := Lib.hid hp2
  have HSt := Lib.hid (fun w' => start_any w' x m t (Nat.le_trans hxl HNl.out) hs)
  have HHd := Lib.hid hhd
  have HBo := Lib.hid hbody
  have y1 : ((p1 : Int) < 0) = False := eq_false (by omega)
  have y2 : ((p2 : Int) < 0) = False := eq_false (by omega)
  obtain ⟨nf, hnf⟩ : ∃ nf, nf = fs.length := ⟨_, rfl⟩
  have HNf := Lib.hid hnf
  have HNf2 : Hid (nf ≤ 1099511627776) := Lib.hid (by rw [hnf]; exact Nat.le_trans (flds_count (L.length + 1) (L.drop p1) (by rw [List.length_drop]; omega) _ _ hf) (by rw [List.length_drop]; omega))
  clear hli hc hn hp1 hr hlv hpp hpr hxl hs hf hl hfl hp2 hhd hbody hnf h
  go_enter Tryd.func46, Tryd.ntmps46
  go_upto_region 1 with fail
  rw [← hw2, ← hg2]
  clear hw2 hg2
  go_wp2_with fail
  refine HLi.out.mono ?_
  rintro e w3 ⟨rfl, rfl⟩
  obtain ⟨S1, hS1⟩ : ∃ S1, S1 = strB m := ⟨_, rfl⟩
  obtain ⟨S2, hS2⟩ : ∃ S2, S2 = strB t := ⟨_, rfl⟩
  rw [← hS1, ← hS2] at HSt
  have HSs := Lib.hid (And.intro hS1 hS2)
  clear hS1 hS2
  go_upto_region 5 with fail
  obtain ⟨w4, hw4⟩ : ∃ w4, w4 = w3.alloc (.cells #[.string ⟨#[]⟩, .string ⟨#[]⟩, .slice none 0 0, .slice none 0 0, .slice none 0 0, .int .i64 0] 58) := ⟨_, rfl⟩
  obtain ⟨g6, hg6⟩ : ∃ g6, g6 = w3.heap.size := ⟨_, rfl⟩
  have hb4 : Below w3.heap.size w3 w4 := by rw [hw4]; exact (Below.refl _ w3).alloc (Nat.le_refl _) _
  have HB4 : Hid (Below w.heap.size w w4) := Lib.hid (HB2.out.trans (hb4.mono HB2.out.size))
  have HH4 : Hid (Has w4 g2 58 wh0C) := Lib.hid (HH2.out.kept (Kept.of_below (X := none') hb4) (fun h => h))
  have HH6 : Hid (Has w4 g6 58 wh0C) := Lib.hid (by rw [hw4, hg6]; exact Has.new w3 58 wh0C.toArray)
  have HG26 : Hid (g2 ≠ g6) := Lib.hid (by rw [hg6]; exact Nat.ne_of_lt HH2.out.lt)
  have HG6 : Hid (w.heap.size ≤ g6) := Lib.hid (by rw [hg6]; exact HB2.out.size)
  have HSt4 := Lib.hid (HSt.out w4)
  rw [← hw4, ← hg6]
  clear hw4 hg6 hb4 HSt
  go_wp2_with fail
  refine HSt4.out.mono ?_
  rintro e w5 ⟨rfl, hb5⟩
  have HB5 : Hid (Below w.heap.size w w5) := Lib.hid (HB4.out.trans (hb5.mono HB4.out.size))
  have HH52 : Hid (Has w5 g2 58 wh0C) := Lib.hid (HH4.out.kept (Kept.of_below (X := none') hb5) (fun h => h))
  have HH56 : Hid (Has w5 g6 58 wh0C) := Lib.hid (HH6.out.kept (Kept.of_below (X := none') hb5) (fun h => h))
  clear hb5
  have z0 := HH56.out.cell 0 rfl
  have z1 := HH56.out.cell 1 rfl
  have f0 := HH56.out.free 0
  have f1 := HH56.out.free 1
  go_upto_region 7 with fail
  obtain ⟨w6, hw6⟩ : ∃ w6, w6 = (w5.setCell ⟨g6, 0, none⟩ (.string S1)).setCell ⟨g6, 1, none⟩ (.string S2) := ⟨_, rfl⟩
  have hk6 : Kept (fun k => k = g6) w5 w6 := by rw [hw6]; exact (Kept.set w5 g6 0 _).trans (Kept.set _ g6 1 _) (fun _ _ h => h)
  have HH62 : Hid (Has w6 g2 58 wh0C) := Lib.hid (HH52.out.kept hk6 (fun h => HG26.out h))
  have HH66 : Hid (Has w6 g6 58 (whC S1 S2 none 0 0 none 0 0 none 0 0 0)) := Lib.hid (by rw [hw6]; exact (HH56.out.set 0 _).set 1 _)
  have HB6 : Hid (Below w.heap.size w w6) := Lib.hid (HB5.out.trans (hk6.below HB5.out.size (fun k h => by rw [h]; exact HG6.out)))
  have hfl := fields_any w6 L HNl.out p1 HP1.out (by rw [HFs.out]; simp)
  rw [HFs.out, ← HL.out] at hfl
  have HFl := Lib.hid hfl
  have HGs : Hid (g2 < w6.heap.size ∧ g6 < w6.heap.size) := Lib.hid ⟨HH62.out.lt, HH66.out.lt⟩
  rw [← hw6]
  clear hw6 hk6 z0 z1 f0 f1 hfl
  go_wp2_with fail
  refine HFl.out.mono ?_
  rintro e w7 ⟨a1, c1, he, hs7, hb7⟩
  obtain rfl : e = .returned (.tuple #[.slice a1 nf c1, .int .i64 (p2 : Int)]) := by rw [he, HNf.out, HP2e.out]
  have HB7 : Hid (Below w.heap.size w w7) := Lib.hid (HB6.out.trans (hb7.mono HB6.out.size))
  have HH72 : Hid (Has w7 g2 58 wh0C) := Lib.hid (HH62.out.kept (Kept.of_below (X := none') hb7) (fun h => h))
  have HH76 : Hid (Has w7 g6 58 (whC S1 S2 none 0 0 none 0 0 none 0 0 0)) := Lib.hid (HH66.out.kept (Kept.of_below (X := none') hb7) (fun h => h))
  have hs7s := hs7.sl
  rw [← HNf.out] at hs7s
  have HS7 : Hid (SlS w7 a1 nf c1 fs ∧ Up w6.heap.size a1) := Lib.hid ⟨hs7s, own_up hs7⟩
  have HG7 : Hid (w6.heap.size ≤ w7.heap.size) := Lib.hid hb7.size
  clear hb7 hs7 hs7s he
  have z2 := HH76.out.cell 2 rfl
  have f2 := HH76.out.free 2
  go_upto_region 10 with fail
  obtain ⟨w8, hw8⟩ : ∃ w8, w8 = w7.setCell ⟨g6, 2, none⟩ (.slice a1 nf c1) := ⟨_, rfl⟩
  have hk8 : Kept (fun k => k = g6) w7 w8 := by rw [hw8]; exact Kept.set w7 g6 2 _
  have HH82 : Hid (Has w8 g2 58 wh0C) := Lib.hid (HH72.out.kept hk8 (fun h => HG26.out h))
  have HH86 : Hid (Has w8 g6 58 (whC S1 S2 a1 nf c1 none 0 0 none 0 0 0)) := Lib.hid (by rw [hw8]; exact HH76.out.set 2 _)
  have HB8 : Hid (Below w.heap.size w w8) := Lib.hid (HB7.out.trans (hk8.below HB7.out.size (fun k h => by rw [h]; exact HG6.out)))
  obtain ⟨B6, hB6⟩ : ∃ B6, B6 = w6.heap.size := ⟨_, rfl⟩
  rw [← hB6] at HS7 HGs HG7
  have HGl := HGs
  have HS8 : Hid (SlS w8 a1 nf c1 fs ∧ Up B6 a1) := Lib.hid ⟨HS7.out.1.kept hk8 (fun ad h1 h2 => absurd (HS7.out.2 ad h1) (by have := HGl.out.2; omega)), HS7.out.2⟩
  have HG8 : Hid (B6 ≤ w8.heap.size) := Lib.hid (Nat.le_trans HG7.out hk8.size)
  have HFin : Hid (∀ a2 c2 a3 c3 n2 n3 at' {w'}, n2 = b.length → n3 = tr.length → at' = n - R.length → SlS w' a1 nf c1 fs → Sl w' a2 n2 c2 (bv b) → SlS w' a3 n3 c3 tr → Below w.heap.size w w' → ReadP w n m t fs b tr R (.returned (.tuple #[.agg (whC S1 S2 a1 nf c1 a2 n2 c2 a3 n3 c3 (at' : Int)).toArray, .int .i64 1])) w') := Lib.hid (by
    rintro a2 c2 a3 c3 n2 n3 at' w' rfl rfl rfl k1 k2 k3 k4
    rw [HSs.out.1, HSs.out.2]
    rw [HNf.out] at k1 ⊢
    exact ⟨a1, c1, a2, c2, a3, c3, rfl, k1, k2, k3, k4⟩)
  rw [← hw8]
  clear hw8 hk8 z2 f2 hB6 HLi HSt4 HFl HH2 HB2 HH4 HH6 HB4 HB5 HH52 HH56 HH62 HH66 HB6 HB7 HH72 HH76 HS7 HFs HP1
  go_wp2_with fail
  go_loopw [8, 9, 10, 11] (fun lv cv hv iv wr => ∃ (i hs : Nat) (len : Int) (ch : Bool), lv = .int .i64 len ∧ cv = .bool ch ∧ hv = .int .i64 (hs : Int) ∧ iv = .int .i64 (i : Int) ∧ i ≤ nf ∧ hs ≤ i ∧ Hid (headsV (fs.drop i) len ch hs = some (lenF, chF, 1)) ∧ Below w8.heap.size w8 wr) (fun _ _ _ v _ => nf - (intOf v).toNat)
  case atStart => exact ⟨0, 0, -1, false, rfl, rfl, rfl, rfl, Nat.zero_le _, Nat.le_refl _, Lib.hid HHd.out, Below.refl _ _⟩
  case round =>
    obtain ⟨i, hs, len, ch, rfl, rfl, rfl, rfl, hi, hsi, HHs, hbw⟩ := hrel
    have HBr := Lib.hid hbw
    have HHr6 : Hid (Has wr g6 58 (whC S1 S2 a1 nf c1 none 0 0 none 0 0 0)) := Lib.hid (HH86.out.kept (Kept.of_below (X := none') hbw) (fun h => h))
    have HSr : Hid (SlS wr a1 nf c1 fs ∧ Up B6 a1) := Lib.hid ⟨HS8.out.1.below hbw, HS8.out.2⟩
    have b2 := HHr6.out.cell 2 rfl
    have HSi := Lib.hid hsi
    clear hbw hsi
    by_cases hin : i < nf
    · have HI := Lib.hid hin
      obtain ⟨z1, z2, z3⟩ := ssj1 hin (Nat.le_trans HNf2.out (by decide))
      have hil : i < fs.length := by rw [← HNf.out]; exact hin
      obtain ⟨bb, o, rfl, hc⟩ := HSr.out.1.cells (Nat.lt_of_le_of_lt (Nat.zero_le _) hin)
      obtain ⟨p0, p1⟩ := hc i hil
      have hstep := HHs.out
      rw [List.drop_eq_getElem_cons hil] at hstep
      obtain ⟨f, hf⟩ : ∃ f, f = fs[i] := ⟨_, rfl⟩
      rw [← hf] at p0 p1 hstep
      obtain ⟨nm, va⟩ := f
      have HRl := Lib.hid (show hs + 1 ≤ i + 1 by have := HSi.out; omega)
      obtain ⟨s1, s2⟩ := (show RowKit.wrap64 ((hs : Int) + 1) = ((hs + 1 : Nat) : Int) ∧ IntKind.i64.wrap ((hs : Int) + 1) = ((hs + 1 : Nat) : Int) by
        have h1 := HNf2.out; have h2 := HSi.out; rw [IntKind.wrap_i64]; unfold RowKit.wrap64; omega)
      simp only at p0 p1
      clear hi hin hil hc hf HHs
      go_upto_region 17 with fail
      obtain ⟨w4, hw4⟩ : ∃ w4, w4 = wr.alloc (.cells #[.string nm, .string va] 64) := ⟨_, rfl⟩
      obtain ⟨g4, hg4⟩ : ∃ g4, g4 = wr.heap.size := ⟨_, rfl⟩
      have hh4 : Has w4 g4 64 [.string nm, .string va] := by rw [hw4, hg4]; exact Has.new wr 64 #[.string nm, .string va]
      have hb4 : Below wr.heap.size wr w4 := by rw [hw4]; exact (Below.refl _ wr).alloc (Nat.le_refl _) _
      have HB4 : Hid (Below w8.heap.size w8 w4) := Lib.hid (HBr.out.trans (hb4.mono HBr.out.size))
      have q0 : w4.cell? ⟨g4, 0, none⟩ = some (.string nm) := hh4.cell 0 rfl
      have q1 : w4.cell? ⟨g4, 1, none⟩ = some (.string va) := hh4.cell 1 rfl
      rw [← hw4, ← hg4]
      clear hw4 hg4 hh4 hb4 p0 p1 b2
      unfold headsV at hstep
      simp only at hstep
      by_cases k1 : bl nm = [104, 111, 115, 116]
      · obtain ⟨e1, e2⟩ := eqT2 (s := nm) k1
        obtain ⟨e3, e4⟩ := eqF2 (s := nm) (l := [99, 111, 110, 116, 101, 110, 116, 45, 108, 101, 110, 103, 116, 104]) (by rw [k1]; decide)
        obtain ⟨e5, e6⟩ := eqF2 (s := nm) (l := [116, 114, 97, 110, 115, 102, 101, 114, 45, 101, 110, 99, 111, 100, 105, 110, 103]) (by rw [k1]; decide)
        rw [if_pos (show bl nm = hosN from k1)] at hstep
        have HE := Lib.hid hstep
        clear k1 hstep
        go_wp2_with fail
        go_roundw
        case rel => exact ⟨i + 1, hs + 1, len, ch, rfl, rfl, by first | rfl | (push_cast; rfl), by first | rfl | (push_cast; rfl), HI.out, HRl.out, HE, HB4.out⟩
        case measure => exact ssj3 HI.out
      · obtain ⟨e1, e2⟩ := eqF2 (s := nm) k1
        rw [if_neg (show ¬ bl nm = hosN from k1)] at hstep
        by_cases k2 : bl nm = [99, 111, 110, 116, 101, 110, 116, 45, 108, 101, 110, 103, 116, 104]
        · obtain ⟨e3, e4⟩ := eqT2 (s := nm) k2
          obtain ⟨e5, e6⟩ := eqF2 (s := nm) (l := [116, 114, 97, 110, 115, 102, 101, 114, 45, 101, 110, 99, 111, 100, 105, 110, 103]) (by rw [k2]; decide)
          rw [if_pos (show bl nm = lenN from k2)] at hstep
          split at hstep
          · cases hstep
          · rename_i hno
            rw [not_or] at hno
            have y3 : (lenL (bl va) < 0) = False := eq_false hno.1
            have y4 : ((0 : Int) ≤ len) = False := eq_false hno.2
            have hln := length_any w4 (bl va)
            rw [strB_bl] at hln
            obtain ⟨q, hq⟩ : ∃ q, q = lenL (bl va) := ⟨_, rfl⟩
            rw [← hq] at hln y3 hstep
            have HLn := Lib.hid hln
            have HE := Lib.hid hstep
            clear k1 k2 hstep hno hln hq
            go_wp2_with fail
            refine HLn.out.mono ?_
            rintro e w5 ⟨rfl, rfl⟩
            go_wp2_with fail
            go_roundw
            case rel => exact ⟨i + 1, hs, q, ch, rfl, rfl, rfl, by first | rfl | (push_cast; rfl), HI.out, Nat.le_succ_of_le HSi.out, HE, HB4.out⟩
            case measure => exact ssj3 HI.out
        · obtain ⟨e3, e4⟩ := eqF2 (s := nm) k2
          rw [if_neg (show ¬ bl nm = lenN from k2)] at hstep
          by_cases k3 : bl nm = [116, 114, 97, 110, 115, 102, 101, 114, 45, 101, 110, 99, 111, 100, 105, 110, 103]
          · obtain ⟨e5, e6⟩ := eqT2 (s := nm) k3
            rw [if_pos (show bl nm = traN from k3)] at hstep
            split at hstep
            · cases hstep
            · rename_i hno
              rw [not_or, Classical.not_not] at hno
              obtain ⟨v1, v2⟩ := eqT2 (s := va) (l := [99, 104, 117, 110, 107, 101, 100]) hno.1
              have v3 : (va.toList != [99, 104, 117, 110, 107, 101, 100]) = false := by rw [bne, v1]; rfl
              obtain rfl : ch = false := by simpa using hno.2
              have HE := Lib.hid hstep
              clear k1 k2 k3 hstep hno
              go_wp2_with fail
              go_roundw
              case rel => exact ⟨i + 1, hs, len, true, rfl, rfl, rfl, by first | rfl | (push_cast; rfl), HI.out, Nat.le_succ_of_le HSi.out, HE, HB4.out⟩
              case measure => exact ssj3 HI.out
          · obtain ⟨e5, e6⟩ := eqF2 (s := nm) k3
            rw [if_neg (show ¬ bl nm = traN from k3)] at hstep
            have HE := Lib.hid hstep
            clear k1 k2 k3 hstep
            go_wp2_with fail
            go_roundw
            case rel => exact ⟨i + 1, hs, len, ch, rfl, rfl, rfl, by first | rfl | (push_cast; rfl), HI.out, Nat.le_succ_of_le HSi.out, HE, HB4.out⟩
            case measure => exact ssj3 HI.out
    · have z1 := ssj2 hin
      have hend := HHs.out
      rw [List.drop_eq_nil_of_le (by rw [← HNf.out]; exact Nat.le_of_not_lt hin)] at hend
      simp only [headsV, Option.some.injEq, Prod.mk.injEq] at hend
      obtain ⟨rfl, rfl, rfl⟩ := hend
      have HHr2 : Hid (Has wr g2 58 wh0C) := Lib.hid (HH82.out.kept (Kept.of_below (X := none') HBr.out) (fun h => h))
      have HBw : Hid (Below w.heap.size w wr) := Lib.hid (HB8.out.trans (HBr.out.mono HB8.out.size))
      have HGr : Hid (B6 ≤ wr.heap.size) := Lib.hid (Nat.le_trans HG8.out HBr.out.size)
      have y5 : (((1 : Nat) : Int) != 1) = false := rfl
      have HBo2 := HBo
      clear hi hin HHs HSi
      cases ch with
      | true =>
        obtain ⟨hlen, hck⟩ := HBo.out.1 rfl
        have y6 : ((0 : Int) ≤ len) = False := eq_false (by omega)
        rw [HR2.out] at hck
        have hcl := chunks_len (L.length + 1) (L.drop p2) (by rw [List.length_drop]; omega) _ _ _ hck
        have HCk := Lib.hid (chunks_any wr L HNl.out p2 (by rw [← HL.out]; exact HP2.out.1) hck)
        rw [← HL.out] at HCk
        obtain ⟨p3, hp3⟩ : ∃ p3, p3 = n - R.length := ⟨_, rfl⟩
        have HP3 := Lib.hid hp3
        have y7 : ((p3 : Int) < 0) = False := eq_false (by omega)
        have e0 := HHr6.out.cell 0 rfl
        have x3 := HHr6.out.cell 3 rfl
        have x4 := HHr6.out.cell 4 rfl
        have fr3 := HHr6.out.free 3
        have fr4 := HHr6.out.free 4
        clear hlen hck hcl hp3 HBo HBo2 e0 x3 x4 fr3 fr4
        go_wp2_with fail
        refine HCk.out.mono ?_
        rintro e w10 ⟨a2, c2, a3, c3, he, hs10, ht10, hb10⟩
        obtain ⟨n2, hn2⟩ : ∃ n2, n2 = b.length := ⟨_, rfl⟩
        obtain ⟨n3, hn3⟩ : ∃ n3, n3 = tr.length := ⟨_, rfl⟩
        obtain rfl : e = .returned (.tuple #[.slice a2 n2 c2, .slice a3 n3 c3, .int .i64 (p3 : Int)]) := by rw [he, hn2, hn3, HP3.out]
        rw [← hn2] at hs10
        have ht10s := ht10.sl
        rw [← hn3] at ht10s
        have HS10a : Hid (SlS w10 a1 nf c1 fs ∧ Up B6 a1) := Lib.hid ⟨HSr.out.1.below hb10, HSr.out.2⟩
        have HS10b : Hid (Sl w10 a2 n2 c2 (bv b) ∧ Up B6 a2) := Lib.hid ⟨own_sl hs10, fun ad h => Nat.le_trans HGr.out (own_up hs10 ad h)⟩
        have HS10c : Hid (SlS w10 a3 n3 c3 tr ∧ Up B6 a3) := Lib.hid ⟨ht10s, fun ad h => Nat.le_trans HGr.out (own_up ht10 ad h)⟩
        have HB10 : Hid (Below w.heap.size w w10) := Lib.hid (HBw.out.trans (hb10.mono HBw.out.size))
        have HH102 : Hid (Has w10 g2 58 wh0C) := Lib.hid (HHr2.out.kept (Kept.of_below (X := none') hb10) (fun h => h))
        have HH106 : Hid (Has w10 g6 58 (whC S1 S2 a1 nf c1 none 0 0 none 0 0 0)) := Lib.hid (HHr6.out.kept (Kept.of_below (X := none') hb10) (fun h => h))
        have x3 := HH106.out.cell 3 rfl
        have x4 := HH106.out.cell 4 rfl
        have fr3 := HH106.out.free 3
        have fr4 := HH106.out.free 4
        clear hs10 ht10 ht10s hb10 he hn2 hn3 b2
        go_upto_region 32 with fail
        obtain ⟨w11, hw11⟩ : ∃ w11, w11 = (w10.setCell ⟨g6, 3, none⟩ (.slice a2 n2 c2)).setCell ⟨g6, 4, none⟩ (.slice a3 n3 c3) := ⟨_, rfl⟩
        have hk11 : Kept (fun k => k = g6) w10 w11 := by rw [hw11]; exact (Kept.set w10 g6 3 _).trans (Kept.set _ g6 4 _) (fun _ _ h => h)
        have HH112 : Hid (Has w11 g2 58 wh0C) := Lib.hid (HH102.out.kept hk11 (fun h => HG26.out h))
        have HH116 : Hid (Has w11 g6 58 (whC S1 S2 a1 nf c1 a2 n2 c2 a3 n3 c3 0)) := Lib.hid (by rw [hw11]; exact (HH106.out.set 3 _).set 4 _)
        have HB11 : Hid (Below w.heap.size w w11) := Lib.hid (HB10.out.trans (hk11.below HB10.out.size (fun k h => by rw [h]; exact HG6.out)))
        have HS11a : Hid (SlS w11 a1 nf c1 fs ∧ Up B6 a1) := Lib.hid ⟨HS10a.out.1.kept hk11 (fun ad h1 h2 => absurd (HS10a.out.2 ad h1) (by have := HGl.out.2; omega)), HS10a.out.2⟩
        have HS11b : Hid (Sl w11 a2 n2 c2 (bv b) ∧ Up B6 a2) := Lib.hid ⟨HS10b.out.1.kept hk11 (fun ad h1 h2 => absurd (HS10b.out.2 ad h1) (by have := HGl.out.2; omega)), HS10b.out.2⟩
        have HS11c : Hid (SlS w11 a3 n3 c3 tr ∧ Up B6 a3) := Lib.hid ⟨HS10c.out.1.kept hk11 (fun ad h1 h2 => absurd (HS10c.out.2 ad h1) (by have := HGl.out.2; omega)), HS10c.out.2⟩
        have x5 := HH116.out.cell 5 rfl
        have fr5 := HH116.out.free 5
        rw [← hw11]
        clear hw11 hk11 x3 x4 fr3 fr4
        go_upto_region 40 with fail
        obtain ⟨w9, hw9⟩ : ∃ w9, w9 = w11.setCell ⟨g6, 5, none⟩ (.int .i64 (p3 : Int)) := ⟨_, rfl⟩
        have hk9 : Kept (fun k => k = g6) w11 w9 := by rw [hw9]; exact Kept.set w11 g6 5 _
        have hh6 : Has w9 g6 58 (whC S1 S2 a1 nf c1 a2 n2 c2 a3 n3 c3 (p3 : Int)) := by rw [hw9]; exact HH116.out.set 5 _
        have hh2 : Has w9 g2 58 wh0C := HH112.out.kept hk9 (fun h => HG26.out h)
        have HB9 : Hid (Below w.heap.size w w9) := Lib.hid (HB11.out.trans (hk9.below HB11.out.size (fun k h => by rw [h]; exact HG6.out)))
        have HS9a : Hid (SlS w9 a1 nf c1 fs) := Lib.hid (HS11a.out.1.kept hk9 (fun ad h1 h2 => absurd (HS11a.out.2 ad h1) (by have := HGl.out.2; omega)))
        have HS9b : Hid (Sl w9 a2 n2 c2 (bv b)) := Lib.hid (HS11b.out.1.kept hk9 (fun ad h1 h2 => absurd (HS11b.out.2 ad h1) (by have := HGl.out.2; omega)))
        have HS9c : Hid (SlS w9 a3 n3 c3 tr) := Lib.hid (HS11c.out.1.kept hk9 (fun ad h1 h2 => absurd (HS11c.out.2 ad h1) (by have := HGl.out.2; omega)))
        have d0 := hh6.cell 0 rfl
        have d1 := hh6.cell 1 rfl
        have d2 := hh6.cell 2 rfl
        have d3 := hh6.cell 3 rfl
        have d4 := hh6.cell 4 rfl
        have d5 := hh6.cell 5 rfl
        have hth := hh2.there (n := 6) rfl
        have ho1 := whC_one S1 S2 a1 nf c1 a2 n2 c2 a3 n3 c3 (p3 : Int)
        have hst : Has (w9.setCells g2 0 (whC S1 S2 a1 nf c1 a2 n2 c2 a3 n3 c3 (p3 : Int))) g2 58 (whC S1 S2 a1 nf c1 a2 n2 c2 a3 n3 c3 (p3 : Int)) := hh2.store rfl
        have hkst := Kept.sets g2 (whC S1 S2 a1 nf c1 a2 n2 c2 a3 n3 c3 (p3 : Int)) 0 w9
        rw [← hw9]
        clear hw9 hk9 hh6 hh2
        go_wp2_with (refine wpList_store_mid rfl 58 (.tmp 2) (.tmp 134) rfl g2 0 #[.string S1, .string S2, .slice a1 nf c1, .slice a2 n2 c2, .slice a3 n3 c3, .int .i64 (p3 : Int)] rfl rfl hth infoWh ho1 ?_)
        refine bodyPost_ret (results_wh2 rfl _ rfl hst rfl) rfl ?_
        refine HFin.out a2 c2 a3 c3 n2 n3 p3 HS9b.out.byte.symm HS9c.out.len.symm (by exact HP3.out) ?_ ?_ ?_ ?_
        · exact HS9a.out.kept hkst (fun ad h1 h2 => absurd (HS11a.out.2 ad h1) (by have := HGl.out.1; omega))
        · exact HS9b.out.kept hkst (fun ad h1 h2 => absurd (HS11b.out.2 ad h1) (by have := HGl.out.1; omega))
        · exact HS9c.out.kept hkst (fun ad h1 h2 => absurd (HS11c.out.2 ad h1) (by have := HGl.out.1; omega))
        · exact HB9.out.trans (hkst.below HB9.out.size (fun k h => by rw [h]; exact HG2.out))
      | false =>
        have hbo := HBo.out.2 rfl
        have x5 := HHr6.out.cell 5 rfl
        have fr5 := HHr6.out.free 5
        by_cases hlen : 0 < len
        · rw [if_pos hlen] at hbo
          obtain ⟨hle, hb, htr, hR⟩ := hbo
          obtain ⟨q, hq⟩ : ∃ q : Nat, len = (q : Int) := ⟨len.toNat, by omega⟩
          subst hq
          rw [Int.toNat_natCast] at hle hb hR
          obtain ⟨pq, hpq⟩ : ∃ pq, pq = p2 + q := ⟨_, rfl⟩
          obtain ⟨ln, hln⟩ : ∃ ln, ln = n - p2 := ⟨_, rfl⟩
          obtain ⟨i1, i2, i3⟩ := rdj3 hpq HP2.out.2 HP2.out.1 hle
          have ex := strB_cut L p2 pq i1 (by rw [← HL.out]; exact i2)
          have eb : (L.drop p2).take (pq - p2) = b := by rw [hb, HR2.out, i3]
          rw [eb] at ex
          have hbl : b.length = q := by rw [hb, List.length_take]; omega
          obtain ⟨cb, w10, hcv, hbt, hbc, hb10⟩ := conv_bts2 wr b (by rw [hbl]; have h1 := HP2.out; have h2 := HNl.out; rw [← HL.out] at h2; unfold maxLen; omega)
          rw [hbl] at hcv hbc
          have HR : Hid (pq = n - R.length) := Lib.hid (by rw [hpq, hR, List.length_drop]; exact rdj2 HP2.out.2 HP2.out.1 hle)
          have h0 : (0 < q) = True := eq_true (by omega)
          obtain ⟨h1, h2, h3, h4, h5, h6, h7, h8, h9⟩ := rdj1 (n := n) HP2.out.1 (by rw [← HP2.out.2]; exact hle) (by omega) (by rw [HL.out]; exact HNl.out) hpq hln
          obtain ⟨gb, hgb⟩ : ∃ gb, gb = wr.heap.size := ⟨_, rfl⟩
          rw [← hgb] at hcv hbt
          have HS10a : Hid (SlS w10 a1 nf c1 fs ∧ Up B6 a1) := Lib.hid ⟨HSr.out.1.below hb10, HSr.out.2⟩
          have hs10b := bts_sl hbt cb (by rw [hbl]; exact hbc.1) hbc.2
          rw [hbl] at hs10b
          have HS10b : Hid (Sl w10 (some ⟨gb, 0, none⟩) q cb (bv b) ∧ Up B6 (some ⟨gb, 0, none⟩)) := Lib.hid ⟨hs10b, fun ad h => by cases h; rw [hgb]; exact HGr.out⟩
          have HB10 : Hid (Below w.heap.size w w10) := Lib.hid (HBw.out.trans (hb10.mono HBw.out.size))
          have HH102 : Hid (Has w10 g2 58 wh0C) := Lib.hid (HHr2.out.kept (Kept.of_below (X := none') hb10) (fun h => h))
          have HH106 : Hid (Has w10 g6 58 (whC S1 S2 a1 nf c1 none 0 0 none 0 0 0)) := Lib.hid (HHr6.out.kept (Kept.of_below (X := none') hb10) (fun h => h))
          have x3 := HH106.out.cell 3 rfl
          have fr3 := HH106.out.free 3
          subst htr
          clear i1 i2 i3 hpq hln hle hb hR hlen eb hbl hbt hbc hb10 hgb hs10b HBo HBo2 x5 fr5
          go_upto_region 38 with fail
          obtain ⟨w11, hw11⟩ : ∃ w11, w11 = w10.setCell ⟨g6, 3, none⟩ (.slice (some ⟨gb, 0, none⟩) q cb) := ⟨_, rfl⟩
          have hk11 : Kept (fun k => k = g6) w10 w11 := by rw [hw11]; exact Kept.set w10 g6 3 _
          have HH112 : Hid (Has w11 g2 58 wh0C) := Lib.hid (HH102.out.kept hk11 (fun h => HG26.out h))
          have HH116 : Hid (Has w11 g6 58 (whC S1 S2 a1 nf c1 (some ⟨gb, 0, none⟩) q cb none 0 0 0)) := Lib.hid (by rw [hw11]; exact HH106.out.set 3 _)
          have HB11 : Hid (Below w.heap.size w w11) := Lib.hid (HB10.out.trans (hk11.below HB10.out.size (fun k h => by rw [h]; exact HG6.out)))
          have HS11a : Hid (SlS w11 a1 nf c1 fs ∧ Up B6 a1) := Lib.hid ⟨HS10a.out.1.kept hk11 (fun ad h1 h2 => absurd (HS10a.out.2 ad h1) (by have := HGl.out.2; omega)), HS10a.out.2⟩
          have HS11b : Hid (Sl w11 (some ⟨gb, 0, none⟩) q cb (bv b) ∧ Up B6 (some ⟨gb, 0, none⟩)) := Lib.hid ⟨HS10b.out.1.kept hk11 (fun ad h1 h2 => absurd (HS10b.out.2 ad h1) (by have := HGl.out.2; omega)), HS10b.out.2⟩
          have HS11c : Hid (SlS w11 none 0 0 [] ∧ Up B6 none) := Lib.hid ⟨SlS.nil w11, fun ad h => by cases h⟩
          have x5 := HH116.out.cell 5 rfl
          have fr5 := HH116.out.free 5
          rw [← hw11]
          clear hw11 hk11 x3 fr3 hcv b2
          go_upto_region 40 with fail
          obtain ⟨w9, hw9⟩ : ∃ w9, w9 = w11.setCell ⟨g6, 5, none⟩ (.int .i64 (pq : Int)) := ⟨_, rfl⟩
          have hk9 : Kept (fun k => k = g6) w11 w9 := by rw [hw9]; exact Kept.set w11 g6 5 _
          have hh6 : Has w9 g6 58 (whC S1 S2 a1 nf c1 (some ⟨gb, 0, none⟩) q cb none 0 0 (pq : Int)) := by rw [hw9]; exact HH116.out.set 5 _
          have hh2 : Has w9 g2 58 wh0C := HH112.out.kept hk9 (fun h => HG26.out h)
          have HB9 : Hid (Below w.heap.size w w9) := Lib.hid (HB11.out.trans (hk9.below HB11.out.size (fun k h => by rw [h]; exact HG6.out)))
          have HS9a : Hid (SlS w9 a1 nf c1 fs) := Lib.hid (HS11a.out.1.kept hk9 (fun ad h1 h2 => absurd (HS11a.out.2 ad h1) (by have := HGl.out.2; omega)))
          have HS9b : Hid (Sl w9 (some ⟨gb, 0, none⟩) q cb (bv b)) := Lib.hid (HS11b.out.1.kept hk9 (fun ad h1 h2 => absurd (HS11b.out.2 ad h1) (by have := HGl.out.2; omega)))
          have HS9c : Hid (SlS w9 none 0 0 []) := Lib.hid (HS11c.out.1.kept hk9 (fun ad h1 h2 => absurd (HS11c.out.2 ad h1) (by have := HGl.out.2; omega)))
          have d0 := hh6.cell 0 rfl
          have d1 := hh6.cell 1 rfl
          have d2 := hh6.cell 2 rfl
          have d3 := hh6.cell 3 rfl
          have d4 := hh6.cell 4 rfl
          have d5 := hh6.cell 5 rfl
          have hth := hh2.there (n := 6) rfl
          have ho1 := whC_one S1 S2 a1 nf c1 (some ⟨gb, 0, none⟩) q cb none 0 0 (pq : Int)
          have hst : Has (w9.setCells g2 0 (whC S1 S2 a1 nf c1 (some ⟨gb, 0, none⟩) q cb none 0 0 (pq : Int))) g2 58 (whC S1 S2 a1 nf c1 (some ⟨gb, 0, none⟩) q cb none 0 0 (pq : Int)) := hh2.store rfl
          have hkst := Kept.sets g2 (whC S1 S2 a1 nf c1 (some ⟨gb, 0, none⟩) q cb none 0 0 (pq : Int)) 0 w9
          rw [← hw9]
          clear hw9 hk9 hh6 hh2
          go_wp2_with (refine wpList_store_mid rfl 58 (.tmp 2) (.tmp 134) rfl g2 0 #[.string S1, .string S2, .slice a1 nf c1, .slice (some ⟨gb, 0, none⟩) q cb, .slice none 0 0, .int .i64 (pq : Int)] rfl rfl hth infoWh ho1 ?_)
          refine bodyPost_ret (results_wh2 rfl _ rfl hst rfl) rfl ?_
          refine HFin.out (some ⟨gb, 0, none⟩) cb none 0 q 0 pq HS9b.out.byte.symm HS9c.out.len.symm (by exact HR.out) ?_ ?_ ?_ ?_
          · exact HS9a.out.kept hkst (fun ad h1 h2 => absurd (HS11a.out.2 ad h1) (by have := HGl.out.1; omega))
          · exact HS9b.out.kept hkst (fun ad h1 h2 => absurd (HS11b.out.2 ad h1) (by have := HGl.out.1; omega))
          · exact HS9c.out.kept hkst (fun ad h1 h2 => absurd (HS11c.out.2 ad h1) (by have := HGl.out.1; omega))
          · exact HB9.out.trans (hkst.below HB9.out.size (fun k h => by rw [h]; exact HG2.out))
        · rw [if_neg hlen] at hbo
          obtain ⟨hb, htr, hR⟩ := hbo
          subst hb htr hR
          have y6 : ((0 : Int) < len) = False := eq_false hlen
          have HS11b : Hid (Sl wr none 0 0 (bv []) ∧ Up B6 none) := Lib.hid ⟨Sl.empty wr, fun ad h => by cases h⟩
          have HS11c : Hid (SlS wr none 0 0 [] ∧ Up B6 none) := Lib.hid ⟨SlS.nil wr, fun ad h => by cases h⟩
          clear hlen HBo HBo2
          go_upto_region 40 with fail
          obtain ⟨w9, hw9⟩ : ∃ w9, w9 = wr.setCell ⟨g6, 5, none⟩ (.int .i64 (p2 : Int)) := ⟨_, rfl⟩
          have hk9 : Kept (fun k => k = g6) wr w9 := by rw [hw9]; exact Kept.set wr g6 5 _
          have hh6 : Has w9 g6 58 (whC S1 S2 a1 nf c1 none 0 0 none 0 0 (p2 : Int)) := by rw [hw9]; exact HHr6.out.set 5 _
          have hh2 : Has w9 g2 58 wh0C := HHr2.out.kept hk9 (fun h => HG26.out h)
          have HB9 : Hid (Below w.heap.size w w9) := Lib.hid (HBw.out.trans (hk9.below HBw.out.size (fun k h => by rw [h]; exact HG6.out)))
          have HS9a : Hid (SlS w9 a1 nf c1 fs) := Lib.hid (HSr.out.1.kept hk9 (fun ad h1 h2 => absurd (HSr.out.2 ad h1) (by have := HGl.out.2; omega)))
          have HS9b : Hid (Sl w9 none 0 0 (bv [])) := Lib.hid (HS11b.out.1.kept hk9 (fun ad h1 h2 => absurd (HS11b.out.2 ad h1) (by have := HGl.out.2; omega)))
          have HS9c : Hid (SlS w9 none 0 0 []) := Lib.hid (HS11c.out.1.kept hk9 (fun ad h1 h2 => absurd (HS11c.out.2 ad h1) (by have := HGl.out.2; omega)))
          have d0 := hh6.cell 0 rfl
          have d1 := hh6.cell 1 rfl
          have d2 := hh6.cell 2 rfl
          have d3 := hh6.cell 3 rfl
          have d4 := hh6.cell 4 rfl
          have d5 := hh6.cell 5 rfl
          have hth := hh2.there (n := 6) rfl
          have ho1 := whC_one S1 S2 a1 nf c1 none 0 0 none 0 0 (p2 : Int)
          have hst : Has (w9.setCells g2 0 (whC S1 S2 a1 nf c1 none 0 0 none 0 0 (p2 : Int))) g2 58 (whC S1 S2 a1 nf c1 none 0 0 none 0 0 (p2 : Int)) := hh2.store rfl
          have hkst := Kept.sets g2 (whC S1 S2 a1 nf c1 none 0 0 none 0 0 (p2 : Int)) 0 w9
          rw [← hw9]
          clear hw9 hk9 hh6 hh2
          go_wp2_with (refine wpList_store_mid rfl 58 (.tmp 2) (.tmp 134) rfl g2 0 #[.string S1, .string S2, .slice a1 nf c1, .slice none 0 0, .slice none 0 0, .int .i64 (p2 : Int)] rfl rfl hth infoWh ho1 ?_)
          refine bodyPost_ret (results_wh2 rfl _ rfl hst rfl) rfl ?_
          refine HFin.out none 0 none 0 0 0 p2 HS9b.out.byte.symm HS9c.out.len.symm (by exact HP2e.out) ?_ ?_ ?_ ?_
          · exact HS9a.out.kept hkst (fun ad h1 h2 => absurd (HSr.out.2 ad h1) (by have := HGl.out.1; omega))
          · exact HS9b.out.kept hkst (fun ad h1 h2 => absurd (HS11b.out.2 ad h1) (by have := HGl.out.1; omega))
          · exact HS9c.out.kept hkst (fun ad h1 h2 => absurd (HS11c.out.2 ad h1) (by have := HGl.out.1; omega))
          · exact HB9.out.trans (hkst.below HB9.out.size (fun k h => by rw [h]; exact HG2.out))
end Go.Proofs.YtohinaohcndndaaDoor

namespace Go.Proofs.YtohinaohcndndaaDoor
open Go.RowKit

/-- one request appended to none -/
theorem app_wh {w : World} {tyo : TypeId} (cs : List Value) (hl : cs.length = 6) (h1 : ∀ u ∈ cs, u.oneCell' = true) :
    ∃ g' c' w', (Builtin.append_ #[42, 42] tyo #[.slice none 0 0, .slice (some ⟨w.heap.size, 0, none⟩) 1 1]).run Tryd.prog (w.alloc (.cells cs.toArray 58)) = .ok (.slice (some ⟨g', 0, none⟩) 1 c') w' ∧ w'.rangeAt g' 0 cs ∧ Below w.heap.size w w' := by
  have hi : (Tryd.prog.info? 58).map (fun i => (i.zero, i.size, i.bytes)) = some (some (.agg wh0C.toArray), 6, 112) := by kernel_rfl
  obtain ⟨i, hi, hz, h2, h3⟩ := info_parts hi
  have hal : Below w.heap.size w (w.alloc (.cells cs.toArray 58)) := (Below.refl _ w).alloc (Nat.le_refl _) _
  have hcell : ∀ j u, cs[j]? = some u → (w.alloc (.cells cs.toArray 58)).cell? ((⟨w.heap.size, 0, none⟩ : Addr).add j) = some u := by
    intro j u hu
    rw [addr_add, Nat.zero_add]
    exact (Has.new w 58 cs.toArray).cell j (by simpa using hu)
  obtain ⟨a', c', w', hr, ho, hg, hnew⟩ := run_app_s (P := Tryd.prog) Tryd.underlying42 hi hz h2 h3 rfl (by decide) (tyo := tyo) (World.ownsRow_nil (w.alloc (.cells cs.toArray 58)) w.heap.size 58 6) (by rw [hl]) hcell h1 (n2 := 1) (c2 := 1) (by decide) (by decide) (by decide) hal.size
  rcases ho.2 with ⟨hv, _⟩ | ⟨g, cap, cur, hv, hB, hgg, _⟩
  · simp at hv
  · simp only [Value.slice.injEq, true_and] at hv
    obtain ⟨rfl, rfl⟩ := hv
    refine ⟨g, c', w', hr, fun j v hv => ?_, hal.grown hg hal.size (fun k hk => by cases hk)⟩
    have h := ho.cells (g := g) rfl j v (by simpa using hv)
    rw [addr_add, Nat.zero_add] at h
    rw [Nat.zero_add]
    exact h
theorem whC_all (m t : ByteArray) (a1 : Option Addr) (n1 c1 : Nat) (a2 : Option Addr) (n2 c2 : Nat) (a3 : Option Addr) (n3 c3 : Nat) (k : Int) : ∀ u ∈ whC m t a1 n1 c1 a2 n2 c2 a3 n3 c3 k, u.oneCell' = true := by
  intro u hu
  simp only [whC, List.mem_cons, List.not_mem_nil, or_false] at hu
  rcases hu with rfl | rfl | rfl | rfl | rfl | rfl <;> rfl
/-- what Factor answers of one whole request -/
def FactP (w : World) (m t : List UInt8) (fs : List Fd) (b : List UInt8) (tr : List Fd) (e : Ending) (w' : World) : Prop :=
  ∃ g c a1 c1 a2 c2 a3 c3 k, e = .returned (.tuple #[.slice (some ⟨g, 0, none⟩) 1 c, .string ⟨#[]⟩, .bool true]) ∧ w'.rangeAt g 0 (whC (strB m) (strB t) a1 fs.length c1 a2 b.length c2 a3 tr.length c3 k) ∧ Sl w' a2 b.length c2 (bv b) ∧ SlS w' a3 tr.length c3 tr ∧ Below w.heap.size w w'
set_option maxRecDepth 100000 in
set_option maxHeartbeats 4000000 in
/-- the beginning of a request: nothing but itself is left -/
theorem factor_short (w : World) (L : List UInt8) (hn : L.length ≤ 1099511627776) (h0 : L ≠ []) (h : cutL L = none ∨ ∃ x r m t, cutL L = some (x, r) ∧ startV x = (m, t, true) ∧ fldsL r = .short) : Calls Tryd.prog 18 #[.string (strB L)] w (TupOf w (.tuple #[.slice none 0 0, .string (strB L), .bool true])) := by
  obtain ⟨S, hS⟩ : ∃ S, S = strB L := ⟨_, rfl⟩
  obtain ⟨e1, e2⟩ := eqF2 (s := S) (l := []) (by rw [hS, bl_strB']; exact h0)
  have e3 : (S.toList != []) = true := by rw [bne, e1]; rfl
  have hRd : ∀ w', Calls Tryd.prog 46 #[.string (strB L)] w' (TupOf w' (.tuple #[.agg #[.string ⟨#[]⟩, .string ⟨#[]⟩, .slice none 0 0, .slice none 0 0, .slice none 0 0, .int .i64 0], .int .i64 0])) := fun w' => read_short w' L hn h
  have HRd := Lib.hid hRd
  rw [← hS] at HRd ⊢
  clear hS h h0 hn hRd
  go_enter Tryd.func18, Tryd.ntmps18
  go_wp2_with fail
  go_loopw [0, 5] (fun sv ov wr => sv = .string S ∧ ov = .slice none 0 0 ∧ wr = w) (fun _ _ _ => 0)
  case atStart => exact ⟨rfl, rfl, rfl⟩
  case round =>
    obtain ⟨rfl, rfl, rfl⟩ := hrel
    have HRd2 := Lib.hid (HRd.out wr)
    go_wp2_with fail
    refine HRd2.out.mono ?_
    rintro e w3 ⟨rfl, hb3⟩
    have hB : Below wr.heap.size wr (w3.alloc (.cells #[.string ⟨#[]⟩, .string ⟨#[]⟩, .slice none 0 0, .slice none 0 0, .slice none 0 0, .int .i64 0] 58)) := hb3.alloc hb3.size _
    have HB := Lib.hid hB
    clear hb3 hB
    go_wp2
    go_ret3
    exact ⟨rfl, HB.out⟩
set_option maxRecDepth 100000 in
set_option maxHeartbeats 4000000 in
/-- one whole request -/
theorem factor_whole (w : World) (L : List UInt8) (hn : L.length ≤ 1099511627776) (h0 : L ≠ []) {m t : List UInt8} {fs : List Fd} {b : List UInt8} {tr : List Fd} (h : readV L = .ok m t fs b tr []) : Calls Tryd.prog 18 #[.string (strB L)] w (FactP w m t fs b tr) := by
  obtain ⟨S, hS⟩ : ∃ S, S = strB L := ⟨_, rfl⟩
  obtain ⟨n, hl⟩ : ∃ n, n = L.length := ⟨_, rfl⟩
  have hsz : S.size = n := by rw [hS, strB_size, hl]
  obtain ⟨e1, e2⟩ := eqF2 (s := S) (l := []) (by rw [hS, bl_strB']; exact h0)
  have e3 : (S.toList != []) = true := by rw [bne, e1]; rfl
  have ex : S.extract n n = ⟨#[]⟩ := by rw [hS, strB_from L n n hl, hl, List.drop_length]; rfl
  have HN : Hid (n ≤ 1099511627776) := Lib.hid (by rw [hl]; exact hn)
  have HPos : Hid (0 < n) := Lib.hid (by rw [hl]; exact List.length_pos_iff.2 h0)
  have hRd := fun w' => read_whole w' L hn h
  rw [← hS] at hRd
  rw [← hS]
  have HRd := Lib.hid hRd
  have HL := Lib.hid hl
  clear hS h h0 hn hl hRd
  go_enter Tryd.func18, Tryd.ntmps18
  go_wp2_with fail
  go_loopw [0, 5] (fun sv ov wr => (sv = .string S ∧ ov = .slice none 0 0 ∧ wr = w) ∨ (sv = .string ⟨#[]⟩ ∧ ∃ g c, ov = .slice (some ⟨g, 0, none⟩) 1 c ∧ FactP w m t fs b tr (.returned (.tuple #[ov, .string ⟨#[]⟩, .bool true])) wr)) (fun sv _ _ => szOf sv)
  case atStart => exact .inl ⟨rfl, rfl, rfl⟩
  case round =>
    rcases hrel with ⟨rfl, rfl, rfl⟩ | ⟨rfl, g, c, rfl, hP⟩
    · have HRd2 := Lib.hid (HRd.out wr)
      obtain ⟨y1, y2⟩ : ((0 : Int) ≤ (n : Int)) ∧ ((n : Int) ≤ (n : Int)) := by omega
      have y3 : ((1 : Int) < 0) = False := eq_false (by decide)
      clear HRd
      go_wp2_with fail
      refine HRd2.out.mono ?_
      rintro e w3 ⟨a1, c1, a2, c2, a3, c3, he, k1, k2, k3, hb3⟩
      obtain ⟨M, hM⟩ : ∃ M, M = strB m := ⟨_, rfl⟩
      obtain ⟨T, hT⟩ : ∃ T, T = strB t := ⟨_, rfl⟩
      obtain ⟨nf, hnf⟩ : ∃ nf, nf = fs.length := ⟨_, rfl⟩
      obtain ⟨nb, hnb⟩ : ∃ nb, nb = b.length := ⟨_, rfl⟩
      obtain ⟨nt, hnt⟩ : ∃ nt, nt = tr.length := ⟨_, rfl⟩
      have hkn : ((L.length - ([] : List UInt8).length : Nat) : Int) = (n : Int) := by rw [HL.out]; rfl
      rw [hkn, ← hM, ← hT, ← hnf, ← hnb, ← hnt] at he
      obtain rfl : e = .returned (.tuple #[.agg #[.string M, .string T, .slice a1 nf c1, .slice a2 nb c2, .slice a3 nt c3, .int .i64 (n : Int)], .int .i64 1]) := he
      have hal : Below w3.heap.size w3 (w3.alloc (.cells #[.string M, .string T, .slice a1 nf c1, .slice a2 nb c2, .slice a3 nt c3, .int .i64 (n : Int)] 58)) := (Below.refl _ _).alloc (Nat.le_refl _) _
      have HK2 := Lib.hid (k2.below hal)
      have HK3 := Lib.hid (k3.below hal)
      have HBa : Hid (Below wr.heap.size wr (w3.alloc (.cells #[.string M, .string T, .slice a1 nf c1, .slice a2 nb c2, .slice a3 nt c3, .int .i64 (n : Int)] 58))) := Lib.hid (hb3.trans (hal.mono hb3.size))
      have hh := Has.new w3 58 (whC M T a1 nf c1 a2 nb c2 a3 nt c3 (n : Int)).toArray
      obtain ⟨w5, hw5⟩ : ∃ w5, w5 = w3.alloc (.cells #[.string M, .string T, .slice a1 nf c1, .slice a2 nb c2, .slice a3 nt c3, .int .i64 (n : Int)] 58) := ⟨_, rfl⟩
      obtain ⟨g5, hg5⟩ : ∃ g5, g5 = w3.heap.size := ⟨_, rfl⟩
      have hh5 : Has w5 g5 58 (whC M T a1 nf c1 a2 nb c2 a3 nt c3 (n : Int)) := by rw [hw5, hg5]; exact hh
      rw [← hw5] at HK2 HK3 HBa
      have HFi := Lib.hid (And.intro hM (And.intro hT (And.intro hnf (And.intro hnb hnt))))
      clear k1 k2 k3 hb3 hal hh hM hT hnf hnb hnt hkn HRd2
      go_upto_region 4 with fail
      have d0 := hh5.cell 0 rfl
      have d1 := hh5.cell 1 rfl
      have d2 := hh5.cell 2 rfl
      have d3 := hh5.cell 3 rfl
      have d4 := hh5.cell 4 rfl
      have d5 := hh5.cell 5 rfl
      have HH5 := Lib.hid hh5
      rw [← hw5, ← hg5]
      clear hw5 hg5 hh5
      obtain ⟨g6, c6, w6, hr6, hra, hb6⟩ := app_wh (w := w5) (tyo := 42) (whC M T a1 nf c1 a2 nb c2 a3 nt c3 (n : Int)) rfl (whC_all _ _ _ _ _ _ _ _ _ _ _ _)
      have x5 : w6.cell? ⟨g5, 5, none⟩ = some (.int .i64 (n : Int)) := (HH5.out.kept (Kept.of_below (X := none') hb6) (fun h => h)).cell 5 rfl
      have HFact : Hid (FactP wr m t fs b tr (.returned (.tuple #[.slice (some ⟨g6, 0, none⟩) 1 c6, .string ⟨#[]⟩, .bool true])) w6) := Lib.hid (by
        have q := HFi.out
        refine ⟨g6, c6, a1, c1, a2, c2, a3, c3, (n : Int), rfl, ?_, ?_, ?_, HBa.out.trans (hb6.mono HBa.out.size)⟩
        · rw [← q.1, ← q.2.1, ← q.2.2.1, ← q.2.2.2.1, ← q.2.2.2.2]; exact hra
        · exact HK2.out.below hb6
        · exact HK3.out.below hb6)
      clear hra hb6
      go_wp2_with (at_builtin; refine Lib.wpList_append_run _ rfl _ _ _ _ rfl (.slice none 0 0) (.slice (some ⟨w5.heap.size, 0, none⟩) 1 1) rfl rfl _ _ hr6 ?_)
      clear hr6
      go_wp2_with fail
      go_roundw
      case rel => exact .inr ⟨rfl, g6, c6, rfl, HFact.out⟩
      case measure => show (0 : Nat) < S.size; rw [hsz]; exact HPos.out
    · have HP := Lib.hid hP
      have z1 : (ByteArray.toList ⟨#[]⟩ != []) = false := by rw [ByteArray.toList_eq]; rfl
      clear hP
      go_wp2
      go_ret3
      exact HP.out
end Go.Proofs.YtohinaohcndndaaDoor

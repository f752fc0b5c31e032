/- The law's good, lines and smalls. Premises: the sizes. -/
import Derived.Test.YtfffefhchjnfjaaGreatDoorHoSay
import Derived.Test.YtfffefhchjnfjaaGreatDoorHoTok
import Derived.Test.YtfffefhchjnfjaaGreatDoorFldOpen
namespace Go.Proofs.YtfffefhchjnfjaaGreatDoor
open Go.RowKit

theorem fdz_get : ∀ (fs : List Fd) (i : Nat) (h : i < fs.length), fs[i].nm.size + fs[i].va.size + 3 ≤ fdz fs
  | f :: r, 0, _ => by simp only [List.getElem_cons_zero, fdz]; omega
  | f :: r, i + 1, h => by
    have := fdz_get r i (by simpa using h)
    simp only [List.getElem_cons_succ, fdz]; omega
theorem gd_false {f : Fd} (h : tokenL (bl f.nm) = false ∨ valueL (bl f.va) = false ∨ smallL (bl f.nm) = lenN ∨ smallL (bl f.nm) = traN) : gdB f = false := by
  unfold gdB
  rcases h with h | h | h | h <;> simp [h]
theorem gd_true {f : Fd} (h1 : tokenL (bl f.nm) = true) (h2 : valueL (bl f.va) = true) (h3 : ¬ smallL (bl f.nm) = lenN) (h4 : ¬ smallL (bl f.nm) = traN) : gdB f = true := by
  unfold gdB
  simp [h1, h2, h3, h4]
set_option maxRecDepth 100000 in
theorem good_any (w : World) {a : Option Addr} {n c : Nat} {l : List Fd} (h : SlS w a n c l) (hz : fdz l ≤ 1048576) : Calls Tryz.prog 14 #[.slice a n c] w (BoolOf w (l.all gdB)) := by
  have hn := h.len
  obtain ⟨R, hR⟩ : ∃ R, R = l.all gdB := ⟨_, rfl⟩
  rw [← hR]
  have HR := Lib.hid hR
  have HS := Lib.hid h
  have HN := Lib.hid hn
  have HM : Hid (n ≤ 9223372036854775807) := Lib.hid (by have := fdz_len l; omega)
  have HZ := Lib.hid hz
  clear h hn hz hR
  go_enter Tryz.func14, Tryz.ntmps14
  go_wp2_with fail
  go_loopw [8] (fun v wr => ∃ i : Nat, v = .int .i64 (i : Int) ∧ i ≤ n ∧ (l.take i).all gdB = true ∧ Below w.heap.size w wr) (fun v _ => n - (intOf v).toNat)
  case atStart => exact ⟨0, rfl, Nat.zero_le _, rfl, Below.refl _ _⟩
  case round =>
    obtain ⟨i, rfl, hi, hall, hbw⟩ := hrel
    have HAl := Lib.hid hall
    have HBw := Lib.hid hbw
    clear hall hbw
    by_cases hin : i < n
    · have HI := Lib.hid hin
      obtain ⟨z1, z2, z3⟩ := ssj1 hin HM.out
      have hil : i < l.length := by rw [HN.out]; exact hin
      have hfz := fdz_get l i hil
      obtain ⟨b, o, rfl, hc⟩ := (HS.out.below HBw.out).cells (Nat.lt_of_le_of_lt (Nat.zero_le _) hin)
      obtain ⟨p0, p1⟩ := hc i hil
      obtain ⟨f, hf⟩ : ∃ f, f = l[i] := ⟨_, rfl⟩
      rw [← hf] at p0 p1 hfz
      obtain ⟨nl, hnl⟩ : ∃ nl, nl = bl f.nm := ⟨_, rfl⟩
      obtain ⟨vl, hvl⟩ : ∃ vl, vl = bl f.va := ⟨_, rfl⟩
      have e0 : f.nm = strB nl := by rw [hnl, strB_bl]
      have e1 : f.va = strB vl := by rw [hvl, strB_bl]
      have hns : nl.length ≤ 1048576 := by rw [hnl, ← bl_size]; have := HZ.out; omega
      have hvs : vl.length ≤ 1048576 := by rw [hvl, ← bl_size]; have := HZ.out; omega
      rw [e0] at p0
      rw [e1] at p1
      have HG : Hid ((tokenL nl = false ∨ valueL vl = false ∨ smallL nl = lenN ∨ smallL nl = traN → R = false) ∧ (tokenL nl = true → valueL vl = true → ¬ smallL nl = lenN → ¬ smallL nl = traN → (l.take (i + 1)).all gdB = true)) := Lib.hid (by
        constructor
        · intro h
          rw [hnl, hvl, hf] at h
          rw [HR.out, List.all_eq_false]
          exact ⟨l[i], List.getElem_mem _, by rw [gd_false h]; decide⟩
        · intro h1 h2 h3 h4
          rw [hnl, hf] at h1 h3 h4
          rw [hvl, hf] at h2
          rw [List.take_succ_eq_append_getElem hil, List.all_append, HAl.out]
          simp [gd_true h1 h2 h3 h4])
      obtain ⟨w2, hw2⟩ : ∃ w2, w2 = wr.alloc (.cells #[.string (strB nl), .string (strB vl)] 58) := ⟨_, rfl⟩
      obtain ⟨g, hg⟩ : ∃ g, g = wr.heap.size := ⟨_, rfl⟩
      have hh2 : Has w2 g 58 [.string (strB nl), .string (strB vl)] := by rw [hw2, hg]; exact Has.new wr 58 _
      have HB2 : Hid (Below w.heap.size w w2) := Lib.hid (by rw [hw2]; exact HBw.out.alloc HBw.out.size _)
      have HH2 := Lib.hid hh2
      have hsm := rsmall_any w2 (strB nl) (by rw [strB_size]; omega)
      rw [bl_strB'] at hsm
      have HSm := Lib.hid hsm
      have HTk : Hid (∀ w', Calls Tryz.prog 26 #[.string (strB nl)] w' (Ret w' (.bool (tokenL nl)))) := Lib.hid (fun w' => token_any w' nl (by omega))
      have HVl : Hid (∀ w', Calls Tryz.prog 27 #[.string (strB vl)] w' (Ret w' (.bool (valueL vl)))) := Lib.hid (fun w' => value_any w' vl (by omega))
      have q0 := hh2.cell 0 rfl
      have HQ := Lib.hid (hil)
      clear hi hin hil hfz hc hf hnl hvl e0 e1 hns hvs hh2 hsm
      go_upto_region 4 with fail
      rw [← hw2, ← hg]
      clear hw2 hg p0 p1
      go_wp2_with fail
      refine HSm.out.mono ?_
      rintro e w3 ⟨rfl, hb3⟩
      have hh3 : Has w3 g 58 [.string (strB nl), .string (strB vl)] := HH2.out.kept (Kept.of_below (X := none') hb3) (fun h => h)
      have HB3 : Hid (Below w.heap.size w w3) := Lib.hid (HB2.out.trans (hb3.mono HB2.out.size))
      have q0 := hh3.cell 0 rfl
      have q1 := hh3.cell 1 rfl
      have HTk3 := Lib.hid (HTk.out w3)
      have HVl3 := Lib.hid (HVl.out w3)
      clear hb3 hh3 HSm HH2 HB2
      by_cases hT : tokenL nl = true
      · rw [hT] at HTk3
        by_cases hV : valueL vl = true
        · rw [hV] at HVl3
          by_cases hL : smallL nl = lenN
          · have HF := Lib.hid (HG.out.1 (.inr (.inr (.inl hL))))
            obtain ⟨t1, t2⟩ := eqT2 (s := strB (smallL nl)) (l := lenN) (by rw [bl_strB']; exact hL)
            clear hT hV hL
            unfold lenN at t1 t2
            go_wp2_with fail
            refine HTk3.out.mono ?_
            rintro e w4 ⟨rfl, rfl⟩
            go_wp2_with fail
            refine HVl3.out.mono ?_
            rintro e w5 ⟨rfl, rfl⟩
            go_wp2
            go_ret
            rw [HF.out]
            exact ⟨rfl, HB3.out⟩
          · obtain ⟨t1, t2⟩ := eqF2 (s := strB (smallL nl)) (l := lenN) (by rw [bl_strB']; exact hL)
            by_cases hTr : smallL nl = traN
            · have HF := Lib.hid (HG.out.1 (.inr (.inr (.inr hTr))))
              obtain ⟨t3, t4⟩ := eqT2 (s := strB (smallL nl)) (l := traN) (by rw [bl_strB']; exact hTr)
              clear hT hV hL hTr
              unfold lenN at t1 t2
              unfold traN at t3 t4
              go_wp2_with fail
              refine HTk3.out.mono ?_
              rintro e w4 ⟨rfl, rfl⟩
              go_wp2_with fail
              refine HVl3.out.mono ?_
              rintro e w5 ⟨rfl, rfl⟩
              go_wp2
              go_ret
              rw [HF.out]
              exact ⟨rfl, HB3.out⟩
            · have HNx := Lib.hid (HG.out.2 hT hV hL hTr)
              obtain ⟨t3, t4⟩ := eqF2 (s := strB (smallL nl)) (l := traN) (by rw [bl_strB']; exact hTr)
              clear hT hV hL hTr
              unfold lenN at t1 t2
              unfold traN at t3 t4
              go_wp2_with fail
              refine HTk3.out.mono ?_
              rintro e w4 ⟨rfl, rfl⟩
              go_wp2_with fail
              refine HVl3.out.mono ?_
              rintro e w5 ⟨rfl, rfl⟩
              go_wp2_with fail
              go_roundw
              case rel => exact ⟨i + 1, by first | rfl | (push_cast; rfl), HI.out, HNx.out, HB3.out⟩
              case measure => exact ssj3 HI.out
        · have HF := Lib.hid (HG.out.1 (.inr (.inl (by simpa using hV))))
          have hV : valueL vl = false := by simpa using hV
          rw [hV] at HVl3
          clear hT hV
          go_wp2_with fail
          refine HTk3.out.mono ?_
          rintro e w4 ⟨rfl, rfl⟩
          go_wp2_with fail
          refine HVl3.out.mono ?_
          rintro e w5 ⟨rfl, rfl⟩
          go_wp2
          go_ret
          rw [HF.out]
          exact ⟨rfl, HB3.out⟩
      · have HF := Lib.hid (HG.out.1 (.inl (by simpa using hT)))
        have hT : tokenL nl = false := by simpa using hT
        rw [hT] at HTk3
        clear hT
        go_wp2_with fail
        refine HTk3.out.mono ?_
        rintro e w4 ⟨rfl, rfl⟩
        go_wp2
        go_ret
        rw [HF.out]
        exact ⟨rfl, HB3.out⟩
    · have hx := ssj2 hin
      have HF : Hid (R = true) := Lib.hid (by
        rw [HR.out, ← HAl.out, List.take_of_length_le (by rw [HN.out]; omega)])
      clear hin hi
      go_wp2
      go_ret
      rw [HF.out]
      exact ⟨rfl, HBw.out⟩

/-- lines -/
theorem lnE_len (l : List Fd) : (linesE (l.map fline)).length = fdz l := by
  induction l with
  | nil => rfl
  | cons f r ih =>
    rw [List.map_cons, linesE, fdz, ← ih, bl_size, bl_size]
    simp [fline]; omega
theorem lnE_take (l : List Fd) (i : Nat) (h : i < l.length) : linesE ((l.take (i + 1)).map fline) = linesE ((l.take i).map fline) ++ (fline l[i] ++ [13, 10]) := by
  rw [List.take_succ_eq_append_getElem h, List.map_append, linesE_app]
  rfl
theorem fdz_take (l : List Fd) (i : Nat) : fdz (l.take i) ≤ fdz l := by
  induction l generalizing i with
  | nil => simp
  | cons f r ih =>
    cases i with
    | zero => simp [fdz]
    | succ i => have := ih i; simp only [List.take_succ_cons, fdz]; omega
theorem lnj1 {s x y t : Nat} (h : s + (x + y + 3) ≤ t) (ht : t ≤ 1048576) : ¬ 9223372036854775807 < x + 1 ∧ ¬ 9223372036854775807 < x + 1 + y ∧ ¬ 9223372036854775807 < x + 1 + y + 2 ∧ ¬ 9223372036854775807 < s + (x + 1 + y + 2) := by omega
set_option maxRecDepth 100000 in
theorem lines_any (w : World) {a : Option Addr} {n c : Nat} {l : List Fd} (h : SlS w a n c l) (hz : fdz l ≤ 1048576) : Calls Tryz.prog 15 #[.slice a n c] w (StrOf w (linesE (l.map fline))) := by
  have hn := h.len
  obtain ⟨R, hR⟩ : ∃ R, R = linesE (l.map fline) := ⟨_, rfl⟩
  rw [← hR]
  have HR := Lib.hid hR
  have HS := Lib.hid h
  have HN := Lib.hid hn
  have HM : Hid (n ≤ 9223372036854775807) := Lib.hid (by have := fdz_len l; omega)
  have HZ := Lib.hid hz
  clear h hn hz hR
  go_enter Tryz.func15, Tryz.ntmps15
  go_wp2_with fail
  go_loopw [3, 8] (fun sv v wr => ∃ i : Nat, v = .int .i64 (i : Int) ∧ i ≤ n ∧ sv = .string (strB (linesE ((l.take i).map fline))) ∧ Below w.heap.size w wr) (fun _ v _ => n - (intOf v).toNat)
  case atStart => exact ⟨0, rfl, Nat.zero_le _, rfl, Below.refl _ _⟩
  case round =>
    obtain ⟨i, rfl, hi, rfl, hbw⟩ := hrel
    have HBw := Lib.hid hbw
    obtain ⟨sv, hsv⟩ : ∃ sv, sv = strB (linesE ((l.take i).map fline)) := ⟨_, rfl⟩
    obtain ⟨sn, hsn⟩ : ∃ sn, sn = fdz (l.take i) := ⟨_, rfl⟩
    have hsz : sv.size = sn := by rw [hsv, strB_size, lnE_len, hsn]
    rw [← hsv]
    have HSv := Lib.hid hsv
    have HSn := Lib.hid hsn
    clear hbw hsv hsn
    by_cases hin : i < n
    · have HI := Lib.hid hin
      obtain ⟨z1, z2, z3⟩ := ssj1 hin HM.out
      have hil : i < l.length := by rw [HN.out]; exact hin
      obtain ⟨b, o, rfl, hc⟩ := (HS.out.below HBw.out).cells (Nat.lt_of_le_of_lt (Nat.zero_le _) hin)
      obtain ⟨p0, p1⟩ := hc i hil
      obtain ⟨nm, hnm⟩ : ∃ nm, nm = l[i].nm := ⟨_, rfl⟩
      obtain ⟨va, hva⟩ : ∃ va, va = l[i].va := ⟨_, rfl⟩
      rw [← hnm] at p0
      rw [← hva] at p1
      have htk := lnE_take l i hil
      have hlen : fdz (l.take (i + 1)) = sn + (nm.size + va.size + 3) := by
        rw [← lnE_len, htk, List.length_append, lnE_len, HSn.out, hnm, hva, bl_size, bl_size]
        simp [fline]; omega
      obtain ⟨u1, u2, u3, u4⟩ := lnj1 (s := sn) (x := nm.size) (y := va.size) (t := fdz l) (by rw [← hlen]; exact fdz_take l (i + 1)) HZ.out
      have HNx : Hid (sv ++ (nm ++ strB [58] ++ va ++ strB [13, 10]) = strB (linesE ((l.take (i + 1)).map fline))) := Lib.hid (by
        rw [HSv.out, htk, hnm, hva, ← strB_bl l[i].nm, ← strB_bl l[i].va, strB_append, strB_append, strB_append, strB_append]
        congr 1
        simp [fline])
      obtain ⟨w2, hw2⟩ : ∃ w2, w2 = wr.alloc (.cells #[.string nm, .string va] 58) := ⟨_, rfl⟩
      obtain ⟨g, hg⟩ : ∃ g, g = wr.heap.size := ⟨_, rfl⟩
      have hh2 : Has w2 g 58 [.string nm, .string va] := by rw [hw2, hg]; exact Has.new wr 58 _
      have HB2 : Hid (Below w.heap.size w w2) := Lib.hid (by rw [hw2]; exact HBw.out.alloc HBw.out.size _)
      have q0 := hh2.cell 0 rfl
      have q1 := hh2.cell 1 rfl
      clear hi hin hil hc hnm hva htk hlen hh2
      go_upto_region 5 with fail
      rw [← hw2, ← hg]
      clear hw2 hg p0 p1
      go_wp2_with fail
      go_roundw
      case rel => exact ⟨i + 1, by first | rfl | (push_cast; rfl), HI.out, congrArg Value.string HNx.out, HB2.out⟩
      case measure => exact ssj3 HI.out
    · have hx := ssj2 hin
      have HF : Hid (sv = strB R) := Lib.hid (by
        rw [HSv.out, HR.out, List.take_of_length_le (by rw [HN.out]; omega)])
      clear hin hi
      go_wp2
      go_ret
      rw [HF.out]
      exact ⟨rfl, HBw.out⟩

/-- the first i small-named -/
def smI (i : Nat) (l : List Fd) : List Fd := (l.take i).map smF ++ l.drop i
theorem smI_len (i : Nat) (l : List Fd) : (smI i l).length = l.length := by unfold smI; rw [List.length_append, List.length_map, List.length_take, List.length_drop]; omega
theorem smI_zero (l : List Fd) : smI 0 l = l := by simp [smI]
theorem smI_all {i : Nat} {l : List Fd} (h : l.length ≤ i) : smI i l = l.map smF := by unfold smI; rw [List.take_of_length_le h, List.drop_eq_nil_of_le h, List.append_nil]
theorem smI_at (i : Nat) (l : List Fd) (h : i < l.length) : (smI i l)[i]'(by rw [smI_len]; exact h) = l[i] := by
  unfold smI
  rw [List.getElem_append_right (by rw [List.length_map, List.length_take]; omega)]
  simp only [List.length_map, List.length_take, Nat.min_eq_left (Nat.le_of_lt h), Nat.sub_self, List.getElem_drop, Nat.add_zero]
theorem smI_next (i : Nat) (l : List Fd) (h : i < l.length) : (smI i l).set i ⟨strB (smallL (bl l[i].nm)), l[i].va⟩ = smI (i + 1) l := by
  unfold smI
  rw [List.set_append_right _ _ (by rw [List.length_map, List.length_take]; omega), List.take_succ_eq_append_getElem h, List.map_append, List.drop_eq_getElem_cons h]
  simp only [List.length_map, List.length_take, Nat.min_eq_left (Nat.le_of_lt h), Nat.sub_self, List.set_cons_zero, List.append_assoc]
  rfl
theorem sv_set : ∀ (l : List Fd) (i : Nat) (h : i < l.length) (s : ByteArray), (sv l).set (i * 2) (.string s) = sv (l.set i ⟨s, l[i].va⟩)
  | p :: r, 0, _, s => rfl
  | p :: r, i + 1, h, s => by
    have ih := sv_set r i (by simpa using h) s
    have e : (i + 1) * 2 = (i * 2) + 1 + 1 := by omega
    simp only [sv, scells, List.cons_append, List.nil_append, List.set_cons_succ, e, List.getElem_cons_succ, ih]
theorem Sps.set {w : World} {B s c : Nat} {l : List Fd} (h : Sps w B (some ⟨s, 0, none⟩) c l) (i : Nat) (hi : i < l.length) (t : ByteArray) : Sps (w.setCell ⟨s, i * 2, none⟩ (.string t)) B (some ⟨s, 0, none⟩) c (l.set i ⟨t, l[i].va⟩) := by
  unfold Sps at h ⊢
  rw [← sv_set l i hi t, List.length_set]
  refine ⟨by have := h.1; simpa using this, ?_⟩
  rcases h.2 with ⟨hv, _⟩ | ⟨g, cap, cur, hv, hB, hg, hnc, hcm, hcs, ht⟩
  · simp at hv
  · simp only [Value.slice.injEq, true_and, Option.some.injEq, Addr.mk.injEq, and_true] at hv
    obtain ⟨rfl, rfl⟩ := hv
    refine .inr ⟨s, c, cur.setIfInBounds (i * 2) (.string t), rfl, hB, by simp [World.setCell, Array.getElem?_modify, hg], hnc, hcm, by simpa using hcs, ?_⟩
    rw [← ht]
    simp [List.take_set]
theorem Sps.open {w : World} {B : Nat} {a : Option Addr} {c : Nat} {l : List Fd} (h : Sps w B a c l) {i : Nat} (hi : i < l.length) : ∃ s, a = some ⟨s, 0, none⟩ ∧ B ≤ s ∧ w.cell? ⟨s, i * 2, none⟩ = some (.string l[i].nm) ∧ w.frozen? ⟨s, i * 2, none⟩ = false ∧ l.length ≤ c ∧ c ≤ maxLen := by
  obtain ⟨s, rfl, h1, _, h3, h4⟩ := own_sn h rfl hi
  refine ⟨s, rfl, ?_, h1, ?_, h3, h4⟩
  · exact (h.lt s rfl).1
  · rcases h.2 with ⟨hv, _⟩ | ⟨g, cap, cur, hv, hB, hg, hnc, hcm, hcs, ht⟩
    · simp at hv
    · simp only [Value.slice.injEq, true_and, Option.some.injEq, Addr.mk.injEq, and_true] at hv
      obtain ⟨rfl, rfl⟩ := hv
      simp [World.frozen?, hg]
set_option maxRecDepth 100000 in
theorem smalls_any (w : World) {a : Option Addr} {n c : Nat} {l : List Fd} (h : SlS w a n c l) (hz : fdz l ≤ 1048576) : Calls Tryz.prog 17 #[.slice a n c] w (CopyP w (l.map smF)) := by
  have hn := h.len
  have hm : n ≤ 1048576 := by have := fdz_len l; omega
  have HCp := Lib.hid (copys_any w h (by omega))
  have HN := Lib.hid hn
  have HM : Hid (n ≤ 9223372036854775807) := Lib.hid (by omega)
  have HZ := Lib.hid hz
  clear h hn hz hm
  go_enter Tryz.func17, Tryz.ntmps17
  go_wp2_with fail
  refine HCp.out.mono ?_
  rintro e w2 ⟨a2, c2, he, ho2, hb2⟩
  obtain rfl : e = .returned (.slice a2 n c2) := by rw [he, HN.out]
  have HO2 := Lib.hid ho2
  have HB2 := Lib.hid hb2
  clear ho2 hb2 he HCp
  go_wp2_with fail
  go_loopw [9] (fun v wr => ∃ i : Nat, v = .int .i64 (i : Int) ∧ i ≤ n ∧ Sps wr w.heap.size a2 c2 (smI i l) ∧ Below w.heap.size w wr) (fun v _ => n - (intOf v).toNat)
  case atStart => exact ⟨0, rfl, Nat.zero_le _, by rw [smI_zero]; exact HO2.out, HB2.out⟩
  case round =>
    obtain ⟨i, rfl, hi, ho, hbw⟩ := hrel
    have HBw := Lib.hid hbw
    have HO := Lib.hid ho
    clear hbw ho
    by_cases hin : i < n
    · have HI := Lib.hid hin
      obtain ⟨z1, z2, z3⟩ := ssj1 hin HM.out
      have hil : i < l.length := by rw [HN.out]; exact hin
      have hil2 : i < (smI i l).length := by rw [smI_len]; exact hil
      obtain ⟨s, rfl, hs, p0, f0, hnc, hcm⟩ := HO.out.open hil2
      rw [smI_at i l hil] at p0
      have hfz := fdz_get l i hil
      obtain ⟨nm, hnm⟩ : ∃ nm, nm = l[i].nm := ⟨_, rfl⟩
      rw [← hnm] at p0
      have HSm := Lib.hid (rsmall_any wr nm (by rw [hnm]; have := HZ.out; omega))
      obtain ⟨t, ht⟩ : ∃ t, t = strB (smallL (bl nm)) := ⟨_, rfl⟩
      have HNx : Hid (∀ w', Sps w' w.heap.size (some ⟨s, 0, none⟩) c2 (smI i l) → Sps (w'.setCell ⟨s, i * 2, none⟩ (.string t)) w.heap.size (some ⟨s, 0, none⟩) c2 (smI (i + 1) l)) := Lib.hid (fun w' h => by
        have h2 := h.set i hil2 t
        rw [smI_at i l hil, ht, hnm, smI_next i l hil] at h2
        rw [ht, hnm]
        exact h2)
      have HT : Hid (strB (smallL (bl nm)) = t) := Lib.hid ht.symm
      have HS := Lib.hid hs
      have HP := Lib.hid p0
      have HIl2 := Lib.hid hil2
      have HO' := Lib.hid HO.out
      clear hi hin hil hil2 hfz hnm ht hs hnc hcm f0
      go_wp2_with fail
      refine HSm.out.mono ?_
      rintro e w3 ⟨rfl, hb3⟩
      rw [HT.out]
      have HB3 : Hid (Below w.heap.size w w3) := Lib.hid (HBw.out.trans (hb3.mono HBw.out.size))
      have hok : Sps w3 w.heap.size (some ⟨s, 0, none⟩) c2 (smI i l) := own_kept HO'.out (Kept.of_below (X := none') hb3) (fun _ _ h => h)
      have HO3 := Lib.hid (HNx.out w3 hok)
      obtain ⟨s', hs', _, _, f0, _, _⟩ := hok.open HIl2.out
      have e0 : s' = s := by cases hs'; rfl
      rw [e0] at f0
      have p3 : w3.cell? ⟨s, i * 2, none⟩ = some (.string nm) := by rw [hb3.cell (World.block_lt_of_cell? _ _ HP.out)]; exact HP.out
      clear hs' e0 hok
      clear hb3 p0
      go_wp2_with fail
      go_roundw
      case rel => exact ⟨i + 1, by first | rfl | (push_cast; rfl), HI.out, HO3.out, HB3.out.setCell (p := ⟨s, i * 2, none⟩) HS.out _⟩
      case measure => exact ssj3 HI.out
    · have hx := ssj2 hin
      have HF : Hid (smI i l = l.map smF) := Lib.hid (smI_all (by rw [HN.out]; omega))
      clear hin hi
      go_wp2
      go_ret
      rw [HF.out] at HO
      exact ⟨a2, c2, by rw [List.length_map, HN.out]; rfl, HO.out, HBw.out⟩
end Go.Proofs.YtfffefhchjnfjaaGreatDoor

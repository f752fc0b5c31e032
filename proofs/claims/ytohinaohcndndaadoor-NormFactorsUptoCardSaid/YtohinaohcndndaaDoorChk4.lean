/- turnpikeref18.one: what is wrong with a field. Conditions: the sizes. Printed by gen_chk4.py. -/
import Derived.Test.YtohinaohcndndaaDoorChk3
namespace Go.Proofs.YtohinaohcndndaaDoor
open Go.RowKit

def clS : List UInt8 := [99, 111, 110, 116, 101, 110, 116, 45, 108, 101, 110, 103, 116, 104]
def pseS : List (List UInt8) := [[58, 109, 101, 116, 104, 111, 100], [58, 115, 99, 104, 101, 109, 101], [58, 97, 117, 116, 104, 111, 114, 105, 116, 121], [58, 112, 97, 116, 104]]
def nameL (l : List UInt8) : Bool := l.all nameC && (l.all tokC && !l.isEmpty)
def valueL (l : List UInt8) : Bool := l.all valC && valE l
def firstV (o : Option ByteArray) : List UInt8 := match o with | some v => bl v | none => []
def restF (fs : List Fd) (f : Fd) : Int := if valueL (bl f.va) = false then 181 else if hopL (bl f.nm) (bl f.va) = true then 184 else if bl f.nm = clS then (if lenL (bl f.va) < 0 ∨ lenL (bl f.va) ≠ lenL (firstV (findF fs clS)) then 186 else 0) else 0
def badF (f : Fd) (g : Fd) : Bool := !psL (bl g.nm) || decide (bl g.nm = bl f.nm)
def oneF (fs : List Fd) (i : Nat) (f : Fd) : Int := if psL (bl f.nm) = true then (if bl f.nm ∉ pseS then 182 else if (fs.take i).any (badF f) = true then 182 else restF fs f) else if nameL (bl f.nm) = false then 180 else restF fs f
theorem any_stop {p : Fd → Bool} {l : List Fd} {i k : Nat} (h : k < l.length) (hk : k < i) (hp : p l[k] = true) : (l.take i).any p = true := by
  rw [List.any_eq_true]
  exact ⟨l[k], List.mem_take_iff_getElem.2 ⟨k, by omega, rfl⟩, hp⟩
theorem any_on {p : Fd → Bool} {l : List Fd} {k : Nat} (h : k < l.length) (ha : (l.take k).any p = false) (hp : p l[k] = false) : (l.take (k + 1)).any p = false := by
  rw [List.take_succ_eq_append_getElem h, List.any_append, ha]
  simp [hp]
set_option maxRecDepth 100000 in
set_option maxHeartbeats 4000000 in
theorem one_any (w : World) {a : Option Addr} {n c : Nat} {fs : List Fd} (h : SlS w a n c fs) (hz : fdz fs ≤ 1048576) (i : Nat) (hi : i < fs.length) : Calls Tryd.prog 39 #[.slice a n c, .int .i64 (i : Int)] w (IntOf w (oneF fs i fs[i])) := by
  have HS := Lib.hid h
  have HL := Lib.hid h.len
  have HM : Hid (n ≤ 9223372036854775807) := Lib.hid (by have := h.cap; have := h.max; unfold maxLen at this; omega)
  have hin : i < n := by rw [← h.len]; exact hi
  have HIn := Lib.hid hin
  obtain ⟨z1, z2, z3⟩ := inj1 hin HM.out
  obtain ⟨b, o, rfl, hc⟩ := HS.out.cells (Nat.lt_of_le_of_lt (Nat.zero_le _) hin)
  have HC := Lib.hid hc
  obtain ⟨p0, p1⟩ := hc i hi
  have hfz := fdz_at fs i hi
  obtain ⟨f, hf⟩ : ∃ f, f = fs[i] := ⟨_, rfl⟩
  rw [← hf] at p0 p1 hfz ⊢
  obtain ⟨R, hR⟩ : ∃ R, R = oneF fs i f := ⟨_, rfl⟩
  rw [← hR]
  have HR := Lib.hid hR
  obtain ⟨nm, hnm⟩ : ∃ nm, nm = f.nm := ⟨_, rfl⟩
  obtain ⟨va, hva⟩ : ∃ va, va = f.va := ⟨_, rfl⟩
  rw [← hnm] at p0
  rw [← hva] at p1
  have HF := Lib.hid (And.intro hnm hva)
  have HNz : Hid (nm.size ≤ 1048576 ∧ va.size ≤ 1048576) := Lib.hid (by rw [hnm, hva]; omega)
  clear h hz hi hin hc hfz hf hR hnm hva
  go_enter Tryd.func39, Tryd.ntmps39
  go_upto_region 2 with fail
  obtain ⟨w2, hw2⟩ : ∃ w2, w2 = w.alloc (.cells #[.string nm, .string va] 64) := ⟨_, rfl⟩
  obtain ⟨g2, hg2⟩ : ∃ g2, g2 = w.heap.size := ⟨_, rfl⟩
  have hh2 : Has w2 g2 64 [.string nm, .string va] := by rw [hw2, hg2]; exact Has.new w 64 #[.string nm, .string va]
  have HH2 := Lib.hid hh2
  have HB2 : Hid (Below w.heap.size w w2) := Lib.hid (by rw [hw2]; exact (Below.refl _ w).alloc (Nat.le_refl _) _)
  have q0 : w2.cell? ⟨g2, 0, none⟩ = some (.string nm) := hh2.cell 0 rfl
  have q1 : w2.cell? ⟨g2, 1, none⟩ = some (.string va) := hh2.cell 1 rfl
  have HPs : Hid (∀ W : World, Calls Tryd.prog 45 #[.string nm] W (Ret W (.bool (psL (bl nm))))) := Lib.hid (fun W => by have h := pseudo_any W (bl nm); rwa [strB_bl] at h)
  have HNm : Hid (∀ W : World, Calls Tryd.prog 50 #[.string nm] W (Ret W (.bool (nameL (bl nm))))) := Lib.hid (fun W => by have h := name_any W (bl nm) (by rw [← bl_size]; exact Nat.le_trans HNz.out.1 (by decide)); rwa [strB_bl] at h)
  have HVa : Hid (∀ W : World, Calls Tryd.prog 51 #[.string va] W (Ret W (.bool (valueL (bl va))))) := Lib.hid (fun W => by have h := value_any W (bl va) (by rw [← bl_size]; exact Nat.le_trans HNz.out.2 (by decide)); rwa [strB_bl] at h)
  have HLn : Hid (∀ W : World, Calls Tryd.prog 44 #[.string va] W (Ret W (.int .i64 (lenL (bl va))))) := Lib.hid (fun W => by have h := length_any W (bl va); rwa [strB_bl] at h)
  rw [← hw2, ← hg2]
  clear hw2 hg2 hh2 p0 p1
  by_cases hps : psL (bl nm) = true
  · have HPw := Lib.hid (HPs.out w2)
    rw [hps] at HPw
    by_cases hin4 : bl nm ∈ pseS
    · have HR2 : Hid (R = if (fs.take i).any (badF f) = true then 182 else restF fs f) := Lib.hid (by rw [HR.out, oneF, ← HF.out.1, if_pos hps, if_neg (by simpa using hin4)])
      go_wp2_with fail
      refine HPw.out.mono ?_
      rintro e w3 ⟨rfl, rfl⟩
      clear hps HR
      simp only [pseS, List.mem_cons, List.not_mem_nil, or_false] at hin4
      rcases hin4 with h | h | h | h
      · obtain ⟨e0, d0⟩ := eqT2 (s := nm) (l := [58, 109, 101, 116, 104, 111, 100]) h
        obtain ⟨e1, d1⟩ := eqF2 (s := nm) (l := [58, 115, 99, 104, 101, 109, 101]) (by rw [h]; decide)
        obtain ⟨e2, d2⟩ := eqF2 (s := nm) (l := [58, 97, 117, 116, 104, 111, 114, 105, 116, 121]) (by rw [h]; decide)
        obtain ⟨e3, d3⟩ := eqF2 (s := nm) (l := [58, 112, 97, 116, 104]) (by rw [h]; decide)
        go_upto_region 6 with fail
        clear e0 e1 e2 e3 d0 d1 d2 d3 q0 q1
        go_loopw [6] (fun v wr => ∃ k : Nat, v = .int .i64 (k : Int) ∧ k ≤ i ∧ Hid ((fs.take k).any (badF f) = false) ∧ Below w3.heap.size w3 wr) (fun v _ => i - (intOf v).toNat)
        case atStart => exact ⟨0, rfl, Nat.zero_le _, Lib.hid rfl, Below.refl _ _⟩
        case round =>
          obtain ⟨k, rfl, hk, HA, hb⟩ := hrel
          have HBr := Lib.hid hb
          clear hb
          by_cases hki : k < i
          · have HKi := Lib.hid hki
            obtain ⟨x1, x2, x3⟩ := inj1 hki (Nat.le_trans (Nat.le_of_lt HIn.out) HM.out)
            have hkl : k < fs.length := by rw [HL.out]; exact Nat.lt_trans hki HIn.out
            have hkn : (k : Int) < (n : Int) := by have := HIn.out; omega
            obtain ⟨p0, p1⟩ := HC.out k hkl
            have HOn : Hid (badF f fs[k] = false → (fs.take (k + 1)).any (badF f) = false) := Lib.hid (any_on hkl HA.out)
            have HSp : Hid (badF f fs[k] = true → (fs.take i).any (badF f) = true) := Lib.hid (any_stop hkl hki)
            obtain ⟨g, hg⟩ : ∃ g, g = fs[k] := ⟨_, rfl⟩
            rw [← hg] at p0 p1 HOn HSp
            obtain ⟨xn, hxn⟩ : ∃ xn, xn = g.nm := ⟨_, rfl⟩
            rw [← hxn] at p0
            have HXn := Lib.hid hxn
            have hbd : Below w3.heap.size w3 wr.drew := HBr.out.trans ((below_drewN (Below.refl wr.heap.size wr) 1).mono HBr.out.size)
            have HBd := Lib.hid hbd
            have hbw : Below w.heap.size w wr.drew := HB2.out.trans (hbd.mono HB2.out.size)
            have hhd : Has wr.drew g2 64 [.string nm, .string va] := HH2.out.kept (Kept.of_below (X := none') hbd) (fun h => h)
            rw [← hbw.cell (World.block_lt_of_cell? _ _ p0)] at p0
            have HSa : Hid (Sat [(⟨b, o + k * 2, none⟩, .string xn), (⟨g2, 0, none⟩, .string nm), (⟨g2, 1, none⟩, .string va)] wr.drew) := Lib.hid (Sat.cons p0 (Sat.cons (hhd.cell 0 rfl) (Sat.cons (hhd.cell 1 rfl) (Sat.nil _))))
            have HPx : Hid (Calls Tryd.prog 45 #[.string xn] wr.drew (Ret wr.drew (.bool (psL (bl xn))))) := Lib.hid (by have h := pseudo_any wr.drew (bl xn); rwa [strB_bl] at h)
            clear hk hki hkl p0 p1 hg hxn hbd hbw hhd HA
            by_cases hpx : psL (bl xn) = true
            · rw [hpx] at HPx
              by_cases hnx : bl xn = bl nm
              · obtain rfl : xn = nm := eqS' hnx
                have HX := HSp.out (by rw [badF, ← HXn.out, ← HF.out.1]; simp)
                obtain rfl : R = 182 := by rw [HR2.out, if_pos HX]
                clear hpx hnx HX
                go_upto_region 8 with fail
                refine Mx.region [] (Sat [(⟨b, o + k * 2, none⟩, .string xn), (⟨g2, 0, none⟩, .string xn), (⟨g2, 1, none⟩, .string va)]) (by kernel_rfl) (by kernel_rfl) HSa.out ?_
                repeat ((first | (refine Mx.skips (by kernel_rfl) ?_; go_big_quiet_skip) | (refine Mx.quietly rfl ?_; go_big_quiet_want; go_big_quiet_op; go_big_quiet_on)); refine Mx.done ?_)
                refine Mx.cell ⟨b, o + k * 2, none⟩ (.string xn) (by kernel_rfl) (by kernel_rfl) (by kernel_rfl) Tryd.isAgg9 (fun w' h => h 0 _ _ rfl) ?_
                go_big_quiet_want; go_big_quiet_op; go_big_quiet_on; refine Mx.done ?_
                repeat ((first | (refine Mx.skips (by kernel_rfl) ?_; go_big_quiet_skip) | (refine Mx.quietly rfl ?_; go_big_quiet_want; go_big_quiet_op; go_big_quiet_on)); refine Mx.done ?_)
                refine Mx.loudly (by kernel_rfl) (by kernel_rfl) ?_
                go_wp2_with fail
                refine HPx.out.mono ?_
                rintro e w7 ⟨rfl, rfl⟩
                go_wp2_with fail
                refine ⟨HSa.out, ?_⟩
                repeat ((first | (refine Mx.skips (by kernel_rfl) ?_; go_big_quiet_skip) | (refine Mx.quietly rfl ?_; go_big_quiet_want; go_big_quiet_op; go_big_quiet_on)); refine Mx.done ?_)
                refine Mx.cell ⟨b, o + k * 2, none⟩ (.string xn) (by kernel_rfl) (by kernel_rfl) (by kernel_rfl) Tryd.isAgg9 (fun w' h => h 0 _ _ rfl) ?_
                go_big_quiet_want; go_big_quiet_op; go_big_quiet_on; refine Mx.done ?_
                repeat ((first | (refine Mx.skips (by kernel_rfl) ?_; go_big_quiet_skip) | (refine Mx.quietly rfl ?_; go_big_quiet_want; go_big_quiet_op; go_big_quiet_on)); refine Mx.done ?_)
                refine Mx.cell ⟨g2, 0, none⟩ (.string xn) (by kernel_rfl) (by kernel_rfl) (by kernel_rfl) Tryd.isAgg9 (fun w' h => h 1 _ _ rfl) ?_
                go_big_quiet_want; go_big_quiet_op; go_big_quiet_on; refine Mx.done ?_
                repeat ((first | (refine Mx.skips (by kernel_rfl) ?_; go_big_quiet_skip) | (refine Mx.quietly rfl ?_; go_big_quiet_want; go_big_quiet_op; go_big_quiet_on)); refine Mx.done ?_)
                refine Mx.nil ?_
                go_wp2
                go_ret
                exact ⟨rfl, HB2.out.trans (HBd.out.mono HB2.out.size)⟩
              · have y1 := eqS hnx
                have HOn2 := Lib.hid (HOn.out (by rw [badF, ← HXn.out, ← HF.out.1, hpx]; simp [hnx]))
                clear hpx hnx
                go_upto_region 8 with fail
                refine Mx.region [] (Sat [(⟨b, o + k * 2, none⟩, .string xn), (⟨g2, 0, none⟩, .string nm), (⟨g2, 1, none⟩, .string va)]) (by kernel_rfl) (by kernel_rfl) HSa.out ?_
                repeat ((first | (refine Mx.skips (by kernel_rfl) ?_; go_big_quiet_skip) | (refine Mx.quietly rfl ?_; go_big_quiet_want; go_big_quiet_op; go_big_quiet_on)); refine Mx.done ?_)
                refine Mx.cell ⟨b, o + k * 2, none⟩ (.string xn) (by kernel_rfl) (by kernel_rfl) (by kernel_rfl) Tryd.isAgg9 (fun w' h => h 0 _ _ rfl) ?_
                go_big_quiet_want; go_big_quiet_op; go_big_quiet_on; refine Mx.done ?_
                repeat ((first | (refine Mx.skips (by kernel_rfl) ?_; go_big_quiet_skip) | (refine Mx.quietly rfl ?_; go_big_quiet_want; go_big_quiet_op; go_big_quiet_on)); refine Mx.done ?_)
                refine Mx.loudly (by kernel_rfl) (by kernel_rfl) ?_
                go_wp2_with fail
                refine HPx.out.mono ?_
                rintro e w7 ⟨rfl, rfl⟩
                go_wp2_with fail
                refine ⟨HSa.out, ?_⟩
                repeat ((first | (refine Mx.skips (by kernel_rfl) ?_; go_big_quiet_skip) | (refine Mx.quietly rfl ?_; go_big_quiet_want; go_big_quiet_op; go_big_quiet_on)); refine Mx.done ?_)
                refine Mx.cell ⟨b, o + k * 2, none⟩ (.string xn) (by kernel_rfl) (by kernel_rfl) (by kernel_rfl) Tryd.isAgg9 (fun w' h => h 0 _ _ rfl) ?_
                go_big_quiet_want; go_big_quiet_op; go_big_quiet_on; refine Mx.done ?_
                repeat ((first | (refine Mx.skips (by kernel_rfl) ?_; go_big_quiet_skip) | (refine Mx.quietly rfl ?_; go_big_quiet_want; go_big_quiet_op; go_big_quiet_on)); refine Mx.done ?_)
                refine Mx.cell ⟨g2, 0, none⟩ (.string nm) (by kernel_rfl) (by kernel_rfl) (by kernel_rfl) Tryd.isAgg9 (fun w' h => h 1 _ _ rfl) ?_
                go_big_quiet_want; go_big_quiet_op; go_big_quiet_on; refine Mx.done ?_
                repeat ((first | (refine Mx.skips (by kernel_rfl) ?_; go_big_quiet_skip) | (refine Mx.quietly rfl ?_; go_big_quiet_want; go_big_quiet_op; go_big_quiet_on)); refine Mx.done ?_)
                refine Mx.nil ?_
                go_wp2_with fail
                go_roundw
                case rel => exact ⟨k + 1, by first | rfl | (push_cast; rfl), HKi.out, HOn2, HBd.out⟩
                case measure => exact ssj3 HKi.out
            · have hpf : psL (bl xn) = false := by simpa using hpx
              rw [hpf] at HPx
              have HX := HSp.out (by rw [badF, ← HXn.out, hpf]; simp)
              obtain rfl : R = 182 := by rw [HR2.out, if_pos HX]
              clear hpx hpf HX
              go_upto_region 8 with fail
              refine Mx.region [] (Sat [(⟨b, o + k * 2, none⟩, .string xn), (⟨g2, 0, none⟩, .string nm), (⟨g2, 1, none⟩, .string va)]) (by kernel_rfl) (by kernel_rfl) HSa.out ?_
              repeat ((first | (refine Mx.skips (by kernel_rfl) ?_; go_big_quiet_skip) | (refine Mx.quietly rfl ?_; go_big_quiet_want; go_big_quiet_op; go_big_quiet_on)); refine Mx.done ?_)
              refine Mx.cell ⟨b, o + k * 2, none⟩ (.string xn) (by kernel_rfl) (by kernel_rfl) (by kernel_rfl) Tryd.isAgg9 (fun w' h => h 0 _ _ rfl) ?_
              go_big_quiet_want; go_big_quiet_op; go_big_quiet_on; refine Mx.done ?_
              repeat ((first | (refine Mx.skips (by kernel_rfl) ?_; go_big_quiet_skip) | (refine Mx.quietly rfl ?_; go_big_quiet_want; go_big_quiet_op; go_big_quiet_on)); refine Mx.done ?_)
              refine Mx.loudly (by kernel_rfl) (by kernel_rfl) ?_
              go_wp2_with fail
              refine HPx.out.mono ?_
              rintro e w7 ⟨rfl, rfl⟩
              go_wp2_with fail
              refine ⟨HSa.out, ?_⟩
              repeat ((first | (refine Mx.skips (by kernel_rfl) ?_; go_big_quiet_skip) | (refine Mx.quietly rfl ?_; go_big_quiet_want; go_big_quiet_op; go_big_quiet_on)); refine Mx.done ?_)
              refine Mx.nil ?_
              go_wp2
              go_ret
              exact ⟨rfl, HB2.out.trans (HBd.out.mono HB2.out.size)⟩
          · have x1 := inj2 hki
            obtain rfl : k = i := Nat.le_antisymm hk (Nat.le_of_not_lt hki)
            have HRr : Hid (R = restF fs f) := Lib.hid (by rw [HR2.out, HA.out]; rfl)
            have hhd : Has wr g2 64 [.string nm, .string va] := HH2.out.kept (Kept.of_below (X := none') HBr.out) (fun h => h)
            have HBz : Hid (Below w.heap.size w wr) := Lib.hid (HB2.out.trans (HBr.out.mono HB2.out.size))
            have HHz := Lib.hid hhd
            have q0 : wr.cell? ⟨g2, 0, none⟩ = some (.string nm) := hhd.cell 0 rfl
            have q1 : wr.cell? ⟨g2, 1, none⟩ = some (.string va) := hhd.cell 1 rfl
            clear hk hki hhd HA HR2
            go_upto_region 12 with fail
            have HVw := Lib.hid (HVa.out wr)
            have HHp := Lib.hid (hop_any wr nm va)
            obtain ⟨q, hq⟩ : ∃ q, q = lenL (bl va) := ⟨_, rfl⟩
            unfold restF at HRr
            rw [← HF.out.1, ← HF.out.2] at HRr
            by_cases hv : valueL (bl va) = true
            · rw [hv] at HVw
              by_cases hh : hopL (bl nm) (bl va) = true
              · rw [hh] at HHp
                obtain rfl : R = 184 := by rw [HRr.out, hv, if_neg (by decide), if_pos hh]
                clear hv hh hq
                go_wp2_with fail
                refine HVw.out.mono ?_
                rintro e w5 ⟨rfl, rfl⟩
                go_wp2_with fail
                refine HHp.out.mono ?_
                rintro e w6 ⟨rfl, hb6⟩
                have HB6 := Lib.hid (HBz.out.trans (hb6.mono HBz.out.size))
                clear hb6 q0 q1
                go_wp2
                go_ret
                exact ⟨rfl, HB6.out⟩
              · have hhf : hopL (bl nm) (bl va) = false := by simpa using hh
                rw [hhf] at HHp
                by_cases hcl : bl nm = clS
                · obtain ⟨u1, u2⟩ := eqT2 (s := nm) (l := [99, 111, 110, 116, 101, 110, 116, 45, 108, 101, 110, 103, 116, 104]) hcl
                  have HR3 : Hid (R = if lenL (bl va) < 0 ∨ lenL (bl va) ≠ lenL (firstV (findF fs clS)) then 186 else 0) := Lib.hid (by rw [HRr.out, hv, if_neg (by decide), if_neg hh, if_pos hcl])
                  clear hv hh hhf hcl
                  go_wp2_with fail
                  refine HVw.out.mono ?_
                  rintro e w5 ⟨rfl, rfl⟩
                  go_wp2_with fail
                  refine HHp.out.mono ?_
                  rintro e w6 ⟨rfl, hb6⟩
                  have HB6 : Hid (Below w.heap.size w w6) := Lib.hid (HBz.out.trans (hb6.mono HBz.out.size))
                  have hh6 : Has w6 g2 64 [.string nm, .string va] := HHz.out.kept (Kept.of_below (X := none') hb6) (fun h => h)
                  have HLw := Lib.hid (HLn.out w6)
                  rw [← hq] at HLw HR3
                  have HFi := Lib.hid (find_any w6 (HS.out.below HB6.out) ⟨#[99, 111, 110, 116, 101, 110, 116, 45, 108, 101, 110, 103, 116, 104]⟩)
                  rw [show bl ⟨#[99, 111, 110, 116, 101, 110, 116, 45, 108, 101, 110, 103, 116, 104]⟩ = clS from rfl] at HFi
                  obtain ⟨fo, hfo⟩ : ∃ fo, fo = findF fs clS := ⟨_, rfl⟩
                  rw [← hfo] at HFi HR3
                  clear hb6 hfo q0 q1
                  have q0 : w6.cell? ⟨g2, 0, none⟩ = some (.string nm) := hh6.cell 0 rfl
                  have q1 : w6.cell? ⟨g2, 1, none⟩ = some (.string va) := hh6.cell 1 rfl
                  obtain ⟨fv, hfv, hfb⟩ : ∃ fv : ByteArray, (∃ ok : Bool, findV fo = .tuple #[.string fv, .bool ok]) ∧ firstV fo = bl fv := by
                    cases fo with
                    | none => exact ⟨⟨#[]⟩, ⟨false, rfl⟩, rfl⟩
                    | some v => exact ⟨v, ⟨true, rfl⟩, rfl⟩
                  obtain ⟨ok, hfv⟩ := hfv
                  rw [hfv] at HFi
                  have HL2 : Hid (∀ W : World, Calls Tryd.prog 44 #[.string fv] W (Ret W (.int .i64 (lenL (bl fv))))) := Lib.hid (fun W => by have h := length_any W (bl fv); rwa [strB_bl] at h)
                  rw [hfb] at HR3
                  obtain ⟨q2, hq2⟩ : ∃ q2, q2 = lenL (bl fv) := ⟨_, rfl⟩
                  rw [← hq2] at HR3 HL2
                  clear hfv hfb hq2 hq
                  by_cases h1 : q < 0
                  · have y1 : (q < 0) = True := eq_true h1
                    obtain rfl : R = 186 := by rw [HR3.out, if_pos (.inl h1)]
                    clear h1
                    go_wp2_with fail
                    refine HLw.out.mono ?_
                    rintro e w7 ⟨rfl, rfl⟩
                    go_wp2_with fail
                    refine HFi.out.mono ?_
                    rintro e w8 ⟨rfl, rfl⟩
                    go_wp2
                    go_ret
                    exact ⟨rfl, HB6.out⟩
                  · have y1 : (q < 0) = False := eq_false h1
                    by_cases h2 : q = q2
                    · subst q2
                      obtain rfl : R = 0 := by rw [HR3.out, if_neg (by simp [h1])]
                      clear h1
                      go_wp2_with fail
                      refine HLw.out.mono ?_
                      rintro e w7 ⟨rfl, rfl⟩
                      go_wp2_with fail
                      refine HFi.out.mono ?_
                      rintro e w8 ⟨rfl, rfl⟩
                      go_wp2_with fail
                      have HL3 := HL2.out w8
                      refine HL3.mono ?_
                      rintro e w9 ⟨rfl, rfl⟩
                      go_wp2
                      go_ret
                      exact ⟨rfl, HB6.out⟩
                    · obtain rfl : R = 186 := by rw [HR3.out, if_pos (.inr h2)]
                      have y2 : (q == q2) = false := by simpa using h2
                      obtain ⟨y3, y4⟩ := neqs y2
                      clear h1 h2
                      go_wp2_with fail
                      refine HLw.out.mono ?_
                      rintro e w7 ⟨rfl, rfl⟩
                      go_wp2_with fail
                      refine HFi.out.mono ?_
                      rintro e w8 ⟨rfl, rfl⟩
                      go_wp2_with fail
                      have HL3 := HL2.out w8
                      refine HL3.mono ?_
                      rintro e w9 ⟨rfl, rfl⟩
                      go_wp2
                      go_ret
                      exact ⟨rfl, HB6.out⟩
                · obtain ⟨u1, u2⟩ := eqF2 (s := nm) (l := [99, 111, 110, 116, 101, 110, 116, 45, 108, 101, 110, 103, 116, 104]) hcl
                  obtain rfl : R = 0 := by rw [HRr.out, hv, if_neg (by decide), if_neg hh, if_neg hcl]
                  clear hv hh hhf hcl hq
                  go_wp2_with fail
                  refine HVw.out.mono ?_
                  rintro e w5 ⟨rfl, rfl⟩
                  go_wp2_with fail
                  refine HHp.out.mono ?_
                  rintro e w6 ⟨rfl, hb6⟩
                  have HB6 := Lib.hid (HBz.out.trans (hb6.mono HBz.out.size))
                  have hh6 : Has w6 g2 64 [.string nm, .string va] := HHz.out.kept (Kept.of_below (X := none') hb6) (fun h => h)
                  have q0 : w6.cell? ⟨g2, 0, none⟩ = some (.string nm) := hh6.cell 0 rfl
                  clear hb6 hh6
                  go_wp2
                  go_ret
                  exact ⟨rfl, HB6.out⟩
            · have hvf : valueL (bl va) = false := by simpa using hv
              rw [hvf] at HVw
              obtain rfl : R = 181 := by rw [HRr.out, if_pos hvf]
              clear hv hvf hq
              go_wp2_with fail
              refine HVw.out.mono ?_
              rintro e w5 ⟨rfl, rfl⟩
              go_wp2
              go_ret
              exact ⟨rfl, HBz.out⟩
      · obtain ⟨e0, d0⟩ := eqF2 (s := nm) (l := [58, 109, 101, 116, 104, 111, 100]) (by rw [h]; decide)
        obtain ⟨e1, d1⟩ := eqT2 (s := nm) (l := [58, 115, 99, 104, 101, 109, 101]) h
        obtain ⟨e2, d2⟩ := eqF2 (s := nm) (l := [58, 97, 117, 116, 104, 111, 114, 105, 116, 121]) (by rw [h]; decide)
        obtain ⟨e3, d3⟩ := eqF2 (s := nm) (l := [58, 112, 97, 116, 104]) (by rw [h]; decide)
        go_upto_region 6 with fail
        clear e0 e1 e2 e3 d0 d1 d2 d3 q0 q1
        go_loopw [6] (fun v wr => ∃ k : Nat, v = .int .i64 (k : Int) ∧ k ≤ i ∧ Hid ((fs.take k).any (badF f) = false) ∧ Below w3.heap.size w3 wr) (fun v _ => i - (intOf v).toNat)
        case atStart => exact ⟨0, rfl, Nat.zero_le _, Lib.hid rfl, Below.refl _ _⟩
        case round =>
          obtain ⟨k, rfl, hk, HA, hb⟩ := hrel
          have HBr := Lib.hid hb
          clear hb
          by_cases hki : k < i
          · have HKi := Lib.hid hki
            obtain ⟨x1, x2, x3⟩ := inj1 hki (Nat.le_trans (Nat.le_of_lt HIn.out) HM.out)
            have hkl : k < fs.length := by rw [HL.out]; exact Nat.lt_trans hki HIn.out
            have hkn : (k : Int) < (n : Int) := by have := HIn.out; omega
            obtain ⟨p0, p1⟩ := HC.out k hkl
            have HOn : Hid (badF f fs[k] = false → (fs.take (k + 1)).any (badF f) = false) := Lib.hid (any_on hkl HA.out)
            have HSp : Hid (badF f fs[k] = true → (fs.take i).any (badF f) = true) := Lib.hid (any_stop hkl hki)
            obtain ⟨g, hg⟩ : ∃ g, g = fs[k] := ⟨_, rfl⟩
            rw [← hg] at p0 p1 HOn HSp
            obtain ⟨xn, hxn⟩ : ∃ xn, xn = g.nm := ⟨_, rfl⟩
            rw [← hxn] at p0
            have HXn := Lib.hid hxn
            have hbd : Below w3.heap.size w3 wr.drew := HBr.out.trans ((below_drewN (Below.refl wr.heap.size wr) 1).mono HBr.out.size)
            have HBd := Lib.hid hbd
            have hbw : Below w.heap.size w wr.drew := HB2.out.trans (hbd.mono HB2.out.size)
            have hhd : Has wr.drew g2 64 [.string nm, .string va] := HH2.out.kept (Kept.of_below (X := none') hbd) (fun h => h)
            rw [← hbw.cell (World.block_lt_of_cell? _ _ p0)] at p0
            have HSa : Hid (Sat [(⟨b, o + k * 2, none⟩, .string xn), (⟨g2, 0, none⟩, .string nm), (⟨g2, 1, none⟩, .string va)] wr.drew) := Lib.hid (Sat.cons p0 (Sat.cons (hhd.cell 0 rfl) (Sat.cons (hhd.cell 1 rfl) (Sat.nil _))))
            have HPx : Hid (Calls Tryd.prog 45 #[.string xn] wr.drew (Ret wr.drew (.bool (psL (bl xn))))) := Lib.hid (by have h := pseudo_any wr.drew (bl xn); rwa [strB_bl] at h)
            clear hk hki hkl p0 p1 hg hxn hbd hbw hhd HA
            by_cases hpx : psL (bl xn) = true
            · rw [hpx] at HPx
              by_cases hnx : bl xn = bl nm
              · obtain rfl : xn = nm := eqS' hnx
                have HX := HSp.out (by rw [badF, ← HXn.out, ← HF.out.1]; simp)
                obtain rfl : R = 182 := by rw [HR2.out, if_pos HX]
                clear hpx hnx HX
                go_upto_region 8 with fail
                refine Mx.region [] (Sat [(⟨b, o + k * 2, none⟩, .string xn), (⟨g2, 0, none⟩, .string xn), (⟨g2, 1, none⟩, .string va)]) (by kernel_rfl) (by kernel_rfl) HSa.out ?_
                repeat ((first | (refine Mx.skips (by kernel_rfl) ?_; go_big_quiet_skip) | (refine Mx.quietly rfl ?_; go_big_quiet_want; go_big_quiet_op; go_big_quiet_on)); refine Mx.done ?_)
                refine Mx.cell ⟨b, o + k * 2, none⟩ (.string xn) (by kernel_rfl) (by kernel_rfl) (by kernel_rfl) Tryd.isAgg9 (fun w' h => h 0 _ _ rfl) ?_
                go_big_quiet_want; go_big_quiet_op; go_big_quiet_on; refine Mx.done ?_
                repeat ((first | (refine Mx.skips (by kernel_rfl) ?_; go_big_quiet_skip) | (refine Mx.quietly rfl ?_; go_big_quiet_want; go_big_quiet_op; go_big_quiet_on)); refine Mx.done ?_)
                refine Mx.loudly (by kernel_rfl) (by kernel_rfl) ?_
                go_wp2_with fail
                refine HPx.out.mono ?_
                rintro e w7 ⟨rfl, rfl⟩
                go_wp2_with fail
                refine ⟨HSa.out, ?_⟩
                repeat ((first | (refine Mx.skips (by kernel_rfl) ?_; go_big_quiet_skip) | (refine Mx.quietly rfl ?_; go_big_quiet_want; go_big_quiet_op; go_big_quiet_on)); refine Mx.done ?_)
                refine Mx.cell ⟨b, o + k * 2, none⟩ (.string xn) (by kernel_rfl) (by kernel_rfl) (by kernel_rfl) Tryd.isAgg9 (fun w' h => h 0 _ _ rfl) ?_
                go_big_quiet_want; go_big_quiet_op; go_big_quiet_on; refine Mx.done ?_
                repeat ((first | (refine Mx.skips (by kernel_rfl) ?_; go_big_quiet_skip) | (refine Mx.quietly rfl ?_; go_big_quiet_want; go_big_quiet_op; go_big_quiet_on)); refine Mx.done ?_)
                refine Mx.cell ⟨g2, 0, none⟩ (.string xn) (by kernel_rfl) (by kernel_rfl) (by kernel_rfl) Tryd.isAgg9 (fun w' h => h 1 _ _ rfl) ?_
                go_big_quiet_want; go_big_quiet_op; go_big_quiet_on; refine Mx.done ?_
                repeat ((first | (refine Mx.skips (by kernel_rfl) ?_; go_big_quiet_skip) | (refine Mx.quietly rfl ?_; go_big_quiet_want; go_big_quiet_op; go_big_quiet_on)); refine Mx.done ?_)
                refine Mx.nil ?_
                go_wp2
                go_ret
                exact ⟨rfl, HB2.out.trans (HBd.out.mono HB2.out.size)⟩
              · have y1 := eqS hnx
                have HOn2 := Lib.hid (HOn.out (by rw [badF, ← HXn.out, ← HF.out.1, hpx]; simp [hnx]))
                clear hpx hnx
                go_upto_region 8 with fail
                refine Mx.region [] (Sat [(⟨b, o + k * 2, none⟩, .string xn), (⟨g2, 0, none⟩, .string nm), (⟨g2, 1, none⟩, .string va)]) (by kernel_rfl) (by kernel_rfl) HSa.out ?_
                repeat ((first | (refine Mx.skips (by kernel_rfl) ?_; go_big_quiet_skip) | (refine Mx.quietly rfl ?_; go_big_quiet_want; go_big_quiet_op; go_big_quiet_on)); refine Mx.done ?_)
                refine Mx.cell ⟨b, o + k * 2, none⟩ (.string xn) (by kernel_rfl) (by kernel_rfl) (by kernel_rfl) Tryd.isAgg9 (fun w' h => h 0 _ _ rfl) ?_
                go_big_quiet_want; go_big_quiet_op; go_big_quiet_on; refine Mx.done ?_
                repeat ((first | (refine Mx.skips (by kernel_rfl) ?_; go_big_quiet_skip) | (refine Mx.quietly rfl ?_; go_big_quiet_want; go_big_quiet_op; go_big_quiet_on)); refine Mx.done ?_)
                refine Mx.loudly (by kernel_rfl) (by kernel_rfl) ?_
                go_wp2_with fail
                refine HPx.out.mono ?_
                rintro e w7 ⟨rfl, rfl⟩
                go_wp2_with fail
                refine ⟨HSa.out, ?_⟩
                repeat ((first | (refine Mx.skips (by kernel_rfl) ?_; go_big_quiet_skip) | (refine Mx.quietly rfl ?_; go_big_quiet_want; go_big_quiet_op; go_big_quiet_on)); refine Mx.done ?_)
                refine Mx.cell ⟨b, o + k * 2, none⟩ (.string xn) (by kernel_rfl) (by kernel_rfl) (by kernel_rfl) Tryd.isAgg9 (fun w' h => h 0 _ _ rfl) ?_
                go_big_quiet_want; go_big_quiet_op; go_big_quiet_on; refine Mx.done ?_
                repeat ((first | (refine Mx.skips (by kernel_rfl) ?_; go_big_quiet_skip) | (refine Mx.quietly rfl ?_; go_big_quiet_want; go_big_quiet_op; go_big_quiet_on)); refine Mx.done ?_)
                refine Mx.cell ⟨g2, 0, none⟩ (.string nm) (by kernel_rfl) (by kernel_rfl) (by kernel_rfl) Tryd.isAgg9 (fun w' h => h 1 _ _ rfl) ?_
                go_big_quiet_want; go_big_quiet_op; go_big_quiet_on; refine Mx.done ?_
                repeat ((first | (refine Mx.skips (by kernel_rfl) ?_; go_big_quiet_skip) | (refine Mx.quietly rfl ?_; go_big_quiet_want; go_big_quiet_op; go_big_quiet_on)); refine Mx.done ?_)
                refine Mx.nil ?_
                go_wp2_with fail
                go_roundw
                case rel => exact ⟨k + 1, by first | rfl | (push_cast; rfl), HKi.out, HOn2, HBd.out⟩
                case measure => exact ssj3 HKi.out
            · have hpf : psL (bl xn) = false := by simpa using hpx
              rw [hpf] at HPx
              have HX := HSp.out (by rw [badF, ← HXn.out, hpf]; simp)
              obtain rfl : R = 182 := by rw [HR2.out, if_pos HX]
              clear hpx hpf HX
              go_upto_region 8 with fail
              refine Mx.region [] (Sat [(⟨b, o + k * 2, none⟩, .string xn), (⟨g2, 0, none⟩, .string nm), (⟨g2, 1, none⟩, .string va)]) (by kernel_rfl) (by kernel_rfl) HSa.out ?_
              repeat ((first | (refine Mx.skips (by kernel_rfl) ?_; go_big_quiet_skip) | (refine Mx.quietly rfl ?_; go_big_quiet_want; go_big_quiet_op; go_big_quiet_on)); refine Mx.done ?_)
              refine Mx.cell ⟨b, o + k * 2, none⟩ (.string xn) (by kernel_rfl) (by kernel_rfl) (by kernel_rfl) Tryd.isAgg9 (fun w' h => h 0 _ _ rfl) ?_
              go_big_quiet_want; go_big_quiet_op; go_big_quiet_on; refine Mx.done ?_
              repeat ((first | (refine Mx.skips (by kernel_rfl) ?_; go_big_quiet_skip) | (refine Mx.quietly rfl ?_; go_big_quiet_want; go_big_quiet_op; go_big_quiet_on)); refine Mx.done ?_)
              refine Mx.loudly (by kernel_rfl) (by kernel_rfl) ?_
              go_wp2_with fail
              refine HPx.out.mono ?_
              rintro e w7 ⟨rfl, rfl⟩
              go_wp2_with fail
              refine ⟨HSa.out, ?_⟩
              repeat ((first | (refine Mx.skips (by kernel_rfl) ?_; go_big_quiet_skip) | (refine Mx.quietly rfl ?_; go_big_quiet_want; go_big_quiet_op; go_big_quiet_on)); refine Mx.done ?_)
              refine Mx.nil ?_
              go_wp2
              go_ret
              exact ⟨rfl, HB2.out.trans (HBd.out.mono HB2.out.size)⟩
          · have x1 := inj2 hki
            obtain rfl : k = i := Nat.le_antisymm hk (Nat.le_of_not_lt hki)
            have HRr : Hid (R = restF fs f) := Lib.hid (by rw [HR2.out, HA.out]; rfl)
            have hhd : Has wr g2 64 [.string nm, .string va] := HH2.out.kept (Kept.of_below (X := none') HBr.out) (fun h => h)
            have HBz : Hid (Below w.heap.size w wr) := Lib.hid (HB2.out.trans (HBr.out.mono HB2.out.size))
            have HHz := Lib.hid hhd
            have q0 : wr.cell? ⟨g2, 0, none⟩ = some (.string nm) := hhd.cell 0 rfl
            have q1 : wr.cell? ⟨g2, 1, none⟩ = some (.string va) := hhd.cell 1 rfl
            clear hk hki hhd HA HR2
            go_upto_region 12 with fail
            have HVw := Lib.hid (HVa.out wr)
            have HHp := Lib.hid (hop_any wr nm va)
            obtain ⟨q, hq⟩ : ∃ q, q = lenL (bl va) := ⟨_, rfl⟩
            unfold restF at HRr
            rw [← HF.out.1, ← HF.out.2] at HRr
            by_cases hv : valueL (bl va) = true
            · rw [hv] at HVw
              by_cases hh : hopL (bl nm) (bl va) = true
              · rw [hh] at HHp
                obtain rfl : R = 184 := by rw [HRr.out, hv, if_neg (by decide), if_pos hh]
                clear hv hh hq
                go_wp2_with fail
                refine HVw.out.mono ?_
                rintro e w5 ⟨rfl, rfl⟩
                go_wp2_with fail
                refine HHp.out.mono ?_
                rintro e w6 ⟨rfl, hb6⟩
                have HB6 := Lib.hid (HBz.out.trans (hb6.mono HBz.out.size))
                clear hb6 q0 q1
                go_wp2
                go_ret
                exact ⟨rfl, HB6.out⟩
              · have hhf : hopL (bl nm) (bl va) = false := by simpa using hh
                rw [hhf] at HHp
                by_cases hcl : bl nm = clS
                · obtain ⟨u1, u2⟩ := eqT2 (s := nm) (l := [99, 111, 110, 116, 101, 110, 116, 45, 108, 101, 110, 103, 116, 104]) hcl
                  have HR3 : Hid (R = if lenL (bl va) < 0 ∨ lenL (bl va) ≠ lenL (firstV (findF fs clS)) then 186 else 0) := Lib.hid (by rw [HRr.out, hv, if_neg (by decide), if_neg hh, if_pos hcl])
                  clear hv hh hhf hcl
                  go_wp2_with fail
                  refine HVw.out.mono ?_
                  rintro e w5 ⟨rfl, rfl⟩
                  go_wp2_with fail
                  refine HHp.out.mono ?_
                  rintro e w6 ⟨rfl, hb6⟩
                  have HB6 : Hid (Below w.heap.size w w6) := Lib.hid (HBz.out.trans (hb6.mono HBz.out.size))
                  have hh6 : Has w6 g2 64 [.string nm, .string va] := HHz.out.kept (Kept.of_below (X := none') hb6) (fun h => h)
                  have HLw := Lib.hid (HLn.out w6)
                  rw [← hq] at HLw HR3
                  have HFi := Lib.hid (find_any w6 (HS.out.below HB6.out) ⟨#[99, 111, 110, 116, 101, 110, 116, 45, 108, 101, 110, 103, 116, 104]⟩)
                  rw [show bl ⟨#[99, 111, 110, 116, 101, 110, 116, 45, 108, 101, 110, 103, 116, 104]⟩ = clS from rfl] at HFi
                  obtain ⟨fo, hfo⟩ : ∃ fo, fo = findF fs clS := ⟨_, rfl⟩
                  rw [← hfo] at HFi HR3
                  clear hb6 hfo q0 q1
                  have q0 : w6.cell? ⟨g2, 0, none⟩ = some (.string nm) := hh6.cell 0 rfl
                  have q1 : w6.cell? ⟨g2, 1, none⟩ = some (.string va) := hh6.cell 1 rfl
                  obtain ⟨fv, hfv, hfb⟩ : ∃ fv : ByteArray, (∃ ok : Bool, findV fo = .tuple #[.string fv, .bool ok]) ∧ firstV fo = bl fv := by
                    cases fo with
                    | none => exact ⟨⟨#[]⟩, ⟨false, rfl⟩, rfl⟩
                    | some v => exact ⟨v, ⟨true, rfl⟩, rfl⟩
                  obtain ⟨ok, hfv⟩ := hfv
                  rw [hfv] at HFi
                  have HL2 : Hid (∀ W : World, Calls Tryd.prog 44 #[.string fv] W (Ret W (.int .i64 (lenL (bl fv))))) := Lib.hid (fun W => by have h := length_any W (bl fv); rwa [strB_bl] at h)
                  rw [hfb] at HR3
                  obtain ⟨q2, hq2⟩ : ∃ q2, q2 = lenL (bl fv) := ⟨_, rfl⟩
                  rw [← hq2] at HR3 HL2
                  clear hfv hfb hq2 hq
                  by_cases h1 : q < 0
                  · have y1 : (q < 0) = True := eq_true h1
                    obtain rfl : R = 186 := by rw [HR3.out, if_pos (.inl h1)]
                    clear h1
                    go_wp2_with fail
                    refine HLw.out.mono ?_
                    rintro e w7 ⟨rfl, rfl⟩
                    go_wp2_with fail
                    refine HFi.out.mono ?_
                    rintro e w8 ⟨rfl, rfl⟩
                    go_wp2
                    go_ret
                    exact ⟨rfl, HB6.out⟩
                  · have y1 : (q < 0) = False := eq_false h1
                    by_cases h2 : q = q2
                    · subst q2
                      obtain rfl : R = 0 := by rw [HR3.out, if_neg (by simp [h1])]
                      clear h1
                      go_wp2_with fail
                      refine HLw.out.mono ?_
                      rintro e w7 ⟨rfl, rfl⟩
                      go_wp2_with fail
                      refine HFi.out.mono ?_
                      rintro e w8 ⟨rfl, rfl⟩
                      go_wp2_with fail
                      have HL3 := HL2.out w8
                      refine HL3.mono ?_
                      rintro e w9 ⟨rfl, rfl⟩
                      go_wp2
                      go_ret
                      exact ⟨rfl, HB6.out⟩
                    · obtain rfl : R = 186 := by rw [HR3.out, if_pos (.inr h2)]
                      have y2 : (q == q2) = false := by simpa using h2
                      obtain ⟨y3, y4⟩ := neqs y2
                      clear h1 h2
                      go_wp2_with fail
                      refine HLw.out.mono ?_
                      rintro e w7 ⟨rfl, rfl⟩
                      go_wp2_with fail
                      refine HFi.out.mono ?_
                      rintro e w8 ⟨rfl, rfl⟩
                      go_wp2_with fail
                      have HL3 := HL2.out w8
                      refine HL3.mono ?_
                      rintro e w9 ⟨rfl, rfl⟩
                      go_wp2
                      go_ret
                      exact ⟨rfl, HB6.out⟩
                · obtain ⟨u1, u2⟩ := eqF2 (s := nm) (l := [99, 111, 110, 116, 101, 110, 116, 45, 108, 101, 110, 103, 116, 104]) hcl
                  obtain rfl : R = 0 := by rw [HRr.out, hv, if_neg (by decide), if_neg hh, if_neg hcl]
                  clear hv hh hhf hcl hq
                  go_wp2_with fail
                  refine HVw.out.mono ?_
                  rintro e w5 ⟨rfl, rfl⟩
                  go_wp2_with fail
                  refine HHp.out.mono ?_
                  rintro e w6 ⟨rfl, hb6⟩
                  have HB6 := Lib.hid (HBz.out.trans (hb6.mono HBz.out.size))
                  have hh6 : Has w6 g2 64 [.string nm, .string va] := HHz.out.kept (Kept.of_below (X := none') hb6) (fun h => h)
                  have q0 : w6.cell? ⟨g2, 0, none⟩ = some (.string nm) := hh6.cell 0 rfl
                  clear hb6 hh6
                  go_wp2
                  go_ret
                  exact ⟨rfl, HB6.out⟩
            · have hvf : valueL (bl va) = false := by simpa using hv
              rw [hvf] at HVw
              obtain rfl : R = 181 := by rw [HRr.out, if_pos hvf]
              clear hv hvf hq
              go_wp2_with fail
              refine HVw.out.mono ?_
              rintro e w5 ⟨rfl, rfl⟩
              go_wp2
              go_ret
              exact ⟨rfl, HBz.out⟩
      · obtain ⟨e0, d0⟩ := eqF2 (s := nm) (l := [58, 109, 101, 116, 104, 111, 100]) (by rw [h]; decide)
        obtain ⟨e1, d1⟩ := eqF2 (s := nm) (l := [58, 115, 99, 104, 101, 109, 101]) (by rw [h]; decide)
        obtain ⟨e2, d2⟩ := eqT2 (s := nm) (l := [58, 97, 117, 116, 104, 111, 114, 105, 116, 121]) h
        obtain ⟨e3, d3⟩ := eqF2 (s := nm) (l := [58, 112, 97, 116, 104]) (by rw [h]; decide)
        go_upto_region 6 with fail
        clear e0 e1 e2 e3 d0 d1 d2 d3 q0 q1
        go_loopw [6] (fun v wr => ∃ k : Nat, v = .int .i64 (k : Int) ∧ k ≤ i ∧ Hid ((fs.take k).any (badF f) = false) ∧ Below w3.heap.size w3 wr) (fun v _ => i - (intOf v).toNat)
        case atStart => exact ⟨0, rfl, Nat.zero_le _, Lib.hid rfl, Below.refl _ _⟩
        case round =>
          obtain ⟨k, rfl, hk, HA, hb⟩ := hrel
          have HBr := Lib.hid hb
          clear hb
          by_cases hki : k < i
          · have HKi := Lib.hid hki
            obtain ⟨x1, x2, x3⟩ := inj1 hki (Nat.le_trans (Nat.le_of_lt HIn.out) HM.out)
            have hkl : k < fs.length := by rw [HL.out]; exact Nat.lt_trans hki HIn.out
            have hkn : (k : Int) < (n : Int) := by have := HIn.out; omega
            obtain ⟨p0, p1⟩ := HC.out k hkl
            have HOn : Hid (badF f fs[k] = false → (fs.take (k + 1)).any (badF f) = false) := Lib.hid (any_on hkl HA.out)
            have HSp : Hid (badF f fs[k] = true → (fs.take i).any (badF f) = true) := Lib.hid (any_stop hkl hki)
            obtain ⟨g, hg⟩ : ∃ g, g = fs[k] := ⟨_, rfl⟩
            rw [← hg] at p0 p1 HOn HSp
            obtain ⟨xn, hxn⟩ : ∃ xn, xn = g.nm := ⟨_, rfl⟩
            rw [← hxn] at p0
            have HXn := Lib.hid hxn
            have hbd : Below w3.heap.size w3 wr.drew := HBr.out.trans ((below_drewN (Below.refl wr.heap.size wr) 1).mono HBr.out.size)
            have HBd := Lib.hid hbd
            have hbw : Below w.heap.size w wr.drew := HB2.out.trans (hbd.mono HB2.out.size)
            have hhd : Has wr.drew g2 64 [.string nm, .string va] := HH2.out.kept (Kept.of_below (X := none') hbd) (fun h => h)
            rw [← hbw.cell (World.block_lt_of_cell? _ _ p0)] at p0
            have HSa : Hid (Sat [(⟨b, o + k * 2, none⟩, .string xn), (⟨g2, 0, none⟩, .string nm), (⟨g2, 1, none⟩, .string va)] wr.drew) := Lib.hid (Sat.cons p0 (Sat.cons (hhd.cell 0 rfl) (Sat.cons (hhd.cell 1 rfl) (Sat.nil _))))
            have HPx : Hid (Calls Tryd.prog 45 #[.string xn] wr.drew (Ret wr.drew (.bool (psL (bl xn))))) := Lib.hid (by have h := pseudo_any wr.drew (bl xn); rwa [strB_bl] at h)
            clear hk hki hkl p0 p1 hg hxn hbd hbw hhd HA
            by_cases hpx : psL (bl xn) = true
            · rw [hpx] at HPx
              by_cases hnx : bl xn = bl nm
              · obtain rfl : xn = nm := eqS' hnx
                have HX := HSp.out (by rw [badF, ← HXn.out, ← HF.out.1]; simp)
                obtain rfl : R = 182 := by rw [HR2.out, if_pos HX]
                clear hpx hnx HX
                go_upto_region 8 with fail
                refine Mx.region [] (Sat [(⟨b, o + k * 2, none⟩, .string xn), (⟨g2, 0, none⟩, .string xn), (⟨g2, 1, none⟩, .string va)]) (by kernel_rfl) (by kernel_rfl) HSa.out ?_
                repeat ((first | (refine Mx.skips (by kernel_rfl) ?_; go_big_quiet_skip) | (refine Mx.quietly rfl ?_; go_big_quiet_want; go_big_quiet_op; go_big_quiet_on)); refine Mx.done ?_)
                refine Mx.cell ⟨b, o + k * 2, none⟩ (.string xn) (by kernel_rfl) (by kernel_rfl) (by kernel_rfl) Tryd.isAgg9 (fun w' h => h 0 _ _ rfl) ?_
                go_big_quiet_want; go_big_quiet_op; go_big_quiet_on; refine Mx.done ?_
                repeat ((first | (refine Mx.skips (by kernel_rfl) ?_; go_big_quiet_skip) | (refine Mx.quietly rfl ?_; go_big_quiet_want; go_big_quiet_op; go_big_quiet_on)); refine Mx.done ?_)
                refine Mx.loudly (by kernel_rfl) (by kernel_rfl) ?_
                go_wp2_with fail
                refine HPx.out.mono ?_
                rintro e w7 ⟨rfl, rfl⟩
                go_wp2_with fail
                refine ⟨HSa.out, ?_⟩
                repeat ((first | (refine Mx.skips (by kernel_rfl) ?_; go_big_quiet_skip) | (refine Mx.quietly rfl ?_; go_big_quiet_want; go_big_quiet_op; go_big_quiet_on)); refine Mx.done ?_)
                refine Mx.cell ⟨b, o + k * 2, none⟩ (.string xn) (by kernel_rfl) (by kernel_rfl) (by kernel_rfl) Tryd.isAgg9 (fun w' h => h 0 _ _ rfl) ?_
                go_big_quiet_want; go_big_quiet_op; go_big_quiet_on; refine Mx.done ?_
                repeat ((first | (refine Mx.skips (by kernel_rfl) ?_; go_big_quiet_skip) | (refine Mx.quietly rfl ?_; go_big_quiet_want; go_big_quiet_op; go_big_quiet_on)); refine Mx.done ?_)
                refine Mx.cell ⟨g2, 0, none⟩ (.string xn) (by kernel_rfl) (by kernel_rfl) (by kernel_rfl) Tryd.isAgg9 (fun w' h => h 1 _ _ rfl) ?_
                go_big_quiet_want; go_big_quiet_op; go_big_quiet_on; refine Mx.done ?_
                repeat ((first | (refine Mx.skips (by kernel_rfl) ?_; go_big_quiet_skip) | (refine Mx.quietly rfl ?_; go_big_quiet_want; go_big_quiet_op; go_big_quiet_on)); refine Mx.done ?_)
                refine Mx.nil ?_
                go_wp2
                go_ret
                exact ⟨rfl, HB2.out.trans (HBd.out.mono HB2.out.size)⟩
              · have y1 := eqS hnx
                have HOn2 := Lib.hid (HOn.out (by rw [badF, ← HXn.out, ← HF.out.1, hpx]; simp [hnx]))
                clear hpx hnx
                go_upto_region 8 with fail
                refine Mx.region [] (Sat [(⟨b, o + k * 2, none⟩, .string xn), (⟨g2, 0, none⟩, .string nm), (⟨g2, 1, none⟩, .string va)]) (by kernel_rfl) (by kernel_rfl) HSa.out ?_
                repeat ((first | (refine Mx.skips (by kernel_rfl) ?_; go_big_quiet_skip) | (refine Mx.quietly rfl ?_; go_big_quiet_want; go_big_quiet_op; go_big_quiet_on)); refine Mx.done ?_)
                refine Mx.cell ⟨b, o + k * 2, none⟩ (.string xn) (by kernel_rfl) (by kernel_rfl) (by kernel_rfl) Tryd.isAgg9 (fun w' h => h 0 _ _ rfl) ?_
                go_big_quiet_want; go_big_quiet_op; go_big_quiet_on; refine Mx.done ?_
                repeat ((first | (refine Mx.skips (by kernel_rfl) ?_; go_big_quiet_skip) | (refine Mx.quietly rfl ?_; go_big_quiet_want; go_big_quiet_op; go_big_quiet_on)); refine Mx.done ?_)
                refine Mx.loudly (by kernel_rfl) (by kernel_rfl) ?_
                go_wp2_with fail
                refine HPx.out.mono ?_
                rintro e w7 ⟨rfl, rfl⟩
                go_wp2_with fail
                refine ⟨HSa.out, ?_⟩
                repeat ((first | (refine Mx.skips (by kernel_rfl) ?_; go_big_quiet_skip) | (refine Mx.quietly rfl ?_; go_big_quiet_want; go_big_quiet_op; go_big_quiet_on)); refine Mx.done ?_)
                refine Mx.cell ⟨b, o + k * 2, none⟩ (.string xn) (by kernel_rfl) (by kernel_rfl) (by kernel_rfl) Tryd.isAgg9 (fun w' h => h 0 _ _ rfl) ?_
                go_big_quiet_want; go_big_quiet_op; go_big_quiet_on; refine Mx.done ?_
                repeat ((first | (refine Mx.skips (by kernel_rfl) ?_; go_big_quiet_skip) | (refine Mx.quietly rfl ?_; go_big_quiet_want; go_big_quiet_op; go_big_quiet_on)); refine Mx.done ?_)
                refine Mx.cell ⟨g2, 0, none⟩ (.string nm) (by kernel_rfl) (by kernel_rfl) (by kernel_rfl) Tryd.isAgg9 (fun w' h => h 1 _ _ rfl) ?_
                go_big_quiet_want; go_big_quiet_op; go_big_quiet_on; refine Mx.done ?_
                repeat ((first | (refine Mx.skips (by kernel_rfl) ?_; go_big_quiet_skip) | (refine Mx.quietly rfl ?_; go_big_quiet_want; go_big_quiet_op; go_big_quiet_on)); refine Mx.done ?_)
                refine Mx.nil ?_
                go_wp2_with fail
                go_roundw
                case rel => exact ⟨k + 1, by first | rfl | (push_cast; rfl), HKi.out, HOn2, HBd.out⟩
                case measure => exact ssj3 HKi.out
            · have hpf : psL (bl xn) = false := by simpa using hpx
              rw [hpf] at HPx
              have HX := HSp.out (by rw [badF, ← HXn.out, hpf]; simp)
              obtain rfl : R = 182 := by rw [HR2.out, if_pos HX]
              clear hpx hpf HX
              go_upto_region 8 with fail
              refine Mx.region [] (Sat [(⟨b, o + k * 2, none⟩, .string xn), (⟨g2, 0, none⟩, .string nm), (⟨g2, 1, none⟩, .string va)]) (by kernel_rfl) (by kernel_rfl) HSa.out ?_
              repeat ((first | (refine Mx.skips (by kernel_rfl) ?_; go_big_quiet_skip) | (refine Mx.quietly rfl ?_; go_big_quiet_want; go_big_quiet_op; go_big_quiet_on)); refine Mx.done ?_)
              refine Mx.cell ⟨b, o + k * 2, none⟩ (.string xn) (by kernel_rfl) (by kernel_rfl) (by kernel_rfl) Tryd.isAgg9 (fun w' h => h 0 _ _ rfl) ?_
              go_big_quiet_want; go_big_quiet_op; go_big_quiet_on; refine Mx.done ?_
              repeat ((first | (refine Mx.skips (by kernel_rfl) ?_; go_big_quiet_skip) | (refine Mx.quietly rfl ?_; go_big_quiet_want; go_big_quiet_op; go_big_quiet_on)); refine Mx.done ?_)
              refine Mx.loudly (by kernel_rfl) (by kernel_rfl) ?_
              go_wp2_with fail
              refine HPx.out.mono ?_
              rintro e w7 ⟨rfl, rfl⟩
              go_wp2_with fail
              refine ⟨HSa.out, ?_⟩
              repeat ((first | (refine Mx.skips (by kernel_rfl) ?_; go_big_quiet_skip) | (refine Mx.quietly rfl ?_; go_big_quiet_want; go_big_quiet_op; go_big_quiet_on)); refine Mx.done ?_)
              refine Mx.nil ?_
              go_wp2
              go_ret
              exact ⟨rfl, HB2.out.trans (HBd.out.mono HB2.out.size)⟩
          · have x1 := inj2 hki
            obtain rfl : k = i := Nat.le_antisymm hk (Nat.le_of_not_lt hki)
            have HRr : Hid (R = restF fs f) := Lib.hid (by rw [HR2.out, HA.out]; rfl)
            have hhd : Has wr g2 64 [.string nm, .string va] := HH2.out.kept (Kept.of_below (X := none') HBr.out) (fun h => h)
            have HBz : Hid (Below w.heap.size w wr) := Lib.hid (HB2.out.trans (HBr.out.mono HB2.out.size))
            have HHz := Lib.hid hhd
            have q0 : wr.cell? ⟨g2, 0, none⟩ = some (.string nm) := hhd.cell 0 rfl
            have q1 : wr.cell? ⟨g2, 1, none⟩ = some (.string va) := hhd.cell 1 rfl
            clear hk hki hhd HA HR2
            go_upto_region 12 with fail
            have HVw := Lib.hid (HVa.out wr)
            have HHp := Lib.hid (hop_any wr nm va)
            obtain ⟨q, hq⟩ : ∃ q, q = lenL (bl va) := ⟨_, rfl⟩
            unfold restF at HRr
            rw [← HF.out.1, ← HF.out.2] at HRr
            by_cases hv : valueL (bl va) = true
            · rw [hv] at HVw
              by_cases hh : hopL (bl nm) (bl va) = true
              · rw [hh] at HHp
                obtain rfl : R = 184 := by rw [HRr.out, hv, if_neg (by decide), if_pos hh]
                clear hv hh hq
                go_wp2_with fail
                refine HVw.out.mono ?_
                rintro e w5 ⟨rfl, rfl⟩
                go_wp2_with fail
                refine HHp.out.mono ?_
                rintro e w6 ⟨rfl, hb6⟩
                have HB6 := Lib.hid (HBz.out.trans (hb6.mono HBz.out.size))
                clear hb6 q0 q1
                go_wp2
                go_ret
                exact ⟨rfl, HB6.out⟩
              · have hhf : hopL (bl nm) (bl va) = false := by simpa using hh
                rw [hhf] at HHp
                by_cases hcl : bl nm = clS
                · obtain ⟨u1, u2⟩ := eqT2 (s := nm) (l := [99, 111, 110, 116, 101, 110, 116, 45, 108, 101, 110, 103, 116, 104]) hcl
                  have HR3 : Hid (R = if lenL (bl va) < 0 ∨ lenL (bl va) ≠ lenL (firstV (findF fs clS)) then 186 else 0) := Lib.hid (by rw [HRr.out, hv, if_neg (by decide), if_neg hh, if_pos hcl])
                  clear hv hh hhf hcl
                  go_wp2_with fail
                  refine HVw.out.mono ?_
                  rintro e w5 ⟨rfl, rfl⟩
                  go_wp2_with fail
                  refine HHp.out.mono ?_
                  rintro e w6 ⟨rfl, hb6⟩
                  have HB6 : Hid (Below w.heap.size w w6) := Lib.hid (HBz.out.trans (hb6.mono HBz.out.size))
                  have hh6 : Has w6 g2 64 [.string nm, .string va] := HHz.out.kept (Kept.of_below (X := none') hb6) (fun h => h)
                  have HLw := Lib.hid (HLn.out w6)
                  rw [← hq] at HLw HR3
                  have HFi := Lib.hid (find_any w6 (HS.out.below HB6.out) ⟨#[99, 111, 110, 116, 101, 110, 116, 45, 108, 101, 110, 103, 116, 104]⟩)
                  rw [show bl ⟨#[99, 111, 110, 116, 101, 110, 116, 45, 108, 101, 110, 103, 116, 104]⟩ = clS from rfl] at HFi
                  obtain ⟨fo, hfo⟩ : ∃ fo, fo = findF fs clS := ⟨_, rfl⟩
                  rw [← hfo] at HFi HR3
                  clear hb6 hfo q0 q1
                  have q0 : w6.cell? ⟨g2, 0, none⟩ = some (.string nm) := hh6.cell 0 rfl
                  have q1 : w6.cell? ⟨g2, 1, none⟩ = some (.string va) := hh6.cell 1 rfl
                  obtain ⟨fv, hfv, hfb⟩ : ∃ fv : ByteArray, (∃ ok : Bool, findV fo = .tuple #[.string fv, .bool ok]) ∧ firstV fo = bl fv := by
                    cases fo with
                    | none => exact ⟨⟨#[]⟩, ⟨false, rfl⟩, rfl⟩
                    | some v => exact ⟨v, ⟨true, rfl⟩, rfl⟩
                  obtain ⟨ok, hfv⟩ := hfv
                  rw [hfv] at HFi
                  have HL2 : Hid (∀ W : World, Calls Tryd.prog 44 #[.string fv] W (Ret W (.int .i64 (lenL (bl fv))))) := Lib.hid (fun W => by have h := length_any W (bl fv); rwa [strB_bl] at h)
                  rw [hfb] at HR3
                  obtain ⟨q2, hq2⟩ : ∃ q2, q2 = lenL (bl fv) := ⟨_, rfl⟩
                  rw [← hq2] at HR3 HL2
                  clear hfv hfb hq2 hq
                  by_cases h1 : q < 0
                  · have y1 : (q < 0) = True := eq_true h1
                    obtain rfl : R = 186 := by rw [HR3.out, if_pos (.inl h1)]
                    clear h1
                    go_wp2_with fail
                    refine HLw.out.mono ?_
                    rintro e w7 ⟨rfl, rfl⟩
                    go_wp2_with fail
                    refine HFi.out.mono ?_
                    rintro e w8 ⟨rfl, rfl⟩
                    go_wp2
                    go_ret
                    exact ⟨rfl, HB6.out⟩
                  · have y1 : (q < 0) = False := eq_false h1
                    by_cases h2 : q = q2
                    · subst q2
                      obtain rfl : R = 0 := by rw [HR3.out, if_neg (by simp [h1])]
                      clear h1
                      go_wp2_with fail
                      refine HLw.out.mono ?_
                      rintro e w7 ⟨rfl, rfl⟩
                      go_wp2_with fail
                      refine HFi.out.mono ?_
                      rintro e w8 ⟨rfl, rfl⟩
                      go_wp2_with fail
                      have HL3 := HL2.out w8
                      refine HL3.mono ?_
                      rintro e w9 ⟨rfl, rfl⟩
                      go_wp2
                      go_ret
                      exact ⟨rfl, HB6.out⟩
                    · obtain rfl : R = 186 := by rw [HR3.out, if_pos (.inr h2)]
                      have y2 : (q == q2) = false := by simpa using h2
                      obtain ⟨y3, y4⟩ := neqs y2
                      clear h1 h2
                      go_wp2_with fail
                      refine HLw.out.mono ?_
                      rintro e w7 ⟨rfl, rfl⟩
                      go_wp2_with fail
                      refine HFi.out.mono ?_
                      rintro e w8 ⟨rfl, rfl⟩
                      go_wp2_with fail
                      have HL3 := HL2.out w8
                      refine HL3.mono ?_
                      rintro e w9 ⟨rfl, rfl⟩
                      go_wp2
                      go_ret
                      exact ⟨rfl, HB6.out⟩
                · obtain ⟨u1, u2⟩ := eqF2 (s := nm) (l := [99, 111, 110, 116, 101, 110, 116, 45, 108, 101, 110, 103, 116, 104]) hcl
                  obtain rfl : R = 0 := by rw [HRr.out, hv, if_neg (by decide), if_neg hh, if_neg hcl]
                  clear hv hh hhf hcl hq
                  go_wp2_with fail
                  refine HVw.out.mono ?_
                  rintro e w5 ⟨rfl, rfl⟩
                  go_wp2_with fail
                  refine HHp.out.mono ?_
                  rintro e w6 ⟨rfl, hb6⟩
                  have HB6 := Lib.hid (HBz.out.trans (hb6.mono HBz.out.size))
                  have hh6 : Has w6 g2 64 [.string nm, .string va] := HHz.out.kept (Kept.of_below (X := none') hb6) (fun h => h)
                  have q0 : w6.cell? ⟨g2, 0, none⟩ = some (.string nm) := hh6.cell 0 rfl
                  clear hb6 hh6
                  go_wp2
                  go_ret
                  exact ⟨rfl, HB6.out⟩
            · have hvf : valueL (bl va) = false := by simpa using hv
              rw [hvf] at HVw
              obtain rfl : R = 181 := by rw [HRr.out, if_pos hvf]
              clear hv hvf hq
              go_wp2_with fail
              refine HVw.out.mono ?_
              rintro e w5 ⟨rfl, rfl⟩
              go_wp2
              go_ret
              exact ⟨rfl, HBz.out⟩
      · obtain ⟨e0, d0⟩ := eqF2 (s := nm) (l := [58, 109, 101, 116, 104, 111, 100]) (by rw [h]; decide)
        obtain ⟨e1, d1⟩ := eqF2 (s := nm) (l := [58, 115, 99, 104, 101, 109, 101]) (by rw [h]; decide)
        obtain ⟨e2, d2⟩ := eqF2 (s := nm) (l := [58, 97, 117, 116, 104, 111, 114, 105, 116, 121]) (by rw [h]; decide)
        obtain ⟨e3, d3⟩ := eqT2 (s := nm) (l := [58, 112, 97, 116, 104]) h
        go_upto_region 6 with fail
        clear e0 e1 e2 e3 d0 d1 d2 d3 q0 q1
        go_loopw [6] (fun v wr => ∃ k : Nat, v = .int .i64 (k : Int) ∧ k ≤ i ∧ Hid ((fs.take k).any (badF f) = false) ∧ Below w3.heap.size w3 wr) (fun v _ => i - (intOf v).toNat)
        case atStart => exact ⟨0, rfl, Nat.zero_le _, Lib.hid rfl, Below.refl _ _⟩
        case round =>
          obtain ⟨k, rfl, hk, HA, hb⟩ := hrel
          have HBr := Lib.hid hb
          clear hb
          by_cases hki : k < i
          · have HKi := Lib.hid hki
            obtain ⟨x1, x2, x3⟩ := inj1 hki (Nat.le_trans (Nat.le_of_lt HIn.out) HM.out)
            have hkl : k < fs.length := by rw [HL.out]; exact Nat.lt_trans hki HIn.out
            have hkn : (k : Int) < (n : Int) := by have := HIn.out; omega
            obtain ⟨p0, p1⟩ := HC.out k hkl
            have HOn : Hid (badF f fs[k] = false → (fs.take (k + 1)).any (badF f) = false) := Lib.hid (any_on hkl HA.out)
            have HSp : Hid (badF f fs[k] = true → (fs.take i).any (badF f) = true) := Lib.hid (any_stop hkl hki)
            obtain ⟨g, hg⟩ : ∃ g, g = fs[k] := ⟨_, rfl⟩
            rw [← hg] at p0 p1 HOn HSp
            obtain ⟨xn, hxn⟩ : ∃ xn, xn = g.nm := ⟨_, rfl⟩
            rw [← hxn] at p0
            have HXn := Lib.hid hxn
            have hbd : Below w3.heap.size w3 wr.drew := HBr.out.trans ((below_drewN (Below.refl wr.heap.size wr) 1).mono HBr.out.size)
            have HBd := Lib.hid hbd
            have hbw : Below w.heap.size w wr.drew := HB2.out.trans (hbd.mono HB2.out.size)
            have hhd : Has wr.drew g2 64 [.string nm, .string va] := HH2.out.kept (Kept.of_below (X := none') hbd) (fun h => h)
            rw [← hbw.cell (World.block_lt_of_cell? _ _ p0)] at p0
            have HSa : Hid (Sat [(⟨b, o + k * 2, none⟩, .string xn), (⟨g2, 0, none⟩, .string nm), (⟨g2, 1, none⟩, .string va)] wr.drew) := Lib.hid (Sat.cons p0 (Sat.cons (hhd.cell 0 rfl) (Sat.cons (hhd.cell 1 rfl) (Sat.nil _))))
            have HPx : Hid (Calls Tryd.prog 45 #[.string xn] wr.drew (Ret wr.drew (.bool (psL (bl xn))))) := Lib.hid (by have h := pseudo_any wr.drew (bl xn); rwa [strB_bl] at h)
            clear hk hki hkl p0 p1 hg hxn hbd hbw hhd HA
            by_cases hpx : psL (bl xn) = true
            · rw [hpx] at HPx
              by_cases hnx : bl xn = bl nm
              · obtain rfl : xn = nm := eqS' hnx
                have HX := HSp.out (by rw [badF, ← HXn.out, ← HF.out.1]; simp)
                obtain rfl : R = 182 := by rw [HR2.out, if_pos HX]
                clear hpx hnx HX
                go_upto_region 8 with fail
                refine Mx.region [] (Sat [(⟨b, o + k * 2, none⟩, .string xn), (⟨g2, 0, none⟩, .string xn), (⟨g2, 1, none⟩, .string va)]) (by kernel_rfl) (by kernel_rfl) HSa.out ?_
                repeat ((first | (refine Mx.skips (by kernel_rfl) ?_; go_big_quiet_skip) | (refine Mx.quietly rfl ?_; go_big_quiet_want; go_big_quiet_op; go_big_quiet_on)); refine Mx.done ?_)
                refine Mx.cell ⟨b, o + k * 2, none⟩ (.string xn) (by kernel_rfl) (by kernel_rfl) (by kernel_rfl) Tryd.isAgg9 (fun w' h => h 0 _ _ rfl) ?_
                go_big_quiet_want; go_big_quiet_op; go_big_quiet_on; refine Mx.done ?_
                repeat ((first | (refine Mx.skips (by kernel_rfl) ?_; go_big_quiet_skip) | (refine Mx.quietly rfl ?_; go_big_quiet_want; go_big_quiet_op; go_big_quiet_on)); refine Mx.done ?_)
                refine Mx.loudly (by kernel_rfl) (by kernel_rfl) ?_
                go_wp2_with fail
                refine HPx.out.mono ?_
                rintro e w7 ⟨rfl, rfl⟩
                go_wp2_with fail
                refine ⟨HSa.out, ?_⟩
                repeat ((first | (refine Mx.skips (by kernel_rfl) ?_; go_big_quiet_skip) | (refine Mx.quietly rfl ?_; go_big_quiet_want; go_big_quiet_op; go_big_quiet_on)); refine Mx.done ?_)
                refine Mx.cell ⟨b, o + k * 2, none⟩ (.string xn) (by kernel_rfl) (by kernel_rfl) (by kernel_rfl) Tryd.isAgg9 (fun w' h => h 0 _ _ rfl) ?_
                go_big_quiet_want; go_big_quiet_op; go_big_quiet_on; refine Mx.done ?_
                repeat ((first | (refine Mx.skips (by kernel_rfl) ?_; go_big_quiet_skip) | (refine Mx.quietly rfl ?_; go_big_quiet_want; go_big_quiet_op; go_big_quiet_on)); refine Mx.done ?_)
                refine Mx.cell ⟨g2, 0, none⟩ (.string xn) (by kernel_rfl) (by kernel_rfl) (by kernel_rfl) Tryd.isAgg9 (fun w' h => h 1 _ _ rfl) ?_
                go_big_quiet_want; go_big_quiet_op; go_big_quiet_on; refine Mx.done ?_
                repeat ((first | (refine Mx.skips (by kernel_rfl) ?_; go_big_quiet_skip) | (refine Mx.quietly rfl ?_; go_big_quiet_want; go_big_quiet_op; go_big_quiet_on)); refine Mx.done ?_)
                refine Mx.nil ?_
                go_wp2
                go_ret
                exact ⟨rfl, HB2.out.trans (HBd.out.mono HB2.out.size)⟩
              · have y1 := eqS hnx
                have HOn2 := Lib.hid (HOn.out (by rw [badF, ← HXn.out, ← HF.out.1, hpx]; simp [hnx]))
                clear hpx hnx
                go_upto_region 8 with fail
                refine Mx.region [] (Sat [(⟨b, o + k * 2, none⟩, .string xn), (⟨g2, 0, none⟩, .string nm), (⟨g2, 1, none⟩, .string va)]) (by kernel_rfl) (by kernel_rfl) HSa.out ?_
                repeat ((first | (refine Mx.skips (by kernel_rfl) ?_; go_big_quiet_skip) | (refine Mx.quietly rfl ?_; go_big_quiet_want; go_big_quiet_op; go_big_quiet_on)); refine Mx.done ?_)
                refine Mx.cell ⟨b, o + k * 2, none⟩ (.string xn) (by kernel_rfl) (by kernel_rfl) (by kernel_rfl) Tryd.isAgg9 (fun w' h => h 0 _ _ rfl) ?_
                go_big_quiet_want; go_big_quiet_op; go_big_quiet_on; refine Mx.done ?_
                repeat ((first | (refine Mx.skips (by kernel_rfl) ?_; go_big_quiet_skip) | (refine Mx.quietly rfl ?_; go_big_quiet_want; go_big_quiet_op; go_big_quiet_on)); refine Mx.done ?_)
                refine Mx.loudly (by kernel_rfl) (by kernel_rfl) ?_
                go_wp2_with fail
                refine HPx.out.mono ?_
                rintro e w7 ⟨rfl, rfl⟩
                go_wp2_with fail
                refine ⟨HSa.out, ?_⟩
                repeat ((first | (refine Mx.skips (by kernel_rfl) ?_; go_big_quiet_skip) | (refine Mx.quietly rfl ?_; go_big_quiet_want; go_big_quiet_op; go_big_quiet_on)); refine Mx.done ?_)
                refine Mx.cell ⟨b, o + k * 2, none⟩ (.string xn) (by kernel_rfl) (by kernel_rfl) (by kernel_rfl) Tryd.isAgg9 (fun w' h => h 0 _ _ rfl) ?_
                go_big_quiet_want; go_big_quiet_op; go_big_quiet_on; refine Mx.done ?_
                repeat ((first | (refine Mx.skips (by kernel_rfl) ?_; go_big_quiet_skip) | (refine Mx.quietly rfl ?_; go_big_quiet_want; go_big_quiet_op; go_big_quiet_on)); refine Mx.done ?_)
                refine Mx.cell ⟨g2, 0, none⟩ (.string nm) (by kernel_rfl) (by kernel_rfl) (by kernel_rfl) Tryd.isAgg9 (fun w' h => h 1 _ _ rfl) ?_
                go_big_quiet_want; go_big_quiet_op; go_big_quiet_on; refine Mx.done ?_
                repeat ((first | (refine Mx.skips (by kernel_rfl) ?_; go_big_quiet_skip) | (refine Mx.quietly rfl ?_; go_big_quiet_want; go_big_quiet_op; go_big_quiet_on)); refine Mx.done ?_)
                refine Mx.nil ?_
                go_wp2_with fail
                go_roundw
                case rel => exact ⟨k + 1, by first | rfl | (push_cast; rfl), HKi.out, HOn2, HBd.out⟩
                case measure => exact ssj3 HKi.out
            · have hpf : psL (bl xn) = false := by simpa using hpx
              rw [hpf] at HPx
              have HX := HSp.out (by rw [badF, ← HXn.out, hpf]; simp)
              obtain rfl : R = 182 := by rw [HR2.out, if_pos HX]
              clear hpx hpf HX
              go_upto_region 8 with fail
              refine Mx.region [] (Sat [(⟨b, o + k * 2, none⟩, .string xn), (⟨g2, 0, none⟩, .string nm), (⟨g2, 1, none⟩, .string va)]) (by kernel_rfl) (by kernel_rfl) HSa.out ?_
              repeat ((first | (refine Mx.skips (by kernel_rfl) ?_; go_big_quiet_skip) | (refine Mx.quietly rfl ?_; go_big_quiet_want; go_big_quiet_op; go_big_quiet_on)); refine Mx.done ?_)
              refine Mx.cell ⟨b, o + k * 2, none⟩ (.string xn) (by kernel_rfl) (by kernel_rfl) (by kernel_rfl) Tryd.isAgg9 (fun w' h => h 0 _ _ rfl) ?_
              go_big_quiet_want; go_big_quiet_op; go_big_quiet_on; refine Mx.done ?_
              repeat ((first | (refine Mx.skips (by kernel_rfl) ?_; go_big_quiet_skip) | (refine Mx.quietly rfl ?_; go_big_quiet_want; go_big_quiet_op; go_big_quiet_on)); refine Mx.done ?_)
              refine Mx.loudly (by kernel_rfl) (by kernel_rfl) ?_
              go_wp2_with fail
              refine HPx.out.mono ?_
              rintro e w7 ⟨rfl, rfl⟩
              go_wp2_with fail
              refine ⟨HSa.out, ?_⟩
              repeat ((first | (refine Mx.skips (by kernel_rfl) ?_; go_big_quiet_skip) | (refine Mx.quietly rfl ?_; go_big_quiet_want; go_big_quiet_op; go_big_quiet_on)); refine Mx.done ?_)
              refine Mx.nil ?_
              go_wp2
              go_ret
              exact ⟨rfl, HB2.out.trans (HBd.out.mono HB2.out.size)⟩
          · have x1 := inj2 hki
            obtain rfl : k = i := Nat.le_antisymm hk (Nat.le_of_not_lt hki)
            have HRr : Hid (R = restF fs f) := Lib.hid (by rw [HR2.out, HA.out]; rfl)
            have hhd : Has wr g2 64 [.string nm, .string va] := HH2.out.kept (Kept.of_below (X := none') HBr.out) (fun h => h)
            have HBz : Hid (Below w.heap.size w wr) := Lib.hid (HB2.out.trans (HBr.out.mono HB2.out.size))
            have HHz := Lib.hid hhd
            have q0 : wr.cell? ⟨g2, 0, none⟩ = some (.string nm) := hhd.cell 0 rfl
            have q1 : wr.cell? ⟨g2, 1, none⟩ = some (.string va) := hhd.cell 1 rfl
            clear hk hki hhd HA HR2
            go_upto_region 12 with fail
            have HVw := Lib.hid (HVa.out wr)
            have HHp := Lib.hid (hop_any wr nm va)
            obtain ⟨q, hq⟩ : ∃ q, q = lenL (bl va) := ⟨_, rfl⟩
            unfold restF at HRr
            rw [← HF.out.1, ← HF.out.2] at HRr
            by_cases hv : valueL (bl va) = true
            · rw [hv] at HVw
              by_cases hh : hopL (bl nm) (bl va) = true
              · rw [hh] at HHp
                obtain rfl : R = 184 := by rw [HRr.out, hv, if_neg (by decide), if_pos hh]
                clear hv hh hq
                go_wp2_with fail
                refine HVw.out.mono ?_
                rintro e w5 ⟨rfl, rfl⟩
                go_wp2_with fail
                refine HHp.out.mono ?_
                rintro e w6 ⟨rfl, hb6⟩
                have HB6 := Lib.hid (HBz.out.trans (hb6.mono HBz.out.size))
                clear hb6 q0 q1
                go_wp2
                go_ret
                exact ⟨rfl, HB6.out⟩
              · have hhf : hopL (bl nm) (bl va) = false := by simpa using hh
                rw [hhf] at HHp
                by_cases hcl : bl nm = clS
                · obtain ⟨u1, u2⟩ := eqT2 (s := nm) (l := [99, 111, 110, 116, 101, 110, 116, 45, 108, 101, 110, 103, 116, 104]) hcl
                  have HR3 : Hid (R = if lenL (bl va) < 0 ∨ lenL (bl va) ≠ lenL (firstV (findF fs clS)) then 186 else 0) := Lib.hid (by rw [HRr.out, hv, if_neg (by decide), if_neg hh, if_pos hcl])
                  clear hv hh hhf hcl
                  go_wp2_with fail
                  refine HVw.out.mono ?_
                  rintro e w5 ⟨rfl, rfl⟩
                  go_wp2_with fail
                  refine HHp.out.mono ?_
                  rintro e w6 ⟨rfl, hb6⟩
                  have HB6 : Hid (Below w.heap.size w w6) := Lib.hid (HBz.out.trans (hb6.mono HBz.out.size))
                  have hh6 : Has w6 g2 64 [.string nm, .string va] := HHz.out.kept (Kept.of_below (X := none') hb6) (fun h => h)
                  have HLw := Lib.hid (HLn.out w6)
                  rw [← hq] at HLw HR3
                  have HFi := Lib.hid (find_any w6 (HS.out.below HB6.out) ⟨#[99, 111, 110, 116, 101, 110, 116, 45, 108, 101, 110, 103, 116, 104]⟩)
                  rw [show bl ⟨#[99, 111, 110, 116, 101, 110, 116, 45, 108, 101, 110, 103, 116, 104]⟩ = clS from rfl] at HFi
                  obtain ⟨fo, hfo⟩ : ∃ fo, fo = findF fs clS := ⟨_, rfl⟩
                  rw [← hfo] at HFi HR3
                  clear hb6 hfo q0 q1
                  have q0 : w6.cell? ⟨g2, 0, none⟩ = some (.string nm) := hh6.cell 0 rfl
                  have q1 : w6.cell? ⟨g2, 1, none⟩ = some (.string va) := hh6.cell 1 rfl
                  obtain ⟨fv, hfv, hfb⟩ : ∃ fv : ByteArray, (∃ ok : Bool, findV fo = .tuple #[.string fv, .bool ok]) ∧ firstV fo = bl fv := by
                    cases fo with
                    | none => exact ⟨⟨#[]⟩, ⟨false, rfl⟩, rfl⟩
                    | some v => exact ⟨v, ⟨true, rfl⟩, rfl⟩
                  obtain ⟨ok, hfv⟩ := hfv
                  rw [hfv] at HFi
                  have HL2 : Hid (∀ W : World, Calls Tryd.prog 44 #[.string fv] W (Ret W (.int .i64 (lenL (bl fv))))) := Lib.hid (fun W => by have h := length_any W (bl fv); rwa [strB_bl] at h)
                  rw [hfb] at HR3
                  obtain ⟨q2, hq2⟩ : ∃ q2, q2 = lenL (bl fv) := ⟨_, rfl⟩
                  rw [← hq2] at HR3 HL2
                  clear hfv hfb hq2 hq
                  by_cases h1 : q < 0
                  · have y1 : (q < 0) = True := eq_true h1
                    obtain rfl : R = 186 := by rw [HR3.out, if_pos (.inl h1)]
                    clear h1
                    go_wp2_with fail
                    refine HLw.out.mono ?_
                    rintro e w7 ⟨rfl, rfl⟩
                    go_wp2_with fail
                    refine HFi.out.mono ?_
                    rintro e w8 ⟨rfl, rfl⟩
                    go_wp2
                    go_ret
                    exact ⟨rfl, HB6.out⟩
                  · have y1 : (q < 0) = False := eq_false h1
                    by_cases h2 : q = q2
                    · subst q2
                      obtain rfl : R = 0 := by rw [HR3.out, if_neg (by simp [h1])]
                      clear h1
                      go_wp2_with fail
                      refine HLw.out.mono ?_
                      rintro e w7 ⟨rfl, rfl⟩
                      go_wp2_with fail
                      refine HFi.out.mono ?_
                      rintro e w8 ⟨rfl, rfl⟩
                      go_wp2_with fail
                      have HL3 := HL2.out w8
                      refine HL3.mono ?_
                      rintro e w9 ⟨rfl, rfl⟩
                      go_wp2
                      go_ret
                      exact ⟨rfl, HB6.out⟩
                    · obtain rfl : R = 186 := by rw [HR3.out, if_pos (.inr h2)]
                      have y2 : (q == q2) = false := by simpa using h2
                      obtain ⟨y3, y4⟩ := neqs y2
                      clear h1 h2
                      go_wp2_with fail
                      refine HLw.out.mono ?_
                      rintro e w7 ⟨rfl, rfl⟩
                      go_wp2_with fail
                      refine HFi.out.mono ?_
                      rintro e w8 ⟨rfl, rfl⟩
                      go_wp2_with fail
                      have HL3 := HL2.out w8
                      refine HL3.mono ?_
                      rintro e w9 ⟨rfl, rfl⟩
                      go_wp2
                      go_ret
                      exact ⟨rfl, HB6.out⟩
                · obtain ⟨u1, u2⟩ := eqF2 (s := nm) (l := [99, 111, 110, 116, 101, 110, 116, 45, 108, 101, 110, 103, 116, 104]) hcl
                  obtain rfl : R = 0 := by rw [HRr.out, hv, if_neg (by decide), if_neg hh, if_neg hcl]
                  clear hv hh hhf hcl hq
                  go_wp2_with fail
                  refine HVw.out.mono ?_
                  rintro e w5 ⟨rfl, rfl⟩
                  go_wp2_with fail
                  refine HHp.out.mono ?_
                  rintro e w6 ⟨rfl, hb6⟩
                  have HB6 := Lib.hid (HBz.out.trans (hb6.mono HBz.out.size))
                  have hh6 : Has w6 g2 64 [.string nm, .string va] := HHz.out.kept (Kept.of_below (X := none') hb6) (fun h => h)
                  have q0 : w6.cell? ⟨g2, 0, none⟩ = some (.string nm) := hh6.cell 0 rfl
                  clear hb6 hh6
                  go_wp2
                  go_ret
                  exact ⟨rfl, HB6.out⟩
            · have hvf : valueL (bl va) = false := by simpa using hv
              rw [hvf] at HVw
              obtain rfl : R = 181 := by rw [HRr.out, if_pos hvf]
              clear hv hvf hq
              go_wp2_with fail
              refine HVw.out.mono ?_
              rintro e w5 ⟨rfl, rfl⟩
              go_wp2
              go_ret
              exact ⟨rfl, HBz.out⟩
    · obtain rfl : R = 182 := by rw [HR.out, oneF, ← HF.out.1, if_pos hps, if_pos hin4]
      simp only [pseS, List.mem_cons, List.not_mem_nil, or_false, not_or] at hin4
      obtain ⟨h0, h1, h2, h3⟩ := hin4
      obtain ⟨e0, d0⟩ := eqF2 h0
      obtain ⟨e1, d1⟩ := eqF2 h1
      obtain ⟨e2, d2⟩ := eqF2 h2
      obtain ⟨e3, d3⟩ := eqF2 h3
      clear h0 h1 h2 h3 hps
      go_wp2_with fail
      refine HPw.out.mono ?_
      rintro e w3 ⟨rfl, rfl⟩
      go_wp2
      go_ret
      exact ⟨rfl, HB2.out⟩
  · have hpf : psL (bl nm) = false := by simpa using hps
    have HPw := Lib.hid (HPs.out w2)
    rw [hpf] at HPw
    have HNw := Lib.hid (HNm.out w2)
    by_cases hn : nameL (bl nm) = true
    · have HRr : Hid (R = restF fs f) := Lib.hid (by rw [HR.out, oneF, ← HF.out.1, if_neg hps, hn, if_neg (by decide)])
      rw [hn] at HNw
      clear hps hpf hn
      go_wp2_with fail
      refine HPw.out.mono ?_
      rintro e w3 ⟨rfl, rfl⟩
      go_wp2_with fail
      refine HNw.out.mono ?_
      rintro e w3 ⟨rfl, rfl⟩
      go_upto_region 12 with fail
      have HVw := Lib.hid (HVa.out w3)
      have HHp := Lib.hid (hop_any w3 nm va)
      obtain ⟨q, hq⟩ : ∃ q, q = lenL (bl va) := ⟨_, rfl⟩
      unfold restF at HRr
      rw [← HF.out.1, ← HF.out.2] at HRr
      by_cases hv : valueL (bl va) = true
      · rw [hv] at HVw
        by_cases hh : hopL (bl nm) (bl va) = true
        · rw [hh] at HHp
          obtain rfl : R = 184 := by rw [HRr.out, hv, if_neg (by decide), if_pos hh]
          clear hv hh hq
          go_wp2_with fail
          refine HVw.out.mono ?_
          rintro e w5 ⟨rfl, rfl⟩
          go_wp2_with fail
          refine HHp.out.mono ?_
          rintro e w6 ⟨rfl, hb6⟩
          have HB6 := Lib.hid (HB2.out.trans (hb6.mono HB2.out.size))
          clear hb6 q0 q1
          go_wp2
          go_ret
          exact ⟨rfl, HB6.out⟩
        · have hhf : hopL (bl nm) (bl va) = false := by simpa using hh
          rw [hhf] at HHp
          by_cases hcl : bl nm = clS
          · obtain ⟨u1, u2⟩ := eqT2 (s := nm) (l := [99, 111, 110, 116, 101, 110, 116, 45, 108, 101, 110, 103, 116, 104]) hcl
            have HR3 : Hid (R = if lenL (bl va) < 0 ∨ lenL (bl va) ≠ lenL (firstV (findF fs clS)) then 186 else 0) := Lib.hid (by rw [HRr.out, hv, if_neg (by decide), if_neg hh, if_pos hcl])
            clear hv hh hhf hcl
            go_wp2_with fail
            refine HVw.out.mono ?_
            rintro e w5 ⟨rfl, rfl⟩
            go_wp2_with fail
            refine HHp.out.mono ?_
            rintro e w6 ⟨rfl, hb6⟩
            have HB6 : Hid (Below w.heap.size w w6) := Lib.hid (HB2.out.trans (hb6.mono HB2.out.size))
            have hh6 : Has w6 g2 64 [.string nm, .string va] := HH2.out.kept (Kept.of_below (X := none') hb6) (fun h => h)
            have HLw := Lib.hid (HLn.out w6)
            rw [← hq] at HLw HR3
            have HFi := Lib.hid (find_any w6 (HS.out.below HB6.out) ⟨#[99, 111, 110, 116, 101, 110, 116, 45, 108, 101, 110, 103, 116, 104]⟩)
            rw [show bl ⟨#[99, 111, 110, 116, 101, 110, 116, 45, 108, 101, 110, 103, 116, 104]⟩ = clS from rfl] at HFi
            obtain ⟨fo, hfo⟩ : ∃ fo, fo = findF fs clS := ⟨_, rfl⟩
            rw [← hfo] at HFi HR3
            clear hb6 hfo q0 q1
            have q0 : w6.cell? ⟨g2, 0, none⟩ = some (.string nm) := hh6.cell 0 rfl
            have q1 : w6.cell? ⟨g2, 1, none⟩ = some (.string va) := hh6.cell 1 rfl
            obtain ⟨fv, hfv, hfb⟩ : ∃ fv : ByteArray, (∃ ok : Bool, findV fo = .tuple #[.string fv, .bool ok]) ∧ firstV fo = bl fv := by
              cases fo with
              | none => exact ⟨⟨#[]⟩, ⟨false, rfl⟩, rfl⟩
              | some v => exact ⟨v, ⟨true, rfl⟩, rfl⟩
            obtain ⟨ok, hfv⟩ := hfv
            rw [hfv] at HFi
            have HL2 : Hid (∀ W : World, Calls Tryd.prog 44 #[.string fv] W (Ret W (.int .i64 (lenL (bl fv))))) := Lib.hid (fun W => by have h := length_any W (bl fv); rwa [strB_bl] at h)
            rw [hfb] at HR3
            obtain ⟨q2, hq2⟩ : ∃ q2, q2 = lenL (bl fv) := ⟨_, rfl⟩
            rw [← hq2] at HR3 HL2
            clear hfv hfb hq2 hq
            by_cases h1 : q < 0
            · have y1 : (q < 0) = True := eq_true h1
              obtain rfl : R = 186 := by rw [HR3.out, if_pos (.inl h1)]
              clear h1
              go_wp2_with fail
              refine HLw.out.mono ?_
              rintro e w7 ⟨rfl, rfl⟩
              go_wp2_with fail
              refine HFi.out.mono ?_
              rintro e w8 ⟨rfl, rfl⟩
              go_wp2
              go_ret
              exact ⟨rfl, HB6.out⟩
            · have y1 : (q < 0) = False := eq_false h1
              by_cases h2 : q = q2
              · subst q2
                obtain rfl : R = 0 := by rw [HR3.out, if_neg (by simp [h1])]
                clear h1
                go_wp2_with fail
                refine HLw.out.mono ?_
                rintro e w7 ⟨rfl, rfl⟩
                go_wp2_with fail
                refine HFi.out.mono ?_
                rintro e w8 ⟨rfl, rfl⟩
                go_wp2_with fail
                have HL3 := HL2.out w8
                refine HL3.mono ?_
                rintro e w9 ⟨rfl, rfl⟩
                go_wp2
                go_ret
                exact ⟨rfl, HB6.out⟩
              · obtain rfl : R = 186 := by rw [HR3.out, if_pos (.inr h2)]
                have y2 : (q == q2) = false := by simpa using h2
                obtain ⟨y3, y4⟩ := neqs y2
                clear h1 h2
                go_wp2_with fail
                refine HLw.out.mono ?_
                rintro e w7 ⟨rfl, rfl⟩
                go_wp2_with fail
                refine HFi.out.mono ?_
                rintro e w8 ⟨rfl, rfl⟩
                go_wp2_with fail
                have HL3 := HL2.out w8
                refine HL3.mono ?_
                rintro e w9 ⟨rfl, rfl⟩
                go_wp2
                go_ret
                exact ⟨rfl, HB6.out⟩
          · obtain ⟨u1, u2⟩ := eqF2 (s := nm) (l := [99, 111, 110, 116, 101, 110, 116, 45, 108, 101, 110, 103, 116, 104]) hcl
            obtain rfl : R = 0 := by rw [HRr.out, hv, if_neg (by decide), if_neg hh, if_neg hcl]
            clear hv hh hhf hcl hq
            go_wp2_with fail
            refine HVw.out.mono ?_
            rintro e w5 ⟨rfl, rfl⟩
            go_wp2_with fail
            refine HHp.out.mono ?_
            rintro e w6 ⟨rfl, hb6⟩
            have HB6 := Lib.hid (HB2.out.trans (hb6.mono HB2.out.size))
            have hh6 : Has w6 g2 64 [.string nm, .string va] := HH2.out.kept (Kept.of_below (X := none') hb6) (fun h => h)
            have q0 : w6.cell? ⟨g2, 0, none⟩ = some (.string nm) := hh6.cell 0 rfl
            clear hb6 hh6
            go_wp2
            go_ret
            exact ⟨rfl, HB6.out⟩
      · have hvf : valueL (bl va) = false := by simpa using hv
        rw [hvf] at HVw
        obtain rfl : R = 181 := by rw [HRr.out, if_pos hvf]
        clear hv hvf hq
        go_wp2_with fail
        refine HVw.out.mono ?_
        rintro e w5 ⟨rfl, rfl⟩
        go_wp2
        go_ret
        exact ⟨rfl, HB2.out⟩
    · have hnf : nameL (bl nm) = false := by simpa using hn
      obtain rfl : R = 180 := by rw [HR.out, oneF, ← HF.out.1, if_neg hps, if_pos hnf]
      rw [hnf] at HNw
      clear hps hpf hn hnf
      go_wp2_with fail
      refine HPw.out.mono ?_
      rintro e w3 ⟨rfl, rfl⟩
      go_wp2_with fail
      refine HNw.out.mono ?_
      rintro e w3 ⟨rfl, rfl⟩
      go_wp2
      go_ret
      exact ⟨rfl, HB2.out⟩
end Go.Proofs.YtohinaohcndndaaDoor

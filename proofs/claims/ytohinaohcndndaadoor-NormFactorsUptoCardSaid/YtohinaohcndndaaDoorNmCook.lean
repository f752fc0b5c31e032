/- norm.cookies: the values of the cookie fields, joined. Conditions: the sizes. -/
import Derived.Test.YtohinaohcndndaaDoorNmFrm
import Derived.Test.YtohinaohcndndaaDoorNmBuf
namespace Go.Proofs.YtohinaohcndndaaDoor
open Go.RowKit

/-- the cookie fields' values -/
def ckl (l : List Fd) : List ByteArray := (l.filter fun f => decide (bl f.nm = [99, 111, 111, 107, 105, 101])).map (·.va)
theorem ckl_take (l : List Fd) (i : Nat) (h : i < l.length) : ckl (l.take (i + 1)) = ckl (l.take i) ++ (if bl l[i].nm = [99, 111, 111, 107, 105, 101] then [l[i].va] else []) := by
  unfold ckl
  rw [List.take_succ_eq_append_getElem h, List.filter_append, List.map_append]
  congr 1
  by_cases hc : bl l[i].nm = [99, 111, 111, 107, 105, 101]
  · simp [hc]
  · simp [hc]
theorem ckl_le (l : List Fd) (i : Nat) : (ckl (l.take i)).length ≤ l.length := by
  unfold ckl
  rw [List.length_map]
  exact Nat.le_trans (List.length_filter_le _ _) (by rw [List.length_take]; exact Nat.min_le_right _ _)
def cookL (l : List Fd) : List UInt8 := Lib.join ((ckl l).map (·.data.toList)) [59, 32]
theorem infoStr : (Tryd.prog.info? 9).map (fun i => (i.zero, i.size, i.bytes)) = some (some (.string .empty), 1, 16) := by kernel_rfl
theorem tyStr : ETy Tryd.prog 96 9 (.string .empty) 16 := by
  obtain ⟨i, hi, hz, hs, hb⟩ := info_parts infoStr
  exact ⟨Tryd.underlying96, ⟨i, hi, hz, hs, hb⟩, rfl⟩
theorem ckj1 {a n : Nat} (h : a ≤ n) (hn : n ≤ 1099511627776) : (a + 1) * 16 ≤ 140737488355328 ∧ a + 1 ≤ maxLen := by unfold maxLen; omega
set_option maxRecDepth 100000 in
theorem cookies_any (w : World) {a : Option Addr} {n c : Nat} {l : List Fd} (h : SlS w a n c l) (hn : n ≤ 1099511627776) (hb : (cookL l).length ≤ 140737488355328) :
    Calls Tryd.prog 34 #[.slice a n c] w (StrOf w (cookL l)) := by
  obtain ⟨R, hR⟩ : ∃ R, R = cookL l := ⟨_, rfl⟩
  rw [← hR]
  rw [← hR] at hb
  have HR := Lib.hid hR
  have HB := Lib.hid hb
  have HS := Lib.hid h
  have HN := Lib.hid hn
  have HL := Lib.hid h.len
  clear h hn hb hR
  go_enter Tryd.func34, Tryd.ntmps34
  go_wp2_with fail
  go_loopw [3, 8] (fun av v wr => ∃ (i m : Nat) (a' : Option Addr) (c' : Nat), v = .int .i64 (i : Int) ∧ i ≤ n ∧ av = .slice a' m c' ∧ Hid (m = (ckl (l.take i)).length) ∧ wr.ownsRow w.heap.size 9 1 (.slice a' m c') m ((ckl (l.take i)).map Value.string) ∧ Below w.heap.size w wr) (fun _ v _ => n - (intOf v).toNat)
  case atStart => exact ⟨0, 0, none, 0, rfl, Nat.zero_le _, rfl, Lib.hid (by simp [ckl]), by simpa [ckl] using World.ownsRow_nil _ _ _ _, Below.refl _ _⟩
  case round =>
    obtain ⟨i, m, a', c', rfl, hi, rfl, HM, ho, hbw⟩ := hrel
    have HO := Lib.hid ho
    have HBw := Lib.hid hbw
    have HBs : Hid (w.heap.size ≤ wr.heap.size) := Lib.hid hbw.size
    clear ho hbw
    by_cases hin : i < n
    · have HI := Lib.hid hin
      obtain ⟨z1, z2, z3, z4⟩ := nbj1 hin (Nat.le_trans HN.out (by decide))
      have hil : i < l.length := by rw [HL.out]; exact hin
      obtain ⟨b, o, rfl, hc⟩ := HS.out.cells (Nat.lt_of_le_of_lt (Nat.zero_le _) hin)
      obtain ⟨p0, p1⟩ := hc i hil
      rw [← HBw.out.cell (World.block_lt_of_cell? _ _ p0)] at p0
      rw [← HBw.out.cell (World.block_lt_of_cell? _ _ p1)] at p1
      have htk := ckl_take l i hil
      have hmm := ckl_le l i
      rw [← HM.out, HL.out] at hmm
      obtain ⟨s1, s2⟩ := ckj1 hmm HN.out
      obtain ⟨nm, hnm⟩ : ∃ nm, nm = l[i].nm := ⟨_, rfl⟩
      obtain ⟨va, hva⟩ : ∃ va, va = l[i].va := ⟨_, rfl⟩
      rw [← hnm] at p0 htk
      rw [← hva] at p1 htk
      have HT := Lib.hid htk
      have HS1 := Lib.hid s1
      have HS2 := Lib.hid s2
      clear hi hin hc htk hil hnm hva hmm s1 s2
      go_upto_region 5 with fail
      obtain ⟨w2, hw2⟩ : ∃ w2, w2 = wr.alloc (.cells #[.string nm, .string va] 64) := ⟨_, rfl⟩
      have HH2 : Hid (Has w2 wr.heap.size 64 [.string nm, .string va]) := Lib.hid (by rw [hw2]; exact Has.new wr 64 #[.string nm, .string va])
      have hb2 : Below wr.heap.size wr w2 := by rw [hw2]; exact (Below.refl _ wr).alloc (Nat.le_refl _) _
      have HB2 : Hid (Below w.heap.size w w2) := Lib.hid (HBw.out.trans (hb2.mono HBs.out))
      have HBs2 : Hid (w.heap.size ≤ w2.heap.size) := Lib.hid (Nat.le_trans HBs.out hb2.size)
      have HO2 := Lib.hid (own_below HO.out hb2)
      have q0 : w2.cell? ⟨wr.heap.size, 0, none⟩ = some (.string nm) := HH2.out.cell 0 rfl
      have q1 : w2.cell? ⟨wr.heap.size, 1, none⟩ = some (.string va) := HH2.out.cell 1 rfl
      rw [← hw2]
      clear hw2 hb2 p0 p1
      by_cases hck : bl nm = [99, 111, 111, 107, 105, 101]
      · have e1 := eqT hck
        have HT2 : Hid (ckl (l.take (i + 1)) = ckl (l.take i) ++ [va]) := Lib.hid (by rw [HT.out, if_pos hck])
        clear hck
        go_wp2_with (at_builtin; refine wpL_app1 tyStr rfl (.tmp 15) (.tmp 18) rfl rfl rfl HO2.out rfl HS1.out HS2.out HB2.out (Nat.le_refl _) HBs2.out ?_; intro a3 c3 w3 ho3 hb3 _)
        have HO3 := Lib.hid ho3
        have HB3 := Lib.hid hb3
        clear ho3 hb3
        go_wp2_with fail
        go_roundw
        case rel => exact ⟨i + 1, m + 1, a3, c3, by first | rfl | (push_cast; rfl), HI.out, rfl, Lib.hid (by rw [HT2.out, List.length_append, ← HM.out]; rfl), by rw [HT2.out, List.map_append]; exact HO3.out, HB3.out⟩
        case measure => exact nbj3 HI.out
      · have e1 := eqF hck
        have HT2 : Hid (ckl (l.take (i + 1)) = ckl (l.take i)) := Lib.hid (by rw [HT.out, if_neg hck, List.append_nil])
        clear hck
        go_wp2_with fail
        go_roundw
        case rel => exact ⟨i + 1, m, a', c', by first | rfl | (push_cast; rfl), HI.out, rfl, Lib.hid (by rw [HT2.out, ← HM.out]), by rw [HT2.out]; exact HO2.out, HB2.out⟩
        case measure => exact nbj3 HI.out
    · have z1 := nbj2 hin
      have hie : i = n := Nat.le_antisymm hi (Nat.le_of_not_lt hin)
      have HT : Hid (ckl (l.take i) = ckl l) := Lib.hid (by rw [hie, List.take_of_length_le (by rw [HL.out]; exact Nat.le_refl _)])
      clear hi hin hie
      by_cases hm0 : m = 0
      · subst hm0
        obtain rfl : R = [] := by
          have h0 : ckl l = [] := List.eq_nil_of_length_eq_zero (by rw [← HT.out, ← HM.out])
          rw [HR.out, cookL, h0]
          rfl
        go_wp2_with fail
        refine (Tryd.strings_Join_none a' c' (strB [59, 32]) wr).mono ?_
        rintro e w9 ⟨rfl, rfl⟩
        go_wp2
        go_ret
        exact ⟨rfl, HBw.out⟩
      · obtain ⟨s, rfl, _, _, hmc, hcm⟩ := own_cell HO.out (Nat.pos_of_ne_zero hm0)
        have hsl := own_sl HO.out
        have hxl : (ckl (l.take i)).length = m := HM.out.symm
        have hj := Tryd.strings_Join s 0 c' (ckl (l.take i)) (strB [59, 32]) wr (fun j x hx => by
          obtain ⟨b, off, hb, hcs⟩ := hsl.cells (Nat.pos_of_ne_zero hm0)
          simp only [Option.some.injEq, Addr.mk.injEq, and_true] at hb
          obtain ⟨rfl, rfl⟩ := hb
          have hjm : j < m := by rw [← hxl]; exact (List.getElem?_eq_some_iff.1 hx).1
          rw [hcs j hjm, List.getElem?_map, hx]
          rfl) (by
            obtain ⟨b, off, hb, hcs⟩ := hsl.cells (Nat.pos_of_ne_zero hm0)
            simp only [Option.some.injEq, Addr.mk.injEq, and_true] at hb
            obtain ⟨rfl, rfl⟩ := hb
            have h0 := hcs 0 (Nat.pos_of_ne_zero hm0)
            rw [List.getElem?_map, List.getElem?_eq_getElem (by rw [hxl]; exact Nat.pos_of_ne_zero hm0)] at h0
            exact World.block_lt_of_cell? _ _ h0) (by rw [hxl]; have := ckl_le l i; rw [hxl, HL.out] at this; exact Nat.le_trans this (Nat.le_trans HN.out (by decide))) (by rw [hxl]; exact hmc) (by
            have h := HB.out
            rw [HR.out, cookL] at h
            rw [HT.out]
            exact h)
        rw [hxl] at hj
        have HJ := Lib.hid hj
        clear hj hsl hxl hmc hcm hm0
        go_wp2_with fail
        refine HJ.out.mono ?_
        rintro e w9 ⟨rfl, hb9⟩
        have HB9 : Hid (Below w.heap.size w w9) := Lib.hid (HBw.out.trans (hb9.mono HBs.out))
        clear hb9
        go_wp2
        go_ret
        rw [HR.out, cookL, HT.out]
        exact ⟨rfl, HB9.out⟩
end Go.Proofs.YtohinaohcndndaaDoor

/- turnpikeref19.Pieces: a text cut at its commas, trimmed, small; turnpikeref19.in. Conditions: the sizes. -/
import Derived.Test.YtohinaohcndndaaDoorRTrim
import Derived.Test.YtohinaohcndndaaDoorSplit
import Derived.Test.YtohinaohcndndaaDoorNmCook
namespace Go.Proofs.YtohinaohcndndaaDoor
open Go.RowKit

/-- texts as cells -/
def sB (ps : List (List UInt8)) : List Value := ps.map fun p => .string (strB p)
theorem sB_append (a b : List (List UInt8)) : sB (a ++ b) = sB a ++ sB b := by simp [sB]
theorem sB_one (ps : List (List UInt8)) : ∀ u ∈ sB ps, u.oneCell' = true := by
  intro u hu
  simp only [sB, List.mem_map] at hu
  obtain ⟨p, _, rfl⟩ := hu
  rfl
theorem cuts_mid {c : UInt8} : ∀ {a r : List UInt8}, (∀ b ∈ a, b ≠ c) → cutsL c (a ++ c :: r) = a :: cutsL c r
  | [], r, _ => by simp [cutsL]
  | b :: a, r, h => by
    rw [List.cons_append, cutsL, if_neg (h b (by simp)), cuts_mid (fun x hx => h x (by simp [hx]))]
theorem cuts_end {c : UInt8} : ∀ {a : List UInt8}, (∀ b ∈ a, b ≠ c) → cutsL c a = [a]
  | [], _ => rfl
  | b :: a, h => by rw [cutsL, if_neg (h b (by simp)), cuts_end (fun x hx => h x (by simp [hx]))]
def pieceL (p : List UInt8) : List UInt8 := smallL (trimL p)
def piecesL (l : List UInt8) : List (List UInt8) := (cutsL 44 l).map pieceL
theorem trim_len (l : List UInt8) : (trimL l).length ≤ l.length := by
  unfold trimL
  rw [List.length_reverse]
  refine Nat.le_trans (List.dropWhile_sublist _).length_le ?_
  rw [List.length_reverse]
  exact (List.dropWhile_sublist _).length_le
theorem piece_len (l : List UInt8) : (pieceL l).length ≤ l.length := by
  unfold pieceL smallL
  rw [List.length_map]
  exact trim_len l
theorem cuts_len (c : UInt8) : ∀ l : List UInt8, (cutsL c l).length ≤ l.length + 1
  | [] => by simp [cutsL]
  | b :: r => by
    have h := cuts_len c r
    unfold cutsL
    split
    · simp; omega
    · split
      · simp
      · rename_i p ps e
        rw [e] at h
        simp at h ⊢; omega
/-- how far the cutting has come: i the place, fr the piece's beginning -/
def PcSt (L : List UInt8) (i fr : Nat) (done : List (List UInt8)) : Prop :=
  (i ≤ L.length ∧ fr ≤ i ∧ cutsL 44 L = done ++ cutsL 44 (L.drop fr) ∧ ∀ b ∈ (L.drop fr).take (i - fr), b ≠ 44) ∨ (i = L.length + 1 ∧ fr ≤ i ∧ cutsL 44 L = done)
theorem PcSt.start (L : List UInt8) : PcSt L 0 0 [] := .inl ⟨Nat.zero_le _, Nat.le_refl _, rfl, by simp⟩
theorem PcSt.last {L : List UInt8} {fr : Nat} {done : List (List UInt8)} (h : PcSt L L.length fr done) : fr ≤ L.length ∧ PcSt L (L.length + 1) (L.length + 1) (done ++ [(L.drop fr).take (L.length - fr)]) := by
  rcases h with ⟨_, h2, h3, h4⟩ | ⟨h, _⟩
  · have e : (L.drop fr).take (L.length - fr) = L.drop fr := List.take_of_length_le (by simp)
    rw [e] at h4 ⊢
    exact ⟨h2, .inr ⟨rfl, Nat.le_refl _, by rw [h3, cuts_end h4]⟩⟩
  · omega
theorem PcSt.comma {L : List UInt8} {i fr : Nat} {done : List (List UInt8)} (h : PcSt L i fr done) (hi : i < L.length) (hb : L[i] = 44) : fr ≤ i ∧ PcSt L (i + 1) (i + 1) (done ++ [(L.drop fr).take (i - fr)]) := by
  rcases h with ⟨_, h2, h3, h4⟩ | ⟨h, _⟩
  · refine ⟨h2, .inl ⟨hi, Nat.le_refl _, ?_, by simp⟩⟩
    have e : L.drop fr = (L.drop fr).take (i - fr) ++ 44 :: L.drop (i + 1) := by
      have e1 : L.drop i = 44 :: L.drop (i + 1) := by rw [← hb]; exact List.drop_eq_getElem_cons hi
      rw [← e1]
      have e2 : L.drop i = (L.drop fr).drop (i - fr) := by rw [List.drop_drop]; congr 1; omega
      rw [e2, List.take_append_drop]
    rw [h3]
    conv => lhs; rw [e]
    rw [cuts_mid h4]
    simp
  · omega
theorem PcSt.other {L : List UInt8} {i fr : Nat} {done : List (List UInt8)} (h : PcSt L i fr done) (hi : i < L.length) (hb : L[i] ≠ 44) : PcSt L (i + 1) fr done := by
  rcases h with ⟨_, h2, h3, h4⟩ | ⟨h, _⟩
  · refine .inl ⟨hi, by omega, h3, fun b hbm => ?_⟩
    have e : (L.drop fr).take (i + 1 - fr) = (L.drop fr).take (i - fr) ++ [L[i]] := by
      have e1 : i + 1 - fr = (i - fr) + 1 := by omega
      have e2 : i - fr < (L.drop fr).length := by simp; omega
      rw [e1, List.take_succ_eq_append_getElem e2]
      congr 2
      simp only [List.getElem_drop]
      congr 1; omega
    rw [e] at hbm
    rcases List.mem_append.1 hbm with hbm | hbm
    · exact h4 b hbm
    · simp at hbm; subst hbm; exact hb
  · omega
theorem PcSt.fin {L : List UInt8} {i fr : Nat} {done : List (List UInt8)} (h : PcSt L i fr done) (hi : ¬ i ≤ L.length) : cutsL 44 L = done := by
  rcases h with ⟨h, _⟩ | ⟨_, _, h⟩
  · omega
  · exact h
theorem PcSt.fr {L : List UInt8} {i fr : Nat} {done : List (List UInt8)} (h : PcSt L i fr done) : fr ≤ i ∧ i ≤ L.length + 1 := by
  rcases h with ⟨h1, h2, _⟩ | ⟨h1, h2, _⟩ <;> omega
theorem strB_cut (L : List UInt8) (fr i : Nat) (_ : fr ≤ i) (_ : i ≤ L.length) : (strB L).extract fr i = strB ((L.drop fr).take (i - fr)) := by
  apply ByteArray.ext
  simp [strB, ByteArray.data_extract]
/-- texts in new memory -/
def StrsP (w : World) (ps : List (List UInt8)) (e : Ending) (w' : World) : Prop := ∃ a c, e = .returned (.slice a ps.length c) ∧ w'.ownsRow w.heap.size 9 1 (.slice a ps.length c) ps.length (sB ps) ∧ Below w.heap.size w w'
theorem pcj1 {i n : Nat} (h : i ≤ n) (hn : n ≤ 1099511627776) : ((i : Int) ≤ (n : Int)) = True ∧ RowKit.wrap64 ((i : Int) + 1) = ((i + 1 : Nat) : Int) ∧ IntKind.i64.wrap ((i : Int) + 1) = ((i + 1 : Nat) : Int) := by
  refine ⟨eq_true (by omega), ?_, ?_⟩
  · unfold RowKit.wrap64; omega
  · rw [IntKind.wrap_i64]; omega
theorem pcj2 {i n : Nat} (h : ¬ i ≤ n) : ((i : Int) ≤ (n : Int)) = False := eq_false (by omega)
theorem pcj3 {fr i n : Nat} (h : fr ≤ i) (hi : i ≤ n) : (0 : Int) ≤ (fr : Int) ∧ (fr : Int) ≤ (i : Int) ∧ (i : Int) ≤ (n : Int) := by omega
theorem pcj4 {i n : Nat} (h : i < n) : (i : Int) < (n : Int) ∧ ((i : Int) == (n : Int)) = false ∧ ¬ (i : Int) = (n : Int) := ⟨by omega, by simp only [beq_eq_false_iff_ne]; omega, by omega⟩
theorem pcj5 {a n : Nat} (h : a ≤ n + 1) (hn : n ≤ 1099511627776) : (a + 1) * 16 ≤ 140737488355328 ∧ a + 1 ≤ maxLen := by unfold maxLen; omega
theorem pcj6 {i n : Nat} (h : i ≤ n) : n + 1 - (intOf (Value.int .i64 ((i + 1 : Nat) : Int))).toNat < n + 1 - (intOf (Value.int .i64 (i : Int))).toNat := by simp only [intOf]; omega
set_option maxRecDepth 100000 in
theorem rpieces_any (w : World) (s : ByteArray) (hs : s.size ≤ 1099511627776) : Calls Tryd.prog 57 #[.string s] w (StrsP w (piecesL (bl s))) := by
  obtain ⟨L, hL⟩ : ∃ L, L = bl s := ⟨_, rfl⟩
  obtain rfl : s = strB L := by rw [hL, strB_bl]
  have e : bl (strB L) = L := strB_toList L
  rw [e]
  obtain ⟨n, hn⟩ : ∃ n, n = L.length := ⟨_, rfl⟩
  have hsz : (strB L).size = n := by rw [strB_size, hn]
  have HNm : Hid (n ≤ 1099511627776) := Lib.hid (by rw [← hsz]; exact hs)
  have HN := Lib.hid hn
  have HPl : Hid ((piecesL L).length ≤ n + 1) := Lib.hid (by rw [hn]; simp only [piecesL, List.length_map]; exact cuts_len 44 L)
  clear hL hs e hn
  go_enter Tryd.func57, Tryd.ntmps57
  go_wp2_with fail
  go_loopw [3, 4, 5] (fun ov fv v wr => ∃ (i fr m : Nat) (done : List (List UInt8)) (a' : Option Addr) (c' : Nat), v = .int .i64 (i : Int) ∧ fv = .int .i64 (fr : Int) ∧ ov = .slice a' m c' ∧ PcSt L i fr done ∧ Hid (m = done.length) ∧ wr.ownsRow w.heap.size 9 1 (.slice a' m c') m (sB (done.map pieceL)) ∧ Below w.heap.size w wr) (fun _ _ v _ => n + 1 - (intOf v).toNat)
  case atStart => exact ⟨0, 0, 0, [], none, 0, rfl, rfl, rfl, PcSt.start L, Lib.hid rfl, World.ownsRow_nil _ _ _ _, Below.refl _ _⟩
  case round =>
    obtain ⟨i, fr, m, done, a', c', rfl, rfl, rfl, hst, HM, ho, hbw⟩ := hrel
    have HSt := Lib.hid hst
    have HO := Lib.hid ho
    have HBw := Lib.hid hbw
    have HBs : Hid (w.heap.size ≤ wr.heap.size) := Lib.hid hbw.size
    clear hst ho hbw
    by_cases hin : i ≤ n
    · have HI := Lib.hid hin
      obtain ⟨z1, z2, z3⟩ := pcj1 hin HNm.out
      by_cases hie : i = n
      · obtain ⟨k1, k2⟩ := (show PcSt L L.length fr done by rw [← HN.out, ← hie]; exact HSt.out).last
        rw [← HN.out, ← hie] at k1 k2
        have y1 : ((i : Int) == (n : Int)) = true := by rw [hie]; simp
        have y3 : ((i : Int) = (n : Int)) = True := by rw [hie]; simp
        clear hie
        have HK1 := Lib.hid k1
        have HK2 := Lib.hid k2
        obtain ⟨y5, y6, y7⟩ := pcj3 k1 hin
        have ex := strB_cut L fr i k1 (by rw [← HN.out]; exact hin)
        obtain ⟨pc, hpc⟩ : ∃ pc, pc = (L.drop fr).take (i - fr) := ⟨_, rfl⟩
        rw [← hpc] at ex
        have HPc := Lib.hid hpc
        have hpl : pc.length ≤ 1099511627776 := by
          rw [hpc, List.length_take, List.length_drop]
          have := HNm.out
          omega
        have HPl2 := Lib.hid hpl
        clear k1 k2 hin hpc hpl
        have hTr := rtrim_any wr (strB pc) (by rw [strB_size]; exact Nat.le_trans HPl2.out (by decide))
        rw [show bl (strB pc) = pc from strB_toList pc] at hTr
        have HTr := Lib.hid hTr
        have hSm := rsmall_any wr (strB (trimL pc)) (by rw [strB_size]; exact Nat.le_trans (trim_len pc) (Nat.le_trans HPl2.out (by decide)))
        rw [show bl (strB (trimL pc)) = trimL pc from strB_toList _] at hSm
        have HSm := Lib.hid hSm
        clear hTr hSm
        go_wp2_with fail
        refine HTr.out.mono ?_
        rintro e w2 ⟨rfl, rfl⟩
        go_wp2_with fail
        refine HSm.out.mono ?_
        rintro e w3 ⟨rfl, hb3⟩
        have HO3 := Lib.hid (own_below HO.out hb3)
        have HB3 : Hid (Below w.heap.size w w3) := Lib.hid (HBw.out.trans (hb3.mono HBs.out))
        have HBs3 : Hid (w.heap.size ≤ w3.heap.size) := Lib.hid HB3.out.size
        have hmm : m ≤ n + 1 := by
          have h1 := cuts_len 44 L
          have h2 := HK2.out
          have h3 : done.length ≤ (cutsL 44 L).length := by
            rcases h2 with ⟨_, _, h, _⟩ | ⟨_, _, h⟩ <;> (rw [h]; simp)
          rw [HM.out, HN.out]
          omega
        obtain ⟨s1, s2⟩ := pcj5 hmm HNm.out
        have HS1 := Lib.hid s1
        have HS2 := Lib.hid s2
        clear hb3 hmm s1 s2
        go_wp2_with (at_builtin; refine wpL_app1 tyStr rfl (.tmp 22) (.tmp 29) rfl rfl rfl HO3.out rfl HS1.out HS2.out HB3.out (Nat.le_refl _) HBs3.out ?_; intro a4 c4 w4 ho4 hb4 _)
        have HO4 := Lib.hid ho4
        have HB4 := Lib.hid hb4
        clear ho4 hb4
        go_wp2_with fail
        go_roundw
        case rel => exact ⟨i + 1, i + 1, m + 1, done ++ [pc], a4, c4, by first | rfl | (push_cast; rfl), by first | rfl | (push_cast; rfl), rfl, by rw [HPc.out]; exact HK2.out, Lib.hid (by rw [List.length_append, ← HM.out]; rfl), by rw [List.map_append, sB_append]; exact HO4.out, HB4.out⟩
        case measure => exact pcj6 HI.out
      · have hil : i < n := Nat.lt_of_le_of_ne hin hie
        obtain ⟨y1, y2, y3⟩ := pcj4 hil
        have hl : i < L.length := by rw [← HN.out]; exact hil
        have ix := fun w => idxS w L i hl
        obtain ⟨b, hb⟩ : ∃ b, b = L[i] := ⟨_, rfl⟩
        obtain ⟨x, hx⟩ : ∃ x : Int, x = (b.toNat : Int) := ⟨_, rfl⟩
        simp only [← hb, ← hx] at ix
        by_cases h44 : b = 44
        · obtain ⟨k1, k2⟩ := HSt.out.comma hl (by rw [← hb]; exact h44)
          have hx44 : x = 44 := by rw [hx, h44]; rfl
          subst hx44
          clear hie hl hb hx h44
          have HK1 := Lib.hid k1
          have HK2 := Lib.hid k2
          obtain ⟨y5, y6, y7⟩ := pcj3 k1 hin
          have ex := strB_cut L fr i k1 (by rw [← HN.out]; exact hin)
          obtain ⟨pc, hpc⟩ : ∃ pc, pc = (L.drop fr).take (i - fr) := ⟨_, rfl⟩
          rw [← hpc] at ex
          have HPc := Lib.hid hpc
          have hpl : pc.length ≤ 1099511627776 := by
            rw [hpc, List.length_take, List.length_drop]
            have := HNm.out
            omega
          have HPl2 := Lib.hid hpl
          clear k1 k2 hin hpc hpl
          have hTr := rtrim_any wr (strB pc) (by rw [strB_size]; exact Nat.le_trans HPl2.out (by decide))
          rw [show bl (strB pc) = pc from strB_toList pc] at hTr
          have HTr := Lib.hid hTr
          have hSm := rsmall_any wr (strB (trimL pc)) (by rw [strB_size]; exact Nat.le_trans (trim_len pc) (Nat.le_trans HPl2.out (by decide)))
          rw [show bl (strB (trimL pc)) = trimL pc from strB_toList _] at hSm
          have HSm := Lib.hid hSm
          clear hTr hSm
          go_wp2_with fail
          refine HTr.out.mono ?_
          rintro e w2 ⟨rfl, rfl⟩
          go_wp2_with fail
          refine HSm.out.mono ?_
          rintro e w3 ⟨rfl, hb3⟩
          have HO3 := Lib.hid (own_below HO.out hb3)
          have HB3 : Hid (Below w.heap.size w w3) := Lib.hid (HBw.out.trans (hb3.mono HBs.out))
          have HBs3 : Hid (w.heap.size ≤ w3.heap.size) := Lib.hid HB3.out.size
          have hmm : m ≤ n + 1 := by
            have h1 := cuts_len 44 L
            have h2 := HK2.out
            have h3 : done.length ≤ (cutsL 44 L).length := by
              rcases h2 with ⟨_, _, h, _⟩ | ⟨_, _, h⟩ <;> (rw [h]; simp)
            rw [HM.out, HN.out]
            omega
          obtain ⟨s1, s2⟩ := pcj5 hmm HNm.out
          have HS1 := Lib.hid s1
          have HS2 := Lib.hid s2
          clear hb3 hmm s1 s2
          go_wp2_with (at_builtin; refine wpL_app1 tyStr rfl (.tmp 22) (.tmp 29) rfl rfl rfl HO3.out rfl HS1.out HS2.out HB3.out (Nat.le_refl _) HBs3.out ?_; intro a4 c4 w4 ho4 hb4 _)
          have HO4 := Lib.hid ho4
          have HB4 := Lib.hid hb4
          clear ho4 hb4
          go_wp2_with fail
          go_roundw
          case rel => exact ⟨i + 1, i + 1, m + 1, done ++ [pc], a4, c4, by first | rfl | (push_cast; rfl), by first | rfl | (push_cast; rfl), rfl, by rw [HPc.out]; exact HK2.out, Lib.hid (by rw [List.length_append, ← HM.out]; rfl), by rw [List.map_append, sB_append]; exact HO4.out, HB4.out⟩
          case measure => exact pcj6 HI.out
        · have HSt2 := Lib.hid (HSt.out.other hl (by rw [← hb]; exact h44))
          have x1 : ¬ x = 44 := fun e => h44 (UInt8.toNat_inj.1 (by rw [hx] at e; exact Int.ofNat.inj e))
          have x2 : (x == 44) = false := by simpa using x1
          clear hie hl hb hx h44 hin hil
          go_wp2_with fail
          go_roundw
          case rel => exact ⟨i + 1, fr, m, done, a', c', by first | rfl | (push_cast; rfl), rfl, rfl, HSt2.out, HM, HO.out, HBw.out⟩
          case measure => exact pcj6 HI.out
    · have z1 := pcj2 hin
      have HE := HSt.out.fin (by rw [← HN.out]; exact hin)
      have HEd : Hid (piecesL L = done.map pieceL) := Lib.hid (by rw [piecesL, HE])
      clear hin HE
      go_wp2
      go_ret
      rw [HEd.out]
      unfold StrsP
      rw [List.length_map, ← HM.out]
      exact ⟨a', c', rfl, HO.out, HBw.out⟩
end Go.Proofs.YtohinaohcndndaaDoor

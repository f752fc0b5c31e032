/- norm.Chunk and norm.Last. Premises: the one cell of deBruijn64tab (Chunk); the sizes. -/
import Derived.Test.YtohinaohcndndaaDoorNmFmt
namespace Go.Proofs.YtohinaohcndndaaDoor
open Go.RowKit

theorem Bf.below {w w' : World} {B b : Nat} {l : List UInt8} (h : Bf w B b l) (hb : Below w.heap.size w w') : Bf w' B b l := by
  obtain ⟨hB, v, lr, h3, hown, hne⟩ := h
  have hx : w'.heap[b]? = w.heap[b]? := hb.block b h3.lt
  exact ⟨hB, v, lr, h3.of_heap hx, own_kept hown (Kept.of_below (X := none') hb) (fun _ _ h => h), hne⟩
theorem Bk.of_below {w w' : World} {B b : Nat} (h : Below w.heap.size w w') (hB : B ≤ w.heap.size) : Bk w B b w' :=
  ⟨h.mono hB, fun k o hk _ _ => by rw [h.block k (Array.getElem?_eq_some_iff.1 hk).1]; exact hk⟩
theorem pcs_new (w : World) (ps : List ByteArray) : Pcs (w.alloc (.cells (ps.map Value.string).toArray 9)) (some ⟨w.heap.size, 0, none⟩) ps.length ps :=
  ⟨rfl, fun _ => ⟨w.heap.size, rfl, by simpa using Has.new w 9 (ps.map Value.string).toArray⟩⟩
theorem pcs_nil (w : World) : Pcs w none 0 [] := ⟨rfl, fun h => absurd h (Nat.lt_irrefl _)⟩
/-- an answer: bytes in new memory and an error's number -/
def BytE (w : World) (r : List UInt8 × Int) (e : Ending) (w' : World) : Prop := ∃ a c, e = .returned (.tuple #[.slice a r.1.length c, .int .i64 r.2]) ∧ w'.ownsRow w.heap.size 5 1 (.slice a r.1.length c) r.1.length (bv r.1) ∧ Below w.heap.size w w'
theorem BytE.none (w : World) (e : Int) : BytE w ([], e) (.returned (.tuple #[.slice none 0 0, .int .i64 e])) w := ⟨_, 0, rfl, World.ownsRow_nil _ _ _ _, Below.refl _ _⟩
theorem hexL_le (n : Nat) : (hexL n).length ≤ n + 1 := hexL_len n

set_option maxRecDepth 100000 in
theorem chunk_any (w : World) {a : Option Addr} {n c : Nat} {d : List UInt8} (h : Sl w a n c (bv d)) (hz : Tz w) : Calls Tryd.prog 19 #[.slice a n c] w (BytE w (chunkL d)) := by
  obtain ⟨R, hR⟩ : ∃ R, R = chunkL d := ⟨_, rfl⟩
  rw [← hR]
  have hn := h.byte
  by_cases h1 : 16384 < n
  · obtain rfl : R = ([], 52) := by rw [hR, chunkL, if_pos (by omega)]
    have z1 := rcj1 h1
    clear h hz hR hn h1
    go_enter Tryd.func19, Tryd.ntmps19
    go_wp2
    go_ret2
    exact BytE.none w 52
  by_cases h0 : n = 0
  · obtain rfl : R = ([], 0) := by rw [hR, chunkL, if_neg (by omega), if_pos (by omega)]
    subst h0
    clear h hz hR hn h1
    go_enter Tryd.func19, Tryd.ntmps19
    go_wp2
    go_ret2
    exact BytE.none w 0
  · obtain ⟨z1, z2⟩ := rcj2 h1 h0
    have HR : Hid (R = (hexL n ++ ([13, 10] ++ (d ++ [13, 10])), 0)) := Lib.hid (by rw [hR, chunkL, if_neg (by omega), if_neg (by omega), hn])
    have HS := Lib.hid h
    have HZ := Lib.hid hz
    have HN : Hid (n ≤ 16384) := Lib.hid (Nat.le_of_not_lt h1)
    have HN1 : Hid (1 ≤ n) := Lib.hid (Nat.one_le_iff_ne_zero.2 h0)
    have HL := Lib.hid hn
    obtain ⟨b, off, rfl, hcell⟩ := h.cells (by omega)
    have HC : Hid (∀ i, i < n → w.cell? ⟨b, off + i, none⟩ = (bv d)[i]?) := Lib.hid hcell
    clear h hz hR hn h1 h0 hcell
    obtain ⟨g, hg⟩ : ∃ g, g = w.heap.size := ⟨_, rfl⟩
    obtain ⟨w1, hw1⟩ : ∃ w1, w1 = w.alloc (.cells #[.slice none 0 0, .int .i64 0, .int .i8 0] 78) := ⟨_, rfl⟩
    have HF1 : Hid (Bf w1 g g []) := Lib.hid (by rw [hw1, hg]; exact Bf.new w)
    have HB1 : Hid (Below g w w1) := Lib.hid (by rw [hw1, hg]; exact (Below.refl _ w).alloc (Nat.le_refl _) _)
    have HG : Hid (g = w.heap.size) := Lib.hid hg
    have HS1 : Hid (g ≤ w1.heap.size) := Lib.hid (by rw [hg]; exact HB1.out.size)
    have HZ1 : Hid (Tz w1) := Lib.hid (HZ.out.below (by rw [← hg]; exact HB1.out))
    go_enter Tryd.func19, Tryd.ntmps19
    go_upto_region 6 with fail
    rw [← hw1, ← hg]
    clear hw1 hg
    go_wp2_with fail
    refine (fmt_16 w1 n HN1.out HN.out HZ1.out).mono ?_
    rintro e w2 ⟨rfl, hb2⟩
    have HB2 : Hid (Below g w w2) := Lib.hid (HB1.out.trans (hb2.mono HS1.out))
    have HS2 : Hid (g ≤ w2.heap.size) := Lib.hid (Nat.le_trans HS1.out hb2.size)
    have HF2 : Hid (Bf w2 g g []) := Lib.hid (HF1.out.below hb2)
    clear hb2
    go_wp2_with fail
    have hb3 : Below w2.heap.size w2 (w2.alloc (.cells #[.string (strB (hexL n))] 9)) := (Below.refl _ w2).alloc (Nat.le_refl _) _
    refine (line_any _ (HF2.out.below hb3) (Nat.le_trans HS2.out hb3.size) (pcs_new w2 [strB (hexL n)]) (by simp) ?_).mono ?_
    · have h1 := hexL_le n
      have h2 := HN.out
      simp only [catL, List.flatMap_cons, List.flatMap_nil, List.append_nil, List.length_nil, bl, strB_toList]
      omega
    rintro e w4 ⟨rfl, hf4, hk4⟩
    have HB4 : Hid (Below g w w4) := Lib.hid ((HB2.out.trans (hb3.mono HS2.out)).trans hk4.below)
    have HS4 : Hid (g ≤ w4.heap.size) := Lib.hid (Nat.le_trans (Nat.le_trans HS2.out hb3.size) hk4.below.size)
    have HF4 : Hid (Bf w4 g g (hexL n ++ [13, 10])) := Lib.hid (by
      simp only [catL, List.flatMap_cons, List.flatMap_nil, List.append_nil, List.nil_append, bl, strB_toList] at hf4
      exact hf4)
    clear hf4 hk4 hb3
    go_wp2_with fail
    refine (Tryd.Buffer_Write_at 78 (fun _ => none) g g 0 (bv (hexL n ++ [13, 10])) (bv d) ⟨b, off, none⟩ n c w4 HF4.out HS4.out (bv_one _) (by rw [bv_length]; exact HL.out) ?_ ?_ (bv_one _) ?_).mono ?_
    · have h := HC.out 0 HN1.out
      rw [bv_get d 0 (by rw [HL.out]; exact HN1.out)] at h
      have := World.block_lt_of_cell? _ _ h
      rw [HG.out]
      exact fun e => by simp at e; simp at this; omega
    · intro j v hj
      have hjl : j < n := by have := (List.getElem?_eq_some_iff.1 hj).1; rw [bv_length, HL.out] at this; exact this
      have h := HC.out j hjl
      rw [hj] at h
      have := World.block_lt_of_cell? _ _ h
      rw [addr_add, HB4.out.cell (by rw [HG.out]; exact this)]
      exact h
    · have h1 := hexL_le n
      have h2 := HN.out
      rw [bv_length, List.length_append]
      simp only [List.length_cons, List.length_nil]
      omega
    rintro e w5 ⟨rfl, hf5, hb5, ho5⟩
    have HB5 : Hid (Below g w w5) := Lib.hid (HB4.out.trans hb5)
    have HS5 : Hid (g ≤ w5.heap.size) := Lib.hid (Nat.le_trans HS4.out hb5.size)
    have HF5 : Hid (Bf w5 g g (hexL n ++ [13, 10] ++ d)) := Lib.hid (by
      unfold Bf
      rw [bv_append]
      exact hf5)
    clear hf5 hb5 ho5
    go_wp2_with fail
    refine (line_any w5 HF5.out HS5.out (pcs_nil w5) (by decide) ?_).mono ?_
    · have h1 := hexL_le n
      have h2 := HN.out
      have h3 := HL.out
      simp only [catL, List.flatMap_nil, List.length_append, List.length_cons, List.length_nil]
      omega
    rintro e w6 ⟨rfl, hf6, hk6⟩
    have HB6 : Hid (Below g w w6) := Lib.hid (HB5.out.trans hk6.below)
    have HS6 : Hid (g ≤ w6.heap.size) := Lib.hid (Nat.le_trans HS5.out hk6.below.size)
    obtain ⟨T, hT⟩ : ∃ T, T = hexL n ++ [13, 10] ++ d ++ catL [] ++ [13, 10] := ⟨_, rfl⟩
    rw [← hT] at hf6
    have HF6 := Lib.hid hf6
    have HT : Hid (R = (T, 0)) := Lib.hid (by rw [HR.out, hT]; simp [catL])
    have HTl : Hid (T.length ≤ 140737488355328) := Lib.hid (by
      have h1 := hexL_le n
      have h2 := HN.out
      have h3 := HL.out
      rw [hT]
      simp only [catL, List.flatMap_nil, List.length_append, List.length_cons, List.length_nil]
      omega)
    clear hf6 hk6 hT
    go_wp2_with fail
    refine (bytes_any w6 HF6.out).mono ?_
    rintro e w7 ⟨a7, c7, rfl, ho7, hb7⟩
    have HO7 := Lib.hid ho7
    have HB7 : Hid (Below g w w7) := Lib.hid (HB6.out.trans (hb7.mono HS6.out))
    have HS7 : Hid (g ≤ w7.heap.size) := Lib.hid (Nat.le_trans HS6.out hb7.size)
    clear ho7 hb7
    go_wp2_with fail
    refine (clone_any w7 (own_sl HO7.out) HTl.out).mono ?_
    rintro e w8 ⟨a8, c8, rfl, ho8, hb8⟩
    have HO8 := Lib.hid ho8
    have HB8 : Hid (Below g w w8) := Lib.hid (HB7.out.trans (hb8.mono HS7.out))
    clear ho8 hb8
    go_wp2
    go_ret2
    rw [show R = (T, 0) from HT.out]
    exact ⟨a8, c8, rfl, own_mono HO8.out (by rw [← HG.out]; exact HS7.out), by rw [← HG.out]; exact HB8.out⟩

/-- an answer: bytes in new memory -/
theorem line_len (f : Fd) : (lineL f).length = f.nm.size + (2 + (f.va.size + 2)) := by
  rw [bl_size, bl_size]
  simp [lineL]
  omega
theorem cat3 (f : Fd) : catL [f.nm, strB [58, 32], f.va] ++ [13, 10] = lineL f := by
  simp [catL, lineL, bl, strB_toList]
set_option maxRecDepth 100000 in
theorem last_any (w : World) {a : Option Addr} {n c : Nat} {l : List Fd} (h : SlS w a n c l) (hb : (lastL l).length ≤ 140737488355328) : Calls Tryd.prog 22 #[.slice a n c] w (CloP w (lastL l)) := by
  have hmx : n ≤ 9223372036854775807 := by have := h.cap; have := h.max; unfold maxLen at this; omega
  have HS := Lib.hid h
  have HN := Lib.hid h.len
  have HM := Lib.hid hmx
  have HL : Hid (3 + ((linesL l).length + 2) ≤ 140737488355328) := Lib.hid (by
    have e : (lastL l).length = 3 + ((linesL l).length + 2) := by simp [lastL]; omega
    rw [← e]; exact hb)
  obtain ⟨R, hR⟩ : ∃ R, R = lastL l := ⟨_, rfl⟩
  rw [← hR]
  have HR := Lib.hid hR
  clear h hmx hb hR
  obtain ⟨g, hg⟩ : ∃ g, g = w.heap.size := ⟨_, rfl⟩
  obtain ⟨w1, hw1⟩ : ∃ w1, w1 = w.alloc (.cells #[.slice none 0 0, .int .i64 0, .int .i8 0] 78) := ⟨_, rfl⟩
  have HF1 : Hid (Bf w1 g g []) := Lib.hid (by rw [hw1, hg]; exact Bf.new w)
  have HB1 : Hid (Below g w w1) := Lib.hid (by rw [hw1, hg]; exact (Below.refl _ w).alloc (Nat.le_refl _) _)
  have HG : Hid (g = w.heap.size) := Lib.hid hg
  have HS1 : Hid (g ≤ w1.heap.size) := Lib.hid (by rw [hg]; exact HB1.out.size)
  go_enter Tryd.func22, Tryd.ntmps22
  go_upto_region 2 with fail
  rw [← hw1, ← hg]
  clear hw1 hg
  go_wp2_with fail
  have hb3 : Below w1.heap.size w1 (w1.alloc (.cells #[.string (strB [48])] 9)) := (Below.refl _ w1).alloc (Nat.le_refl _) _
  refine (line_any _ (HF1.out.below hb3) (Nat.le_trans HS1.out hb3.size) (pcs_new w1 [strB [48]]) (by simp) (by decide)).mono ?_
  rintro e w4 ⟨rfl, hf4, hk4⟩
  have HB4 : Hid (Below g w w4) := Lib.hid ((HB1.out.trans (hb3.mono HS1.out)).trans hk4.below)
  have HF4 : Hid (Bf w4 g g ([48, 13, 10] ++ linesL (l.take 0))) := Lib.hid hf4
  clear hf4 hk4 hb3
  go_wp2_with fail
  go_loopw [5, 13] (fun _ v wr => ∃ i : Nat, v = .int .i64 (i : Int) ∧ i ≤ n ∧ Bf wr g g ([48, 13, 10] ++ linesL (l.take i)) ∧ Below g w wr) (fun _ v _ => n - (intOf v).toNat)
  case atStart => exact ⟨0, rfl, Nat.zero_le _, HF4.out, HB4.out⟩
  case round =>
    obtain ⟨i, rfl, hi, hf, hbw⟩ := hrel
    have HF := Lib.hid hf
    have HBw := Lib.hid hbw
    have HSr : Hid (g ≤ wr.heap.size) := Lib.hid (by rw [HG.out]; exact hbw.size)
    clear hf hbw
    by_cases hin : i < n
    · have HI := Lib.hid hin
      obtain ⟨z1, z2, z3, z4⟩ := nbj1 hin HM.out
      have hil : i < l.length := by rw [HN.out]; exact hin
      obtain ⟨b, o, rfl, hc⟩ := HS.out.cells (Nat.lt_of_le_of_lt (Nat.zero_le _) hin)
      obtain ⟨p0, p1⟩ := hc i hil
      rw [← HBw.out.cell (by rw [HG.out]; exact World.block_lt_of_cell? _ _ p0)] at p0
      rw [← HBw.out.cell (by rw [HG.out]; exact World.block_lt_of_cell? _ _ p1)] at p1
      have htk := lines_take l i hil
      have hll := lines_le l (i + 1)
      rw [htk, List.length_append, line_len] at hll
      obtain ⟨f, hf⟩ : ∃ f, f = l[i] := ⟨_, rfl⟩
      rw [← hf] at p0 p1 htk hll
      obtain ⟨nm, hnm⟩ : ∃ nm, nm = f.nm := ⟨_, rfl⟩
      obtain ⟨va, hva⟩ : ∃ va, va = f.va := ⟨_, rfl⟩
      rw [← hnm] at p0
      rw [← hva] at p1
      have HT := Lib.hid htk
      have HLL := Lib.hid hll
      have HFF : Hid (nm = f.nm ∧ va = f.va) := Lib.hid ⟨hnm, hva⟩
      clear hi hin hc htk hll hf hil hnm hva
      go_upto_region 6 with fail
      obtain ⟨w2, hw2⟩ : ∃ w2, w2 = wr.alloc (.cells #[.string nm, .string va] 64) := ⟨_, rfl⟩
      have HH2 : Hid (Has w2 wr.heap.size 64 [.string nm, .string va]) := Lib.hid (by rw [hw2]; exact Has.new wr 64 #[.string nm, .string va])
      have hb2 : Below wr.heap.size wr w2 := by rw [hw2]; exact (Below.refl _ wr).alloc (Nat.le_refl _) _
      have HF2 := Lib.hid (HF.out.below hb2)
      have HB2 : Hid (Below g w w2) := Lib.hid (HBw.out.trans (hb2.mono HSr.out))
      have HS2 : Hid (g ≤ w2.heap.size) := Lib.hid (Nat.le_trans HSr.out hb2.size)
      have q0 : w2.cell? ⟨wr.heap.size, 0, none⟩ = some (.string nm) := HH2.out.cell 0 rfl
      have q1 : w2.cell? ⟨wr.heap.size, 1, none⟩ = some (.string va) := HH2.out.cell 1 rfl
      rw [← hw2]
      clear hw2 hb2 p0 p1
      go_wp2_with fail
      have hb3 : Below w2.heap.size w2 (w2.alloc (.cells #[.string nm, .string (strB [58, 32]), .string va] 9)) := (Below.refl _ w2).alloc (Nat.le_refl _) _
      have hcat : catL [nm, strB [58, 32], va] ++ [13, 10] = lineL f := by rw [HFF.out.1, HFF.out.2]; exact cat3 f
      have hcl : (catL [nm, strB [58, 32], va]).length + 2 = f.nm.size + (2 + (f.va.size + 2)) := by
        rw [← line_len, ← hcat, List.length_append]; rfl
      refine (line_any _ (HF2.out.below hb3) (Nat.le_trans HS2.out hb3.size) (pcs_new w2 [nm, strB [58, 32], va]) (by simp) ?_).mono ?_
      · have h1 := HLL.out
        have h2 := HL.out
        rw [List.length_append, Nat.add_assoc, hcl]
        simp only [List.length_cons, List.length_nil]
        omega
      rintro e w4 ⟨rfl, hf4, hk4⟩
      have HB4 : Hid (Below g w w4) := Lib.hid ((HB2.out.trans (hb3.mono HS2.out)).trans hk4.below)
      have HF4 : Hid (Bf w4 g g ([48, 13, 10] ++ linesL (l.take (i + 1)))) := Lib.hid (by
        rw [HT.out, ← hcat]
        simpa using hf4)
      clear hf4 hk4 hb3 hcat hcl
      go_wp2_with fail
      go_roundw
      case rel => exact ⟨i + 1, by first | rfl | (push_cast; rfl), HI.out, HF4.out, HB4.out⟩
      case measure => exact nbj3 HI.out
    · have z1 := nbj2 hin
      have hie : i = n := Nat.le_antisymm hi (Nat.le_of_not_lt hin)
      have HT : Hid (linesL (l.take i) = linesL l) := Lib.hid (by rw [hie, List.take_of_length_le (by rw [HN.out]; exact Nat.le_refl _)])
      clear hi hin hie
      go_wp2_with fail
      refine (line_any wr HF.out HSr.out (pcs_nil wr) (by simp) ?_).mono ?_
      · have h2 := HL.out
        rw [HT.out]
        simp only [catL, List.flatMap_nil, List.length_append, List.length_cons, List.length_nil]
        omega
      rintro e w6 ⟨rfl, hf6, hk6⟩
      have HB6 : Hid (Below g w w6) := Lib.hid (HBw.out.trans hk6.below)
      have HS6 : Hid (g ≤ w6.heap.size) := Lib.hid (Nat.le_trans HSr.out hk6.below.size)
      have HF6 : Hid (Bf w6 g g R) := Lib.hid (by
        have e : R = [48, 13, 10] ++ linesL (l.take i) ++ catL [] ++ [13, 10] := by rw [HR.out, HT.out]; simp [lastL, catL]
        rw [e]; exact hf6)
      have HTl : Hid (R.length ≤ 140737488355328) := Lib.hid (by
        have e : (lastL l).length = 3 + ((linesL l).length + 2) := by simp [lastL]; omega
        rw [HR.out, e]; exact HL.out)
      clear hf6 hk6
      go_wp2_with fail
      refine (bytes_any w6 HF6.out).mono ?_
      rintro e w7 ⟨a7, c7, rfl, ho7, hb7⟩
      have HO7 := Lib.hid ho7
      have HB7 : Hid (Below g w w7) := Lib.hid (HB6.out.trans (hb7.mono HS6.out))
      have HS7 : Hid (g ≤ w7.heap.size) := Lib.hid (Nat.le_trans HS6.out hb7.size)
      clear ho7 hb7
      go_wp2_with fail
      refine (clone_any w7 (own_sl HO7.out) HTl.out).mono ?_
      rintro e w8 ⟨a8, c8, rfl, ho8, hb8⟩
      have HO8 := Lib.hid ho8
      have HB8 : Hid (Below g w w8) := Lib.hid (HB7.out.trans (hb8.mono HS7.out))
      clear ho8 hb8
      go_wp2
      go_ret
      exact ⟨a8, c8, rfl, own_mono HO8.out (by rw [← HG.out]; exact HS7.out), by rw [← HG.out]; exact HB8.out⟩
end Go.Proofs.YtohinaohcndndaaDoor

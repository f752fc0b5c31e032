/- norm.writer: a Buffer that holds bytes; line writes pieces and a line's end; Bytes cloned. No condition but the sizes. -/
import Derived.Test.YtohinaohcndndaaDoorNmLast
import Derived.Test.YtohinaohcndndaaDoorShelf
namespace Go.Proofs.YtohinaohcndndaaDoor
open Go.RowKit

/-- the writer at block b holds the bytes l -/
def Bf (w : World) (B b : Nat) (l : List UInt8) : Prop := LibA.IsBuffer 78 (fun _ => none) 5 B b 0 (bv l) w
/-- nothing has changed but the writer at b, rows of bytes, and what is new -/
structure Bk (w : World) (B b : Nat) (w' : World) : Prop where
  below : Below B w w'
  others : Lib.OthersKept 5 (some b) w w'
theorem Bk.refl (w : World) (B b : Nat) : Bk w B b w := ⟨Below.refl _ _, Lib.OthersKept.refl _ _ _⟩
theorem Bk.trans {w w1 w2 : World} {B b : Nat} (h : Bk w B b w1) (k : Bk w1 B b w2) : Bk w B b w2 := ⟨h.below.trans k.below, h.others.trans k.others⟩
/-- a block of another type stays as it was -/
theorem Bk.has {w w' : World} {B b g t : Nat} {vs : List Value} (h : Bk w B b w') (hg : Has w g t vs) (ht : t ≠ 5) (hgb : g ≠ b) : Has w' g t vs := by
  unfold Has at hg ⊢
  exact h.others g _ hg (by simp [hgb]) (fun c fz e => by injection e with _ e2 _; exact ht e2)
theorem Bf.ne {w : World} {B b g t : Nat} {l : List UInt8} {vs : List Value} (h : Bf w B b l) (hg : Has w g t vs) (ht : t ≠ 78) : g ≠ b := by
  rintro rfl
  obtain ⟨_, v, lr, h3, _⟩ := h
  exact ht (h3.tag hg)
theorem Bf.new (w : World) : Bf (w.alloc (.cells #[.slice none 0 0, .int .i64 0, .int .i8 0] 78)) w.heap.size w.heap.size [] :=
  LibA.of_whole (Lib.fresh_isBuffer 78 5 w)

/-- pieces: a slice of strings that begins its row -/
def Pcs (w : World) (a : Option Addr) (n : Nat) (ps : List ByteArray) : Prop := ps.length = n ∧ (0 < n → ∃ g, a = some ⟨g, 0, none⟩ ∧ Has w g 9 (ps.map Value.string))
def catL (ps : List ByteArray) : List UInt8 := ps.flatMap bl
theorem cat_take (ps : List ByteArray) (i : Nat) (h : i < ps.length) : catL (ps.take (i + 1)) = catL (ps.take i) ++ bl ps[i] := by
  unfold catL
  rw [List.take_succ_eq_append_getElem h, List.flatMap_append]
  simp
theorem cat_le (ps : List ByteArray) (i : Nat) : (catL (ps.take i)).length ≤ (catL ps).length := by
  have h : catL ps = catL (ps.take i) ++ catL (ps.drop i) := by
    unfold catL
    rw [← List.flatMap_append, List.take_append_drop]
  rw [h, List.length_append]; omega
def LineP (w : World) (B b : Nat) (l : List UInt8) (e : Ending) (w' : World) : Prop := e = .returned (.tuple #[]) ∧ Bf w' B b l ∧ Bk w B b w'
theorem nbj1 {i n : Nat} (h : i < n) (hn : n ≤ 9223372036854775807) : (i : Int) < (n : Int) ∧ 0 ≤ (i : Int) ∧ IntKind.i64.wrap ((i : Int) + 1) = ((i + 1 : Nat) : Int) ∧ RowKit.wrap64 ((i : Int) + 1) = ((i + 1 : Nat) : Int) := by
  rw [IntKind.wrap_i64]; unfold RowKit.wrap64; omega
theorem nbj2 {i n : Nat} (h : ¬ i < n) : ¬ (i : Int) < (n : Int) := by omega
theorem nbj3 {i n : Nat} (h : i < n) : n - (intOf (Value.int .i64 ((i + 1 : Nat) : Int))).toNat < n - (intOf (Value.int .i64 (i : Int))).toNat := by simp only [intOf]; omega

set_option maxRecDepth 100000 in
theorem line_any (w : World) {B b : Nat} {l : List UInt8} (h : Bf w B b l) (hBw : B ≤ w.heap.size) {a : Option Addr} {n : Nat} {ps : List ByteArray} (hp : Pcs w a n ps) (hn : n ≤ 1000) (hlim : l.length + (catL ps).length + 2 ≤ 140737488355328) :
    Calls Tryd.prog 33 #[.pointer (some ⟨b, 0, none⟩), .slice a n n] w (LineP w B b (l ++ catL ps ++ [13, 10])) := by
  have HF := Lib.hid h
  have HP := Lib.hid hp
  have HB := Lib.hid hBw
  have HL := Lib.hid hlim
  have HN := Lib.hid hn
  clear h hp hBw hlim hn
  go_enter Tryd.func33, Tryd.ntmps33
  go_wp2_with fail
  go_loopw [5, 8] (fun _ v wr => ∃ i : Nat, v = .int .i64 (i : Int) ∧ i ≤ n ∧ Bf wr B b (l ++ catL (ps.take i)) ∧ Bk w B b wr) (fun _ v _ => n - (intOf v).toNat)
  case atStart => exact ⟨0, rfl, Nat.zero_le _, by simpa [catL] using HF.out, Bk.refl _ _ _⟩
  case round =>
    obtain ⟨i, rfl, hi, hf, hk⟩ := hrel
    have HFi := Lib.hid hf
    have HK := Lib.hid hk
    clear hf hk
    have hBr : B ≤ wr.heap.size := Nat.le_trans HB.out HK.out.below.size
    have HBr := Lib.hid hBr
    clear hBr
    by_cases hin : i < n
    · have HI := Lib.hid hin
      obtain ⟨z1, z2, z3, z4⟩ := nbj1 hin (Nat.le_trans HN.out (by decide))
      have hil : i < ps.length := by rw [HP.out.1]; exact hin
      obtain ⟨g, rfl, hg⟩ := HP.out.2 (Nat.lt_of_le_of_lt (Nat.zero_le _) hin)
      have hgr := HK.out.has hg (by decide) (HF.out.ne hg (by decide))
      obtain ⟨p, hpp⟩ : ∃ p, p = ps[i] := ⟨_, rfl⟩
      have c0 : wr.cell? ⟨g, i, none⟩ = some (.string p) := hgr.cell i (by simp [hil, hpp])
      have HC : Hid (catL (ps.take (i + 1)) = catL (ps.take i) ++ bl p) := Lib.hid (by rw [hpp]; exact cat_take ps i hil)
      have hbd : (bv (l ++ catL (ps.take i))).length + p.size ≤ 140737488355328 := by
        have h1 := cat_le ps (i + 1)
        have h2 := HL.out
        rw [HC.out, List.length_append, ← bl_size] at h1
        rw [bv_length, List.length_append]
        omega
      have HBD := Lib.hid hbd
      clear hi hin hg hgr hpp hil hbd
      go_wp2_with fail
      refine (Tryd.Buffer_WriteString_at 78 (fun _ => none) B b 0 (bv (l ++ catL (ps.take i))) p wr HFi.out HBr.out (bv_one _) HBD.out).mono ?_
      rintro e w2 ⟨rfl, h2, hb2, ho2⟩
      have HF2 : Hid (Bf w2 B b (l ++ catL (ps.take (i + 1)))) := Lib.hid (by
        rw [HC.out, ← List.append_assoc]
        unfold Bf
        rw [bv_append]
        exact h2)
      have HK2 : Hid (Bk w B b w2) := Lib.hid (HK.out.trans ⟨hb2, ho2⟩)
      clear h2 hb2 ho2
      go_wp2_with fail
      go_roundw
      case rel => exact ⟨i + 1, by first | rfl | (push_cast; rfl), HI.out, HF2.out, HK2.out⟩
      case measure => exact nbj3 HI.out
    · have z1 := nbj2 hin
      have hie : i = n := Nat.le_antisymm hi (Nat.le_of_not_lt hin)
      have HT : Hid (catL (ps.take i) = catL ps) := Lib.hid (by rw [hie, List.take_of_length_le (by rw [HP.out.1]; exact Nat.le_refl _)])
      have HBD : Hid ((bv (l ++ catL (ps.take i))).length + (strB [13, 10]).size ≤ 140737488355328) := Lib.hid (by
        have h2 := HL.out
        rw [bv_length, HT.out, List.length_append, strB_size]
        exact h2)
      clear hi hin hie
      go_wp2_with fail
      refine (Tryd.Buffer_WriteString_at 78 (fun _ => none) B b 0 (bv (l ++ catL (ps.take i))) (strB [13, 10]) wr HFi.out HBr.out (bv_one _) HBD.out).mono ?_
      rintro e w2 ⟨rfl, h2, hb2, ho2⟩
      have HF2 : Hid (Bf w2 B b (l ++ catL ps ++ [13, 10])) := Lib.hid (by
        rw [HT.out] at h2
        unfold Bf
        rw [bv_append]
        exact h2)
      have HK2 : Hid (Bk w B b w2) := Lib.hid (HK.out.trans ⟨hb2, ho2⟩)
      clear h2 hb2 ho2
      go_wp2
      (try simp only [Exit.inBlock, Exit.then]); refine bodyPost_ret (results_none rfl _ _ _) rfl ?_
      exact ⟨rfl, HF2.out, HK2.out⟩

/-- what the writer holds, as a slice -/
def BytP (w : World) (B : Nat) (l : List UInt8) (e : Ending) (w' : World) : Prop := ∃ a c, e = .returned (.slice a l.length c) ∧ w'.ownsRow B 5 1 (.slice a l.length c) l.length (bv l) ∧ Below w.heap.size w w'
set_option maxRecDepth 100000 in
theorem bytes_any (w : World) {B b : Nat} {l : List UInt8} (h : Bf w B b l) : Calls Tryd.prog 37 #[.pointer (some ⟨b, 0, none⟩)] w (BytP w B l) := by
  obtain ⟨n, hn⟩ : ∃ n, n = l.length := ⟨_, rfl⟩
  unfold BytP
  rw [← hn]
  obtain ⟨hB, v, lr, h3, hown, hne⟩ := h
  rw [bv_length, ← hn] at hown
  have hd : Below w.heap.size w w.drew := below_drewN (Below.refl w.heap.size w) 1
  have HD := Lib.hid hd
  obtain ⟨ao, c, hv, hnc, hcm⟩ : ∃ ao c, v = .slice ao n c ∧ n ≤ c ∧ c ≤ maxLen := by
    rcases hown.2 with ⟨hv, h0⟩ | ⟨g, cap, cur, hv, hBg, hg, hnc, hcm, _⟩
    · exact ⟨none, 0, by rw [hv, h0], by omega, Nat.zero_le _⟩
    · exact ⟨_, cap, hv, hnc, hcm⟩
  subst hv
  have HO := Lib.hid hown
  have HSat : Hid (Sat [(⟨b, 0, none⟩, .slice ao n c), (⟨b, 1, none⟩, .int .i64 0)] w.drew) := Lib.hid ((Sat.cons h3.c0 (Sat.cons h3.c1 (Sat.nil w))).below hd)
  have HC : Hid (n ≤ c) := Lib.hid hnc
  have hn0 : (0 : Int) ≤ (n : Int) := by omega
  have hn1 : (n : Int) ≤ (c : Int) := by omega
  have hmx : c ≤ 9223372036854775807 := by unfold maxLen at hcm; omega
  clear h3 hown hne hB hd hnc hn hcm
  go_enter Tryd.func37, Tryd.ntmps37
  go_upto_region 1 with fail
  refine Mx.region [] (Sat [(⟨b, 0, none⟩, .slice ao n c), (⟨b, 1, none⟩, .int .i64 0)]) (by kernel_rfl) (by kernel_rfl) HSat.out ?_
  repeat ((first | (refine Mx.skips (by kernel_rfl) ?_; go_big_quiet_skip) | (refine Mx.quietly rfl ?_; go_big_quiet_want; go_big_quiet_op; go_big_quiet_on)); refine Mx.done ?_)
  refine Mx.cell ⟨b, 0, none⟩ (.slice ao n c) (by kernel_rfl) (by kernel_rfl) (by kernel_rfl) Tryd.isAgg28 (fun w' h => h 0 _ _ rfl) ?_
  go_big_quiet_want; go_big_quiet_op; go_big_quiet_on; refine Mx.done ?_
  repeat ((first | (refine Mx.skips (by kernel_rfl) ?_; go_big_quiet_skip) | (refine Mx.quietly rfl ?_; go_big_quiet_want; go_big_quiet_op; go_big_quiet_on)); refine Mx.done ?_)
  refine Mx.cell ⟨b, 1, none⟩ (.int .i64 0) (by kernel_rfl) (by kernel_rfl) (by kernel_rfl) Tryd.isAgg3 (fun w' h => h 1 _ _ rfl) ?_
  go_big_quiet_want; go_big_quiet_op; go_big_quiet_on; refine Mx.done ?_
  repeat ((first | (refine Mx.skips (by kernel_rfl) ?_; go_big_quiet_skip) | (refine Mx.quietly rfl ?_; go_big_quiet_want; go_big_quiet_op; go_big_quiet_on)); refine Mx.done ?_)
  refine Mx.nil ?_
  go_wp2
  go_ret
  exact ⟨ao, c, rfl, own_kept HO.out (Kept.drew none' w) (fun _ _ h => h), HD.out⟩

/-- a slice of bytes in new memory -/
def CloP (w : World) (l : List UInt8) (e : Ending) (w' : World) : Prop := ∃ a c, e = .returned (.slice a l.length c) ∧ w'.ownsRow w.heap.size 5 1 (.slice a l.length c) l.length (bv l) ∧ Below w.heap.size w w'
theorem clone_any (w : World) {a : Option Addr} {n c : Nat} {l : List UInt8} (h : Sl w a n c (bv l)) (hn : n ≤ 140737488355328) : Calls Tryd.prog 36 #[.slice a n c] w (CloP w l) := by
  have hl := h.byte
  cases a with
  | none =>
    have hc := h.nil rfl
    have hn0 : n = 0 := by have := h.cap_le; omega
    obtain rfl : l = [] := List.eq_nil_of_length_eq_zero (by omega)
    refine (Tryd.bytes_Clone_nil n c w).mono ?_
    rintro e w2 ⟨rfl, rfl⟩
    exact ⟨none, 0, rfl, World.ownsRow_nil _ _ _ _, Below.refl _ _⟩
  | some ad =>
    have hxs : (l.map fun b => (b.toNat : Int)).map (Value.int .u8) = bv l := by simp [bv]
    refine (Tryd.bytes_Clone_at ad n c (l.map fun b => (b.toNat : Int)) w (by simp [hl]) hn ?_).mono ?_
    · intro i hi
      obtain ⟨b, off, hb, hcs⟩ := h.cells (by omega)
      simp only [Option.some.injEq] at hb
      subst hb
      rw [addr_add, hcs i hi, bv_get l i (by omega)]
      simp [List.getD, hl, hi]
    · rintro e w2 ⟨v, rfl, ho, hv, hb⟩
      rw [hxs, ← hl] at ho
      rcases ho.2 with ⟨hv0, _⟩ | ⟨g, cap, cur, hv1, _⟩
      · exact absurd hv0 hv
      · subst hv1
        exact ⟨_, cap, rfl, ho, hb⟩
end Go.Proofs.YtohinaohcndndaaDoor

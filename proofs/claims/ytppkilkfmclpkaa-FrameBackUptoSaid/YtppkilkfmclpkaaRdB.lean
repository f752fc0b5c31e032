/- The document's Check. No condition but the sizes. -/
import Derived.Test.YtppkilkfmclpkaaFrCheck
import Derived.Test.YtppkilkfmclpkaaSat
import Derived.Test.YtppkilkfmclpkaaFrRow
namespace Go.Proofs.Ytppkilkfmclpkaa
open Go.RowKit

set_option maxRecDepth 100000 in
theorem rnum_any (w : World) (x : Int) : Calls Try.prog 36 #[.int .i64 x] w (BoolOf w (numB x)) := by
  unfold numB
  by_cases h1 : 0 ≤ x
  · by_cases h2 : x ≤ 4611686018427387903
    · have e : (decide (0 ≤ x) && decide (x ≤ 4611686018427387903)) = true := by simp [h1, h2]
      rw [e]
      go_enter Try.func36, Try.ntmps36
      go_wp2
      go_ret
      exact ⟨rfl, Below.refl _ _⟩
    · have e : (decide (0 ≤ x) && decide (x ≤ 4611686018427387903)) = false := by simp [h2]
      rw [e]
      go_enter Try.func36, Try.ntmps36
      go_wp2
      go_ret
      exact ⟨rfl, Below.refl _ _⟩
  · have e : (decide (0 ≤ x) && decide (x ≤ 4611686018427387903)) = false := by simp [h1]
    rw [e]
    go_enter Try.func36, Try.ntmps36
    go_wp2
    go_ret
    exact ⟨rfl, Below.refl _ _⟩
theorem hsj1 {i n : Nat} (h : i < n) : (i : Int) < (n : Int) := by omega
theorem hsj2 {i n : Nat} (h : ¬ i < n) : ¬ (i : Int) < (n : Int) := by omega
theorem hsj3 {i n : Nat} (h : i < n) (hn : n ≤ 8) : IntKind.i64.wrap ((i : Int) + 1) = ((i : Int) + 1) ∧ RowKit.wrap64 ((i : Int) + 1) = (i : Int) + 1 := by rw [IntKind.wrap_i64]; unfold RowKit.wrap64; omega
theorem hsj4 {i n : Nat} (h : i < n) : n - (intOf (Value.int .i64 ((i : Int) + 1))).toNat < n - (intOf (Value.int .i64 (i : Int))).toNat := by simp only [intOf]; omega
theorem str_get (l : List UInt8) (i : Nat) (_ : i < l.length) {h2 : i < (str l).size} : (str l)[i] = l[i] := rfl
set_option maxRecDepth 100000 in
theorem has_any (w : World) (l : List UInt8) (hl : l.length ≤ 8) (x : UInt8) : Calls Try.prog 35 #[.string (str l), .int .u8 (x.toNat : Int)] w (BoolOf w (l.contains x)) := by
  have hsz : (str l).size = l.length := by simp [str, ByteArray.size]
  obtain ⟨n, hn⟩ : ∃ n, n = l.length := ⟨_, rfl⟩
  obtain ⟨sl, hs⟩ : ∃ sl, sl = str l := ⟨_, rfl⟩
  rw [← hs, ← hn] at hsz
  rw [← hs]
  obtain ⟨c, hc⟩ : ∃ c, c = x.toNat := ⟨_, rfl⟩
  rw [← hc]
  have HN := Lib.hid hn
  have HS := Lib.hid hs
  have HC := Lib.hid hc
  have HL := Lib.hid hl
  clear hn hs hc hl
  go_enter Try.func35, Try.ntmps35
  go_wp2_with fail
  go_loopw [5] (fun v wr => ∃ i : Nat, v = .int .i64 (i : Int) ∧ i ≤ n ∧ Hid ((l.take i).contains x = false) ∧ wr = w) (fun v _ => n - (intOf v).toNat)
  case atStart => exact ⟨0, rfl, Nat.zero_le _, Lib.hid (by simp), rfl⟩
  case round =>
    obtain ⟨i, rfl, hi, HP, rfl⟩ := hrel
    by_cases hin : i < n
    · have z1 := hsj1 hin
      obtain ⟨z2, z3⟩ := hsj3 hin (by rw [HN.out]; exact HL.out)
      have HIn := Lib.hid hin
      have hil : i < l.length := by rw [← HN.out]; exact hin
      have hg : sl[i]'(by rw [hsz]; exact hin) = l[i] := by
        have h1 := HS.out
        subst h1
        exact str_get l i hil
      by_cases he : l[i] = x
      · have y1 : (((sl[i]'(by rw [hsz]; exact hin)).toNat : Int) == (c : Int)) = true := by rw [hg, he, HC.out]; simp
        have HE : Hid (l.contains x = true) := Lib.hid (by rw [← he]; simp)
        clear hi he hg hil
        go_wp2
        go_ret
        exact ⟨ret_bool HE.out.symm, Below.refl _ _⟩
      · have y1 : (((sl[i]'(by rw [hsz]; exact hin)).toNat : Int) == (c : Int)) = false := by
          rw [hg, HC.out]
          simp only [beq_eq_false_iff_ne, ne_eq]
          exact fun e => he (u8_inj e)
        have HP2 : Hid ((l.take (i + 1)).contains x = false) := Lib.hid (by
          rw [List.take_succ_eq_append_getElem hil]
          have h1 := HP.out
          simp only [List.contains_eq_mem, List.mem_append, List.mem_singleton, decide_eq_false_iff_not, not_or] at h1 ⊢
          exact ⟨h1, fun e => he e.symm⟩)
        clear hi he hg hil
        go_wp2_with fail
        go_roundw
        case rel => exact ⟨i + 1, by push_cast; rfl, HIn.out, HP2, by trivial⟩
        case measure => exact hsj4 HIn.out
    · have z1 := hsj2 hin
      have HE : Hid (l.contains x = false) := Lib.hid (by
        have h1 := HP.out
        rw [List.take_of_length_le (by rw [← HN.out]; omega)] at h1
        exact h1)
      clear hi hin
      go_wp2
      go_ret
      exact ⟨ret_bool (by have h1 := HE.out; simp at h1; simp [h1]), Below.refl _ _⟩
/- SPANS -/
/-- the spans ahead of place i: none, or the last one ends at pt -/
def lastOf (l : List Sn) (i : Nat) : Int := if i = 0 then -2 else (l[i - 1]?.map Sn.to_).getD 0
theorem lastOf_succ {l : List Sn} {i : Nat} (h : i < l.length) : lastOf l (i + 1) = l[i].to_ := by
  unfold lastOf
  rw [if_neg (by omega), Nat.add_sub_cancel, List.getElem?_eq_getElem h]; rfl
theorem spx1 {lo sf : Int} (h : -2 ≤ lo) (c : sf < 0) : sf ≤ lo + 1 := by omega
theorem spx2 {l : List Sn} {sf : Int} {i : Nat} (h : i = 0) (c : ¬ sf < 0) : ¬ sf ≤ lastOf l i + 1 := by subst h; simp only [lastOf, if_pos]; omega
theorem spx8 {i : Nat} (h : i = 0) : ((0 : Int) < (i : Int)) = False := eq_false (by omega)
theorem spx3 {zm sf pt lo : Int} (h : zm = sf - 1) (hp : lo = pt) (c : ¬ zm ≤ pt) : ¬ sf ≤ lo + 1 := by omega
theorem spx4 {zm sf pt lo : Int} (h : zm = sf - 1) (hp : lo = pt) (c : zm ≤ pt) : sf ≤ lo + 1 := by omega
theorem spx5 {i j n : Nat} (hj : i = j + 1) (hi : i < n) : i - 1 = j ∧ (j : Int) < (n : Int) ∧ j < n := by omega
theorem spx6 {sf st : Int} (h1 : ¬ st < sf) (h2 : ¬ 4611686018427387903 < st) : sf ≤ 9223372036854775807 := by omega
theorem spx7 {st : Int} (h2 : ¬ 4611686018427387903 < st) : st ≤ 4611686018427387903 := by omega
theorem spj1 {n : Nat} (h : n < 1) : (n : Int) < 1 := by omega
theorem spj2 {n : Nat} (_ : ¬ n < 1) (h2 : 64 < n) : ¬ (n : Int) < 1 ∧ (64 : Int) < (n : Int) := by omega
theorem spj3 {n : Nat} (h : ¬ n < 1) (h2 : ¬ 64 < n) : ¬ (n : Int) < 1 ∧ ¬ (64 : Int) < (n : Int) ∧ n ≤ 64 := by omega
theorem spj4 {i : Nat} (h : i ≤ 64) (h0 : ¬ i = 0) : ∃ j : Nat, i = j + 1 ∧ (0 : Int) < (i : Int) ∧ IntKind.i64.wrap ((i : Int) - 1) = (j : Int) ∧ RowKit.wrap64 ((i : Int) - 1) = (j : Int) := by
  refine ⟨i - 1, by omega, by omega, ?_⟩
  rw [IntKind.wrap_i64]; unfold RowKit.wrap64; omega
theorem spj5 {x : Int} (h : ¬ x < 0) (hx : x ≤ 9223372036854775807) : ∃ z : Int, z = x - 1 ∧ IntKind.i64.wrap (x - 1) = z ∧ RowKit.wrap64 (x - 1) = z := by
  refine ⟨_, rfl, ?_⟩
  rw [IntKind.wrap_i64]; unfold RowKit.wrap64; omega
theorem spj6 {i : Nat} (h : i ≤ 64) : IntKind.i64.wrap ((i : Int) + 1) = (i : Int) + 1 ∧ RowKit.wrap64 ((i : Int) + 1) = (i : Int) + 1 := by
  rw [IntKind.wrap_i64]; unfold RowKit.wrap64; omega
set_option maxRecDepth 100000 in
set_option maxHeartbeats 4000000 in
theorem rspans_any (w : World) {a : Option Addr} {n c : Nat} {l : List Sn} (h : SlS w a n c l) : Calls Try.prog 37 #[.slice a n c] w (BoolOf w (rspV l)) := by
  have hl := h.len
  have hcap := h.cap
  have hmax := h.max
  by_cases h1 : n < 1
  · have z1 := spj1 h1
    have HE : Hid (rspV l = false) := Lib.hid (by unfold rspV; rw [hl]; simp; omega)
    clear h hl h1
    go_enter Try.func37, Try.ntmps37
    go_wp2
    go_ret
    exact ⟨ret_bool HE.out.symm, Below.refl _ _⟩
  by_cases h2 : 64 < n
  · obtain ⟨z1, z2⟩ := spj2 h1 h2
    have HE : Hid (rspV l = false) := Lib.hid (by unfold rspV; rw [hl]; simp; omega)
    clear h hl h1 h2
    go_enter Try.func37, Try.ntmps37
    go_wp2
    go_ret
    exact ⟨ret_bool HE.out.symm, Below.refl _ _⟩
  obtain ⟨z1, z2, hn64⟩ := spj3 h1 h2
  obtain ⟨b, off, rfl, hcl⟩ := h.cells (by omega)
  have HL := Lib.hid hl
  have HCl := Lib.hid hcl
  have HN := Lib.hid hn64
  have H1 : Hid (0 < n) := Lib.hid (by omega)
  have hcc : (n : Int) ≤ (c : Int) := by omega
  clear h hl hcl hn64 h1 h2
  go_enter Try.func37, Try.ntmps37
  go_wp2_with fail
  go_loopw [3] (fun v wr => ∃ i : Nat, v = .int .i64 (i : Int) ∧ i ≤ n ∧ Hid (-2 ≤ lastOf l i ∧ lastOf l i ≤ 4611686018427387903 ∧ spsOk (-2) l = spsOk (lastOf l i) (l.drop i)) ∧ Below w.heap.size w wr) (fun v _ => n - (intOf v).toNat)
  case atStart => exact ⟨0, rfl, Nat.zero_le _, Lib.hid ⟨by simp [lastOf], by simp [lastOf], rfl⟩, Below.refl _ _⟩
  case round =>
    obtain ⟨i, rfl, hin, HLO, hb⟩ := hrel
    have HBr := Lib.hid hb
    have HP : Hid (spsOk (-2) l = spsOk (lastOf l i) (l.drop i)) := Lib.hid HLO.out.2.2
    by_cases hi : i < n
    · have z3 := hsj1 hi
      have hil : i < l.length := by rw [HL.out]; exact hi
      obtain ⟨p0a, p1a⟩ := HCl.out i hil
      have p0 := (HBr.out.cell (World.block_lt_of_cell? w _ p0a)).trans p0a
      have p1 := (HBr.out.cell (World.block_lt_of_cell? w _ p1a)).trans p1a
      clear p0a p1a
      have HD : Hid (l.drop i = l[i] :: l.drop (i + 1)) := Lib.hid (List.drop_eq_getElem_cons hil)
      obtain ⟨x, hx⟩ : ∃ x, x = l[i] := ⟨_, rfl⟩
      have HX := Lib.hid hx
      rw [← hx] at p0 p1 HD
      obtain ⟨sf, st⟩ := x
      have HBw : Hid (Below w.heap.size w wr.drew) := Lib.hid (HBr.out.trans ((below_drewN (Below.refl wr.heap.size wr) 1).mono HBr.out.size))
      have HI := Lib.hid hi
      clear hx hin hb
      have HI64 : Hid (i ≤ 64) := Lib.hid (Nat.le_trans (Nat.le_of_lt hi) HN.out)
      have HIl := Lib.hid hil
      have HP2 : Hid (0 < i → ∃ pt, w.cell? ⟨b, off + (i - 1) * 2 + 1, none⟩ = some (.int .i64 pt) ∧ lastOf l i = pt) := Lib.hid (fun h0 => by
        obtain ⟨_, r1⟩ := HCl.out (i - 1) (by omega)
        exact ⟨_, r1, by unfold lastOf; rw [if_neg (by omega), List.getElem?_eq_getElem (by omega)]; rfl⟩)
      have HSat : Hid (Sat [(⟨b, off + i * 2, none⟩, .int .i64 sf), (⟨b, off + i * 2 + 1, none⟩, .int .i64 st)] wr.drew) := Lib.hid (Sat.cons (w := wr.drew) p0 (Sat.cons (w := wr.drew) p1 (Sat.nil _)))
      by_cases cA : sf < 0
      · have yA := eq_true cA
        have HWhy : Hid (sf ≤ lastOf l i + 1) := Lib.hid (spx1 HLO.out.1 cA)
        clear cA hi p0 p1
        have HE : Hid (rspV l = false) := Lib.hid (by unfold rspV; rw [HP.out, HD.out, spsOk_bad (.inr (.inl HWhy.out))]; rfl)
        go_upto_region 6 with fail
        refine Mx.region [] (Sat [(⟨b, off + i * 2, none⟩, .int .i64 sf), (⟨b, off + i * 2 + 1, none⟩, .int .i64 st)]) (by kernel_rfl) (by kernel_rfl) HSat.out ?_
        repeat ((first | (refine Mx.skips (by kernel_rfl) ?_; go_big_quiet_skip) | (refine Mx.quietly rfl ?_; go_big_quiet_want; go_big_quiet_op; go_big_quiet_on)); refine Mx.done ?_)
        refine Mx.cell ⟨b, off + i * 2, none⟩ (.int .i64 sf) (by kernel_rfl) (by kernel_rfl) (by kernel_rfl) Try.isAgg3 (fun w' h => h 0 _ _ rfl) ?_; go_big_quiet_want; go_big_quiet_op; go_big_quiet_on; refine Mx.done ?_
        repeat ((first | (refine Mx.skips (by kernel_rfl) ?_; go_big_quiet_skip) | (refine Mx.quietly rfl ?_; go_big_quiet_want; go_big_quiet_op; go_big_quiet_on)); refine Mx.done ?_)
        refine Mx.nil ?_
        go_wp2
        go_ret
        exact ⟨ret_bool HE.out.symm, HBw.out⟩
      have yA := eq_false cA
      by_cases cB : st < sf
      · have yB := eq_true cB
        have HWhy := Lib.hid cB
        clear cA cB hi p0 p1
        have HE : Hid (rspV l = false) := Lib.hid (by unfold rspV; rw [HP.out, HD.out, spsOk_bad (.inr (.inr HWhy.out))]; rfl)
        go_upto_region 6 with fail
        refine Mx.region [] (Sat [(⟨b, off + i * 2, none⟩, .int .i64 sf), (⟨b, off + i * 2 + 1, none⟩, .int .i64 st)]) (by kernel_rfl) (by kernel_rfl) HSat.out ?_
        repeat ((first | (refine Mx.skips (by kernel_rfl) ?_; go_big_quiet_skip) | (refine Mx.quietly rfl ?_; go_big_quiet_want; go_big_quiet_op; go_big_quiet_on)); refine Mx.done ?_)
        refine Mx.cell ⟨b, off + i * 2, none⟩ (.int .i64 sf) (by kernel_rfl) (by kernel_rfl) (by kernel_rfl) Try.isAgg3 (fun w' h => h 0 _ _ rfl) ?_; go_big_quiet_want; go_big_quiet_op; go_big_quiet_on; refine Mx.done ?_
        repeat ((first | (refine Mx.skips (by kernel_rfl) ?_; go_big_quiet_skip) | (refine Mx.quietly rfl ?_; go_big_quiet_want; go_big_quiet_op; go_big_quiet_on)); refine Mx.done ?_)
        refine Mx.cell ⟨b, off + i * 2 + 1, none⟩ (.int .i64 st) (by kernel_rfl) (by kernel_rfl) (by kernel_rfl) Try.isAgg3 (fun w' h => h 1 _ _ rfl) ?_; go_big_quiet_want; go_big_quiet_op; go_big_quiet_on; refine Mx.done ?_
        repeat ((first | (refine Mx.skips (by kernel_rfl) ?_; go_big_quiet_skip) | (refine Mx.quietly rfl ?_; go_big_quiet_want; go_big_quiet_op; go_big_quiet_on)); refine Mx.done ?_)
        refine Mx.cell ⟨b, off + i * 2, none⟩ (.int .i64 sf) (by kernel_rfl) (by kernel_rfl) (by kernel_rfl) Try.isAgg3 (fun w' h => h 0 _ _ rfl) ?_; go_big_quiet_want; go_big_quiet_op; go_big_quiet_on; refine Mx.done ?_
        repeat ((first | (refine Mx.skips (by kernel_rfl) ?_; go_big_quiet_skip) | (refine Mx.quietly rfl ?_; go_big_quiet_want; go_big_quiet_op; go_big_quiet_on)); refine Mx.done ?_)
        refine Mx.nil ?_
        go_wp2
        go_ret
        exact ⟨ret_bool HE.out.symm, HBw.out⟩
      have yB := eq_false cB
      by_cases cC : 4611686018427387903 < st
      · have yC := eq_true cC
        have HWhy := Lib.hid cC
        clear cA cB cC hi p0 p1
        have HE : Hid (rspV l = false) := Lib.hid (by unfold rspV; rw [HP.out, HD.out, spsOk_bad (.inl HWhy.out)]; rfl)
        go_upto_region 6 with fail
        refine Mx.region [] (Sat [(⟨b, off + i * 2, none⟩, .int .i64 sf), (⟨b, off + i * 2 + 1, none⟩, .int .i64 st)]) (by kernel_rfl) (by kernel_rfl) HSat.out ?_
        repeat ((first | (refine Mx.skips (by kernel_rfl) ?_; go_big_quiet_skip) | (refine Mx.quietly rfl ?_; go_big_quiet_want; go_big_quiet_op; go_big_quiet_on)); refine Mx.done ?_)
        refine Mx.cell ⟨b, off + i * 2, none⟩ (.int .i64 sf) (by kernel_rfl) (by kernel_rfl) (by kernel_rfl) Try.isAgg3 (fun w' h => h 0 _ _ rfl) ?_; go_big_quiet_want; go_big_quiet_op; go_big_quiet_on; refine Mx.done ?_
        repeat ((first | (refine Mx.skips (by kernel_rfl) ?_; go_big_quiet_skip) | (refine Mx.quietly rfl ?_; go_big_quiet_want; go_big_quiet_op; go_big_quiet_on)); refine Mx.done ?_)
        refine Mx.cell ⟨b, off + i * 2 + 1, none⟩ (.int .i64 st) (by kernel_rfl) (by kernel_rfl) (by kernel_rfl) Try.isAgg3 (fun w' h => h 1 _ _ rfl) ?_; go_big_quiet_want; go_big_quiet_op; go_big_quiet_on; refine Mx.done ?_
        repeat ((first | (refine Mx.skips (by kernel_rfl) ?_; go_big_quiet_skip) | (refine Mx.quietly rfl ?_; go_big_quiet_want; go_big_quiet_op; go_big_quiet_on)); refine Mx.done ?_)
        refine Mx.cell ⟨b, off + i * 2, none⟩ (.int .i64 sf) (by kernel_rfl) (by kernel_rfl) (by kernel_rfl) Try.isAgg3 (fun w' h => h 0 _ _ rfl) ?_; go_big_quiet_want; go_big_quiet_op; go_big_quiet_on; refine Mx.done ?_
        repeat ((first | (refine Mx.skips (by kernel_rfl) ?_; go_big_quiet_skip) | (refine Mx.quietly rfl ?_; go_big_quiet_want; go_big_quiet_op; go_big_quiet_on)); refine Mx.done ?_)
        refine Mx.cell ⟨b, off + i * 2 + 1, none⟩ (.int .i64 st) (by kernel_rfl) (by kernel_rfl) (by kernel_rfl) Try.isAgg3 (fun w' h => h 1 _ _ rfl) ?_; go_big_quiet_want; go_big_quiet_op; go_big_quiet_on; refine Mx.done ?_
        repeat ((first | (refine Mx.skips (by kernel_rfl) ?_; go_big_quiet_skip) | (refine Mx.quietly rfl ?_; go_big_quiet_want; go_big_quiet_op; go_big_quiet_on)); refine Mx.done ?_)
        refine Mx.nil ?_
        go_wp2
        go_ret
        exact ⟨ret_bool HE.out.symm, HBw.out⟩
      have yC := eq_false cC
      by_cases cD : i = 0
      · have z4 := spx8 cD
        have z4n : (0 < i) = False := eq_false (by omega)
        have HNx := Lib.hid (spsOk_last (last := lastOf l i) (x := ⟨sf, st⟩) (r := l.drop (i + 1)) HLO.out.1 cC (spx2 cD cA) cB)
        clear cD
        obtain ⟨q1, q2⟩ := spj6 HI64.out
        have HIw := Lib.hid q1
        have HSt := Lib.hid (spx7 cC)
        go_upto_region 6 with fail
        refine Mx.region [] (Sat [(⟨b, off + i * 2, none⟩, .int .i64 sf), (⟨b, off + i * 2 + 1, none⟩, .int .i64 st)]) (by kernel_rfl) (by kernel_rfl) HSat.out ?_
        repeat ((first | (refine Mx.skips (by kernel_rfl) ?_; go_big_quiet_skip) | (refine Mx.quietly rfl ?_; go_big_quiet_want; go_big_quiet_op; go_big_quiet_on)); refine Mx.done ?_)
        refine Mx.cell ⟨b, off + i * 2, none⟩ (.int .i64 sf) (by kernel_rfl) (by kernel_rfl) (by kernel_rfl) Try.isAgg3 (fun w' h => h 0 _ _ rfl) ?_; go_big_quiet_want; go_big_quiet_op; go_big_quiet_on; refine Mx.done ?_
        repeat ((first | (refine Mx.skips (by kernel_rfl) ?_; go_big_quiet_skip) | (refine Mx.quietly rfl ?_; go_big_quiet_want; go_big_quiet_op; go_big_quiet_on)); refine Mx.done ?_)
        refine Mx.cell ⟨b, off + i * 2 + 1, none⟩ (.int .i64 st) (by kernel_rfl) (by kernel_rfl) (by kernel_rfl) Try.isAgg3 (fun w' h => h 1 _ _ rfl) ?_; go_big_quiet_want; go_big_quiet_op; go_big_quiet_on; refine Mx.done ?_
        repeat ((first | (refine Mx.skips (by kernel_rfl) ?_; go_big_quiet_skip) | (refine Mx.quietly rfl ?_; go_big_quiet_want; go_big_quiet_op; go_big_quiet_on)); refine Mx.done ?_)
        refine Mx.cell ⟨b, off + i * 2, none⟩ (.int .i64 sf) (by kernel_rfl) (by kernel_rfl) (by kernel_rfl) Try.isAgg3 (fun w' h => h 0 _ _ rfl) ?_; go_big_quiet_want; go_big_quiet_op; go_big_quiet_on; refine Mx.done ?_
        repeat ((first | (refine Mx.skips (by kernel_rfl) ?_; go_big_quiet_skip) | (refine Mx.quietly rfl ?_; go_big_quiet_want; go_big_quiet_op; go_big_quiet_on)); refine Mx.done ?_)
        refine Mx.cell ⟨b, off + i * 2 + 1, none⟩ (.int .i64 st) (by kernel_rfl) (by kernel_rfl) (by kernel_rfl) Try.isAgg3 (fun w' h => h 1 _ _ rfl) ?_; go_big_quiet_want; go_big_quiet_op; go_big_quiet_on; refine Mx.done ?_
        repeat ((first | (refine Mx.skips (by kernel_rfl) ?_; go_big_quiet_skip) | (refine Mx.quietly rfl ?_; go_big_quiet_want; go_big_quiet_op; go_big_quiet_on)); refine Mx.done ?_)
        refine Mx.nil ?_
        go_wp2_with fail
        go_roundw
        case rel => exact ⟨i + 1, by push_cast; rfl, HI.out, Lib.hid (by rw [lastOf_succ HIl.out, ← HX.out]; exact ⟨HNx.out.2, HSt.out, by rw [HP.out, HD.out, HNx.out.1]⟩), HBw.out⟩
        case measure => exact hsj4 HI.out
      obtain ⟨j, hj, z4a, z5, z6⟩ := spj4 HI64.out cD
      have z4 := eq_true z4a
      have z4n : (0 < i) = True := eq_true (by omega)
      clear z4a
      obtain ⟨pt, p2a, hpt⟩ := HP2.out (Nat.pos_of_ne_zero cD)
      obtain ⟨e1, z9, z10⟩ := spx5 hj hi
      rw [e1] at p2a
      have p2 := (HBr.out.cell (World.block_lt_of_cell? w _ p2a)).trans p2a
      clear p2a
      obtain ⟨zm, hzm, z7, z8⟩ := spj5 cA (spx6 cB cC)
      have HJ := Lib.hid hj
      clear HSat
      have HSat : Hid (Sat [(⟨b, off + i * 2, none⟩, .int .i64 sf), (⟨b, off + i * 2 + 1, none⟩, .int .i64 st), (⟨b, off + j * 2 + 1, none⟩, .int .i64 pt)] wr.drew) := Lib.hid (Sat.cons (w := wr.drew) p0 (Sat.cons (w := wr.drew) p1 (Sat.cons (w := wr.drew) p2 (Sat.nil _))))
      by_cases cE : zm ≤ pt
      · have yE := eq_true cE
        have HWhy : Hid (sf ≤ lastOf l i + 1) := Lib.hid (spx4 hzm hpt cE)
        clear cA cB cC cD cE hi p0 p1 p2 hj e1 hpt hzm
        have HE : Hid (rspV l = false) := Lib.hid (by unfold rspV; rw [HP.out, HD.out, spsOk_bad (.inr (.inl HWhy.out))]; rfl)
        go_upto_region 6 with fail
        refine Mx.region [] (Sat [(⟨b, off + i * 2, none⟩, .int .i64 sf), (⟨b, off + i * 2 + 1, none⟩, .int .i64 st), (⟨b, off + j * 2 + 1, none⟩, .int .i64 pt)]) (by kernel_rfl) (by kernel_rfl) HSat.out ?_
        repeat ((first | (refine Mx.skips (by kernel_rfl) ?_; go_big_quiet_skip) | (refine Mx.quietly rfl ?_; go_big_quiet_want; go_big_quiet_op; go_big_quiet_on)); refine Mx.done ?_)
        refine Mx.cell ⟨b, off + i * 2, none⟩ (.int .i64 sf) (by kernel_rfl) (by kernel_rfl) (by kernel_rfl) Try.isAgg3 (fun w' h => h 0 _ _ rfl) ?_; go_big_quiet_want; go_big_quiet_op; go_big_quiet_on; refine Mx.done ?_
        repeat ((first | (refine Mx.skips (by kernel_rfl) ?_; go_big_quiet_skip) | (refine Mx.quietly rfl ?_; go_big_quiet_want; go_big_quiet_op; go_big_quiet_on)); refine Mx.done ?_)
        refine Mx.cell ⟨b, off + i * 2 + 1, none⟩ (.int .i64 st) (by kernel_rfl) (by kernel_rfl) (by kernel_rfl) Try.isAgg3 (fun w' h => h 1 _ _ rfl) ?_; go_big_quiet_want; go_big_quiet_op; go_big_quiet_on; refine Mx.done ?_
        repeat ((first | (refine Mx.skips (by kernel_rfl) ?_; go_big_quiet_skip) | (refine Mx.quietly rfl ?_; go_big_quiet_want; go_big_quiet_op; go_big_quiet_on)); refine Mx.done ?_)
        refine Mx.cell ⟨b, off + i * 2, none⟩ (.int .i64 sf) (by kernel_rfl) (by kernel_rfl) (by kernel_rfl) Try.isAgg3 (fun w' h => h 0 _ _ rfl) ?_; go_big_quiet_want; go_big_quiet_op; go_big_quiet_on; refine Mx.done ?_
        repeat ((first | (refine Mx.skips (by kernel_rfl) ?_; go_big_quiet_skip) | (refine Mx.quietly rfl ?_; go_big_quiet_want; go_big_quiet_op; go_big_quiet_on)); refine Mx.done ?_)
        refine Mx.cell ⟨b, off + i * 2 + 1, none⟩ (.int .i64 st) (by kernel_rfl) (by kernel_rfl) (by kernel_rfl) Try.isAgg3 (fun w' h => h 1 _ _ rfl) ?_; go_big_quiet_want; go_big_quiet_op; go_big_quiet_on; refine Mx.done ?_
        repeat ((first | (refine Mx.skips (by kernel_rfl) ?_; go_big_quiet_skip) | (refine Mx.quietly rfl ?_; go_big_quiet_want; go_big_quiet_op; go_big_quiet_on)); refine Mx.done ?_)
        refine Mx.cell ⟨b, off + i * 2, none⟩ (.int .i64 sf) (by kernel_rfl) (by kernel_rfl) (by kernel_rfl) Try.isAgg3 (fun w' h => h 0 _ _ rfl) ?_; go_big_quiet_want; go_big_quiet_op; go_big_quiet_on; refine Mx.done ?_
        repeat ((first | (refine Mx.skips (by kernel_rfl) ?_; go_big_quiet_skip) | (refine Mx.quietly rfl ?_; go_big_quiet_want; go_big_quiet_op; go_big_quiet_on)); refine Mx.done ?_)
        refine Mx.cell ⟨b, off + j * 2 + 1, none⟩ (.int .i64 pt) (by kernel_rfl) (by kernel_rfl) (by kernel_rfl) Try.isAgg3 (fun w' h => h 2 _ _ rfl) ?_; go_big_quiet_want; go_big_quiet_op; go_big_quiet_on; refine Mx.done ?_
        repeat ((first | (refine Mx.skips (by kernel_rfl) ?_; go_big_quiet_skip) | (refine Mx.quietly rfl ?_; go_big_quiet_want; go_big_quiet_op; go_big_quiet_on)); refine Mx.done ?_)
        refine Mx.nil ?_
        go_wp2
        go_ret
        exact ⟨ret_bool HE.out.symm, HBw.out⟩
      have yE := eq_false cE
      have HNy := Lib.hid (spsOk_last (last := lastOf l i) (x := ⟨sf, st⟩) (r := l.drop (i + 1)) HLO.out.1 cC (spx3 hzm hpt cE) cB)
      have HSt := Lib.hid (spx7 cC)
      clear hj e1 hpt hzm cD cE
      have HNx := Lib.hid HNy.out
      obtain ⟨q1, q2⟩ := spj6 HI64.out
      have HIw := Lib.hid q1
      have HSt := Lib.hid (spx7 cC)
      go_upto_region 6 with fail
      refine Mx.region [] (Sat [(⟨b, off + i * 2, none⟩, .int .i64 sf), (⟨b, off + i * 2 + 1, none⟩, .int .i64 st), (⟨b, off + j * 2 + 1, none⟩, .int .i64 pt)]) (by kernel_rfl) (by kernel_rfl) HSat.out ?_
      repeat ((first | (refine Mx.skips (by kernel_rfl) ?_; go_big_quiet_skip) | (refine Mx.quietly rfl ?_; go_big_quiet_want; go_big_quiet_op; go_big_quiet_on)); refine Mx.done ?_)
      refine Mx.cell ⟨b, off + i * 2, none⟩ (.int .i64 sf) (by kernel_rfl) (by kernel_rfl) (by kernel_rfl) Try.isAgg3 (fun w' h => h 0 _ _ rfl) ?_; go_big_quiet_want; go_big_quiet_op; go_big_quiet_on; refine Mx.done ?_
      repeat ((first | (refine Mx.skips (by kernel_rfl) ?_; go_big_quiet_skip) | (refine Mx.quietly rfl ?_; go_big_quiet_want; go_big_quiet_op; go_big_quiet_on)); refine Mx.done ?_)
      refine Mx.cell ⟨b, off + i * 2 + 1, none⟩ (.int .i64 st) (by kernel_rfl) (by kernel_rfl) (by kernel_rfl) Try.isAgg3 (fun w' h => h 1 _ _ rfl) ?_; go_big_quiet_want; go_big_quiet_op; go_big_quiet_on; refine Mx.done ?_
      repeat ((first | (refine Mx.skips (by kernel_rfl) ?_; go_big_quiet_skip) | (refine Mx.quietly rfl ?_; go_big_quiet_want; go_big_quiet_op; go_big_quiet_on)); refine Mx.done ?_)
      refine Mx.cell ⟨b, off + i * 2, none⟩ (.int .i64 sf) (by kernel_rfl) (by kernel_rfl) (by kernel_rfl) Try.isAgg3 (fun w' h => h 0 _ _ rfl) ?_; go_big_quiet_want; go_big_quiet_op; go_big_quiet_on; refine Mx.done ?_
      repeat ((first | (refine Mx.skips (by kernel_rfl) ?_; go_big_quiet_skip) | (refine Mx.quietly rfl ?_; go_big_quiet_want; go_big_quiet_op; go_big_quiet_on)); refine Mx.done ?_)
      refine Mx.cell ⟨b, off + i * 2 + 1, none⟩ (.int .i64 st) (by kernel_rfl) (by kernel_rfl) (by kernel_rfl) Try.isAgg3 (fun w' h => h 1 _ _ rfl) ?_; go_big_quiet_want; go_big_quiet_op; go_big_quiet_on; refine Mx.done ?_
      repeat ((first | (refine Mx.skips (by kernel_rfl) ?_; go_big_quiet_skip) | (refine Mx.quietly rfl ?_; go_big_quiet_want; go_big_quiet_op; go_big_quiet_on)); refine Mx.done ?_)
      refine Mx.cell ⟨b, off + i * 2, none⟩ (.int .i64 sf) (by kernel_rfl) (by kernel_rfl) (by kernel_rfl) Try.isAgg3 (fun w' h => h 0 _ _ rfl) ?_; go_big_quiet_want; go_big_quiet_op; go_big_quiet_on; refine Mx.done ?_
      repeat ((first | (refine Mx.skips (by kernel_rfl) ?_; go_big_quiet_skip) | (refine Mx.quietly rfl ?_; go_big_quiet_want; go_big_quiet_op; go_big_quiet_on)); refine Mx.done ?_)
      refine Mx.cell ⟨b, off + j * 2 + 1, none⟩ (.int .i64 pt) (by kernel_rfl) (by kernel_rfl) (by kernel_rfl) Try.isAgg3 (fun w' h => h 2 _ _ rfl) ?_; go_big_quiet_want; go_big_quiet_op; go_big_quiet_on; refine Mx.done ?_
      repeat ((first | (refine Mx.skips (by kernel_rfl) ?_; go_big_quiet_skip) | (refine Mx.quietly rfl ?_; go_big_quiet_want; go_big_quiet_op; go_big_quiet_on)); refine Mx.done ?_)
      refine Mx.nil ?_
      go_wp2_with fail
      go_roundw
      case rel => exact ⟨i + 1, by push_cast; rfl, HI.out, Lib.hid (by rw [lastOf_succ HIl.out, ← HX.out]; exact ⟨HNx.out.2, HSt.out, by rw [HP.out, HD.out, HNx.out.1]⟩), HBw.out⟩
      case measure => exact hsj4 HI.out
    · have z3 := hsj2 hi
      have HE : Hid (rspV l = true) := Lib.hid (by
        unfold rspV
        rw [HP.out, List.drop_of_length_le (by rw [HL.out]; omega), HL.out]
        have := H1.out
        have := HN.out
        simp [spsOk]; omega)
      clear hi hin hb
      go_wp2
      go_ret
      exact ⟨ret_bool HE.out.symm, HBr.out⟩
end Go.Proofs.Ytppkilkfmclpkaa

namespace Go.Proofs.Ytppkilkfmclpkaa
open Go.RowKit

theorem rcj1 {n : Nat} (h : 16384 < n) : (16384 : Int) < (n : Int) := by omega
theorem rcj2 {n : Nat} (h : ¬ 16384 < n) : ¬ (16384 : Int) < (n : Int) := by omega
theorem rcj3 {n : Nat} (h : n ≤ 16384) : ∃ m : Int, m = 4611686018427387903 - (n : Int) ∧ IntKind.i64.wrap (4611686018427387903 - (n : Int)) = m ∧ RowKit.wrap64 (4611686018427387903 - (n : Int)) = m := by
  refine ⟨_, rfl, ?_⟩
  rw [IntKind.wrap_i64]; unfold RowKit.wrap64; omega
theorem rcj5 {x : Int} (h : numB x = false) : (decide (0 ≤ x) && decide (x ≤ 1152921504606846976)) = false := by
  unfold numB at h; simp at h ⊢; omega
theorem rcj7 {x : Int} (h : numB x = false) : 0 ≤ x → 1152921504606846976 < x := by unfold numB at h; simp at h; omega
theorem rcj6 {x : Int} (h : numB x = true) : 0 ≤ x := by unfold numB at h; simp at h; omega
theorem HasF {w w' : World} {xb : Nat} {T : TypeId} {vs : List Value} (h : Has w xb T vs) (hb : Below w.heap.size w w') : Has w' xb T vs := h.kept (X := none') (Kept.of_below hb) (fun h => h)

/-- what holds ahead of Check's walk at a frame of a known kind -/
theorem rchk_pre (w : World) (f : Fm) (fa : FA) {k : Int} {its : List UInt8} (hk : f.kind = k) (h : FIn w f fa) (hi : itm k = (its, true)) (hkn : knoF k = true) :
    ∃ dn cn sn w1 xb R, (fcells f fa).toArray = #[.int .i64 k, .int .i64 f.id, .int .i64 f.at_, .int .i64 f.n, .int .i64 f.code, .bool f.fin, .slice fa.da dn fa.dc, .slice fa.ca cn fa.cc, .slice fa.sa sn fa.sc, .int .i64 f.delay, .int .i64 f.e0, .int .i64 f.e1, .int .i64 f.e2] ∧ chkF f = R ∧ w1 = w.alloc (.cells #[.int .i64 k, .int .i64 f.id, .int .i64 f.at_, .int .i64 f.n, .int .i64 f.code, .bool f.fin, .slice fa.da dn fa.dc, .slice fa.ca cn fa.cc, .slice fa.sa sn fa.sc, .int .i64 f.delay, .int .i64 f.e0, .int .i64 f.e1, .int .i64 f.e2] 34) ∧ xb = w.heap.size ∧
      Hid (Has w1 xb 34 (#[.int .i64 k, .int .i64 f.id, .int .i64 f.at_, .int .i64 f.n, .int .i64 f.code, .bool f.fin, .slice fa.da dn fa.dc, .slice fa.ca cn fa.cc, .slice fa.sa sn fa.sc, .int .i64 f.delay, .int .i64 f.e0, .int .i64 f.e1, .int .i64 f.e2] : Array Value).toList) ∧ Hid (Below w.heap.size w w1) ∧ Hid (SlS w1 fa.sa sn fa.sc f.spans) ∧ Hid (Calls Try.prog 24 #[.int .i64 k] w1 (StrR w1 (its, true))) ∧
      Hid (f.kind = k) ∧ Hid (dn = f.data.length) ∧ Hid (cn = f.cid.length) ∧ Hid (R = if 16384 < dn then 52 else if rightV f = false then 51 else 0) := by
  refine ⟨f.data.length, f.cid.length, f.spans.length, _, _, _, by rw [← hk]; rfl, rfl, rfl, rfl, Lib.hid (Has.new _ _ _), Lib.hid (alB w _), Lib.hid (h.below (alB w _)).spans, Lib.hid ?_, Lib.hid hk, Lib.hid rfl, Lib.hid rfl, Lib.hid ?_⟩
  · rw [← hi]; exact items_any _ k
  · unfold chkF; rw [hk, hkn, if_neg (by decide)]
set_option maxRecDepth 100000 in
set_option maxHeartbeats 4000000 in
theorem rchk_0 (w : World) (f : Fm) (fa : FA) (hk : f.kind = 0) (h : FIn w f fa) : Calls Try.prog 16 #[.agg (fcells f fa).toArray] w (IntOf w (chkF f)) := by
  obtain ⟨dn, cn, sn, w1, xb, R, hc, hR, hw1, hxb, HX1, HB1, HS1, HIt, HKd, HDn, HCn, HR⟩ := rchk_pre w f fa (its := []) hk h rfl rfl
  rw [hc, hR]
  clear h hk hc hR
  go_enter Try.func16, Try.ntmps16
  go_upto_region 1 with fail
  rw [← hw1, ← hxb]
  clear hw1 hxb
  have g0 := HX1.out.cell 0 rfl
  go_wp2_with fail
  refine HIt.out.mono ?_
  rintro e w2 ⟨rfl, rfl⟩
  have g6 := HX1.out.cell 6 rfl
  by_cases hbig : 16384 < dn
  · have y1 := rcj1 hbig
    have HE : Hid (R = 52) := Lib.hid (by rw [HR.out, if_pos hbig])
    clear hbig
    go_wp2
    go_ret
    rw [HE.out]
    exact ⟨rfl, HB1.out⟩
  have y1 := rcj2 hbig
  have HR2 : Hid (R = if rightV f = false then 51 else 0) := Lib.hid (by rw [HR.out, if_neg hbig])
  have HLe : Hid (dn ≤ 16384) := Lib.hid (Nat.le_of_not_lt hbig)
  clear hbig
  have HC2 := Lib.hid (show Calls Try.prog 35 #[.string (str []), .int .u8 105] w2 (BoolOf w2 false) from has_any _ [] (by decide) 105)
  go_wp2_with fail
  refine HC2.out.mono ?_
  rintro e w2q ⟨rfl, hb2⟩
  have HX2 := Lib.hid (HasF HX1.out hb2)
  have HS2 := Lib.hid (HS1.out.below hb2)
  have HB2 := Lib.hid (HB1.out.trans (hb2.mono HB1.out.size))
  clear hb2
  have HC3 := Lib.hid (show Calls Try.prog 35 #[.string (str []), .int .u8 97] w2q (BoolOf w2q false) from has_any _ [] (by decide) 97)
  go_wp2_with fail
  refine HC3.out.mono ?_
  rintro e w3q ⟨rfl, hb3⟩
  have HX3 := Lib.hid (HasF HX2.out hb3)
  have HS3 := Lib.hid (HS2.out.below hb3)
  have HB3 := Lib.hid (HB2.out.trans (hb3.mono HB2.out.size))
  clear hb3
  have HC4 := Lib.hid (show Calls Try.prog 35 #[.string (str []), .int .u8 110] w3q (BoolOf w3q false) from has_any _ [] (by decide) 110)
  go_wp2_with fail
  refine HC4.out.mono ?_
  rintro e w4q ⟨rfl, hb4⟩
  have HX4 := Lib.hid (HasF HX3.out hb4)
  have HS4 := Lib.hid (HS3.out.below hb4)
  have HB4 := Lib.hid (HB3.out.trans (hb4.mono HB3.out.size))
  clear hb4
  have HC5 := Lib.hid (show Calls Try.prog 35 #[.string (str []), .int .u8 99] w4q (BoolOf w4q false) from has_any _ [] (by decide) 99)
  go_wp2_with fail
  refine HC5.out.mono ?_
  rintro e w5q ⟨rfl, hb5⟩
  have HX5 := Lib.hid (HasF HX4.out hb5)
  have HS5 := Lib.hid (HS4.out.below hb5)
  have HB5 := Lib.hid (HB4.out.trans (hb5.mono HB4.out.size))
  clear hb5
  have HC6 := Lib.hid (show Calls Try.prog 35 #[.string (str []), .int .u8 115] w5q (BoolOf w5q false) from has_any _ [] (by decide) 115)
  go_wp2_with fail
  refine HC6.out.mono ?_
  rintro e w6q ⟨rfl, hb6⟩
  have HX6 := Lib.hid (HasF HX5.out hb6)
  have HS6 := Lib.hid (HS5.out.below hb6)
  have HB6 := Lib.hid (HB5.out.trans (hb6.mono HB5.out.size))
  clear hb6
  have HC7 := Lib.hid (show Calls Try.prog 35 #[.string (str []), .int .u8 101] w6q (BoolOf w6q false) from has_any _ [] (by decide) 101)
  go_wp2_with fail
  refine HC7.out.mono ?_
  rintro e w7q ⟨rfl, hb7⟩
  have HX7 := Lib.hid (HasF HX6.out hb7)
  have HS7 := Lib.hid (HS6.out.below hb7)
  have HB7 := Lib.hid (HB6.out.trans (hb7.mono HB6.out.size))
  clear hb7
  have g0 := HX7.out.cell 0 rfl
  have g3 := HX7.out.cell 3 rfl
  by_cases c1 : f.n < 1
  · have zc1 := c1
    have HE : Hid (R = 51) := Lib.hid (by rw [HR2.out]; rw [if_pos (by unfold rightV; simp [HKd.out, Int.not_le.2 c1])])
    go_wp2
    go_ret
    rw [HE.out]
    exact ⟨rfl, HB7.out⟩
  by_cases c2 : 16384 < f.n
  · have zc2 := c2
    have HE : Hid (R = 51) := Lib.hid (by rw [HR2.out]; rw [if_pos (by unfold rightV; simp [HKd.out, Int.not_lt.1 c1, c2])])
    go_wp2
    go_ret
    rw [HE.out]
    exact ⟨rfl, HB7.out⟩
  have HE : Hid (R = 0) := Lib.hid (by rw [HR2.out]; rw [if_neg (by unfold rightV; simp [HKd.out, Int.not_lt.1 c1, c2])])
  go_wp2
  go_ret
  rw [HE.out]
  exact ⟨rfl, HB7.out⟩
set_option maxRecDepth 100000 in
set_option maxHeartbeats 4000000 in
theorem rchk_1 (w : World) (f : Fm) (fa : FA) (hk : f.kind = 1) (h : FIn w f fa) : Calls Try.prog 16 #[.agg (fcells f fa).toArray] w (IntOf w (chkF f)) := by
  obtain ⟨dn, cn, sn, w1, xb, R, hc, hR, hw1, hxb, HX1, HB1, HS1, HIt, HKd, HDn, HCn, HR⟩ := rchk_pre w f fa (its := []) hk h rfl rfl
  rw [hc, hR]
  clear h hk hc hR
  go_enter Try.func16, Try.ntmps16
  go_upto_region 1 with fail
  rw [← hw1, ← hxb]
  clear hw1 hxb
  have g0 := HX1.out.cell 0 rfl
  go_wp2_with fail
  refine HIt.out.mono ?_
  rintro e w2 ⟨rfl, rfl⟩
  have g6 := HX1.out.cell 6 rfl
  by_cases hbig : 16384 < dn
  · have y1 := rcj1 hbig
    have HE : Hid (R = 52) := Lib.hid (by rw [HR.out, if_pos hbig])
    clear hbig
    go_wp2
    go_ret
    rw [HE.out]
    exact ⟨rfl, HB1.out⟩
  have y1 := rcj2 hbig
  have HR2 : Hid (R = if rightV f = false then 51 else 0) := Lib.hid (by rw [HR.out, if_neg hbig])
  have HLe : Hid (dn ≤ 16384) := Lib.hid (Nat.le_of_not_lt hbig)
  clear hbig
  have HC2 := Lib.hid (show Calls Try.prog 35 #[.string (str []), .int .u8 105] w2 (BoolOf w2 false) from has_any _ [] (by decide) 105)
  go_wp2_with fail
  refine HC2.out.mono ?_
  rintro e w2q ⟨rfl, hb2⟩
  have HX2 := Lib.hid (HasF HX1.out hb2)
  have HS2 := Lib.hid (HS1.out.below hb2)
  have HB2 := Lib.hid (HB1.out.trans (hb2.mono HB1.out.size))
  clear hb2
  have HC3 := Lib.hid (show Calls Try.prog 35 #[.string (str []), .int .u8 97] w2q (BoolOf w2q false) from has_any _ [] (by decide) 97)
  go_wp2_with fail
  refine HC3.out.mono ?_
  rintro e w3q ⟨rfl, hb3⟩
  have HX3 := Lib.hid (HasF HX2.out hb3)
  have HS3 := Lib.hid (HS2.out.below hb3)
  have HB3 := Lib.hid (HB2.out.trans (hb3.mono HB2.out.size))
  clear hb3
  have HC4 := Lib.hid (show Calls Try.prog 35 #[.string (str []), .int .u8 110] w3q (BoolOf w3q false) from has_any _ [] (by decide) 110)
  go_wp2_with fail
  refine HC4.out.mono ?_
  rintro e w4q ⟨rfl, hb4⟩
  have HX4 := Lib.hid (HasF HX3.out hb4)
  have HS4 := Lib.hid (HS3.out.below hb4)
  have HB4 := Lib.hid (HB3.out.trans (hb4.mono HB3.out.size))
  clear hb4
  have HC5 := Lib.hid (show Calls Try.prog 35 #[.string (str []), .int .u8 99] w4q (BoolOf w4q false) from has_any _ [] (by decide) 99)
  go_wp2_with fail
  refine HC5.out.mono ?_
  rintro e w5q ⟨rfl, hb5⟩
  have HX5 := Lib.hid (HasF HX4.out hb5)
  have HS5 := Lib.hid (HS4.out.below hb5)
  have HB5 := Lib.hid (HB4.out.trans (hb5.mono HB4.out.size))
  clear hb5
  have HC6 := Lib.hid (show Calls Try.prog 35 #[.string (str []), .int .u8 115] w5q (BoolOf w5q false) from has_any _ [] (by decide) 115)
  go_wp2_with fail
  refine HC6.out.mono ?_
  rintro e w6q ⟨rfl, hb6⟩
  have HX6 := Lib.hid (HasF HX5.out hb6)
  have HS6 := Lib.hid (HS5.out.below hb6)
  have HB6 := Lib.hid (HB5.out.trans (hb6.mono HB5.out.size))
  clear hb6
  have HC7 := Lib.hid (show Calls Try.prog 35 #[.string (str []), .int .u8 101] w6q (BoolOf w6q false) from has_any _ [] (by decide) 101)
  go_wp2_with fail
  refine HC7.out.mono ?_
  rintro e w7q ⟨rfl, hb7⟩
  have HX7 := Lib.hid (HasF HX6.out hb7)
  have HS7 := Lib.hid (HS6.out.below hb7)
  have HB7 := Lib.hid (HB6.out.trans (hb7.mono HB6.out.size))
  clear hb7
  have g0 := HX7.out.cell 0 rfl
  have HE : Hid (R = 0) := Lib.hid (by rw [HR2.out]; rw [if_neg (by unfold rightV; simp [HKd.out])])
  go_wp2
  go_ret
  rw [HE.out]
  exact ⟨rfl, HB7.out⟩
set_option maxRecDepth 100000 in
set_option maxHeartbeats 4000000 in
theorem rchk_2 (w : World) (f : Fm) (fa : FA) (hk : f.kind = 2) (h : FIn w f fa) : Calls Try.prog 16 #[.agg (fcells f fa).toArray] w (IntOf w (chkF f)) := by
  obtain ⟨dn, cn, sn, w1, xb, R, hc, hR, hw1, hxb, HX1, HB1, HS1, HIt, HKd, HDn, HCn, HR⟩ := rchk_pre w f fa (its := [115]) hk h rfl rfl
  rw [hc, hR]
  clear h hk hc hR
  go_enter Try.func16, Try.ntmps16
  go_upto_region 1 with fail
  rw [← hw1, ← hxb]
  clear hw1 hxb
  have g0 := HX1.out.cell 0 rfl
  go_wp2_with fail
  refine HIt.out.mono ?_
  rintro e w2 ⟨rfl, rfl⟩
  have g6 := HX1.out.cell 6 rfl
  by_cases hbig : 16384 < dn
  · have y1 := rcj1 hbig
    have HE : Hid (R = 52) := Lib.hid (by rw [HR.out, if_pos hbig])
    clear hbig
    go_wp2
    go_ret
    rw [HE.out]
    exact ⟨rfl, HB1.out⟩
  have y1 := rcj2 hbig
  have HR2 : Hid (R = if rightV f = false then 51 else 0) := Lib.hid (by rw [HR.out, if_neg hbig])
  have HLe : Hid (dn ≤ 16384) := Lib.hid (Nat.le_of_not_lt hbig)
  clear hbig
  have HC2 := Lib.hid (show Calls Try.prog 35 #[.string (str [115]), .int .u8 105] w2 (BoolOf w2 false) from has_any _ [115] (by decide) 105)
  go_wp2_with fail
  refine HC2.out.mono ?_
  rintro e w2q ⟨rfl, hb2⟩
  have HX2 := Lib.hid (HasF HX1.out hb2)
  have HS2 := Lib.hid (HS1.out.below hb2)
  have HB2 := Lib.hid (HB1.out.trans (hb2.mono HB1.out.size))
  clear hb2
  have HC3 := Lib.hid (show Calls Try.prog 35 #[.string (str [115]), .int .u8 97] w2q (BoolOf w2q false) from has_any _ [115] (by decide) 97)
  go_wp2_with fail
  refine HC3.out.mono ?_
  rintro e w3q ⟨rfl, hb3⟩
  have HX3 := Lib.hid (HasF HX2.out hb3)
  have HS3 := Lib.hid (HS2.out.below hb3)
  have HB3 := Lib.hid (HB2.out.trans (hb3.mono HB2.out.size))
  clear hb3
  have HC4 := Lib.hid (show Calls Try.prog 35 #[.string (str [115]), .int .u8 110] w3q (BoolOf w3q false) from has_any _ [115] (by decide) 110)
  go_wp2_with fail
  refine HC4.out.mono ?_
  rintro e w4q ⟨rfl, hb4⟩
  have HX4 := Lib.hid (HasF HX3.out hb4)
  have HS4 := Lib.hid (HS3.out.below hb4)
  have HB4 := Lib.hid (HB3.out.trans (hb4.mono HB3.out.size))
  clear hb4
  have HC5 := Lib.hid (show Calls Try.prog 35 #[.string (str [115]), .int .u8 99] w4q (BoolOf w4q false) from has_any _ [115] (by decide) 99)
  go_wp2_with fail
  refine HC5.out.mono ?_
  rintro e w5q ⟨rfl, hb5⟩
  have HX5 := Lib.hid (HasF HX4.out hb5)
  have HS5 := Lib.hid (HS4.out.below hb5)
  have HB5 := Lib.hid (HB4.out.trans (hb5.mono HB4.out.size))
  clear hb5
  have HC6 := Lib.hid (show Calls Try.prog 35 #[.string (str [115]), .int .u8 115] w5q (BoolOf w5q true) from has_any _ [115] (by decide) 115)
  go_wp2_with fail
  refine HC6.out.mono ?_
  rintro e w6q ⟨rfl, hb6⟩
  have HX6 := Lib.hid (HasF HX5.out hb6)
  have HS6 := Lib.hid (HS5.out.below hb6)
  have HB6 := Lib.hid (HB5.out.trans (hb6.mono HB5.out.size))
  clear hb6
  have g8 := HX6.out.cell 8 rfl
  obtain ⟨b6, hb6⟩ : ∃ b, b = rspV f.spans := ⟨_, rfl⟩
  have HV6 := Lib.hid hb6
  have HN6 := Lib.hid (rspans_any w6q HS6.out)
  rw [← hb6] at HN6
  clear hb6
  have HC7 := Lib.hid HN6.out
  go_wp2_with fail
  refine HC7.out.mono ?_
  rintro e w7q ⟨rfl, hb7⟩
  have HX7 := Lib.hid (HasF HX6.out hb7)
  have HS7 := Lib.hid (HS6.out.below hb7)
  have HB7 := Lib.hid (HB6.out.trans (hb7.mono HB6.out.size))
  clear hb7
  cases b6 with
  | false =>
    have HE : Hid (R = 51) := Lib.hid (by rw [HR2.out]; rw [if_pos (by unfold rightV; simp [HKd.out, HV6.out.symm])])
    go_wp2
    go_ret
    rw [HE.out]
    exact ⟨rfl, HB7.out⟩
  | true =>
    have g9 := HX7.out.cell 9 rfl
    obtain ⟨b7, hb7⟩ : ∃ b, b = numB f.delay := ⟨_, rfl⟩
    have HV7 := Lib.hid hb7
    have HN7 := Lib.hid (rnum_any w7q f.delay)
    rw [← hb7] at HN7
    clear hb7
    have HC8 := Lib.hid HN7.out
    go_wp2_with fail
    refine HC8.out.mono ?_
    rintro e w8q ⟨rfl, hb8⟩
    have HX8 := Lib.hid (HasF HX7.out hb8)
    have HS8 := Lib.hid (HS7.out.below hb8)
    have HB8 := Lib.hid (HB7.out.trans (hb8.mono HB7.out.size))
    clear hb8
    cases b7 with
    | false =>
      have HE : Hid (R = 51) := Lib.hid (by rw [HR2.out]; rw [if_pos (by unfold rightV; simp [HKd.out, HV6.out.symm, HV7.out.symm])])
      go_wp2
      go_ret
      rw [HE.out]
      exact ⟨rfl, HB8.out⟩
    | true =>
      have HC9 := Lib.hid (show Calls Try.prog 35 #[.string (str [115]), .int .u8 101] w8q (BoolOf w8q false) from has_any _ [115] (by decide) 101)
      go_wp2_with fail
      refine HC9.out.mono ?_
      rintro e w9q ⟨rfl, hb9⟩
      have HX9 := Lib.hid (HasF HX8.out hb9)
      have HS9 := Lib.hid (HS8.out.below hb9)
      have HB9 := Lib.hid (HB8.out.trans (hb9.mono HB8.out.size))
      clear hb9
      have g0 := HX9.out.cell 0 rfl
      have HE : Hid (R = 0) := Lib.hid (by rw [HR2.out]; rw [if_neg (by unfold rightV; simp [HKd.out, HV6.out.symm, HV7.out.symm])])
      go_wp2
      go_ret
      rw [HE.out]
      exact ⟨rfl, HB9.out⟩
set_option maxRecDepth 100000 in
set_option maxHeartbeats 4000000 in
theorem rchk_3 (w : World) (f : Fm) (fa : FA) (hk : f.kind = 3) (h : FIn w f fa) : Calls Try.prog 16 #[.agg (fcells f fa).toArray] w (IntOf w (chkF f)) := by
  obtain ⟨dn, cn, sn, w1, xb, R, hc, hR, hw1, hxb, HX1, HB1, HS1, HIt, HKd, HDn, HCn, HR⟩ := rchk_pre w f fa (its := [115, 101]) hk h rfl rfl
  rw [hc, hR]
  clear h hk hc hR
  go_enter Try.func16, Try.ntmps16
  go_upto_region 1 with fail
  rw [← hw1, ← hxb]
  clear hw1 hxb
  have g0 := HX1.out.cell 0 rfl
  go_wp2_with fail
  refine HIt.out.mono ?_
  rintro e w2 ⟨rfl, rfl⟩
  have g6 := HX1.out.cell 6 rfl
  by_cases hbig : 16384 < dn
  · have y1 := rcj1 hbig
    have HE : Hid (R = 52) := Lib.hid (by rw [HR.out, if_pos hbig])
    clear hbig
    go_wp2
    go_ret
    rw [HE.out]
    exact ⟨rfl, HB1.out⟩
  have y1 := rcj2 hbig
  have HR2 : Hid (R = if rightV f = false then 51 else 0) := Lib.hid (by rw [HR.out, if_neg hbig])
  have HLe : Hid (dn ≤ 16384) := Lib.hid (Nat.le_of_not_lt hbig)
  clear hbig
  have HC2 := Lib.hid (show Calls Try.prog 35 #[.string (str [115, 101]), .int .u8 105] w2 (BoolOf w2 false) from has_any _ [115, 101] (by decide) 105)
  go_wp2_with fail
  refine HC2.out.mono ?_
  rintro e w2q ⟨rfl, hb2⟩
  have HX2 := Lib.hid (HasF HX1.out hb2)
  have HS2 := Lib.hid (HS1.out.below hb2)
  have HB2 := Lib.hid (HB1.out.trans (hb2.mono HB1.out.size))
  clear hb2
  have HC3 := Lib.hid (show Calls Try.prog 35 #[.string (str [115, 101]), .int .u8 97] w2q (BoolOf w2q false) from has_any _ [115, 101] (by decide) 97)
  go_wp2_with fail
  refine HC3.out.mono ?_
  rintro e w3q ⟨rfl, hb3⟩
  have HX3 := Lib.hid (HasF HX2.out hb3)
  have HS3 := Lib.hid (HS2.out.below hb3)
  have HB3 := Lib.hid (HB2.out.trans (hb3.mono HB2.out.size))
  clear hb3
  have HC4 := Lib.hid (show Calls Try.prog 35 #[.string (str [115, 101]), .int .u8 110] w3q (BoolOf w3q false) from has_any _ [115, 101] (by decide) 110)
  go_wp2_with fail
  refine HC4.out.mono ?_
  rintro e w4q ⟨rfl, hb4⟩
  have HX4 := Lib.hid (HasF HX3.out hb4)
  have HS4 := Lib.hid (HS3.out.below hb4)
  have HB4 := Lib.hid (HB3.out.trans (hb4.mono HB3.out.size))
  clear hb4
  have HC5 := Lib.hid (show Calls Try.prog 35 #[.string (str [115, 101]), .int .u8 99] w4q (BoolOf w4q false) from has_any _ [115, 101] (by decide) 99)
  go_wp2_with fail
  refine HC5.out.mono ?_
  rintro e w5q ⟨rfl, hb5⟩
  have HX5 := Lib.hid (HasF HX4.out hb5)
  have HS5 := Lib.hid (HS4.out.below hb5)
  have HB5 := Lib.hid (HB4.out.trans (hb5.mono HB4.out.size))
  clear hb5
  have HC6 := Lib.hid (show Calls Try.prog 35 #[.string (str [115, 101]), .int .u8 115] w5q (BoolOf w5q true) from has_any _ [115, 101] (by decide) 115)
  go_wp2_with fail
  refine HC6.out.mono ?_
  rintro e w6q ⟨rfl, hb6⟩
  have HX6 := Lib.hid (HasF HX5.out hb6)
  have HS6 := Lib.hid (HS5.out.below hb6)
  have HB6 := Lib.hid (HB5.out.trans (hb6.mono HB5.out.size))
  clear hb6
  have g8 := HX6.out.cell 8 rfl
  obtain ⟨b6, hb6⟩ : ∃ b, b = rspV f.spans := ⟨_, rfl⟩
  have HV6 := Lib.hid hb6
  have HN6 := Lib.hid (rspans_any w6q HS6.out)
  rw [← hb6] at HN6
  clear hb6
  have HC7 := Lib.hid HN6.out
  go_wp2_with fail
  refine HC7.out.mono ?_
  rintro e w7q ⟨rfl, hb7⟩
  have HX7 := Lib.hid (HasF HX6.out hb7)
  have HS7 := Lib.hid (HS6.out.below hb7)
  have HB7 := Lib.hid (HB6.out.trans (hb7.mono HB6.out.size))
  clear hb7
  cases b6 with
  | false =>
    have HE : Hid (R = 51) := Lib.hid (by rw [HR2.out]; rw [if_pos (by unfold rightV; simp [HKd.out, HV6.out.symm])])
    go_wp2
    go_ret
    rw [HE.out]
    exact ⟨rfl, HB7.out⟩
  | true =>
    have g9 := HX7.out.cell 9 rfl
    obtain ⟨b7, hb7⟩ : ∃ b, b = numB f.delay := ⟨_, rfl⟩
    have HV7 := Lib.hid hb7
    have HN7 := Lib.hid (rnum_any w7q f.delay)
    rw [← hb7] at HN7
    clear hb7
    have HC8 := Lib.hid HN7.out
    go_wp2_with fail
    refine HC8.out.mono ?_
    rintro e w8q ⟨rfl, hb8⟩
    have HX8 := Lib.hid (HasF HX7.out hb8)
    have HS8 := Lib.hid (HS7.out.below hb8)
    have HB8 := Lib.hid (HB7.out.trans (hb8.mono HB7.out.size))
    clear hb8
    cases b7 with
    | false =>
      have HE : Hid (R = 51) := Lib.hid (by rw [HR2.out]; rw [if_pos (by unfold rightV; simp [HKd.out, HV6.out.symm, HV7.out.symm])])
      go_wp2
      go_ret
      rw [HE.out]
      exact ⟨rfl, HB8.out⟩
    | true =>
      have HC9 := Lib.hid (show Calls Try.prog 35 #[.string (str [115, 101]), .int .u8 101] w8q (BoolOf w8q true) from has_any _ [115, 101] (by decide) 101)
      go_wp2_with fail
      refine HC9.out.mono ?_
      rintro e w9q ⟨rfl, hb9⟩
      have HX9 := Lib.hid (HasF HX8.out hb9)
      have HS9 := Lib.hid (HS8.out.below hb9)
      have HB9 := Lib.hid (HB8.out.trans (hb9.mono HB8.out.size))
      clear hb9
      have g10 := HX9.out.cell 10 rfl
      obtain ⟨b9, hb9⟩ : ∃ b, b = numB f.e0 := ⟨_, rfl⟩
      have HV9 := Lib.hid hb9
      have HN9 := Lib.hid (rnum_any w9q f.e0)
      rw [← hb9] at HN9
      clear hb9
      have HC10 := Lib.hid HN9.out
      go_wp2_with fail
      refine HC10.out.mono ?_
      rintro e w10q ⟨rfl, hb10⟩
      have HX10 := Lib.hid (HasF HX9.out hb10)
      have HS10 := Lib.hid (HS9.out.below hb10)
      have HB10 := Lib.hid (HB9.out.trans (hb10.mono HB9.out.size))
      clear hb10
      cases b9 with
      | false =>
        have HE : Hid (R = 51) := Lib.hid (by rw [HR2.out]; rw [if_pos (by unfold rightV; simp [HKd.out, HV6.out.symm, HV7.out.symm, HV9.out.symm])])
        go_wp2
        go_ret
        rw [HE.out]
        exact ⟨rfl, HB10.out⟩
      | true =>
        have g11 := HX10.out.cell 11 rfl
        obtain ⟨b10, hb10⟩ : ∃ b, b = numB f.e1 := ⟨_, rfl⟩
        have HV10 := Lib.hid hb10
        have HN10 := Lib.hid (rnum_any w10q f.e1)
        rw [← hb10] at HN10
        clear hb10
        have HC11 := Lib.hid HN10.out
        go_wp2_with fail
        refine HC11.out.mono ?_
        rintro e w11q ⟨rfl, hb11⟩
        have HX11 := Lib.hid (HasF HX10.out hb11)
        have HS11 := Lib.hid (HS10.out.below hb11)
        have HB11 := Lib.hid (HB10.out.trans (hb11.mono HB10.out.size))
        clear hb11
        cases b10 with
        | false =>
          have HE : Hid (R = 51) := Lib.hid (by rw [HR2.out]; rw [if_pos (by unfold rightV; simp [HKd.out, HV6.out.symm, HV7.out.symm, HV9.out.symm, HV10.out.symm])])
          go_wp2
          go_ret
          rw [HE.out]
          exact ⟨rfl, HB11.out⟩
        | true =>
          have g12 := HX11.out.cell 12 rfl
          obtain ⟨b11, hb11⟩ : ∃ b, b = numB f.e2 := ⟨_, rfl⟩
          have HV11 := Lib.hid hb11
          have HN11 := Lib.hid (rnum_any w11q f.e2)
          rw [← hb11] at HN11
          clear hb11
          have HC12 := Lib.hid HN11.out
          go_wp2_with fail
          refine HC12.out.mono ?_
          rintro e w12q ⟨rfl, hb12⟩
          have HX12 := Lib.hid (HasF HX11.out hb12)
          have HS12 := Lib.hid (HS11.out.below hb12)
          have HB12 := Lib.hid (HB11.out.trans (hb12.mono HB11.out.size))
          clear hb12
          cases b11 with
          | false =>
            have HE : Hid (R = 51) := Lib.hid (by rw [HR2.out]; rw [if_pos (by unfold rightV; simp [HKd.out, HV6.out.symm, HV7.out.symm, HV9.out.symm, HV10.out.symm, HV11.out.symm])])
            go_wp2
            go_ret
            rw [HE.out]
            exact ⟨rfl, HB12.out⟩
          | true =>
            have g0 := HX12.out.cell 0 rfl
            have HE : Hid (R = 0) := Lib.hid (by rw [HR2.out]; rw [if_neg (by unfold rightV; simp [HKd.out, HV6.out.symm, HV7.out.symm, HV9.out.symm, HV10.out.symm, HV11.out.symm])])
            go_wp2
            go_ret
            rw [HE.out]
            exact ⟨rfl, HB12.out⟩
set_option maxRecDepth 100000 in
set_option maxHeartbeats 4000000 in
theorem rchk_4 (w : World) (f : Fm) (fa : FA) (hk : f.kind = 4) (h : FIn w f fa) : Calls Try.prog 16 #[.agg (fcells f fa).toArray] w (IntOf w (chkF f)) := by
  obtain ⟨dn, cn, sn, w1, xb, R, hc, hR, hw1, hxb, HX1, HB1, HS1, HIt, HKd, HDn, HCn, HR⟩ := rchk_pre w f fa (its := [105, 99, 110]) hk h rfl rfl
  rw [hc, hR]
  clear h hk hc hR
  go_enter Try.func16, Try.ntmps16
  go_upto_region 1 with fail
  rw [← hw1, ← hxb]
  clear hw1 hxb
  have g0 := HX1.out.cell 0 rfl
  go_wp2_with fail
  refine HIt.out.mono ?_
  rintro e w2 ⟨rfl, rfl⟩
  have g6 := HX1.out.cell 6 rfl
  by_cases hbig : 16384 < dn
  · have y1 := rcj1 hbig
    have HE : Hid (R = 52) := Lib.hid (by rw [HR.out, if_pos hbig])
    clear hbig
    go_wp2
    go_ret
    rw [HE.out]
    exact ⟨rfl, HB1.out⟩
  have y1 := rcj2 hbig
  have HR2 : Hid (R = if rightV f = false then 51 else 0) := Lib.hid (by rw [HR.out, if_neg hbig])
  have HLe : Hid (dn ≤ 16384) := Lib.hid (Nat.le_of_not_lt hbig)
  clear hbig
  have HC2 := Lib.hid (show Calls Try.prog 35 #[.string (str [105, 99, 110]), .int .u8 105] w2 (BoolOf w2 true) from has_any _ [105, 99, 110] (by decide) 105)
  go_wp2_with fail
  refine HC2.out.mono ?_
  rintro e w2q ⟨rfl, hb2⟩
  have HX2 := Lib.hid (HasF HX1.out hb2)
  have HS2 := Lib.hid (HS1.out.below hb2)
  have HB2 := Lib.hid (HB1.out.trans (hb2.mono HB1.out.size))
  clear hb2
  have g1 := HX2.out.cell 1 rfl
  obtain ⟨b2, hb2⟩ : ∃ b, b = numB f.id := ⟨_, rfl⟩
  have HV2 := Lib.hid hb2
  have HN2 := Lib.hid (rnum_any w2q f.id)
  rw [← hb2] at HN2
  clear hb2
  have HC3 := Lib.hid HN2.out
  go_wp2_with fail
  refine HC3.out.mono ?_
  rintro e w3q ⟨rfl, hb3⟩
  have HX3 := Lib.hid (HasF HX2.out hb3)
  have HS3 := Lib.hid (HS2.out.below hb3)
  have HB3 := Lib.hid (HB2.out.trans (hb3.mono HB2.out.size))
  clear hb3
  cases b2 with
  | false =>
    have HE : Hid (R = 51) := Lib.hid (by rw [HR2.out]; rw [if_pos (by unfold rightV; simp [HKd.out, HV2.out.symm])])
    go_wp2
    go_ret
    rw [HE.out]
    exact ⟨rfl, HB3.out⟩
  | true =>
    have HC4 := Lib.hid (show Calls Try.prog 35 #[.string (str [105, 99, 110]), .int .u8 97] w3q (BoolOf w3q false) from has_any _ [105, 99, 110] (by decide) 97)
    go_wp2_with fail
    refine HC4.out.mono ?_
    rintro e w4q ⟨rfl, hb4⟩
    have HX4 := Lib.hid (HasF HX3.out hb4)
    have HS4 := Lib.hid (HS3.out.below hb4)
    have HB4 := Lib.hid (HB3.out.trans (hb4.mono HB3.out.size))
    clear hb4
    have HC5 := Lib.hid (show Calls Try.prog 35 #[.string (str [105, 99, 110]), .int .u8 110] w4q (BoolOf w4q true) from has_any _ [105, 99, 110] (by decide) 110)
    go_wp2_with fail
    refine HC5.out.mono ?_
    rintro e w5q ⟨rfl, hb5⟩
    have HX5 := Lib.hid (HasF HX4.out hb5)
    have HS5 := Lib.hid (HS4.out.below hb5)
    have HB5 := Lib.hid (HB4.out.trans (hb5.mono HB4.out.size))
    clear hb5
    have g3 := HX5.out.cell 3 rfl
    obtain ⟨b5, hb5⟩ : ∃ b, b = numB f.n := ⟨_, rfl⟩
    have HV5 := Lib.hid hb5
    have HN5 := Lib.hid (rnum_any w5q f.n)
    rw [← hb5] at HN5
    clear hb5
    have HC6 := Lib.hid HN5.out
    go_wp2_with fail
    refine HC6.out.mono ?_
    rintro e w6q ⟨rfl, hb6⟩
    have HX6 := Lib.hid (HasF HX5.out hb6)
    have HS6 := Lib.hid (HS5.out.below hb6)
    have HB6 := Lib.hid (HB5.out.trans (hb6.mono HB5.out.size))
    clear hb6
    cases b5 with
    | false =>
      have HE : Hid (R = 51) := Lib.hid (by rw [HR2.out]; rw [if_pos (by unfold rightV; simp [HKd.out, HV2.out.symm, HV5.out.symm])])
      go_wp2
      go_ret
      rw [HE.out]
      exact ⟨rfl, HB6.out⟩
    | true =>
      have HC7 := Lib.hid (show Calls Try.prog 35 #[.string (str [105, 99, 110]), .int .u8 99] w6q (BoolOf w6q true) from has_any _ [105, 99, 110] (by decide) 99)
      go_wp2_with fail
      refine HC7.out.mono ?_
      rintro e w7q ⟨rfl, hb7⟩
      have HX7 := Lib.hid (HasF HX6.out hb7)
      have HS7 := Lib.hid (HS6.out.below hb7)
      have HB7 := Lib.hid (HB6.out.trans (hb7.mono HB6.out.size))
      clear hb7
      have g4 := HX7.out.cell 4 rfl
      obtain ⟨b7, hb7⟩ : ∃ b, b = numB f.code := ⟨_, rfl⟩
      have HV7 := Lib.hid hb7
      have HN7 := Lib.hid (rnum_any w7q f.code)
      rw [← hb7] at HN7
      clear hb7
      have HC8 := Lib.hid HN7.out
      go_wp2_with fail
      refine HC8.out.mono ?_
      rintro e w8q ⟨rfl, hb8⟩
      have HX8 := Lib.hid (HasF HX7.out hb8)
      have HS8 := Lib.hid (HS7.out.below hb8)
      have HB8 := Lib.hid (HB7.out.trans (hb8.mono HB7.out.size))
      clear hb8
      cases b7 with
      | false =>
        have HE : Hid (R = 51) := Lib.hid (by rw [HR2.out]; rw [if_pos (by unfold rightV; simp [HKd.out, HV2.out.symm, HV5.out.symm, HV7.out.symm])])
        go_wp2
        go_ret
        rw [HE.out]
        exact ⟨rfl, HB8.out⟩
      | true =>
        have HC9 := Lib.hid (show Calls Try.prog 35 #[.string (str [105, 99, 110]), .int .u8 115] w8q (BoolOf w8q false) from has_any _ [105, 99, 110] (by decide) 115)
        go_wp2_with fail
        refine HC9.out.mono ?_
        rintro e w9q ⟨rfl, hb9⟩
        have HX9 := Lib.hid (HasF HX8.out hb9)
        have HS9 := Lib.hid (HS8.out.below hb9)
        have HB9 := Lib.hid (HB8.out.trans (hb9.mono HB8.out.size))
        clear hb9
        have HC10 := Lib.hid (show Calls Try.prog 35 #[.string (str [105, 99, 110]), .int .u8 101] w9q (BoolOf w9q false) from has_any _ [105, 99, 110] (by decide) 101)
        go_wp2_with fail
        refine HC10.out.mono ?_
        rintro e w10q ⟨rfl, hb10⟩
        have HX10 := Lib.hid (HasF HX9.out hb10)
        have HS10 := Lib.hid (HS9.out.below hb10)
        have HB10 := Lib.hid (HB9.out.trans (hb10.mono HB9.out.size))
        clear hb10
        have g0 := HX10.out.cell 0 rfl
        have HE : Hid (R = 0) := Lib.hid (by rw [HR2.out]; rw [if_neg (by unfold rightV; simp [HKd.out, HV2.out.symm, HV5.out.symm, HV7.out.symm])])
        go_wp2
        go_ret
        rw [HE.out]
        exact ⟨rfl, HB10.out⟩
set_option maxRecDepth 100000 in
set_option maxHeartbeats 4000000 in
theorem rchk_5 (w : World) (f : Fm) (fa : FA) (hk : f.kind = 5) (h : FIn w f fa) : Calls Try.prog 16 #[.agg (fcells f fa).toArray] w (IntOf w (chkF f)) := by
  obtain ⟨dn, cn, sn, w1, xb, R, hc, hR, hw1, hxb, HX1, HB1, HS1, HIt, HKd, HDn, HCn, HR⟩ := rchk_pre w f fa (its := [105, 99]) hk h rfl rfl
  rw [hc, hR]
  clear h hk hc hR
  go_enter Try.func16, Try.ntmps16
  go_upto_region 1 with fail
  rw [← hw1, ← hxb]
  clear hw1 hxb
  have g0 := HX1.out.cell 0 rfl
  go_wp2_with fail
  refine HIt.out.mono ?_
  rintro e w2 ⟨rfl, rfl⟩
  have g6 := HX1.out.cell 6 rfl
  by_cases hbig : 16384 < dn
  · have y1 := rcj1 hbig
    have HE : Hid (R = 52) := Lib.hid (by rw [HR.out, if_pos hbig])
    clear hbig
    go_wp2
    go_ret
    rw [HE.out]
    exact ⟨rfl, HB1.out⟩
  have y1 := rcj2 hbig
  have HR2 : Hid (R = if rightV f = false then 51 else 0) := Lib.hid (by rw [HR.out, if_neg hbig])
  have HLe : Hid (dn ≤ 16384) := Lib.hid (Nat.le_of_not_lt hbig)
  clear hbig
  have HC2 := Lib.hid (show Calls Try.prog 35 #[.string (str [105, 99]), .int .u8 105] w2 (BoolOf w2 true) from has_any _ [105, 99] (by decide) 105)
  go_wp2_with fail
  refine HC2.out.mono ?_
  rintro e w2q ⟨rfl, hb2⟩
  have HX2 := Lib.hid (HasF HX1.out hb2)
  have HS2 := Lib.hid (HS1.out.below hb2)
  have HB2 := Lib.hid (HB1.out.trans (hb2.mono HB1.out.size))
  clear hb2
  have g1 := HX2.out.cell 1 rfl
  obtain ⟨b2, hb2⟩ : ∃ b, b = numB f.id := ⟨_, rfl⟩
  have HV2 := Lib.hid hb2
  have HN2 := Lib.hid (rnum_any w2q f.id)
  rw [← hb2] at HN2
  clear hb2
  have HC3 := Lib.hid HN2.out
  go_wp2_with fail
  refine HC3.out.mono ?_
  rintro e w3q ⟨rfl, hb3⟩
  have HX3 := Lib.hid (HasF HX2.out hb3)
  have HS3 := Lib.hid (HS2.out.below hb3)
  have HB3 := Lib.hid (HB2.out.trans (hb3.mono HB2.out.size))
  clear hb3
  cases b2 with
  | false =>
    have HE : Hid (R = 51) := Lib.hid (by rw [HR2.out]; rw [if_pos (by unfold rightV; simp [HKd.out, HV2.out.symm])])
    go_wp2
    go_ret
    rw [HE.out]
    exact ⟨rfl, HB3.out⟩
  | true =>
    have HC4 := Lib.hid (show Calls Try.prog 35 #[.string (str [105, 99]), .int .u8 97] w3q (BoolOf w3q false) from has_any _ [105, 99] (by decide) 97)
    go_wp2_with fail
    refine HC4.out.mono ?_
    rintro e w4q ⟨rfl, hb4⟩
    have HX4 := Lib.hid (HasF HX3.out hb4)
    have HS4 := Lib.hid (HS3.out.below hb4)
    have HB4 := Lib.hid (HB3.out.trans (hb4.mono HB3.out.size))
    clear hb4
    have HC5 := Lib.hid (show Calls Try.prog 35 #[.string (str [105, 99]), .int .u8 110] w4q (BoolOf w4q false) from has_any _ [105, 99] (by decide) 110)
    go_wp2_with fail
    refine HC5.out.mono ?_
    rintro e w5q ⟨rfl, hb5⟩
    have HX5 := Lib.hid (HasF HX4.out hb5)
    have HS5 := Lib.hid (HS4.out.below hb5)
    have HB5 := Lib.hid (HB4.out.trans (hb5.mono HB4.out.size))
    clear hb5
    have HC6 := Lib.hid (show Calls Try.prog 35 #[.string (str [105, 99]), .int .u8 99] w5q (BoolOf w5q true) from has_any _ [105, 99] (by decide) 99)
    go_wp2_with fail
    refine HC6.out.mono ?_
    rintro e w6q ⟨rfl, hb6⟩
    have HX6 := Lib.hid (HasF HX5.out hb6)
    have HS6 := Lib.hid (HS5.out.below hb6)
    have HB6 := Lib.hid (HB5.out.trans (hb6.mono HB5.out.size))
    clear hb6
    have g4 := HX6.out.cell 4 rfl
    obtain ⟨b6, hb6⟩ : ∃ b, b = numB f.code := ⟨_, rfl⟩
    have HV6 := Lib.hid hb6
    have HN6 := Lib.hid (rnum_any w6q f.code)
    rw [← hb6] at HN6
    clear hb6
    have HC7 := Lib.hid HN6.out
    go_wp2_with fail
    refine HC7.out.mono ?_
    rintro e w7q ⟨rfl, hb7⟩
    have HX7 := Lib.hid (HasF HX6.out hb7)
    have HS7 := Lib.hid (HS6.out.below hb7)
    have HB7 := Lib.hid (HB6.out.trans (hb7.mono HB6.out.size))
    clear hb7
    cases b6 with
    | false =>
      have HE : Hid (R = 51) := Lib.hid (by rw [HR2.out]; rw [if_pos (by unfold rightV; simp [HKd.out, HV2.out.symm, HV6.out.symm])])
      go_wp2
      go_ret
      rw [HE.out]
      exact ⟨rfl, HB7.out⟩
    | true =>
      have HC8 := Lib.hid (show Calls Try.prog 35 #[.string (str [105, 99]), .int .u8 115] w7q (BoolOf w7q false) from has_any _ [105, 99] (by decide) 115)
      go_wp2_with fail
      refine HC8.out.mono ?_
      rintro e w8q ⟨rfl, hb8⟩
      have HX8 := Lib.hid (HasF HX7.out hb8)
      have HS8 := Lib.hid (HS7.out.below hb8)
      have HB8 := Lib.hid (HB7.out.trans (hb8.mono HB7.out.size))
      clear hb8
      have HC9 := Lib.hid (show Calls Try.prog 35 #[.string (str [105, 99]), .int .u8 101] w8q (BoolOf w8q false) from has_any _ [105, 99] (by decide) 101)
      go_wp2_with fail
      refine HC9.out.mono ?_
      rintro e w9q ⟨rfl, hb9⟩
      have HX9 := Lib.hid (HasF HX8.out hb9)
      have HS9 := Lib.hid (HS8.out.below hb9)
      have HB9 := Lib.hid (HB8.out.trans (hb9.mono HB8.out.size))
      clear hb9
      have g0 := HX9.out.cell 0 rfl
      have HE : Hid (R = 0) := Lib.hid (by rw [HR2.out]; rw [if_neg (by unfold rightV; simp [HKd.out, HV2.out.symm, HV6.out.symm])])
      go_wp2
      go_ret
      rw [HE.out]
      exact ⟨rfl, HB9.out⟩
set_option maxRecDepth 100000 in
set_option maxHeartbeats 4000000 in
theorem rchk_6 (w : World) (f : Fm) (fa : FA) (hk : f.kind = 6) (h : FIn w f fa) : Calls Try.prog 16 #[.agg (fcells f fa).toArray] w (IntOf w (chkF f)) := by
  obtain ⟨dn, cn, sn, w1, xb, R, hc, hR, hw1, hxb, HX1, HB1, HS1, HIt, HKd, HDn, HCn, HR⟩ := rchk_pre w f fa (its := [97, 100]) hk h rfl rfl
  rw [hc, hR]
  clear h hk hc hR
  go_enter Try.func16, Try.ntmps16
  go_upto_region 1 with fail
  rw [← hw1, ← hxb]
  clear hw1 hxb
  have g0 := HX1.out.cell 0 rfl
  go_wp2_with fail
  refine HIt.out.mono ?_
  rintro e w2 ⟨rfl, rfl⟩
  have g6 := HX1.out.cell 6 rfl
  by_cases hbig : 16384 < dn
  · have y1 := rcj1 hbig
    have HE : Hid (R = 52) := Lib.hid (by rw [HR.out, if_pos hbig])
    clear hbig
    go_wp2
    go_ret
    rw [HE.out]
    exact ⟨rfl, HB1.out⟩
  have y1 := rcj2 hbig
  have HR2 : Hid (R = if rightV f = false then 51 else 0) := Lib.hid (by rw [HR.out, if_neg hbig])
  have HLe : Hid (dn ≤ 16384) := Lib.hid (Nat.le_of_not_lt hbig)
  clear hbig
  have HC2 := Lib.hid (show Calls Try.prog 35 #[.string (str [97, 100]), .int .u8 105] w2 (BoolOf w2 false) from has_any _ [97, 100] (by decide) 105)
  go_wp2_with fail
  refine HC2.out.mono ?_
  rintro e w2q ⟨rfl, hb2⟩
  have HX2 := Lib.hid (HasF HX1.out hb2)
  have HS2 := Lib.hid (HS1.out.below hb2)
  have HB2 := Lib.hid (HB1.out.trans (hb2.mono HB1.out.size))
  clear hb2
  have HC3 := Lib.hid (show Calls Try.prog 35 #[.string (str [97, 100]), .int .u8 97] w2q (BoolOf w2q true) from has_any _ [97, 100] (by decide) 97)
  go_wp2_with fail
  refine HC3.out.mono ?_
  rintro e w3q ⟨rfl, hb3⟩
  have HX3 := Lib.hid (HasF HX2.out hb3)
  have HS3 := Lib.hid (HS2.out.below hb3)
  have HB3 := Lib.hid (HB2.out.trans (hb3.mono HB2.out.size))
  clear hb3
  have g2 := HX3.out.cell 2 rfl
  obtain ⟨b3, hb3⟩ : ∃ b, b = numB f.at_ := ⟨_, rfl⟩
  have HV3 := Lib.hid hb3
  have HN3 := Lib.hid (rnum_any w3q f.at_)
  rw [← hb3] at HN3
  clear hb3
  have HC4 := Lib.hid HN3.out
  go_wp2_with fail
  refine HC4.out.mono ?_
  rintro e w4q ⟨rfl, hb4⟩
  have HX4 := Lib.hid (HasF HX3.out hb4)
  have HS4 := Lib.hid (HS3.out.below hb4)
  have HB4 := Lib.hid (HB3.out.trans (hb4.mono HB3.out.size))
  clear hb4
  cases b3 with
  | false =>
    have HE : Hid (R = 51) := Lib.hid (by rw [HR2.out]; rw [if_pos (by unfold rightV; simp [HKd.out, HV3.out.symm])])
    go_wp2
    go_ret
    rw [HE.out]
    exact ⟨rfl, HB4.out⟩
  | true =>
    have HC5 := Lib.hid (show Calls Try.prog 35 #[.string (str [97, 100]), .int .u8 110] w4q (BoolOf w4q false) from has_any _ [97, 100] (by decide) 110)
    go_wp2_with fail
    refine HC5.out.mono ?_
    rintro e w5q ⟨rfl, hb5⟩
    have HX5 := Lib.hid (HasF HX4.out hb5)
    have HS5 := Lib.hid (HS4.out.below hb5)
    have HB5 := Lib.hid (HB4.out.trans (hb5.mono HB4.out.size))
    clear hb5
    have HC6 := Lib.hid (show Calls Try.prog 35 #[.string (str [97, 100]), .int .u8 99] w5q (BoolOf w5q false) from has_any _ [97, 100] (by decide) 99)
    go_wp2_with fail
    refine HC6.out.mono ?_
    rintro e w6q ⟨rfl, hb6⟩
    have HX6 := Lib.hid (HasF HX5.out hb6)
    have HS6 := Lib.hid (HS5.out.below hb6)
    have HB6 := Lib.hid (HB5.out.trans (hb6.mono HB5.out.size))
    clear hb6
    have HC7 := Lib.hid (show Calls Try.prog 35 #[.string (str [97, 100]), .int .u8 115] w6q (BoolOf w6q false) from has_any _ [97, 100] (by decide) 115)
    go_wp2_with fail
    refine HC7.out.mono ?_
    rintro e w7q ⟨rfl, hb7⟩
    have HX7 := Lib.hid (HasF HX6.out hb7)
    have HS7 := Lib.hid (HS6.out.below hb7)
    have HB7 := Lib.hid (HB6.out.trans (hb7.mono HB6.out.size))
    clear hb7
    have HC8 := Lib.hid (show Calls Try.prog 35 #[.string (str [97, 100]), .int .u8 101] w7q (BoolOf w7q false) from has_any _ [97, 100] (by decide) 101)
    go_wp2_with fail
    refine HC8.out.mono ?_
    rintro e w8q ⟨rfl, hb8⟩
    have HX8 := Lib.hid (HasF HX7.out hb8)
    have HS8 := Lib.hid (HS7.out.below hb8)
    have HB8 := Lib.hid (HB7.out.trans (hb8.mono HB7.out.size))
    clear hb8
    have g0 := HX8.out.cell 0 rfl
    have g2 := HX8.out.cell 2 rfl
    have g6 := HX8.out.cell 6 rfl
    obtain ⟨mx, hmx, m1, m2⟩ := rcj3 HLe.out
    have HMx : Hid (mx = 4611686018427387903 - (f.data.length : Int)) := Lib.hid (by rw [hmx, HDn.out])
    clear hmx
    by_cases c1 : mx < f.at_
    · have z1 : (mx < f.at_) = True := eq_true c1
      have HQ : Hid (¬ f.at_ ≤ 4611686018427387903 - (f.data.length : Int)) := Lib.hid (by rw [← HMx.out]; omega)
      clear c1
      have HE : Hid (R = 51) := Lib.hid (by rw [HR2.out]; rw [if_pos (by unfold rightV; simp [HKd.out, HV3.out.symm, HQ.out])])
      go_wp2
      go_ret
      rw [HE.out]
      exact ⟨rfl, HB8.out⟩
    have z1 : (mx < f.at_) = False := eq_false c1
    have HQ : Hid (f.at_ ≤ 4611686018427387903 - (f.data.length : Int)) := Lib.hid (by rw [← HMx.out]; omega)
    clear c1
    have HE : Hid (R = 0) := Lib.hid (by rw [HR2.out]; rw [if_neg (by unfold rightV; simp [HKd.out, HV3.out.symm, HQ.out])])
    go_wp2
    go_ret
    rw [HE.out]
    exact ⟨rfl, HB8.out⟩
set_option maxRecDepth 100000 in
set_option maxHeartbeats 4000000 in
theorem rchk_7 (w : World) (f : Fm) (fa : FA) (hk : f.kind = 7) (h : FIn w f fa) : Calls Try.prog 16 #[.agg (fcells f fa).toArray] w (IntOf w (chkF f)) := by
  obtain ⟨dn, cn, sn, w1, xb, R, hc, hR, hw1, hxb, HX1, HB1, HS1, HIt, HKd, HDn, HCn, HR⟩ := rchk_pre w f fa (its := [100]) hk h rfl rfl
  rw [hc, hR]
  clear h hk hc hR
  go_enter Try.func16, Try.ntmps16
  go_upto_region 1 with fail
  rw [← hw1, ← hxb]
  clear hw1 hxb
  have g0 := HX1.out.cell 0 rfl
  go_wp2_with fail
  refine HIt.out.mono ?_
  rintro e w2 ⟨rfl, rfl⟩
  have g6 := HX1.out.cell 6 rfl
  by_cases hbig : 16384 < dn
  · have y1 := rcj1 hbig
    have HE : Hid (R = 52) := Lib.hid (by rw [HR.out, if_pos hbig])
    clear hbig
    go_wp2
    go_ret
    rw [HE.out]
    exact ⟨rfl, HB1.out⟩
  have y1 := rcj2 hbig
  have HR2 : Hid (R = if rightV f = false then 51 else 0) := Lib.hid (by rw [HR.out, if_neg hbig])
  have HLe : Hid (dn ≤ 16384) := Lib.hid (Nat.le_of_not_lt hbig)
  clear hbig
  have HC2 := Lib.hid (show Calls Try.prog 35 #[.string (str [100]), .int .u8 105] w2 (BoolOf w2 false) from has_any _ [100] (by decide) 105)
  go_wp2_with fail
  refine HC2.out.mono ?_
  rintro e w2q ⟨rfl, hb2⟩
  have HX2 := Lib.hid (HasF HX1.out hb2)
  have HS2 := Lib.hid (HS1.out.below hb2)
  have HB2 := Lib.hid (HB1.out.trans (hb2.mono HB1.out.size))
  clear hb2
  have HC3 := Lib.hid (show Calls Try.prog 35 #[.string (str [100]), .int .u8 97] w2q (BoolOf w2q false) from has_any _ [100] (by decide) 97)
  go_wp2_with fail
  refine HC3.out.mono ?_
  rintro e w3q ⟨rfl, hb3⟩
  have HX3 := Lib.hid (HasF HX2.out hb3)
  have HS3 := Lib.hid (HS2.out.below hb3)
  have HB3 := Lib.hid (HB2.out.trans (hb3.mono HB2.out.size))
  clear hb3
  have HC4 := Lib.hid (show Calls Try.prog 35 #[.string (str [100]), .int .u8 110] w3q (BoolOf w3q false) from has_any _ [100] (by decide) 110)
  go_wp2_with fail
  refine HC4.out.mono ?_
  rintro e w4q ⟨rfl, hb4⟩
  have HX4 := Lib.hid (HasF HX3.out hb4)
  have HS4 := Lib.hid (HS3.out.below hb4)
  have HB4 := Lib.hid (HB3.out.trans (hb4.mono HB3.out.size))
  clear hb4
  have HC5 := Lib.hid (show Calls Try.prog 35 #[.string (str [100]), .int .u8 99] w4q (BoolOf w4q false) from has_any _ [100] (by decide) 99)
  go_wp2_with fail
  refine HC5.out.mono ?_
  rintro e w5q ⟨rfl, hb5⟩
  have HX5 := Lib.hid (HasF HX4.out hb5)
  have HS5 := Lib.hid (HS4.out.below hb5)
  have HB5 := Lib.hid (HB4.out.trans (hb5.mono HB4.out.size))
  clear hb5
  have HC6 := Lib.hid (show Calls Try.prog 35 #[.string (str [100]), .int .u8 115] w5q (BoolOf w5q false) from has_any _ [100] (by decide) 115)
  go_wp2_with fail
  refine HC6.out.mono ?_
  rintro e w6q ⟨rfl, hb6⟩
  have HX6 := Lib.hid (HasF HX5.out hb6)
  have HS6 := Lib.hid (HS5.out.below hb6)
  have HB6 := Lib.hid (HB5.out.trans (hb6.mono HB5.out.size))
  clear hb6
  have HC7 := Lib.hid (show Calls Try.prog 35 #[.string (str [100]), .int .u8 101] w6q (BoolOf w6q false) from has_any _ [100] (by decide) 101)
  go_wp2_with fail
  refine HC7.out.mono ?_
  rintro e w7q ⟨rfl, hb7⟩
  have HX7 := Lib.hid (HasF HX6.out hb7)
  have HS7 := Lib.hid (HS6.out.below hb7)
  have HB7 := Lib.hid (HB6.out.trans (hb7.mono HB6.out.size))
  clear hb7
  have g0 := HX7.out.cell 0 rfl
  have g6 := HX7.out.cell 6 rfl
  by_cases c1 : dn = 0
  · have z1 : ((dn : Int) == 0) = true := by simp [c1]
    have HQ : Hid (¬ 0 < f.data.length) := Lib.hid (by rw [← HDn.out]; omega)
    have HE : Hid (R = 51) := Lib.hid (by rw [HR2.out]; rw [if_pos (by unfold rightV; simp [HKd.out, HQ.out])])
    go_wp2
    go_ret
    rw [HE.out]
    exact ⟨rfl, HB7.out⟩
  have z1 : ((dn : Int) == 0) = false := by simpa using c1
  have HQ : Hid (0 < f.data.length) := Lib.hid (by rw [← HDn.out]; omega)
  have HE : Hid (R = 0) := Lib.hid (by rw [HR2.out]; rw [if_neg (by unfold rightV; simp [HKd.out, HQ.out])])
  go_wp2
  go_ret
  rw [HE.out]
  exact ⟨rfl, HB7.out⟩
set_option maxRecDepth 100000 in
set_option maxHeartbeats 4000000 in
theorem rchk_8 (w : World) (f : Fm) (fa : FA) (hk : f.kind = 8) (h : FIn w f fa) : Calls Try.prog 16 #[.agg (fcells f fa).toArray] w (IntOf w (chkF f)) := by
  obtain ⟨dn, cn, sn, w1, xb, R, hc, hR, hw1, hxb, HX1, HB1, HS1, HIt, HKd, HDn, HCn, HR⟩ := rchk_pre w f fa (its := [105, 97, 100]) hk h rfl rfl
  rw [hc, hR]
  clear h hk hc hR
  go_enter Try.func16, Try.ntmps16
  go_upto_region 1 with fail
  rw [← hw1, ← hxb]
  clear hw1 hxb
  have g0 := HX1.out.cell 0 rfl
  go_wp2_with fail
  refine HIt.out.mono ?_
  rintro e w2 ⟨rfl, rfl⟩
  have g6 := HX1.out.cell 6 rfl
  by_cases hbig : 16384 < dn
  · have y1 := rcj1 hbig
    have HE : Hid (R = 52) := Lib.hid (by rw [HR.out, if_pos hbig])
    clear hbig
    go_wp2
    go_ret
    rw [HE.out]
    exact ⟨rfl, HB1.out⟩
  have y1 := rcj2 hbig
  have HR2 : Hid (R = if rightV f = false then 51 else 0) := Lib.hid (by rw [HR.out, if_neg hbig])
  have HLe : Hid (dn ≤ 16384) := Lib.hid (Nat.le_of_not_lt hbig)
  clear hbig
  have HC2 := Lib.hid (show Calls Try.prog 35 #[.string (str [105, 97, 100]), .int .u8 105] w2 (BoolOf w2 true) from has_any _ [105, 97, 100] (by decide) 105)
  go_wp2_with fail
  refine HC2.out.mono ?_
  rintro e w2q ⟨rfl, hb2⟩
  have HX2 := Lib.hid (HasF HX1.out hb2)
  have HS2 := Lib.hid (HS1.out.below hb2)
  have HB2 := Lib.hid (HB1.out.trans (hb2.mono HB1.out.size))
  clear hb2
  have g1 := HX2.out.cell 1 rfl
  obtain ⟨b2, hb2⟩ : ∃ b, b = numB f.id := ⟨_, rfl⟩
  have HV2 := Lib.hid hb2
  have HN2 := Lib.hid (rnum_any w2q f.id)
  rw [← hb2] at HN2
  clear hb2
  have HC3 := Lib.hid HN2.out
  go_wp2_with fail
  refine HC3.out.mono ?_
  rintro e w3q ⟨rfl, hb3⟩
  have HX3 := Lib.hid (HasF HX2.out hb3)
  have HS3 := Lib.hid (HS2.out.below hb3)
  have HB3 := Lib.hid (HB2.out.trans (hb3.mono HB2.out.size))
  clear hb3
  cases b2 with
  | false =>
    have HE : Hid (R = 51) := Lib.hid (by rw [HR2.out]; rw [if_pos (by unfold rightV; simp [HKd.out, HV2.out.symm])])
    go_wp2
    go_ret
    rw [HE.out]
    exact ⟨rfl, HB3.out⟩
  | true =>
    have HC4 := Lib.hid (show Calls Try.prog 35 #[.string (str [105, 97, 100]), .int .u8 97] w3q (BoolOf w3q true) from has_any _ [105, 97, 100] (by decide) 97)
    go_wp2_with fail
    refine HC4.out.mono ?_
    rintro e w4q ⟨rfl, hb4⟩
    have HX4 := Lib.hid (HasF HX3.out hb4)
    have HS4 := Lib.hid (HS3.out.below hb4)
    have HB4 := Lib.hid (HB3.out.trans (hb4.mono HB3.out.size))
    clear hb4
    have g2 := HX4.out.cell 2 rfl
    obtain ⟨b4, hb4⟩ : ∃ b, b = numB f.at_ := ⟨_, rfl⟩
    have HV4 := Lib.hid hb4
    have HN4 := Lib.hid (rnum_any w4q f.at_)
    rw [← hb4] at HN4
    clear hb4
    have HC5 := Lib.hid HN4.out
    go_wp2_with fail
    refine HC5.out.mono ?_
    rintro e w5q ⟨rfl, hb5⟩
    have HX5 := Lib.hid (HasF HX4.out hb5)
    have HS5 := Lib.hid (HS4.out.below hb5)
    have HB5 := Lib.hid (HB4.out.trans (hb5.mono HB4.out.size))
    clear hb5
    cases b4 with
    | false =>
      have HE : Hid (R = 51) := Lib.hid (by rw [HR2.out]; rw [if_pos (by unfold rightV; simp [HKd.out, HV2.out.symm, HV4.out.symm])])
      go_wp2
      go_ret
      rw [HE.out]
      exact ⟨rfl, HB5.out⟩
    | true =>
      have HC6 := Lib.hid (show Calls Try.prog 35 #[.string (str [105, 97, 100]), .int .u8 110] w5q (BoolOf w5q false) from has_any _ [105, 97, 100] (by decide) 110)
      go_wp2_with fail
      refine HC6.out.mono ?_
      rintro e w6q ⟨rfl, hb6⟩
      have HX6 := Lib.hid (HasF HX5.out hb6)
      have HS6 := Lib.hid (HS5.out.below hb6)
      have HB6 := Lib.hid (HB5.out.trans (hb6.mono HB5.out.size))
      clear hb6
      have HC7 := Lib.hid (show Calls Try.prog 35 #[.string (str [105, 97, 100]), .int .u8 99] w6q (BoolOf w6q false) from has_any _ [105, 97, 100] (by decide) 99)
      go_wp2_with fail
      refine HC7.out.mono ?_
      rintro e w7q ⟨rfl, hb7⟩
      have HX7 := Lib.hid (HasF HX6.out hb7)
      have HS7 := Lib.hid (HS6.out.below hb7)
      have HB7 := Lib.hid (HB6.out.trans (hb7.mono HB6.out.size))
      clear hb7
      have HC8 := Lib.hid (show Calls Try.prog 35 #[.string (str [105, 97, 100]), .int .u8 115] w7q (BoolOf w7q false) from has_any _ [105, 97, 100] (by decide) 115)
      go_wp2_with fail
      refine HC8.out.mono ?_
      rintro e w8q ⟨rfl, hb8⟩
      have HX8 := Lib.hid (HasF HX7.out hb8)
      have HS8 := Lib.hid (HS7.out.below hb8)
      have HB8 := Lib.hid (HB7.out.trans (hb8.mono HB7.out.size))
      clear hb8
      have HC9 := Lib.hid (show Calls Try.prog 35 #[.string (str [105, 97, 100]), .int .u8 101] w8q (BoolOf w8q false) from has_any _ [105, 97, 100] (by decide) 101)
      go_wp2_with fail
      refine HC9.out.mono ?_
      rintro e w9q ⟨rfl, hb9⟩
      have HX9 := Lib.hid (HasF HX8.out hb9)
      have HS9 := Lib.hid (HS8.out.below hb9)
      have HB9 := Lib.hid (HB8.out.trans (hb9.mono HB8.out.size))
      clear hb9
      have g0 := HX9.out.cell 0 rfl
      have g2 := HX9.out.cell 2 rfl
      have g6 := HX9.out.cell 6 rfl
      obtain ⟨mx, hmx, m1, m2⟩ := rcj3 HLe.out
      have HMx : Hid (mx = 4611686018427387903 - (f.data.length : Int)) := Lib.hid (by rw [hmx, HDn.out])
      clear hmx
      by_cases c1 : mx < f.at_
      · have z1 : (mx < f.at_) = True := eq_true c1
        have HQ : Hid (¬ f.at_ ≤ 4611686018427387903 - (f.data.length : Int)) := Lib.hid (by rw [← HMx.out]; omega)
        clear c1
        have HE : Hid (R = 51) := Lib.hid (by rw [HR2.out]; rw [if_pos (by unfold rightV; simp [HKd.out, HV2.out.symm, HV4.out.symm, HQ.out])])
        go_wp2
        go_ret
        rw [HE.out]
        exact ⟨rfl, HB9.out⟩
      have z1 : (mx < f.at_) = False := eq_false c1
      have HQ : Hid (f.at_ ≤ 4611686018427387903 - (f.data.length : Int)) := Lib.hid (by rw [← HMx.out]; omega)
      clear c1
      have HE : Hid (R = 0) := Lib.hid (by rw [HR2.out]; rw [if_neg (by unfold rightV; simp [HKd.out, HV2.out.symm, HV4.out.symm, HQ.out])])
      go_wp2
      go_ret
      rw [HE.out]
      exact ⟨rfl, HB9.out⟩
set_option maxRecDepth 100000 in
set_option maxHeartbeats 4000000 in
theorem rchk_16 (w : World) (f : Fm) (fa : FA) (hk : f.kind = 16) (h : FIn w f fa) : Calls Try.prog 16 #[.agg (fcells f fa).toArray] w (IntOf w (chkF f)) := by
  obtain ⟨dn, cn, sn, w1, xb, R, hc, hR, hw1, hxb, HX1, HB1, HS1, HIt, HKd, HDn, HCn, HR⟩ := rchk_pre w f fa (its := [110]) hk h rfl rfl
  rw [hc, hR]
  clear h hk hc hR
  go_enter Try.func16, Try.ntmps16
  go_upto_region 1 with fail
  rw [← hw1, ← hxb]
  clear hw1 hxb
  have g0 := HX1.out.cell 0 rfl
  go_wp2_with fail
  refine HIt.out.mono ?_
  rintro e w2 ⟨rfl, rfl⟩
  have g6 := HX1.out.cell 6 rfl
  by_cases hbig : 16384 < dn
  · have y1 := rcj1 hbig
    have HE : Hid (R = 52) := Lib.hid (by rw [HR.out, if_pos hbig])
    clear hbig
    go_wp2
    go_ret
    rw [HE.out]
    exact ⟨rfl, HB1.out⟩
  have y1 := rcj2 hbig
  have HR2 : Hid (R = if rightV f = false then 51 else 0) := Lib.hid (by rw [HR.out, if_neg hbig])
  have HLe : Hid (dn ≤ 16384) := Lib.hid (Nat.le_of_not_lt hbig)
  clear hbig
  have HC2 := Lib.hid (show Calls Try.prog 35 #[.string (str [110]), .int .u8 105] w2 (BoolOf w2 false) from has_any _ [110] (by decide) 105)
  go_wp2_with fail
  refine HC2.out.mono ?_
  rintro e w2q ⟨rfl, hb2⟩
  have HX2 := Lib.hid (HasF HX1.out hb2)
  have HS2 := Lib.hid (HS1.out.below hb2)
  have HB2 := Lib.hid (HB1.out.trans (hb2.mono HB1.out.size))
  clear hb2
  have HC3 := Lib.hid (show Calls Try.prog 35 #[.string (str [110]), .int .u8 97] w2q (BoolOf w2q false) from has_any _ [110] (by decide) 97)
  go_wp2_with fail
  refine HC3.out.mono ?_
  rintro e w3q ⟨rfl, hb3⟩
  have HX3 := Lib.hid (HasF HX2.out hb3)
  have HS3 := Lib.hid (HS2.out.below hb3)
  have HB3 := Lib.hid (HB2.out.trans (hb3.mono HB2.out.size))
  clear hb3
  have HC4 := Lib.hid (show Calls Try.prog 35 #[.string (str [110]), .int .u8 110] w3q (BoolOf w3q true) from has_any _ [110] (by decide) 110)
  go_wp2_with fail
  refine HC4.out.mono ?_
  rintro e w4q ⟨rfl, hb4⟩
  have HX4 := Lib.hid (HasF HX3.out hb4)
  have HS4 := Lib.hid (HS3.out.below hb4)
  have HB4 := Lib.hid (HB3.out.trans (hb4.mono HB3.out.size))
  clear hb4
  have g3 := HX4.out.cell 3 rfl
  obtain ⟨b4, hb4⟩ : ∃ b, b = numB f.n := ⟨_, rfl⟩
  have HV4 := Lib.hid hb4
  have HN4 := Lib.hid (rnum_any w4q f.n)
  rw [← hb4] at HN4
  clear hb4
  have HC5 := Lib.hid HN4.out
  go_wp2_with fail
  refine HC5.out.mono ?_
  rintro e w5q ⟨rfl, hb5⟩
  have HX5 := Lib.hid (HasF HX4.out hb5)
  have HS5 := Lib.hid (HS4.out.below hb5)
  have HB5 := Lib.hid (HB4.out.trans (hb5.mono HB4.out.size))
  clear hb5
  cases b4 with
  | false =>
    have HE : Hid (R = 51) := Lib.hid (by rw [HR2.out]; rw [if_pos (by unfold rightV; simp [HKd.out, HV4.out.symm])])
    go_wp2
    go_ret
    rw [HE.out]
    exact ⟨rfl, HB5.out⟩
  | true =>
    have HC6 := Lib.hid (show Calls Try.prog 35 #[.string (str [110]), .int .u8 99] w5q (BoolOf w5q false) from has_any _ [110] (by decide) 99)
    go_wp2_with fail
    refine HC6.out.mono ?_
    rintro e w6q ⟨rfl, hb6⟩
    have HX6 := Lib.hid (HasF HX5.out hb6)
    have HS6 := Lib.hid (HS5.out.below hb6)
    have HB6 := Lib.hid (HB5.out.trans (hb6.mono HB5.out.size))
    clear hb6
    have HC7 := Lib.hid (show Calls Try.prog 35 #[.string (str [110]), .int .u8 115] w6q (BoolOf w6q false) from has_any _ [110] (by decide) 115)
    go_wp2_with fail
    refine HC7.out.mono ?_
    rintro e w7q ⟨rfl, hb7⟩
    have HX7 := Lib.hid (HasF HX6.out hb7)
    have HS7 := Lib.hid (HS6.out.below hb7)
    have HB7 := Lib.hid (HB6.out.trans (hb7.mono HB6.out.size))
    clear hb7
    have HC8 := Lib.hid (show Calls Try.prog 35 #[.string (str [110]), .int .u8 101] w7q (BoolOf w7q false) from has_any _ [110] (by decide) 101)
    go_wp2_with fail
    refine HC8.out.mono ?_
    rintro e w8q ⟨rfl, hb8⟩
    have HX8 := Lib.hid (HasF HX7.out hb8)
    have HS8 := Lib.hid (HS7.out.below hb8)
    have HB8 := Lib.hid (HB7.out.trans (hb8.mono HB7.out.size))
    clear hb8
    have g0 := HX8.out.cell 0 rfl
    have HE : Hid (R = 0) := Lib.hid (by rw [HR2.out]; rw [if_neg (by unfold rightV; simp [HKd.out, HV4.out.symm])])
    go_wp2
    go_ret
    rw [HE.out]
    exact ⟨rfl, HB8.out⟩
set_option maxRecDepth 100000 in
set_option maxHeartbeats 4000000 in
theorem rchk_17 (w : World) (f : Fm) (fa : FA) (hk : f.kind = 17) (h : FIn w f fa) : Calls Try.prog 16 #[.agg (fcells f fa).toArray] w (IntOf w (chkF f)) := by
  obtain ⟨dn, cn, sn, w1, xb, R, hc, hR, hw1, hxb, HX1, HB1, HS1, HIt, HKd, HDn, HCn, HR⟩ := rchk_pre w f fa (its := [105, 110]) hk h rfl rfl
  rw [hc, hR]
  clear h hk hc hR
  go_enter Try.func16, Try.ntmps16
  go_upto_region 1 with fail
  rw [← hw1, ← hxb]
  clear hw1 hxb
  have g0 := HX1.out.cell 0 rfl
  go_wp2_with fail
  refine HIt.out.mono ?_
  rintro e w2 ⟨rfl, rfl⟩
  have g6 := HX1.out.cell 6 rfl
  by_cases hbig : 16384 < dn
  · have y1 := rcj1 hbig
    have HE : Hid (R = 52) := Lib.hid (by rw [HR.out, if_pos hbig])
    clear hbig
    go_wp2
    go_ret
    rw [HE.out]
    exact ⟨rfl, HB1.out⟩
  have y1 := rcj2 hbig
  have HR2 : Hid (R = if rightV f = false then 51 else 0) := Lib.hid (by rw [HR.out, if_neg hbig])
  have HLe : Hid (dn ≤ 16384) := Lib.hid (Nat.le_of_not_lt hbig)
  clear hbig
  have HC2 := Lib.hid (show Calls Try.prog 35 #[.string (str [105, 110]), .int .u8 105] w2 (BoolOf w2 true) from has_any _ [105, 110] (by decide) 105)
  go_wp2_with fail
  refine HC2.out.mono ?_
  rintro e w2q ⟨rfl, hb2⟩
  have HX2 := Lib.hid (HasF HX1.out hb2)
  have HS2 := Lib.hid (HS1.out.below hb2)
  have HB2 := Lib.hid (HB1.out.trans (hb2.mono HB1.out.size))
  clear hb2
  have g1 := HX2.out.cell 1 rfl
  obtain ⟨b2, hb2⟩ : ∃ b, b = numB f.id := ⟨_, rfl⟩
  have HV2 := Lib.hid hb2
  have HN2 := Lib.hid (rnum_any w2q f.id)
  rw [← hb2] at HN2
  clear hb2
  have HC3 := Lib.hid HN2.out
  go_wp2_with fail
  refine HC3.out.mono ?_
  rintro e w3q ⟨rfl, hb3⟩
  have HX3 := Lib.hid (HasF HX2.out hb3)
  have HS3 := Lib.hid (HS2.out.below hb3)
  have HB3 := Lib.hid (HB2.out.trans (hb3.mono HB2.out.size))
  clear hb3
  cases b2 with
  | false =>
    have HE : Hid (R = 51) := Lib.hid (by rw [HR2.out]; rw [if_pos (by unfold rightV; simp [HKd.out, HV2.out.symm])])
    go_wp2
    go_ret
    rw [HE.out]
    exact ⟨rfl, HB3.out⟩
  | true =>
    have HC4 := Lib.hid (show Calls Try.prog 35 #[.string (str [105, 110]), .int .u8 97] w3q (BoolOf w3q false) from has_any _ [105, 110] (by decide) 97)
    go_wp2_with fail
    refine HC4.out.mono ?_
    rintro e w4q ⟨rfl, hb4⟩
    have HX4 := Lib.hid (HasF HX3.out hb4)
    have HS4 := Lib.hid (HS3.out.below hb4)
    have HB4 := Lib.hid (HB3.out.trans (hb4.mono HB3.out.size))
    clear hb4
    have HC5 := Lib.hid (show Calls Try.prog 35 #[.string (str [105, 110]), .int .u8 110] w4q (BoolOf w4q true) from has_any _ [105, 110] (by decide) 110)
    go_wp2_with fail
    refine HC5.out.mono ?_
    rintro e w5q ⟨rfl, hb5⟩
    have HX5 := Lib.hid (HasF HX4.out hb5)
    have HS5 := Lib.hid (HS4.out.below hb5)
    have HB5 := Lib.hid (HB4.out.trans (hb5.mono HB4.out.size))
    clear hb5
    have g3 := HX5.out.cell 3 rfl
    obtain ⟨b5, hb5⟩ : ∃ b, b = numB f.n := ⟨_, rfl⟩
    have HV5 := Lib.hid hb5
    have HN5 := Lib.hid (rnum_any w5q f.n)
    rw [← hb5] at HN5
    clear hb5
    have HC6 := Lib.hid HN5.out
    go_wp2_with fail
    refine HC6.out.mono ?_
    rintro e w6q ⟨rfl, hb6⟩
    have HX6 := Lib.hid (HasF HX5.out hb6)
    have HS6 := Lib.hid (HS5.out.below hb6)
    have HB6 := Lib.hid (HB5.out.trans (hb6.mono HB5.out.size))
    clear hb6
    cases b5 with
    | false =>
      have HE : Hid (R = 51) := Lib.hid (by rw [HR2.out]; rw [if_pos (by unfold rightV; simp [HKd.out, HV2.out.symm, HV5.out.symm])])
      go_wp2
      go_ret
      rw [HE.out]
      exact ⟨rfl, HB6.out⟩
    | true =>
      have HC7 := Lib.hid (show Calls Try.prog 35 #[.string (str [105, 110]), .int .u8 99] w6q (BoolOf w6q false) from has_any _ [105, 110] (by decide) 99)
      go_wp2_with fail
      refine HC7.out.mono ?_
      rintro e w7q ⟨rfl, hb7⟩
      have HX7 := Lib.hid (HasF HX6.out hb7)
      have HS7 := Lib.hid (HS6.out.below hb7)
      have HB7 := Lib.hid (HB6.out.trans (hb7.mono HB6.out.size))
      clear hb7
      have HC8 := Lib.hid (show Calls Try.prog 35 #[.string (str [105, 110]), .int .u8 115] w7q (BoolOf w7q false) from has_any _ [105, 110] (by decide) 115)
      go_wp2_with fail
      refine HC8.out.mono ?_
      rintro e w8q ⟨rfl, hb8⟩
      have HX8 := Lib.hid (HasF HX7.out hb8)
      have HS8 := Lib.hid (HS7.out.below hb8)
      have HB8 := Lib.hid (HB7.out.trans (hb8.mono HB7.out.size))
      clear hb8
      have HC9 := Lib.hid (show Calls Try.prog 35 #[.string (str [105, 110]), .int .u8 101] w8q (BoolOf w8q false) from has_any _ [105, 110] (by decide) 101)
      go_wp2_with fail
      refine HC9.out.mono ?_
      rintro e w9q ⟨rfl, hb9⟩
      have HX9 := Lib.hid (HasF HX8.out hb9)
      have HS9 := Lib.hid (HS8.out.below hb9)
      have HB9 := Lib.hid (HB8.out.trans (hb9.mono HB8.out.size))
      clear hb9
      have g0 := HX9.out.cell 0 rfl
      have HE : Hid (R = 0) := Lib.hid (by rw [HR2.out]; rw [if_neg (by unfold rightV; simp [HKd.out, HV2.out.symm, HV5.out.symm])])
      go_wp2
      go_ret
      rw [HE.out]
      exact ⟨rfl, HB9.out⟩
set_option maxRecDepth 100000 in
set_option maxHeartbeats 4000000 in
theorem rchk_18 (w : World) (f : Fm) (fa : FA) (hk : f.kind = 18) (h : FIn w f fa) : Calls Try.prog 16 #[.agg (fcells f fa).toArray] w (IntOf w (chkF f)) := by
  obtain ⟨dn, cn, sn, w1, xb, R, hc, hR, hw1, hxb, HX1, HB1, HS1, HIt, HKd, HDn, HCn, HR⟩ := rchk_pre w f fa (its := [110]) hk h rfl rfl
  rw [hc, hR]
  clear h hk hc hR
  go_enter Try.func16, Try.ntmps16
  go_upto_region 1 with fail
  rw [← hw1, ← hxb]
  clear hw1 hxb
  have g0 := HX1.out.cell 0 rfl
  go_wp2_with fail
  refine HIt.out.mono ?_
  rintro e w2 ⟨rfl, rfl⟩
  have g6 := HX1.out.cell 6 rfl
  by_cases hbig : 16384 < dn
  · have y1 := rcj1 hbig
    have HE : Hid (R = 52) := Lib.hid (by rw [HR.out, if_pos hbig])
    clear hbig
    go_wp2
    go_ret
    rw [HE.out]
    exact ⟨rfl, HB1.out⟩
  have y1 := rcj2 hbig
  have HR2 : Hid (R = if rightV f = false then 51 else 0) := Lib.hid (by rw [HR.out, if_neg hbig])
  have HLe : Hid (dn ≤ 16384) := Lib.hid (Nat.le_of_not_lt hbig)
  clear hbig
  have HC2 := Lib.hid (show Calls Try.prog 35 #[.string (str [110]), .int .u8 105] w2 (BoolOf w2 false) from has_any _ [110] (by decide) 105)
  go_wp2_with fail
  refine HC2.out.mono ?_
  rintro e w2q ⟨rfl, hb2⟩
  have HX2 := Lib.hid (HasF HX1.out hb2)
  have HS2 := Lib.hid (HS1.out.below hb2)
  have HB2 := Lib.hid (HB1.out.trans (hb2.mono HB1.out.size))
  clear hb2
  have HC3 := Lib.hid (show Calls Try.prog 35 #[.string (str [110]), .int .u8 97] w2q (BoolOf w2q false) from has_any _ [110] (by decide) 97)
  go_wp2_with fail
  refine HC3.out.mono ?_
  rintro e w3q ⟨rfl, hb3⟩
  have HX3 := Lib.hid (HasF HX2.out hb3)
  have HS3 := Lib.hid (HS2.out.below hb3)
  have HB3 := Lib.hid (HB2.out.trans (hb3.mono HB2.out.size))
  clear hb3
  have HC4 := Lib.hid (show Calls Try.prog 35 #[.string (str [110]), .int .u8 110] w3q (BoolOf w3q true) from has_any _ [110] (by decide) 110)
  go_wp2_with fail
  refine HC4.out.mono ?_
  rintro e w4q ⟨rfl, hb4⟩
  have HX4 := Lib.hid (HasF HX3.out hb4)
  have HS4 := Lib.hid (HS3.out.below hb4)
  have HB4 := Lib.hid (HB3.out.trans (hb4.mono HB3.out.size))
  clear hb4
  have g3 := HX4.out.cell 3 rfl
  obtain ⟨b4, hb4⟩ : ∃ b, b = numB f.n := ⟨_, rfl⟩
  have HV4 := Lib.hid hb4
  have HN4 := Lib.hid (rnum_any w4q f.n)
  rw [← hb4] at HN4
  clear hb4
  have HC5 := Lib.hid HN4.out
  go_wp2_with fail
  refine HC5.out.mono ?_
  rintro e w5q ⟨rfl, hb5⟩
  have HX5 := Lib.hid (HasF HX4.out hb5)
  have HS5 := Lib.hid (HS4.out.below hb5)
  have HB5 := Lib.hid (HB4.out.trans (hb5.mono HB4.out.size))
  clear hb5
  cases b4 with
  | false =>
    have HE : Hid (R = 51) := Lib.hid (by rw [HR2.out]; rw [if_pos (by unfold rightV; simp [HKd.out, rcj5 HV4.out.symm])])
    go_wp2
    go_ret
    rw [HE.out]
    exact ⟨rfl, HB5.out⟩
  | true =>
    have HC6 := Lib.hid (show Calls Try.prog 35 #[.string (str [110]), .int .u8 99] w5q (BoolOf w5q false) from has_any _ [110] (by decide) 99)
    go_wp2_with fail
    refine HC6.out.mono ?_
    rintro e w6q ⟨rfl, hb6⟩
    have HX6 := Lib.hid (HasF HX5.out hb6)
    have HS6 := Lib.hid (HS5.out.below hb6)
    have HB6 := Lib.hid (HB5.out.trans (hb6.mono HB5.out.size))
    clear hb6
    have HC7 := Lib.hid (show Calls Try.prog 35 #[.string (str [110]), .int .u8 115] w6q (BoolOf w6q false) from has_any _ [110] (by decide) 115)
    go_wp2_with fail
    refine HC7.out.mono ?_
    rintro e w7q ⟨rfl, hb7⟩
    have HX7 := Lib.hid (HasF HX6.out hb7)
    have HS7 := Lib.hid (HS6.out.below hb7)
    have HB7 := Lib.hid (HB6.out.trans (hb7.mono HB6.out.size))
    clear hb7
    have HC8 := Lib.hid (show Calls Try.prog 35 #[.string (str [110]), .int .u8 101] w7q (BoolOf w7q false) from has_any _ [110] (by decide) 101)
    go_wp2_with fail
    refine HC8.out.mono ?_
    rintro e w8q ⟨rfl, hb8⟩
    have HX8 := Lib.hid (HasF HX7.out hb8)
    have HS8 := Lib.hid (HS7.out.below hb8)
    have HB8 := Lib.hid (HB7.out.trans (hb8.mono HB7.out.size))
    clear hb8
    have g0 := HX8.out.cell 0 rfl
    have g3 := HX8.out.cell 3 rfl
    by_cases c1 : 1152921504606846976 < f.n
    · have zc1 := c1
      have HE : Hid (R = 51) := Lib.hid (by rw [HR2.out]; rw [if_pos (by unfold rightV; simp [HKd.out, rcj6 HV4.out.symm, c1])])
      go_wp2
      go_ret
      rw [HE.out]
      exact ⟨rfl, HB8.out⟩
    have HE : Hid (R = 0) := Lib.hid (by rw [HR2.out]; rw [if_neg (by unfold rightV; simp [HKd.out, rcj6 HV4.out.symm, c1])])
    go_wp2
    go_ret
    rw [HE.out]
    exact ⟨rfl, HB8.out⟩
set_option maxRecDepth 100000 in
set_option maxHeartbeats 4000000 in
theorem rchk_19 (w : World) (f : Fm) (fa : FA) (hk : f.kind = 19) (h : FIn w f fa) : Calls Try.prog 16 #[.agg (fcells f fa).toArray] w (IntOf w (chkF f)) := by
  obtain ⟨dn, cn, sn, w1, xb, R, hc, hR, hw1, hxb, HX1, HB1, HS1, HIt, HKd, HDn, HCn, HR⟩ := rchk_pre w f fa (its := [110]) hk h rfl rfl
  rw [hc, hR]
  clear h hk hc hR
  go_enter Try.func16, Try.ntmps16
  go_upto_region 1 with fail
  rw [← hw1, ← hxb]
  clear hw1 hxb
  have g0 := HX1.out.cell 0 rfl
  go_wp2_with fail
  refine HIt.out.mono ?_
  rintro e w2 ⟨rfl, rfl⟩
  have g6 := HX1.out.cell 6 rfl
  by_cases hbig : 16384 < dn
  · have y1 := rcj1 hbig
    have HE : Hid (R = 52) := Lib.hid (by rw [HR.out, if_pos hbig])
    clear hbig
    go_wp2
    go_ret
    rw [HE.out]
    exact ⟨rfl, HB1.out⟩
  have y1 := rcj2 hbig
  have HR2 : Hid (R = if rightV f = false then 51 else 0) := Lib.hid (by rw [HR.out, if_neg hbig])
  have HLe : Hid (dn ≤ 16384) := Lib.hid (Nat.le_of_not_lt hbig)
  clear hbig
  have HC2 := Lib.hid (show Calls Try.prog 35 #[.string (str [110]), .int .u8 105] w2 (BoolOf w2 false) from has_any _ [110] (by decide) 105)
  go_wp2_with fail
  refine HC2.out.mono ?_
  rintro e w2q ⟨rfl, hb2⟩
  have HX2 := Lib.hid (HasF HX1.out hb2)
  have HS2 := Lib.hid (HS1.out.below hb2)
  have HB2 := Lib.hid (HB1.out.trans (hb2.mono HB1.out.size))
  clear hb2
  have HC3 := Lib.hid (show Calls Try.prog 35 #[.string (str [110]), .int .u8 97] w2q (BoolOf w2q false) from has_any _ [110] (by decide) 97)
  go_wp2_with fail
  refine HC3.out.mono ?_
  rintro e w3q ⟨rfl, hb3⟩
  have HX3 := Lib.hid (HasF HX2.out hb3)
  have HS3 := Lib.hid (HS2.out.below hb3)
  have HB3 := Lib.hid (HB2.out.trans (hb3.mono HB2.out.size))
  clear hb3
  have HC4 := Lib.hid (show Calls Try.prog 35 #[.string (str [110]), .int .u8 110] w3q (BoolOf w3q true) from has_any _ [110] (by decide) 110)
  go_wp2_with fail
  refine HC4.out.mono ?_
  rintro e w4q ⟨rfl, hb4⟩
  have HX4 := Lib.hid (HasF HX3.out hb4)
  have HS4 := Lib.hid (HS3.out.below hb4)
  have HB4 := Lib.hid (HB3.out.trans (hb4.mono HB3.out.size))
  clear hb4
  have g3 := HX4.out.cell 3 rfl
  obtain ⟨b4, hb4⟩ : ∃ b, b = numB f.n := ⟨_, rfl⟩
  have HV4 := Lib.hid hb4
  have HN4 := Lib.hid (rnum_any w4q f.n)
  rw [← hb4] at HN4
  clear hb4
  have HC5 := Lib.hid HN4.out
  go_wp2_with fail
  refine HC5.out.mono ?_
  rintro e w5q ⟨rfl, hb5⟩
  have HX5 := Lib.hid (HasF HX4.out hb5)
  have HS5 := Lib.hid (HS4.out.below hb5)
  have HB5 := Lib.hid (HB4.out.trans (hb5.mono HB4.out.size))
  clear hb5
  cases b4 with
  | false =>
    have HE : Hid (R = 51) := Lib.hid (by rw [HR2.out]; rw [if_pos (by unfold rightV; simp [HKd.out, rcj5 HV4.out.symm])])
    go_wp2
    go_ret
    rw [HE.out]
    exact ⟨rfl, HB5.out⟩
  | true =>
    have HC6 := Lib.hid (show Calls Try.prog 35 #[.string (str [110]), .int .u8 99] w5q (BoolOf w5q false) from has_any _ [110] (by decide) 99)
    go_wp2_with fail
    refine HC6.out.mono ?_
    rintro e w6q ⟨rfl, hb6⟩
    have HX6 := Lib.hid (HasF HX5.out hb6)
    have HS6 := Lib.hid (HS5.out.below hb6)
    have HB6 := Lib.hid (HB5.out.trans (hb6.mono HB5.out.size))
    clear hb6
    have HC7 := Lib.hid (show Calls Try.prog 35 #[.string (str [110]), .int .u8 115] w6q (BoolOf w6q false) from has_any _ [110] (by decide) 115)
    go_wp2_with fail
    refine HC7.out.mono ?_
    rintro e w7q ⟨rfl, hb7⟩
    have HX7 := Lib.hid (HasF HX6.out hb7)
    have HS7 := Lib.hid (HS6.out.below hb7)
    have HB7 := Lib.hid (HB6.out.trans (hb7.mono HB6.out.size))
    clear hb7
    have HC8 := Lib.hid (show Calls Try.prog 35 #[.string (str [110]), .int .u8 101] w7q (BoolOf w7q false) from has_any _ [110] (by decide) 101)
    go_wp2_with fail
    refine HC8.out.mono ?_
    rintro e w8q ⟨rfl, hb8⟩
    have HX8 := Lib.hid (HasF HX7.out hb8)
    have HS8 := Lib.hid (HS7.out.below hb8)
    have HB8 := Lib.hid (HB7.out.trans (hb8.mono HB7.out.size))
    clear hb8
    have g0 := HX8.out.cell 0 rfl
    have g3 := HX8.out.cell 3 rfl
    by_cases c1 : 1152921504606846976 < f.n
    · have zc1 := c1
      have HE : Hid (R = 51) := Lib.hid (by rw [HR2.out]; rw [if_pos (by unfold rightV; simp [HKd.out, rcj6 HV4.out.symm, c1])])
      go_wp2
      go_ret
      rw [HE.out]
      exact ⟨rfl, HB8.out⟩
    have HE : Hid (R = 0) := Lib.hid (by rw [HR2.out]; rw [if_neg (by unfold rightV; simp [HKd.out, rcj6 HV4.out.symm, c1])])
    go_wp2
    go_ret
    rw [HE.out]
    exact ⟨rfl, HB8.out⟩
set_option maxRecDepth 100000 in
set_option maxHeartbeats 4000000 in
theorem rchk_20 (w : World) (f : Fm) (fa : FA) (hk : f.kind = 20) (h : FIn w f fa) : Calls Try.prog 16 #[.agg (fcells f fa).toArray] w (IntOf w (chkF f)) := by
  obtain ⟨dn, cn, sn, w1, xb, R, hc, hR, hw1, hxb, HX1, HB1, HS1, HIt, HKd, HDn, HCn, HR⟩ := rchk_pre w f fa (its := [110]) hk h rfl rfl
  rw [hc, hR]
  clear h hk hc hR
  go_enter Try.func16, Try.ntmps16
  go_upto_region 1 with fail
  rw [← hw1, ← hxb]
  clear hw1 hxb
  have g0 := HX1.out.cell 0 rfl
  go_wp2_with fail
  refine HIt.out.mono ?_
  rintro e w2 ⟨rfl, rfl⟩
  have g6 := HX1.out.cell 6 rfl
  by_cases hbig : 16384 < dn
  · have y1 := rcj1 hbig
    have HE : Hid (R = 52) := Lib.hid (by rw [HR.out, if_pos hbig])
    clear hbig
    go_wp2
    go_ret
    rw [HE.out]
    exact ⟨rfl, HB1.out⟩
  have y1 := rcj2 hbig
  have HR2 : Hid (R = if rightV f = false then 51 else 0) := Lib.hid (by rw [HR.out, if_neg hbig])
  have HLe : Hid (dn ≤ 16384) := Lib.hid (Nat.le_of_not_lt hbig)
  clear hbig
  have HC2 := Lib.hid (show Calls Try.prog 35 #[.string (str [110]), .int .u8 105] w2 (BoolOf w2 false) from has_any _ [110] (by decide) 105)
  go_wp2_with fail
  refine HC2.out.mono ?_
  rintro e w2q ⟨rfl, hb2⟩
  have HX2 := Lib.hid (HasF HX1.out hb2)
  have HS2 := Lib.hid (HS1.out.below hb2)
  have HB2 := Lib.hid (HB1.out.trans (hb2.mono HB1.out.size))
  clear hb2
  have HC3 := Lib.hid (show Calls Try.prog 35 #[.string (str [110]), .int .u8 97] w2q (BoolOf w2q false) from has_any _ [110] (by decide) 97)
  go_wp2_with fail
  refine HC3.out.mono ?_
  rintro e w3q ⟨rfl, hb3⟩
  have HX3 := Lib.hid (HasF HX2.out hb3)
  have HS3 := Lib.hid (HS2.out.below hb3)
  have HB3 := Lib.hid (HB2.out.trans (hb3.mono HB2.out.size))
  clear hb3
  have HC4 := Lib.hid (show Calls Try.prog 35 #[.string (str [110]), .int .u8 110] w3q (BoolOf w3q true) from has_any _ [110] (by decide) 110)
  go_wp2_with fail
  refine HC4.out.mono ?_
  rintro e w4q ⟨rfl, hb4⟩
  have HX4 := Lib.hid (HasF HX3.out hb4)
  have HS4 := Lib.hid (HS3.out.below hb4)
  have HB4 := Lib.hid (HB3.out.trans (hb4.mono HB3.out.size))
  clear hb4
  have g3 := HX4.out.cell 3 rfl
  obtain ⟨b4, hb4⟩ : ∃ b, b = numB f.n := ⟨_, rfl⟩
  have HV4 := Lib.hid hb4
  have HN4 := Lib.hid (rnum_any w4q f.n)
  rw [← hb4] at HN4
  clear hb4
  have HC5 := Lib.hid HN4.out
  go_wp2_with fail
  refine HC5.out.mono ?_
  rintro e w5q ⟨rfl, hb5⟩
  have HX5 := Lib.hid (HasF HX4.out hb5)
  have HS5 := Lib.hid (HS4.out.below hb5)
  have HB5 := Lib.hid (HB4.out.trans (hb5.mono HB4.out.size))
  clear hb5
  cases b4 with
  | false =>
    have HE : Hid (R = 51) := Lib.hid (by rw [HR2.out]; rw [if_pos (by unfold rightV; simp [HKd.out, HV4.out.symm])])
    go_wp2
    go_ret
    rw [HE.out]
    exact ⟨rfl, HB5.out⟩
  | true =>
    have HC6 := Lib.hid (show Calls Try.prog 35 #[.string (str [110]), .int .u8 99] w5q (BoolOf w5q false) from has_any _ [110] (by decide) 99)
    go_wp2_with fail
    refine HC6.out.mono ?_
    rintro e w6q ⟨rfl, hb6⟩
    have HX6 := Lib.hid (HasF HX5.out hb6)
    have HS6 := Lib.hid (HS5.out.below hb6)
    have HB6 := Lib.hid (HB5.out.trans (hb6.mono HB5.out.size))
    clear hb6
    have HC7 := Lib.hid (show Calls Try.prog 35 #[.string (str [110]), .int .u8 115] w6q (BoolOf w6q false) from has_any _ [110] (by decide) 115)
    go_wp2_with fail
    refine HC7.out.mono ?_
    rintro e w7q ⟨rfl, hb7⟩
    have HX7 := Lib.hid (HasF HX6.out hb7)
    have HS7 := Lib.hid (HS6.out.below hb7)
    have HB7 := Lib.hid (HB6.out.trans (hb7.mono HB6.out.size))
    clear hb7
    have HC8 := Lib.hid (show Calls Try.prog 35 #[.string (str [110]), .int .u8 101] w7q (BoolOf w7q false) from has_any _ [110] (by decide) 101)
    go_wp2_with fail
    refine HC8.out.mono ?_
    rintro e w8q ⟨rfl, hb8⟩
    have HX8 := Lib.hid (HasF HX7.out hb8)
    have HS8 := Lib.hid (HS7.out.below hb8)
    have HB8 := Lib.hid (HB7.out.trans (hb8.mono HB7.out.size))
    clear hb8
    have g0 := HX8.out.cell 0 rfl
    have HE : Hid (R = 0) := Lib.hid (by rw [HR2.out]; rw [if_neg (by unfold rightV; simp [HKd.out, HV4.out.symm])])
    go_wp2
    go_ret
    rw [HE.out]
    exact ⟨rfl, HB8.out⟩
set_option maxRecDepth 100000 in
set_option maxHeartbeats 4000000 in
theorem rchk_21 (w : World) (f : Fm) (fa : FA) (hk : f.kind = 21) (h : FIn w f fa) : Calls Try.prog 16 #[.agg (fcells f fa).toArray] w (IntOf w (chkF f)) := by
  obtain ⟨dn, cn, sn, w1, xb, R, hc, hR, hw1, hxb, HX1, HB1, HS1, HIt, HKd, HDn, HCn, HR⟩ := rchk_pre w f fa (its := [105, 110]) hk h rfl rfl
  rw [hc, hR]
  clear h hk hc hR
  go_enter Try.func16, Try.ntmps16
  go_upto_region 1 with fail
  rw [← hw1, ← hxb]
  clear hw1 hxb
  have g0 := HX1.out.cell 0 rfl
  go_wp2_with fail
  refine HIt.out.mono ?_
  rintro e w2 ⟨rfl, rfl⟩
  have g6 := HX1.out.cell 6 rfl
  by_cases hbig : 16384 < dn
  · have y1 := rcj1 hbig
    have HE : Hid (R = 52) := Lib.hid (by rw [HR.out, if_pos hbig])
    clear hbig
    go_wp2
    go_ret
    rw [HE.out]
    exact ⟨rfl, HB1.out⟩
  have y1 := rcj2 hbig
  have HR2 : Hid (R = if rightV f = false then 51 else 0) := Lib.hid (by rw [HR.out, if_neg hbig])
  have HLe : Hid (dn ≤ 16384) := Lib.hid (Nat.le_of_not_lt hbig)
  clear hbig
  have HC2 := Lib.hid (show Calls Try.prog 35 #[.string (str [105, 110]), .int .u8 105] w2 (BoolOf w2 true) from has_any _ [105, 110] (by decide) 105)
  go_wp2_with fail
  refine HC2.out.mono ?_
  rintro e w2q ⟨rfl, hb2⟩
  have HX2 := Lib.hid (HasF HX1.out hb2)
  have HS2 := Lib.hid (HS1.out.below hb2)
  have HB2 := Lib.hid (HB1.out.trans (hb2.mono HB1.out.size))
  clear hb2
  have g1 := HX2.out.cell 1 rfl
  obtain ⟨b2, hb2⟩ : ∃ b, b = numB f.id := ⟨_, rfl⟩
  have HV2 := Lib.hid hb2
  have HN2 := Lib.hid (rnum_any w2q f.id)
  rw [← hb2] at HN2
  clear hb2
  have HC3 := Lib.hid HN2.out
  go_wp2_with fail
  refine HC3.out.mono ?_
  rintro e w3q ⟨rfl, hb3⟩
  have HX3 := Lib.hid (HasF HX2.out hb3)
  have HS3 := Lib.hid (HS2.out.below hb3)
  have HB3 := Lib.hid (HB2.out.trans (hb3.mono HB2.out.size))
  clear hb3
  cases b2 with
  | false =>
    have HE : Hid (R = 51) := Lib.hid (by rw [HR2.out]; rw [if_pos (by unfold rightV; simp [HKd.out, HV2.out.symm])])
    go_wp2
    go_ret
    rw [HE.out]
    exact ⟨rfl, HB3.out⟩
  | true =>
    have HC4 := Lib.hid (show Calls Try.prog 35 #[.string (str [105, 110]), .int .u8 97] w3q (BoolOf w3q false) from has_any _ [105, 110] (by decide) 97)
    go_wp2_with fail
    refine HC4.out.mono ?_
    rintro e w4q ⟨rfl, hb4⟩
    have HX4 := Lib.hid (HasF HX3.out hb4)
    have HS4 := Lib.hid (HS3.out.below hb4)
    have HB4 := Lib.hid (HB3.out.trans (hb4.mono HB3.out.size))
    clear hb4
    have HC5 := Lib.hid (show Calls Try.prog 35 #[.string (str [105, 110]), .int .u8 110] w4q (BoolOf w4q true) from has_any _ [105, 110] (by decide) 110)
    go_wp2_with fail
    refine HC5.out.mono ?_
    rintro e w5q ⟨rfl, hb5⟩
    have HX5 := Lib.hid (HasF HX4.out hb5)
    have HS5 := Lib.hid (HS4.out.below hb5)
    have HB5 := Lib.hid (HB4.out.trans (hb5.mono HB4.out.size))
    clear hb5
    have g3 := HX5.out.cell 3 rfl
    obtain ⟨b5, hb5⟩ : ∃ b, b = numB f.n := ⟨_, rfl⟩
    have HV5 := Lib.hid hb5
    have HN5 := Lib.hid (rnum_any w5q f.n)
    rw [← hb5] at HN5
    clear hb5
    have HC6 := Lib.hid HN5.out
    go_wp2_with fail
    refine HC6.out.mono ?_
    rintro e w6q ⟨rfl, hb6⟩
    have HX6 := Lib.hid (HasF HX5.out hb6)
    have HS6 := Lib.hid (HS5.out.below hb6)
    have HB6 := Lib.hid (HB5.out.trans (hb6.mono HB5.out.size))
    clear hb6
    cases b5 with
    | false =>
      have HE : Hid (R = 51) := Lib.hid (by rw [HR2.out]; rw [if_pos (by unfold rightV; simp [HKd.out, HV2.out.symm, HV5.out.symm])])
      go_wp2
      go_ret
      rw [HE.out]
      exact ⟨rfl, HB6.out⟩
    | true =>
      have HC7 := Lib.hid (show Calls Try.prog 35 #[.string (str [105, 110]), .int .u8 99] w6q (BoolOf w6q false) from has_any _ [105, 110] (by decide) 99)
      go_wp2_with fail
      refine HC7.out.mono ?_
      rintro e w7q ⟨rfl, hb7⟩
      have HX7 := Lib.hid (HasF HX6.out hb7)
      have HS7 := Lib.hid (HS6.out.below hb7)
      have HB7 := Lib.hid (HB6.out.trans (hb7.mono HB6.out.size))
      clear hb7
      have HC8 := Lib.hid (show Calls Try.prog 35 #[.string (str [105, 110]), .int .u8 115] w7q (BoolOf w7q false) from has_any _ [105, 110] (by decide) 115)
      go_wp2_with fail
      refine HC8.out.mono ?_
      rintro e w8q ⟨rfl, hb8⟩
      have HX8 := Lib.hid (HasF HX7.out hb8)
      have HS8 := Lib.hid (HS7.out.below hb8)
      have HB8 := Lib.hid (HB7.out.trans (hb8.mono HB7.out.size))
      clear hb8
      have HC9 := Lib.hid (show Calls Try.prog 35 #[.string (str [105, 110]), .int .u8 101] w8q (BoolOf w8q false) from has_any _ [105, 110] (by decide) 101)
      go_wp2_with fail
      refine HC9.out.mono ?_
      rintro e w9q ⟨rfl, hb9⟩
      have HX9 := Lib.hid (HasF HX8.out hb9)
      have HS9 := Lib.hid (HS8.out.below hb9)
      have HB9 := Lib.hid (HB8.out.trans (hb9.mono HB8.out.size))
      clear hb9
      have g0 := HX9.out.cell 0 rfl
      have HE : Hid (R = 0) := Lib.hid (by rw [HR2.out]; rw [if_neg (by unfold rightV; simp [HKd.out, HV2.out.symm, HV5.out.symm])])
      go_wp2
      go_ret
      rw [HE.out]
      exact ⟨rfl, HB9.out⟩
set_option maxRecDepth 100000 in
set_option maxHeartbeats 4000000 in
theorem rchk_22 (w : World) (f : Fm) (fa : FA) (hk : f.kind = 22) (h : FIn w f fa) : Calls Try.prog 16 #[.agg (fcells f fa).toArray] w (IntOf w (chkF f)) := by
  obtain ⟨dn, cn, sn, w1, xb, R, hc, hR, hw1, hxb, HX1, HB1, HS1, HIt, HKd, HDn, HCn, HR⟩ := rchk_pre w f fa (its := [110]) hk h rfl rfl
  rw [hc, hR]
  clear h hk hc hR
  go_enter Try.func16, Try.ntmps16
  go_upto_region 1 with fail
  rw [← hw1, ← hxb]
  clear hw1 hxb
  have g0 := HX1.out.cell 0 rfl
  go_wp2_with fail
  refine HIt.out.mono ?_
  rintro e w2 ⟨rfl, rfl⟩
  have g6 := HX1.out.cell 6 rfl
  by_cases hbig : 16384 < dn
  · have y1 := rcj1 hbig
    have HE : Hid (R = 52) := Lib.hid (by rw [HR.out, if_pos hbig])
    clear hbig
    go_wp2
    go_ret
    rw [HE.out]
    exact ⟨rfl, HB1.out⟩
  have y1 := rcj2 hbig
  have HR2 : Hid (R = if rightV f = false then 51 else 0) := Lib.hid (by rw [HR.out, if_neg hbig])
  have HLe : Hid (dn ≤ 16384) := Lib.hid (Nat.le_of_not_lt hbig)
  clear hbig
  have HC2 := Lib.hid (show Calls Try.prog 35 #[.string (str [110]), .int .u8 105] w2 (BoolOf w2 false) from has_any _ [110] (by decide) 105)
  go_wp2_with fail
  refine HC2.out.mono ?_
  rintro e w2q ⟨rfl, hb2⟩
  have HX2 := Lib.hid (HasF HX1.out hb2)
  have HS2 := Lib.hid (HS1.out.below hb2)
  have HB2 := Lib.hid (HB1.out.trans (hb2.mono HB1.out.size))
  clear hb2
  have HC3 := Lib.hid (show Calls Try.prog 35 #[.string (str [110]), .int .u8 97] w2q (BoolOf w2q false) from has_any _ [110] (by decide) 97)
  go_wp2_with fail
  refine HC3.out.mono ?_
  rintro e w3q ⟨rfl, hb3⟩
  have HX3 := Lib.hid (HasF HX2.out hb3)
  have HS3 := Lib.hid (HS2.out.below hb3)
  have HB3 := Lib.hid (HB2.out.trans (hb3.mono HB2.out.size))
  clear hb3
  have HC4 := Lib.hid (show Calls Try.prog 35 #[.string (str [110]), .int .u8 110] w3q (BoolOf w3q true) from has_any _ [110] (by decide) 110)
  go_wp2_with fail
  refine HC4.out.mono ?_
  rintro e w4q ⟨rfl, hb4⟩
  have HX4 := Lib.hid (HasF HX3.out hb4)
  have HS4 := Lib.hid (HS3.out.below hb4)
  have HB4 := Lib.hid (HB3.out.trans (hb4.mono HB3.out.size))
  clear hb4
  have g3 := HX4.out.cell 3 rfl
  obtain ⟨b4, hb4⟩ : ∃ b, b = numB f.n := ⟨_, rfl⟩
  have HV4 := Lib.hid hb4
  have HN4 := Lib.hid (rnum_any w4q f.n)
  rw [← hb4] at HN4
  clear hb4
  have HC5 := Lib.hid HN4.out
  go_wp2_with fail
  refine HC5.out.mono ?_
  rintro e w5q ⟨rfl, hb5⟩
  have HX5 := Lib.hid (HasF HX4.out hb5)
  have HS5 := Lib.hid (HS4.out.below hb5)
  have HB5 := Lib.hid (HB4.out.trans (hb5.mono HB4.out.size))
  clear hb5
  cases b4 with
  | false =>
    have HE : Hid (R = 51) := Lib.hid (by rw [HR2.out]; rw [if_pos (by unfold rightV; simp [HKd.out, rcj5 HV4.out.symm])])
    go_wp2
    go_ret
    rw [HE.out]
    exact ⟨rfl, HB5.out⟩
  | true =>
    have HC6 := Lib.hid (show Calls Try.prog 35 #[.string (str [110]), .int .u8 99] w5q (BoolOf w5q false) from has_any _ [110] (by decide) 99)
    go_wp2_with fail
    refine HC6.out.mono ?_
    rintro e w6q ⟨rfl, hb6⟩
    have HX6 := Lib.hid (HasF HX5.out hb6)
    have HS6 := Lib.hid (HS5.out.below hb6)
    have HB6 := Lib.hid (HB5.out.trans (hb6.mono HB5.out.size))
    clear hb6
    have HC7 := Lib.hid (show Calls Try.prog 35 #[.string (str [110]), .int .u8 115] w6q (BoolOf w6q false) from has_any _ [110] (by decide) 115)
    go_wp2_with fail
    refine HC7.out.mono ?_
    rintro e w7q ⟨rfl, hb7⟩
    have HX7 := Lib.hid (HasF HX6.out hb7)
    have HS7 := Lib.hid (HS6.out.below hb7)
    have HB7 := Lib.hid (HB6.out.trans (hb7.mono HB6.out.size))
    clear hb7
    have HC8 := Lib.hid (show Calls Try.prog 35 #[.string (str [110]), .int .u8 101] w7q (BoolOf w7q false) from has_any _ [110] (by decide) 101)
    go_wp2_with fail
    refine HC8.out.mono ?_
    rintro e w8q ⟨rfl, hb8⟩
    have HX8 := Lib.hid (HasF HX7.out hb8)
    have HS8 := Lib.hid (HS7.out.below hb8)
    have HB8 := Lib.hid (HB7.out.trans (hb8.mono HB7.out.size))
    clear hb8
    have g0 := HX8.out.cell 0 rfl
    have g3 := HX8.out.cell 3 rfl
    by_cases c1 : 1152921504606846976 < f.n
    · have zc1 := c1
      have HE : Hid (R = 51) := Lib.hid (by rw [HR2.out]; rw [if_pos (by unfold rightV; simp [HKd.out, rcj6 HV4.out.symm, c1])])
      go_wp2
      go_ret
      rw [HE.out]
      exact ⟨rfl, HB8.out⟩
    have HE : Hid (R = 0) := Lib.hid (by rw [HR2.out]; rw [if_neg (by unfold rightV; simp [HKd.out, rcj6 HV4.out.symm, c1])])
    go_wp2
    go_ret
    rw [HE.out]
    exact ⟨rfl, HB8.out⟩
set_option maxRecDepth 100000 in
set_option maxHeartbeats 4000000 in
theorem rchk_23 (w : World) (f : Fm) (fa : FA) (hk : f.kind = 23) (h : FIn w f fa) : Calls Try.prog 16 #[.agg (fcells f fa).toArray] w (IntOf w (chkF f)) := by
  obtain ⟨dn, cn, sn, w1, xb, R, hc, hR, hw1, hxb, HX1, HB1, HS1, HIt, HKd, HDn, HCn, HR⟩ := rchk_pre w f fa (its := [110]) hk h rfl rfl
  rw [hc, hR]
  clear h hk hc hR
  go_enter Try.func16, Try.ntmps16
  go_upto_region 1 with fail
  rw [← hw1, ← hxb]
  clear hw1 hxb
  have g0 := HX1.out.cell 0 rfl
  go_wp2_with fail
  refine HIt.out.mono ?_
  rintro e w2 ⟨rfl, rfl⟩
  have g6 := HX1.out.cell 6 rfl
  by_cases hbig : 16384 < dn
  · have y1 := rcj1 hbig
    have HE : Hid (R = 52) := Lib.hid (by rw [HR.out, if_pos hbig])
    clear hbig
    go_wp2
    go_ret
    rw [HE.out]
    exact ⟨rfl, HB1.out⟩
  have y1 := rcj2 hbig
  have HR2 : Hid (R = if rightV f = false then 51 else 0) := Lib.hid (by rw [HR.out, if_neg hbig])
  have HLe : Hid (dn ≤ 16384) := Lib.hid (Nat.le_of_not_lt hbig)
  clear hbig
  have HC2 := Lib.hid (show Calls Try.prog 35 #[.string (str [110]), .int .u8 105] w2 (BoolOf w2 false) from has_any _ [110] (by decide) 105)
  go_wp2_with fail
  refine HC2.out.mono ?_
  rintro e w2q ⟨rfl, hb2⟩
  have HX2 := Lib.hid (HasF HX1.out hb2)
  have HS2 := Lib.hid (HS1.out.below hb2)
  have HB2 := Lib.hid (HB1.out.trans (hb2.mono HB1.out.size))
  clear hb2
  have HC3 := Lib.hid (show Calls Try.prog 35 #[.string (str [110]), .int .u8 97] w2q (BoolOf w2q false) from has_any _ [110] (by decide) 97)
  go_wp2_with fail
  refine HC3.out.mono ?_
  rintro e w3q ⟨rfl, hb3⟩
  have HX3 := Lib.hid (HasF HX2.out hb3)
  have HS3 := Lib.hid (HS2.out.below hb3)
  have HB3 := Lib.hid (HB2.out.trans (hb3.mono HB2.out.size))
  clear hb3
  have HC4 := Lib.hid (show Calls Try.prog 35 #[.string (str [110]), .int .u8 110] w3q (BoolOf w3q true) from has_any _ [110] (by decide) 110)
  go_wp2_with fail
  refine HC4.out.mono ?_
  rintro e w4q ⟨rfl, hb4⟩
  have HX4 := Lib.hid (HasF HX3.out hb4)
  have HS4 := Lib.hid (HS3.out.below hb4)
  have HB4 := Lib.hid (HB3.out.trans (hb4.mono HB3.out.size))
  clear hb4
  have g3 := HX4.out.cell 3 rfl
  obtain ⟨b4, hb4⟩ : ∃ b, b = numB f.n := ⟨_, rfl⟩
  have HV4 := Lib.hid hb4
  have HN4 := Lib.hid (rnum_any w4q f.n)
  rw [← hb4] at HN4
  clear hb4
  have HC5 := Lib.hid HN4.out
  go_wp2_with fail
  refine HC5.out.mono ?_
  rintro e w5q ⟨rfl, hb5⟩
  have HX5 := Lib.hid (HasF HX4.out hb5)
  have HS5 := Lib.hid (HS4.out.below hb5)
  have HB5 := Lib.hid (HB4.out.trans (hb5.mono HB4.out.size))
  clear hb5
  cases b4 with
  | false =>
    have HE : Hid (R = 51) := Lib.hid (by rw [HR2.out]; rw [if_pos (by unfold rightV; simp [HKd.out, rcj5 HV4.out.symm])])
    go_wp2
    go_ret
    rw [HE.out]
    exact ⟨rfl, HB5.out⟩
  | true =>
    have HC6 := Lib.hid (show Calls Try.prog 35 #[.string (str [110]), .int .u8 99] w5q (BoolOf w5q false) from has_any _ [110] (by decide) 99)
    go_wp2_with fail
    refine HC6.out.mono ?_
    rintro e w6q ⟨rfl, hb6⟩
    have HX6 := Lib.hid (HasF HX5.out hb6)
    have HS6 := Lib.hid (HS5.out.below hb6)
    have HB6 := Lib.hid (HB5.out.trans (hb6.mono HB5.out.size))
    clear hb6
    have HC7 := Lib.hid (show Calls Try.prog 35 #[.string (str [110]), .int .u8 115] w6q (BoolOf w6q false) from has_any _ [110] (by decide) 115)
    go_wp2_with fail
    refine HC7.out.mono ?_
    rintro e w7q ⟨rfl, hb7⟩
    have HX7 := Lib.hid (HasF HX6.out hb7)
    have HS7 := Lib.hid (HS6.out.below hb7)
    have HB7 := Lib.hid (HB6.out.trans (hb7.mono HB6.out.size))
    clear hb7
    have HC8 := Lib.hid (show Calls Try.prog 35 #[.string (str [110]), .int .u8 101] w7q (BoolOf w7q false) from has_any _ [110] (by decide) 101)
    go_wp2_with fail
    refine HC8.out.mono ?_
    rintro e w8q ⟨rfl, hb8⟩
    have HX8 := Lib.hid (HasF HX7.out hb8)
    have HS8 := Lib.hid (HS7.out.below hb8)
    have HB8 := Lib.hid (HB7.out.trans (hb8.mono HB7.out.size))
    clear hb8
    have g0 := HX8.out.cell 0 rfl
    have g3 := HX8.out.cell 3 rfl
    by_cases c1 : 1152921504606846976 < f.n
    · have zc1 := c1
      have HE : Hid (R = 51) := Lib.hid (by rw [HR2.out]; rw [if_pos (by unfold rightV; simp [HKd.out, rcj6 HV4.out.symm, c1])])
      go_wp2
      go_ret
      rw [HE.out]
      exact ⟨rfl, HB8.out⟩
    have HE : Hid (R = 0) := Lib.hid (by rw [HR2.out]; rw [if_neg (by unfold rightV; simp [HKd.out, rcj6 HV4.out.symm, c1])])
    go_wp2
    go_ret
    rw [HE.out]
    exact ⟨rfl, HB8.out⟩
set_option maxRecDepth 100000 in
set_option maxHeartbeats 4000000 in
theorem rchk_24 (w : World) (f : Fm) (fa : FA) (hk : f.kind = 24) (h : FIn w f fa) : Calls Try.prog 16 #[.agg (fcells f fa).toArray] w (IntOf w (chkF f)) := by
  obtain ⟨dn, cn, sn, w1, xb, R, hc, hR, hw1, hxb, HX1, HB1, HS1, HIt, HKd, HDn, HCn, HR⟩ := rchk_pre w f fa (its := [110, 97, 107, 116]) hk h rfl rfl
  rw [hc, hR]
  clear h hk hc hR
  go_enter Try.func16, Try.ntmps16
  go_upto_region 1 with fail
  rw [← hw1, ← hxb]
  clear hw1 hxb
  have g0 := HX1.out.cell 0 rfl
  go_wp2_with fail
  refine HIt.out.mono ?_
  rintro e w2 ⟨rfl, rfl⟩
  have g6 := HX1.out.cell 6 rfl
  by_cases hbig : 16384 < dn
  · have y1 := rcj1 hbig
    have HE : Hid (R = 52) := Lib.hid (by rw [HR.out, if_pos hbig])
    clear hbig
    go_wp2
    go_ret
    rw [HE.out]
    exact ⟨rfl, HB1.out⟩
  have y1 := rcj2 hbig
  have HR2 : Hid (R = if rightV f = false then 51 else 0) := Lib.hid (by rw [HR.out, if_neg hbig])
  have HLe : Hid (dn ≤ 16384) := Lib.hid (Nat.le_of_not_lt hbig)
  clear hbig
  have HC2 := Lib.hid (show Calls Try.prog 35 #[.string (str [110, 97, 107, 116]), .int .u8 105] w2 (BoolOf w2 false) from has_any _ [110, 97, 107, 116] (by decide) 105)
  go_wp2_with fail
  refine HC2.out.mono ?_
  rintro e w2q ⟨rfl, hb2⟩
  have HX2 := Lib.hid (HasF HX1.out hb2)
  have HS2 := Lib.hid (HS1.out.below hb2)
  have HB2 := Lib.hid (HB1.out.trans (hb2.mono HB1.out.size))
  clear hb2
  have HC3 := Lib.hid (show Calls Try.prog 35 #[.string (str [110, 97, 107, 116]), .int .u8 97] w2q (BoolOf w2q true) from has_any _ [110, 97, 107, 116] (by decide) 97)
  go_wp2_with fail
  refine HC3.out.mono ?_
  rintro e w3q ⟨rfl, hb3⟩
  have HX3 := Lib.hid (HasF HX2.out hb3)
  have HS3 := Lib.hid (HS2.out.below hb3)
  have HB3 := Lib.hid (HB2.out.trans (hb3.mono HB2.out.size))
  clear hb3
  have g2 := HX3.out.cell 2 rfl
  obtain ⟨b3, hb3⟩ : ∃ b, b = numB f.at_ := ⟨_, rfl⟩
  have HV3 := Lib.hid hb3
  have HN3 := Lib.hid (rnum_any w3q f.at_)
  rw [← hb3] at HN3
  clear hb3
  have HC4 := Lib.hid HN3.out
  go_wp2_with fail
  refine HC4.out.mono ?_
  rintro e w4q ⟨rfl, hb4⟩
  have HX4 := Lib.hid (HasF HX3.out hb4)
  have HS4 := Lib.hid (HS3.out.below hb4)
  have HB4 := Lib.hid (HB3.out.trans (hb4.mono HB3.out.size))
  clear hb4
  cases b3 with
  | false =>
    have HE : Hid (R = 51) := Lib.hid (by rw [HR2.out]; rw [if_pos (by unfold rightV; simp [HKd.out, HV3.out.symm])])
    go_wp2
    go_ret
    rw [HE.out]
    exact ⟨rfl, HB4.out⟩
  | true =>
    have HC5 := Lib.hid (show Calls Try.prog 35 #[.string (str [110, 97, 107, 116]), .int .u8 110] w4q (BoolOf w4q true) from has_any _ [110, 97, 107, 116] (by decide) 110)
    go_wp2_with fail
    refine HC5.out.mono ?_
    rintro e w5q ⟨rfl, hb5⟩
    have HX5 := Lib.hid (HasF HX4.out hb5)
    have HS5 := Lib.hid (HS4.out.below hb5)
    have HB5 := Lib.hid (HB4.out.trans (hb5.mono HB4.out.size))
    clear hb5
    have g3 := HX5.out.cell 3 rfl
    obtain ⟨b5, hb5⟩ : ∃ b, b = numB f.n := ⟨_, rfl⟩
    have HV5 := Lib.hid hb5
    have HN5 := Lib.hid (rnum_any w5q f.n)
    rw [← hb5] at HN5
    clear hb5
    have HC6 := Lib.hid HN5.out
    go_wp2_with fail
    refine HC6.out.mono ?_
    rintro e w6q ⟨rfl, hb6⟩
    have HX6 := Lib.hid (HasF HX5.out hb6)
    have HS6 := Lib.hid (HS5.out.below hb6)
    have HB6 := Lib.hid (HB5.out.trans (hb6.mono HB5.out.size))
    clear hb6
    cases b5 with
    | false =>
      have HE : Hid (R = 51) := Lib.hid (by rw [HR2.out]; rw [if_pos (by unfold rightV; simp [HKd.out, HV3.out.symm, HV5.out.symm])])
      go_wp2
      go_ret
      rw [HE.out]
      exact ⟨rfl, HB6.out⟩
    | true =>
      have HC7 := Lib.hid (show Calls Try.prog 35 #[.string (str [110, 97, 107, 116]), .int .u8 99] w6q (BoolOf w6q false) from has_any _ [110, 97, 107, 116] (by decide) 99)
      go_wp2_with fail
      refine HC7.out.mono ?_
      rintro e w7q ⟨rfl, hb7⟩
      have HX7 := Lib.hid (HasF HX6.out hb7)
      have HS7 := Lib.hid (HS6.out.below hb7)
      have HB7 := Lib.hid (HB6.out.trans (hb7.mono HB6.out.size))
      clear hb7
      have HC8 := Lib.hid (show Calls Try.prog 35 #[.string (str [110, 97, 107, 116]), .int .u8 115] w7q (BoolOf w7q false) from has_any _ [110, 97, 107, 116] (by decide) 115)
      go_wp2_with fail
      refine HC8.out.mono ?_
      rintro e w8q ⟨rfl, hb8⟩
      have HX8 := Lib.hid (HasF HX7.out hb8)
      have HS8 := Lib.hid (HS7.out.below hb8)
      have HB8 := Lib.hid (HB7.out.trans (hb8.mono HB7.out.size))
      clear hb8
      have HC9 := Lib.hid (show Calls Try.prog 35 #[.string (str [110, 97, 107, 116]), .int .u8 101] w8q (BoolOf w8q false) from has_any _ [110, 97, 107, 116] (by decide) 101)
      go_wp2_with fail
      refine HC9.out.mono ?_
      rintro e w9q ⟨rfl, hb9⟩
      have HX9 := Lib.hid (HasF HX8.out hb9)
      have HS9 := Lib.hid (HS8.out.below hb9)
      have HB9 := Lib.hid (HB8.out.trans (hb9.mono HB8.out.size))
      clear hb9
      have g0 := HX9.out.cell 0 rfl
      have g2 := HX9.out.cell 2 rfl
      have g3 := HX9.out.cell 3 rfl
      have g6 := HX9.out.cell 6 rfl
      have g7 := HX9.out.cell 7 rfl
      by_cases c1 : f.n < f.at_
      · have zc1 := c1
        have HE : Hid (R = 51) := Lib.hid (by rw [HR2.out]; rw [if_pos (by unfold rightV; simp [HKd.out, HV3.out.symm, HV5.out.symm, Int.not_le.2 c1])])
        go_wp2
        go_ret
        rw [HE.out]
        exact ⟨rfl, HB9.out⟩
      have z1f : (f.n < f.at_) = False := eq_false c1
      by_cases c2 : cn < 1
      · have zc2 : (cn : Int) < 1 := by omega
        have HQc2 := Lib.hid c2
        rw [HCn.out] at HQc2
        have HE : Hid (R = 51) := Lib.hid (by rw [HR2.out]; rw [if_pos (by unfold rightV; simp [HKd.out, HV3.out.symm, HV5.out.symm, Int.not_lt.1 c1, Nat.not_le.2 HQc2.out])])
        go_wp2
        go_ret
        rw [HE.out]
        exact ⟨rfl, HB9.out⟩
      have zc2 : ((cn : Int) < 1) = False := eq_false (by omega)
      have HQc2 := Lib.hid c2
      rw [HCn.out] at HQc2
      by_cases c3 : 20 < cn
      · have zc3 : (20 : Int) < (cn : Int) := by omega
        have HQc3 := Lib.hid c3
        rw [HCn.out] at HQc3
        have HE : Hid (R = 51) := Lib.hid (by rw [HR2.out]; rw [if_pos (by unfold rightV; simp [HKd.out, HV3.out.symm, HV5.out.symm, Int.not_lt.1 c1, Nat.not_lt.1 HQc2.out, Nat.not_le.2 HQc3.out])])
        go_wp2
        go_ret
        rw [HE.out]
        exact ⟨rfl, HB9.out⟩
      have zc3 : ((20 : Int) < (cn : Int)) = False := eq_false (by omega)
      have HQc3 := Lib.hid c3
      rw [HCn.out] at HQc3
      have g6 := HX9.out.cell 6 rfl
      by_cases c9 : ¬ dn = 16
      · have z9 : ((dn : Int) == 16) = false := by simp; omega
        have z8 : ¬ (dn : Int) = 16 := by omega
        have HQ9 := Lib.hid c9
        rw [HDn.out] at HQ9
        have HE : Hid (R = 51) := Lib.hid (by rw [HR2.out]; rw [if_pos (by unfold rightV; simp [HKd.out, HV3.out.symm, HV5.out.symm, Int.not_lt.1 c1, Nat.not_lt.1 HQc2.out, Nat.not_lt.1 HQc3.out, HQ9.out])])
        go_wp2
        go_ret
        rw [HE.out]
        exact ⟨rfl, HB9.out⟩
      have c9 := Decidable.not_not.1 c9
      have HQ9 : Hid (f.data.length = 16) := Lib.hid (by rw [← HDn.out]; exact c9)
      have z9 : ((dn : Int) == 16) = true := by simp [c9]
      have z8 : (dn : Int) = 16 := by omega
      have z7 : ((dn : Int) != 16) = false := by simp [c9]
      have HE : Hid (R = 0) := Lib.hid (by rw [HR2.out]; rw [if_neg (by unfold rightV; simp [HKd.out, HV3.out.symm, HV5.out.symm, Int.not_lt.1 c1, Nat.not_lt.1 HQc2.out, Nat.not_lt.1 HQc3.out, HQ9.out])])
      go_wp2
      go_ret
      rw [HE.out]
      exact ⟨rfl, HB9.out⟩
set_option maxRecDepth 100000 in
set_option maxHeartbeats 4000000 in
theorem rchk_25 (w : World) (f : Fm) (fa : FA) (hk : f.kind = 25) (h : FIn w f fa) : Calls Try.prog 16 #[.agg (fcells f fa).toArray] w (IntOf w (chkF f)) := by
  obtain ⟨dn, cn, sn, w1, xb, R, hc, hR, hw1, hxb, HX1, HB1, HS1, HIt, HKd, HDn, HCn, HR⟩ := rchk_pre w f fa (its := [110]) hk h rfl rfl
  rw [hc, hR]
  clear h hk hc hR
  go_enter Try.func16, Try.ntmps16
  go_upto_region 1 with fail
  rw [← hw1, ← hxb]
  clear hw1 hxb
  have g0 := HX1.out.cell 0 rfl
  go_wp2_with fail
  refine HIt.out.mono ?_
  rintro e w2 ⟨rfl, rfl⟩
  have g6 := HX1.out.cell 6 rfl
  by_cases hbig : 16384 < dn
  · have y1 := rcj1 hbig
    have HE : Hid (R = 52) := Lib.hid (by rw [HR.out, if_pos hbig])
    clear hbig
    go_wp2
    go_ret
    rw [HE.out]
    exact ⟨rfl, HB1.out⟩
  have y1 := rcj2 hbig
  have HR2 : Hid (R = if rightV f = false then 51 else 0) := Lib.hid (by rw [HR.out, if_neg hbig])
  have HLe : Hid (dn ≤ 16384) := Lib.hid (Nat.le_of_not_lt hbig)
  clear hbig
  have HC2 := Lib.hid (show Calls Try.prog 35 #[.string (str [110]), .int .u8 105] w2 (BoolOf w2 false) from has_any _ [110] (by decide) 105)
  go_wp2_with fail
  refine HC2.out.mono ?_
  rintro e w2q ⟨rfl, hb2⟩
  have HX2 := Lib.hid (HasF HX1.out hb2)
  have HS2 := Lib.hid (HS1.out.below hb2)
  have HB2 := Lib.hid (HB1.out.trans (hb2.mono HB1.out.size))
  clear hb2
  have HC3 := Lib.hid (show Calls Try.prog 35 #[.string (str [110]), .int .u8 97] w2q (BoolOf w2q false) from has_any _ [110] (by decide) 97)
  go_wp2_with fail
  refine HC3.out.mono ?_
  rintro e w3q ⟨rfl, hb3⟩
  have HX3 := Lib.hid (HasF HX2.out hb3)
  have HS3 := Lib.hid (HS2.out.below hb3)
  have HB3 := Lib.hid (HB2.out.trans (hb3.mono HB2.out.size))
  clear hb3
  have HC4 := Lib.hid (show Calls Try.prog 35 #[.string (str [110]), .int .u8 110] w3q (BoolOf w3q true) from has_any _ [110] (by decide) 110)
  go_wp2_with fail
  refine HC4.out.mono ?_
  rintro e w4q ⟨rfl, hb4⟩
  have HX4 := Lib.hid (HasF HX3.out hb4)
  have HS4 := Lib.hid (HS3.out.below hb4)
  have HB4 := Lib.hid (HB3.out.trans (hb4.mono HB3.out.size))
  clear hb4
  have g3 := HX4.out.cell 3 rfl
  obtain ⟨b4, hb4⟩ : ∃ b, b = numB f.n := ⟨_, rfl⟩
  have HV4 := Lib.hid hb4
  have HN4 := Lib.hid (rnum_any w4q f.n)
  rw [← hb4] at HN4
  clear hb4
  have HC5 := Lib.hid HN4.out
  go_wp2_with fail
  refine HC5.out.mono ?_
  rintro e w5q ⟨rfl, hb5⟩
  have HX5 := Lib.hid (HasF HX4.out hb5)
  have HS5 := Lib.hid (HS4.out.below hb5)
  have HB5 := Lib.hid (HB4.out.trans (hb5.mono HB4.out.size))
  clear hb5
  cases b4 with
  | false =>
    have HE : Hid (R = 51) := Lib.hid (by rw [HR2.out]; rw [if_pos (by unfold rightV; simp [HKd.out, HV4.out.symm])])
    go_wp2
    go_ret
    rw [HE.out]
    exact ⟨rfl, HB5.out⟩
  | true =>
    have HC6 := Lib.hid (show Calls Try.prog 35 #[.string (str [110]), .int .u8 99] w5q (BoolOf w5q false) from has_any _ [110] (by decide) 99)
    go_wp2_with fail
    refine HC6.out.mono ?_
    rintro e w6q ⟨rfl, hb6⟩
    have HX6 := Lib.hid (HasF HX5.out hb6)
    have HS6 := Lib.hid (HS5.out.below hb6)
    have HB6 := Lib.hid (HB5.out.trans (hb6.mono HB5.out.size))
    clear hb6
    have HC7 := Lib.hid (show Calls Try.prog 35 #[.string (str [110]), .int .u8 115] w6q (BoolOf w6q false) from has_any _ [110] (by decide) 115)
    go_wp2_with fail
    refine HC7.out.mono ?_
    rintro e w7q ⟨rfl, hb7⟩
    have HX7 := Lib.hid (HasF HX6.out hb7)
    have HS7 := Lib.hid (HS6.out.below hb7)
    have HB7 := Lib.hid (HB6.out.trans (hb7.mono HB6.out.size))
    clear hb7
    have HC8 := Lib.hid (show Calls Try.prog 35 #[.string (str [110]), .int .u8 101] w7q (BoolOf w7q false) from has_any _ [110] (by decide) 101)
    go_wp2_with fail
    refine HC8.out.mono ?_
    rintro e w8q ⟨rfl, hb8⟩
    have HX8 := Lib.hid (HasF HX7.out hb8)
    have HS8 := Lib.hid (HS7.out.below hb8)
    have HB8 := Lib.hid (HB7.out.trans (hb8.mono HB7.out.size))
    clear hb8
    have g0 := HX8.out.cell 0 rfl
    have HE : Hid (R = 0) := Lib.hid (by rw [HR2.out]; rw [if_neg (by unfold rightV; simp [HKd.out, HV4.out.symm])])
    go_wp2
    go_ret
    rw [HE.out]
    exact ⟨rfl, HB8.out⟩
set_option maxRecDepth 100000 in
set_option maxHeartbeats 4000000 in
theorem rchk_26 (w : World) (f : Fm) (fa : FA) (hk : f.kind = 26) (h : FIn w f fa) : Calls Try.prog 16 #[.agg (fcells f fa).toArray] w (IntOf w (chkF f)) := by
  obtain ⟨dn, cn, sn, w1, xb, R, hc, hR, hw1, hxb, HX1, HB1, HS1, HIt, HKd, HDn, HCn, HR⟩ := rchk_pre w f fa (its := [112]) hk h rfl rfl
  rw [hc, hR]
  clear h hk hc hR
  go_enter Try.func16, Try.ntmps16
  go_upto_region 1 with fail
  rw [← hw1, ← hxb]
  clear hw1 hxb
  have g0 := HX1.out.cell 0 rfl
  go_wp2_with fail
  refine HIt.out.mono ?_
  rintro e w2 ⟨rfl, rfl⟩
  have g6 := HX1.out.cell 6 rfl
  by_cases hbig : 16384 < dn
  · have y1 := rcj1 hbig
    have HE : Hid (R = 52) := Lib.hid (by rw [HR.out, if_pos hbig])
    clear hbig
    go_wp2
    go_ret
    rw [HE.out]
    exact ⟨rfl, HB1.out⟩
  have y1 := rcj2 hbig
  have HR2 : Hid (R = if rightV f = false then 51 else 0) := Lib.hid (by rw [HR.out, if_neg hbig])
  have HLe : Hid (dn ≤ 16384) := Lib.hid (Nat.le_of_not_lt hbig)
  clear hbig
  have HC2 := Lib.hid (show Calls Try.prog 35 #[.string (str [112]), .int .u8 105] w2 (BoolOf w2 false) from has_any _ [112] (by decide) 105)
  go_wp2_with fail
  refine HC2.out.mono ?_
  rintro e w2q ⟨rfl, hb2⟩
  have HX2 := Lib.hid (HasF HX1.out hb2)
  have HS2 := Lib.hid (HS1.out.below hb2)
  have HB2 := Lib.hid (HB1.out.trans (hb2.mono HB1.out.size))
  clear hb2
  have HC3 := Lib.hid (show Calls Try.prog 35 #[.string (str [112]), .int .u8 97] w2q (BoolOf w2q false) from has_any _ [112] (by decide) 97)
  go_wp2_with fail
  refine HC3.out.mono ?_
  rintro e w3q ⟨rfl, hb3⟩
  have HX3 := Lib.hid (HasF HX2.out hb3)
  have HS3 := Lib.hid (HS2.out.below hb3)
  have HB3 := Lib.hid (HB2.out.trans (hb3.mono HB2.out.size))
  clear hb3
  have HC4 := Lib.hid (show Calls Try.prog 35 #[.string (str [112]), .int .u8 110] w3q (BoolOf w3q false) from has_any _ [112] (by decide) 110)
  go_wp2_with fail
  refine HC4.out.mono ?_
  rintro e w4q ⟨rfl, hb4⟩
  have HX4 := Lib.hid (HasF HX3.out hb4)
  have HS4 := Lib.hid (HS3.out.below hb4)
  have HB4 := Lib.hid (HB3.out.trans (hb4.mono HB3.out.size))
  clear hb4
  have HC5 := Lib.hid (show Calls Try.prog 35 #[.string (str [112]), .int .u8 99] w4q (BoolOf w4q false) from has_any _ [112] (by decide) 99)
  go_wp2_with fail
  refine HC5.out.mono ?_
  rintro e w5q ⟨rfl, hb5⟩
  have HX5 := Lib.hid (HasF HX4.out hb5)
  have HS5 := Lib.hid (HS4.out.below hb5)
  have HB5 := Lib.hid (HB4.out.trans (hb5.mono HB4.out.size))
  clear hb5
  have HC6 := Lib.hid (show Calls Try.prog 35 #[.string (str [112]), .int .u8 115] w5q (BoolOf w5q false) from has_any _ [112] (by decide) 115)
  go_wp2_with fail
  refine HC6.out.mono ?_
  rintro e w6q ⟨rfl, hb6⟩
  have HX6 := Lib.hid (HasF HX5.out hb6)
  have HS6 := Lib.hid (HS5.out.below hb6)
  have HB6 := Lib.hid (HB5.out.trans (hb6.mono HB5.out.size))
  clear hb6
  have HC7 := Lib.hid (show Calls Try.prog 35 #[.string (str [112]), .int .u8 101] w6q (BoolOf w6q false) from has_any _ [112] (by decide) 101)
  go_wp2_with fail
  refine HC7.out.mono ?_
  rintro e w7q ⟨rfl, hb7⟩
  have HX7 := Lib.hid (HasF HX6.out hb7)
  have HS7 := Lib.hid (HS6.out.below hb7)
  have HB7 := Lib.hid (HB6.out.trans (hb7.mono HB6.out.size))
  clear hb7
  have g0 := HX7.out.cell 0 rfl
  have g6 := HX7.out.cell 6 rfl
  by_cases c9 : ¬ dn = 8
  · have z9 : ((dn : Int) == 8) = false := by simp; omega
    have z8 : ¬ (dn : Int) = 8 := by omega
    have HQ9 := Lib.hid c9
    rw [HDn.out] at HQ9
    have HE : Hid (R = 51) := Lib.hid (by rw [HR2.out]; rw [if_pos (by unfold rightV; simp [HKd.out, HQ9.out])])
    go_wp2
    go_ret
    rw [HE.out]
    exact ⟨rfl, HB7.out⟩
  have c9 := Decidable.not_not.1 c9
  have HQ9 : Hid (f.data.length = 8) := Lib.hid (by rw [← HDn.out]; exact c9)
  have z9 : ((dn : Int) == 8) = true := by simp [c9]
  have z8 : (dn : Int) = 8 := by omega
  have z7 : ((dn : Int) != 8) = false := by simp [c9]
  have HE : Hid (R = 0) := Lib.hid (by rw [HR2.out]; rw [if_neg (by unfold rightV; simp [HKd.out, HQ9.out])])
  go_wp2
  go_ret
  rw [HE.out]
  exact ⟨rfl, HB7.out⟩
set_option maxRecDepth 100000 in
set_option maxHeartbeats 4000000 in
theorem rchk_27 (w : World) (f : Fm) (fa : FA) (hk : f.kind = 27) (h : FIn w f fa) : Calls Try.prog 16 #[.agg (fcells f fa).toArray] w (IntOf w (chkF f)) := by
  obtain ⟨dn, cn, sn, w1, xb, R, hc, hR, hw1, hxb, HX1, HB1, HS1, HIt, HKd, HDn, HCn, HR⟩ := rchk_pre w f fa (its := [112]) hk h rfl rfl
  rw [hc, hR]
  clear h hk hc hR
  go_enter Try.func16, Try.ntmps16
  go_upto_region 1 with fail
  rw [← hw1, ← hxb]
  clear hw1 hxb
  have g0 := HX1.out.cell 0 rfl
  go_wp2_with fail
  refine HIt.out.mono ?_
  rintro e w2 ⟨rfl, rfl⟩
  have g6 := HX1.out.cell 6 rfl
  by_cases hbig : 16384 < dn
  · have y1 := rcj1 hbig
    have HE : Hid (R = 52) := Lib.hid (by rw [HR.out, if_pos hbig])
    clear hbig
    go_wp2
    go_ret
    rw [HE.out]
    exact ⟨rfl, HB1.out⟩
  have y1 := rcj2 hbig
  have HR2 : Hid (R = if rightV f = false then 51 else 0) := Lib.hid (by rw [HR.out, if_neg hbig])
  have HLe : Hid (dn ≤ 16384) := Lib.hid (Nat.le_of_not_lt hbig)
  clear hbig
  have HC2 := Lib.hid (show Calls Try.prog 35 #[.string (str [112]), .int .u8 105] w2 (BoolOf w2 false) from has_any _ [112] (by decide) 105)
  go_wp2_with fail
  refine HC2.out.mono ?_
  rintro e w2q ⟨rfl, hb2⟩
  have HX2 := Lib.hid (HasF HX1.out hb2)
  have HS2 := Lib.hid (HS1.out.below hb2)
  have HB2 := Lib.hid (HB1.out.trans (hb2.mono HB1.out.size))
  clear hb2
  have HC3 := Lib.hid (show Calls Try.prog 35 #[.string (str [112]), .int .u8 97] w2q (BoolOf w2q false) from has_any _ [112] (by decide) 97)
  go_wp2_with fail
  refine HC3.out.mono ?_
  rintro e w3q ⟨rfl, hb3⟩
  have HX3 := Lib.hid (HasF HX2.out hb3)
  have HS3 := Lib.hid (HS2.out.below hb3)
  have HB3 := Lib.hid (HB2.out.trans (hb3.mono HB2.out.size))
  clear hb3
  have HC4 := Lib.hid (show Calls Try.prog 35 #[.string (str [112]), .int .u8 110] w3q (BoolOf w3q false) from has_any _ [112] (by decide) 110)
  go_wp2_with fail
  refine HC4.out.mono ?_
  rintro e w4q ⟨rfl, hb4⟩
  have HX4 := Lib.hid (HasF HX3.out hb4)
  have HS4 := Lib.hid (HS3.out.below hb4)
  have HB4 := Lib.hid (HB3.out.trans (hb4.mono HB3.out.size))
  clear hb4
  have HC5 := Lib.hid (show Calls Try.prog 35 #[.string (str [112]), .int .u8 99] w4q (BoolOf w4q false) from has_any _ [112] (by decide) 99)
  go_wp2_with fail
  refine HC5.out.mono ?_
  rintro e w5q ⟨rfl, hb5⟩
  have HX5 := Lib.hid (HasF HX4.out hb5)
  have HS5 := Lib.hid (HS4.out.below hb5)
  have HB5 := Lib.hid (HB4.out.trans (hb5.mono HB4.out.size))
  clear hb5
  have HC6 := Lib.hid (show Calls Try.prog 35 #[.string (str [112]), .int .u8 115] w5q (BoolOf w5q false) from has_any _ [112] (by decide) 115)
  go_wp2_with fail
  refine HC6.out.mono ?_
  rintro e w6q ⟨rfl, hb6⟩
  have HX6 := Lib.hid (HasF HX5.out hb6)
  have HS6 := Lib.hid (HS5.out.below hb6)
  have HB6 := Lib.hid (HB5.out.trans (hb6.mono HB5.out.size))
  clear hb6
  have HC7 := Lib.hid (show Calls Try.prog 35 #[.string (str [112]), .int .u8 101] w6q (BoolOf w6q false) from has_any _ [112] (by decide) 101)
  go_wp2_with fail
  refine HC7.out.mono ?_
  rintro e w7q ⟨rfl, hb7⟩
  have HX7 := Lib.hid (HasF HX6.out hb7)
  have HS7 := Lib.hid (HS6.out.below hb7)
  have HB7 := Lib.hid (HB6.out.trans (hb7.mono HB6.out.size))
  clear hb7
  have g0 := HX7.out.cell 0 rfl
  have g6 := HX7.out.cell 6 rfl
  by_cases c9 : ¬ dn = 8
  · have z9 : ((dn : Int) == 8) = false := by simp; omega
    have z8 : ¬ (dn : Int) = 8 := by omega
    have HQ9 := Lib.hid c9
    rw [HDn.out] at HQ9
    have HE : Hid (R = 51) := Lib.hid (by rw [HR2.out]; rw [if_pos (by unfold rightV; simp [HKd.out, HQ9.out])])
    go_wp2
    go_ret
    rw [HE.out]
    exact ⟨rfl, HB7.out⟩
  have c9 := Decidable.not_not.1 c9
  have HQ9 : Hid (f.data.length = 8) := Lib.hid (by rw [← HDn.out]; exact c9)
  have z9 : ((dn : Int) == 8) = true := by simp [c9]
  have z8 : (dn : Int) = 8 := by omega
  have z7 : ((dn : Int) != 8) = false := by simp [c9]
  have HE : Hid (R = 0) := Lib.hid (by rw [HR2.out]; rw [if_neg (by unfold rightV; simp [HKd.out, HQ9.out])])
  go_wp2
  go_ret
  rw [HE.out]
  exact ⟨rfl, HB7.out⟩
set_option maxRecDepth 100000 in
set_option maxHeartbeats 4000000 in
theorem rchk_28 (w : World) (f : Fm) (fa : FA) (hk : f.kind = 28) (h : FIn w f fa) : Calls Try.prog 16 #[.agg (fcells f fa).toArray] w (IntOf w (chkF f)) := by
  obtain ⟨dn, cn, sn, w1, xb, R, hc, hR, hw1, hxb, HX1, HB1, HS1, HIt, HKd, HDn, HCn, HR⟩ := rchk_pre w f fa (its := [99, 110, 100]) hk h rfl rfl
  rw [hc, hR]
  clear h hk hc hR
  go_enter Try.func16, Try.ntmps16
  go_upto_region 1 with fail
  rw [← hw1, ← hxb]
  clear hw1 hxb
  have g0 := HX1.out.cell 0 rfl
  go_wp2_with fail
  refine HIt.out.mono ?_
  rintro e w2 ⟨rfl, rfl⟩
  have g6 := HX1.out.cell 6 rfl
  by_cases hbig : 16384 < dn
  · have y1 := rcj1 hbig
    have HE : Hid (R = 52) := Lib.hid (by rw [HR.out, if_pos hbig])
    clear hbig
    go_wp2
    go_ret
    rw [HE.out]
    exact ⟨rfl, HB1.out⟩
  have y1 := rcj2 hbig
  have HR2 : Hid (R = if rightV f = false then 51 else 0) := Lib.hid (by rw [HR.out, if_neg hbig])
  have HLe : Hid (dn ≤ 16384) := Lib.hid (Nat.le_of_not_lt hbig)
  clear hbig
  have HC2 := Lib.hid (show Calls Try.prog 35 #[.string (str [99, 110, 100]), .int .u8 105] w2 (BoolOf w2 false) from has_any _ [99, 110, 100] (by decide) 105)
  go_wp2_with fail
  refine HC2.out.mono ?_
  rintro e w2q ⟨rfl, hb2⟩
  have HX2 := Lib.hid (HasF HX1.out hb2)
  have HS2 := Lib.hid (HS1.out.below hb2)
  have HB2 := Lib.hid (HB1.out.trans (hb2.mono HB1.out.size))
  clear hb2
  have HC3 := Lib.hid (show Calls Try.prog 35 #[.string (str [99, 110, 100]), .int .u8 97] w2q (BoolOf w2q false) from has_any _ [99, 110, 100] (by decide) 97)
  go_wp2_with fail
  refine HC3.out.mono ?_
  rintro e w3q ⟨rfl, hb3⟩
  have HX3 := Lib.hid (HasF HX2.out hb3)
  have HS3 := Lib.hid (HS2.out.below hb3)
  have HB3 := Lib.hid (HB2.out.trans (hb3.mono HB2.out.size))
  clear hb3
  have HC4 := Lib.hid (show Calls Try.prog 35 #[.string (str [99, 110, 100]), .int .u8 110] w3q (BoolOf w3q true) from has_any _ [99, 110, 100] (by decide) 110)
  go_wp2_with fail
  refine HC4.out.mono ?_
  rintro e w4q ⟨rfl, hb4⟩
  have HX4 := Lib.hid (HasF HX3.out hb4)
  have HS4 := Lib.hid (HS3.out.below hb4)
  have HB4 := Lib.hid (HB3.out.trans (hb4.mono HB3.out.size))
  clear hb4
  have g3 := HX4.out.cell 3 rfl
  obtain ⟨b4, hb4⟩ : ∃ b, b = numB f.n := ⟨_, rfl⟩
  have HV4 := Lib.hid hb4
  have HN4 := Lib.hid (rnum_any w4q f.n)
  rw [← hb4] at HN4
  clear hb4
  have HC5 := Lib.hid HN4.out
  go_wp2_with fail
  refine HC5.out.mono ?_
  rintro e w5q ⟨rfl, hb5⟩
  have HX5 := Lib.hid (HasF HX4.out hb5)
  have HS5 := Lib.hid (HS4.out.below hb5)
  have HB5 := Lib.hid (HB4.out.trans (hb5.mono HB4.out.size))
  clear hb5
  cases b4 with
  | false =>
    have HE : Hid (R = 51) := Lib.hid (by rw [HR2.out]; rw [if_pos (by unfold rightV; simp [HKd.out, HV4.out.symm])])
    go_wp2
    go_ret
    rw [HE.out]
    exact ⟨rfl, HB5.out⟩
  | true =>
    have HC6 := Lib.hid (show Calls Try.prog 35 #[.string (str [99, 110, 100]), .int .u8 99] w5q (BoolOf w5q true) from has_any _ [99, 110, 100] (by decide) 99)
    go_wp2_with fail
    refine HC6.out.mono ?_
    rintro e w6q ⟨rfl, hb6⟩
    have HX6 := Lib.hid (HasF HX5.out hb6)
    have HS6 := Lib.hid (HS5.out.below hb6)
    have HB6 := Lib.hid (HB5.out.trans (hb6.mono HB5.out.size))
    clear hb6
    have g4 := HX6.out.cell 4 rfl
    obtain ⟨b6, hb6⟩ : ∃ b, b = numB f.code := ⟨_, rfl⟩
    have HV6 := Lib.hid hb6
    have HN6 := Lib.hid (rnum_any w6q f.code)
    rw [← hb6] at HN6
    clear hb6
    have HC7 := Lib.hid HN6.out
    go_wp2_with fail
    refine HC7.out.mono ?_
    rintro e w7q ⟨rfl, hb7⟩
    have HX7 := Lib.hid (HasF HX6.out hb7)
    have HS7 := Lib.hid (HS6.out.below hb7)
    have HB7 := Lib.hid (HB6.out.trans (hb7.mono HB6.out.size))
    clear hb7
    cases b6 with
    | false =>
      have HE : Hid (R = 51) := Lib.hid (by rw [HR2.out]; rw [if_pos (by unfold rightV; simp [HKd.out, HV4.out.symm, HV6.out.symm])])
      go_wp2
      go_ret
      rw [HE.out]
      exact ⟨rfl, HB7.out⟩
    | true =>
      have HC8 := Lib.hid (show Calls Try.prog 35 #[.string (str [99, 110, 100]), .int .u8 115] w7q (BoolOf w7q false) from has_any _ [99, 110, 100] (by decide) 115)
      go_wp2_with fail
      refine HC8.out.mono ?_
      rintro e w8q ⟨rfl, hb8⟩
      have HX8 := Lib.hid (HasF HX7.out hb8)
      have HS8 := Lib.hid (HS7.out.below hb8)
      have HB8 := Lib.hid (HB7.out.trans (hb8.mono HB7.out.size))
      clear hb8
      have HC9 := Lib.hid (show Calls Try.prog 35 #[.string (str [99, 110, 100]), .int .u8 101] w8q (BoolOf w8q false) from has_any _ [99, 110, 100] (by decide) 101)
      go_wp2_with fail
      refine HC9.out.mono ?_
      rintro e w9q ⟨rfl, hb9⟩
      have HX9 := Lib.hid (HasF HX8.out hb9)
      have HS9 := Lib.hid (HS8.out.below hb9)
      have HB9 := Lib.hid (HB8.out.trans (hb9.mono HB8.out.size))
      clear hb9
      have g0 := HX9.out.cell 0 rfl
      have HE : Hid (R = 0) := Lib.hid (by rw [HR2.out]; rw [if_neg (by unfold rightV; simp [HKd.out, HV4.out.symm, HV6.out.symm])])
      go_wp2
      go_ret
      rw [HE.out]
      exact ⟨rfl, HB9.out⟩
set_option maxRecDepth 100000 in
set_option maxHeartbeats 4000000 in
theorem rchk_29 (w : World) (f : Fm) (fa : FA) (hk : f.kind = 29) (h : FIn w f fa) : Calls Try.prog 16 #[.agg (fcells f fa).toArray] w (IntOf w (chkF f)) := by
  obtain ⟨dn, cn, sn, w1, xb, R, hc, hR, hw1, hxb, HX1, HB1, HS1, HIt, HKd, HDn, HCn, HR⟩ := rchk_pre w f fa (its := [99, 100]) hk h rfl rfl
  rw [hc, hR]
  clear h hk hc hR
  go_enter Try.func16, Try.ntmps16
  go_upto_region 1 with fail
  rw [← hw1, ← hxb]
  clear hw1 hxb
  have g0 := HX1.out.cell 0 rfl
  go_wp2_with fail
  refine HIt.out.mono ?_
  rintro e w2 ⟨rfl, rfl⟩
  have g6 := HX1.out.cell 6 rfl
  by_cases hbig : 16384 < dn
  · have y1 := rcj1 hbig
    have HE : Hid (R = 52) := Lib.hid (by rw [HR.out, if_pos hbig])
    clear hbig
    go_wp2
    go_ret
    rw [HE.out]
    exact ⟨rfl, HB1.out⟩
  have y1 := rcj2 hbig
  have HR2 : Hid (R = if rightV f = false then 51 else 0) := Lib.hid (by rw [HR.out, if_neg hbig])
  have HLe : Hid (dn ≤ 16384) := Lib.hid (Nat.le_of_not_lt hbig)
  clear hbig
  have HC2 := Lib.hid (show Calls Try.prog 35 #[.string (str [99, 100]), .int .u8 105] w2 (BoolOf w2 false) from has_any _ [99, 100] (by decide) 105)
  go_wp2_with fail
  refine HC2.out.mono ?_
  rintro e w2q ⟨rfl, hb2⟩
  have HX2 := Lib.hid (HasF HX1.out hb2)
  have HS2 := Lib.hid (HS1.out.below hb2)
  have HB2 := Lib.hid (HB1.out.trans (hb2.mono HB1.out.size))
  clear hb2
  have HC3 := Lib.hid (show Calls Try.prog 35 #[.string (str [99, 100]), .int .u8 97] w2q (BoolOf w2q false) from has_any _ [99, 100] (by decide) 97)
  go_wp2_with fail
  refine HC3.out.mono ?_
  rintro e w3q ⟨rfl, hb3⟩
  have HX3 := Lib.hid (HasF HX2.out hb3)
  have HS3 := Lib.hid (HS2.out.below hb3)
  have HB3 := Lib.hid (HB2.out.trans (hb3.mono HB2.out.size))
  clear hb3
  have HC4 := Lib.hid (show Calls Try.prog 35 #[.string (str [99, 100]), .int .u8 110] w3q (BoolOf w3q false) from has_any _ [99, 100] (by decide) 110)
  go_wp2_with fail
  refine HC4.out.mono ?_
  rintro e w4q ⟨rfl, hb4⟩
  have HX4 := Lib.hid (HasF HX3.out hb4)
  have HS4 := Lib.hid (HS3.out.below hb4)
  have HB4 := Lib.hid (HB3.out.trans (hb4.mono HB3.out.size))
  clear hb4
  have HC5 := Lib.hid (show Calls Try.prog 35 #[.string (str [99, 100]), .int .u8 99] w4q (BoolOf w4q true) from has_any _ [99, 100] (by decide) 99)
  go_wp2_with fail
  refine HC5.out.mono ?_
  rintro e w5q ⟨rfl, hb5⟩
  have HX5 := Lib.hid (HasF HX4.out hb5)
  have HS5 := Lib.hid (HS4.out.below hb5)
  have HB5 := Lib.hid (HB4.out.trans (hb5.mono HB4.out.size))
  clear hb5
  have g4 := HX5.out.cell 4 rfl
  obtain ⟨b5, hb5⟩ : ∃ b, b = numB f.code := ⟨_, rfl⟩
  have HV5 := Lib.hid hb5
  have HN5 := Lib.hid (rnum_any w5q f.code)
  rw [← hb5] at HN5
  clear hb5
  have HC6 := Lib.hid HN5.out
  go_wp2_with fail
  refine HC6.out.mono ?_
  rintro e w6q ⟨rfl, hb6⟩
  have HX6 := Lib.hid (HasF HX5.out hb6)
  have HS6 := Lib.hid (HS5.out.below hb6)
  have HB6 := Lib.hid (HB5.out.trans (hb6.mono HB5.out.size))
  clear hb6
  cases b5 with
  | false =>
    have HE : Hid (R = 51) := Lib.hid (by rw [HR2.out]; rw [if_pos (by unfold rightV; simp [HKd.out, HV5.out.symm])])
    go_wp2
    go_ret
    rw [HE.out]
    exact ⟨rfl, HB6.out⟩
  | true =>
    have HC7 := Lib.hid (show Calls Try.prog 35 #[.string (str [99, 100]), .int .u8 115] w6q (BoolOf w6q false) from has_any _ [99, 100] (by decide) 115)
    go_wp2_with fail
    refine HC7.out.mono ?_
    rintro e w7q ⟨rfl, hb7⟩
    have HX7 := Lib.hid (HasF HX6.out hb7)
    have HS7 := Lib.hid (HS6.out.below hb7)
    have HB7 := Lib.hid (HB6.out.trans (hb7.mono HB6.out.size))
    clear hb7
    have HC8 := Lib.hid (show Calls Try.prog 35 #[.string (str [99, 100]), .int .u8 101] w7q (BoolOf w7q false) from has_any _ [99, 100] (by decide) 101)
    go_wp2_with fail
    refine HC8.out.mono ?_
    rintro e w8q ⟨rfl, hb8⟩
    have HX8 := Lib.hid (HasF HX7.out hb8)
    have HS8 := Lib.hid (HS7.out.below hb8)
    have HB8 := Lib.hid (HB7.out.trans (hb8.mono HB7.out.size))
    clear hb8
    have g0 := HX8.out.cell 0 rfl
    have HE : Hid (R = 0) := Lib.hid (by rw [HR2.out]; rw [if_neg (by unfold rightV; simp [HKd.out, HV5.out.symm])])
    go_wp2
    go_ret
    rw [HE.out]
    exact ⟨rfl, HB8.out⟩
set_option maxRecDepth 100000 in
set_option maxHeartbeats 4000000 in
theorem rchk_30 (w : World) (f : Fm) (fa : FA) (hk : f.kind = 30) (h : FIn w f fa) : Calls Try.prog 16 #[.agg (fcells f fa).toArray] w (IntOf w (chkF f)) := by
  obtain ⟨dn, cn, sn, w1, xb, R, hc, hR, hw1, hxb, HX1, HB1, HS1, HIt, HKd, HDn, HCn, HR⟩ := rchk_pre w f fa (its := []) hk h rfl rfl
  rw [hc, hR]
  clear h hk hc hR
  go_enter Try.func16, Try.ntmps16
  go_upto_region 1 with fail
  rw [← hw1, ← hxb]
  clear hw1 hxb
  have g0 := HX1.out.cell 0 rfl
  go_wp2_with fail
  refine HIt.out.mono ?_
  rintro e w2 ⟨rfl, rfl⟩
  have g6 := HX1.out.cell 6 rfl
  by_cases hbig : 16384 < dn
  · have y1 := rcj1 hbig
    have HE : Hid (R = 52) := Lib.hid (by rw [HR.out, if_pos hbig])
    clear hbig
    go_wp2
    go_ret
    rw [HE.out]
    exact ⟨rfl, HB1.out⟩
  have y1 := rcj2 hbig
  have HR2 : Hid (R = if rightV f = false then 51 else 0) := Lib.hid (by rw [HR.out, if_neg hbig])
  have HLe : Hid (dn ≤ 16384) := Lib.hid (Nat.le_of_not_lt hbig)
  clear hbig
  have HC2 := Lib.hid (show Calls Try.prog 35 #[.string (str []), .int .u8 105] w2 (BoolOf w2 false) from has_any _ [] (by decide) 105)
  go_wp2_with fail
  refine HC2.out.mono ?_
  rintro e w2q ⟨rfl, hb2⟩
  have HX2 := Lib.hid (HasF HX1.out hb2)
  have HS2 := Lib.hid (HS1.out.below hb2)
  have HB2 := Lib.hid (HB1.out.trans (hb2.mono HB1.out.size))
  clear hb2
  have HC3 := Lib.hid (show Calls Try.prog 35 #[.string (str []), .int .u8 97] w2q (BoolOf w2q false) from has_any _ [] (by decide) 97)
  go_wp2_with fail
  refine HC3.out.mono ?_
  rintro e w3q ⟨rfl, hb3⟩
  have HX3 := Lib.hid (HasF HX2.out hb3)
  have HS3 := Lib.hid (HS2.out.below hb3)
  have HB3 := Lib.hid (HB2.out.trans (hb3.mono HB2.out.size))
  clear hb3
  have HC4 := Lib.hid (show Calls Try.prog 35 #[.string (str []), .int .u8 110] w3q (BoolOf w3q false) from has_any _ [] (by decide) 110)
  go_wp2_with fail
  refine HC4.out.mono ?_
  rintro e w4q ⟨rfl, hb4⟩
  have HX4 := Lib.hid (HasF HX3.out hb4)
  have HS4 := Lib.hid (HS3.out.below hb4)
  have HB4 := Lib.hid (HB3.out.trans (hb4.mono HB3.out.size))
  clear hb4
  have HC5 := Lib.hid (show Calls Try.prog 35 #[.string (str []), .int .u8 99] w4q (BoolOf w4q false) from has_any _ [] (by decide) 99)
  go_wp2_with fail
  refine HC5.out.mono ?_
  rintro e w5q ⟨rfl, hb5⟩
  have HX5 := Lib.hid (HasF HX4.out hb5)
  have HS5 := Lib.hid (HS4.out.below hb5)
  have HB5 := Lib.hid (HB4.out.trans (hb5.mono HB4.out.size))
  clear hb5
  have HC6 := Lib.hid (show Calls Try.prog 35 #[.string (str []), .int .u8 115] w5q (BoolOf w5q false) from has_any _ [] (by decide) 115)
  go_wp2_with fail
  refine HC6.out.mono ?_
  rintro e w6q ⟨rfl, hb6⟩
  have HX6 := Lib.hid (HasF HX5.out hb6)
  have HS6 := Lib.hid (HS5.out.below hb6)
  have HB6 := Lib.hid (HB5.out.trans (hb6.mono HB5.out.size))
  clear hb6
  have HC7 := Lib.hid (show Calls Try.prog 35 #[.string (str []), .int .u8 101] w6q (BoolOf w6q false) from has_any _ [] (by decide) 101)
  go_wp2_with fail
  refine HC7.out.mono ?_
  rintro e w7q ⟨rfl, hb7⟩
  have HX7 := Lib.hid (HasF HX6.out hb7)
  have HS7 := Lib.hid (HS6.out.below hb7)
  have HB7 := Lib.hid (HB6.out.trans (hb7.mono HB6.out.size))
  clear hb7
  have g0 := HX7.out.cell 0 rfl
  have HE : Hid (R = 0) := Lib.hid (by rw [HR2.out]; rw [if_neg (by unfold rightV; simp [HKd.out])])
  go_wp2
  go_ret
  rw [HE.out]
  exact ⟨rfl, HB7.out⟩
theorem itm_unk {k : Int} (h : knoF k = false) : itm k = ([], false) := by
  unfold knoF at h
  simp at h
  unfold itm
  repeat (rw [if_neg (by omega)])
set_option maxRecDepth 100000 in
set_option maxHeartbeats 4000000 in
theorem rchk_unk (w : World) (f : Fm) (fa : FA) (hk : knoF f.kind = false) : Calls Try.prog 16 #[.agg (fcells f fa).toArray] w (IntOf w (chkF f)) := by
  obtain ⟨dn, hdn⟩ : ∃ dn, dn = f.data.length := ⟨_, rfl⟩
  obtain ⟨cn, hcn⟩ : ∃ cn, cn = f.cid.length := ⟨_, rfl⟩
  obtain ⟨sn, hsn⟩ : ∃ sn, sn = f.spans.length := ⟨_, rfl⟩
  obtain ⟨kk, hkk⟩ : ∃ kk, kk = f.kind := ⟨_, rfl⟩
  have hc : (fcells f fa).toArray = #[.int .i64 kk, .int .i64 f.id, .int .i64 f.at_, .int .i64 f.n, .int .i64 f.code, .bool f.fin, .slice fa.da dn fa.dc, .slice fa.ca cn fa.cc, .slice fa.sa sn fa.sc, .int .i64 f.delay, .int .i64 f.e0, .int .i64 f.e1, .int .i64 f.e2] := by rw [hdn, hcn, hsn, hkk]; rfl
  rw [hc]
  obtain ⟨w1, hw1⟩ : ∃ w1, w1 = w.alloc (.cells #[.int .i64 kk, .int .i64 f.id, .int .i64 f.at_, .int .i64 f.n, .int .i64 f.code, .bool f.fin, .slice fa.da dn fa.dc, .slice fa.ca cn fa.cc, .slice fa.sa sn fa.sc, .int .i64 f.delay, .int .i64 f.e0, .int .i64 f.e1, .int .i64 f.e2] 34) := ⟨_, rfl⟩
  obtain ⟨xb, hxb⟩ : ∃ xb, xb = w.heap.size := ⟨_, rfl⟩
  have hal : Below w.heap.size w w1 := by rw [hw1]; exact alB w _
  have HX1 : Hid (Has w1 xb 34 (#[.int .i64 kk, .int .i64 f.id, .int .i64 f.at_, .int .i64 f.n, .int .i64 f.code, .bool f.fin, .slice fa.da dn fa.dc, .slice fa.ca cn fa.cc, .slice fa.sa sn fa.sc, .int .i64 f.delay, .int .i64 f.e0, .int .i64 f.e1, .int .i64 f.e2] : Array Value).toList) := Lib.hid (by rw [hw1, hxb]; exact Has.new _ _ _)
  have HB1 := Lib.hid hal
  have HIt : Hid (Calls Try.prog 24 #[.int .i64 kk] w1 (StrR w1 ([], false))) := Lib.hid (by rw [← itm_unk hk, ← hkk]; exact items_any w1 _)
  obtain ⟨R, hR⟩ : ∃ R, R = chkF f := ⟨_, rfl⟩
  rw [← hR]
  have HE : Hid (R = 50) := Lib.hid (by rw [hR]; unfold chkF; rw [if_pos hk])
  clear hR hk hkk hal hdn hcn hsn hc
  go_enter Try.func16, Try.ntmps16
  go_upto_region 1 with fail
  rw [← hw1, ← hxb]
  clear hw1 hxb
  have g0 := HX1.out.cell 0 rfl
  go_wp2_with fail
  refine HIt.out.mono ?_
  rintro e w2 ⟨rfl, rfl⟩
  go_wp2
  go_ret
  rw [HE.out]
  exact ⟨rfl, HB1.out⟩
theorem rchk_any (w : World) {f : Fm} {fa : FA} (h : FIn w f fa) : Calls Try.prog 16 #[.agg (fcells f fa).toArray] w (IntOf w (chkF f)) := by
  have hk : knoF f.kind = false ∨ f.kind = 0 ∨ f.kind = 1 ∨ f.kind = 2 ∨ f.kind = 3 ∨ f.kind = 4 ∨ f.kind = 5 ∨ f.kind = 6 ∨ f.kind = 7 ∨ f.kind = 8 ∨ f.kind = 16 ∨ f.kind = 17 ∨ f.kind = 18 ∨ f.kind = 19 ∨ f.kind = 20 ∨ f.kind = 21 ∨ f.kind = 22 ∨ f.kind = 23 ∨ f.kind = 24 ∨ f.kind = 25 ∨ f.kind = 26 ∨ f.kind = 27 ∨ f.kind = 28 ∨ f.kind = 29 ∨ f.kind = 30 := by
    unfold knoF; simp; omega
  rcases hk with hk | hk | hk | hk | hk | hk | hk | hk | hk | hk | hk | hk | hk | hk | hk | hk | hk | hk | hk | hk | hk | hk | hk | hk | hk
  · exact rchk_unk w f fa hk
  · exact rchk_0 w f fa hk h
  · exact rchk_1 w f fa hk h
  · exact rchk_2 w f fa hk h
  · exact rchk_3 w f fa hk h
  · exact rchk_4 w f fa hk h
  · exact rchk_5 w f fa hk h
  · exact rchk_6 w f fa hk h
  · exact rchk_7 w f fa hk h
  · exact rchk_8 w f fa hk h
  · exact rchk_16 w f fa hk h
  · exact rchk_17 w f fa hk h
  · exact rchk_18 w f fa hk h
  · exact rchk_19 w f fa hk h
  · exact rchk_20 w f fa hk h
  · exact rchk_21 w f fa hk h
  · exact rchk_22 w f fa hk h
  · exact rchk_23 w f fa hk h
  · exact rchk_24 w f fa hk h
  · exact rchk_25 w f fa hk h
  · exact rchk_26 w f fa hk h
  · exact rchk_27 w f fa hk h
  · exact rchk_28 w f fa hk h
  · exact rchk_29 w f fa hk h
  · exact rchk_30 w f fa hk h
end Go.Proofs.Ytppkilkfmclpkaa

/- turnpikeref18.find, much. Conditions: the sizes. Printed by gen_chk3.py. -/
import Derived.Test.YtohinaohcndndaaDoorChk2
import Derived.Test.YtohinaohcndndaaDoorNmLaw2
namespace Go.Proofs.YtohinaohcndndaaDoor
open Go.RowKit

/-- the first field of a name -/
def findF : List Fd → List UInt8 → Option ByteArray
  | [], _ => none
  | f :: r, n => if bl f.nm = n then some f.va else findF r n
def findV : Option ByteArray → Value
  | some v => .tuple #[.string v, .bool true]
  | none => .tuple #[.string ⟨#[]⟩, .bool false]
theorem find_hit {n : List UInt8} : ∀ {l : List Fd} {i : Nat} (hi : i < l.length), (∀ f ∈ l.take i, ¬ bl f.nm = n) → bl l[i].nm = n → findF l n = some l[i].va
  | f :: r, 0, _, _, h => by unfold findF; exact if_pos h
  | f :: r, i + 1, hi, hn, h => by
    unfold findF
    rw [if_neg (hn f (by simp))]
    exact find_hit (l := r) (by simpa using hi) (fun x hx => hn x (by simp [hx])) h
theorem find_none {n : List UInt8} : ∀ {l : List Fd}, (∀ f ∈ l, ¬ bl f.nm = n) → findF l n = none
  | [], _ => rfl
  | f :: r, h => by unfold findF; rw [if_neg (h f (by simp))]; exact find_none fun x hx => h x (by simp [hx])
theorem find_size {n : List UInt8} {v : ByteArray} : ∀ {l : List Fd}, findF l n = some v → ∃ f ∈ l, v = f.va
  | [], h => by cases h
  | f :: r, h => by
    unfold findF at h
    split at h
    · cases h; exact ⟨f, by simp, rfl⟩
    · obtain ⟨g, hg, e⟩ := find_size h
      exact ⟨g, by simp [hg], e⟩
theorem eqS {a b : ByteArray} (h : ¬ bl a = bl b) : (a.toList == b.toList) = false := by rw [beq_eq_false_iff_ne, ByteArray.toList_eq, ByteArray.toList_eq]; exact h
theorem eqS' {a b : ByteArray} (h : bl a = bl b) : a = b := by have := congrArg strB h; rwa [strB_bl, strB_bl] at this
set_option maxRecDepth 100000 in
set_option maxHeartbeats 4000000 in
theorem find_any (w : World) {a : Option Addr} {n c : Nat} {fs : List Fd} (h : SlS w a n c fs) (s : ByteArray) : Calls Tryd.prog 40 #[.slice a n c, .string s] w (Ret w (findV (findF fs (bl s)))) := by
  have HS := Lib.hid h
  have HL := Lib.hid h.len
  have HM : Hid (n ≤ 9223372036854775807) := Lib.hid (by have := h.cap; have := h.max; unfold maxLen at this; omega)
  obtain ⟨R, hR⟩ : ∃ R, R = findF fs (bl s) := ⟨_, rfl⟩
  rw [← hR]
  have HR := Lib.hid hR
  clear h hR
  go_enter Tryd.func40, Tryd.ntmps40
  go_wp2_with fail
  go_loopw [6] (fun v wr => ∃ i : Nat, v = .int .i64 (i : Int) ∧ i ≤ n ∧ Hid (∀ f ∈ fs.take i, ¬ bl f.nm = bl s) ∧ wr = w) (fun v _ => n - (intOf v).toNat)
  case atStart => exact ⟨0, rfl, Nat.zero_le _, Lib.hid (by simp), rfl⟩
  case round =>
    obtain ⟨i, rfl, hi, HNo, rfl⟩ := hrel
    by_cases hin : i < n
    · have HI := Lib.hid hin
      obtain ⟨z1, z2, z3⟩ := inj1 hin HM.out
      have hil : i < fs.length := by rw [HL.out]; exact hin
      obtain ⟨b, o, rfl, hc⟩ := HS.out.cells (Nat.lt_of_le_of_lt (Nat.zero_le _) hin)
      obtain ⟨p0, p1⟩ := hc i hil
      have HTk : Hid (fs.take (i + 1) = fs.take i ++ [fs[i]]) := Lib.hid (List.take_succ_eq_append_getElem hil)
      have HHit := Lib.hid (find_hit hil HNo.out)
      obtain ⟨f, hf⟩ : ∃ f, f = fs[i] := ⟨_, rfl⟩
      rw [← hf] at p0 p1 HTk HHit
      obtain ⟨nm, hnm⟩ : ∃ nm, nm = f.nm := ⟨_, rfl⟩
      obtain ⟨va, hva⟩ : ∃ va, va = f.va := ⟨_, rfl⟩
      rw [← hnm] at p0 HHit
      rw [← hva] at p1 HHit
      have HNm := Lib.hid hnm
      clear hi hin hil hc hf hva hnm
      by_cases hx : bl nm = bl s
      · obtain rfl : R = some va := by rw [HR.out]; exact HHit.out hx
        obtain rfl := eqS' hx
        clear hx
        go_wp2
        go_ret2
        exact ⟨rfl, rfl⟩
      · have e1 := eqS hx
        have HNo2 : Hid (∀ f ∈ fs.take (i + 1), ¬ bl f.nm = bl s) := Lib.hid (fun q hq => by
          rw [HTk.out] at hq
          rcases List.mem_append.1 hq with hq | hq
          · exact HNo.out q hq
          · simp at hq; subst hq; rw [← HNm.out]; exact hx)
        clear hx
        go_wp2_with fail
        go_roundw
        case rel => exact ⟨i + 1, by first | rfl | (push_cast; rfl), HI.out, HNo2, by trivial⟩
        case measure => exact nbj3 HI.out
    · have z1 := inj2 hin
      obtain rfl : R = none := by
        rw [HR.out]
        have e : fs.take i = fs := List.take_of_length_le (by rw [HL.out]; exact Nat.le_of_not_lt hin)
        have h := HNo.out
        rw [e] at h
        exact find_none h
      clear hi hin
      go_wp2
      go_ret2
      exact ⟨rfl, rfl⟩
/-- the sum of the sizes -/
def fsz (l : List Fd) : Nat := (l.map fun f => f.nm.size + f.va.size).sum
theorem fsz_on {l : List Fd} {i : Nat} (h : i < l.length) : fsz (l.take (i + 1)) = fsz (l.take i) + (l[i].nm.size + l[i].va.size) := by
  rw [List.take_succ_eq_append_getElem h]; simp only [fsz, List.map_append, List.sum_append, List.map_cons, List.map_nil, List.sum_cons, List.sum_nil, Nat.add_zero]
theorem fsz_le : ∀ (l : List Fd) (i : Nat), fsz (l.take i) ≤ fsz l
  | [], i => by simp
  | f :: r, 0 => by simp [fsz]
  | f :: r, i + 1 => by
    have := fsz_le r i
    simp only [fsz, List.take_succ_cons, List.map_cons, List.sum_cons] at this ⊢
    omega
theorem fsz_fdz : ∀ l : List Fd, fsz l ≤ fdz l
  | [] => Nat.le_refl _
  | f :: r => by
    have := fsz_fdz r
    simp only [fsz, fdz, List.map_cons, List.sum_cons] at this ⊢
    omega
def muchL (fs : List Fd) (cnt sz : Int) : Bool := decide (cnt < (fs.length : Int)) || decide (sz < (fsz fs : Int))
theorem mcj1 {q a b m : Nat} (h : q + (a + b) ≤ m) (hm : m ≤ 1048576) : RowKit.wrap64 ((a : Int) + (b : Int)) = (a : Int) + (b : Int) ∧ RowKit.wrap64 ((q : Int) + ((a : Int) + (b : Int))) = (q : Int) + ((a : Int) + (b : Int)) ∧ IntKind.i64.wrap ((a : Int) + (b : Int)) = (a : Int) + (b : Int) ∧ IntKind.i64.wrap ((q : Int) + ((a : Int) + (b : Int))) = (q : Int) + ((a : Int) + (b : Int)) := by
  rw [IntKind.wrap_i64, IntKind.wrap_i64]; unfold RowKit.wrap64; omega
set_option maxRecDepth 100000 in
set_option maxHeartbeats 4000000 in
theorem much_any (w : World) {a : Option Addr} {n c : Nat} {fs : List Fd} (h : SlS w a n c fs) (hz : fdz fs ≤ 1048576) (cnt sz : Int) : Calls Tryd.prog 38 #[.slice a n c, .int .i64 cnt, .int .i64 sz] w (BoolOf w (muchL fs cnt sz)) := by
  have HS := Lib.hid h
  have HL := Lib.hid h.len
  have HM : Hid (n ≤ 9223372036854775807) := Lib.hid (by have := h.cap; have := h.max; unfold maxLen at this; omega)
  have HZ : Hid (fsz fs ≤ 1048576) := Lib.hid (Nat.le_trans (fsz_fdz fs) hz)
  obtain ⟨R, hR⟩ : ∃ R, R = muchL fs cnt sz := ⟨_, rfl⟩
  rw [← hR]
  have HR := Lib.hid hR
  clear h hR hz
  go_enter Tryd.func38, Tryd.ntmps38
  go_wp2_with fail
  go_loopw [7, 8] (fun q v wr => ∃ i : Nat, v = .int .i64 (i : Int) ∧ i ≤ n ∧ q = .int .i64 ((fsz (fs.take i) : Nat) : Int) ∧ Below w.heap.size w wr) (fun _ v _ => n - (intOf v).toNat)
  case atStart => exact ⟨0, rfl, Nat.zero_le _, rfl, Below.refl _ _⟩
  case round =>
    obtain ⟨i, rfl, hi, rfl, hb⟩ := hrel
    have HB := Lib.hid hb
    clear hb
    by_cases hin : i < n
    · have HI := Lib.hid hin
      obtain ⟨z1, z2, z3⟩ := inj1 hin HM.out
      have hil : i < fs.length := by rw [HL.out]; exact hin
      obtain ⟨b, o, rfl, hc⟩ := HS.out.cells (Nat.lt_of_le_of_lt (Nat.zero_le _) hin)
      obtain ⟨p0, p1⟩ := hc i hil
      have hon := fsz_on hil
      have hle := fsz_le fs (i + 1)
      obtain ⟨f, hf⟩ : ∃ f, f = fs[i] := ⟨_, rfl⟩
      rw [← hf] at p0 p1 hon
      obtain ⟨nm, hnm⟩ : ∃ nm, nm = f.nm := ⟨_, rfl⟩
      obtain ⟨va, hva⟩ : ∃ va, va = f.va := ⟨_, rfl⟩
      rw [← hnm] at p0 hon
      rw [← hva] at p1 hon
      obtain ⟨q, hq⟩ : ∃ q, q = fsz (fs.take i) := ⟨_, rfl⟩
      rw [← hq] at hon ⊢
      obtain ⟨k1, k2, k3, k4⟩ := mcj1 (q := q) (a := nm.size) (b := va.size) (by rw [← hon]; exact hle) HZ.out
      have HQ : Hid ((q : Int) + ((nm.size : Int) + (va.size : Int)) = ((fsz (fs.take (i + 1)) : Nat) : Int)) := Lib.hid (by rw [hon]; push_cast; rfl)
      have hb2 : Below w.heap.size w wr.drew := HB.out.trans ((below_drewN (Below.refl wr.heap.size wr) 1).mono HB.out.size)
      have HSat : Hid (Sat [(⟨b, o + i * 2, none⟩, .string nm), (⟨b, o + i * 2 + 1, none⟩, .string va)] wr.drew) := Lib.hid ((Sat.cons p0 (Sat.cons p1 (Sat.nil w))).below hb2)
      have HB2 := Lib.hid hb2
      clear hi hin hil hc hf hva hnm hon hle hq hb2 p0 p1
      go_upto_region 5 with fail
      refine Mx.region [] (Sat [(⟨b, o + i * 2, none⟩, .string nm), (⟨b, o + i * 2 + 1, none⟩, .string va)]) (by kernel_rfl) (by kernel_rfl) HSat.out ?_
      repeat ((first | (refine Mx.skips (by kernel_rfl) ?_; go_big_quiet_skip) | (refine Mx.quietly rfl ?_; go_big_quiet_want; go_big_quiet_op; go_big_quiet_on)); refine Mx.done ?_)
      refine Mx.cell ⟨b, o + i * 2, none⟩ (.string nm) (by kernel_rfl) (by kernel_rfl) (by kernel_rfl) Tryd.isAgg9 (fun w' h => h 0 _ _ rfl) ?_
      go_big_quiet_want; go_big_quiet_op; go_big_quiet_on; refine Mx.done ?_
      repeat ((first | (refine Mx.skips (by kernel_rfl) ?_; go_big_quiet_skip) | (refine Mx.quietly rfl ?_; go_big_quiet_want; go_big_quiet_op; go_big_quiet_on)); refine Mx.done ?_)
      refine Mx.cell ⟨b, o + i * 2 + 1, none⟩ (.string va) (by kernel_rfl) (by kernel_rfl) (by kernel_rfl) Tryd.isAgg9 (fun w' h => h 1 _ _ rfl) ?_
      go_big_quiet_want; go_big_quiet_op; go_big_quiet_on; refine Mx.done ?_
      repeat ((first | (refine Mx.skips (by kernel_rfl) ?_; go_big_quiet_skip) | (refine Mx.quietly rfl ?_; go_big_quiet_want; go_big_quiet_op; go_big_quiet_on)); refine Mx.done ?_)
      refine Mx.nil ?_
      go_wp2_with fail
      go_roundw
      case rel => exact ⟨i + 1, by first | rfl | (push_cast; rfl), HI.out, by rw [← HQ.out], HB2.out⟩
      case measure => exact nbj3 HI.out
    · have z1 := inj2 hin
      have e : fs.take i = fs := List.take_of_length_le (by rw [HL.out]; exact Nat.le_of_not_lt hin)
      rw [e]
      obtain ⟨q, hq⟩ : ∃ q, q = fsz fs := ⟨_, rfl⟩
      rw [← hq]
      have hR2 : R = (decide (cnt < (n : Int)) || decide (sz < (q : Int))) := by rw [HR.out, muchL, HL.out, hq]
      have HB := HB
      clear hi hin e hq HR
      by_cases h1 : cnt < (n : Int)
      · obtain rfl : R = true := by rw [hR2]; simp [h1]
        have y1 : (cnt < (n : Int)) = True := eq_true h1
        clear h1 hR2
        go_wp2
        go_ret
        exact ⟨rfl, HB.out⟩
      · have y1 : (cnt < (n : Int)) = False := eq_false h1
        by_cases h2 : sz < (q : Int)
        · obtain rfl : R = true := by rw [hR2]; simp [h2]
          have y2 : (sz < (q : Int)) = True := eq_true h2
          clear h1 h2 hR2
          go_wp2
          go_ret
          exact ⟨rfl, HB.out⟩
        · obtain rfl : R = false := by rw [hR2]; simp [h1, h2]
          have y2 : (sz < (q : Int)) = False := eq_false h2
          clear h1 h2 hR2
          go_wp2
          go_ret
          exact ⟨rfl, HB.out⟩
end Go.Proofs.YtohinaohcndndaaDoor

/- Contracts of turnpikeref02.Copy (spans in new memory) and turnpikeref02.In (does a number lie in one of the spans). No condition but the slice's size. -/
import Derived.Test.YtkpeegcpicckjaaLsOpen
import Derived.Test.YtkpeegcpicckjaaLsStep
import Derived.Laws.CopyRow
import Derived.Laws.CopyOwn
namespace Go.Proofs.Ytkpeegcpicckjaa
open Go.RowKit

section
variable (P : Program)
/-- 'copy' into a row that is known whole, elements of any number of cells -/
theorem run_copy_rows (w : World) (dT sT ty elem : TypeId) (s g dLen dCap : Nat) (a : Addr) (sLen sCap : Nat) (cur : Array Value) (t : TypeId) (cs : List Value)
    (hu : P.underlying dT = some (.slice elem)) (hs : (P.info? elem).map (·.size) = some s)
    (hg : w.heap[g]? = some (.cells cur t (0, 0))) (hn : cs.length = Nat.min sLen dLen * s)
    (hsrc : ∀ j v, cs[j]? = some v → w.cell? (a.add j) = some v) (hfit : 0 + cs.length ≤ cur.size) (h1 : ∀ v ∈ cs, v.oneCell' = true) :
    (Builtin.copy_ #[dT, sT] ty #[.slice (some ⟨g, 0, none⟩) dLen dCap, .slice (some a) sLen sCap]).run P w =
      .ok (goInt (Nat.min sLen dLen)) (w.setRow g (cur.toList.take 0 ++ cs ++ cur.toList.drop (0 + cs.length)).toArray) := by
  have hl := run_loadCells_list (P := P) w a cs hsrc
  have hst := run_storeCells_at P g 0 t cs 0 cur w hg (by simpa using hfit) h1
  cases hq : P.info? elem with
  | none => simp [hq] at hs
  | some i =>
    have hi : i.size = s := by simpa [hq] using hs
    simp [Builtin.copy_, run_underlying hu, Builtin.lenOf, Builtin.firstCells, sizeOf, typeInfo, hq, hi, ← hn, hl, hst]
theorem run_copy_nones (w : World) (dT sT ty elem : TypeId) (s : Nat) (d a : Option Addr) (dLen dCap sLen sCap : Nat) (hu : P.underlying dT = some (.slice elem)) (hs : (P.info? elem).map (·.size) = some s) (hn : Nat.min sLen dLen = 0) :
    (Builtin.copy_ #[dT, sT] ty #[.slice d dLen dCap, .slice a sLen sCap]).run P w = .ok (goInt 0) w := by
  cases hq : P.info? elem with
  | none => simp [hq] at hs
  | some i =>
    have hl : ∀ (x : Addr), (loadCells x 0).run P w = .ok #[] w := fun x => by simpa using run_loadCells_list (P := P) w x [] (by simp)
    cases d <;> cases a <;> simp [Builtin.copy_, run_underlying hu, Builtin.lenOf, Builtin.firstCells, sizeOf, typeInfo, hq, hn, storeCells, hl]
end

/-- 'copy(d, s)', d the call's own row of as many elements -/
theorem wpL_copys {P : Program} {t e : TypeId} {s : Nat} (hu : P.underlying t = some (.slice e)) (hsz : (P.info? e).map (·.size) = some s) {B B0 : Nat} {w0 w : World} {ops : Array Oper} {rest : List Oper} {o : Oper} {a : Act} {Q : Exit → Act → World → Prop}
    (hgd : o.guard = none) (d x : Operand) (ho : o.op = .call { callee := .builtin .copy, args := #[d, x], argTypes := #[t, t] })
    {a1 : Option Addr} {n c1 : Nat} {xs1 : List Value} {a2 : Option Addr} {c2 : Nat} {xs2 : List Value}
    (hd : a.eval d = .slice a1 n c1) (hs : a.eval x = .slice a2 n c2)
    (hown : w.ownsRow B e s (.slice a1 n c1) n xs1) (hl : xs2.length = n * s) (h2 : 0 < n → ∃ ad, a2 = some ad ∧ ∀ j v, xs2[j]? = some v → w.cell? (ad.add j) = some v) (h1 : ∀ u ∈ xs2, u.oneCell' = true)
    (hb : Below B0 w0 w) (hB0 : B0 ≤ B)
    (h : ∀ w', w'.ownsRow B e s (.slice a1 n c1) n xs2 → Below B0 w0 w' → wpList P ops Q rest (a.put o.dst (goInt n)) w') : wpList P ops Q (o :: rest) a w := by
  refine wpList_plain hgd fun K hK => ?_
  unfold Oper.wp
  by_cases hn : n = 0
  · subst hn
    have hrun := run_copy_nones P w t t o.type e s a1 a2 0 c1 0 c2 hu hsz rfl
    simp [execOp, ho, resolve, invoke, builtin, hd, hs, hrun, Result.andThen]
    obtain rfl : xs2 = [] := List.eq_nil_of_length_eq_zero (by simpa using hl)
    obtain rfl : xs1 = [] := List.eq_nil_of_length_eq_zero (by simpa using hown.1)
    exact hK _ _ (h w hown hb)
  · rcases hown.2 with ⟨hv, h0⟩ | ⟨g, cap, cur, hv, hBg, hg, hnc, hcm, hcs, htake⟩
    · omega
    · simp only [Value.slice.injEq, true_and] at hv
      obtain ⟨rfl, rfl⟩ := hv
      obtain ⟨ad, rfl, hc⟩ := h2 (by omega)
      have hnn : Nat.min n n = n := Nat.min_self n
      have hle : n * s ≤ c1 * s := Nat.mul_le_mul_right _ hnc
      have hrun := run_copy_rows P w t t o.type e s g n c1 ad n c2 cur e xs2 hu hsz hg (by rw [hnn, hl]) hc (by rw [hcs, hl]; omega) h1
      rw [hnn] at hrun
      simp [execOp, ho, resolve, invoke, builtin, hd, hs, hrun, Result.andThen]
      refine hK _ _ (h _ ⟨hl, .inr ⟨g, c1, _, rfl, hBg, setRow_heap w g cur _ e _ hg, hnc, hcm, ?_, ?_⟩⟩ (below_setRow hb (by omega) _))
      · simp [hl]; omega
      · simp [← hl]

theorem infoSpan : (Try.prog.info? 47).map (fun i => (i.zero, i.size, i.bytes)) = some (some (.agg #[.int .i64 0, .int .i64 0]), 2, 16) := by kernel_rfl
/-- spans in new memory -/
def CopyP (w : World) (l : List Sn) (e : Ending) (w' : World) : Prop :=
  ∃ a c, e = .returned (.slice a l.length c) ∧ Sps w' w.heap.size a c l ∧ Below w.heap.size w w'

set_option maxRecDepth 100000 in
set_option maxHeartbeats 1000000 in
theorem copy_any (w : World) {a : Option Addr} {n c : Nat} {l : List Sn} (h : SlS w a n c l) (hn : n ≤ 1048576) :
    Calls Try.prog 16 #[.slice a n c] w (CopyP w l) := by
  have hl := h.len
  subst hl
  have hu : Try.prog.underlying 40 = some (.slice 47) := Try.underlying40
  obtain ⟨i, hi, hz, hsize, hby⟩ := info_parts infoSpan
  obtain ⟨z, hzz⟩ : ∃ z : Value, z = .agg #[.int .i64 0, .int .i64 0] := ⟨_, rfl⟩
  rw [← hzz] at hz
  have hsz : (Try.prog.info? 47).map (·.size) = some 2 := by rw [hi]; simp [hsize]
  have HC : ∀ w1, w.grownBy w1 none → 0 < l.length → ∃ ad, a = some ad ∧ ∀ j v, (sv l)[j]? = some v → w1.cell? (ad.add j) = some v := by
    intro w1 hg1 h0
    obtain ⟨b, off, rfl, hc⟩ := h.cells h0
    have hb : Below w.heap.size w w1 := (Below.refl _ w).grown hg1 (Nat.le_refl _) (fun k hk => by cases hk)
    refine ⟨_, rfl, fun j v hv => ?_⟩
    have hj : j < l.length * 2 := by rw [← sv_length]; exact (List.getElem?_eq_some_iff.1 hv).1
    have hd : j = j / 2 * 2 + j % 2 := by omega
    have hj2 : j / 2 < l.length := by omega
    have hg := sv_get l (j / 2) (j % 2) hj2 (by omega)
    rw [← hd, hv] at hg
    have hv := hg.symm
    obtain ⟨c0, c1⟩ := hc (j / 2) hj2
    have key : w.cell? ⟨b, off + j, none⟩ = some v := by
      have hm : j % 2 = 0 ∨ j % 2 = 1 := by omega
      rcases hm with hm | hm
      · rw [hm] at hv
        simp only [scells, List.getElem?_cons_zero, Option.some.injEq] at hv
        rw [show off + j = off + j / 2 * 2 by omega, c0, hv]
      · rw [hm] at hv
        simp only [scells, List.getElem?_cons_succ, List.getElem?_cons_zero, Option.some.injEq] at hv
        rw [show off + j = off + j / 2 * 2 + 1 by omega, c1, hv]
    rw [addr_add, hb.cell (World.block_lt_of_cell? _ _ key)]
    exact key
  have hsl := sv_length l
  have hone := sv_one l
  have HCh := Lib.hid HC
  clear HC
  go_enter Try.func16, Try.ntmps16
  go_wp2_with (first | (refine wpList_make_full _ rfl (.tmp 5) (.tmp 5) _ rfl w.heap.size 47 i z 2 hu hi hz hsize .i64 .i64 _ _ l.length rfl rfl rfl rfl (by rw [hby]; omega) (by unfold maxLen; omega) (Nat.le_refl _) ?_; intro w1 ho1 hg1) | (refine wpL_copys hu hsz rfl (.tmp 7) (.tmp 8) rfl rfl rfl (by assumption) hsl (HCh.out _ (by assumption)) hone ((Below.refl _ w).grown (by assumption) (Nat.le_refl _) (fun k hk => by cases hk)) (Nat.le_refl _) ?_; intro w2 ho2 hb2))
  go_ret
  exact ⟨_, _, rfl, ho2, hb2⟩

/-- does the number lie in one of the spans? -/
def inN (n : Int) (x : Sn) : Bool := decide (x.from_ ≤ n) && decide (n ≤ x.to_)
set_option maxRecDepth 100000 in
set_option maxHeartbeats 1000000 in
theorem inref_any (w : World) {a : Option Addr} {n c : Nat} {l : List Sn} (h : SlS w a n c l) (hn : n ≤ 1048576) (z : Int) :
    Calls Try.prog 17 #[.slice a n c, .int .i64 z] w (BoolOf w (l.any (inN z))) := by
  have hl := h.len
  subst hl
  have hc1 := h.cap
  have hc2 := h.max
  have HS := Lib.hid h
  clear h
  go_enter Try.func17, Try.ntmps17
  go_wp2_with fail
  go_loopw [5] (fun v wr => ∃ k : Nat, v = .int .i64 (k : Int) ∧ k ≤ l.length ∧ Hid ((l.take k).any (inN z) = false) ∧ Below w.heap.size w wr) (fun v _ => l.length - (intOf v).toNat)
  case atStart => exact ⟨0, rfl, Nat.zero_le _, Lib.hid (by simp), Below.refl _ _⟩
  case round =>
    obtain ⟨k, rfl, hk, HA, hB⟩ := hrel
    by_cases hkl : k < l.length
    · have hkl' : (k : Int) < (l.length : Int) := by omega
      have g2 : IntKind.i64.wrap ((k : Int) + 1) = (k : Int) + 1 := by rw [IntKind.wrap_i64]; omega
      obtain ⟨b, off, rfl, hcell⟩ := HS.out.cells (by omega)
      obtain ⟨e0', e1'⟩ := hcell k hkl
      have e0 := (hB.cell (World.block_lt_of_cell? _ _ e0')).trans e0'
      have e1 := (hB.cell (World.block_lt_of_cell? _ _ e1')).trans e1'
      have s1' : (l.length : Int) ≤ (c : Int) := by omega
      clear e0' e1' hcell
      have HT := Lib.hid (List.take_succ_eq_append_getElem hkl)
      have HM := Lib.hid (List.getElem_mem hkl)
      generalize hx : l[k] = x at HT HM e0 e1
      clear hx
      have more : ∀ hf : inN z x = false, Hid ((l.take (k + 1)).any (inN z) = false) := fun hf => Lib.hid (by rw [HT.out, List.any_append, HA.out]; simp [hf])
      by_cases c1 : x.from_ ≤ z
      · by_cases c2 : z ≤ x.to_
        · have hany : l.any (inN z) = true := List.any_eq_true.2 ⟨x, HM.out, by simp [inN, c1, c2]⟩
          rw [hany]
          clear hany
          go_wp2
          go_ret
          exact ⟨rfl, hB⟩
        · have HA2 := more (by simp [inN, c1, c2])
          clear more
          go_wp2
          go_roundw
          case rel => exact ⟨k + 1, by push_cast; rfl, by omega, HA2, hB⟩
          case measure => simp [intOf]; omega
      · have HA2 := more (by simp [inN, c1])
        clear more
        go_wp2
        go_roundw
        case rel => exact ⟨k + 1, by push_cast; rfl, by omega, HA2, hB⟩
        case measure => simp [intOf]; omega
    · have hkl' : ¬ (k : Int) < (l.length : Int) := by omega
      have hany : l.any (inN z) = false := by
        have := HA.out
        rwa [List.take_of_length_le (by omega)] at this
      rw [hany]
      go_wp2
      go_ret
      exact ⟨rfl, hB⟩
end Go.Proofs.Ytkpeegcpicckjaa

/- Fields (name, value) in memory, turnpikeref16.Copy (fields in new memory). No condition but the slice's size. -/
import Derived.Test.YtaeanhpdlkgghaaDoorGrowS
import Derived.Test.YtaeanhpdlkgghaaDoorOpen
import Derived.Laws.CopyRow
import Derived.Laws.CopyOwn
import Derived.OwnWalk
namespace Go.Proofs.YtaeanhpdlkgghaaDoor
open Go.RowKit

structure Fd where
  nm : ByteArray
  va : ByteArray
def scells (x : Fd) : List Value := [.string x.nm, .string x.va]
def sv : List Fd → List Value
  | [] => []
  | x :: r => scells x ++ sv r
theorem sv_length : ∀ l : List Fd, (sv l).length = l.length * 2
  | [] => rfl
  | x :: r => by simp [sv, scells, sv_length r]; omega
theorem sv_get : ∀ (l : List Fd) (i j : Nat) (hi : i < l.length), j < 2 → (sv l)[i * 2 + j]? = (scells l[i])[j]?
  | p :: r, 0, j, _, hj => by
    simp only [sv, Nat.zero_mul, Nat.zero_add]
    rw [List.getElem?_append_left (by simp [scells]; omega)]
    rfl
  | p :: r, i + 1, j, hi, hj => by
    simp only [sv]
    rw [List.getElem?_append_right (by simp [scells]; omega)]
    have e : (i + 1) * 2 + j - (scells p).length = i * 2 + j := by simp [scells]; omega
    rw [e, sv_get r i j (by simpa using hi) hj]
    rfl
theorem sv_one : ∀ l : List Fd, ∀ u ∈ sv l, u.oneCell' = true
  | [], u, h => by simp [sv] at h
  | p :: r, u, h => by
    simp only [sv, scells, List.mem_append, List.mem_cons, List.not_mem_nil, or_false] at h
    rcases h with (rfl | rfl) | h
    · rfl
    · rfl
    · exact sv_one r u h
theorem own_sn {w : World} {B e : Nat} {a : Option Addr} {n c : Nat} {l : List Fd} (h : w.ownsRow B e 2 (.slice a n c) n (sv l)) (hl : l.length = n) {i : Nat} (hi : i < l.length) :
    ∃ s, a = some ⟨s, 0, none⟩ ∧ w.cell? ⟨s, i * 2, none⟩ = some (.string l[i].nm) ∧ w.cell? ⟨s, i * 2 + 1, none⟩ = some (.string l[i].va) ∧ n ≤ c ∧ c ≤ maxLen := by
  have key : ∀ s, Value.ownBlock (.slice a n c) = some s → ∀ j, j < 2 → w.cell? ⟨s, i * 2 + j, none⟩ = (scells l[i])[j]? := by
    intro s hs j hj
    have h1 := sv_get l i j hi hj
    have hx : (scells l[i])[j]? = some ((scells l[i])[j]'(by simp [scells]; omega)) := List.getElem?_eq_getElem _
    rw [hx] at h1
    have h2 := h.cells hs (i * 2 + j) _ h1
    rw [addr_add, Nat.zero_add] at h2
    rw [h2, hx]
  rcases h.2 with ⟨hv, rfl⟩ | ⟨g, cap, cur, hv, hB, hg, hnc, hcm, hcs, ht⟩
  · omega
  · simp only [Value.slice.injEq, true_and] at hv
    obtain ⟨rfl, rfl⟩ := hv
    have k := key g rfl
    exact ⟨g, rfl, k 0 (by omega), k 1 (by omega), hnc, hcm⟩
def Sps (w : World) (B : Nat) (a : Option Addr) (c : Nat) (l : List Fd) : Prop := w.ownsRow B 23 2 (.slice a l.length c) l.length (sv l)

/-- spans that came in, as cells -/
structure SlS (w : World) (a : Option Addr) (n c : Nat) (l : List Fd) : Prop where
  len : l.length = n
  cap : n ≤ c
  max : c ≤ maxLen
  cells : 0 < n → ∃ b off, a = some ⟨b, off, none⟩ ∧ ∀ i (h : i < l.length), w.cell? ⟨b, off + i * 2, none⟩ = some (.string l[i].nm) ∧ w.cell? ⟨b, off + i * 2 + 1, none⟩ = some (.string l[i].va)

theorem SlS.below {w w' : World} {a : Option Addr} {n c : Nat} {l : List Fd} (h : SlS w a n c l) (hb : Below w.heap.size w w') : SlS w' a n c l := by
  refine ⟨h.len, h.cap, h.max, fun hn => ?_⟩
  obtain ⟨b, off, rfl, hc⟩ := h.cells hn
  refine ⟨b, off, rfl, fun i hi => ?_⟩
  obtain ⟨h1, h2⟩ := hc i hi
  rw [hb.cell (World.block_lt_of_cell? _ _ h1), hb.cell (World.block_lt_of_cell? _ _ h2)]
  exact ⟨h1, h2⟩
theorem Sps.sl {w : World} {B : Nat} {a : Option Addr} {c : Nat} {l : List Fd} (h : Sps w B a c l) : SlS w a l.length c l := by
  have hc : l.length ≤ c ∧ c ≤ maxLen := by
    rcases h.2 with ⟨hv, h0⟩ | ⟨g, cap, cur, hv, hB, hg, hnc, hcm, _⟩
    · simp only [Value.slice.injEq] at hv; rw [hv.2.2, h0]; exact ⟨Nat.le_refl _, Nat.zero_le _⟩
    · simp only [Value.slice.injEq, true_and] at hv; rw [hv.2]; exact ⟨hnc, hcm⟩
  refine ⟨rfl, hc.1, hc.2, fun hn => ?_⟩
  obtain ⟨s, ha, _⟩ := own_sn h rfl (i := 0) hn
  refine ⟨s, 0, ha, fun i hi => ?_⟩
  obtain ⟨s', ha', h1, h2, _⟩ := own_sn h rfl hi
  rw [ha] at ha'
  cases ha'
  simp only [Nat.zero_add]
  exact ⟨h1, h2⟩

section
variable (P : Program)
/-- 'copy' into a row that is known whole, elements of any number of cells -/
theorem run_copy_rows (w : World) (dT sT ty elem : TypeId) (s g dLen dCap : Nat) (a : Addr) (sLen sCap : Nat) (cur : Array Value) (t : TypeId) (cs : List Value)
    (hu : P.underlying dT = some (.slice elem)) (hs : (P.info? elem).map (·.size) = some s)
    (hg : w.heap[g]? = some (.cells cur t (0, 0))) (hn : cs.length = Nat.min sLen dLen * s)
    (hsrc : ∀ j v, cs[j]? = some v → w.cell? (a.add j) = some v) (hfit : 0 + cs.length ≤ cur.size) (h1 : ∀ v ∈ cs, v.oneCell' = true) :
    (Builtin.copy_ #[dT, sT] ty #[.slice (some ⟨g, 0, none⟩) dLen dCap, .slice (some a) sLen sCap]).run P w =
      .ok (goInt (Nat.min sLen dLen)) (w.setRow g (cur.toList.take 0 ++ cs ++ cur.toList.drop (0 + cs.length)).toArray) := by
  have hl := run_loadCells_list (P := P) w a cs hsrc
  have hst := run_storeCells_at P g 0 t cs 0 cur w hg (by simpa using hfit) h1
  cases hq : P.info? elem with
  | none => simp [hq] at hs
  | some i =>
    have hi : i.size = s := by simpa [hq] using hs
    simp [Builtin.copy_, run_underlying hu, Builtin.lenOf, Builtin.firstCells, sizeOf, typeInfo, hq, hi, ← hn, hl, hst]
theorem run_copy_nones (w : World) (dT sT ty elem : TypeId) (s : Nat) (d a : Option Addr) (dLen dCap sLen sCap : Nat) (hu : P.underlying dT = some (.slice elem)) (hs : (P.info? elem).map (·.size) = some s) (hn : Nat.min sLen dLen = 0) :
    (Builtin.copy_ #[dT, sT] ty #[.slice d dLen dCap, .slice a sLen sCap]).run P w = .ok (goInt 0) w := by
  cases hq : P.info? elem with
  | none => simp [hq] at hs
  | some i =>
    have hl : ∀ (x : Addr), (loadCells x 0).run P w = .ok #[] w := fun x => by simpa using run_loadCells_list (P := P) w x [] (by simp)
    cases d <;> cases a <;> simp [Builtin.copy_, run_underlying hu, Builtin.lenOf, Builtin.firstCells, sizeOf, typeInfo, hq, hn, storeCells, hl]
end

/-- 'copy(d, s)', d the call's own row of as many elements -/
theorem wpL_copys {P : Program} {t e : TypeId} {s : Nat} (hu : P.underlying t = some (.slice e)) (hsz : (P.info? e).map (·.size) = some s) {B B0 : Nat} {w0 w : World} {ops : Array Oper} {rest : List Oper} {o : Oper} {a : Act} {Q : Exit → Act → World → Prop}
    (hgd : o.guard = none) (d x : Operand) (ho : o.op = .call { callee := .builtin .copy, args := #[d, x], argTypes := #[t, t] })
    {a1 : Option Addr} {n c1 : Nat} {xs1 : List Value} {a2 : Option Addr} {c2 : Nat} {xs2 : List Value}
    (hd : a.eval d = .slice a1 n c1) (hs : a.eval x = .slice a2 n c2)
    (hown : w.ownsRow B e s (.slice a1 n c1) n xs1) (hl : xs2.length = n * s) (h2 : 0 < n → ∃ ad, a2 = some ad ∧ ∀ j v, xs2[j]? = some v → w.cell? (ad.add j) = some v) (h1 : ∀ u ∈ xs2, u.oneCell' = true)
    (hb : Below B0 w0 w) (hB0 : B0 ≤ B)
    (h : ∀ w', w'.ownsRow B e s (.slice a1 n c1) n xs2 → Below B0 w0 w' → wpList P ops Q rest (a.put o.dst (goInt n)) w') : wpList P ops Q (o :: rest) a w := by
  refine wpList_plain hgd fun K hK => ?_
  unfold Oper.wp
  by_cases hn : n = 0
  · subst hn
    have hrun := run_copy_nones P w t t o.type e s a1 a2 0 c1 0 c2 hu hsz rfl
    simp [execOp, ho, resolve, invoke, builtin, hd, hs, hrun, Result.andThen]
    obtain rfl : xs2 = [] := List.eq_nil_of_length_eq_zero (by simpa using hl)
    obtain rfl : xs1 = [] := List.eq_nil_of_length_eq_zero (by simpa using hown.1)
    exact hK _ _ (h w hown hb)
  · rcases hown.2 with ⟨hv, h0⟩ | ⟨g, cap, cur, hv, hBg, hg, hnc, hcm, hcs, htake⟩
    · omega
    · simp only [Value.slice.injEq, true_and] at hv
      obtain ⟨rfl, rfl⟩ := hv
      obtain ⟨ad, rfl, hc⟩ := h2 (by omega)
      have hnn : Nat.min n n = n := Nat.min_self n
      have hle : n * s ≤ c1 * s := Nat.mul_le_mul_right _ hnc
      have hrun := run_copy_rows P w t t o.type e s g n c1 ad n c2 cur e xs2 hu hsz hg (by rw [hnn, hl]) hc (by rw [hcs, hl]; omega) h1
      rw [hnn] at hrun
      simp [execOp, ho, resolve, invoke, builtin, hd, hs, hrun, Result.andThen]
      refine hK _ _ (h _ ⟨hl, .inr ⟨g, c1, _, rfl, hBg, setRow_heap w g cur _ e _ hg, hnc, hcm, ?_, ?_⟩⟩ (below_setRow hb (by omega) _))
      · simp [hl]; omega
      · simp [← hl]

theorem infoFld : (Tryd.prog.info? 23).map (fun i => (i.zero, i.size, i.bytes)) = some (some (.agg #[.string .empty, .string .empty]), 2, 32) := by kernel_rfl
/-- spans in new memory -/
def CopyP (w : World) (l : List Fd) (e : Ending) (w' : World) : Prop :=
  ∃ a c, e = .returned (.slice a l.length c) ∧ Sps w' w.heap.size a c l ∧ Below w.heap.size w w'

set_option maxRecDepth 100000 in
set_option maxHeartbeats 1000000 in
theorem copys_any (w : World) {a : Option Addr} {n c : Nat} {l : List Fd} (h : SlS w a n c l) (hn : n * 32 ≤ 140737488351232) :
    Calls Tryd.prog 15 #[.slice a n c] w (CopyP w l) := by
  have hl := h.len
  subst hl
  have hu : Tryd.prog.underlying 43 = some (.slice 23) := Tryd.underlying43
  obtain ⟨i, hi, hz, hsize, hby⟩ := info_parts infoFld
  obtain ⟨z, hzz⟩ : ∃ z : Value, z = .agg #[.string .empty, .string .empty] := ⟨_, rfl⟩
  rw [← hzz] at hz
  have hsz : (Tryd.prog.info? 23).map (·.size) = some 2 := by rw [hi]; simp [hsize]
  have HC : ∀ w1, w.grownBy w1 none → 0 < l.length → ∃ ad, a = some ad ∧ ∀ j v, (sv l)[j]? = some v → w1.cell? (ad.add j) = some v := by
    intro w1 hg1 h0
    obtain ⟨b, off, rfl, hc⟩ := h.cells h0
    have hb : Below w.heap.size w w1 := (Below.refl _ w).grown hg1 (Nat.le_refl _) (fun k hk => by cases hk)
    refine ⟨_, rfl, fun j v hv => ?_⟩
    have hj : j < l.length * 2 := by rw [← sv_length]; exact (List.getElem?_eq_some_iff.1 hv).1
    have hd : j = j / 2 * 2 + j % 2 := by omega
    have hj2 : j / 2 < l.length := by omega
    have hg := sv_get l (j / 2) (j % 2) hj2 (by omega)
    rw [← hd, hv] at hg
    have hv := hg.symm
    obtain ⟨c0, c1⟩ := hc (j / 2) hj2
    have key : w.cell? ⟨b, off + j, none⟩ = some v := by
      have hm : j % 2 = 0 ∨ j % 2 = 1 := by omega
      rcases hm with hm | hm
      · rw [hm] at hv
        simp only [scells, List.getElem?_cons_zero, Option.some.injEq] at hv
        rw [show off + j = off + j / 2 * 2 by omega, c0, hv]
      · rw [hm] at hv
        simp only [scells, List.getElem?_cons_succ, List.getElem?_cons_zero, Option.some.injEq] at hv
        rw [show off + j = off + j / 2 * 2 + 1 by omega, c1, hv]
    rw [addr_add, hb.cell (World.block_lt_of_cell? _ _ key)]
    exact key
  have hsl := sv_length l
  have hone := sv_one l
  have HCh := Lib.hid HC
  clear HC
  go_enter Tryd.func15, Tryd.ntmps15
  go_wp2_with (first | (refine wpList_make_full _ rfl (.tmp 5) (.tmp 5) _ rfl w.heap.size 23 i z 2 hu hi hz hsize .i64 .i64 _ _ l.length rfl rfl rfl rfl (by rw [hby]; omega) (by unfold maxLen; omega) (Nat.le_refl _) ?_; intro w1 ho1 hg1) | (refine wpL_copys hu hsz rfl (.tmp 7) (.tmp 8) rfl rfl rfl (by assumption) hsl (HCh.out _ (by assumption)) hone ((Below.refl _ w).grown (by assumption) (Nat.le_refl _) (fun k hk => by cases hk)) (Nat.le_refl _) ?_; intro w2 ho2 hb2))
  go_ret
  exact ⟨_, _, rfl, ho2, hb2⟩

end Go.Proofs.YtaeanhpdlkgghaaDoor

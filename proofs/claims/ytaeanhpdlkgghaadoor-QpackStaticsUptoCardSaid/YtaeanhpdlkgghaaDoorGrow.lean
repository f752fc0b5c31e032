/- Appending to a row of one's own, told with where the row then lies; zeros appended to such a row. No condition on the program. -/
import Derived.Test.YtaeanhpdlkgghaaDoorObj
import Derived.Lib.AppendZerosOnto
import Derived.Lib.SliceRun
namespace Go.Proofs.YtaeanhpdlkgghaaDoor
open Go.RowKit

/-- the row of v' is the row of v, or a new one -/
def NewOr (w : World) (v v' : Value) : Prop := ∀ k, v'.ownBlock = some k → v.ownBlock = some k ∨ w.heap.size ≤ k

theorem addr_add (b off i : Nat) : (⟨b, off, none⟩ : Addr).add i = ⟨b, off + i, none⟩ := by
  unfold Addr.add; split
  · rename_i h; subst h; rfl
  · rfl

theorem run_app_own {P : Program} {t e : TypeId} {z : Value} {bytes : Nat} (ty : ETy P t e z bytes) {B : Nat} {w : World} {tyo : TypeId}
    {a1 : Option Addr} {n1 c1 : Nat} {xs1 : List Value} {a2 : Option Addr} {n2 c2 : Nat} {xs2 : List Value}
    (hown : w.ownsRow B e 1 (.slice a1 n1 c1) n1 xs1) (h2 : Sl w a2 n2 c2 xs2) (h1 : ∀ u ∈ xs2, u.oneCell' = true)
    (hsz : (n1 + n2) * bytes ≤ 140737488355328) (hmx : n1 + n2 ≤ maxLen) (hBw : B ≤ w.heap.size) :
    ∃ a' c' w', (Builtin.append_ #[t, t] tyo #[.slice a1 n1 c1, .slice a2 n2 c2]).run P w = .ok (.slice a' (n1 + n2) c') w' ∧
      w'.ownsRow B e 1 (.slice a' (n1 + n2) c') (n1 + n2) (xs1 ++ xs2) ∧ w.grownBy w' (Value.ownBlock (.slice a1 n1 c1)) ∧ NewOr w (.slice a1 n1 c1) (.slice a' (n1 + n2) c') := by
  obtain ⟨i, hi, hz, hsize, hby⟩ := ty.ex
  have h63 : n1 + n2 ≤ 9223372036854775807 := by simp only [maxLen] at hmx; omega
  cases a2 with
  | none =>
    have hc2 := h2.nil rfl
    have hn2 : n2 = 0 := by have := h2.cap_le; omega
    subst hn2; subst hc2
    have hnil : xs2 = [] := List.eq_nil_of_length_eq_zero h2.len
    subst hnil
    have hrun := run_append_owned_none (P := P) w B t tyo e i 1 ty.ht hi _ n1 xs1 hown
    exact ⟨a1, c1, w, hrun, by simpa using hown, World.grownBy.refl _ _, fun k hk => .inl hk⟩
  | some ad =>
    have hnews : ∀ j u, xs2[j]? = some u → w.cell? (ad.add j) = some u := by
      intro j u hu
      have hj : j < n2 := by have := (List.getElem?_eq_some_iff.1 hu).1; have := h2.len; omega
      obtain ⟨b, off, hab, hc⟩ := h2.cells (by omega)
      simp only [Option.some.injEq] at hab
      subst hab
      have := hc j hj
      rw [hu] at this
      rw [← this, addr_add]
    have hl2 : xs2.length = n2 * 1 := by simpa using h2.len
    obtain ⟨v', w', hr, hown', hgr, hiff⟩ := run_append_own (P := P) w B t tyo e i z 1 bytes ty.ht hi hz hsize hby ty.hz (by decide) (.slice a1 n1 c1) n1 xs1 hown ad n2 c2 xs2 hl2 hnews h1 hmx hsz hBw
    have hwhere : NewOr w (.slice a1 n1 c1) v' := by
      rcases hown.2 with ⟨hv, rfl⟩ | ⟨g, cap, cur, hv, hbg, hg, hnc, hcm, hcs, htake⟩
      · simp only [Value.slice.injEq] at hv
        obtain ⟨rfl, _, rfl⟩ := hv
        by_cases hm : n2 = 0
        · intro k hk
          rw [hiff.2 ⟨rfl, hm⟩] at hk
          cases hk
        · have hr2 := run_append_nil (P := P) w t tyo e i z ty.ht hi hz ad n2 c2 xs2 (by rw [hsize]; exact hl2) hnews (by omega) (by omega) (by rw [hby]; simp only [Nat.zero_add] at hsz; omega)
          have he := hr.symm.trans hr2
          simp only [Result.ok.injEq] at he
          intro k hk
          rw [he.1] at hk
          simp only [Value.ownBlock, Option.some.injEq] at hk
          exact .inr (by omega)
      · simp only [Value.slice.injEq, true_and] at hv
        obtain ⟨rfl, rfl⟩ := hv
        by_cases hroom : n1 + n2 ≤ c1
        · have hfit : n1 * i.size + xs2.length ≤ cur.size := by rw [hl2, hcs, hsize]; omega
          have hr2 := run_append_room (P := P) w t tyo e i ty.ht hi g n1 c1 cur hg ad n2 c2 xs2 (by rw [hsize]; exact hl2) hnews h1 hroom hfit
          have he := hr.symm.trans hr2
          simp only [Result.ok.injEq] at he
          intro k hk
          rw [he.1] at hk
          exact .inl hk
        · have hr2 := run_append_grow (P := P) w t tyo e i z ty.ht hi hz ⟨g, 0, none⟩ n1 c1 xs1 (by rw [hsize]; exact hown.1) (hown.cells (g := g) rfl) ad n2 c2 xs2 (by rw [hsize]; exact hl2) hnews (by omega) (by omega) (growslice_fits (by omega) (by rw [hby]; exact hsz))
          have he := hr.symm.trans hr2
          simp only [Result.ok.injEq] at he
          intro k hk
          rw [he.1] at hk
          simp only [Value.ownBlock, Option.some.injEq] at hk
          exact .inr (by omega)
    obtain ⟨a', c', rfl⟩ := own_slice hown'
    exact ⟨a', c', w', hr, hown', hgr, hwhere⟩

/-- the same where zeros are asked for -/
theorem run_app_zeros {P : Program} {t e tn : TypeId} {z : Value} {bytes : Nat} (ty : ETy P t e z bytes) {B : Nat} {w : World} {tyo : TypeId} {kn kq : IntKind} (htn : P.underlying tn = some (.int kn)) (hz1 : z.cells = #[z]) (hzc : z.oneCell' = true)
    {a1 : Option Addr} {n1 c1 : Nat} {xs1 : List Value} {n2 : Nat}
    (hown : w.ownsRow B e 1 (.slice a1 n1 c1) n1 xs1) (hsz : (n1 + n2) * bytes ≤ 140737488355328) (hmx : n1 + n2 ≤ maxLen) (hBw : B ≤ w.heap.size) :
    ∃ a' c' w', (Builtin.append_ #[t, tn] tyo #[.slice a1 n1 c1, .int kq (n2 : Int)]).run P w = .ok (.slice a' (n1 + n2) c') w' ∧
      w'.ownsRow B e 1 (.slice a' (n1 + n2) c') (n1 + n2) (xs1 ++ List.replicate n2 z) ∧ w.grownBy w' (Value.ownBlock (.slice a1 n1 c1)) ∧ NewOr w (.slice a1 n1 c1) (.slice a' (n1 + n2) c') := by
  obtain ⟨i, hi, hz, hsize, hby⟩ := ty.ex
  have h63 : n1 + n2 ≤ 9223372036854775807 := by simp only [maxLen] at hmx; omega
  have hzl : ∀ k, (Builtin.zeroCells z.cells k).toList = List.replicate k z := by
    intro k
    rw [hz1]
    simp [Builtin.zeroCells]
    apply List.ext_getElem
    · simp
    · intro j h1 h2
      simp [Nat.mod_one]
  have hwr : IntKind.i64.wrap (n2 : Int) = n2 := by rw [IntKind.wrap_i64]; omega
  have hneg : ¬ ((n2 : Int) < 0) := by omega
  have hfirst : (Builtin.firstCells i.size n1 (.slice a1 n1 c1)).run P w.drew = .ok xs1.toArray w.drew := by
    rcases hown.2 with ⟨hv, rfl⟩ | ⟨g, cap, cur, hv, hbg, hg, hnc, hcm, hcs, htake⟩
    · simp only [Value.slice.injEq] at hv
      obtain ⟨rfl, _, rfl⟩ := hv
      obtain rfl : xs1 = [] := List.eq_nil_of_length_eq_zero (by simpa using hown.1)
      exact run_firstCells_none _ _ _ _ _
    · simp only [Value.slice.injEq, true_and] at hv
      obtain ⟨rfl, rfl⟩ := hv
      exact run_firstCells_some w.drew i.size n1 ⟨g, 0, none⟩ n1 c1 xs1 (by rw [hsize]; exact hown.1) (fun j v hjv => by have := hown.cells (g := g) rfl j v hjv; simpa using this)
  have hnc : n1 ≤ c1 := by
    rcases hown.2 with ⟨hv, _⟩ | ⟨g, cap, cur, hv, _, _, hnc, _⟩
    · simp only [Value.slice.injEq] at hv; omega
    · simp only [Value.slice.injEq] at hv; omega
  by_cases h0 : n2 = 0
  · subst h0
    refine ⟨a1, c1, w, ?_, by simpa using hown, World.grownBy.refl _ _, fun k hk => .inl hk⟩
    cases a1 <;> simp [Builtin.append_, run_underlying ty.ht, run_underlying htn, sizeOf, typeInfo, hi, asInt, asIntOf, IntKind.wrap_i64, hnc, storeCells]
  · by_cases hroom : n1 + n2 ≤ c1
    · rcases hown.2 with ⟨hv, _⟩ | ⟨g, cap, cur, hv, hbg, hg, hnc, hcm, hcs, htake⟩
      · simp only [Value.slice.injEq] at hv; omega
      · simp only [Value.slice.injEq, true_and] at hv
        obtain ⟨rfl, rfl⟩ := hv
        have hfit : n1 + 0 + (List.replicate n2 z).length ≤ cur.size := by rw [hcs]; simp; omega
        have hst := run_storeCells_at P g n1 e (List.replicate n2 z) 0 cur w hg hfit (fun v hv => by rw [List.eq_of_mem_replicate hv]; exact hzc)
        simp only [Nat.add_zero, List.length_replicate] at hst
        have h48i : ¬ (281474976710656 < (n2 : Int) * (bytes : Int)) := by
          rw [← Int.natCast_mul]
          have : n2 * bytes ≤ (n1 + n2) * bytes := Nat.mul_le_mul_right _ (by omega)
          omega
        refine ⟨some ⟨g, 0, none⟩, c1, w.setRow g (cur.toList.take n1 ++ List.replicate n2 z ++ cur.toList.drop (n1 + n2)).toArray, ?_, ⟨by simp; have := hown.1; omega, .inr ⟨g, c1, _, rfl, hbg, setRow_heap w g cur _ e _ hg, hroom, hcm, ?_, ?_⟩⟩, ⟨rfl, rfl, rfl, by simp, fun k _ hk => setRow_other w g k _ (fun e => hk (by simp [Value.ownBlock, e]))⟩, fun k hk => .inl hk⟩
        · simp [Builtin.append_, run_underlying ty.ht, run_underlying htn, sizeOf, typeInfo, zeroValue, hi, hz, hsize, hby, asInt, asIntOf, hwr, hneg, h0, h48i, hroom, hzl, addr_add, hst]
        · simp only [List.size_toArray, List.length_append, List.length_take, List.length_drop, Array.length_toList, List.length_replicate]
          rw [hcs]; omega
        · have hx : xs1 = cur.toList.take n1 := by rw [← htake]; simp
          rw [hx]
          have hl : (List.take n1 cur.toList ++ List.replicate n2 z).length = (n1 + n2) * 1 := by simp; omega
          rw [List.append_assoc, ← List.append_assoc, ← hl]
          exact List.take_left
    · have h48 : n2 * bytes ≤ 281474976710656 := by
        have : n2 * bytes ≤ (n1 + n2) * bytes := Nat.mul_le_mul_right _ (by omega)
        omega
      have hr := Lib.run_append_grow_zeros (P := P) w t tn tyo e i z kq kn ty.ht htn hi hz a1 n1 c1 xs1 hfirst n2 (by omega) (by omega) (by omega) (by omega) (by rw [hby]; exact h48) (growslice_fits (by omega) (by rw [hby]; exact hsz))
      refine ⟨_, _, _, hr, ⟨by simp; have := hown.1; omega, .inr ⟨w.heap.size, _, _, rfl, hBw, heap_alloc_new w.drew _, grownCap_ge w (n1 + n2) c1 e, grownCap_le_maxLen w (n1 + n2) c1 e hmx, ?_, ?_⟩⟩, ⟨rfl, rfl, rfl, by simp, fun k hk _ => heap_alloc_old w.drew _ hk⟩, fun k hk => by
        simp only [Value.ownBlock, Option.some.injEq] at hk
        exact .inr (by omega)⟩
      · have hge := grownCap_ge w (n1 + n2) c1 e
        have hl := hown.1
        have hzs : ∀ k, (Builtin.zeroCells z.cells k).size = k := fun k => by rw [← Array.length_toList, hzl, List.length_replicate]
        simp only [Array.size_append, List.size_toArray, hzs]
        omega
      · have hl : (xs1 ++ List.replicate n2 z).length = (n1 + n2) * 1 := by simp; have := hown.1; omega
        simp only [Array.toList_append, hzl]
        rw [← hl]
        exact List.take_left

theorem sl_take {w : World} {a : Option Addr} {n c : Nat} {xs : List Value} (h : Sl w a n c xs) {k : Nat} (hk : k ≤ n) : Sl w a k c (xs.take k) := by
  refine ⟨by rw [List.length_take, h.len]; omega, by have := h.cap_le; omega, h.cap_max, h.nil, fun hk0 => ?_⟩
  obtain ⟨b, off, ha, hc⟩ := h.cells (by omega)
  refine ⟨b, off, ha, fun i hi => ?_⟩
  rw [hc i (by omega), List.getElem?_take, if_pos hi]
theorem sl_drop {w : World} {b off : Nat} {n c : Nat} {xs : List Value} (h : Sl w (some ⟨b, off, none⟩) n c xs) {k : Nat} (hk : k ≤ n) : Sl w (some ⟨b, off + k, none⟩) (n - k) (c - k) (xs.drop k) := by
  have := h.cap_le
  have := h.cap_max
  refine ⟨by rw [List.length_drop, h.len], by omega, by omega, by simp, fun hk0 => ?_⟩
  obtain ⟨b', off', ha, hc⟩ := h.cells (by omega)
  simp only [Option.some.injEq, Addr.mk.injEq, and_true] at ha
  obtain ⟨rfl, rfl⟩ := ha
  refine ⟨b, off + k, rfl, fun i hi => ?_⟩
  rw [Nat.add_assoc, hc (k + i) (by omega), List.getElem?_drop]
end Go.Proofs.YtaeanhpdlkgghaaDoor

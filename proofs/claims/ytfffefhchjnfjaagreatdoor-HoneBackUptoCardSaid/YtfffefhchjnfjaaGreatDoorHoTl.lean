/- Bytes of one's own that begin anywhere in their row (b = b[n:]), and what is appended to them. No condition on the program. -/
import Derived.Test.YtfffefhchjnfjaaGreatDoorHoSta
import Derived.Test.YtfffefhchjnfjaaGreatDoorGrow
import Derived.Test.YtfffefhchjnfjaaGreatDoorGrowS
import Derived.Test.YtfffefhchjnfjaaGreatDoorWalk2
import Derived.Test.YtfffefhchjnfjaaGreatDoorRef01
namespace Go.Proofs.YtfffefhchjnfjaaGreatDoor
open Go.RowKit

/-- the bytes xs are one's own from some place of a row on -/
def Tl (w : World) (a : Option Addr) (n c : Nat) (xs : List Value) : Prop :=
  xs.length = n ∧ ((a = none ∧ n = 0 ∧ c = 0) ∨ ∃ (g off : Nat) (cur : Array Value), a = some ⟨g, off, none⟩ ∧ w.heap[g]? = some (.cells cur 5 (0, 0)) ∧ n ≤ c ∧ c ≤ maxLen ∧ off + c ≤ cur.size ∧ (cur.toList.drop off).take n = xs)
theorem Tl.nil (w : World) : Tl w none 0 0 [] := ⟨rfl, .inl ⟨rfl, rfl, rfl⟩⟩
theorem Tl.of {w : World} {B : Nat} {a : Option Addr} {n c : Nat} {xs : List Value} (h : w.ownsRow B 5 1 (.slice a n c) n xs) : Tl w a n c xs := by
  refine ⟨by have := h.1; omega, ?_⟩
  rcases h.2 with ⟨hv, rfl⟩ | ⟨g, cap, cur, hv, hB, hg, hnc, hcm, hcs, ht⟩
  · simp only [Value.slice.injEq] at hv
    exact .inl ⟨hv.1, rfl, hv.2.2⟩
  · simp only [Value.slice.injEq, true_and] at hv
    obtain ⟨rfl, rfl⟩ := hv
    exact .inr ⟨g, 0, cur, rfl, hg, hnc, hcm, by omega, by rw [List.drop_zero, ← ht, Nat.mul_one]⟩
theorem Tl.sl {w : World} {a : Option Addr} {n c : Nat} {xs : List Value} (h : Tl w a n c xs) : Sl w a n c xs := by
  obtain ⟨hl, h⟩ := h
  rcases h with ⟨rfl, rfl, rfl⟩ | ⟨g, off, cur, rfl, hg, hnc, hcm, hs, ht⟩
  · exact ⟨hl, Nat.le_refl _, Nat.zero_le _, fun _ => rfl, fun h => absurd h (Nat.lt_irrefl _)⟩
  · refine ⟨hl, hnc, hcm, by simp, fun hn => ⟨g, off, rfl, fun i hi => ?_⟩⟩
    rw [cell_of_row w g (off + i) cur _ (0, 0) hg, ← ht, List.getElem?_take, if_pos hi, List.getElem?_drop, Array.getElem?_toList]
theorem Tl.lt {w : World} {a : Option Addr} {n c : Nat} {xs : List Value} (h : Tl w a n c xs) : ∀ ad, a = some ad → ad.block < w.heap.size := by
  intro ad ha
  rcases h.2 with ⟨h0, _⟩ | ⟨g, off, cur, h0, hg, _⟩
  · rw [h0] at ha; cases ha
  · rw [h0] at ha; cases ha
    exact (Array.getElem?_eq_some_iff.1 hg).1
theorem Tl.kept {X : Nat → Prop} {w w' : World} {a : Option Addr} {n c : Nat} {xs : List Value} (h : Tl w a n c xs) (hk : Kept X w w') (hx : ∀ ad, a = some ad → ¬ X ad.block) : Tl w' a n c xs := by
  refine ⟨h.1, ?_⟩
  rcases h.2 with h0 | ⟨g, off, cur, h0, hg, r⟩
  · exact .inl h0
  · exact .inr ⟨g, off, cur, h0, by rw [hk.block g (Array.getElem?_eq_some_iff.1 hg).1 (hx ⟨g, off, none⟩ h0)]; exact hg, r⟩
theorem Tl.below {w w' : World} {a : Option Addr} {n c : Nat} {xs : List Value} (h : Tl w a n c xs) (hb : Below w.heap.size w w') : Tl w' a n c xs := h.kept (X := none') (Kept.of_below hb) (fun _ _ h => h)
/-- what is left behind the first k: the row's end is special -/
theorem Tl.drop {w : World} {a : Option Addr} {n c k : Nat} {xs : List Value} (h : Tl w a n c xs) (hk : k ≤ n) : Tl w (Option.map (fun x => x.add k) a) (n - k) (c - k) (xs.drop k) := by
  refine ⟨by rw [List.length_drop, h.1], ?_⟩
  rcases h.2 with ⟨rfl, rfl, rfl⟩ | ⟨g, off, cur, rfl, hg, hnc, hcm, hs, ht⟩
  · exact .inl ⟨rfl, by omega, by omega⟩
  · refine .inr ⟨g, off + k, cur, by rw [Option.map_some, addr_add], hg, by omega, by omega, by omega, ?_⟩
    rw [← ht, List.drop_take, List.drop_drop]
theorem Tl.drop_end {w : World} {a : Option Addr} {n c m : Nat} {xs : List Value} (h : Tl w a n c xs) (hm : m = 0) : Tl w a m (c - c) (xs.drop n) := by
  subst hm
  refine ⟨by rw [List.length_drop, h.1]; omega, ?_⟩
  rcases h.2 with ⟨rfl, rfl, rfl⟩ | ⟨g, off, cur, rfl, hg, hnc, hcm, hs, ht⟩
  · exact .inl ⟨rfl, rfl, rfl⟩
  · refine .inr ⟨g, off, cur, rfl, hg, by omega, by omega, by omega, ?_⟩
    have : xs.drop n = [] := List.drop_of_length_le (by rw [h.1]; omega)
    rw [this, List.take_zero]
set_option maxRecDepth 100000 in
/-- 'append(b, x...)' -/
theorem run_app_tl {w : World} {tyo : TypeId} {a1 : Option Addr} {n1 c1 : Nat} {xs1 : List Value} {a2 : Option Addr} {n2 c2 : Nat} {xs2 : List Value}
    (h1 : Tl w a1 n1 c1 xs1) (h2 : Sl w a2 n2 c2 xs2) (hone : ∀ u ∈ xs2, u.oneCell' = true) (hsz : n1 + n2 ≤ 140737488355328) :
    ∃ a' c' w', (Builtin.append_ #[23, 23] tyo #[.slice a1 n1 c1, .slice a2 n2 c2]).run Tryz.prog w = .ok (.slice a' (n1 + n2) c') w' ∧
      Tl w' a' (n1 + n2) c' (xs1 ++ xs2) ∧ w.grownBy w' (Value.ownBlock (.slice a1 n1 c1)) ∧ (∀ ad, a' = some ad → (∃ x, a1 = some x ∧ x.block = ad.block) ∨ w.heap.size ≤ ad.block) := by
  rcases h1.2 with ⟨rfl, rfl, rfl⟩ | ⟨g, off, cur, rfl, hg, hnc, hcm, hs, ht⟩
  · obtain rfl : xs1 = [] := List.eq_nil_of_length_eq_zero h1.1
    obtain ⟨a', c', w', hr, ho, hgr, hno⟩ := run_app_own tyU8 (B := 0) (tyo := tyo) (World.ownsRow_nil w 0 _ _) h2 hone (by omega) (by unfold maxLen; omega) (Nat.zero_le _)
    refine ⟨a', c', w', hr, Tl.of ho, hgr, fun ad ha => ?_⟩
    rcases hno ad.block (by rw [ha]; rfl) with h | h
    · cases h
    · exact .inr h
  · obtain ⟨i, hi, hz, hsize, hby⟩ := tyU8.ex
    have hl1 := h1.1
    cases a2 with
    | none =>
      have hc2 := h2.nil rfl
      have hn2 : n2 = 0 := by have := h2.cap_le; omega
      subst hn2; subst hc2
      obtain rfl : xs2 = [] := List.eq_nil_of_length_eq_zero h2.len
      refine ⟨_, c1, w, ?_, by simpa using h1, World.grownBy.refl _ _, fun ad ha => .inl ⟨_, rfl, by cases ha; rfl⟩⟩
      simp [Builtin.append_, run_underlying tyU8.ht, sizeOf, typeInfo, hi, Builtin.lenOf, Builtin.firstCells, hnc, storeCells]
    | some ad =>
      have hnews : ∀ j u, xs2[j]? = some u → w.cell? (ad.add j) = some u := by
        intro j u hu
        have hj : j < n2 := by have := (List.getElem?_eq_some_iff.1 hu).1; have := h2.len; omega
        obtain ⟨b, off', hab, hc⟩ := h2.cells (by omega)
        simp only [Option.some.injEq] at hab
        subst hab
        have := hc j hj
        rw [hu] at this
        rw [← this, addr_add]
      have hl2 : xs2.length = n2 * i.size := by rw [hsize, Nat.mul_one]; exact h2.len
      by_cases hroom : n1 + n2 ≤ c1
      · have hf := run_firstCells_some (P := Tryz.prog) w i.size n2 ad n2 c2 xs2 hl2 hnews
        rw [hsize] at hf
        have hx2 := h2.len
        have hst := run_storeCells_at Tryz.prog g (off + n1) 5 xs2 0 cur w hg (by omega) hone
        simp only [Nat.add_zero] at hst
        refine ⟨some ⟨g, off, none⟩, c1, w.setRow g (cur.toList.take (off + n1) ++ xs2 ++ cur.toList.drop (off + n1 + xs2.length)).toArray, ?_, ⟨by rw [List.length_append, hl1, h2.len], .inr ⟨g, off, _, rfl, setRow_heap w g cur _ _ _ hg, hroom, hcm, ?_, ?_⟩⟩, ⟨rfl, rfl, rfl, by simp, fun k _ hk => setRow_other w g k _ (fun e => hk (by simp [Value.ownBlock, e]))⟩, fun x hx => .inl ⟨_, rfl, by cases hx; rfl⟩⟩
        · simp [Builtin.append_, run_underlying tyU8.ht, sizeOf, typeInfo, hi, Builtin.lenOf, hroom, hf, hsize, addr_add, hst]
        · simp only [List.size_toArray, List.length_append, List.length_take, List.length_drop, Array.length_toList]; omega
        · have e1 : (cur.toList.take (off + n1) ++ xs2 ++ cur.toList.drop (off + n1 + xs2.length)).drop off = xs1 ++ (xs2 ++ cur.toList.drop (off + n1 + xs2.length)) := by
            rw [List.append_assoc, List.drop_append_of_le_length (by simp; omega), ← ht, List.drop_take]
            congr 2
            omega
          show (List.drop off (cur.toList.take (off + n1) ++ xs2 ++ cur.toList.drop (off + n1 + xs2.length)).toArray.toList).take (n1 + n2) = _
          rw [List.toList_toArray, e1, ← List.append_assoc]
          have hl : (xs1 ++ xs2).length = n1 + n2 := by rw [List.length_append, hl1, h2.len]
          rw [← hl]
          exact List.take_left
      · have hr := run_append_grow (P := Tryz.prog) w 23 tyo 5 i (.int .u8 0) tyU8.ht hi hz ⟨g, off, none⟩ n1 c1 xs1 (by rw [hsize, Nat.mul_one]; exact hl1) (by
          intro j v hv
          rw [addr_add]
          have hj : j < n1 := by have := (List.getElem?_eq_some_iff.1 hv).1; omega
          obtain ⟨b', off', hbo, hc⟩ := (Tl.sl h1).cells (by omega)
          simp only [Option.some.injEq, Addr.mk.injEq, and_true] at hbo
          obtain ⟨rfl, rfl⟩ := hbo
          rw [hc j hj, hv]) ad n2 c2 xs2 hl2 hnews (by omega) (by omega) (growslice_fits (by omega) (by rw [hby]; omega))
        refine ⟨_, _, _, hr, ⟨by rw [List.length_append, hl1, h2.len], .inr ⟨w.heap.size, 0, _, rfl, heap_alloc_new w.drew _, grownCap_ge w (n1 + n2) c1 _, grownCap_le_maxLen w (n1 + n2) c1 _ (by unfold maxLen; omega), ?_, ?_⟩⟩, ⟨rfl, rfl, rfl, by simp, fun k hk _ => heap_alloc_old w.drew _ hk⟩, fun x hx => .inr (by cases hx; exact Nat.le_refl _)⟩
        · have hge := grownCap_ge w (n1 + n2) c1 5
          have hx2 := h2.len
          simp only [Array.size_append, List.size_toArray, size_zeroCells, show (Value.int .u8 0).cells.size = 1 from rfl]
          omega
        · have hl : (xs1 ++ xs2).length = n1 + n2 := by rw [List.length_append, hl1, h2.len]
          simp only [Array.toList_append, List.drop_zero]
          rw [← hl]
          exact List.take_left
end Go.Proofs.YtfffefhchjnfjaaGreatDoor

/- Fields of one's own that begin anywhere in their row (l = l[1:]), and one field appended. No condition on the program. -/
import Derived.Test.YtaeanhpdlkgghaaDoorFld
import Derived.Test.YtaeanhpdlkgghaaDoorGrow
import Derived.Test.YtaeanhpdlkgghaaDoorGrowS
import Derived.Test.YtaeanhpdlkgghaaDoorWalk2
namespace Go.Proofs.YtaeanhpdlkgghaaDoor
open Go.RowKit

theorem sv_drop (l : List Fd) (k : Nat) : (sv l).drop (k * 2) = sv (l.drop k) := by
  induction l generalizing k with
  | nil => simp [sv]
  | cons f r ih =>
    cases k with
    | zero => simp
    | succ k =>
      have e : (k + 1) * 2 = k * 2 + 2 := by omega
      rw [e, List.drop_succ_cons, ← ih k]
      simp only [sv, scells, List.cons_append, List.nil_append]
      rfl
theorem sv_apps : ∀ a b : List Fd, sv (a ++ b) = sv a ++ sv b
  | [], _ => rfl
  | f :: r, b => by simp only [List.cons_append, sv, sv_apps r b, List.append_assoc]
/-- the fields l are one's own from some place of a row on -/
def TF (w : World) (a : Option Addr) (n c : Nat) (l : List Fd) : Prop :=
  l.length = n ∧ ((a = none ∧ n = 0 ∧ c = 0) ∨ ∃ (g off : Nat) (cur : Array Value), a = some ⟨g, off, none⟩ ∧ w.heap[g]? = some (.cells cur 23 (0, 0)) ∧ n ≤ c ∧ c ≤ maxLen ∧ off + c * 2 ≤ cur.size ∧ (cur.toList.drop off).take (n * 2) = sv l)
theorem TF.nil (w : World) : TF w none 0 0 [] := ⟨rfl, .inl ⟨rfl, rfl, rfl⟩⟩
theorem TF.sl {w : World} {a : Option Addr} {n c : Nat} {l : List Fd} (h : TF w a n c l) : SlS w a n c l := by
  obtain ⟨hl, h⟩ := h
  rcases h with ⟨rfl, rfl, rfl⟩ | ⟨g, off, cur, rfl, hg, hnc, hcm, hs, ht⟩
  · exact ⟨hl, Nat.le_refl _, Nat.zero_le _, fun h => absurd h (Nat.lt_irrefl _)⟩
  · refine ⟨hl, hnc, hcm, fun hn => ⟨g, off, rfl, fun i hi => ?_⟩⟩
    have key : ∀ j, j < 2 → w.cell? ⟨g, off + i * 2 + j, none⟩ = (scells l[i])[j]? := by
      intro j hj
      rw [← sv_get l i j hi hj, ← ht, List.getElem?_take, if_pos (by omega), List.getElem?_drop, Array.getElem?_toList, cell_of_row w g (off + i * 2 + j) cur _ (0, 0) hg, Nat.add_assoc]
    exact ⟨key 0 (by omega), key 1 (by omega)⟩
theorem TF.lt {w : World} {a : Option Addr} {n c : Nat} {l : List Fd} (h : TF w a n c l) : ∀ ad, a = some ad → ad.block < w.heap.size := by
  intro ad ha
  rcases h.2 with ⟨h0, _⟩ | ⟨g, off, cur, h0, hg, _⟩
  · rw [h0] at ha; cases ha
  · rw [h0] at ha; cases ha
    exact (Array.getElem?_eq_some_iff.1 hg).1
theorem TF.kept {X : Nat → Prop} {w w' : World} {a : Option Addr} {n c : Nat} {l : List Fd} (h : TF w a n c l) (hk : Kept X w w') (hx : ∀ ad, a = some ad → ¬ X ad.block) : TF w' a n c l := by
  refine ⟨h.1, ?_⟩
  rcases h.2 with h0 | ⟨g, off, cur, h0, hg, r⟩
  · exact .inl h0
  · exact .inr ⟨g, off, cur, h0, by rw [hk.block g (Array.getElem?_eq_some_iff.1 hg).1 (hx ⟨g, off, none⟩ h0)]; exact hg, r⟩
theorem TF.below {w w' : World} {a : Option Addr} {n c : Nat} {l : List Fd} (h : TF w a n c l) (hb : Below w.heap.size w w') : TF w' a n c l := h.kept (X := none') (Kept.of_below hb) (fun _ _ h => h)
/-- what is left behind the first -/
theorem TF.tail {w : World} {g off n c : Nat} {l : List Fd} (h : TF w (some ⟨g, off, none⟩) n c l) (hn : 0 < n) {a' : Option Addr} (ha : a' = if c = 1 then some ⟨g, off, none⟩ else some ⟨g, off + 2, none⟩) : TF w a' (n - 1) (c - 1) (l.drop 1) := by
  subst ha
  refine ⟨by rw [List.length_drop, h.1], ?_⟩
  rcases h.2 with ⟨h0, _⟩ | ⟨g', off', cur, h0, hg, hnc, hcm, hs, ht⟩
  · cases h0
  · cases h0
    by_cases hc : c = 1
    · rw [if_pos hc]
      refine .inr ⟨g, off, cur, rfl, hg, by omega, by omega, by omega, ?_⟩
      have : l.drop 1 = [] := List.drop_of_length_le (by have := h.1; omega)
      rw [this, show (n - 1) * 2 = 0 by omega, List.take_zero]; rfl
    · rw [if_neg hc]
      refine .inr ⟨g, off + 2, cur, rfl, hg, by omega, by omega, by omega, ?_⟩
      have e := sv_drop l 1
      rw [← e, ← ht, List.drop_take, List.drop_drop, show (n - 1) * 2 = n * 2 - 1 * 2 by omega]
theorem tyFld2 : ∃ i, Tryd.prog.info? 23 = some i ∧ i.zero = some (.agg #[.string .empty, .string .empty]) ∧ i.size = 2 ∧ i.bytes = 32 := info_parts infoFld
set_option maxRecDepth 100000 in
/-- 'append(l, f)' -/
theorem run_app_tf {w : World} {tyo : TypeId} {a1 : Option Addr} {n1 c1 : Nat} {l : List Fd} {ad : Addr} {c2 : Nat} {f : Fd}
    (h1 : TF w a1 n1 c1 l) (hnews : ∀ j u, (scells f)[j]? = some u → w.cell? (ad.add j) = some u) (hsz : (n1 + 1) * 32 ≤ 140737488355328) :
    ∃ a' c' w', (Builtin.append_ #[43, 43] tyo #[.slice a1 n1 c1, .slice (some ad) 1 c2]).run Tryd.prog w = .ok (.slice a' (n1 + 1) c') w' ∧
      TF w' a' (n1 + 1) c' (l ++ [f]) ∧ w.grownBy w' (Value.ownBlock (.slice a1 n1 c1)) ∧ (∀ x, a' = some x → (∃ y, a1 = some y ∧ y.block = x.block) ∨ w.heap.size ≤ x.block) := by
  obtain ⟨i, hi, hz, hsize, hby⟩ := tyFld2
  have ht : Tryd.prog.underlying 43 = some (.slice 23) := Tryd.underlying43
  have hone : ∀ u ∈ scells f, u.oneCell' = true := by
    intro u hu
    simp only [scells, List.mem_cons, List.not_mem_nil, or_false] at hu
    rcases hu with rfl | rfl <;> rfl
  have hl2 : (scells f).length = 1 * i.size := by rw [hsize]; rfl
  have hsvf : sv [f] = scells f := by simp [sv]
  rcases h1.2 with ⟨rfl, rfl, rfl⟩ | ⟨g, off, cur, rfl, hg, hnc, hcm, hs, htk⟩
  · obtain rfl : l = [] := List.eq_nil_of_length_eq_zero h1.1
    obtain ⟨a', c', w', hr, ho, hgr, hno⟩ := run_app_s (P := Tryd.prog) (s := 2) (bytes := 32) (tyo := tyo) (B := 0) (xs1 := []) (c2 := c2) ht hi hz hsize hby rfl (by decide) (World.ownsRow_nil w 0 _ _) (ad := ad) (n2 := 1) (xs2 := scells f) rfl hnews hone (by decide) hsz (by unfold maxLen; omega) (Nat.zero_le _)
    refine ⟨a', c', w', hr, ⟨rfl, ?_⟩, hgr, fun x hx => ?_⟩
    · rcases ho.2 with ⟨hv, h0⟩ | ⟨g, cap, cur, hv, hB, hg, hnc, hcm, hcs, ht2⟩
      · omega
      · simp only [Value.slice.injEq, true_and] at hv
        obtain ⟨rfl, rfl⟩ := hv
        exact .inr ⟨g, 0, cur, rfl, hg, hnc, hcm, by omega, by rw [List.drop_zero, ht2]; simp [sv]⟩
    · rcases hno x.block (by rw [hx]; rfl) with h | h
      · cases h
      · exact .inr h
  · have hl1 := h1.1
    have hlsv : (sv l).length = n1 * 2 := by rw [sv_length, hl1]
    by_cases hroom : n1 + 1 ≤ c1
    · have hf := run_firstCells_some (P := Tryd.prog) w i.size 1 ad 1 c2 (scells f) hl2 hnews
      rw [hsize] at hf
      have hst := run_storeCells_at Tryd.prog g (off + n1 * 2) 23 (scells f) 0 cur w hg (by simp [scells]; omega) hone
      simp only [Nat.add_zero] at hst
      refine ⟨some ⟨g, off, none⟩, c1, w.setRow g (cur.toList.take (off + n1 * 2) ++ scells f ++ cur.toList.drop (off + n1 * 2 + (scells f).length)).toArray, ?_, ⟨by rw [List.length_append, hl1]; rfl, .inr ⟨g, off, _, rfl, setRow_heap w g cur _ _ _ hg, hroom, hcm, ?_, ?_⟩⟩, ⟨rfl, rfl, rfl, by simp, fun k _ hk => setRow_other w g k _ (fun e => hk (by simp [Value.ownBlock, e]))⟩, fun x hx => .inl ⟨_, rfl, by cases hx; rfl⟩⟩
      · simp [Builtin.append_, run_underlying ht, sizeOf, typeInfo, hi, Builtin.lenOf, hroom, hf, hsize, addr_add, hst]
      · simp only [List.size_toArray, List.length_append, List.length_take, List.length_drop, Array.length_toList, scells, List.length_cons, List.length_nil]; omega
      · have hdr : (cur.toList.take (off + n1 * 2)).drop off = sv l := by rw [← htk, List.drop_take]; congr 1; omega
        show (List.drop off (cur.toList.take (off + n1 * 2) ++ scells f ++ cur.toList.drop (off + n1 * 2 + (scells f).length)).toArray.toList).take ((n1 + 1) * 2) = _
        rw [List.toList_toArray, List.append_assoc, List.drop_append_of_le_length (by simp; omega), hdr, sv_apps, hsvf, ← List.append_assoc]
        have hl : (sv l ++ scells f).length = (n1 + 1) * 2 := by rw [List.length_append, hlsv]; simp [scells]; omega
        rw [← hl]
        exact List.take_left
    · have hr := run_append_grow (P := Tryd.prog) w 43 tyo 23 i (.agg #[.string .empty, .string .empty]) ht hi hz ⟨g, off, none⟩ n1 c1 (sv l) (by rw [hsize]; exact hlsv) (by
        intro j v hv
        rw [addr_add]
        have hj : j < n1 * 2 := by rw [← hlsv]; exact (List.getElem?_eq_some_iff.1 hv).1
        rw [cell_of_row w g (off + j) cur _ (0, 0) hg, ← Array.getElem?_toList, ← List.getElem?_drop]
        rw [← htk, List.getElem?_take, if_pos hj] at hv
        exact hv) ad 1 c2 (scells f) hl2 hnews (by omega) (by omega) (growslice_fits (by omega) (by rw [hby]; omega))
      refine ⟨_, _, _, hr, ⟨by rw [List.length_append, hl1]; rfl, .inr ⟨w.heap.size, 0, _, rfl, heap_alloc_new w.drew _, grownCap_ge w (n1 + 1) c1 _, grownCap_le_maxLen w (n1 + 1) c1 _ (by unfold maxLen; omega), ?_, ?_⟩⟩, ⟨rfl, rfl, rfl, by simp, fun k hk _ => heap_alloc_old w.drew _ hk⟩, fun x hx => .inr (by cases hx; exact Nat.le_refl _)⟩
      · have hge := grownCap_ge w (n1 + 1) c1 23
        simp only [Array.size_append, List.size_toArray, size_zeroCells, show (Value.agg #[.string .empty, .string .empty]).cells.size = 2 from rfl, hlsv, scells, List.length_cons, List.length_nil]
        omega
      · have hl : (sv l ++ scells f).length = (n1 + 1) * 2 := by rw [List.length_append, hlsv]; simp [scells]; omega
        simp only [Array.toList_append, List.drop_zero]
        rw [sv_apps, hsvf, ← hl]
        exact List.take_left
end Go.Proofs.YtaeanhpdlkgghaaDoor

/- Frames that were written are read: a settings frame and a goaway behind it. Plain. -/
import Derived.Test.YtbplmnmkgkgkhaaHfRun
import Derived.Test.YtbplmnmkgkgkhaaVnInv
import Derived.Test.YtbplmnmkgkgkhaaHfSett
namespace Go.Proofs.Ytbplmnmkgkgkhaa
open Go.RowKit

theorem leftV_pos {l : List UInt8} {t : Nat} (h : t < l.length) : leftV ⟨l, t, 0⟩ ≠ 0 := by
  rw [leftV_ok rfl]
  show l.length - t ≠ 0
  omega
theorem numV_vl (a m : List UInt8) {k : Nat} (hk : k < 4611686018427387904) {l : List UInt8} (hl : l = a ++ (vl k ++ m)) {t : Nat} (ht : t = a.length) : numV ⟨l, t, 0⟩ = (k, ⟨l, t + (vl k).length, 0⟩) := by
  have h := getV_vl a m hk hl ht
  unfold numV
  simp only [if_true, h]
theorem vl_pos (k : Nat) : 0 < (vl k).length := by rw [vl_length]; exact (szN_pos k).1
def segN (x : Nat × Nat) : List UInt8 := vl x.1 ++ vl x.2
/-- settings one behind the other -/
theorem settW_segs : ∀ (ps : List (Nat × Nat)) (k : Nat) (pre l : List UInt8) (seen : List Nat) (s : St) (t : Nat), l = pre ++ ps.flatMap segN → t = pre.length → ps.length < k →
    (∀ x ∈ ps, x.1 < 4611686018427387904 ∧ x.2 < 4611686018427387904 ∧ ¬ (2 ≤ x.1 ∧ x.1 ≤ 5) ∧ x.1 ∉ seen) → (ps.map (·.1)).Nodup → settW k ⟨l, t, 0⟩ seen s = (ps.foldl (fun s x => s.put x.1 x.2) s, 0)
  | [], k, pre, l, seen, s, t, hl, ht, hk, _, _ => by
    obtain ⟨k, rfl⟩ : ∃ j, k = j + 1 := ⟨k - 1, by simp only [List.length_nil] at hk; omega⟩
    have : leftV ⟨l, t, 0⟩ = 0 := by
      rw [leftV_ok rfl]
      show l.length - t = 0
      rw [hl, ht]; simp
    unfold settW
    rw [if_pos this]
    rfl
  | (i, v) :: ps, k, pre, l, seen, s, t, hl, ht, hk, hx, hn => by
    obtain ⟨k, rfl⟩ : ∃ j, k = j + 1 := ⟨k - 1, by simp only [List.length_cons] at hk; omega⟩
    obtain ⟨h1, h2, h3, h4⟩ := hx (i, v) (List.mem_cons_self ..)
    have hl1 : l = pre ++ (vl i ++ (vl v ++ ps.flatMap segN)) := by rw [hl, List.flatMap_cons]; simp [segN]
    have hl2 : l = (pre ++ vl i) ++ (vl v ++ ps.flatMap segN) := by rw [hl1]; simp
    have e1 := numV_vl pre _ h1 hl1 ht
    have e2 := numV_vl (pre ++ vl i) _ h2 hl2 (t := t + (vl i).length) (by rw [List.length_append, ht])
    have hp := vl_pos i
    unfold settW
    rw [if_neg (leftV_pos (by rw [hl1]; simp; omega)), e1]
    simp only
    rw [e2]
    simp only
    rw [if_neg (by simp), if_neg (by intro h; rcases h with h | h; exact h4 h; exact h3 h)]
    simp only [List.map_cons, List.nodup_cons] at hn
    exact settW_segs ps k (pre ++ (vl i ++ vl v)) l (i :: seen) (s.put i v) _ (by rw [hl2]; simp) (by simp [ht]; omega) (by simp only [List.length_cons] at hk; omega) (fun x hm => by
      obtain ⟨g1, g2, g3, g4⟩ := hx x (List.mem_cons_of_mem _ hm)
      refine ⟨g1, g2, g3, fun hc => ?_⟩
      rcases List.mem_cons.1 hc with hc | hc
      · exact hn.1 (List.mem_map.2 ⟨x, hm, hc⟩)
      · exact g4 hc) hn.2
theorem sett_back {a b c : Int} (h : badS a b c = false) : settV (segA a ++ (segB b ++ segC c)) = (⟨a, b, c⟩, 0) := by
  have h' : ¬ (a < 0 ∨ b < 0 ∨ c < -1 ∨ 4611686018427387903 < a ∨ 4611686018427387903 < b ∨ 4611686018427387903 < c) := of_decide_eq_false h
  have key : ∀ (ps : List (Nat × Nat)), (∀ x ∈ ps, x.1 < 4611686018427387904 ∧ x.2 < 4611686018427387904 ∧ ¬ (2 ≤ x.1 ∧ x.1 ≤ 5) ∧ x.1 ∉ ([] : List Nat)) → (ps.map (·.1)).Nodup → ps.length < (ps.flatMap segN).length + 1 →
      settV (ps.flatMap segN) = (ps.foldl (fun s x => s.put x.1 x.2) ⟨0, 0, -1⟩, 0) := fun ps h1 h2 h3 =>
    settW_segs ps _ [] _ [] ⟨0, 0, -1⟩ 0 (by simp) rfl h3 h1 h2
  have hlen : ∀ ps : List (Nat × Nat), ps.length < (ps.flatMap segN).length + 1 := by
    intro ps
    induction ps with
    | nil => simp
    | cons x r ih =>
      have := vl_pos x.1
      simp only [List.length_cons, List.flatMap_cons, List.length_append, segN]
      omega
  have put1 : ∀ s v, St.put s 1 v = { s with cap := v } := fun s v => by unfold St.put; rw [if_pos rfl]
  have put6 : ∀ s v, St.put s 6 v = { s with lim := v } := fun s v => by unfold St.put; rw [if_neg (by decide), if_pos rfl]
  have put7 : ∀ s v, St.put s 7 v = { s with blk := v } := fun s v => by unfold St.put; rw [if_neg (by decide), if_neg (by decide), if_pos rfl]
  have e := fun ps h1 h2 => key ps h1 h2 (hlen ps)
  by_cases ha : a = 0
  · by_cases hb : b = 0
    · by_cases hc : c = -1
      · subst ha hb hc; rfl
      · have := e [(6, c.toNat)] (by intro x hx; simp at hx; subst hx; simp; omega) (by simp)
        simp only [List.flatMap_cons, List.flatMap_nil, segN, List.append_nil, List.foldl_cons, List.foldl_nil, put6] at this
        simp only [segA, segB, segC, seg, if_pos ha, if_pos hb, if_neg hc, List.nil_append]
        rw [this, ha, hb]; congr 2; omega
    · by_cases hc : c = -1
      · have := e [(7, b.toNat)] (by intro x hx; simp at hx; subst hx; simp; omega) (by simp)
        simp only [List.flatMap_cons, List.flatMap_nil, segN, List.append_nil, List.foldl_cons, List.foldl_nil, put7] at this
        simp only [segA, segB, segC, seg, if_pos ha, if_neg hb, if_pos hc, List.nil_append, List.append_nil]
        rw [this, ha, hc]; congr 2; omega
      · have := e [(7, b.toNat), (6, c.toNat)] (by intro x hx; simp at hx; rcases hx with rfl | rfl <;> simp <;> omega) (by simp)
        simp only [List.flatMap_cons, List.flatMap_nil, segN, List.append_nil, List.foldl_cons, List.foldl_nil, put7, put6] at this
        simp only [segA, segB, segC, seg, if_pos ha, if_neg hb, if_neg hc, List.nil_append]
        rw [this, ha]; congr 2 <;> omega
  · by_cases hb : b = 0
    · by_cases hc : c = -1
      · have := e [(1, a.toNat)] (by intro x hx; simp at hx; subst hx; simp; omega) (by simp)
        simp only [List.flatMap_cons, List.flatMap_nil, segN, List.append_nil, List.foldl_cons, List.foldl_nil, put1] at this
        simp only [segA, segB, segC, seg, if_neg ha, if_pos hb, if_pos hc, List.append_nil]
        rw [this, hb, hc]; congr 2; omega
      · have := e [(1, a.toNat), (6, c.toNat)] (by intro x hx; simp at hx; rcases hx with rfl | rfl <;> simp <;> omega) (by simp)
        simp only [List.flatMap_cons, List.flatMap_nil, segN, List.append_nil, List.foldl_cons, List.foldl_nil, put1, put6] at this
        simp only [segA, segB, segC, seg, if_neg ha, if_pos hb, if_neg hc, List.nil_append]
        rw [this, hb]; congr 2 <;> omega
    · by_cases hc : c = -1
      · have := e [(1, a.toNat), (7, b.toNat)] (by intro x hx; simp at hx; rcases hx with rfl | rfl <;> simp <;> omega) (by simp)
        simp only [List.flatMap_cons, List.flatMap_nil, segN, List.append_nil, List.foldl_cons, List.foldl_nil, put1, put7] at this
        simp only [segA, segB, segC, seg, if_neg ha, if_neg hb, if_pos hc, List.append_nil]
        rw [this, hc]; congr 2 <;> omega
      · have := e [(1, a.toNat), (7, b.toNat), (6, c.toNat)] (by intro x hx; simp at hx; rcases hx with rfl | rfl | rfl <;> simp <;> omega) (by simp)
        simp only [List.flatMap_cons, List.flatMap_nil, segN, List.append_nil, List.foldl_cons, List.foldl_nil, put1, put7, put6] at this
        simp only [segA, segB, segC, seg, if_neg ha, if_neg hb, if_neg hc]
        rw [this]; congr 2 <;> omega
end Go.Proofs.Ytbplmnmkgkgkhaa

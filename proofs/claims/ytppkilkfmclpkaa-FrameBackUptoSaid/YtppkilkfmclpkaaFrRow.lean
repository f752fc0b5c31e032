/- Rows of frames in memory; a frame appended; a field written. No condition on the program. -/
import Derived.Test.YtppkilkfmclpkaaFrSrcSp
namespace Go.Proofs.Ytppkilkfmclpkaa
open Go.RowKit

def fsv : List (Fm × FA) → List Value
  | [] => []
  | p :: r => fcells p.1 p.2 ++ fsv r
theorem fsv_length : ∀ l : List (Fm × FA), (fsv l).length = l.length * 13
  | [] => rfl
  | p :: r => by simp only [fsv, List.length_append, fcells_length, fsv_length r, List.length_cons]; omega
theorem fsv_get : ∀ (l : List (Fm × FA)) (i j : Nat) (hi : i < l.length), j < 13 → (fsv l)[i * 13 + j]? = (fcells l[i].1 l[i].2)[j]?
  | p :: r, 0, j, _, hj => by
    simp only [fsv, Nat.zero_mul, Nat.zero_add]
    rw [List.getElem?_append_left (by rw [fcells_length]; omega)]
    rfl
  | p :: r, i + 1, j, hi, hj => by
    simp only [fsv]
    rw [List.getElem?_append_right (by rw [fcells_length]; omega)]
    have e : (i + 1) * 13 + j - (fcells p.1 p.2).length = i * 13 + j := by rw [fcells_length]; omega
    rw [e, fsv_get r i j (by simpa using hi) hj]
    rfl
theorem fsv_append : ∀ l m : List (Fm × FA), fsv (l ++ m) = fsv l ++ fsv m
  | [], _ => rfl
  | p :: r, m => by simp [fsv, fsv_append r m]
theorem fsv_one : ∀ l : List (Fm × FA), ∀ u ∈ fsv l, u.oneCell' = true
  | [], u, h => by simp [fsv] at h
  | p :: r, u, h => by
    simp only [fsv, List.mem_append] at h
    rcases h with h | h
    · exact fcells_one _ _ u h
    · exact fsv_one r u h
/-- frames' row: its cells, and each frame's own rows -/
structure FRow (T : TypeId) (w : World) (B : Nat) (a : Option Addr) (c : Nat) (l : List (Fm × FA)) : Prop where
  row : w.ownsRow B T 13 (.slice a l.length c) l.length (fsv l)
  own : ∀ p ∈ l, FOwn w B p.1 p.2
theorem FRow.nil (T : TypeId) (w : World) (B : Nat) : FRow T w B none 0 [] := ⟨⟨rfl, .inl ⟨rfl, rfl⟩⟩, fun p h => by cases h⟩
theorem FRow.below {T : TypeId} {w w' : World} {B : Nat} {a : Option Addr} {c : Nat} {l : List (Fm × FA)} (h : FRow T w B a c l) (hb : Below w.heap.size w w') : FRow T w' B a c l := ⟨own_below h.row hb, fun p hp => (h.own p hp).below hb⟩
/-- what is kept but a struct of another type -/
theorem FRow.kept {T t : TypeId} {w w' : World} {B g : Nat} {a : Option Addr} {c : Nat} {l : List (Fm × FA)} {us : List Value} (h : FRow T w B a c l) (hg : Has w g t us) (hk : Kept (fun k => k = g) w w') (h1 : T ≠ t) (h2 : 5 ≠ t) (h3 : 53 ≠ t) : FRow T w' B a c l :=
  ⟨own_kept h.row hk (own_nty h.row hg h1), fun p hp => (h.own p hp).kept hk ((h.own p hp).nty hg h2 h3)⟩
theorem FRow.mono {T : TypeId} {w : World} {B B' : Nat} {a : Option Addr} {c : Nat} {l : List (Fm × FA)} (h : FRow T w B a c l) (hB : B' ≤ B) : FRow T w B' a c l := ⟨own_mono h.row hB, fun p hp => (h.own p hp).mono hB⟩
/-- its cells -/
theorem own_fr {T : TypeId} {w : World} {B : Nat} {a : Option Addr} {n c : Nat} {l : List (Fm × FA)} (h : w.ownsRow B T 13 (.slice a n c) n (fsv l)) (hl : l.length = n) {i : Nat} (hi : i < l.length) :
    ∃ s, a = some ⟨s, 0, none⟩ ∧ (∀ j, j < 13 → w.cell? ⟨s, i * 13 + j, none⟩ = (fcells l[i].1 l[i].2)[j]?) ∧ (∀ j, w.frozen? ⟨s, j, none⟩ = false) ∧ n ≤ c ∧ c ≤ maxLen := by
  have key : ∀ s, Value.ownBlock (.slice a n c) = some s → ∀ j, j < 13 → w.cell? ⟨s, i * 13 + j, none⟩ = (fcells l[i].1 l[i].2)[j]? := by
    intro s hs j hj
    have h1 := fsv_get l i j hi hj
    have hx : (fcells l[i].1 l[i].2)[j]? = some ((fcells l[i].1 l[i].2)[j]'(by rw [fcells_length]; omega)) := List.getElem?_eq_getElem _
    rw [hx] at h1
    have h2 := h.cells hs (i * 13 + j) _ h1
    rw [addr_add, Nat.zero_add] at h2
    rw [h2, hx]
  rcases h.2 with ⟨hv, rfl⟩ | ⟨g, cap, cur, hv, hB, hg, hnc, hcm, hcs, ht⟩
  · omega
  · simp only [Value.slice.injEq, true_and] at hv
    obtain ⟨rfl, rfl⟩ := hv
    exact ⟨g, rfl, key g rfl, fun j => by simp [World.frozen?, hg], hnc, hcm⟩
theorem own_sets {w : World} {B e s k : Nat} {n c : Nat} {xs : List Value} (h : w.ownsRow B e k (.slice (some ⟨s, 0, none⟩) n c) n xs) (i : Nat) (v : Value) :
    (w.setCell ⟨s, i, none⟩ v).ownsRow B e k (.slice (some ⟨s, 0, none⟩) n c) n (xs.set i v) := by
  refine ⟨by have := h.1; simpa using this, ?_⟩
  rcases h.2 with ⟨hv, _⟩ | ⟨g, cap, cur, hv, hB, hg, hnc, hcm, hcs, ht⟩
  · simp at hv
  · simp only [Value.slice.injEq, true_and, Option.some.injEq, Addr.mk.injEq, and_true] at hv
    obtain ⟨rfl, rfl⟩ := hv
    refine .inr ⟨s, c, cur.setIfInBounds i v, rfl, hB, by simp [World.setCell, Array.getElem?_modify, hg], hnc, hcm, by simpa using hcs, ?_⟩
    rw [← ht]
    simp [List.take_set]
theorem own_rows {w : World} {B B' e e' k s : Nat} {v : Value} {n : Nat} {xs : List Value} {n' c' : Nat} {xs' : List Value} {s' : Nat} (h : w.ownsRow B e s v n xs) (h2 : w.ownsRow B' e' k (.slice (some ⟨s', 0, none⟩) n' c') n' xs') (he : e ≠ e') (i : Nat) (u : Value) : (w.setCell ⟨s', i, none⟩ u).ownsRow B e s v n xs :=
  own_kept h (Kept.set w s' i u) (fun k hk e1 => own_own h h2 he k hk (by rw [e1]; rfl))
theorem fsv_set (l : List (Fm × FA)) (p q : Fm × FA) (j : Nat) (v : Value) (hj : j < 13) (h : (fcells p.1 p.2).set j v = fcells q.1 q.2) : (fsv (l ++ [p])).set (l.length * 13 + j) v = fsv (l ++ [q]) := by
  rw [fsv_append, fsv_append, List.set_append_right _ _ (by rw [fsv_length]; omega), fsv_length]
  congr 1
  rw [show l.length * 13 + j - l.length * 13 = j by omega]
  simp only [fsv, List.append_nil]
  exact h
/-- the last frame's N is written -/
theorem FRow.last {T : TypeId} {w : World} {B : Nat} {s c : Nat} {l : List (Fm × FA)} {p : Fm × FA} (h : FRow T w B (some ⟨s, 0, none⟩) c (l ++ [p])) (x : Int) (h2 : 5 ≠ T) (h3 : 53 ≠ T) :
    FRow T (w.setCell ⟨s, l.length * 13 + 3, none⟩ (.int .i64 x)) B (some ⟨s, 0, none⟩) c (l ++ [({ p.1 with n := x }, p.2)]) := by
  have hr := h.row
  refine ⟨?_, fun q hq => ?_⟩
  · have h1 := own_sets hr (l.length * 13 + 3) (.int .i64 x)
    rw [fsv_set l p ({ p.1 with n := x }, p.2) 3 (.int .i64 x) (by decide) rfl] at h1
    simpa using h1
  · have hp : ∃ q' ∈ l ++ [p], q'.1.data = q.1.data ∧ q'.1.cid = q.1.cid ∧ q'.1.spans = q.1.spans ∧ q'.2 = q.2 := by
      rcases List.mem_append.1 hq with hq | hq
      · exact ⟨q, List.mem_append_left _ hq, rfl, rfl, rfl, rfl⟩
      · rw [List.mem_singleton.1 hq]
        exact ⟨p, List.mem_append_right _ (List.mem_singleton.2 rfl), rfl, rfl, rfl, rfl⟩
    obtain ⟨q', hq', e1, e2, e3, e4⟩ := hp
    have ho := h.own q' hq'
    obtain ⟨d, ci, sp⟩ := ho
    rw [e1, e4] at d
    rw [e2, e4] at ci
    unfold Sps at sp
    rw [e3, e4] at sp
    exact ⟨own_rows d hr h2 _ _, own_rows ci hr h2 _ _, own_rows sp hr h3 _ _⟩
/-- what a frame's type takes -/
structure FTy (T TS : TypeId) : Prop where
  ht : Try.prog.underlying TS = some (.slice T)
  ex : ∃ i, Try.prog.info? T = some i ∧ i.zero = some (.agg (fcells fzero azero).toArray) ∧ i.size = 13 ∧ i.bytes = 152
/-- a frame appended -/
theorem run_app_fr {T TS : TypeId} (ty : FTy T TS) (h2 : 5 ≠ T) (h3 : 53 ≠ T) {B : Nat} {w : World} {tyo : TypeId} {a1 : Option Addr} {c1 : Nat} {l : List (Fm × FA)} {b : Nat} {p : Fm × FA} (h : FRow T w B a1 c1 l)
    (hrow : w.heap[b]? = some (.cells (fcells p.1 p.2).toArray T (0, 0))) (hp : FOwn w B p.1 p.2) (hsz : l.length ≤ 100000000) (hBw : B ≤ w.heap.size) :
    ∃ a' c' w', (Builtin.append_ #[TS, TS] tyo #[.slice a1 l.length c1, .slice (some ⟨b, 0, none⟩) 1 1]).run Try.prog w = .ok (.slice a' (l.length + 1) c') w' ∧
      FRow T w' B a' c' (l ++ [p]) ∧ w.grownBy w' (Value.ownBlock (.slice a1 l.length c1)) ∧ NewOr w (.slice a1 l.length c1) (.slice a' (l.length + 1) c') := by
  obtain ⟨i, hi, hz, hs, hby⟩ := ty.ex
  have hcell : ∀ j u, (fcells p.1 p.2)[j]? = some u → w.cell? ((⟨b, 0, none⟩ : Addr).add j) = some u := by
    intro j u hu
    rw [addr_add, Nat.zero_add, cell_of_row w b j _ _ _ hrow, ← hu]
    simp
  have e : fsv (l ++ [p]) = fsv l ++ fcells p.1 p.2 := by rw [fsv_append]; simp [fsv]
  obtain ⟨a', c', w', hr, ho, hg, hn⟩ := run_app_s (P := Try.prog) ty.ht hi hz hs hby (by rfl) (by decide) (tyo := tyo) h.row (by rfl) hcell (fun u hu => fcells_one _ _ u hu) (n2 := 1) (c2 := 1) (by decide) (by omega) (by unfold maxLen; omega) hBw
  have hk := Kept.of_grown hg
  refine ⟨a', c', w', hr, ⟨?_, fun q hq => ?_⟩, hg, hn⟩
  · rw [e, List.length_append]
    exact ho
  · have hq' : FOwn w B q.1 q.2 := by
      rcases List.mem_append.1 hq with hq | hq
      · exact h.own q hq
      · rw [List.mem_singleton.1 hq]; exact hp
    exact ⟨own_kept hq'.data hk (fun k e1 e2 => own_own hq'.data h.row h2 k e1 e2), own_kept hq'.cid hk (fun k e1 e2 => own_own hq'.cid h.row h2 k e1 e2), own_kept hq'.spans hk (fun k e1 e2 => own_own hq'.spans h.row h3 k e1 e2)⟩
theorem ftyP : FTy 26 42 := ⟨Try.underlying42, info_parts (by kernel_rfl)⟩
theorem ftyR : FTy 34 45 := ⟨Try.underlying45, info_parts (by kernel_rfl)⟩
end Go.Proofs.Ytppkilkfmclpkaa

/- Things that lie in memory beside each other: what a call leaves as it was, a struct's cells, rows of one's own. No condition on the program. -/
import Derived.Test.YtaeanhpdlkgghaaDoorMem
import Derived.Laws.IdiomCopy
namespace Go.Proofs.YtaeanhpdlkgghaaDoor
open Go.RowKit

/-- from w to w' nothing has changed but blocks of X, and what is new -/
structure Kept (X : Nat → Prop) (w w' : World) : Prop where
  os : w'.os = w.os
  tape : w'.tape = w.tape
  output : w'.output = w.output
  size : w.heap.size ≤ w'.heap.size
  block : ∀ k, k < w.heap.size → ¬ X k → w'.heap[k]? = w.heap[k]?

def none' : Nat → Prop := fun _ => False

theorem Kept.refl (X : Nat → Prop) (w : World) : Kept X w w := ⟨rfl, rfl, rfl, Nat.le_refl _, fun _ _ _ => rfl⟩
theorem Kept.trans {X Y : Nat → Prop} {w w1 w2 : World} (h : Kept X w w1) (h2 : Kept Y w1 w2) (hY : ∀ k, k < w.heap.size → Y k → X k) : Kept X w w2 :=
  ⟨h2.os.trans h.os, h2.tape.trans h.tape, h2.output.trans h.output, Nat.le_trans h.size h2.size, fun k hk hx => (h2.block k (Nat.lt_of_lt_of_le hk h.size) fun hy => hx (hY k hk hy)).trans (h.block k hk hx)⟩
theorem Kept.more {X Y : Nat → Prop} {w w' : World} (h : Kept X w w') (hX : ∀ k, k < w.heap.size → X k → Y k) : Kept Y w w' :=
  ⟨h.os, h.tape, h.output, h.size, fun k hk hy => h.block k hk fun hx => hy (hX k hk hx)⟩
theorem Kept.of_grown {w w' : World} {row : Option Nat} (h : w.grownBy w' row) : Kept (fun k => row = some k) w w' :=
  ⟨h.os, h.tape, h.output, h.size, fun k hk hx => h.block k hk (fun e => hx e.symm)⟩
theorem Kept.of_below {X : Nat → Prop} {w w' : World} (h : Below w.heap.size w w') : Kept X w w' := ⟨h.os, h.tape, h.output, h.size, fun k hk _ => h.block k hk⟩
theorem Kept.below {X : Nat → Prop} {B : Nat} {w w' : World} (h : Kept X w w') (hB : B ≤ w.heap.size) (hX : ∀ k, X k → B ≤ k) : Below B w w' :=
  ⟨h.os, h.tape, h.output, h.size, fun k hk => h.block k (by omega) fun hx => by have := hX k hx; omega⟩
theorem Kept.set (w : World) (g i : Nat) (v : Value) : Kept (fun k => k = g) w (w.setCell ⟨g, i, none⟩ v) := by
  refine ⟨rfl, rfl, rfl, by simp [World.setCell], fun k _ hx => ?_⟩
  simp only [World.setCell]
  rw [Array.getElem?_modify]
  rw [if_neg (fun e => hx e.symm)]
theorem Kept.alloc (X : Nat → Prop) (w : World) (o : Obj) : Kept X w (w.alloc o) := Kept.of_below ((Below.refl _ w).alloc (Nat.le_refl _) o)
theorem Kept.drew (X : Nat → Prop) (w : World) : Kept X w w.drew := ⟨rfl, rfl, rfl, Nat.le_refl _, fun _ _ _ => rfl⟩
theorem Kept.drewN (X : Nat → Prop) (w : World) (n : Nat) : Kept X w (w.drewN n) := Kept.of_below (below_drewN (Below.refl _ w) n)

theorem Kept.cell {X : Nat → Prop} {w w' : World} (h : Kept X w w') {ad : Addr} {u : Value} (hc : w.cell? ad = some u) (hx : ¬ X ad.block) : w'.cell? ad = some u := by
  have hlt := World.block_lt_of_cell? w _ hc
  have hb := h.block ad.block hlt hx
  have : Below (ad.block + 1) ({ w with heap := w.heap }) w' → w'.cell? ad = w.cell? ad := fun hb => hb.cell (by omega)
  rw [← hc]
  unfold World.cell?
  rw [hb]

/-- the struct at block g has these cells -/
def Has (w : World) (g : Nat) (t : TypeId) (vs : List Value) : Prop := w.heap[g]? = some (.cells vs.toArray t (0, 0))
theorem Has.lt {w : World} {g : Nat} {t : TypeId} {vs : List Value} (h : Has w g t vs) : g < w.heap.size := (Array.getElem?_eq_some_iff.1 h).1
theorem Has.kept {X : Nat → Prop} {w w' : World} {g : Nat} {t : TypeId} {vs : List Value} (h : Has w g t vs) (hk : Kept X w w') (hg : ¬ X g) : Has w' g t vs := by
  unfold Has; rw [hk.block g h.lt hg]; exact h
theorem Has.cell {w : World} {g : Nat} {t : TypeId} {vs : List Value} (h : Has w g t vs) (j : Nat) {v : Value} (hv : vs[j]? = some v) : w.cell? ⟨g, j, none⟩ = some v := by
  rw [cell_of_row w g j _ _ _ h, ← hv]; simp
theorem Has.free {w : World} {g : Nat} {t : TypeId} {vs : List Value} (h : Has w g t vs) (j : Nat) : w.frozen? ⟨g, j, none⟩ = false := by
  unfold Has at h
  simp [World.frozen?, h]
theorem Has.set {w : World} {g : Nat} {t : TypeId} {vs : List Value} (h : Has w g t vs) (i : Nat) (v : Value) : Has (w.setCell ⟨g, i, none⟩ v) g t (vs.set i v) := by
  unfold Has at h ⊢
  simp [World.setCell, Array.getElem?_modify, h]
theorem Has.other {w : World} {g : Nat} {t : TypeId} {vs : List Value} (h : Has w g t vs) {k : Nat} (hk : g ≠ k) (i : Nat) (v : Value) : Has (w.setCell ⟨k, i, none⟩ v) g t vs := h.kept (Kept.set w k i v) (fun e => hk e)
theorem Has.new (w : World) (t : TypeId) (vs : Array Value) : Has (w.alloc (.cells vs t)) w.heap.size t vs.toList := by
  unfold Has; rw [heap_alloc_new]

/-- a cell of one's own row -/
theorem own_cell {w : World} {B e : Nat} {a : Option Addr} {n c : Nat} {xs : List Value} (h : w.ownsRow B e 1 (.slice a n c) n xs) {i : Nat} (hi : i < n) :
    ∃ s, a = some ⟨s, 0, none⟩ ∧ w.cell? ⟨s, i, none⟩ = xs[i]? ∧ w.frozen? ⟨s, i, none⟩ = false ∧ n ≤ c ∧ c ≤ maxLen := by
  rcases h.2 with ⟨hv, rfl⟩ | ⟨g, cap, cur, hv, hB, hg, hnc, hcm, hcs, ht⟩
  · simp only [Value.slice.injEq] at hv; omega
  · simp only [Value.slice.injEq, true_and] at hv
    obtain ⟨rfl, rfl⟩ := hv
    refine ⟨g, rfl, ?_, by simp [World.frozen?, hg], hnc, hcm⟩
    rw [cell_of_row w g i cur e (0, 0) hg, ← ht, List.getElem?_take, if_pos (by omega), Array.getElem?_toList]
theorem own_set {w : World} {B e s : Nat} {n c : Nat} {xs : List Value} (h : w.ownsRow B e 1 (.slice (some ⟨s, 0, none⟩) n c) n xs) (i : Nat) (v : Value) :
    (w.setCell ⟨s, i, none⟩ v).ownsRow B e 1 (.slice (some ⟨s, 0, none⟩) n c) n (xs.set i v) := by
  refine ⟨by have := h.1; simpa using this, ?_⟩
  rcases h.2 with ⟨hv, _⟩ | ⟨g, cap, cur, hv, hB, hg, hnc, hcm, hcs, ht⟩
  · simp at hv
  · simp only [Value.slice.injEq, true_and, Option.some.injEq, Addr.mk.injEq, and_true] at hv
    obtain ⟨rfl, rfl⟩ := hv
    refine .inr ⟨s, c, cur.setIfInBounds i v, rfl, hB, by simp [World.setCell, Array.getElem?_modify, hg], hnc, hcm, by simpa using hcs, ?_⟩
    rw [← ht]
    simp [List.take_set]

/-- a row of one's own, whose block, if it has one, meets F -/
def Mine (F : Nat → Prop) (w : World) (e : Nat) (a : Option Addr) (n c : Nat) (xs : List Value) : Prop :=
  w.ownsRow 0 e 1 (.slice a n c) n xs ∧ ∀ k, Value.ownBlock (.slice a n c) = some k → F k
theorem own_kept {X : Nat → Prop} {w w' : World} {B e s : Nat} {v : Value} {n : Nat} {xs : List Value} (h : w.ownsRow B e s v n xs) (hk : Kept X w w') (hx : ∀ k, v.ownBlock = some k → ¬ X k) : w'.ownsRow B e s v n xs := by
  refine ⟨h.1, ?_⟩
  rcases h.2 with h2 | ⟨g, cap, cur, hv, hB, hg, r⟩
  · exact .inl h2
  · exact .inr ⟨g, cap, cur, hv, hB, by rw [hk.block g (Array.getElem?_eq_some_iff.1 hg).1 (hx g (by rw [hv]; rfl))]; exact hg, r⟩
theorem Sl.kept {X : Nat → Prop} {w w' : World} {a : Option Addr} {n cap : Nat} {xs : List Value} (h : Sl w a n cap xs) (hk : Kept X w w') (hx : ∀ ad, a = some ad → ¬ X ad.block) : Sl w' a n cap xs := by
  refine ⟨h.len, h.cap_le, h.cap_max, h.nil, fun hn => ?_⟩
  obtain ⟨b, off, rfl, hc⟩ := h.cells hn
  refine ⟨b, off, rfl, fun i hi => ?_⟩
  have h1 := hc i hi
  have hx' : xs[i]? = some (xs[i]'(by rw [h.len]; exact hi)) := List.getElem?_eq_getElem _
  rw [hx'] at h1 ⊢
  exact hk.cell h1 (hx ⟨b, off, none⟩ rfl)
end Go.Proofs.YtaeanhpdlkgghaaDoor

/- Decoding in plain words: each frame goes on in the bytes. No program in sight. -/
import Derived.Test.YtppkilkfmclpkaaFrOne
namespace Go.Proofs.Ytppkilkfmclpkaa
open Go.RowKit

/-- the reader goes on in the same bytes -/
structure Adv (V : Vr) (r : Rs) : Prop where
  l : r.V.l = V.l
  ok : r.err = 0 → V.at_ ≤ r.V.at_ ∧ r.V.fault = 0
theorem Adv.trans {V V' : Vr} {r : Rs} (h : Adv V' r) (hl : V'.l = V.l) (ha : V.at_ ≤ V'.at_) : Adv V r := ⟨h.l.trans hl, fun h0 => ⟨Nat.le_trans ha (h.ok h0).1, (h.ok h0).2⟩⟩
theorem Adv.bad {V : Vr} {x : Int} {f : Fm} (hx : x ≠ 0) : Adv V ⟨x, f, V⟩ := ⟨rfl, fun h => absurd h hx⟩
theorem Adv.good {V : Vr} {f : Fm} (hf : V.fault = 0) : Adv V ⟨0, f, V⟩ := ⟨rfl, fun _ => ⟨Nat.le_refl _, hf⟩⟩
theorem adv_nxN {V : Vr} {k : Nat → Vr → Rs} (h : ∀ n V', V'.fault = 0 → Adv V' (k n V')) : Adv V (nxN V k) := by
  unfold nxN
  by_cases h0 : (numV V).2.fault = 0
  · rw [if_pos h0]
    exact (h _ _ h0).trans (numV_l V) (numV_le V).2.1
  · rw [if_neg h0]
    exact ⟨numV_l V, fun h => by cases h⟩
theorem bytV_le (V : Vr) (m : Nat) : V.at_ ≤ (bytV V m).2.at_ := by
  unfold bytV
  by_cases h : V.fault = 0
  · rw [if_pos h]
    by_cases h2 : V.l.length - V.at_ < m
    · rw [if_pos h2]
      exact Nat.le_refl _
    · rw [if_neg h2]; exact Nat.le_add_right _ _
  · rw [if_neg h]
    exact Nat.le_refl _
theorem adv_nxB {V : Vr} {m : Nat} {k : List UInt8 → Vr → Rs} (h : ∀ l V', V'.fault = 0 → Adv V' (k l V')) : Adv V (nxB V m k) := by
  unfold nxB
  by_cases h0 : (bytV V m).2.fault = 0
  · rw [if_pos h0]
    exact (h _ _ h0).trans (bytV_l V m) (bytV_le V m)
  · rw [if_neg h0]
    exact ⟨bytV_l V m, fun h => by cases h⟩
theorem adv_nxT {V : Vr} {k : List UInt8 → Vr → Rs} (h : ∀ l V', V'.fault = 0 → Adv V' (k l V')) : Adv V (nxT V k) := by
  unfold nxT
  by_cases h0 : (txtV V).2.fault = 0
  · rw [if_pos h0]
    refine (h _ _ h0).trans (txtV_l V) ?_
    unfold txtV
    by_cases h1 : (numV V).2.fault = 0
    · rw [if_pos h1]; exact Nat.le_trans (numV_le V).2.1 (bytV_le _ _)
    · rw [if_neg h1]; exact (numV_le V).2.1
  · rw [if_neg h0]
    exact ⟨txtV_l V, fun h => by cases h⟩
theorem adv_spLoop (fd : Fm) : ∀ (m s h : Nat) (acc : List Sn) (V : Vr), V.fault = 0 → Adv V (spLoop fd m s h acc V) := by
  intro m
  induction m with
  | zero =>
    intro s h acc V hV
    by_cases h0 : h < s
    · rw [spLoop_bad h0]; exact Adv.bad (by decide)
    · rw [spLoop_end h0]; exact Adv.good hV
  | succ m ih =>
    intro s h acc V hV
    by_cases h0 : h < s
    · rw [spLoop_bad h0]; exact Adv.bad (by decide)
    · rw [spLoop_more h0]
      refine adv_nxN fun gap V' hV' => ?_
      by_cases h1 : h - s < gap + 2
      · rw [if_pos h1]; exact Adv.bad (by decide)
      · rw [if_neg h1]
        exact adv_nxN fun s2 V2 hV2 => ih _ _ _ _ hV2
theorem adv_spsV (V : Vr) (f : Fm) : Adv V (spsV V f) := by
  unfold spsV
  refine adv_nxN fun h V1 _ => adv_nxN fun d V2 _ => adv_nxN fun m V3 _ => ?_
  by_cases h1 : 64 ≤ m
  · rw [if_pos h1]; exact Adv.bad (by decide)
  · rw [if_neg h1]
    exact adv_nxN fun s V4 h4 => adv_spLoop _ _ _ _ _ _ h4
theorem adv_mkV : ∀ (r : Nat) (f : Fm) (V : Vr), V.fault = 0 → Adv V (mkV r f V)
  | 0, _, _, h => Adv.good h
  | r + 1, _, _, _ => adv_nxN fun _ V' h' => adv_mkV r _ V' h'
theorem adv_bind {V : Vr} {r : Rs} {k : Fm → Vr → Rs} (h : Adv V r) (hk : ∀ f V', V'.fault = 0 → Adv V' (k f V')) : Adv V (bindR r k) := by
  unfold bindR
  by_cases h0 : r.err = 0
  · rw [if_pos h0]
    exact (hk _ _ (h.ok h0).2).trans h.l (h.ok h0).1
  · rw [if_neg h0]; exact h
theorem adv_ite {V : Vr} {p : Prop} [Decidable p] {r1 r2 : Rs} (h1 : p → Adv V r1) (h2 : ¬ p → Adv V r2) : Adv V (if p then r1 else r2) := by
  by_cases h : p
  · rw [if_pos h]; exact h1 h
  · rw [if_neg h]; exact h2 h
theorem adv_items (V : Vr) (f : Fm) (hV : V.fault = 0) : Adv V (itemsV V f) := by
  unfold itemsV
  refine adv_ite (fun _ => adv_spsV V f) (fun _ => ?_)
  refine adv_ite (fun _ => adv_bind (adv_spsV V f) fun f V' h' => adv_mkV 3 f V' h') (fun _ => ?_)
  refine adv_ite (fun _ => adv_nxN fun _ _ _ => adv_nxN fun _ _ _ => adv_nxN fun _ _ h => Adv.good h) (fun _ => ?_)
  refine adv_ite (fun _ => adv_nxN fun _ _ _ => adv_nxN fun _ _ h => Adv.good h) (fun _ => ?_)
  refine adv_ite (fun _ => adv_nxN fun _ _ _ => adv_nxT fun _ _ h => Adv.good h) (fun _ => ?_)
  refine adv_ite (fun _ => adv_nxT fun _ _ h => Adv.good h) (fun _ => ?_)
  refine adv_ite (fun _ => adv_nxN fun _ _ _ => adv_nxN fun _ _ h => Adv.good h) (fun _ => ?_)
  refine adv_ite (fun _ => adv_nxN fun _ _ _ => adv_nxN fun _ _ _ => adv_nxB fun _ _ _ => adv_nxB fun _ _ _ => adv_nxB fun _ _ h => Adv.good h) (fun _ => ?_)
  refine adv_ite (fun _ => adv_nxB fun _ _ h => Adv.good h) (fun _ => ?_)
  refine adv_ite (fun _ => adv_nxN fun _ _ _ => adv_nxN fun _ _ _ => adv_nxT fun _ _ h => Adv.good h) (fun _ => ?_)
  refine adv_ite (fun _ => adv_nxN fun _ _ _ => adv_nxT fun _ _ h => Adv.good h) (fun _ => ?_)
  refine adv_ite (fun _ => Adv.good hV) (fun _ => ?_)
  exact adv_nxN fun _ _ h => Adv.good h
theorem adv_stm (V : Vr) (f : Fm) (k : Nat) : Adv V (stmV V f k) := by
  have h3 : ∀ (V : Vr) (f : Fm) (n : Nat), Adv V (stm3 V f k n) := fun V f n => by
    unfold stm3
    exact adv_nxB fun _ _ h => Adv.good h
  have h2 : ∀ (V : Vr) (f : Fm), Adv V (stm2 V f k) := fun V f => by
    unfold stm2
    split
    · exact adv_nxN fun _ _ _ => h3 _ _ _
    · exact h3 _ _ _
  have h1 : ∀ (V : Vr) (f : Fm), Adv V (stm1 V f k) := fun V f => by
    unfold stm1
    split
    · exact adv_nxN fun _ _ _ => h2 _ _
    · exact h2 _ _
  unfold stmV
  exact adv_nxN fun _ _ _ => h1 _ _
theorem adv_oneItems (k : Nat) (V : Vr) (hV : V.fault = 0) : Adv V (oneItems k V) := by
  unfold oneItems
  split
  · exact adv_stm V _ k
  · split
    · exact Adv.good hV
    · exact adv_items V _ hV
theorem adv_one2 {V : Vr} {r : Rs} (h : Adv V r) : Adv V (one2 r) := by
  unfold one2
  split
  · split
    · exact h
    · exact ⟨h.l, fun h => by cases h⟩
  · exact h
theorem adv_oneBody (t k : Nat) (V : Vr) (hV : V.fault = 0) : Adv V (oneBody t k V) := by
  unfold oneBody
  split
  · exact Adv.bad (by decide)
  · split
    · exact Adv.bad (by decide)
    · exact adv_one2 (adv_oneItems k V hV)
/-- a frame that is read takes at least a byte -/
theorem oneV_adv (V : Vr) : (oneV V).V.l = V.l ∧ ((oneV V).err = 0 → V.at_ < (oneV V).V.at_ ∧ (oneV V).V.fault = 0) := by
  unfold oneV nxN
  by_cases h0 : (numV V).2.fault = 0
  · rw [if_pos h0]
    have h1 := adv_oneBody V.at_ (numV V).1 (numV V).2 h0
    refine ⟨h1.l.trans (numV_l V), fun h2 => ⟨?_, (h1.ok h2).2⟩⟩
    exact Nat.lt_of_lt_of_le ((numV_le V).2.2 h0).2 (h1.ok h2).1
  · rw [if_neg h0]
    exact ⟨numV_l V, fun h => by cases h⟩
/-- a frame behind the others; paddings beside each other are one -/
def push (acc : List Fm) (f : Fm) : List Fm :=
  if f.kind = 0 then (match acc.getLast? with | some p => if p.kind = 0 then acc.dropLast ++ [{ p with n := p.n + 1 }] else acc ++ [f] | none => acc ++ [f]) else acc ++ [f]
def decL : Nat → Vr → List Fm → List Fm × Nat × Int
  | 0, _, acc => (acc, 0, 0)
  | n + 1, V, acc => if leftV V = 0 then (acc, 0, 0) else if (oneV V).err = 0 then decL n (oneV V).V (push acc (oneV V).f) else ([], V.at_, (oneV V).err)
def decV (l : List UInt8) : List Fm × Nat × Int := if 16384 < l.length then ([], 0, 52) else if l.length = 0 then ([], 0, 12) else decL l.length ⟨l, 0, 0⟩ []
/-- the number of rounds makes no difference, if it is enough -/
theorem decL_enough : ∀ (n m : Nat) (V : Vr) (acc : List Fm), V.fault = 0 → V.l.length - V.at_ ≤ n → n ≤ m → decL m V acc = decL n V acc := by
  intro n
  induction n with
  | zero =>
    intro m V acc hf hn _
    cases m with
    | zero => rfl
    | succ m =>
      have : leftV V = 0 := by rw [leftV_ok hf]; omega
      simp [decL, this]
  | succ n ih =>
    intro m V acc hf hn hm
    obtain ⟨m, rfl⟩ : ∃ k, m = k + 1 := ⟨m - 1, by omega⟩
    simp only [decL]
    by_cases h0 : leftV V = 0
    · rw [if_pos h0, if_pos h0]
    · rw [if_neg h0, if_neg h0]
      by_cases h1 : (oneV V).err = 0
      · rw [if_pos h1, if_pos h1]
        obtain ⟨hl, h2⟩ := oneV_adv V
        obtain ⟨h3, h4⟩ := h2 h1
        exact ih m _ _ h4 (by rw [hl]; rw [leftV_ok hf] at h0; omega) (by omega)
      · rw [if_neg h1, if_neg h1]
theorem decL_go {n : Nat} {V : Vr} {acc : List Fm} (hf : V.fault = 0) (hn : V.l.length - V.at_ ≤ n) (h0 : ¬ leftV V = 0) (h1 : (oneV V).err = 0) : decL n V acc = decL n (oneV V).V (push acc (oneV V).f) := by
  cases n with
  | zero => rw [leftV_ok hf] at h0; omega
  | succ n =>
    obtain ⟨hl, h2⟩ := oneV_adv V
    obtain ⟨h3, h4⟩ := h2 h1
    rw [decL_enough n (n + 1) (oneV V).V _ h4 (by rw [hl]; rw [leftV_ok hf] at h0; omega) (by omega)]
    simp only [decL]
    rw [if_neg h0, if_pos h1]
theorem decL_end {n : Nat} {V : Vr} {acc : List Fm} (h0 : leftV V = 0) : decL n V acc = (acc, 0, 0) := by
  cases n with
  | zero => rfl
  | succ n => simp only [decL]; rw [if_pos h0]
theorem decL_bad {n : Nat} {V : Vr} {acc : List Fm} (hf : V.fault = 0) (hn : V.l.length - V.at_ ≤ n) (h0 : ¬ leftV V = 0) (h1 : ¬ (oneV V).err = 0) : decL n V acc = ([], V.at_, (oneV V).err) := by
  cases n with
  | zero => rw [leftV_ok hf] at h0; omega
  | succ n => simp only [decL]; rw [if_neg h0, if_neg h1]
end Go.Proofs.Ytppkilkfmclpkaa

/- What stands ahead of a frame that can't be read is read the same without the rest. No program in sight. -/
import Derived.Test.YtppkilkfmclpkaaFrDecV
namespace Go.Proofs.Ytppkilkfmclpkaa
open Go.RowKit

/-- the reader on the first n bytes alone -/
def sh (n : Nat) (V : Vr) : Vr := { V with l := V.l.take n }
theorem getV_take {l : List UInt8} {t n : Nat} (h : (getV l t).2.2 = 0) (hn : (getV l t).2.1 ≤ n) : getV (l.take n) t = getV l t := by
  unfold getV at h hn ⊢
  by_cases h1 : l.length < t
  · rw [if_pos h1] at h; simp at h
  · rw [if_neg h1] at h hn ⊢
    cases hd : l.drop t with
    | nil => rw [hd] at h; simp at h
    | cons x r =>
      rw [hd] at h hn
      simp only at h hn ⊢
      have hsz := szB_cs x
      by_cases h2 : r.length + 1 < szB x
      · rw [if_pos h2] at h; simp at h
      · rw [if_neg h2] at h hn ⊢
        have hn' : t + szB x ≤ n := hn
        have hlen : (l.drop t).length = l.length - t := List.length_drop
        rw [hd] at hlen
        simp only [List.length_cons] at hlen
        have h3 : ¬ (l.take n).length < t := by rw [List.length_take]; omega
        rw [if_neg h3]
        have hd2 : (l.take n).drop t = x :: r.take (n - t - 1) := by
          rw [List.drop_take, hd]
          obtain ⟨k, hk⟩ : ∃ k, n - t = k + 1 := ⟨n - t - 1, by omega⟩
          rw [hk]
          simp
        rw [hd2]
        simp only
        have h4 : ¬ (r.take (n - t - 1)).length + 1 < szB x := by rw [List.length_take]; omega
        rw [if_neg h4]
        have h5 : (r.take (n - t - 1)).take (szB x - 1) = r.take (szB x - 1) := by rw [List.take_take, Nat.min_eq_left (by omega)]
        rw [h5]
theorem numV_sh {n : Nat} {V : Vr} (h : (numV V).2.fault = 0) (hn : (numV V).2.at_ ≤ n) : numV (sh n V) = ((numV V).1, sh n (numV V).2) := by
  obtain ⟨hf, _⟩ := (numV_le V).2.2 h
  unfold numV at h hn ⊢
  rw [if_pos hf] at h hn ⊢
  have hf' : (sh n V).fault = 0 := hf
  rw [if_pos hf']
  by_cases h2 : (getV V.l V.at_).2.2 = 0
  · rw [if_pos h2] at h hn ⊢
    have e : getV (sh n V).l (sh n V).at_ = getV V.l V.at_ := getV_take h2 hn
    rw [e, if_pos h2]
    rfl
  · rw [if_neg h2] at h
    exact absurd h h2
theorem bytV_sh {n : Nat} {V : Vr} {m : Nat} (h : (bytV V m).2.fault = 0) (hn : (bytV V m).2.at_ ≤ n) : bytV (sh n V) m = ((bytV V m).1, sh n (bytV V m).2) := by
  unfold bytV at h hn ⊢
  by_cases hf : V.fault = 0
  · rw [if_pos hf] at h hn ⊢
    have hf' : (sh n V).fault = 0 := hf
    rw [if_pos hf']
    by_cases h2 : V.l.length - V.at_ < m
    · rw [if_pos h2] at h; cases h
    · rw [if_neg h2] at h hn ⊢
      have hn' : V.at_ + m ≤ n := hn
      by_cases hm : m = 0
      · subst hm
        rw [if_neg (Nat.not_lt_zero _)]
        simp [sh]
      · have h3 : ¬ (sh n V).l.length - (sh n V).at_ < m := by
          show ¬ (V.l.take n).length - V.at_ < m
          rw [List.length_take]; omega
        rw [if_neg h3]
        have e : ((sh n V).l.drop (sh n V).at_).take m = (V.l.drop V.at_).take m := by
          show ((V.l.take n).drop V.at_).take m = _
          rw [List.drop_take, List.take_take, Nat.min_eq_left (by omega)]
        rw [e]
        rfl
  · rw [if_neg hf] at h; exact absurd h hf
/-- a part's reading looks no further than it goes -/
structure PL (k : Vr → Rs) : Prop where
  adv : ∀ V, V.fault = 0 → Adv V (k V)
  loc : ∀ n V, V.fault = 0 → (k V).err = 0 → (k V).V.at_ ≤ n → k (sh n V) = ⟨0, (k V).f, sh n (k V).V⟩
theorem PL.nxN {k : Nat → Vr → Rs} (h : ∀ x, PL (k x)) : PL (fun V => Go.Proofs.Ytppkilkfmclpkaa.nxN V k) := by
  refine ⟨fun V _ => adv_nxN fun x V' h' => (h x).adv V' h', fun n V hV he hn => ?_⟩
  have e0 := nxN_ok he
  have hf : (numV V).2.fault = 0 := by
    unfold Go.Proofs.Ytppkilkfmclpkaa.nxN at he
    by_cases h0 : (numV V).2.fault = 0
    · exact h0
    · rw [if_neg h0] at he; cases he
  simp only [e0] at he hn ⊢
  have hle := ((h (numV V).1).adv (numV V).2 hf).ok he
  have e1 := numV_sh hf (Nat.le_trans hle.1 hn)
  have e2 : Go.Proofs.Ytppkilkfmclpkaa.nxN (sh n V) k = k (numV V).1 (sh n (numV V).2) := by
    unfold Go.Proofs.Ytppkilkfmclpkaa.nxN
    rw [e1]
    exact if_pos hf
  rw [e2]
  exact (h _).loc n _ hf he hn
theorem nxB_ok {V : Vr} {m : Nat} {k : List UInt8 → Vr → Rs} (h : (nxB V m k).err = 0) : (bytV V m).2.fault = 0 ∧ nxB V m k = k (bytV V m).1 (bytV V m).2 := by
  unfold nxB at h ⊢
  by_cases h0 : (bytV V m).2.fault = 0
  · rw [if_pos h0]; exact ⟨h0, rfl⟩
  · rw [if_neg h0] at h; cases h
theorem nxT_ok {V : Vr} {k : List UInt8 → Vr → Rs} (h : (nxT V k).err = 0) : (numV V).2.fault = 0 ∧ nxT V k = nxB (numV V).2 (numV V).1 k := by
  unfold nxT at h ⊢
  by_cases h0 : (txtV V).2.fault = 0
  · rw [if_pos h0]
    have h1 : (numV V).2.fault = 0 := by
      unfold txtV at h0
      by_cases h1 : (numV V).2.fault = 0
      · exact h1
      · rw [if_neg h1] at h0; exact absurd h0 h1
    have e : txtV V = bytV (numV V).2 (numV V).1 := by unfold txtV; rw [if_pos h1]
    refine ⟨h1, ?_⟩
    rw [e] at h0 ⊢
    unfold nxB
    rw [if_pos h0]
  · rw [if_neg h0] at h; cases h
theorem PL.nxB {m : Nat} {k : List UInt8 → Vr → Rs} (h : ∀ x, PL (k x)) : PL (fun V => Go.Proofs.Ytppkilkfmclpkaa.nxB V m k) := by
  refine ⟨fun V _ => adv_nxB fun x V' h' => (h x).adv V' h', fun n V hV he hn => ?_⟩
  obtain ⟨hf, e0⟩ := nxB_ok he
  simp only [e0] at he hn ⊢
  have hle := ((h (bytV V m).1).adv (bytV V m).2 hf).ok he
  have e1 := bytV_sh hf (Nat.le_trans hle.1 hn)
  have e2 : Go.Proofs.Ytppkilkfmclpkaa.nxB (sh n V) m k = k (bytV V m).1 (sh n (bytV V m).2) := by
    unfold Go.Proofs.Ytppkilkfmclpkaa.nxB
    rw [e1]
    exact if_pos hf
  rw [e2]
  exact (h _).loc n _ hf he hn
theorem PL.nxT {k : List UInt8 → Vr → Rs} (h : ∀ x, PL (k x)) : PL (fun V => Go.Proofs.Ytppkilkfmclpkaa.nxT V k) := by
  refine ⟨fun V _ => adv_nxT fun x V' h' => (h x).adv V' h', fun n V hV he hn => ?_⟩
  obtain ⟨hf, e0⟩ := nxT_ok he
  simp only [e0] at he hn ⊢
  have hpl := PL.nxB (m := (numV V).1) h
  have hle := (hpl.adv (numV V).2 hf).ok he
  have e1 := numV_sh hf (Nat.le_trans hle.1 hn)
  have e3 := hpl.loc n _ hf he hn
  have e2 : Go.Proofs.Ytppkilkfmclpkaa.nxT (sh n V) k = Go.Proofs.Ytppkilkfmclpkaa.nxB (sh n (numV V).2) (numV V).1 k := by
    have hf2 : (numV (sh n V)).2.fault = 0 := by rw [e1]; exact hf
    have ht : txtV (sh n V) = bytV (sh n (numV V).2) (numV V).1 := by
      unfold txtV
      rw [if_pos hf2, e1]
    unfold Go.Proofs.Ytppkilkfmclpkaa.nxT Go.Proofs.Ytppkilkfmclpkaa.nxB
    rw [ht]
  rw [e2]
  exact e3
theorem PL.good {f : Fm} : PL (fun V => ⟨0, f, V⟩) := ⟨fun _ h => Adv.good h, fun _ _ _ _ _ => rfl⟩
theorem PL.bad {x : Int} (hx : x ≠ 0) : PL (fun V => ⟨x, fzero, V⟩) := ⟨fun _ _ => Adv.bad hx, fun _ _ _ he _ => absurd he hx⟩
theorem PL.ite {p : Prop} [Decidable p] {r1 r2 : Vr → Rs} (h1 : p → PL r1) (h2 : ¬ p → PL r2) : PL (fun V => if p then r1 V else r2 V) := by
  by_cases h : p
  · have e : (fun V => if p then r1 V else r2 V) = r1 := by funext V; rw [if_pos h]
    rw [e]; exact h1 h
  · have e : (fun V => if p then r1 V else r2 V) = r2 := by funext V; rw [if_neg h]
    rw [e]; exact h2 h
theorem pl_spLoop (fd : Fm) : ∀ (m s h : Nat) (acc : List Sn), PL (spLoop fd m s h acc) := by
  intro m
  induction m with
  | zero =>
    intro s h acc
    by_cases h0 : h < s
    · have e : spLoop fd 0 s h acc = fun V => ⟨51, fzero, V⟩ := by funext V; exact spLoop_bad h0
      rw [e]; exact PL.bad (by decide)
    · have e : spLoop fd 0 s h acc = fun V => ⟨0, { fd with spans := (acc ++ [sn1 h s]).reverse }, V⟩ := by funext V; exact spLoop_end h0
      rw [e]; exact PL.good
  | succ m ih =>
    intro s h acc
    by_cases h0 : h < s
    · have e : spLoop fd (m + 1) s h acc = fun V => ⟨51, fzero, V⟩ := by funext V; exact spLoop_bad h0
      rw [e]; exact PL.bad (by decide)
    · have e : spLoop fd (m + 1) s h acc = fun V => nxN V fun gap V => if h - s < gap + 2 then ⟨51, fzero, V⟩ else nxN V fun s2 V => spLoop fd m s2 (h - s - (gap + 2)) (acc ++ [sn1 h s]) V := by funext V; exact spLoop_more h0
      rw [e]
      exact PL.nxN fun gap => PL.ite (fun _ => PL.bad (by decide)) (fun _ => PL.nxN fun s2 => ih _ _ _)
theorem pl_spsV (f : Fm) : PL (fun V => spsV V f) := by
  unfold spsV
  exact PL.nxN fun h => PL.nxN fun d => PL.nxN fun m => PL.ite (fun _ => PL.bad (by decide)) (fun _ => PL.nxN fun s => pl_spLoop _ _ _ _ _)
theorem pl_mkV : ∀ (r : Nat) (f : Fm), PL (mkV r f)
  | 0, _ => PL.good
  | r + 1, _ => PL.nxN fun _ => pl_mkV r _
theorem pl_bind {r : Vr → Rs} {k : Fm → Vr → Rs} (h : PL r) (hk : ∀ f, PL (k f)) : PL (fun V => bindR (r V) k) := by
  refine ⟨fun V hV => adv_bind (h.adv V hV) fun f V' h' => (hk f).adv V' h', fun n V hV he hn => ?_⟩
  have h0 : (r V).err = 0 := by
    unfold bindR at he
    by_cases h0 : (r V).err = 0
    · exact h0
    · rw [if_neg h0] at he; exact absurd he h0
  have e0 : bindR (r V) k = k (r V).f (r V).V := by unfold bindR; rw [if_pos h0]
  simp only [e0] at he hn ⊢
  have hf := ((h.adv V hV).ok h0).2
  have hle := ((hk (r V).f).adv (r V).V hf).ok he
  have e1 := h.loc n V hV h0 (Nat.le_trans hle.1 hn)
  have e2 : bindR (r (sh n V)) k = k (r V).f (sh n (r V).V) := by
    rw [e1]; unfold bindR; exact if_pos rfl
  rw [e2]
  exact (hk _).loc n _ hf he hn
theorem pl_items (f : Fm) : PL (fun V => itemsV V f) := by
  unfold itemsV
  refine PL.ite (fun _ => pl_spsV f) (fun _ => ?_)
  refine PL.ite (fun _ => pl_bind (pl_spsV f) (fun f => pl_mkV 3 f)) (fun _ => ?_)
  refine PL.ite (fun _ => PL.nxN fun _ => PL.nxN fun _ => PL.nxN fun _ => PL.good) (fun _ => ?_)
  refine PL.ite (fun _ => PL.nxN fun _ => PL.nxN fun _ => PL.good) (fun _ => ?_)
  refine PL.ite (fun _ => PL.nxN fun _ => PL.nxT fun _ => PL.good) (fun _ => ?_)
  refine PL.ite (fun _ => PL.nxT fun _ => PL.good) (fun _ => ?_)
  refine PL.ite (fun _ => PL.nxN fun _ => PL.nxN fun _ => PL.good) (fun _ => ?_)
  refine PL.ite (fun _ => PL.nxN fun _ => PL.nxN fun _ => PL.nxB fun _ => PL.nxB fun _ => PL.nxB fun _ => PL.good) (fun _ => ?_)
  refine PL.ite (fun _ => PL.nxB fun _ => PL.good) (fun _ => ?_)
  refine PL.ite (fun _ => PL.nxN fun _ => PL.nxN fun _ => PL.nxT fun _ => PL.good) (fun _ => ?_)
  refine PL.ite (fun _ => PL.nxN fun _ => PL.nxT fun _ => PL.good) (fun _ => ?_)
  refine PL.ite (fun _ => PL.good) (fun _ => ?_)
  exact PL.nxN fun _ => PL.good
/-- what takes all that is left -/
theorem pl_all {k : Vr → Rs} (h : ∀ V, V.fault = 0 → Adv V (k V)) (hall : ∀ V, V.fault = 0 → (k V).err = 0 → V.l.length ≤ (k V).V.at_) : PL k := by
  refine ⟨h, fun n V hV he hn => ?_⟩
  have hl := hall V hV he
  have e : sh n V = V := by
    unfold sh
    rw [List.take_of_length_le (Nat.le_trans hl hn)]
  have e2 : sh n (k V).V = (k V).V := by
    unfold sh
    rw [(h V hV).l, List.take_of_length_le (Nat.le_trans hl hn), ← (h V hV).l]
  rw [e, e2, ← he]
theorem pl_stm3 (f : Fm) (k n : Nat) : PL (fun V => stm3 V f k n) := by
  unfold stm3
  exact PL.nxB fun _ => PL.good
theorem pl_stm2 (f : Fm) (k : Nat) : PL (fun V => stm2 V f k) := by
  unfold stm2
  refine PL.ite (fun _ => PL.nxN fun n => pl_stm3 f k n) (fun _ => pl_all ?_ ?_)
  · intro V _
    unfold stm3
    exact adv_nxB fun _ _ h => Adv.good h
  · intro V hV he
    unfold stm3 at he ⊢
    obtain ⟨hf, e0⟩ := nxB_ok he
    rw [e0]
    show V.l.length ≤ (bytV V (leftV V)).2.at_
    rw [leftV_ok hV]
    unfold bytV
    rw [if_pos hV, if_neg (Nat.lt_irrefl _)]
    show V.l.length ≤ V.at_ + (V.l.length - V.at_)
    omega
theorem pl_stm (f : Fm) (k : Nat) : PL (fun V => stmV V f k) := by
  have h1 : ∀ f, PL (fun V => stm1 V f k) := fun f => by
    unfold stm1
    exact PL.ite (fun _ => PL.nxN fun _ => pl_stm2 _ k) (fun _ => pl_stm2 f k)
  unfold stmV
  exact PL.nxN fun _ => h1 _
theorem pl_oneItems (k : Nat) : PL (oneItems k) := by
  unfold oneItems
  exact PL.ite (fun _ => pl_stm _ k) (fun _ => PL.ite (fun _ => PL.good) (fun _ => pl_items _))
theorem pl_one2 {r : Vr → Rs} (h : PL r) : PL (fun V => one2 (r V)) := by
  refine ⟨fun V hV => adv_one2 (h.adv V hV), fun n V hV he hn => ?_⟩
  have h0 : (r V).err = 0 ∧ chkF (r V).f = 0 := by
    unfold one2 at he
    by_cases h0 : (r V).err = 0
    · rw [if_pos h0] at he
      by_cases h1 : chkF (r V).f = 0
      · exact ⟨h0, h1⟩
      · rw [if_neg h1] at he; cases he
    · rw [if_neg h0] at he; exact absurd he h0
  have e0 : one2 (r V) = r V := by unfold one2; rw [if_pos h0.1, if_pos h0.2]
  simp only [e0] at he hn ⊢
  rw [h.loc n V hV h0.1 hn]
  unfold one2
  rw [if_pos rfl, if_pos h0.2]
theorem oneV_sh {n : Nat} {V : Vr} (hV : V.fault = 0) (he : (oneV V).err = 0) (hn : (oneV V).V.at_ ≤ n) : oneV (sh n V) = ⟨0, (oneV V).f, sh n (oneV V).V⟩ := by
  have hb : ∀ (t x : Nat), PL (fun V' => oneBody t x V') := fun t x => by
    refine ⟨fun V' h' => adv_oneBody t x V' h', fun n V' h' he hn => ?_⟩
    unfold oneBody at he hn ⊢
    by_cases h1 : ¬ V'.at_ - t = szN x
    · rw [if_pos h1] at he; cases he
    · rw [if_neg h1] at he hn ⊢
      have h1' : ¬ ¬ (sh n V').at_ - t = szN x := h1
      rw [if_neg h1']
      by_cases h2 : 30 < x
      · rw [if_pos h2] at he; cases he
      · rw [if_neg h2] at he hn ⊢
        rw [if_neg h2]
        exact (pl_one2 (pl_oneItems x)).loc n V' h' he hn
  exact (PL.nxN (fun x => hb V.at_ x)).loc n V hV he hn
theorem push_ne (acc : List Fm) (f : Fm) : push acc f ≠ [] := by
  unfold push
  split
  · split
    · split <;> simp
    · simp
  · simp
theorem decL_ne : ∀ (n : Nat) (V : Vr) (acc : List Fm), (acc ≠ [] ∨ (0 < n ∧ ¬ leftV V = 0)) → (decL n V acc).2.2 = 0 → (decL n V acc).1 ≠ [] := by
  intro n
  induction n with
  | zero =>
    intro V acc h _
    rcases h with h | h
    · exact h
    · exact absurd h.1 (Nat.lt_irrefl _)
  | succ n ih =>
    intro V acc h he
    simp only [decL] at he ⊢
    by_cases h0 : leftV V = 0
    · rw [if_pos h0]
      rcases h with h | h
      · exact h
      · exact absurd h0 h.2
    · rw [if_neg h0] at he ⊢
      by_cases h1 : (oneV V).err = 0
      · rw [if_pos h1] at he ⊢
        exact ih _ _ (.inl (push_ne _ _)) he
      · rw [if_neg h1] at he; exact absurd he h1
/-- up to the place of the frame that can't be read, all are read -/
theorem decL_sh : ∀ (n : Nat) (V : Vr) (acc : List Fm), V.fault = 0 → V.l.length - V.at_ ≤ n → ¬ (decL n V acc).2.2 = 0 →
    V.at_ ≤ (decL n V acc).2.1 ∧ (decL n V acc).2.1 < V.l.length ∧ (decL n (sh (decL n V acc).2.1 V) acc).2.2 = 0 ∧ (decL n (sh (decL n V acc).2.1 V) acc).2.1 = 0 := by
  intro n
  induction n with
  | zero => intro V acc _ _ he; exact absurd rfl he
  | succ n ih =>
    intro V acc hV hn he
    by_cases h0 : leftV V = 0
    · rw [decL_end h0] at he; exact absurd rfl he
    have h0' := h0
    rw [leftV_ok hV] at h0'
    by_cases h1 : (oneV V).err = 0
    · obtain ⟨hl, h2⟩ := oneV_adv V
      obtain ⟨h3, h4⟩ := h2 h1
      have e0 : decL (n + 1) V acc = decL n (oneV V).V (push acc (oneV V).f) := by simp only [decL]; rw [if_neg h0, if_pos h1]
      rw [e0] at he ⊢
      obtain ⟨i1, i2, i3, i4⟩ := ih (oneV V).V (push acc (oneV V).f) h4 (by rw [hl]; omega) he
      rw [hl] at i2
      obtain ⟨t, ht⟩ : ∃ t, t = (decL n (oneV V).V (push acc (oneV V).f)).2.1 := ⟨_, rfl⟩
      rw [← ht] at i1 i2 i3 i4 ⊢
      refine ⟨by omega, i2, ?_⟩
      have es := oneV_sh hV h1 i1
      have hls : ¬ leftV (sh t V) = 0 := by
        rw [leftV_ok (show (sh t V).fault = 0 from hV)]
        show ¬ (V.l.take t).length - V.at_ = 0
        rw [List.length_take]; omega
      have e1 : decL (n + 1) (sh t V) acc = decL n (sh t (oneV V).V) (push acc (oneV V).f) := by
        simp only [decL]
        rw [if_neg hls, es, if_pos rfl]
      rw [e1]
      exact ⟨i3, i4⟩
    · have e0 : decL (n + 1) V acc = ([], V.at_, (oneV V).err) := decL_bad hV hn h0 h1
      rw [e0]
      refine ⟨Nat.le_refl _, by show V.at_ < V.l.length; omega, ?_⟩
      have hls : leftV (sh V.at_ V) = 0 := by
        rw [leftV_ok (show (sh V.at_ V).fault = 0 from hV)]
        show (V.l.take V.at_).length - V.at_ = 0
        rw [List.length_take]; omega
      rw [decL_end hls]
      exact ⟨rfl, rfl⟩
/-- the plain law of FrameAhead -/
theorem dec_ahead (l : List UInt8) : ((decV l).2.2 = 0 → (decV l).1 ≠ []) ∧ (¬ (decV l).2.2 = 0 → (decV l).2.1 ≤ l.length ∧ (¬ (decV l).2.1 = 0 → (decV (l.take (decV l).2.1)).2.2 = 0 ∧ (decV (l.take (decV l).2.1)).2.1 = 0 ∧ (decV (l.take (decV l).2.1)).1 ≠ [])) := by
  by_cases h1 : 16384 < l.length
  · have e : decV l = ([], 0, 52) := by unfold decV; rw [if_pos h1]
    rw [e]
    exact ⟨(fun h => by cases h), fun _ => ⟨Nat.zero_le _, fun h => absurd rfl h⟩⟩
  by_cases h2 : l.length = 0
  · have e : decV l = ([], 0, 12) := by unfold decV; rw [if_neg h1, if_pos h2]
    rw [e]
    exact ⟨(fun h => by cases h), fun _ => ⟨Nat.zero_le _, fun h => absurd rfl h⟩⟩
  have e : decV l = decL l.length ⟨l, 0, 0⟩ [] := by unfold decV; rw [if_neg h1, if_neg h2]
  have hl0 : ¬ leftV ⟨l, 0, 0⟩ = 0 := by rw [leftV_ok rfl]; simpa using h2
  refine ⟨fun he => ?_, fun he => ?_⟩
  · rw [e] at he ⊢
    exact decL_ne _ _ _ (.inr ⟨by omega, hl0⟩) he
  · rw [e] at he ⊢
    obtain ⟨i1, i2, i3, i4⟩ := decL_sh l.length ⟨l, 0, 0⟩ [] rfl (Nat.sub_le _ _) he
    refine ⟨Nat.le_of_lt i2, fun ht => ?_⟩
    obtain ⟨t, hte⟩ : ∃ t, t = (decL l.length ⟨l, 0, 0⟩ []).2.1 := ⟨_, rfl⟩
    rw [← hte] at i2 i3 i4 ht ⊢
    have i2' : t < l.length := i2
    have hlt : (l.take t).length = t := by rw [List.length_take]; omega
    have e2 : decV (l.take t) = decL l.length (sh t ⟨l, 0, 0⟩) [] := by
      unfold decV
      rw [hlt, if_neg (by omega), if_neg ht]
      exact (decL_enough t l.length ⟨l.take t, 0, 0⟩ [] rfl (by show (l.take t).length - 0 ≤ t; rw [hlt]; omega) (by omega)).symm
    rw [e2]
    refine ⟨i3, i4, ?_⟩
    refine decL_ne _ _ _ (.inr ⟨by omega, ?_⟩) i3
    rw [leftV_ok (show (sh t ⟨l, 0, 0⟩).fault = 0 from rfl)]
    show ¬ (l.take t).length - 0 = 0
    rw [hlt]; omega
end Go.Proofs.Ytppkilkfmclpkaa

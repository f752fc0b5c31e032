/- A region that draws its order, whose last operations write what the region has read: as XMix, but what the walk holds on to has to last only until the tail begins (operation number m). No condition on the program. -/
import Derived.Test.YtppkilkfmclpkaaMix
import Derived.Test.YtppkilkfmclpkaaWalk
import Derived.Deep.MidRow
namespace Go.Proofs.Ytppkilkfmclpkaa.MixT
open Go Go.RowKit Go.Proofs.Ytppkilkfmclpkaa.Mix

section
variable {P : Program} {ops : Array Oper} {S : World → Prop} {m : Nat} {eff : Oper → Bool}

/-- what holds at operation i: nothing in the tail -/
def A (S : World → Prop) (m i : Nat) (w : World) : Prop := m ≤ i ∨ S w
/-- a loud operation of the tail waits for all that stands ahead of the tail -/
def LastT (ops : Array Oper) (eff : Oper → Bool) (m : Nat) : Prop := ∀ listed, Down ops listed → ∀ i o, m ≤ i → ops[i]? = some o → eff o = true → i ∈ Region.ready .any ops listed → ∀ k, k < m → listed.getD k true = true
def Inv (S : World → Prop) (m : Nat) (listed : Array Bool) (w : World) : Prop := (∃ k, k < m ∧ listed.getD k true = false) → S w
theorem unset {listed : Array Bool} {i k : Nat} (h : (listed.setIfInBounds i true).getD k true = false) : listed.getD k true = false := by
  by_cases e : i = k
  · subst e
    rcases Nat.lt_or_ge i listed.size with hlt | hlt
    · simp [hlt] at h
    · simp [hlt] at h
  · rw [getD_set_ne true e] at h; exact h
theorem Inv.set {listed : Array Bool} {w : World} (h : Inv S m listed w) (i : Nat) : Inv S m (listed.setIfInBounds i true) w := fun ⟨k, hk, hu⟩ => h ⟨k, hk, unset hu⟩

def stepM (P : Program) (ops : Array Oper) (S : World → Prop) (m : Nat) (eff : Oper → Bool) (i : Nat) (K : Act → World → Prop) (a : Act) (w : World) : Prop :=
  match ops[i]? with
  | none => K a w
  | some o => if Region.wanted o (yielded ops a.tmps) then
      (if eff o then o.wp P a w (fun a' w' => A S m i w' ∧ K a' w') Bad
       else ∃ u, (∀ w', A S m i w' → (execOp a.eval o).run P w' = .ok (.value u) w') ∧ K (a.put o.dst u) w)
    else K (a.put o.dst undef) w
def anyM (P : Program) (ops : Array Oper) (S : World → Prop) (m : Nat) (eff : Oper → Bool) (Q : Act → World → Prop) : Nat → Array Bool → Act → World → Prop
  | 0, listed, a, w => Region.ready .any ops listed = [] ∧ Q a w
  | fuel + 1, listed, a, w =>
    (Region.ready .any ops listed = [] → Q a w) ∧
    ∀ i ∈ Region.ready .any ops listed, stepM P ops S m eff i (anyM P ops S m eff Q fuel (listed.setIfInBounds i true)) a w
theorem any_of (hL : LastT ops eff m) {Q : Act → World → Prop} {Q' : Exit → Act → World → Prop} (hQ : ∀ a w, Q a w → Q' .normal a w) : ∀ (fuel : Nat) (listed : Array Bool) (a : Act) (w : World), Down ops listed → Inv S m listed w →
    anyM P ops S m eff Q fuel listed a w → wpAny P .any ops Q' fuel listed a w
  | 0, _, _, _, _, _, h => ⟨h.1, hQ _ _ h.2⟩
  | fuel + 1, listed, a, w, hD, hS, h => ⟨fun h0 => hQ _ _ (h.1 h0), fun i hi => by
      have h1 := h.2 i hi
      have ih := fun a w => any_of hL hQ fuel (listed.setIfInBounds i true) a w (hD.set hi)
      unfold stepM at h1
      unfold wpOp
      split
      · rename_i ho; simp only [ho] at h1; exact ih _ _ (hS.set i) h1
      · rename_i o ho
        simp only [ho] at h1
        split
        · rename_i hw
          simp only [hw, if_true] at h1
          split at h1
          · rename_i he
            refine .inl (wp_bad (fun a' w' h2 => ih _ _ (fun ⟨k, hk, hu⟩ => ?_) h2.2) h1)
            rcases h2.1 with h3 | h3
            · have h4 := hL listed hD i o h3 ho he hi k hk
              rw [unset hu] at h4; cases h4
            · exact h3
          · obtain ⟨u, hu, h2⟩ := h1
            refine .inl ?_
            unfold Oper.wp
            have hA : A S m i w := by
              rcases Nat.lt_or_ge i m with hlt | hge
              · refine .inr (hS ⟨i, hlt, ?_⟩)
                obtain ⟨hun, _⟩ := mem_ready.1 hi
                exact hun
              · exact .inl hge
            rw [hu w hA]
            exact ih _ _ (hS.set i) h2
        · rename_i hw
          simp only [hw] at h1
          exact ih _ _ (hS.set i) h1⟩

/-- j behind i, where j does not look at i's slot: j may come up first -/
theorem stepM_put {i j : Nat} {oi oj : Oper} {v : Value} (hj : ops[j]? = some oj) (hap : oi.apart ops oj = true)
    (hsi : ∀ cs b, oi.op ≠ .select cs b) (hsj : ∀ cs b, oj.op ≠ .select cs b) {K : Act → World → Prop} {a : Act} {w : World}
    (hy : Gives P ops (A S m i) eff oi v a) (h : stepM P ops S m eff j K (a.put oi.dst v) w) :
    stepM P ops S m eff j (fun a' w' => Gives P ops (A S m i) eff oi v a' ∧ K (a'.put oi.dst v) w') a w := by
  obtain ⟨h1, h2, h3⟩ := Oper.apart_spec hap
  have keep : ∀ ds u, Gives P ops (A S m i) eff oi v ((wd a ds).put oj.dst u) := fun ds u => by
    rw [wd_put]
    refine hy.same ?_ ?_
    · rw [wd_eval, execOp_put oi hsi a oj.dst u h3]
    · rw [wd_tmps, wanted_put oi a oj.dst u h3]
  unfold stepM at *
  simp only [hj] at *
  rw [wanted_put oj a oi.dst v h1] at h
  split
  · rename_i hw
    simp only [hw, if_true] at h
    split
    · rename_i he
      simp only [he, if_true] at h
      refine wp_map (execOp_put oj hsj a oi.dst v h1).symm (fun ds u w' hk => ⟨hk.1, keep ds u, ?_⟩) (put_defers' _ _ _).symm h
      have := hk.2
      rw [wd_put] at this
      rw [wd_put, wd_put, ← Act.put_comm a v u h2]
      exact this
    · rename_i he
      simp only [he] at h
      obtain ⟨u, hu, hk⟩ := h
      rw [execOp_put oj hsj a oi.dst v h1] at hu
      exact ⟨u, hu, keep a.defers u, by rw [← Act.put_comm a v u h2]; exact hk⟩
  · rename_i hw
    simp only [hw] at h
    exact ⟨keep a.defers _, by rw [← Act.put_comm a v undef h2]; exact h⟩

theorem stepM_mono {i : Nat} {a : Act} {w : World} {K K' : Act → World → Prop} (h : ∀ a w, K a w → K' a w) (hh : stepM P ops S m eff i K a w) : stepM P ops S m eff i K' a w := by
  unfold stepM at *
  split
  · rename_i ho; simp only [ho] at hh; exact h _ _ hh
  · rename_i o ho
    simp only [ho] at hh
    split
    · rename_i hw
      simp only [hw, if_true] at hh
      split
      · rename_i he; simp only [he, if_true] at hh; exact wp_bad (fun _ _ h2 => ⟨h2.1, h _ _ h2.2⟩) hh
      · rename_i he; simp only [he] at hh; obtain ⟨u, hu, hk⟩ := hh; exact ⟨u, hu, h _ _ hk⟩
    · rename_i hw; simp only [hw] at hh; exact h _ _ hh

theorem gives_step {i : Nat} {oi : Oper} {v : Value} {a : Act} {w : World} {K : Act → World → Prop} (hi : ops[i]? = some oi)
    (hy : Gives P ops (A S m i) eff oi v a) (h : K (a.put oi.dst v) w) : stepM P ops S m eff i K a w := by
  unfold stepM
  simp only [hi]
  rcases hy with ⟨hw, he, hr⟩ | ⟨hw, rfl⟩
  · simp only [hw, if_true, he, Bool.false_eq_true, if_false]; exact ⟨v, hr, h⟩
  · simp only [hw, Bool.false_eq_true, if_false]; exact h

/-- an operation that only computes or reads may be taken first -/
theorem first_quiet {Q : Act → World → Prop} {i : Nat} {oi : Oper} {v : Value} (hi : ops[i]? = some oi) (hsel : ∀ (j : Nat) (o : Oper) cs b, ops[j]? = some o → o.op ≠ .select cs b) :
    ∀ (fuel : Nat) (listed : Array Bool) (a : Act) (w : World),
      (∀ j oj, ops[j]? = some oj → j ≠ i → listed.getD j true = false → (∀ e ∈ oj.after, Region.binds .any e = true → e.on ≠ i) → oi.apart ops oj = true) →
      i ∈ Region.ready .any ops listed → Gives P ops (A S m i) eff oi v a →
      anyM P ops S m eff Q fuel (listed.setIfInBounds i true) (a.put oi.dst v) w → anyM P ops S m eff Q (fuel + 1) listed a w := by
  intro fuel
  induction fuel with
  | zero =>
    intro listed a w _ hr hy H
    refine ⟨fun h => (by rw [h] at hr; cases hr), fun j hj => ?_⟩
    by_cases hji : j = i
    · subst hji; exact gives_step hi hy H
    · have := ready_mono hj hji
      rw [H.1] at this
      cases this
  | succ fuel ih =>
    intro listed a w hfree hr hy H
    refine ⟨fun h => (by rw [h] at hr; cases hr), fun j hj => ?_⟩
    by_cases hji : j = i
    · subst hji; exact gives_step hi hy H
    · have h1 := H.2 j (ready_mono hj hji)
      obtain ⟨hjun, oj, hoj, hall⟩ := mem_ready.1 hj
      have hnot : ∀ e ∈ oj.after, Region.binds .any e = true → e.on ≠ i := fun e he hb heq => by
        have h1 := hall e he hb
        have h0 := (mem_ready.1 hr).1
        rw [heq] at h1
        rcases Nat.lt_or_ge i listed.size with h' | h'
        · simp [h'] at h0 h1; rw [h0] at h1; cases h1
        · simp [Array.getElem?_eq_none h'] at h1
      have hap := hfree j oj hoj hji hjun hnot
      have h2 := stepM_put hoj hap (fun cs b => hsel i oi cs b hi) (fun cs b => hsel j oj cs b hoj) hy h1
      have hfree' : ∀ k ok, ops[k]? = some ok → k ≠ i → (listed.setIfInBounds j true).getD k true = false →
          (∀ e ∈ ok.after, Region.binds .any e = true → e.on ≠ i) → oi.apart ops ok = true := fun k ok hk hki hun hno => by
        refine hfree k ok hk hki ?_ hno
        by_cases hjk : j = k
        · subst hjk; exact hjun
        · rw [getD_set_ne true hjk] at hun; exact hun
      refine stepM_mono (fun a' w' h3 => ih (listed.setIfInBounds j true) a' w' hfree' (ready_mono hr (Ne.symm hji)) h3.1 ?_) h2
      rw [Array.setIfInBounds_comm _ _ hji]
      exact h3.2

theorem first_loud (hL : LastT ops eff m) {Q : Act → World → Prop} {i : Nat} {oi : Oper} (hi : ops[i]? = some oi) (hie : eff oi = true) (hsel : ∀ (j : Nat) (o : Oper) cs b, ops[j]? = some o → o.op ≠ .select cs b) :
    ∀ (fuel : Nat) (listed : Array Bool) (a : Act) (w : World),
      (∀ j oj, ops[j]? = some oj → j ≠ i → listed.getD j true = false → (∀ e ∈ oj.after, Region.binds .any e = true → e.on ≠ i) → oi.apart ops oj = true) →
      Down ops listed → i ∈ Region.ready .any ops listed → Quiets ops eff listed i → Region.wanted oi (yielded ops a.tmps) = true →
      oi.wp P a w (fun a' w' => A S m i w' ∧ anyM P ops S m eff Q fuel (listed.setIfInBounds i true) a' w') Bad → anyM P ops S m eff Q (fuel + 1) listed a w := by
  intro fuel
  have take : ∀ (listed : Array Bool) (a : Act) (w : World) (K : Act → World → Prop), Region.wanted oi (yielded ops a.tmps) = true → oi.wp P a w (fun a' w' => A S m i w' ∧ K a' w') Bad → stepM P ops S m eff i K a w := by
    intro listed a w K hw H
    unfold stepM
    simp only [hi, hw, if_true, hie]
    exact H
  induction fuel with
  | zero =>
    intro listed a w _ hD hr _ hw H
    refine ⟨fun h => (by rw [h] at hr; cases hr), fun j hj => ?_⟩
    by_cases hji : j = i
    · subst hji; exact take listed a w _ hw H
    · obtain ⟨ds, v, w', _, hK⟩ := wp_exists H
      have := ready_mono hj hji
      rw [hK.1] at this
      cases this
  | succ fuel ih =>
    intro listed a w hfree hD hr hQ hw H
    refine ⟨fun h => (by rw [h] at hr; cases hr), fun j hj => ?_⟩
    by_cases hji : j = i
    · subst hji; exact take listed a w _ hw H
    · obtain ⟨hjun, oj, hoj, hall⟩ := mem_ready.1 hj
      have hnot : ∀ e ∈ oj.after, Region.binds .any e = true → e.on ≠ i := fun e he hb heq => by
        have h1 := hall e he hb
        have h0 := (mem_ready.1 hr).1
        rw [heq] at h1
        rcases Nat.lt_or_ge i listed.size with h' | h'
        · simp [h'] at h0 h1; rw [h0] at h1; cases h1
        · simp [Array.getElem?_eq_none h'] at h1
      have hap := hfree j oj hoj hji hjun hnot
      obtain ⟨h1, h2, h3⟩ := Oper.apart_spec hap
      have hsi := fun cs b => hsel i oi cs b hi
      have hsj := fun cs b => hsel j oj cs b hoj
      have hje : eff oj = false := by
        cases he : eff oj with
        | false => rfl
        | true =>
          obtain ⟨X, hX1, hX2⟩ := hQ
          have := (hX2 j oj hoj hji fun e he hb => hX1 _ (hall e he hb)).2 he
          rw [hjun] at this; cases this
      have hfree' : ∀ k ok, ops[k]? = some ok → k ≠ i → (listed.setIfInBounds j true).getD k true = false →
          (∀ e ∈ ok.after, Region.binds .any e = true → e.on ≠ i) → oi.apart ops ok = true := fun k ok hk hki hun hno => by
        refine hfree k ok hk hki ?_ hno
        by_cases hjk : j = k
        · subst hjk; exact hjun
        · rw [getD_set_ne true hjk] at hun; exact hun
      -- what j comes to, seen behind i
      have seen : ∀ ds v w', anyM P ops S m eff Q (fuel + 1) (listed.setIfInBounds i true) ((wd a ds).put oi.dst v) w' →
          (Region.wanted oj (yielded ops a.tmps) = true → ∃ u, (∀ w2, A S m j w2 → (execOp a.eval oj).run P w2 = .ok (.value u) w2) ∧ anyM P ops S m eff Q fuel ((listed.setIfInBounds i true).setIfInBounds j true) (((wd a ds).put oi.dst v).put oj.dst u) w') ∧
          (Region.wanted oj (yielded ops a.tmps) = false → anyM P ops S m eff Q fuel ((listed.setIfInBounds i true).setIfInBounds j true) (((wd a ds).put oi.dst v).put oj.dst undef) w') := by
        intro ds v w' hk
        have h4 := hk.2 j (ready_mono hj hji)
        unfold stepM at h4
        simp only [hoj] at h4
        rw [wanted_put oj (wd a ds) oi.dst v h1, wd_tmps, execOp_put oj hsj (wd a ds) oi.dst v h1, wd_eval] at h4
        refine ⟨fun hwj => ?_, fun hwj => ?_⟩
        · simp only [hwj, if_true, hje, Bool.false_eq_true, if_false] at h4; exact h4
        · simp only [hwj, Bool.false_eq_true, if_false] at h4; exact h4
      obtain ⟨ds0, v0, w0, hS0', hK0⟩ := wp_exists H
      have up : ∀ w', A S m i w' → A S m j w' := fun w' h => by
        rcases Nat.lt_or_ge j m with hlt | hge
        · rcases h with h | h
          · have h4 := hL listed hD i oi h hi hie hr j hlt
            rw [hjun] at h4; cases h4
          · exact .inr h
        · exact .inl hge
      have hS0 := up _ hS0'
      have hs0 := seen ds0 v0 w0 hK0
      have go : ∀ u, (∀ ds v w', A S m i w' → anyM P ops S m eff Q (fuel + 1) (listed.setIfInBounds i true) ((wd a ds).put oi.dst v) w' → anyM P ops S m eff Q fuel ((listed.setIfInBounds i true).setIfInBounds j true) (((wd a ds).put oi.dst v).put oj.dst u) w') →
          anyM P ops S m eff Q (fuel + 1) (listed.setIfInBounds j true) (a.put oj.dst u) w := by
        intro u hu
        refine ih (listed.setIfInBounds j true) _ w hfree' (hD.set hj) (ready_mono hr (Ne.symm hji)) (hQ.set hji hj) (by rw [wanted_put oi a oj.dst u h3]; exact hw) ?_
        refine wp_map (execOp_put oi hsi a oj.dst u h3) (fun ds v w' hk => ⟨hk.1, ?_⟩) (put_defers' _ _ _) H
        have h5 := hu ds v w' hk.1 hk.2
        rw [Array.setIfInBounds_comm _ _ (Ne.symm hji)] at h5
        rw [wd_put, wd_put] at h5
        rw [wd_put, ← Act.put_comm a v u h2]
        exact h5
      unfold stepM
      simp only [hoj]
      by_cases hwj : Region.wanted oj (yielded ops a.tmps) = true
      · simp only [hwj, if_true, hje, Bool.false_eq_true, if_false]
        obtain ⟨u, hu, _⟩ := hs0.1 hwj
        refine ⟨u, hu, go u fun ds v w' hS hk => ?_⟩
        obtain ⟨u', hu', hk'⟩ := (seen ds v w' hk).1 hwj
        have e := (hu w0 hS0).symm.trans (hu' w0 hS0)
        simp only [Result.ok.injEq, Next.value.injEq, and_true] at e
        rw [e]
        exact hk'
      · have hwj' : Region.wanted oj (yielded ops a.tmps) = false := by simpa using hwj
        simp only [hwj', Bool.false_eq_true, if_false]
        exact go undef fun ds v w' _ hk => (seen ds v w' hk).2 hwj'

/-! ### the walk in the order of the text, and its check -/
def walkT (P : Program) (ops : Array Oper) (S : World → Prop) (m : Nat) (eff : Oper → Bool) (Q : Act → World → Prop) : Nat → List Oper → Act → World → Prop
  | _, [], a, w => Q a w
  | k, o :: r, a, w => if Region.wanted o (yielded ops a.tmps) then
      (if eff o then o.wp P a w (fun a' w' => A S m k w' ∧ walkT P ops S m eff Q (k + 1) r a' w') Bad
       else ∃ u, (∀ w', A S m k w' → (execOp a.eval o).run P w' = .ok (.value u) w') ∧ walkT P ops S m eff Q (k + 1) r (a.put o.dst u) w)
    else walkT P ops S m eff Q (k + 1) r (a.put o.dst undef) w
theorem any_walk (hL : LastT ops eff m) {Q : Act → World → Prop} (hs : Region.noSelect ops = true) : ∀ (l : List Oper) (k : Nat) (listed : Array Bool) (a : Act) (w : World), (∀ j, l[j]? = ops[k + j]?) → Down ops listed →
    okFrom ops eff l.length k listed = true → walkT P ops S m eff Q k l a w → anyM P ops S m eff Q l.length listed a w
  | [], _, _, _, _, _, _, hB, h => ⟨by simpa [okFrom] using hB, h⟩
  | o :: l, k, listed, a, w, hl, hD, hB, h => by
    have h0 : ops[k]? = some o := by simpa using (hl 0).symm
    have hl' : ∀ j, l[j]? = ops[(k + 1) + j]? := fun j => by have := hl (j + 1); simpa [Nat.add_assoc, Nat.add_comm 1 j] using this
    simp only [List.length_cons, okFrom, Bool.and_eq_true, h0] at hB
    obtain ⟨⟨⟨hr, hf⟩, hq⟩, hB'⟩ := hB
    have hr' : k ∈ Region.ready .any ops listed := by simpa using hr
    have ih := fun a' w' => any_walk (Q := Q) hL hs l (k + 1) (listed.setIfInBounds k true) a' w' hl' (hD.set hr') hB'
    simp only [walkT] at h
    split at h
    · rename_i hw
      split at h
      · rename_i he
        rw [he] at hq
        simp only [Bool.not_true, Bool.false_or] at hq
        exact first_loud hL h0 he (Region.noSelect_spec hs) l.length listed a w (Region.free_spec h0 hf) hD hr' (quietsB_spec hq) hw (wp_bad (fun a' w' h2 => ⟨h2.1, ih a' w' h2.2⟩) h)
      · rename_i he
        obtain ⟨u, hu, h2⟩ := h
        exact first_quiet h0 (Region.noSelect_spec hs) l.length listed a w (Region.free_spec h0 hf) hr' (.inl ⟨hw, by simpa using he, hu⟩) (ih _ _ h2)
    · rename_i hw
      exact first_quiet h0 (Region.noSelect_spec hs) l.length listed a w (Region.free_spec h0 hf) hr' (.inr ⟨by simpa using hw, rfl⟩) (ih _ _ h)
/-- does i wait for k, itself or by one between -/
def waits (ops : Array Oper) (i k : Nat) : Bool := match ops[i]? with
  | none => false
  | some o => o.after.any fun e => Region.binds .any e && (e.on == k || match ops[e.on]? with
    | none => false
    | some p => p.after.any fun d => Region.binds .any d && d.on == k)
def tailB (ops : Array Oper) (eff : Oper → Bool) (m : Nat) : Bool := (List.range ops.size).all fun i => decide (i < m) || (match ops[i]? with | some o => !eff o | none => true) || (List.range m).all fun k => waits ops i k
theorem tailB_spec (h : tailB ops eff m = true) : LastT ops eff m := by
  intro listed hD i o hi ho he hr k hk
  simp only [tailB, List.all_eq_true, List.mem_range, Bool.or_eq_true, decide_eq_true_eq] at h
  have hlt := (Array.getElem?_eq_some_iff.1 ho).1
  have h1 := h i hlt
  rw [ho] at h1
  rcases h1 with (h1 | h1) | h1
  · omega
  · simp [he] at h1
  have h2 := h1 k hk
  unfold waits at h2
  rw [ho] at h2
  simp only [Array.any_eq_true'] at h2
  obtain ⟨e, hem, h3⟩ := h2
  simp only [Bool.and_eq_true, Bool.or_eq_true, beq_iff_eq] at h3
  obtain ⟨hb, h3⟩ := h3
  obtain ⟨_, o', ho', hall⟩ := mem_ready.1 hr
  rw [ho] at ho'
  cases ho'
  have h4 := hall e hem hb
  have up : listed.getD k false = true → listed.getD k true = true := fun h => by
    rcases Nat.lt_or_ge k listed.size with hlt | hlt
    · simp [hlt] at h ⊢; exact h
    · simp [Array.getElem?_eq_none hlt] at h
  rcases h3 with h3 | h3
  · subst h3; exact up h4
  · split at h3
    · cases h3
    · rename_i p hp
      rw [Array.any_eq_true'] at h3
      obtain ⟨d, hdm, h5⟩ := h3
      simp only [Bool.and_eq_true, beq_iff_eq] at h5
      obtain ⟨hdb, rfl⟩ := h5
      exact up (hD e.on p hp h4 d hdm hdb)
end
section
variable {P : Program} {S : World → Prop} {L : List Nat} {m : Nat}
theorem regionT (L : List Nat) (m : Nat) {id : Nat} {l : List Oper} {Q : Exit → Act → World → Prop} {a : Act} {w : World} (S : World → Prop) (hm : P.follows .mixedOrders = true) (hB : (okM l.toArray (loudX L) && tailB l.toArray (loudX L) m) = true) (hS : S w.drew)
    (h : walkT P l.toArray S m (loudX L) (fun a w => Q .normal a w) 0 l a w.drew) : (Code.region id l.toArray true).wp P Q a w := by
  simp only [okM, Bool.and_eq_true] at hB
  have hL := tailB_spec hB.2
  refine wp_region_any hm (any_of (S := S) (eff := loudX L) hL (Q := fun a w => Q .normal a w) (fun _ _ h => h) _ _ _ _ (Down.start _ _) (fun _ => hS) ?_)
  have := any_walk (P := P) (S := S) (eff := loudX L) hL (Q := fun a w => Q .normal a w) hB.1.1 l 0 (Array.replicate l.toArray.size false) a w.drew (by simp) (Down.start _ _) (by simpa using hB.1.2) h
  simpa using this
variable {ops : Array Oper} {Q : Act → World → Prop} {o : Oper} {r : List Oper} {a : Act} {w : World} {k : Nat}
theorem isLoudA (hw : Region.wanted o (yielded ops a.tmps) = true) (hl : loudX L o = true) (h : wpList P ops (fun e a w => e = .normal ∧ A S m k w ∧ walkT P ops S m (loudX L) Q (k + 1) r a w) [o] a w) : walkT P ops S m (loudX L) Q k (o :: r) a w := by
  unfold walkT; rw [if_pos hw, if_pos hl]
  unfold wpList at h
  rw [if_pos hw] at h
  rcases h with h | h
  · have hK : ∀ a' w', wpList P ops (fun e a w => e = .normal ∧ A S m k w ∧ walkT P ops S m (loudX L) Q (k + 1) r a w) [] a' w' → A S m k w' ∧ walkT P ops S m (loudX L) Q (k + 1) r a' w' := fun a' w' h => by unfold wpList at h; exact h.2
    unfold Oper.wp at *
    generalize (execOp a.eval o).run P w = x at *
    cases x with
    | ok n w' =>
      cases n <;> simp only [Oper.upon] at h ⊢ <;>
        first
          | exact hK _ _ h
          | exact Calls.mono h (fun e w'' he => by
              cases e with
              | returned u => exact hK _ _ he
              | panicked c => exact absurd he.1 (by simp)
              | outgrown => obtain ⟨f, c, hf, _⟩ := he; cases hf)
          | exact Rows.mono h (fun _ _ he => hK _ _ he)
    | halt x w' => cases x <;> simp only [Oper.upon] at h ⊢; cases h.1
  · obtain ⟨_, _, h, _⟩ := h.2; cases h
theorem readsA (hw : Region.wanted o (yielded ops a.tmps) = true) (hl : loudX L o = false) {u : Value} (hu : ∀ w', A S m k w' → (execOp a.eval o).run P w' = .ok (.value u) w') (h : walkT P ops S m (loudX L) Q (k + 1) r (a.put o.dst u) w) : walkT P ops S m (loudX L) Q k (o :: r) a w := by
  unfold walkT; rw [if_pos hw, if_neg (by rw [hl]; decide)]; exact ⟨u, hu, h⟩
theorem skip (hw : Region.wanted o (yielded ops a.tmps) = false) (h : walkT P ops S m (loudX L) Q (k + 1) r (a.put o.dst undef) w) : walkT P ops S m (loudX L) Q k (o :: r) a w := by
  unfold walkT; rw [if_neg (by rw [hw]; decide)]; exact h
/-- an operation that only computes -/
theorem pure (hw : Region.wanted o (yielded ops a.tmps) = true) (hl : loudX L o = false) (h : ∀ K : Act → Prop, (∀ a, walkT P ops S m (loudX L) Q (k + 1) r a w → K a) → o.quiet P a (fun _ => True) K) : walkT P ops S m (loudX L) Q k (o :: r) a w := by
  obtain ⟨v, h1, h2⟩ := h _ fun _ h => h
  refine readsA hw hl (u := v) (fun w' _ => ?_) h2
  have h3 := h1 w' trivial
  unfold Oper.quietAt at h3
  cases hr : (execOp a.eval o).run P w' with
  | ok n w2 =>
    obtain ⟨u, rfl⟩ := quiet_is (loudX_not hl) hr
    rw [hr] at h3
    simp only [Oper.quietUpon] at h3
    rw [h3.1, h3.2]
  | halt x w2 => rw [hr] at h3; simp only [Oper.quietUpon] at h3
end
end Go.Proofs.Ytppkilkfmclpkaa.MixT

namespace Go.Proofs.Ytppkilkfmclpkaa.Mt
open Go Go.RowKit Go.Proofs.Ytppkilkfmclpkaa.Mix Go.Proofs.Ytppkilkfmclpkaa.MixT
structure Walk (P : Program) (ops : Array Oper) (S : World → Prop) (m : Nat) (L : List Nat) (Q : Act → World → Prop) (k : Nat) (l : List Oper) (a : Act) (w : World) : Prop where
  out : walkT P ops S m (loudX L) Q k l a w
section
variable {P : Program} {S : World → Prop} {L : List Nat}
/-- a region whose tail begins at operation number m -/
theorem region (L : List Nat) (m : Nat) {id : Nat} {l : List Oper} {Q : Exit → Act → World → Prop} {a : Act} {w : World} (S : World → Prop) (hm : P.follows .mixedOrders = true) (hB : (okM l.toArray (loudX L) && tailB l.toArray (loudX L) m) = true) (hS : S w.drew)
    (h : Walk P l.toArray S m L (fun a w => Q .normal a w) 0 l a w.drew) : (Code.region id l.toArray true).wp P Q a w := regionT L m S hm hB hS h.out
variable {m k : Nat} {ops : Array Oper} {Q : Act → World → Prop} {o : Oper} {r : List Oper} {a : Act} {w : World}
theorem nil (h : Q a w) : Walk P ops S m L Q k [] a w := ⟨h⟩
theorem quietly (hl : loudX L o = false) (h : wpQuiet P ops (fun _ => True) (fun a' => Walk P ops S m L Q (k + 1) r a' w) [o] a) : Walk P ops S m L Q k (o :: r) a w := by
  refine ⟨?_⟩
  simp only [wpQuiet] at h
  split at h
  · rename_i hw
    exact MixT.pure hw hl fun K hK => by
      obtain ⟨v, h1, h2⟩ := h
      exact ⟨v, h1, hK _ h2.out⟩
  · rename_i hw
    exact MixT.skip (by simpa using hw) h.out
/-- a loud operation, in its place -/
theorem loudly (hw : Region.wanted o (yielded ops a.tmps) = true) (hl : loudX L o = true) (h : wpList P ops (fun e a w => e = .normal ∧ A S m k w ∧ Walk P ops S m L Q (k + 1) r a w) [o] a w) : Walk P ops S m L Q k (o :: r) a w := by
  refine ⟨MixT.isLoudA hw hl ?_⟩
  have e : (fun e a w => e = Exit.normal ∧ A S m k w ∧ Walk P ops S m L Q (k + 1) r a w) = (fun e a w => e = Exit.normal ∧ A S m k w ∧ walkT P ops S m (loudX L) Q (k + 1) r a w) := by
    funext e a w
    exact propext ⟨fun h => ⟨h.1, h.2.1, h.2.2.out⟩, fun h => ⟨h.1, h.2.1, ⟨h.2.2⟩⟩⟩
  rw [e] at h
  exact h
/-- a cell that lasts till the tail is read -/
theorem cell (ad : Addr) (u : Value) {d : Option Tmp} {t ty : TypeId} {x : Operand} {pos : String} {af : Array Edge} {gd : Option (Nat × Bool)} (hk : k < m) (hw : Region.wanted ⟨d, .load t x, ty, pos, af, gd⟩ (yielded ops a.tmps) = true) (hdx : loudX L ⟨d, .load t x, ty, pos, af, gd⟩ = false)
    (hx : a.eval x = .pointer (some ad)) (hg : ∀ w, (isAgg t).run P w = .ok false w) (hu : ∀ w', S w' → w'.cell? ad = some u)
    (h : wpQuiet P ops (fun _ => True) (fun a' => Walk P ops S m L Q (k + 1) r a' w) [⟨d, .assign (.const u), ty, pos, #[], none⟩] a) : Walk P ops S m L Q k (⟨d, .load t x, ty, pos, af, gd⟩ :: r) a w := by
  simp only [wpQuiet, Region.wanted, if_true] at h
  obtain ⟨v, h1, h2⟩ := h
  have h3 := h1 w trivial
  unfold Oper.quietAt at h3
  rw [BigFrame.run_assign (.const u) rfl] at h3
  obtain rfl : u = v := h3.2
  refine ⟨MixT.readsA hw hdx (u := u) (fun w' hA => ?_) h2.out⟩
  have h4 := hu w' (hA.resolve_left (by omega))
  have h5 := hg w'
  unfold execOp
  simp only [hx]
  simp [go_sem, h4, h5]
end
end Go.Proofs.Ytppkilkfmclpkaa.Mt

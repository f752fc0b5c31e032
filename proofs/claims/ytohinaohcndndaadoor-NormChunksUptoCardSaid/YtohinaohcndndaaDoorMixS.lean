/- A region that draws its order, in which what an operation reads (the places D) is made by a loud operation of the same region (number i0): as XMix, but behind i0 the walk may hold on to more. No condition on the program. -/
import Derived.Test.YtohinaohcndndaaDoorMix
import Derived.Test.YtohinaohcndndaaDoorWalk
namespace Go.Proofs.YtohinaohcndndaaDoor.MixS
open Go Go.RowKit Go.Proofs.YtohinaohcndndaaDoor.Mix

section
variable {P : Program} {ops : Array Oper} {S0 : World → Prop} {i0 : Nat} {D : List Nat} {eff : Oper → Bool}

/-- what operation j may hold on to -/
def Kw (S0 S : World → Prop) (D : List Nat) (j : Nat) (w : World) : Prop := if D.contains j = true then S w else S0 w
theorem Kw.of {S : World → Prop} {j : Nat} {w : World} (hs : ∀ w, S w → S0 w) (h : S w) : Kw S0 S D j w := by
  unfold Kw; split
  · exact h
  · exact hs w h
theorem Kw.mono {S S' : World → Prop} {j : Nat} {w : World} (hs : ∀ w, S' w → S w) (h : Kw S0 S' D j w) : Kw S0 S D j w := by
  unfold Kw at *; split
  · rename_i h1; rw [if_pos h1] at h; exact hs w h
  · rename_i h1; rw [if_neg h1] at h; exact h
/-- the next thing held on to -/
def Nx (S S' : World → Prop) (i0 i : Nat) : Prop := (i = i0 ∨ S' = S) ∧ ∀ w, S' w → S w

def stepS (P : Program) (ops : Array Oper) (S0 : World → Prop) (i0 : Nat) (D : List Nat) (eff : Oper → Bool) (S : World → Prop) (i : Nat) (K : (World → Prop) → Act → World → Prop) (a : Act) (w : World) : Prop :=
  match ops[i]? with
  | none => K S a w
  | some o => if Region.wanted o (yielded ops a.tmps) then
      (if eff o then o.wp P a w (fun a' w' => ∃ S', Nx S S' i0 i ∧ S' w' ∧ K S' a' w') Bad
       else ∃ u, (∀ w', Kw S0 S D i w' → (execOp a.eval o).run P w' = .ok (.value u) w') ∧ K S (a.put o.dst u) w)
    else K S (a.put o.dst undef) w

def anyS (P : Program) (ops : Array Oper) (S0 : World → Prop) (i0 : Nat) (D : List Nat) (eff : Oper → Bool) (Q : Act → World → Prop) : Nat → Array Bool → (World → Prop) → Act → World → Prop
  | 0, listed, _, a, w => Region.ready .any ops listed = [] ∧ Q a w
  | fuel + 1, listed, S, a, w =>
    (Region.ready .any ops listed = [] → Q a w) ∧
    ∀ i ∈ Region.ready .any ops listed, stepS P ops S0 i0 D eff S i (anyS P ops S0 i0 D eff Q fuel (listed.setIfInBounds i true)) a w

theorem any_of {Q : Act → World → Prop} {Q' : Exit → Act → World → Prop} (hQ : ∀ a w, Q a w → Q' .normal a w) : ∀ (fuel : Nat) (listed : Array Bool) (S : World → Prop) (a : Act) (w : World), (∀ w, S w → S0 w) → S w →
    anyS P ops S0 i0 D eff Q fuel listed S a w → wpAny P .any ops Q' fuel listed a w
  | 0, _, _, _, _, _, _, h => ⟨h.1, hQ _ _ h.2⟩
  | fuel + 1, listed, S, a, w, hs, hS, h => ⟨fun h0 => hQ _ _ (h.1 h0), fun i hi => by
      have h1 := h.2 i hi
      have ih := fun S a w => any_of hQ fuel (listed.setIfInBounds i true) S a w
      unfold stepS at h1
      unfold wpOp
      split
      · rename_i ho; simp only [ho] at h1; exact ih _ _ _ hs hS h1
      · rename_i o ho
        simp only [ho] at h1
        split
        · rename_i hw
          simp only [hw, if_true] at h1
          split at h1
          · exact .inl (wp_bad (fun a' w' ⟨S', h2, h3, h4⟩ => ih S' _ _ (fun w hw => hs w (h2.2 w hw)) h3 h4) h1)
          · obtain ⟨u, hu, h2⟩ := h1
            refine .inl ?_
            unfold Oper.wp
            rw [hu w (Kw.of hs hS)]
            exact ih _ _ _ hs hS h2
        · rename_i hw
          simp only [hw] at h1
          exact ih _ _ _ hs hS h1⟩

def GivesS (P : Program) (ops : Array Oper) (S0 : World → Prop) (D : List Nat) (eff : Oper → Bool) (S : World → Prop) (i : Nat) (o : Oper) (v : Value) (a : Act) : Prop :=
  (Region.wanted o (yielded ops a.tmps) = true ∧ eff o = false ∧ ∀ w, Kw S0 S D i w → (execOp a.eval o).run P w = .ok (.value v) w) ∨ (Region.wanted o (yielded ops a.tmps) = false ∧ v = undef)
theorem GivesS.same {S : World → Prop} {i : Nat} {o : Oper} {v : Value} {a b : Act} (h : GivesS P ops S0 D eff S i o v a) (he : execOp b.eval o = execOp a.eval o) (hw : Region.wanted o (yielded ops b.tmps) = Region.wanted o (yielded ops a.tmps)) : GivesS P ops S0 D eff S i o v b := by
  unfold GivesS at *; rw [he, hw]; exact h
theorem GivesS.mono {S S' : World → Prop} {i : Nat} {o : Oper} {v : Value} {a : Act} (h : GivesS P ops S0 D eff S i o v a) (hs : ∀ w, S' w → S w) : GivesS P ops S0 D eff S' i o v a := by
  rcases h with ⟨h1, h2, h3⟩ | h
  · exact .inl ⟨h1, h2, fun w hw => h3 w (hw.mono hs)⟩
  · exact .inr h

theorem stepS_put {S : World → Prop} {i j : Nat} {oi oj : Oper} {v : Value} (hj : ops[j]? = some oj) (hap : oi.apart ops oj = true)
    (hsi : ∀ cs b, oi.op ≠ .select cs b) (hsj : ∀ cs b, oj.op ≠ .select cs b) {K : (World → Prop) → Act → World → Prop} {a : Act} {w : World}
    (hy : GivesS P ops S0 D eff S i oi v a) (h : stepS P ops S0 i0 D eff S j K (a.put oi.dst v) w) :
    stepS P ops S0 i0 D eff S j (fun S' a' w' => GivesS P ops S0 D eff S' i oi v a' ∧ K S' (a'.put oi.dst v) w') a w := by
  obtain ⟨h1, h2, h3⟩ := Oper.apart_spec hap
  have keep : ∀ ds u, GivesS P ops S0 D eff S i oi v ((wd a ds).put oj.dst u) := fun ds u => by
    rw [wd_put]
    refine hy.same ?_ ?_
    · rw [wd_eval, execOp_put oi hsi a oj.dst u h3]
    · rw [wd_tmps, wanted_put oi a oj.dst u h3]
  unfold stepS at *
  simp only [hj] at *
  rw [wanted_put oj a oi.dst v h1] at h
  split
  · rename_i hw
    simp only [hw, if_true] at h
    split
    · rename_i he
      simp only [he, if_true] at h
      refine wp_map (execOp_put oj hsj a oi.dst v h1).symm (fun ds u w' ⟨S', hn, hk1, hk2⟩ => ⟨S', hn, hk1, (keep ds u).mono hn.2, ?_⟩) (put_defers' _ _ _).symm h
      rw [wd_put] at hk2
      rw [wd_put, wd_put, ← Act.put_comm a v u h2]
      exact hk2
    · rename_i he
      simp only [he] at h
      obtain ⟨u, hu, hk⟩ := h
      rw [execOp_put oj hsj a oi.dst v h1] at hu
      exact ⟨u, hu, keep a.defers u, by rw [← Act.put_comm a v u h2]; exact hk⟩
  · rename_i hw
    simp only [hw] at h
    exact ⟨keep a.defers _, by rw [← Act.put_comm a v undef h2]; exact h⟩

theorem stepS_mono {S : World → Prop} {i : Nat} {a : Act} {w : World} {K K' : (World → Prop) → Act → World → Prop} (h : ∀ S a w, K S a w → K' S a w) (hh : stepS P ops S0 i0 D eff S i K a w) : stepS P ops S0 i0 D eff S i K' a w := by
  unfold stepS at *
  split
  · rename_i ho; simp only [ho] at hh; exact h _ _ _ hh
  · rename_i o ho
    simp only [ho] at hh
    split
    · rename_i hw
      simp only [hw, if_true] at hh
      split
      · rename_i he; simp only [he, if_true] at hh; exact wp_bad (fun _ _ ⟨S', h1, h2, h3⟩ => ⟨S', h1, h2, h _ _ _ h3⟩) hh
      · rename_i he; simp only [he] at hh; obtain ⟨u, hu, hk⟩ := hh; exact ⟨u, hu, h _ _ _ hk⟩
    · rename_i hw; simp only [hw] at hh; exact h _ _ _ hh

theorem GivesS.step {S : World → Prop} {i : Nat} {oi : Oper} {v : Value} {a : Act} {w : World} {K : (World → Prop) → Act → World → Prop} (hi : ops[i]? = some oi)
    (hy : GivesS P ops S0 D eff S i oi v a) (h : K S (a.put oi.dst v) w) : stepS P ops S0 i0 D eff S i K a w := by
  unfold stepS
  simp only [hi]
  rcases hy with ⟨hw, he, hr⟩ | ⟨hw, rfl⟩
  · simp only [hw, if_true, he, Bool.false_eq_true, if_false]; exact ⟨v, hr, h⟩
  · simp only [hw, Bool.false_eq_true, if_false]; exact h

theorem first_quiet {Q : Act → World → Prop} {i : Nat} {oi : Oper} {v : Value} (hi : ops[i]? = some oi) (hsel : ∀ (j : Nat) (o : Oper) cs b, ops[j]? = some o → o.op ≠ .select cs b) :
    ∀ (fuel : Nat) (listed : Array Bool) (S : World → Prop) (a : Act) (w : World),
      (∀ j oj, ops[j]? = some oj → j ≠ i → listed.getD j true = false → (∀ e ∈ oj.after, Region.binds .any e = true → e.on ≠ i) → oi.apart ops oj = true) →
      i ∈ Region.ready .any ops listed → GivesS P ops S0 D eff S i oi v a →
      anyS P ops S0 i0 D eff Q fuel (listed.setIfInBounds i true) S (a.put oi.dst v) w → anyS P ops S0 i0 D eff Q (fuel + 1) listed S a w := by
  intro fuel
  induction fuel with
  | zero =>
    intro listed S a w _ hr hy H
    refine ⟨fun h => (by rw [h] at hr; cases hr), fun j hj => ?_⟩
    by_cases hji : j = i
    · subst hji; exact hy.step hi H
    · have := ready_mono hj hji
      rw [H.1] at this
      cases this
  | succ fuel ih =>
    intro listed S a w hfree hr hy H
    refine ⟨fun h => (by rw [h] at hr; cases hr), fun j hj => ?_⟩
    by_cases hji : j = i
    · subst hji; exact hy.step hi H
    · have h1 := H.2 j (ready_mono hj hji)
      obtain ⟨hjun, oj, hoj, hall⟩ := mem_ready.1 hj
      have hnot : ∀ e ∈ oj.after, Region.binds .any e = true → e.on ≠ i := fun e he hb heq => by
        have h1 := hall e he hb
        have h0 := (mem_ready.1 hr).1
        rw [heq] at h1
        rcases Nat.lt_or_ge i listed.size with h' | h'
        · simp [h'] at h0 h1; rw [h0] at h1; cases h1
        · simp [Array.getElem?_eq_none h'] at h1
      have hap := hfree j oj hoj hji hjun hnot
      have h2 := stepS_put hoj hap (fun cs b => hsel i oi cs b hi) (fun cs b => hsel j oj cs b hoj) hy h1
      have hfree' : ∀ k ok, ops[k]? = some ok → k ≠ i → (listed.setIfInBounds j true).getD k true = false →
          (∀ e ∈ ok.after, Region.binds .any e = true → e.on ≠ i) → oi.apart ops ok = true := fun k ok hk hki hun hno => by
        refine hfree k ok hk hki ?_ hno
        by_cases hjk : j = k
        · subst hjk; exact hjun
        · rw [getD_set_ne true hjk] at hun; exact hun
      refine stepS_mono (fun S' a' w' h3 => ih (listed.setIfInBounds j true) S' a' w' hfree' (ready_mono hr (Ne.symm hji)) h3.1 ?_) h2
      rw [Array.setIfInBounds_comm _ _ hji]
      exact h3.2

/-- what holds on to more waits for i0 -/
def Wait (ops : Array Oper) (i0 : Nat) (D : List Nat) : Prop := ∀ j o, D.contains j = true → ops[j]? = some o → ∃ e ∈ o.after, Region.binds .any e = true ∧ e.on = i0

theorem first_loud (hD : Wait ops i0 D) {Q : Act → World → Prop} {i : Nat} {oi : Oper} (hi : ops[i]? = some oi) (hie : eff oi = true) (hsel : ∀ (j : Nat) (o : Oper) cs b, ops[j]? = some o → o.op ≠ .select cs b) :
    ∀ (fuel : Nat) (listed : Array Bool) (S : World → Prop) (a : Act) (w : World), (∀ w, S w → S0 w) →
      (∀ j oj, ops[j]? = some oj → j ≠ i → listed.getD j true = false → (∀ e ∈ oj.after, Region.binds .any e = true → e.on ≠ i) → oi.apart ops oj = true) →
      i ∈ Region.ready .any ops listed → Quiets ops eff listed i → Region.wanted oi (yielded ops a.tmps) = true →
      oi.wp P a w (fun a' w' => ∃ S', Nx S S' i0 i ∧ S' w' ∧ anyS P ops S0 i0 D eff Q fuel (listed.setIfInBounds i true) S' a' w') Bad → anyS P ops S0 i0 D eff Q (fuel + 1) listed S a w := by
  intro fuel
  have take : ∀ (S : World → Prop) (a : Act) (w : World) (K : (World → Prop) → Act → World → Prop), Region.wanted oi (yielded ops a.tmps) = true → oi.wp P a w (fun a' w' => ∃ S', Nx S S' i0 i ∧ S' w' ∧ K S' a' w') Bad → stepS P ops S0 i0 D eff S i K a w := by
    intro S a w K hw H
    unfold stepS
    simp only [hi, hw, if_true, hie]
    exact H
  induction fuel with
  | zero =>
    intro listed S a w _ _ hr _ hw H
    refine ⟨fun h => (by rw [h] at hr; cases hr), fun j hj => ?_⟩
    by_cases hji : j = i
    · subst hji; exact take S a w _ hw H
    · obtain ⟨ds, v, w', S', _, _, hK⟩ := wp_exists H
      have := ready_mono hj hji
      rw [hK.1] at this
      cases this
  | succ fuel ih =>
    intro listed S a w hs hfree hr hQ hw H
    refine ⟨fun h => (by rw [h] at hr; cases hr), fun j hj => ?_⟩
    by_cases hji : j = i
    · subst hji; exact take S a w _ hw H
    · obtain ⟨hjun, oj, hoj, hall⟩ := mem_ready.1 hj
      have hnot : ∀ e ∈ oj.after, Region.binds .any e = true → e.on ≠ i := fun e he hb heq => by
        have h1 := hall e he hb
        have h0 := (mem_ready.1 hr).1
        rw [heq] at h1
        rcases Nat.lt_or_ge i listed.size with h' | h'
        · simp [h'] at h0 h1; rw [h0] at h1; cases h1
        · simp [Array.getElem?_eq_none h'] at h1
      have hkw : ∀ {S' : World → Prop} {w2 : World}, Nx S S' i0 i → (Kw S0 S' D j w2 ↔ Kw S0 S D j w2) := fun {S' w2} hn => by
        rcases hn.1 with rfl | rfl
        · have hnD : ¬ D.contains j = true := fun hd => by
            obtain ⟨e, he, hb, ho⟩ := hD j oj hd hoj
            exact hnot e he hb ho
          unfold Kw
          rw [if_neg hnD, if_neg hnD]
        · exact Iff.rfl
      have hap := hfree j oj hoj hji hjun hnot
      obtain ⟨h1, h2, h3⟩ := Oper.apart_spec hap
      have hsi := fun cs b => hsel i oi cs b hi
      have hsj := fun cs b => hsel j oj cs b hoj
      have hje : eff oj = false := by
        cases he : eff oj with
        | false => rfl
        | true =>
          obtain ⟨X, hX1, hX2⟩ := hQ
          have := (hX2 j oj hoj hji fun e he hb => hX1 _ (hall e he hb)).2 he
          rw [hjun] at this; cases this
      have hfree' : ∀ k ok, ops[k]? = some ok → k ≠ i → (listed.setIfInBounds j true).getD k true = false →
          (∀ e ∈ ok.after, Region.binds .any e = true → e.on ≠ i) → oi.apart ops ok = true := fun k ok hk hki hun hno => by
        refine hfree k ok hk hki ?_ hno
        by_cases hjk : j = k
        · subst hjk; exact hjun
        · rw [getD_set_ne true hjk] at hun; exact hun
      have seen : ∀ S' ds v w', Nx S S' i0 i → anyS P ops S0 i0 D eff Q (fuel + 1) (listed.setIfInBounds i true) S' ((wd a ds).put oi.dst v) w' →
          (Region.wanted oj (yielded ops a.tmps) = true → ∃ u, (∀ w2, Kw S0 S D j w2 → (execOp a.eval oj).run P w2 = .ok (.value u) w2) ∧ anyS P ops S0 i0 D eff Q fuel ((listed.setIfInBounds i true).setIfInBounds j true) S' (((wd a ds).put oi.dst v).put oj.dst u) w') ∧
          (Region.wanted oj (yielded ops a.tmps) = false → anyS P ops S0 i0 D eff Q fuel ((listed.setIfInBounds i true).setIfInBounds j true) S' (((wd a ds).put oi.dst v).put oj.dst undef) w') := by
        intro S' ds v w' hn hk
        have h4 := hk.2 j (ready_mono hj hji)
        unfold stepS at h4
        simp only [hoj] at h4
        rw [wanted_put oj (wd a ds) oi.dst v h1, wd_tmps, execOp_put oj hsj (wd a ds) oi.dst v h1, wd_eval] at h4
        refine ⟨fun hwj => ?_, fun hwj => ?_⟩
        · simp only [hwj, if_true, hje, Bool.false_eq_true, if_false] at h4
          obtain ⟨u, hu, h5⟩ := h4
          exact ⟨u, fun w2 hw2 => hu w2 ((hkw hn).2 hw2), h5⟩
        · simp only [hwj, Bool.false_eq_true, if_false] at h4; exact h4
      obtain ⟨ds0, v0, w0, T0, hn0, hS0, hK0⟩ := wp_exists H
      have hs0 := seen T0 ds0 v0 w0 hn0 hK0
      have hkw0 : Kw S0 S D j w0 := Kw.of hs (hn0.2 w0 hS0)
      have go : ∀ u, (∀ S' ds v w', Nx S S' i0 i → S' w' → anyS P ops S0 i0 D eff Q (fuel + 1) (listed.setIfInBounds i true) S' ((wd a ds).put oi.dst v) w' → anyS P ops S0 i0 D eff Q fuel ((listed.setIfInBounds i true).setIfInBounds j true) S' (((wd a ds).put oi.dst v).put oj.dst u) w') →
          anyS P ops S0 i0 D eff Q (fuel + 1) (listed.setIfInBounds j true) S (a.put oj.dst u) w := by
        intro u hu
        refine ih (listed.setIfInBounds j true) S _ w hs hfree' (ready_mono hr (Ne.symm hji)) (hQ.set hji hj) (by rw [wanted_put oi a oj.dst u h3]; exact hw) ?_
        refine wp_map (execOp_put oi hsi a oj.dst u h3) (fun ds v w' ⟨S', hn, hk1, hk2⟩ => ⟨S', hn, hk1, ?_⟩) (put_defers' _ _ _) H
        have h5 := hu S' ds v w' hn hk1 hk2
        rw [Array.setIfInBounds_comm _ _ (Ne.symm hji)] at h5
        rw [wd_put, wd_put] at h5
        rw [wd_put, ← Act.put_comm a v u h2]
        exact h5
      unfold stepS
      simp only [hoj]
      by_cases hwj : Region.wanted oj (yielded ops a.tmps) = true
      · simp only [hwj, if_true, hje, Bool.false_eq_true, if_false]
        obtain ⟨u, hu, _⟩ := hs0.1 hwj
        refine ⟨u, hu, go u fun S' ds v w' hn hS hk => ?_⟩
        obtain ⟨u', hu', hk'⟩ := (seen S' ds v w' hn hk).1 hwj
        have e := (hu w0 hkw0).symm.trans (hu' w0 hkw0)
        simp only [Result.ok.injEq, Next.value.injEq, and_true] at e
        rw [e]
        exact hk'
      · have hwj' : Region.wanted oj (yielded ops a.tmps) = false := by simpa using hwj
        simp only [hwj', Bool.false_eq_true, if_false]
        exact go undef fun S' ds v w' hn _ hk => (seen S' ds v w' hn hk).2 hwj'

/-- the walk in the order of the text -/
def walkS (P : Program) (ops : Array Oper) (S0 : World → Prop) (i0 : Nat) (D : List Nat) (eff : Oper → Bool) (Q : Act → World → Prop) : Nat → List Oper → (World → Prop) → Act → World → Prop
  | _, [], _, a, w => Q a w
  | k, o :: r, S, a, w => if Region.wanted o (yielded ops a.tmps) then
      (if eff o then o.wp P a w (fun a' w' => ∃ S', Nx S S' i0 k ∧ S' w' ∧ walkS P ops S0 i0 D eff Q (k + 1) r S' a' w') Bad
       else ∃ u, (∀ w', Kw S0 S D k w' → (execOp a.eval o).run P w' = .ok (.value u) w') ∧ walkS P ops S0 i0 D eff Q (k + 1) r S (a.put o.dst u) w)
    else walkS P ops S0 i0 D eff Q (k + 1) r S (a.put o.dst undef) w

theorem any_walk (hW : Wait ops i0 D) {Q : Act → World → Prop} (hs : Region.noSelect ops = true) : ∀ (l : List Oper) (k : Nat) (listed : Array Bool) (S : World → Prop) (a : Act) (w : World), (∀ w, S w → S0 w) → (∀ j, l[j]? = ops[k + j]?) →
    okFrom ops eff l.length k listed = true → walkS P ops S0 i0 D eff Q k l S a w → anyS P ops S0 i0 D eff Q l.length listed S a w
  | [], _, _, _, _, _, _, _, hB, h => ⟨by simpa [okFrom] using hB, h⟩
  | o :: l, k, listed, S, a, w, hss, hl, hB, h => by
    have h0 : ops[k]? = some o := by simpa using (hl 0).symm
    have hl' : ∀ j, l[j]? = ops[(k + 1) + j]? := fun j => by have := hl (j + 1); simpa [Nat.add_assoc, Nat.add_comm 1 j] using this
    simp only [List.length_cons, okFrom, Bool.and_eq_true, h0] at hB
    obtain ⟨⟨⟨hr, hf⟩, hq⟩, hB'⟩ := hB
    have hr' : k ∈ Region.ready .any ops listed := by simpa using hr
    have ih := fun S' (hs' : ∀ w, S' w → S0 w) a' w' => any_walk (Q := Q) hW hs l (k + 1) (listed.setIfInBounds k true) S' a' w' hs' hl' hB'
    simp only [walkS] at h
    split at h
    · rename_i hw
      split at h
      · rename_i he
        rw [he] at hq
        simp only [Bool.not_true, Bool.false_or] at hq
        exact first_loud hW h0 he (Region.noSelect_spec hs) l.length listed S a w hss (Region.free_spec h0 hf) hr' (quietsB_spec hq) hw (wp_bad (fun a' w' ⟨S', h1, h2, h3⟩ => ⟨S', h1, h2, ih S' (fun w hw => hss w (h1.2 w hw)) a' w' h3⟩) h)
      · rename_i he
        obtain ⟨u, hu, h2⟩ := h
        exact first_quiet h0 (Region.noSelect_spec hs) l.length listed S a w (Region.free_spec h0 hf) hr' (.inl ⟨hw, by simpa using he, hu⟩) (ih S hss _ _ h2)
    · rename_i hw
      exact first_quiet h0 (Region.noSelect_spec hs) l.length listed S a w (Region.free_spec h0 hf) hr' (.inr ⟨by simpa using hw, rfl⟩) (ih S hss _ _ h)
end

def waitB (ops : Array Oper) (i0 : Nat) (D : List Nat) : Bool := D.all fun j => match ops[j]? with | none => true | some o => o.after.any fun e => Region.binds .any e && e.on == i0
theorem waitB_spec {ops : Array Oper} {i0 : Nat} {D : List Nat} (h : waitB ops i0 D = true) : Wait ops i0 D := by
  intro j o hj ho
  have h1 := List.all_eq_true.1 h j (by simpa using hj)
  simp only [ho] at h1
  rw [Array.any_eq_true'] at h1
  obtain ⟨e, he, h2⟩ := h1
  simp only [Bool.and_eq_true, beq_iff_eq] at h2
  exact ⟨e, he, h2.1, h2.2⟩
/-- what is left of a region's walk: the operations l, from number k on, at a and w; S0 holds all along, S from i0 on -/
structure Walk (P : Program) (ops : Array Oper) (S0 : World → Prop) (i0 : Nat) (D : List Nat) (L : List Nat) (Q : Act → World → Prop) (k : Nat) (l : List Oper) (S : World → Prop) (a : Act) (w : World) : Prop where
  out : walkS P ops S0 i0 D (loudX L) Q k l S a w

section
variable {P : Program} {S0 S : World → Prop} {L D : List Nat} {i0 : Nat}
theorem region (L : List Nat) (i0 : Nat) (D : List Nat) {id : Nat} {l : List Oper} {Q : Exit → Act → World → Prop} {a : Act} {w : World} (S : World → Prop) (hm : P.follows .mixedOrders = true) (hB : okM l.toArray (loudX L) = true) (hW : waitB l.toArray i0 D = true) (hS : S w.drew)
    (h : Walk P l.toArray S i0 D L (fun a w => Q .normal a w) 0 l S a w.drew) : (Code.region id l.toArray true).wp P Q a w := by
  simp only [okM, Bool.and_eq_true] at hB
  refine wp_region_any hm (any_of (S0 := S) (i0 := i0) (D := D) (eff := loudX L) (Q := fun a w => Q .normal a w) (fun _ _ h => h) _ _ S _ _ (fun _ h => h) hS ?_)
  have := any_walk (P := P) (S0 := S) (eff := loudX L) (waitB_spec hW) (Q := fun a w => Q .normal a w) hB.1 l 0 (Array.replicate l.toArray.size false) S a w.drew (fun _ h => h) (by simp) (by simpa using hB.2) h.out
  simpa using this

variable {ops : Array Oper} {Q : Act → World → Prop} {k : Nat} {o : Oper} {r : List Oper} {a : Act} {w : World}
theorem nil (h : Q a w) : Walk P ops S0 i0 D L Q k [] S a w := ⟨h⟩
theorem skip' (hw : Region.wanted o (yielded ops a.tmps) = false) (h : Walk P ops S0 i0 D L Q (k + 1) r S (a.put o.dst undef) w) : Walk P ops S0 i0 D L Q k (o :: r) S a w := by
  refine ⟨?_⟩; unfold walkS; rw [if_neg (by rw [hw]; decide)]; exact h.out
theorem reads (hw : Region.wanted o (yielded ops a.tmps) = true) (hl : loudX L o = false) {u : Value} (hu : ∀ w', Kw S0 S D k w' → (execOp a.eval o).run P w' = .ok (.value u) w') (h : Walk P ops S0 i0 D L Q (k + 1) r S (a.put o.dst u) w) : Walk P ops S0 i0 D L Q k (o :: r) S a w := by
  refine ⟨?_⟩; unfold walkS; rw [if_pos hw, if_neg (by rw [hl]; decide)]; exact ⟨u, hu, h.out⟩
theorem quietly (hl : loudX L o = false) (h : wpQuiet P ops (fun _ => True) (fun a' => Walk P ops S0 i0 D L Q (k + 1) r S a' w) [o] a) : Walk P ops S0 i0 D L Q k (o :: r) S a w := by
  simp only [wpQuiet] at h
  split at h
  · rename_i hw
    obtain ⟨v, h1, h2⟩ := h
    refine reads hw hl (u := v) (fun w' _ => ?_) h2
    have h3 := h1 w' trivial
    unfold Oper.quietAt at h3
    cases hr : (execOp a.eval o).run P w' with
    | ok n w2 =>
      obtain ⟨u, rfl⟩ := quiet_is (loudX_not hl) hr
      rw [hr] at h3
      simp only [Oper.quietUpon] at h3
      rw [h3.1, h3.2]
    | halt x w2 => rw [hr] at h3; simp only [Oper.quietUpon] at h3
  · rename_i hw
    exact skip' (by simpa using hw) h
theorem skips {d : Option Tmp} {op : Op} {ty : TypeId} {pos : String} {af : Array Edge} {gd : Option (Nat × Bool)} (hw : Region.wanted ⟨d, op, ty, pos, af, gd⟩ (yielded ops a.tmps) = false)
    (h : wpQuiet P ops (fun _ => True) (fun a' => Walk P ops S0 i0 D L Q (k + 1) r S a' w) [⟨d, .assign (.const undef), ty, pos, af, gd⟩] a) : Walk P ops S0 i0 D L Q k (⟨d, op, ty, pos, af, gd⟩ :: r) S a w := by
  refine skip' hw ?_
  have hw' : ¬ Region.wanted ⟨d, .assign (.const undef), ty, pos, af, gd⟩ (yielded ops a.tmps) = true := by
    have e : Region.wanted ⟨d, .assign (.const undef), ty, pos, af, gd⟩ (yielded ops a.tmps) = Region.wanted ⟨d, op, ty, pos, af, gd⟩ (yielded ops a.tmps) := rfl
    rw [e, hw]; decide
  simp only [wpQuiet] at h
  rw [if_neg hw'] at h
  exact h
/-- a loud operation in its place; behind it S' holds (i0 alone may say more than S) -/
theorem loudlyTo (hw : Region.wanted o (yielded ops a.tmps) = true) (hl : loudX L o = true) (h : wpList P ops (fun e a w => e = .normal ∧ ∃ S', Nx S S' i0 k ∧ S' w ∧ Walk P ops S0 i0 D L Q (k + 1) r S' a w) [o] a w) : Walk P ops S0 i0 D L Q k (o :: r) S a w := by
  refine ⟨?_⟩
  unfold walkS; rw [if_pos hw, if_pos hl]
  unfold wpList at h
  rw [if_pos hw] at h
  rcases h with h | h
  · have hK : ∀ a' w', wpList P ops (fun e a w => e = .normal ∧ ∃ S', Nx S S' i0 k ∧ S' w ∧ Walk P ops S0 i0 D L Q (k + 1) r S' a w) [] a' w' → ∃ S', Nx S S' i0 k ∧ S' w' ∧ walkS P ops S0 i0 D (loudX L) Q (k + 1) r S' a' w' := fun a' w' h => by
      unfold wpList at h
      obtain ⟨_, S', h1, h2, h3⟩ := h
      exact ⟨S', h1, h2, h3.out⟩
    unfold Oper.wp at *
    generalize (execOp a.eval o).run P w = x at *
    cases x with
    | ok n w' =>
      cases n <;> simp only [Oper.upon] at h ⊢ <;>
        first
          | exact hK _ _ h
          | exact Calls.mono h (fun e w'' he => by
              cases e with
              | returned u => exact hK _ _ he
              | panicked c => exact absurd he.1 (by simp)
              | outgrown => obtain ⟨f, c, hf, _⟩ := he; cases hf)
          | exact Rows.mono h (fun _ _ he => hK _ _ he)
    | halt x w' => cases x <;> simp only [Oper.upon] at h ⊢; cases h.1
  · obtain ⟨_, _, h, _⟩ := h.2; cases h
theorem same (S : World → Prop) (i0 i : Nat) : Nx S S i0 i := ⟨.inr rfl, fun _ h => h⟩
theorem more {S S' : World → Prop} (i0 : Nat) (h : ∀ w, S' w → S w) : Nx S S' i0 i0 := ⟨.inl rfl, h⟩
/-- a conversion that reads what lasts -/
theorem conv (u : Value) {vx : Value} {d : Option Tmp} {t1 t2 ty : TypeId} {x : Operand} {pos : String} {af : Array Edge} {gd : Option (Nat × Bool)} (hw : Region.wanted ⟨d, .convert t1 t2 x, ty, pos, af, gd⟩ (yielded ops a.tmps) = true) (hdx : loudX L ⟨d, .convert t1 t2 x, ty, pos, af, gd⟩ = false)
    (hx : a.eval x = vx) (hS : ∀ w', Kw S0 S D k w' → (convert t1 t2 vx).run P w' = .ok u w')
    (h : wpQuiet P ops (fun _ => True) (fun a' => Walk P ops S0 i0 D L Q (k + 1) r S a' w) [⟨d, .assign (.const u), ty, pos, #[], none⟩] a) : Walk P ops S0 i0 D L Q k (⟨d, .convert t1 t2 x, ty, pos, af, gd⟩ :: r) S a w := by
  simp only [wpQuiet, Region.wanted, if_true] at h
  obtain ⟨v, h1, h2⟩ := h
  have h3 := h1 w trivial
  unfold Oper.quietAt at h3
  rw [BigFrame.run_assign (.const u) rfl] at h3
  obtain rfl : u = v := h3.2
  refine reads hw hdx (u := u) (fun w' hs => ?_) h2
  have h4 := hS w' hs
  unfold execOp
  simp only [hx]
  rw [Sem.run_bind, h4]
  rfl
end
end Go.Proofs.YtohinaohcndndaaDoor.MixS

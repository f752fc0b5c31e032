/- A region that draws its order, in which operations may end by a panic; walked once, in any order that is allowed. No condition on the program. -/
import Derived.Test.YtppkilkfmclpkaaWalk2
namespace Go.Proofs.Ytppkilkfmclpkaa.MixP
open Go Go.RowKit Go.Proofs.Ytppkilkfmclpkaa.Mix

section
variable {P : Program} {ops : Array Oper} {S : World → Prop} {eff : Oper → Bool} {pan : Nat → Bool} {D : List PanicEntry → List Deferred → World → Prop}

/-- the exit of an operation that may panic -/
def PB (D : List PanicEntry → List Deferred → World → Prop) : Exit → Act → World → Prop := fun e a w => ∃ c, e = .panic c ∧ D c a.defers w
def XE (pan : Nat → Bool) (D : List PanicEntry → List Deferred → World → Prop) (i : Nat) : Exit → Act → World → Prop := if pan i then PB D else Bad
theorem XE.defers {i : Nat} {e : Exit} {a b : Act} {w : World} (hd : b.defers = a.defers) (h : XE pan D i e b w) : XE pan D i e a w := by
  unfold XE at *
  split at h
  · rw [if_pos ‹_›]; obtain ⟨c, h1, h2⟩ := h; exact ⟨c, h1, by rw [← hd]; exact h2⟩
  · exact h.elim
theorem XE.outs {i : Nat} (h : LetsOut (XE pan D i)) : False := by
  obtain ⟨a, w, h⟩ := h
  unfold XE at h
  split at h
  · obtain ⟨c, h1, _⟩ := h; cases h1
  · exact h
theorem wp_mapQ {o : Oper} {a b : Act} {w : World} {K K' : Act → World → Prop} {Q Q' : Exit → Act → World → Prop} (he : execOp b.eval o = execOp a.eval o)
    (hK' : ∀ ds v w', K ((wd a ds).put o.dst v) w' → K' ((wd b ds).put o.dst v) w')
    (hd : b.defers = a.defers) (hQ : ∀ c w, Q (.panic c) a w → Q' (.panic c) b w) (hO : LetsOut Q → LetsOut Q') (h : o.wp P a w K Q) : o.wp P b w K' Q' := by
  have hb : ∀ v w', K (a.put o.dst v) w' → K' (b.put o.dst v) w' := fun v w' hk => by
    have := hK' a.defers v w' hk
    rw [← hd] at this
    exact this
  unfold Oper.wp at *
  rw [he]
  generalize (execOp a.eval o).run P w = r at *
  cases r with
  | ok n w' =>
    cases n <;> simp only [Oper.upon] at h ⊢
    case value u => exact hb _ _ h
    case skip => exact hb _ _ h
    case defer d =>
      have := hK' (d :: a.defers) undef w' h
      rw [← hd] at this
      exact this
    case enter f args =>
      refine Calls.mono h fun e w'' he => ?_
      cases e with
      | returned u => exact hb _ _ he
      | panicked c => exact hQ _ _ he
      | outgrown => exact hO he
    case row row args => exact Rows.mono h fun u w'' he => hb _ _ he
  | halt x w' =>
    cases x <;> simp only [Oper.upon] at h ⊢
    case panic u => exact hQ _ _ h

def stepP (P : Program) (ops : Array Oper) (S : World → Prop) (eff : Oper → Bool) (pan : Nat → Bool) (D : List PanicEntry → List Deferred → World → Prop) (i : Nat) (K : Act → World → Prop) (a : Act) (w : World) : Prop :=
  match ops[i]? with
  | none => K a w
  | some o => if Region.wanted o (yielded ops a.tmps) then
      (if eff o then o.wp P a w (fun a' w' => S w' ∧ K a' w') (XE pan D i)
       else ∃ u, (∀ w', S w' → (execOp a.eval o).run P w' = .ok (.value u) w') ∧ K (a.put o.dst u) w)
    else K (a.put o.dst undef) w

def anyP (P : Program) (ops : Array Oper) (S : World → Prop) (eff : Oper → Bool) (pan : Nat → Bool) (D : List PanicEntry → List Deferred → World → Prop) (Q : Act → World → Prop) : Nat → Array Bool → Act → World → Prop
  | 0, listed, a, w => Region.ready .any ops listed = [] ∧ Q a w
  | fuel + 1, listed, a, w =>
    (Region.ready .any ops listed = [] → Q a w) ∧
    ∀ i ∈ Region.ready .any ops listed, stepP P ops S eff pan D i (anyP P ops S eff pan D Q fuel (listed.setIfInBounds i true)) a w

theorem any_of {Q : Act → World → Prop} {Q' : Exit → Act → World → Prop} (hQ : ∀ a w, Q a w → Q' .normal a w) (hD : ∀ c a w, D c a.defers w → Q' (.panic c) a w) : ∀ (fuel : Nat) (listed : Array Bool) (a : Act) (w : World), S w →
    anyP P ops S eff pan D Q fuel listed a w → wpAny P .any ops Q' fuel listed a w
  | 0, _, _, _, _, h => ⟨h.1, hQ _ _ h.2⟩
  | fuel + 1, listed, a, w, hS, h => ⟨fun h0 => hQ _ _ (h.1 h0), fun i hi => by
      have h1 := h.2 i hi
      have ih := fun a w => any_of hQ hD fuel (listed.setIfInBounds i true) a w
      unfold stepP at h1
      unfold wpOp
      split
      · rename_i ho; simp only [ho] at h1; exact ih _ _ hS h1
      · rename_i o ho
        simp only [ho] at h1
        split
        · rename_i hw
          simp only [hw, if_true] at h1
          split at h1
          · exact .inl (wp_mapQ rfl (fun _ _ _ h2 => ih _ _ h2.1 h2.2) rfl (fun c w hx => by
              unfold XE at hx
              split at hx
              · obtain ⟨c', h3, h4⟩ := hx; cases h3; exact hD _ _ _ h4
              · exact hx.elim) (fun hx => (XE.outs hx).elim) h1)
          · obtain ⟨u, hu, h2⟩ := h1
            refine .inl ?_
            unfold Oper.wp
            rw [hu w hS]
            exact ih _ _ hS h2
        · rename_i hw
          simp only [hw] at h1
          exact ih _ _ hS h1⟩

/-- j behind i, where j does not look at i's slot: j may come up first -/
theorem stepP_put {j : Nat} {oi oj : Oper} {v : Value} (hj : ops[j]? = some oj) (hap : oi.apart ops oj = true)
    (hsi : ∀ cs b, oi.op ≠ .select cs b) (hsj : ∀ cs b, oj.op ≠ .select cs b) {K : Act → World → Prop} {a : Act} {w : World}
    (hy : Gives P ops S eff oi v a) (h : stepP P ops S eff pan D j K (a.put oi.dst v) w) :
    stepP P ops S eff pan D j (fun a' w' => Gives P ops S eff oi v a' ∧ K (a'.put oi.dst v) w') a w := by
  obtain ⟨h1, h2, h3⟩ := Oper.apart_spec hap
  have keep : ∀ ds u, Gives P ops S eff oi v ((wd a ds).put oj.dst u) := fun ds u => by
    rw [wd_put]
    refine hy.same ?_ ?_
    · rw [wd_eval, execOp_put oi hsi a oj.dst u h3]
    · rw [wd_tmps, wanted_put oi a oj.dst u h3]
  unfold stepP at *
  simp only [hj] at *
  rw [wanted_put oj a oi.dst v h1] at h
  split
  · rename_i hw
    simp only [hw, if_true] at h
    split
    · rename_i he
      simp only [he, if_true] at h
      refine wp_mapQ (execOp_put oj hsj a oi.dst v h1).symm (fun ds u w' hk => ⟨hk.1, keep ds u, ?_⟩) (put_defers' _ _ _).symm (fun c w => XE.defers (put_defers' _ _ _)) (fun h => h) h
      have := hk.2
      rw [wd_put] at this
      rw [wd_put, wd_put, ← Act.put_comm a v u h2]
      exact this
    · rename_i he
      simp only [he] at h
      obtain ⟨u, hu, hk⟩ := h
      rw [execOp_put oj hsj a oi.dst v h1] at hu
      exact ⟨u, hu, keep a.defers u, by rw [← Act.put_comm a v u h2]; exact hk⟩
  · rename_i hw
    simp only [hw] at h
    exact ⟨keep a.defers _, by rw [← Act.put_comm a v undef h2]; exact h⟩

theorem stepP_mono {i : Nat} {a : Act} {w : World} {K K' : Act → World → Prop} (h : ∀ a w, K a w → K' a w) (hh : stepP P ops S eff pan D i K a w) : stepP P ops S eff pan D i K' a w := by
  unfold stepP at *
  split
  · rename_i ho; simp only [ho] at hh; exact h _ _ hh
  · rename_i o ho
    simp only [ho] at hh
    split
    · rename_i hw
      simp only [hw, if_true] at hh
      split
      · rename_i he; simp only [he, if_true] at hh; exact wp_mapQ rfl (fun _ _ _ h2 => ⟨h2.1, h _ _ h2.2⟩) rfl (fun _ _ h => h) (fun h => h) hh
      · rename_i he; simp only [he] at hh; obtain ⟨u, hu, hk⟩ := hh; exact ⟨u, hu, h _ _ hk⟩
    · rename_i hw; simp only [hw] at hh; exact h _ _ hh

theorem gives_step {i : Nat} {oi : Oper} {v : Value} {a : Act} {w : World} {K : Act → World → Prop} (hi : ops[i]? = some oi)
    (hy : Gives P ops S eff oi v a) (h : K (a.put oi.dst v) w) : stepP P ops S eff pan D i K a w := by
  unfold stepP
  simp only [hi]
  rcases hy with ⟨hw, he, hr⟩ | ⟨hw, rfl⟩
  · simp only [hw, if_true, he, Bool.false_eq_true, if_false]; exact ⟨v, hr, h⟩
  · simp only [hw, Bool.false_eq_true, if_false]; exact h

/-- an operation that only computes or reads may be taken first -/
theorem first_quiet {Q : Act → World → Prop} {i : Nat} {oi : Oper} {v : Value} (hi : ops[i]? = some oi) (hsel : ∀ (j : Nat) (o : Oper) cs b, ops[j]? = some o → o.op ≠ .select cs b) :
    ∀ (fuel : Nat) (listed : Array Bool) (a : Act) (w : World),
      (∀ j oj, ops[j]? = some oj → j ≠ i → listed.getD j true = false → (∀ e ∈ oj.after, Region.binds .any e = true → e.on ≠ i) → oi.apart ops oj = true) →
      i ∈ Region.ready .any ops listed → Gives P ops S eff oi v a →
      anyP P ops S eff pan D Q fuel (listed.setIfInBounds i true) (a.put oi.dst v) w → anyP P ops S eff pan D Q (fuel + 1) listed a w := by
  intro fuel
  induction fuel with
  | zero =>
    intro listed a w _ hr hy H
    refine ⟨fun h => (by rw [h] at hr; cases hr), fun j hj => ?_⟩
    by_cases hji : j = i
    · subst hji; exact gives_step hi hy H
    · have := ready_mono hj hji
      rw [H.1] at this
      cases this
  | succ fuel ih =>
    intro listed a w hfree hr hy H
    refine ⟨fun h => (by rw [h] at hr; cases hr), fun j hj => ?_⟩
    by_cases hji : j = i
    · subst hji; exact gives_step hi hy H
    · have h1 := H.2 j (ready_mono hj hji)
      obtain ⟨hjun, oj, hoj, hall⟩ := mem_ready.1 hj
      have hnot : ∀ e ∈ oj.after, Region.binds .any e = true → e.on ≠ i := fun e he hb heq => by
        have h1 := hall e he hb
        have h0 := (mem_ready.1 hr).1
        rw [heq] at h1
        rcases Nat.lt_or_ge i listed.size with h' | h'
        · simp [h'] at h0 h1; rw [h0] at h1; cases h1
        · simp [Array.getElem?_eq_none h'] at h1
      have hap := hfree j oj hoj hji hjun hnot
      have h2 := stepP_put hoj hap (fun cs b => hsel i oi cs b hi) (fun cs b => hsel j oj cs b hoj) hy h1
      have hfree' : ∀ k ok, ops[k]? = some ok → k ≠ i → (listed.setIfInBounds j true).getD k true = false →
          (∀ e ∈ ok.after, Region.binds .any e = true → e.on ≠ i) → oi.apart ops ok = true := fun k ok hk hki hun hno => by
        refine hfree k ok hk hki ?_ hno
        by_cases hjk : j = k
        · subst hjk; exact hjun
        · rw [getD_set_ne true hjk] at hun; exact hun
      refine stepP_mono (fun a' w' h3 => ih (listed.setIfInBounds j true) a' w' hfree' (ready_mono hr (Ne.symm hji)) h3.1 ?_) h2
      rw [Array.setIfInBounds_comm _ _ hji]
      exact h3.2

theorem first_loud {Q : Act → World → Prop} {i : Nat} {oi : Oper} (hi : ops[i]? = some oi) (hie : eff oi = true) (hpi : pan i = false) (hsel : ∀ (j : Nat) (o : Oper) cs b, ops[j]? = some o → o.op ≠ .select cs b) :
    ∀ (fuel : Nat) (listed : Array Bool) (a : Act) (w : World),
      (∀ j oj, ops[j]? = some oj → j ≠ i → listed.getD j true = false → (∀ e ∈ oj.after, Region.binds .any e = true → e.on ≠ i) → oi.apart ops oj = true) →
      i ∈ Region.ready .any ops listed → Quiets ops eff listed i → Region.wanted oi (yielded ops a.tmps) = true →
      oi.wp P a w (fun a' w' => S w' ∧ anyP P ops S eff pan D Q fuel (listed.setIfInBounds i true) a' w') Bad → anyP P ops S eff pan D Q (fuel + 1) listed a w := by
  intro fuel
  have take : ∀ (listed : Array Bool) (a : Act) (w : World) (K : Act → World → Prop), Region.wanted oi (yielded ops a.tmps) = true → oi.wp P a w (fun a' w' => S w' ∧ K a' w') Bad → stepP P ops S eff pan D i K a w := by
    intro listed a w K hw H
    unfold stepP
    simp only [hi, hw, if_true, hie, XE, hpi, Bool.false_eq_true, if_false]
    exact H
  induction fuel with
  | zero =>
    intro listed a w _ hr _ hw H
    refine ⟨fun h => (by rw [h] at hr; cases hr), fun j hj => ?_⟩
    by_cases hji : j = i
    · subst hji; exact take listed a w _ hw H
    · obtain ⟨ds, v, w', _, hK⟩ := wp_exists H
      have := ready_mono hj hji
      rw [hK.1] at this
      cases this
  | succ fuel ih =>
    intro listed a w hfree hr hQ hw H
    refine ⟨fun h => (by rw [h] at hr; cases hr), fun j hj => ?_⟩
    by_cases hji : j = i
    · subst hji; exact take listed a w _ hw H
    · obtain ⟨hjun, oj, hoj, hall⟩ := mem_ready.1 hj
      have hnot : ∀ e ∈ oj.after, Region.binds .any e = true → e.on ≠ i := fun e he hb heq => by
        have h1 := hall e he hb
        have h0 := (mem_ready.1 hr).1
        rw [heq] at h1
        rcases Nat.lt_or_ge i listed.size with h' | h'
        · simp [h'] at h0 h1; rw [h0] at h1; cases h1
        · simp [Array.getElem?_eq_none h'] at h1
      have hap := hfree j oj hoj hji hjun hnot
      obtain ⟨h1, h2, h3⟩ := Oper.apart_spec hap
      have hsi := fun cs b => hsel i oi cs b hi
      have hsj := fun cs b => hsel j oj cs b hoj
      have hje : eff oj = false := by
        cases he : eff oj with
        | false => rfl
        | true =>
          obtain ⟨X, hX1, hX2⟩ := hQ
          have := (hX2 j oj hoj hji fun e he hb => hX1 _ (hall e he hb)).2 he
          rw [hjun] at this; cases this
      have hfree' : ∀ k ok, ops[k]? = some ok → k ≠ i → (listed.setIfInBounds j true).getD k true = false →
          (∀ e ∈ ok.after, Region.binds .any e = true → e.on ≠ i) → oi.apart ops ok = true := fun k ok hk hki hun hno => by
        refine hfree k ok hk hki ?_ hno
        by_cases hjk : j = k
        · subst hjk; exact hjun
        · rw [getD_set_ne true hjk] at hun; exact hun
      -- what j comes to, seen behind i
      have seen : ∀ ds v w', anyP P ops S eff pan D Q (fuel + 1) (listed.setIfInBounds i true) ((wd a ds).put oi.dst v) w' →
          (Region.wanted oj (yielded ops a.tmps) = true → ∃ u, (∀ w2, S w2 → (execOp a.eval oj).run P w2 = .ok (.value u) w2) ∧ anyP P ops S eff pan D Q fuel ((listed.setIfInBounds i true).setIfInBounds j true) (((wd a ds).put oi.dst v).put oj.dst u) w') ∧
          (Region.wanted oj (yielded ops a.tmps) = false → anyP P ops S eff pan D Q fuel ((listed.setIfInBounds i true).setIfInBounds j true) (((wd a ds).put oi.dst v).put oj.dst undef) w') := by
        intro ds v w' hk
        have h4 := hk.2 j (ready_mono hj hji)
        unfold stepP at h4
        simp only [hoj] at h4
        rw [wanted_put oj (wd a ds) oi.dst v h1, wd_tmps, execOp_put oj hsj (wd a ds) oi.dst v h1, wd_eval] at h4
        refine ⟨fun hwj => ?_, fun hwj => ?_⟩
        · simp only [hwj, if_true, hje, Bool.false_eq_true, if_false] at h4; exact h4
        · simp only [hwj, Bool.false_eq_true, if_false] at h4; exact h4
      obtain ⟨ds0, v0, w0, hS0', hK0⟩ := wp_exists H
      have hS0 := hS0'
      have hs0 := seen ds0 v0 w0 hK0
      have go : ∀ u, (∀ ds v w', S w' → anyP P ops S eff pan D Q (fuel + 1) (listed.setIfInBounds i true) ((wd a ds).put oi.dst v) w' → anyP P ops S eff pan D Q fuel ((listed.setIfInBounds i true).setIfInBounds j true) (((wd a ds).put oi.dst v).put oj.dst u) w') →
          anyP P ops S eff pan D Q (fuel + 1) (listed.setIfInBounds j true) (a.put oj.dst u) w := by
        intro u hu
        refine ih (listed.setIfInBounds j true) _ w hfree' (ready_mono hr (Ne.symm hji)) (hQ.set hji hj) (by rw [wanted_put oi a oj.dst u h3]; exact hw) ?_
        refine wp_map (execOp_put oi hsi a oj.dst u h3) (fun ds v w' hk => ⟨hk.1, ?_⟩) (put_defers' _ _ _) H
        have h5 := hu ds v w' hk.1 hk.2
        rw [Array.setIfInBounds_comm _ _ (Ne.symm hji)] at h5
        rw [wd_put, wd_put] at h5
        rw [wd_put, ← Act.put_comm a v u h2]
        exact h5
      unfold stepP
      simp only [hoj]
      by_cases hwj : Region.wanted oj (yielded ops a.tmps) = true
      · simp only [hwj, if_true, hje, Bool.false_eq_true, if_false]
        obtain ⟨u, hu, _⟩ := hs0.1 hwj
        refine ⟨u, hu, go u fun ds v w' hS hk => ?_⟩
        obtain ⟨u', hu', hk'⟩ := (seen ds v w' hk).1 hwj
        have e := (hu w0 hS0).symm.trans (hu' w0 hS0)
        simp only [Result.ok.injEq, Next.value.injEq, and_true] at e
        rw [e]
        exact hk'
      · have hwj' : Region.wanted oj (yielded ops a.tmps) = false := by simpa using hwj
        simp only [hwj', Bool.false_eq_true, if_false]
        exact go undef fun ds v w' _ hk => (seen ds v w' hk).2 hwj'

/-- where nothing else can come up, an operation may panic -/
theorem first_sole {Q : Act → World → Prop} {i : Nat} {fuel : Nat} {listed : Array Bool} {a : Act} {w : World} (hr : Region.ready .any ops listed = [i]) (h : stepP P ops S eff pan D i (anyP P ops S eff pan D Q fuel (listed.setIfInBounds i true)) a w) : anyP P ops S eff pan D Q (fuel + 1) listed a w := by
  refine ⟨fun h0 => (by rw [hr] at h0; cases h0), fun j hj => ?_⟩
  rw [hr] at hj
  obtain rfl := List.mem_singleton.1 hj
  exact h

def walkP (P : Program) (ops : Array Oper) (S : World → Prop) (eff : Oper → Bool) (pan : Nat → Bool) (D : List PanicEntry → List Deferred → World → Prop) (Q : Act → World → Prop) : List Nat → Act → World → Prop
  | [], a, w => Q a w
  | i :: r, a, w => stepP P ops S eff pan D i (walkP P ops S eff pan D Q r) a w

def okIs (ops : Array Oper) (eff : Oper → Bool) (pan : Nat → Bool) : List Nat → Array Bool → Bool
  | [], listed => (Region.ready .any ops listed).isEmpty
  | k :: r, listed => (Region.ready .any ops listed).contains k && Region.free .any ops listed k && (match ops[k]? with | some o => !eff o || (if pan k then Region.ready .any ops listed == [k] else quietsB ops eff listed k) | none => false) &&
      okIs ops eff pan r (listed.setIfInBounds k true)

theorem any_walk {Q : Act → World → Prop} (hs : Region.noSelect ops = true) : ∀ (l : List Nat) (listed : Array Bool) (a : Act) (w : World),
    okIs ops eff pan l listed = true → walkP P ops S eff pan D Q l a w → anyP P ops S eff pan D Q l.length listed a w
  | [], _, _, _, hB, h => ⟨by simpa [okIs] using hB, h⟩
  | k :: l, listed, a, w, hB, h => by
    simp only [okIs, Bool.and_eq_true] at hB
    obtain ⟨⟨⟨hr, hf⟩, hq⟩, hB'⟩ := hB
    have hr' : k ∈ Region.ready .any ops listed := by simpa using hr
    have ih := fun a' w' => any_walk (Q := Q) hs l (listed.setIfInBounds k true) a' w' hB'
    simp only [walkP] at h
    have hst := stepP_mono ih h
    split at hq
    · rename_i o h0
      cases he : eff o with
      | true =>
        rw [he] at hq
        simp only [Bool.not_true, Bool.false_or] at hq
        cases hp : pan k with
        | true =>
          rw [hp] at hq
          simp only [if_true, beq_iff_eq] at hq
          exact first_sole hq hst
        | false =>
          rw [hp] at hq
          simp only [Bool.false_eq_true, if_false] at hq
          unfold stepP at hst
          simp only [h0, he, if_true] at hst
          split at hst
          · rename_i hw
            refine first_loud h0 he hp (Region.noSelect_spec hs) l.length listed a w (Region.free_spec h0 hf) hr' (quietsB_spec hq) hw ?_
            simpa only [XE, hp, Bool.false_eq_true, if_false] using hst
          · rename_i hw
            exact first_quiet h0 (Region.noSelect_spec hs) l.length listed a w (Region.free_spec h0 hf) hr' (.inr ⟨by simpa using hw, rfl⟩) hst
      | false =>
        unfold stepP at hst
        simp only [h0, he] at hst
        split at hst
        · rename_i hw
          obtain ⟨u, hu, h2⟩ := hst
          exact first_quiet h0 (Region.noSelect_spec hs) l.length listed a w (Region.free_spec h0 hf) hr' (.inl ⟨hw, he, hu⟩) h2
        · rename_i hw
          exact first_quiet h0 (Region.noSelect_spec hs) l.length listed a w (Region.free_spec h0 hf) hr' (.inr ⟨by simpa using hw, rfl⟩) hst
    · cases hq
def okP (ops : Array Oper) (eff : Oper → Bool) (pan : Nat → Bool) (is : List Nat) : Bool := Region.noSelect ops && is.length == ops.size && okIs ops eff pan is (Array.replicate ops.size false)
end

/-- what is left of a region's walk: the operations of the numbers is, at a and w -/
structure Walk (P : Program) (ops : Array Oper) (S : World → Prop) (L : List Nat) (pan : Nat → Bool) (D : List PanicEntry → List Deferred → World → Prop) (Q : Act → World → Prop) (is : List Nat) (a : Act) (w : World) : Prop where
  out : walkP P ops S (loudX L) pan D Q is a w
section
variable {P : Program} {S : World → Prop} {L : List Nat} {pan : Nat → Bool} {D : List PanicEntry → List Deferred → World → Prop}
/-- the numbers is in that order; ps the numbers of those that may panic -/
theorem region (L is ps : List Nat) {id : Nat} {l : List Oper} {Q : Exit → Act → World → Prop} {a : Act} {w : World} (S : World → Prop) (D : List PanicEntry → List Deferred → World → Prop) (hm : P.follows .mixedOrders = true) (hB : okP l.toArray (loudX L) (fun i => ps.contains i) is = true) (hS : S w.drew)
    (hD : ∀ c a w, D c a.defers w → Q (.panic c) a w)
    (h : Walk P l.toArray S L (fun i => ps.contains i) D (fun a w => Q .normal a w) is a w.drew) : (Code.region id l.toArray true).wp P Q a w := by
  simp only [okP, Bool.and_eq_true, beq_iff_eq] at hB
  refine wp_region_any hm (any_of (S := S) (eff := loudX L) (pan := fun i => ps.contains i) (D := D) (Q := fun a w => Q .normal a w) (fun _ _ h => h) hD _ _ _ _ hS ?_)
  have := any_walk (P := P) (S := S) (eff := loudX L) (pan := fun i => ps.contains i) (D := D) (Q := fun a w => Q .normal a w) hB.1.1 is (Array.replicate l.toArray.size false) a w.drew hB.2 h.out
  rw [hB.1.2] at this
  simpa using this
variable {ops : Array Oper} {Q : Act → World → Prop} {i : Nat} {o : Oper} {r : List Nat} {a : Act} {w : World}
theorem nil (h : Q a w) : Walk P ops S L pan D Q [] a w := ⟨h⟩
/-- an operation that computes, reads, or is loud and does not panic: by the steps of Mx, with none behind it -/
theorem step (ho : ops[i]? = some o) (h : Mx.Walk P ops S false L (fun a w => Walk P ops S L pan D Q r a w) [o] a w) : Walk P ops S L pan D Q (i :: r) a w := by
  have h := h.out
  refine ⟨?_⟩
  simp only [walkP]
  unfold stepP
  simp only [ho]
  unfold walkM at h
  split
  · rename_i hw
    simp only [hw, if_true] at h
    split
    · rename_i he
      simp only [he, if_true] at h
      refine wp_mapQ rfl (fun _ _ _ h2 => ?_) rfl (fun _ _ h => h.elim) (fun h => by obtain ⟨_, _, h⟩ := h; exact h.elim) h
      obtain ⟨h3, h4⟩ := h2
      unfold walkM at h4
      rcases h3 with ⟨h3, _⟩ | h3
      · cases h3
      · exact ⟨h3, h4.out⟩
    · rename_i he
      simp only [he] at h
      obtain ⟨u, hu, h4⟩ := h
      unfold walkM at h4
      exact ⟨u, hu, h4.out⟩
  · rename_i hw
    simp only [hw] at h
    unfold walkM at h
    exact h.out
/-- an operation that may panic -/
theorem panicky (ho : ops[i]? = some o) (hw : Region.wanted o (yielded ops a.tmps) = true) (hl : loudX L o = true) (hp : pan i = true)
    (h : wpList P ops (fun e a w => (e = .normal ∧ S w ∧ Walk P ops S L pan D Q r a w) ∨ ∃ c, e = .panic c ∧ D c a.defers w) [o] a w) : Walk P ops S L pan D Q (i :: r) a w := by
  refine ⟨?_⟩
  simp only [walkP]
  unfold stepP
  simp only [ho, hw, if_true, hl]
  unfold wpList at h
  rw [if_pos hw] at h
  rcases h with h | h
  · refine wp_mapQ rfl (fun _ _ _ h2 => ?_) rfl (fun c w h2 => ?_) (fun h2 => ?_) h
    · unfold wpList at h2
      rcases h2 with h2 | ⟨c, h2, _⟩
      · exact ⟨h2.2.1, h2.2.2.out⟩
      · cases h2
    · unfold XE
      rw [if_pos hp]
      rcases h2 with h2 | h2
      · exact absurd h2.1 (by simp)
      · exact h2
    · obtain ⟨_, _, h2⟩ := h2
      rcases h2 with h2 | ⟨c, h2, _⟩
      · exact absurd h2.1 (by simp)
      · cases h2
  · obtain ⟨_, _, h2⟩ := h.2
    rcases h2 with h2 | ⟨c, h2, _⟩
    · exact absurd h2.1 (by simp)
    · cases h2
end
end Go.Proofs.Ytppkilkfmclpkaa.MixP

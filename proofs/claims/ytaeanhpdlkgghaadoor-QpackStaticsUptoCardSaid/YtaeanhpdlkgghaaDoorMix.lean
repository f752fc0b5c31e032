/- A region that draws its order, walked once in the order of the text: operations that only compute or read what lasts may come up anywhere, those that write, make memory or call come up in one order. No condition on the program. -/
import Derived.Test.YtaeanhpdlkgghaaDoorMem
import Derived.BigQuiet
namespace Go.Proofs.YtaeanhpdlkgghaaDoor.Mix
open Go Go.RowKit

def Bad : Exit → Act → World → Prop := fun _ _ _ => False

/-- an act with other deferred calls -/
def wd (a : Act) (ds : List Deferred) : Act := { a with defers := ds }
theorem wd_self (a : Act) : wd a a.defers = a := rfl
theorem wd_eval (a : Act) (ds : List Deferred) : (wd a ds).eval = a.eval := by funext x; cases x <;> rfl
theorem wd_put (a : Act) (ds : List Deferred) (d : Option Tmp) (v : Value) : (wd a ds).put d v = wd (a.put d v) ds := by cases d <;> rfl
theorem wd_tmps (a : Act) (ds : List Deferred) : (wd a ds).tmps = a.tmps := rfl
theorem wd_wd (a : Act) (x y : List Deferred) : wd (wd a x) y = wd a y := rfl

section
variable {P : Program} {ops : Array Oper} {S : World → Prop} {m : Nat} {eff : Oper → Bool}

/-- what an operation hands on, as one form -/
theorem wp_exists {o : Oper} {a : Act} {w : World} {K : Act → World → Prop} (h : o.wp P a w K Bad) : ∃ ds v w', K ((wd a ds).put o.dst v) w' := by
  unfold Oper.wp at h
  generalize (execOp a.eval o).run P w = r at h
  cases r with
  | ok n w' =>
    cases n <;> simp only [Oper.upon] at h
    case value u => exact ⟨_, u, w', h⟩
    case skip => exact ⟨_, undef, w', h⟩
    case defer d => exact ⟨d :: a.defers, undef, w', h⟩
    case enter f args =>
      obtain ⟨e, w'', fr, hR, _⟩ := h []
      cases e with
      | returned u => exact ⟨_, u, w'', hR⟩
      | panicked c => exact hR.elim
      | outgrown => obtain ⟨_, _, hf⟩ := hR; exact hf.elim
    case row row args =>
      obtain ⟨u, w'', hR, _⟩ := h default []
      exact ⟨_, u, w'', hR⟩
  | halt x w' =>
    cases x <;> simp only [Oper.upon] at h
    case panic u => exact h.elim

theorem wp_map {o : Oper} {a b : Act} {w : World} {K K' : Act → World → Prop} (he : execOp b.eval o = execOp a.eval o)
    (hK' : ∀ ds v w', K ((wd a ds).put o.dst v) w' → K' ((wd b ds).put o.dst v) w')
    (hd : b.defers = a.defers) (h : o.wp P a w K Bad) : o.wp P b w K' Bad := by
  have hb : ∀ v w', K (a.put o.dst v) w' → K' (b.put o.dst v) w' := fun v w' hk => by
    have := hK' a.defers v w' hk
    rw [← hd] at this
    exact this
  unfold Oper.wp at *
  rw [he]
  generalize (execOp a.eval o).run P w = r at *
  cases r with
  | ok n w' =>
    cases n <;> simp only [Oper.upon] at h ⊢
    case value u => exact hb _ _ h
    case skip => exact hb _ _ h
    case defer d =>
      have := hK' (d :: a.defers) undef w' h
      rw [← hd] at this
      exact this
    case enter f args =>
      refine Calls.mono h fun e w'' he => ?_
      cases e with
      | returned u => exact hb _ _ he
      | panicked c => exact he
      | outgrown => exact he
    case row row args => exact Rows.mono h fun u w'' he => hb _ _ he
  | halt x w' =>
    cases x <;> simp only [Oper.upon] at h ⊢
    case panic u => exact h

/-- what is to hold behind operation i: nothing behind m, which is the last one -/
def Aft (S : World → Prop) (m i : Nat) (w : World) : Prop := i = m ∨ S w
theorem Aft.of {S : World → Prop} {m i : Nat} {w : World} (h : Aft S m i w) (hi : i ≠ m) : S w := h.elim (fun e => absurd e hi) (fun h => h)
/-- what an operation waits for has come up before it -/
def Down (ops : Array Oper) (listed : Array Bool) : Prop := ∀ k o, ops[k]? = some o → listed.getD k false = true → ∀ e ∈ o.after, Region.binds .any e = true → listed.getD e.on false = true
theorem Down.set {ops : Array Oper} {listed : Array Bool} (h : Down ops listed) {i : Nat} (hr : i ∈ Region.ready .any ops listed) : Down ops (listed.setIfInBounds i true) := by
  intro k o ho hk e he hb
  have up : ∀ j, listed.getD j false = true → (listed.setIfInBounds i true).getD j false = true := fun j hj => by
    by_cases hij : i = j
    · subst hij
      rcases Nat.lt_or_ge i listed.size with hlt | hlt
      · simp [hlt]
      · simp [Array.getElem?_eq_none hlt] at hj
    · rw [getD_set_ne false hij]; exact hj
  by_cases hik : i = k
  · subst hik
    obtain ⟨_, o', ho', hall⟩ := mem_ready.1 hr
    rw [ho] at ho'
    cases ho'
    exact up _ (hall e he hb)
  · rw [getD_set_ne false hik] at hk
    exact up _ (h k o ho hk e he hb)
theorem Down.start (ops : Array Oper) (n : Nat) : Down ops (Array.replicate n false) := by
  intro k o _ hk
  simp [Array.getElem?_replicate] at hk
  split at hk <;> simp at hk
/-- m comes up last -/
def Last (ops : Array Oper) (m : Nat) : Prop := ∀ listed, Down ops listed → m ∈ Region.ready .any ops listed → ∀ k, k < ops.size → k ≠ m → listed.getD k true = true
theorem Last.only {m : Nat} (h : Last ops m) {listed : Array Bool} (hd : Down ops listed) (hm : m ∈ Region.ready .any ops listed) {j : Nat} (hj : j ∈ Region.ready .any ops listed) : j = m := by
  obtain ⟨hun, o, ho, _⟩ := mem_ready.1 hj
  refine Classical.byContradiction fun hne => ?_
  have := h listed hd hm j (Array.getElem?_eq_some_iff.1 ho).1 hne
  rw [hun] at this; cases this
theorem Last.ended {m : Nat} (h : Last ops m) {listed : Array Bool} (hd : Down ops listed) (hm : m ∈ Region.ready .any ops listed) : Region.ready .any ops (listed.setIfInBounds m true) = [] := by
  refine List.eq_nil_iff_forall_not_mem.2 fun j hj => ?_
  obtain ⟨hun, o, ho, _⟩ := mem_ready.1 hj
  by_cases hne : m = j
  · subst hne
    rcases Nat.lt_or_ge m listed.size with hlt | hlt
    · simp [hlt] at hun
    · have h0 := (mem_ready.1 hm).1
      simp [Array.getElem?_eq_none hlt] at h0
  · rw [getD_set_ne true hne] at hun
    have := h listed hd hm j (Array.getElem?_eq_some_iff.1 ho).1 (Ne.symm hne)
    rw [hun] at this; cases this
def stepM (P : Program) (ops : Array Oper) (S T : World → Prop) (eff : Oper → Bool) (i : Nat) (K : Act → World → Prop) (a : Act) (w : World) : Prop :=
  match ops[i]? with
  | none => K a w
  | some o => if Region.wanted o (yielded ops a.tmps) then
      (if eff o then o.wp P a w (fun a' w' => T w' ∧ K a' w') Bad
       else ∃ u, (∀ w', S w' → (execOp a.eval o).run P w' = .ok (.value u) w') ∧ K (a.put o.dst u) w)
    else K (a.put o.dst undef) w

def anyM (P : Program) (ops : Array Oper) (S : World → Prop) (m : Nat) (eff : Oper → Bool) (Q : Act → World → Prop) : Nat → Array Bool → Act → World → Prop
  | 0, listed, a, w => Region.ready .any ops listed = [] ∧ Q a w
  | fuel + 1, listed, a, w =>
    (Region.ready .any ops listed = [] → Q a w) ∧
    ∀ i ∈ Region.ready .any ops listed, stepM P ops S (Aft S m i) eff i (anyM P ops S m eff Q fuel (listed.setIfInBounds i true)) a w

theorem wp_bad {o : Oper} {a : Act} {w : World} {K K' : Act → World → Prop} {Q : Exit → Act → World → Prop} (h : ∀ a w, K a w → K' a w) (hh : o.wp P a w K Bad) : o.wp P a w K' Q := by
  unfold Oper.wp at *
  generalize (execOp a.eval o).run P w = r at *
  cases r with
  | ok n w' =>
    cases n <;> simp only [Oper.upon] at hh ⊢ <;>
      first
        | exact h _ _ hh
        | exact Calls.mono hh (fun e w'' he => by
            cases e with
            | returned u => exact h _ _ he
            | panicked c => exact he.elim
            | outgrown => obtain ⟨_, _, hf⟩ := he; exact hf.elim)
        | exact Rows.mono hh (fun _ _ he => h _ _ he)
  | halt x w' => cases x <;> simp only [Oper.upon] at hh ⊢; exact hh.elim

theorem any_end {Q : Act → World → Prop} {Q' : Exit → Act → World → Prop} (hQ : ∀ a w, Q a w → Q' .normal a w) : ∀ (fuel : Nat) (listed : Array Bool) (a : Act) (w : World), Region.ready .any ops listed = [] →
    anyM P ops S m eff Q fuel listed a w → wpAny P .any ops Q' fuel listed a w
  | 0, _, _, _, _, h => ⟨h.1, hQ _ _ h.2⟩
  | fuel + 1, listed, a, w, h0, h => ⟨fun h0 => hQ _ _ (h.1 h0), fun i hi => by rw [h0] at hi; cases hi⟩
theorem any_of (hL : Last ops m) {Q : Act → World → Prop} {Q' : Exit → Act → World → Prop} (hQ : ∀ a w, Q a w → Q' .normal a w) : ∀ (fuel : Nat) (listed : Array Bool) (a : Act) (w : World), Down ops listed → S w →
    anyM P ops S m eff Q fuel listed a w → wpAny P .any ops Q' fuel listed a w
  | 0, _, _, _, _, _, h => ⟨h.1, hQ _ _ h.2⟩
  | fuel + 1, listed, a, w, hD, hS, h => ⟨fun h0 => hQ _ _ (h.1 h0), fun i hi => by
      have h1 := h.2 i hi
      have ih := fun a w => any_of hL hQ fuel (listed.setIfInBounds i true) a w (hD.set hi)
      unfold stepM at h1
      unfold wpOp
      split
      · rename_i ho; simp only [ho] at h1; exact ih _ _ hS h1
      · rename_i o ho
        simp only [ho] at h1
        split
        · rename_i hw
          simp only [hw, if_true] at h1
          split at h1
          · by_cases him : i = m
            · subst him
              exact .inl (wp_bad (fun a' w' h2 => any_end hQ fuel _ _ _ (hL.ended hD hi) h2.2) h1)
            · exact .inl (wp_bad (fun a' w' h2 => ih _ _ (h2.1.of him) h2.2) h1)
          · obtain ⟨u, hu, h2⟩ := h1
            refine .inl ?_
            unfold Oper.wp
            rw [hu w hS]
            exact ih _ _ hS h2
        · rename_i hw
          simp only [hw] at h1
          exact ih _ _ hS h1⟩

/-- operation o, which is none of the loud ones, yields v at a, in every world that meets S; or it is passed over -/
def Gives (P : Program) (ops : Array Oper) (S : World → Prop) (eff : Oper → Bool) (o : Oper) (v : Value) (a : Act) : Prop :=
  (Region.wanted o (yielded ops a.tmps) = true ∧ eff o = false ∧ ∀ w, S w → (execOp a.eval o).run P w = .ok (.value v) w) ∨ (Region.wanted o (yielded ops a.tmps) = false ∧ v = undef)
theorem Gives.same {o : Oper} {v : Value} {a b : Act} (h : Gives P ops S eff o v a) (he : execOp b.eval o = execOp a.eval o) (hw : Region.wanted o (yielded ops b.tmps) = Region.wanted o (yielded ops a.tmps)) : Gives P ops S eff o v b := by
  unfold Gives at *; rw [he, hw]; exact h

theorem put_defers' (a : Act) (d : Option Tmp) (v : Value) : (a.put d v).defers = a.defers := by cases d <;> rfl

/-- j behind i, where j does not look at i's slot: j may come up first -/
theorem stepM_put {T : World → Prop} {j : Nat} {oi oj : Oper} {v : Value} (hj : ops[j]? = some oj) (hap : oi.apart ops oj = true)
    (hsi : ∀ cs b, oi.op ≠ .select cs b) (hsj : ∀ cs b, oj.op ≠ .select cs b) {K : Act → World → Prop} {a : Act} {w : World}
    (hy : Gives P ops S eff oi v a) (h : stepM P ops S T eff j K (a.put oi.dst v) w) :
    stepM P ops S T eff j (fun a' w' => Gives P ops S eff oi v a' ∧ K (a'.put oi.dst v) w') a w := by
  obtain ⟨h1, h2, h3⟩ := Oper.apart_spec hap
  have keep : ∀ ds u, Gives P ops S eff oi v ((wd a ds).put oj.dst u) := fun ds u => by
    rw [wd_put]
    refine hy.same ?_ ?_
    · rw [wd_eval, execOp_put oi hsi a oj.dst u h3]
    · rw [wd_tmps, wanted_put oi a oj.dst u h3]
  unfold stepM at *
  simp only [hj] at *
  rw [wanted_put oj a oi.dst v h1] at h
  split
  · rename_i hw
    simp only [hw, if_true] at h
    split
    · rename_i he
      simp only [he, if_true] at h
      refine wp_map (execOp_put oj hsj a oi.dst v h1).symm (fun ds u w' hk => ⟨hk.1, keep ds u, ?_⟩) (put_defers' _ _ _).symm h
      have := hk.2
      rw [wd_put] at this
      rw [wd_put, wd_put, ← Act.put_comm a v u h2]
      exact this
    · rename_i he
      simp only [he] at h
      obtain ⟨u, hu, hk⟩ := h
      rw [execOp_put oj hsj a oi.dst v h1] at hu
      exact ⟨u, hu, keep a.defers u, by rw [← Act.put_comm a v u h2]; exact hk⟩
  · rename_i hw
    simp only [hw] at h
    exact ⟨keep a.defers _, by rw [← Act.put_comm a v undef h2]; exact h⟩

theorem stepM_mono {T : World → Prop} {i : Nat} {a : Act} {w : World} {K K' : Act → World → Prop} (h : ∀ a w, K a w → K' a w) (hh : stepM P ops S T eff i K a w) : stepM P ops S T eff i K' a w := by
  unfold stepM at *
  split
  · rename_i ho; simp only [ho] at hh; exact h _ _ hh
  · rename_i o ho
    simp only [ho] at hh
    split
    · rename_i hw
      simp only [hw, if_true] at hh
      split
      · rename_i he; simp only [he, if_true] at hh; exact wp_bad (fun _ _ h2 => ⟨h2.1, h _ _ h2.2⟩) hh
      · rename_i he; simp only [he] at hh; obtain ⟨u, hu, hk⟩ := hh; exact ⟨u, hu, h _ _ hk⟩
    · rename_i hw; simp only [hw] at hh; exact h _ _ hh

theorem Gives.step {T : World → Prop} {i : Nat} {oi : Oper} {v : Value} {a : Act} {w : World} {K : Act → World → Prop} (hi : ops[i]? = some oi)
    (hy : Gives P ops S eff oi v a) (h : K (a.put oi.dst v) w) : stepM P ops S T eff i K a w := by
  unfold stepM
  simp only [hi]
  rcases hy with ⟨hw, he, hr⟩ | ⟨hw, rfl⟩
  · simp only [hw, if_true, he, Bool.false_eq_true, if_false]; exact ⟨v, hr, h⟩
  · simp only [hw, Bool.false_eq_true, if_false]; exact h

/-- an operation that only computes or reads may be taken first -/
theorem first_quiet {Q : Act → World → Prop} {i : Nat} {oi : Oper} {v : Value} (hi : ops[i]? = some oi) (hsel : ∀ (j : Nat) (o : Oper) cs b, ops[j]? = some o → o.op ≠ .select cs b) :
    ∀ (fuel : Nat) (listed : Array Bool) (a : Act) (w : World),
      (∀ j oj, ops[j]? = some oj → j ≠ i → listed.getD j true = false → (∀ e ∈ oj.after, Region.binds .any e = true → e.on ≠ i) → oi.apart ops oj = true) →
      i ∈ Region.ready .any ops listed → Gives P ops S eff oi v a →
      anyM P ops S m eff Q fuel (listed.setIfInBounds i true) (a.put oi.dst v) w → anyM P ops S m eff Q (fuel + 1) listed a w := by
  intro fuel
  induction fuel with
  | zero =>
    intro listed a w _ hr hy H
    refine ⟨fun h => (by rw [h] at hr; cases hr), fun j hj => ?_⟩
    by_cases hji : j = i
    · subst hji; exact hy.step hi H
    · have := ready_mono hj hji
      rw [H.1] at this
      cases this
  | succ fuel ih =>
    intro listed a w hfree hr hy H
    refine ⟨fun h => (by rw [h] at hr; cases hr), fun j hj => ?_⟩
    by_cases hji : j = i
    · subst hji; exact hy.step hi H
    · have h1 := H.2 j (ready_mono hj hji)
      obtain ⟨hjun, oj, hoj, hall⟩ := mem_ready.1 hj
      have hnot : ∀ e ∈ oj.after, Region.binds .any e = true → e.on ≠ i := fun e he hb heq => by
        have h1 := hall e he hb
        have h0 := (mem_ready.1 hr).1
        rw [heq] at h1
        rcases Nat.lt_or_ge i listed.size with h' | h'
        · simp [h'] at h0 h1; rw [h0] at h1; cases h1
        · simp [Array.getElem?_eq_none h'] at h1
      have hap := hfree j oj hoj hji hjun hnot
      have h2 := stepM_put hoj hap (fun cs b => hsel i oi cs b hi) (fun cs b => hsel j oj cs b hoj) hy h1
      have hfree' : ∀ k ok, ops[k]? = some ok → k ≠ i → (listed.setIfInBounds j true).getD k true = false →
          (∀ e ∈ ok.after, Region.binds .any e = true → e.on ≠ i) → oi.apart ops ok = true := fun k ok hk hki hun hno => by
        refine hfree k ok hk hki ?_ hno
        by_cases hjk : j = k
        · subst hjk; exact hjun
        · rw [getD_set_ne true hjk] at hun; exact hun
      refine stepM_mono (fun a' w' h3 => ih (listed.setIfInBounds j true) a' w' hfree' (ready_mono hr (Ne.symm hji)) h3.1 ?_) h2
      rw [Array.setIfInBounds_comm _ _ hji]
      exact h3.2

/-! ### a loud operation may be taken first, where whatever else may come up ahead of it is none -/

/-- what may come up while i has not: a set that is closed -/
def Quiets (ops : Array Oper) (eff : Oper → Bool) (listed : Array Bool) (i : Nat) : Prop :=
  ∃ X : Nat → Prop, (∀ k, listed.getD k false = true → X k) ∧
    (∀ (j : Nat) oj, ops[j]? = some oj → j ≠ i → (∀ e ∈ oj.after, Region.binds .any e = true → X e.on) → X j ∧ (eff oj = true → listed.getD j true = true))

theorem Quiets.set {listed : Array Bool} {i j : Nat} (h : Quiets ops eff listed i) (hne : j ≠ i) (hr : j ∈ Region.ready .any ops listed) : Quiets ops eff (listed.setIfInBounds j true) i := by
  obtain ⟨X, h1, h2⟩ := h
  refine ⟨X, fun k hk => ?_, fun k ok hok hk hall => ?_⟩
  · by_cases hjk : j = k
    · subst hjk
      obtain ⟨_, o, ho, hall⟩ := mem_ready.1 hr
      exact (h2 j o ho hne fun e he hb => h1 _ (hall e he hb)).1
    · rw [getD_set_ne false hjk] at hk; exact h1 k hk
  · obtain ⟨hx, he⟩ := h2 k ok hok hk hall
    refine ⟨hx, fun hek => ?_⟩
    by_cases hjk : j = k
    · subst hjk
      have hlt : j < listed.size ∨ listed.size ≤ j := Nat.lt_or_ge _ _
      rcases hlt with hlt | hlt
      · simp [hlt]
      · simp [hlt]
    · rw [getD_set_ne true hjk]; exact he hek

theorem first_loud (hL : Last ops m) {Q : Act → World → Prop} {i : Nat} {oi : Oper} (hi : ops[i]? = some oi) (hie : eff oi = true) (hsel : ∀ (j : Nat) (o : Oper) cs b, ops[j]? = some o → o.op ≠ .select cs b) :
    ∀ (fuel : Nat) (listed : Array Bool) (a : Act) (w : World),
      (∀ j oj, ops[j]? = some oj → j ≠ i → listed.getD j true = false → (∀ e ∈ oj.after, Region.binds .any e = true → e.on ≠ i) → oi.apart ops oj = true) →
      Down ops listed → i ∈ Region.ready .any ops listed → Quiets ops eff listed i → Region.wanted oi (yielded ops a.tmps) = true →
      oi.wp P a w (fun a' w' => Aft S m i w' ∧ anyM P ops S m eff Q fuel (listed.setIfInBounds i true) a' w') Bad → anyM P ops S m eff Q (fuel + 1) listed a w := by
  intro fuel
  have take : ∀ (listed : Array Bool) (a : Act) (w : World) (K : Act → World → Prop), Region.wanted oi (yielded ops a.tmps) = true → oi.wp P a w (fun a' w' => Aft S m i w' ∧ K a' w') Bad → stepM P ops S (Aft S m i) eff i K a w := by
    intro listed a w K hw H
    unfold stepM
    simp only [hi, hw, if_true, hie]
    exact H
  induction fuel with
  | zero =>
    intro listed a w _ hD hr _ hw H
    refine ⟨fun h => (by rw [h] at hr; cases hr), fun j hj => ?_⟩
    by_cases hji : j = i
    · subst hji; exact take listed a w _ hw H
    · obtain ⟨ds, v, w', _, hK⟩ := wp_exists H
      have := ready_mono hj hji
      rw [hK.1] at this
      cases this
  | succ fuel ih =>
    intro listed a w hfree hD hr hQ hw H
    refine ⟨fun h => (by rw [h] at hr; cases hr), fun j hj => ?_⟩
    by_cases hji : j = i
    · subst hji; exact take listed a w _ hw H
    · have him : i ≠ m := fun e => hji (by subst e; exact hL.only hD hr hj)
      obtain ⟨hjun, oj, hoj, hall⟩ := mem_ready.1 hj
      have hnot : ∀ e ∈ oj.after, Region.binds .any e = true → e.on ≠ i := fun e he hb heq => by
        have h1 := hall e he hb
        have h0 := (mem_ready.1 hr).1
        rw [heq] at h1
        rcases Nat.lt_or_ge i listed.size with h' | h'
        · simp [h'] at h0 h1; rw [h0] at h1; cases h1
        · simp [Array.getElem?_eq_none h'] at h1
      have hap := hfree j oj hoj hji hjun hnot
      obtain ⟨h1, h2, h3⟩ := Oper.apart_spec hap
      have hsi := fun cs b => hsel i oi cs b hi
      have hsj := fun cs b => hsel j oj cs b hoj
      have hje : eff oj = false := by
        cases he : eff oj with
        | false => rfl
        | true =>
          obtain ⟨X, hX1, hX2⟩ := hQ
          have := (hX2 j oj hoj hji fun e he hb => hX1 _ (hall e he hb)).2 he
          rw [hjun] at this; cases this
      have hfree' : ∀ k ok, ops[k]? = some ok → k ≠ i → (listed.setIfInBounds j true).getD k true = false →
          (∀ e ∈ ok.after, Region.binds .any e = true → e.on ≠ i) → oi.apart ops ok = true := fun k ok hk hki hun hno => by
        refine hfree k ok hk hki ?_ hno
        by_cases hjk : j = k
        · subst hjk; exact hjun
        · rw [getD_set_ne true hjk] at hun; exact hun
      -- what j comes to, seen behind i
      have seen : ∀ ds v w', anyM P ops S m eff Q (fuel + 1) (listed.setIfInBounds i true) ((wd a ds).put oi.dst v) w' →
          (Region.wanted oj (yielded ops a.tmps) = true → ∃ u, (∀ w2, S w2 → (execOp a.eval oj).run P w2 = .ok (.value u) w2) ∧ anyM P ops S m eff Q fuel ((listed.setIfInBounds i true).setIfInBounds j true) (((wd a ds).put oi.dst v).put oj.dst u) w') ∧
          (Region.wanted oj (yielded ops a.tmps) = false → anyM P ops S m eff Q fuel ((listed.setIfInBounds i true).setIfInBounds j true) (((wd a ds).put oi.dst v).put oj.dst undef) w') := by
        intro ds v w' hk
        have h4 := hk.2 j (ready_mono hj hji)
        unfold stepM at h4
        simp only [hoj] at h4
        rw [wanted_put oj (wd a ds) oi.dst v h1, wd_tmps, execOp_put oj hsj (wd a ds) oi.dst v h1, wd_eval] at h4
        refine ⟨fun hwj => ?_, fun hwj => ?_⟩
        · simp only [hwj, if_true, hje, Bool.false_eq_true, if_false] at h4; exact h4
        · simp only [hwj, Bool.false_eq_true, if_false] at h4; exact h4
      obtain ⟨ds0, v0, w0, hS0', hK0⟩ := wp_exists H
      have hS0 := hS0'.of him
      have hs0 := seen ds0 v0 w0 hK0
      have go : ∀ u, (∀ ds v w', S w' → anyM P ops S m eff Q (fuel + 1) (listed.setIfInBounds i true) ((wd a ds).put oi.dst v) w' → anyM P ops S m eff Q fuel ((listed.setIfInBounds i true).setIfInBounds j true) (((wd a ds).put oi.dst v).put oj.dst u) w') →
          anyM P ops S m eff Q (fuel + 1) (listed.setIfInBounds j true) (a.put oj.dst u) w := by
        intro u hu
        refine ih (listed.setIfInBounds j true) _ w hfree' (hD.set hj) (ready_mono hr (Ne.symm hji)) (hQ.set hji hj) (by rw [wanted_put oi a oj.dst u h3]; exact hw) ?_
        refine wp_map (execOp_put oi hsi a oj.dst u h3) (fun ds v w' hk => ⟨hk.1, ?_⟩) (put_defers' _ _ _) H
        have h5 := hu ds v w' (hk.1.of him) hk.2
        rw [Array.setIfInBounds_comm _ _ (Ne.symm hji)] at h5
        rw [wd_put, wd_put] at h5
        rw [wd_put, ← Act.put_comm a v u h2]
        exact h5
      unfold stepM
      simp only [hoj]
      by_cases hwj : Region.wanted oj (yielded ops a.tmps) = true
      · simp only [hwj, if_true, hje, Bool.false_eq_true, if_false]
        obtain ⟨u, hu, _⟩ := hs0.1 hwj
        refine ⟨u, hu, go u fun ds v w' hS hk => ?_⟩
        obtain ⟨u', hu', hk'⟩ := (seen ds v w' hk).1 hwj
        have e := (hu w0 hS0).symm.trans (hu' w0 hS0)
        simp only [Result.ok.injEq, Next.value.injEq, and_true] at e
        rw [e]
        exact hk'
      · have hwj' : Region.wanted oj (yielded ops a.tmps) = false := by simpa using hwj
        simp only [hwj', Bool.false_eq_true, if_false]
        exact go undef fun ds v w' _ hk => (seen ds v w' hk).2 hwj'

/-! ### the walk in the order of the text, and its check -/
def walkM (P : Program) (ops : Array Oper) (S : World → Prop) (z : Bool) (eff : Oper → Bool) (Q : Act → World → Prop) : List Oper → Act → World → Prop
  | [], a, w => Q a w
  | o :: r, a, w => if Region.wanted o (yielded ops a.tmps) then
      (if eff o then o.wp P a w (fun a' w' => ((z = true ∧ r = []) ∨ S w') ∧ walkM P ops S z eff Q r a' w') Bad
       else ∃ u, (∀ w', S w' → (execOp a.eval o).run P w' = .ok (.value u) w') ∧ walkM P ops S z eff Q r (a.put o.dst u) w)
    else walkM P ops S z eff Q r (a.put o.dst undef) w

def closure (ops : Array Oper) (listed : Array Bool) (i : Nat) : Array Bool :=
  (List.range ops.size).foldl (fun X j => if j != i && ((ops[j]?).map fun o => o.after.all fun e => !Region.binds .any e || X.getD e.on false).getD false then X.setIfInBounds j true else X) listed
def quietsB (ops : Array Oper) (eff : Oper → Bool) (listed : Array Bool) (i : Nat) : Bool :=
  let X := closure ops listed i
  ((List.range listed.size).all fun k => !listed.getD k false || X.getD k false) &&
  (List.range ops.size).all fun j => j == i || match ops[j]? with
    | none => true
    | some o => !(o.after.all fun e => !Region.binds .any e || X.getD e.on false) || (X.getD j false && (!eff o || listed.getD j true))
theorem quietsB_spec {listed : Array Bool} {i : Nat} (h : quietsB ops eff listed i = true) : Quiets ops eff listed i := by
  simp only [quietsB, Bool.and_eq_true, List.all_eq_true, List.mem_range] at h
  obtain ⟨h1, h2⟩ := h
  refine ⟨fun k => (closure ops listed i).getD k false = true, fun k hk => ?_, fun j oj hoj hji hall => ?_⟩
  · have hlt : k < listed.size := by
      rcases Nat.lt_or_ge k listed.size with h | h
      · exact h
      · simp [Array.getElem?_eq_none h] at hk
    have := h1 k hlt
    rw [hk] at this
    simpa using this
  · have h3 := h2 j (Array.getElem?_eq_some_iff.1 hoj).1
    rw [hoj] at h3
    have h4 : (j == i) = false := by simp [hji]
    have h5 : (oj.after.all fun e => !Region.binds .any e || (closure ops listed i).getD e.on false) = true := by
      rw [Array.all_eq_true_iff_forall_mem]
      intro e he
      cases hb : Region.binds .any e with
      | false => rfl
      | true => simpa using hall e he hb
    simp only [h4, Bool.false_or] at h3
    rw [h5] at h3
    simp only [Bool.not_true, Bool.false_or, Bool.and_eq_true, Bool.or_eq_true] at h3
    refine ⟨h3.1, fun he => ?_⟩
    rcases h3.2 with h6 | h6
    · rw [he] at h6; cases h6
    · exact h6
def okFrom (ops : Array Oper) (eff : Oper → Bool) : Nat → Nat → Array Bool → Bool
  | 0, _, listed => (Region.ready .any ops listed).isEmpty
  | f + 1, k, listed => (Region.ready .any ops listed).contains k && Region.free .any ops listed k && (match ops[k]? with | some o => !eff o || quietsB ops eff listed k | none => false) &&
      okFrom ops eff f (k + 1) (listed.setIfInBounds k true)

theorem any_walk {z : Bool} (hz : z = true → m + 1 = ops.size) (hL : Last ops m) {Q : Act → World → Prop} (hs : Region.noSelect ops = true) : ∀ (l : List Oper) (k : Nat) (listed : Array Bool) (a : Act) (w : World), (∀ j, l[j]? = ops[k + j]?) → Down ops listed →
    okFrom ops eff l.length k listed = true → walkM P ops S z eff Q l a w → anyM P ops S m eff Q l.length listed a w
  | [], _, _, _, _, _, _, hB, h => ⟨by simpa [okFrom] using hB, h⟩
  | o :: l, k, listed, a, w, hl, hD, hB, h => by
    have h0 : ops[k]? = some o := by simpa using (hl 0).symm
    have hl' : ∀ j, l[j]? = ops[(k + 1) + j]? := fun j => by have := hl (j + 1); simpa [Nat.add_assoc, Nat.add_comm 1 j] using this
    simp only [List.length_cons, okFrom, Bool.and_eq_true, h0] at hB
    obtain ⟨⟨⟨hr, hf⟩, hq⟩, hB'⟩ := hB
    have hr' : k ∈ Region.ready .any ops listed := by simpa using hr
    have ih := fun a' w' => any_walk (Q := Q) hz hL hs l (k + 1) (listed.setIfInBounds k true) a' w' hl' (hD.set hr') hB'
    simp only [walkM] at h
    split at h
    · rename_i hw
      split at h
      · rename_i he
        rw [he] at hq
        simp only [Bool.not_true, Bool.false_or] at hq
        refine first_loud hL h0 he (Region.noSelect_spec hs) l.length listed a w (Region.free_spec h0 hf) hD hr' (quietsB_spec hq) hw (wp_bad (fun a' w' h2 => ⟨?_, ih a' w' h2.2⟩) h)
        rcases h2.1 with ⟨hz1, rfl⟩ | h3
        · refine .inl ?_
          have h4 := hl' 0
          simp only [List.getElem?_nil, Nat.add_zero] at h4
          have h5 := Array.getElem?_eq_none_iff.1 h4.symm
          have h6 := (Array.getElem?_eq_some_iff.1 h0).1
          have := hz hz1
          omega
        · exact .inr h3
      · rename_i he
        obtain ⟨u, hu, h2⟩ := h
        exact first_quiet h0 (Region.noSelect_spec hs) l.length listed a w (Region.free_spec h0 hf) hr' (.inl ⟨hw, by simpa using he, hu⟩) (ih _ _ h2)
    · rename_i hw
      exact first_quiet h0 (Region.noSelect_spec hs) l.length listed a w (Region.free_spec h0 hf) hr' (.inr ⟨by simpa using hw, rfl⟩) (ih _ _ h)

def okM (ops : Array Oper) (eff : Oper → Bool) : Bool := Region.noSelect ops && okFrom ops eff ops.size 0 (Array.replicate ops.size false)
end

/-- which operations are loud: all but those that compute, look into a value or read a cell -/
def loud (o : Oper) : Bool := match o.op with
  | .move _ | .assign _ | .pick .. | .load .. | .binOp .. | .unOp .. | .convert .. | .slice .. | .fieldAddr .. | .field .. | .indexAddr .. | .index .. | .extract .. | .build .. | .makeInterface .. | .nilCheck .. => false
  | .call c => match c.callee with | .builtin .len => false | .builtin .cap => false | .builtin .min => false | .builtin .max => false | _ => true
  | _ => true

/-- the same, where some operations that read are to come up in their place (the slots L) -/
def loudX (L : List Nat) (o : Oper) : Bool := loud o || (match o.dst with | some d => L.contains d | none => false)
theorem loudX_not {L : List Nat} {o : Oper} (h : loudX L o = false) : loud o = false := by
  simp only [loudX, Bool.or_eq_false_iff] at h; exact h.1

section
variable {P : Program} {S : World → Prop} {L : List Nat}
/-- each operation but the last is waited for -/
def lastB (ops : Array Oper) : Bool := (List.range (ops.size - 1)).all fun k => (List.range ops.size).any fun p => decide (k < p) && match ops[p]? with
  | some o => o.after.any fun e => Region.binds .any e && e.on == k
  | none => false
theorem lastB_spec {ops : Array Oper} (h : lastB ops = true) {m : Nat} (hm : m + 1 = ops.size) : Last ops m := by
  intro listed hD hr
  simp only [lastB, List.all_eq_true, List.any_eq_true, List.mem_range, Bool.and_eq_true, decide_eq_true_eq] at h
  have go : ∀ d k, ops.size - k = d → k < ops.size → k ≠ m → listed.getD k false = true := by
    intro d
    induction d using Nat.strongRecOn with
    | ind d ih =>
      intro k hd hk hne
      obtain ⟨p, hp, hkp, h2⟩ := h k (by omega)
      split at h2
      · rename_i o ho
        rw [Array.any_eq_true'] at h2
        obtain ⟨e, he, h3⟩ := h2
        simp only [Bool.and_eq_true, beq_iff_eq] at h3
        obtain ⟨hb, rfl⟩ := h3
        by_cases hpm : p = m
        · subst hpm
          obtain ⟨_, o', ho', hall⟩ := mem_ready.1 hr
          rw [ho] at ho'
          cases ho'
          exact hall e he hb
        · exact hD p o ho (ih (ops.size - p) (by omega) p rfl hp hpm) e he hb
      · cases h2
  intro k hk hne
  have h1 := go _ k rfl hk hne
  rcases Nat.lt_or_ge k listed.size with hlt | hlt
  · simp [hlt] at h1 ⊢; exact h1
  · simp [Array.getElem?_eq_none hlt] at h1
theorem last_none (ops : Array Oper) : Last ops ops.size := by
  intro listed _ hr
  obtain ⟨_, o, ho, _⟩ := mem_ready.1 hr
  simp at ho
theorem regionX (L : List Nat) {id : Nat} {l : List Oper} {Q : Exit → Act → World → Prop} {a : Act} {w : World} (S : World → Prop) (hm : P.follows .mixedOrders = true) (hB : okM l.toArray (loudX L) = true) (hS : S w.drew)
    (h : walkM P l.toArray S false (loudX L) (fun a w => Q .normal a w) l a w.drew) : (Code.region id l.toArray true).wp P Q a w := by
  simp only [okM, Bool.and_eq_true] at hB
  refine wp_region_any hm (any_of (S := S) (eff := loudX L) (last_none l.toArray) (Q := fun a w => Q .normal a w) (fun _ _ h => h) _ _ _ _ (Down.start _ _) hS ?_)
  have := any_walk (P := P) (S := S) (eff := loudX L) (z := false) (by simp) (last_none l.toArray) (Q := fun a w => Q .normal a w) hB.1 l 0 (Array.replicate l.toArray.size false) a w.drew (by simp) (Down.start _ _) (by simpa using hB.2) h
  simpa using this
/-- the same, where nothing has to hold behind the last operation, which waits for all others -/
theorem regionZ (L : List Nat) {id : Nat} {l : List Oper} {Q : Exit → Act → World → Prop} {a : Act} {w : World} (S : World → Prop) (hm : P.follows .mixedOrders = true) (hB : (okM l.toArray (loudX L) && lastB l.toArray && decide (0 < l.toArray.size)) = true) (hS : S w.drew)
    (h : walkM P l.toArray S true (loudX L) (fun a w => Q .normal a w) l a w.drew) : (Code.region id l.toArray true).wp P Q a w := by
  simp only [okM, Bool.and_eq_true, decide_eq_true_eq] at hB
  have hsz : l.toArray.size - 1 + 1 = l.toArray.size := by omega
  have hL := lastB_spec hB.1.2 hsz
  refine wp_region_any hm (any_of (S := S) (eff := loudX L) hL (Q := fun a w => Q .normal a w) (fun _ _ h => h) _ _ _ _ (Down.start _ _) hS ?_)
  have := any_walk (P := P) (S := S) (eff := loudX L) (z := true) (fun _ => hsz) hL (Q := fun a w => Q .normal a w) hB.1.1.1 l 0 (Array.replicate l.toArray.size false) a w.drew (by simp) (Down.start _ _) (by simpa using hB.1.1.2) h
  simpa using this
theorem region {id : Nat} {l : List Oper} {Q : Exit → Act → World → Prop} {a : Act} {w : World} (S : World → Prop) (hm : P.follows .mixedOrders = true) (hB : okM l.toArray (loudX []) = true) (hS : S w.drew)
    (h : walkM P l.toArray S false (loudX []) (fun a w => Q .normal a w) l a w.drew) : (Code.region id l.toArray true).wp P Q a w := regionX [] S hm hB hS h

variable {z : Bool} {ops : Array Oper} {Q : Act → World → Prop} {o : Oper} {r : List Oper} {a : Act} {w : World}
theorem nil (h : Q a w) : walkM P ops S z (loudX L) Q [] a w := h
theorem skip (hw : Region.wanted o (yielded ops a.tmps) = false) (h : walkM P ops S z (loudX L) Q r (a.put o.dst undef) w) : walkM P ops S z (loudX L) Q (o :: r) a w := by
  unfold walkM; rw [if_neg (by rw [hw]; decide)]; exact h
theorem isLoudT (hw : Region.wanted o (yielded ops a.tmps) = true) (hl : loudX L o = true) (h : wpList P ops (fun e a w => e = .normal ∧ ((z = true ∧ r = []) ∨ S w) ∧ walkM P ops S z (loudX L) Q r a w) [o] a w) : walkM P ops S z (loudX L) Q (o :: r) a w := by
  unfold walkM; rw [if_pos hw, if_pos hl]
  unfold wpList at h
  rw [if_pos hw] at h
  rcases h with h | h
  · have hK : ∀ a' w', wpList P ops (fun e a w => e = .normal ∧ ((z = true ∧ r = []) ∨ S w) ∧ walkM P ops S z (loudX L) Q r a w) [] a' w' → ((z = true ∧ r = []) ∨ S w') ∧ walkM P ops S z (loudX L) Q r a' w' := fun a' w' h => by unfold wpList at h; exact h.2
    unfold Oper.wp at *
    generalize (execOp a.eval o).run P w = x at *
    cases x with
    | ok n w' =>
      cases n <;> simp only [Oper.upon] at h ⊢ <;>
        first
          | exact hK _ _ h
          | exact Calls.mono h (fun e w'' he => by
              cases e with
              | returned u => exact hK _ _ he
              | panicked c => exact absurd he.1 (by simp)
              | outgrown => obtain ⟨f, c, hf, _⟩ := he; cases hf)
          | exact Rows.mono h (fun _ _ he => hK _ _ he)
    | halt x w' => cases x <;> simp only [Oper.upon] at h ⊢; cases h.1
  · obtain ⟨_, _, h, _⟩ := h.2; cases h
theorem isLoud (hw : Region.wanted o (yielded ops a.tmps) = true) (hl : loudX L o = true) (h : wpList P ops (fun e a w => e = .normal ∧ S w ∧ walkM P ops S z (loudX L) Q r a w) [o] a w) : walkM P ops S z (loudX L) Q (o :: r) a w := by
  refine isLoudT hw hl ?_
  unfold wpList at h ⊢
  rw [if_pos hw] at h ⊢
  rcases h with h | h
  · refine .inl ?_
    have hK : ∀ a' w', wpList P ops (fun e a w => e = .normal ∧ S w ∧ walkM P ops S z (loudX L) Q r a w) [] a' w' → wpList P ops (fun e a w => e = .normal ∧ ((z = true ∧ r = []) ∨ S w) ∧ walkM P ops S z (loudX L) Q r a w) [] a' w' := fun a' w' h => by
      unfold wpList at h ⊢
      exact ⟨h.1, .inr h.2.1, h.2.2⟩
    unfold Oper.wp at *
    generalize (execOp a.eval o).run P w = x at *
    cases x with
    | ok n w' =>
      cases n <;> simp only [Oper.upon] at h ⊢ <;>
        first
          | exact hK _ _ h
          | exact Calls.mono h (fun e w'' he => by
              cases e with
              | returned u => exact hK _ _ he
              | panicked c => exact absurd he.1 (by simp)
              | outgrown => obtain ⟨f, c, hf, _⟩ := he; cases hf)
          | exact Rows.mono h (fun _ _ he => hK _ _ he)
    | halt x w' => cases x <;> simp only [Oper.upon] at h ⊢; cases h.1
  · obtain ⟨_, _, h, _⟩ := h.2; cases h
theorem reads (hw : Region.wanted o (yielded ops a.tmps) = true) (hl : loudX L o = false) {u : Value} (hu : ∀ w', S w' → (execOp a.eval o).run P w' = .ok (.value u) w') (h : walkM P ops S z (loudX L) Q r (a.put o.dst u) w) : walkM P ops S z (loudX L) Q (o :: r) a w := by
  unfold walkM; rw [if_pos hw, if_neg (by rw [hl]; decide)]; exact ⟨u, hu, h⟩

theorem value_of {α : Type} {r : Result α} {f : α → Value} {n : Next} {w' : World} (h : (r.andThen fun x w => .ok (.value (f x)) w) = .ok n w') : ∃ u, n = .value u := by
  cases r <;> simp [Result.andThen] at h
  exact ⟨_, h.1.symm⟩
theorem value_of2 {α : Type} {r : Result α} {g : α → World → Result Value} {n : Next} {w' : World} (h : (r.andThen fun x w => (g x w).andThen fun y w => .ok (.value y) w) = .ok n w') : ∃ u, n = .value u := by
  cases r with
  | ok x w => exact value_of (f := id) h
  | halt x w => simp [Result.andThen] at h
theorem quiet_is {a : Act} {w w' : World} {n : Next} (hl : loud o = false) (h : (execOp a.eval o).run P w = .ok n w') : ∃ u, n = .value u := by
  unfold loud at hl
  unfold execOp at h
  split at hl <;> rename_i ho <;> simp only [ho] at h
  case h_17 c _ =>
    split at hl
    all_goals first | (cases hl; done) | skip
    all_goals
      rename_i hc
      simp [resolve, hc, invoke, builtin] at h
      exact value_of (f := id) h
  case h_18 => cases hl
  case h_16 =>
    split at h
    case h_4 =>
      split at h
      · simp [runtimePanic] at h
      · simp only [Sem.run_bind] at h
        cases hp : program.run P w with
        | halt x w2 => rw [hp] at h; simp [Result.andThen] at h
        | ok p w2 =>
          rw [hp] at h
          simp only [Result.andThen_ok] at h
          generalize hq : (nilAhead _ _ _ _).run P w2 = q at h
          cases q with
          | halt x w3 => simp [Result.andThen] at h
          | ok b w3 =>
            simp only [Result.andThen_ok] at h
            split at h
            · simp [unsupported] at h
            · simp only [Sem.run_pure, Result.ok.injEq] at h; exact ⟨_, h.1.symm⟩
      · simp only [Sem.run_pure, Result.ok.injEq] at h; exact ⟨_, h.1.symm⟩
    all_goals first
      | (simp only [Sem.run_pure, Result.ok.injEq] at h; exact ⟨_, h.1.symm⟩)
      | (simp [runtimePanic] at h)
  all_goals first
    | (simp only [Sem.run_pure, Result.ok.injEq] at h; exact ⟨_, h.1.symm⟩)
    | (simp [Sem.run_bind] at h; exact value_of h)
    | (simp [Sem.run_bind] at h; exact value_of (f := id) h)
    | (simp [Sem.run_bind] at h; exact value_of2 h)
/-- an operation that only computes -/
theorem pure (hw : Region.wanted o (yielded ops a.tmps) = true) (hl : loudX L o = false) (h : ∀ K : Act → Prop, (∀ a, walkM P ops S z (loudX L) Q r a w → K a) → o.quiet P a (fun _ => True) K) : walkM P ops S z (loudX L) Q (o :: r) a w := by
  obtain ⟨v, h1, h2⟩ := h _ fun _ h => h
  refine reads hw hl (u := v) (fun w' _ => ?_) h2
  have h3 := h1 w' trivial
  unfold Oper.quietAt at h3
  cases hr : (execOp a.eval o).run P w' with
  | ok n w2 =>
    obtain ⟨u, rfl⟩ := quiet_is (loudX_not hl) hr
    rw [hr] at h3
    simp only [Oper.quietUpon] at h3
    rw [h3.1, h3.2]
  | halt x w2 => rw [hr] at h3; simp only [Oper.quietUpon] at h3
/-- an operation that computes, where that needs a fact of the worlds -/
theorem pureIn (hw : Region.wanted o (yielded ops a.tmps) = true) (hl : loudX L o = false) (h : ∀ K : Act → Prop, (∀ a, walkM P ops S z (loudX L) Q r a w → K a) → o.quiet P a S K) : walkM P ops S z (loudX L) Q (o :: r) a w := by
  obtain ⟨v, h1, h2⟩ := h _ fun _ h => h
  refine reads hw hl (u := v) (fun w' hS => ?_) h2
  have h3 := h1 w' hS
  unfold Oper.quietAt at h3
  cases hr : (execOp a.eval o).run P w' with
  | ok n w2 =>
    obtain ⟨u, rfl⟩ := quiet_is (loudX_not hl) hr
    rw [hr] at h3
    simp only [Oper.quietUpon] at h3
    rw [h3.1, h3.2]
  | halt x w2 => rw [hr] at h3; simp only [Oper.quietUpon] at h3
/-- a cell that lasts is read -/
theorem cell {t : TypeId} {x : Operand} {ad : Addr} {u : Value} (hw : Region.wanted o (yielded ops a.tmps) = true) (hdx : loudX L o = false) (ho : o.op = .load t x) (hx : a.eval x = .pointer (some ad)) (hg : ∀ w, (isAgg t).run P w = .ok false w)
    (hu : ∀ w', S w' → w'.cell? ad = some u) (h : walkM P ops S z (loudX L) Q r (a.put o.dst u) w) : walkM P ops S z (loudX L) Q (o :: r) a w := by
  refine reads hw hdx (u := u) (fun w' hS => ?_) h
  have h1 := hu w' hS
  have h2 := hg w'
  unfold execOp
  simp only [ho, hx]
  simp [go_sem, h1, h2]
end
end Go.Proofs.YtaeanhpdlkgghaaDoor.Mix

/- A region that draws its order, within a round of a range over a function: XMix there too. No condition on the program. -/
import Derived.Test.YtaeanhpdlkgghaaDoorSeqBox
import Derived.Test.YtaeanhpdlkgghaaDoorWalk
namespace Go.Proofs.YtaeanhpdlkgghaaDoor.Mix
open Go Go.RowKit

section
variable {P : Program} {ops : Array Oper} {S : World → Prop} {m : Nat} {eff : Oper → Bool} {l n : Nat}
theorem rows_in {row : String} {args : Array Value} {w : World} {R : Value → World → Prop} (h : Rows P row args w R) : RowsIn (Fence.wide.inRound l) n P row args w R :=
  fun c cs _ => let ⟨v, w', r, s⟩ := h c cs; ⟨v, w', r, stepsIn_wide.2 s⟩
theorem op_in {o : Oper} {a : Act} {w : World} {K : Act → World → Prop} {Q : Exit → Act → World → Prop} (hd : ∀ c, o.op ≠ Op.defer c) (h : o.wp P a w K Bad) : o.wpIn (Fence.wide.inRound l) n P a w K Q := by
  refine ⟨fun _ _ => trivial, ?_⟩
  rw [Oper.semAt_plain _ _ _ hd]
  unfold Oper.wp at h
  generalize (execOp a.eval o).run P w = r at *
  cases r with
  | ok x w' =>
    cases x <;> simp only [Oper.upon, Oper.uponIn] at h ⊢
    case value u => exact h
    case skip => exact h
    case defer d => exact h
    case enter f args =>
      refine ⟨(fun h => by cases h), CallsIn.inRound l (callsIn_wide.2 (h.mono fun e w'' he => ?_))⟩
      cases e with
      | returned u => exact he
      | panicked c => exact he.elim
      | outgrown => obtain ⟨_, _, hf⟩ := he; exact hf.elim
    case row row args => exact ⟨(fun h => by cases h), rows_in h⟩
  | halt x w' =>
    cases x <;> simp only [Oper.upon, Oper.uponIn] at h ⊢
    case panic u => exact h.elim
def NoDefer (ops : Array Oper) : Prop := ∀ (i : Nat) (o : Oper), ops[i]? = some o → ∀ c, o.op ≠ Op.defer c
theorem any_endIn (_ : NoDefer ops) {Q : Act → World → Prop} {Q' : Exit → Act → World → Prop} (hQ : ∀ a w, Q a w → Q' .normal a w) : ∀ (fuel : Nat) (listed : Array Bool) (a : Act) (w : World), Region.ready .any ops listed = [] →
    anyM P ops S m eff Q fuel listed a w → wpAnyIn (Fence.wide.inRound l) n P .any ops Q' fuel listed a w
  | 0, _, _, _, _, h => ⟨h.1, hQ _ _ h.2⟩
  | fuel + 1, listed, a, w, h0, h => ⟨fun h0 => hQ _ _ (h.1 h0), fun i hi => by rw [h0] at hi; cases hi⟩
theorem any_ofIn (hN : NoDefer ops) (hL : Last ops m) {Q : Act → World → Prop} {Q' : Exit → Act → World → Prop} (hQ : ∀ a w, Q a w → Q' .normal a w) : ∀ (fuel : Nat) (listed : Array Bool) (a : Act) (w : World), Down ops listed → S w →
    anyM P ops S m eff Q fuel listed a w → wpAnyIn (Fence.wide.inRound l) n P .any ops Q' fuel listed a w
  | 0, _, _, _, _, _, h => ⟨h.1, hQ _ _ h.2⟩
  | fuel + 1, listed, a, w, hD, hS, h => ⟨fun h0 => hQ _ _ (h.1 h0), fun i hi => by
      have h1 := h.2 i hi
      have ih := fun a w => any_ofIn hN hL hQ fuel (listed.setIfInBounds i true) a w (hD.set hi)
      unfold stepM at h1
      unfold wpOpIn
      split
      · rename_i ho; simp only [ho] at h1; exact ih _ _ hS h1
      · rename_i o ho
        simp only [ho] at h1
        split
        · rename_i hw
          simp only [hw, if_true] at h1
          split at h1
          · by_cases him : i = m
            · subst him
              exact op_in (hN _ _ ho) (wp_bad (fun a' w' h2 => any_endIn hN hQ fuel _ _ _ (hL.ended hD hi) h2.2) h1)
            · exact op_in (hN _ _ ho) (wp_bad (fun a' w' h2 => ih _ _ (h2.1.of him) h2.2) h1)
          · obtain ⟨u, hu, h2⟩ := h1
            refine op_in (hN _ _ ho) ?_
            unfold Oper.wp
            rw [hu w hS]
            exact ih _ _ hS h2
        · rename_i hw
          simp only [hw] at h1
          exact ⟨fun _ _ => trivial, ih _ _ hS h1⟩⟩
def noDeferB (ops : Array Oper) : Bool := ops.all fun o => match o.op with | Op.defer _ => false | _ => true
theorem noDeferB_spec (h : noDeferB ops = true) : NoDefer ops := by
  intro i o ho c hc
  have h1 := Array.all_eq_true_iff_forall_mem.1 h o (Array.mem_of_getElem? ho)
  rw [hc] at h1
  cases h1
end
end Go.Proofs.YtaeanhpdlkgghaaDoor.Mix
namespace Go.Proofs.YtaeanhpdlkgghaaDoor.Mx
open Go Go.RowKit Go.Proofs.YtaeanhpdlkgghaaDoor.Mix
section
variable {P : Program} {r n : Nat}
theorem regionIn (L : List Nat) {id : Nat} {l : List Oper} {Q : Exit → Act → World → Prop} {a : Act} {w : World} (S : World → Prop) (hm : P.follows .mixedOrders = true) (hB : (okM l.toArray (loudX L) && noDeferB l.toArray) = true) (hS : S w.drew)
    (h : Walk P l.toArray S false L (fun a w => Q .normal a w) l a w.drew) : (Code.region id l.toArray true).wpIn (Fence.wide.inRound r) n P Q a w := by
  simp only [okM, Bool.and_eq_true] at hB
  refine wpIn_region_any hm (any_ofIn (S := S) (eff := loudX L) (noDeferB_spec hB.2) (last_none l.toArray) (Q := fun a w => Q .normal a w) (fun _ _ h => h) _ _ _ _ (Down.start _ _) hS ?_)
  have := any_walk (P := P) (S := S) (eff := loudX L) (z := false) (by simp) (last_none l.toArray) (Q := fun a w => Q .normal a w) hB.1.1 l 0 (Array.replicate l.toArray.size false) a w.drew (by simp) (Down.start _ _) (by simpa using hB.1.2) h.out
  simpa using this
/-- the same, where nothing has to hold behind the last operation -/
theorem regionZIn (L : List Nat) {id : Nat} {l : List Oper} {Q : Exit → Act → World → Prop} {a : Act} {w : World} (S : World → Prop) (hm : P.follows .mixedOrders = true) (hB : (okM l.toArray (loudX L) && lastB l.toArray && decide (0 < l.toArray.size) && noDeferB l.toArray) = true) (hS : S w.drew)
    (h : Walk P l.toArray S true L (fun a w => Q .normal a w) l a w.drew) : (Code.region id l.toArray true).wpIn (Fence.wide.inRound r) n P Q a w := by
  simp only [okM, Bool.and_eq_true, decide_eq_true_eq] at hB
  have hsz : l.toArray.size - 1 + 1 = l.toArray.size := by omega
  have hL := lastB_spec hB.1.1.2 hsz
  refine wpIn_region_any hm (any_ofIn (S := S) (eff := loudX L) (noDeferB_spec hB.2) hL (Q := fun a w => Q .normal a w) (fun _ _ h => h) _ _ _ _ (Down.start _ _) hS ?_)
  have := any_walk (P := P) (S := S) (eff := loudX L) (z := true) (fun _ => hsz) hL (Q := fun a w => Q .normal a w) hB.1.1.1.1 l 0 (Array.replicate l.toArray.size false) a w.drew (by simp) (Down.start _ _) (by simpa using hB.1.1.1.2) h.out
  simpa using this
end
end Go.Proofs.YtaeanhpdlkgghaaDoor.Mx

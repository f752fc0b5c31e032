/- The queue against the document's: plain lemmas. -/
import Derived.Test.YtkjclgpecppokaaRfNext
import Derived.Test.YtkjclgpecppokaaRfTurn
import Derived.Test.YtkjclgpecppokaaSqLim
namespace Go.Proofs.Ytkjclgpecppokaa

/-- the queue with the bytes that are done put back -/
def Qu.lift (q : Qu) (pre : List UInt8) : Qu := { q with base := 0, data := pre ++ q.data, st := List.replicate q.base 3 ++ q.st }
/-- what holds of a queue at every call -/
structure PInv (q : Qu) (pre : List UInt8) : Prop where
  ok : q.Ok
  pre : pre.length = q.base
  head : q.st[0]? ≠ some 3
  fresh : ∀ (i : Nat) (s : UInt8), q.st[i]? = some s → (q.sent ≤ q.base + i ↔ s = 0)

theorem PInv.new {room : Nat} (h1 : 1 ≤ room) (h2 : room ≤ 65536) : PInv (Qu.new room) [] := ⟨Qu.new_ok h1 h2, rfl, by simp [Qu.new], by simp [Qu.new]⟩
theorem lift_lead {q : Qu} {pre : List UInt8} (h : PInv q pre) : (q.lift pre).lead = q.base := by
  unfold Qu.lead Qu.lift
  refine runL_is 3 _ _ q.base (by simp) (fun j hj => ?_) ?_
  · rw [List.getElem?_append_left (by simpa using hj), List.getElem?_replicate, if_pos hj]
  · right
    rw [List.getElem?_append_right (by simp)]
    simpa using h.head
theorem lift_ok {q : Qu} {pre : List UInt8} (h : PInv q pre) (hm : q.base + q.data.length ≤ 8796093022208) : (q.lift pre).ROk := by
  have h1 := h.ok.len
  have h2 := h.pre
  have h3 := h.ok.sent
  have h4 := h.ok.fit
  have h5 := lift_lead h
  refine ⟨rfl, by simp [Qu.lift]; omega, h.ok.room2, ?_, by simp [Qu.lift]; omega, by simp [Qu.lift]; omega⟩
  rw [h5]
  simp [Qu.lift]
  omega

/-! ### Write, Finish -/
theorem lift_werr (q : Qu) (pre : List UInt8) : (q.lift pre).werr = q.werr := rfl
theorem lift_finish (q : Qu) (pre : List UInt8) : (q.lift pre).finish = q.finish.lift pre := rfl
theorem PInv.finish {q : Qu} {pre : List UInt8} (h : PInv q pre) : PInv q.finish pre := ⟨h.ok.finish, h.pre, h.head, h.fresh⟩
theorem lift_took {q : Qu} {pre : List UInt8} (h : PInv q pre) (l : List UInt8) : (q.lift pre).rtook l = q.took l := by
  unfold Qu.rtook Qu.took
  rw [lift_lead h]
  have h2 := h.pre
  have e : (q.lift pre).data.length = q.base + q.data.length := by simp [Qu.lift]; omega
  have e2 : (q.lift pre).room = q.room := rfl
  have e3 : (q.lift pre).fin = q.fin := rfl
  rw [e, e2, e3]
  split
  · rfl
  · congr 1
    omega
theorem lift_write {q : Qu} {pre : List UInt8} (h : PInv q pre) (l : List UInt8) : (q.lift pre).rwrite l = (q.write l).lift pre := by
  unfold Qu.rwrite
  rw [lift_took h]
  unfold Qu.lift Qu.write
  simp
theorem PInv.write {q : Qu} {pre : List UInt8} (h : PInv q pre) (l : List UInt8) (hm : q.base + q.data.length + l.length ≤ 1152921504606846976) : PInv (q.write l) pre := by
  have h1 := h.ok.len
  have h3 := h.ok.sent
  refine ⟨h.ok.write l hm, h.pre, ?_, ?_⟩
  · show (q.st ++ List.replicate (q.took l) 0)[0]? ≠ some 3
    rw [List.getElem?_append]
    split
    · exact h.head
    · rw [List.getElem?_replicate]
      split <;> simp
  · intro i s hs
    have hs : (q.st ++ List.replicate (q.took l) 0)[i]? = some s := hs
    show q.sent ≤ q.base + i ↔ s = 0
    rw [List.getElem?_append] at hs
    split at hs
    · exact h.fresh i s hs
    · rw [List.getElem?_replicate] at hs
      split at hs
      · simp at hs
        subst hs
        simp
        omega
      · cases hs

/-! ### Next -/
theorem ib_lift {l : List UInt8} {b : Nat} {x : UInt8} (hx : x ≠ 3) : Lib.indexByte (List.replicate b 3 ++ l) x = if Lib.indexByte l x < 0 then -1 else (b : Int) + Lib.indexByte l x := by
  split
  · rename_i h
    have h1 := Lib.indexByte_ge l x
    have hn := Lib.indexByte_none (show Lib.indexByte l x = -1 by omega)
    have h2 := Lib.indexByte_ge (List.replicate b 3 ++ l) x
    rcases Int.lt_or_le (Lib.indexByte (List.replicate b 3 ++ l) x) 0 with h3 | h3
    · omega
    · obtain ⟨m, hm⟩ := Int.eq_ofNat_of_zero_le h3
      have h4 := (Lib.indexByte_some hm).1
      rw [List.getElem?_append, List.length_replicate] at h4
      split at h4
      · rename_i hmb
        rw [List.getElem?_replicate, if_pos hmb] at h4
        exact absurd (Option.some.inj h4).symm hx
      · exact absurd h4 (hn _)
  · rename_i h
    obtain ⟨m, hm⟩ := Int.eq_ofNat_of_zero_le (show 0 ≤ Lib.indexByte l x by omega)
    obtain ⟨g1, g2⟩ := Lib.indexByte_some hm
    rw [hm]
    refine ib_eq (k := b + m) ?_ (fun j hj => ?_)
    · rw [List.getElem?_append_right (by simp)]
      simpa using g1
    · rw [List.getElem?_append, List.length_replicate]
      split
      · rename_i hmb
        rw [List.getElem?_replicate, if_pos hmb]
        intro h
        exact hx (Option.some.inj h).symm
      · exact g2 _ (by omega)
theorem drop_lift (l : List UInt8) (b i : Nat) : (List.replicate b 3 ++ l).drop (b + i) = l.drop i := by
  rw [List.drop_append, List.drop_of_length_le (by simp)]
  simp

/-- the document's next bytes are the queue's -/
theorem pick_lift {q : Qu} {pre : List UInt8} (h : PInv q pre) (most limit : Int) :
    (∃ i n : Nat, Lib.indexByte (q.lift pre).st 2 = ((q.base + i : Nat) : Int) ∧ q.pick most limit = (i, n) ∧ n = runL 2 ((q.lift pre).st.drop (q.base + i)) most.toNat ∧ q.base + i + n ≤ q.sent) ∨
    (∃ i n : Nat, Lib.indexByte (q.lift pre).st 2 = -1 ∧ Lib.indexByte (q.lift pre).st 0 = ((q.base + i : Nat) : Int) ∧ (q.pick most limit).2 = n ∧ (0 < n → (q.pick most limit).1 = i) ∧ n = runL 0 ((q.lift pre).st.drop (q.base + i)) (min most (limit - (q.base + i : Nat))).toNat ∧ (q.sent < q.base + i + n ∨ n = 0)) ∨
    (Lib.indexByte (q.lift pre).st 2 = -1 ∧ Lib.indexByte (q.lift pre).st 0 = -1 ∧ (q.pick most limit).2 = 0) := by
  have e2 : Lib.indexByte (q.lift pre).st 2 = if Lib.indexByte q.st 2 < 0 then -1 else (q.base : Int) + Lib.indexByte q.st 2 := ib_lift (by decide)
  have e0 : Lib.indexByte (q.lift pre).st 0 = if Lib.indexByte q.st 0 < 0 then -1 else (q.base : Int) + Lib.indexByte q.st 0 := ib_lift (by decide)
  by_cases h2 : 0 ≤ Lib.indexByte q.st 2
  · obtain ⟨i, hi⟩ := Int.eq_ofNat_of_zero_le h2
    refine .inl ⟨i, runL 2 (q.st.drop i) most.toNat, ?_, ?_, ?_, ?_⟩
    · rw [e2, if_neg (by omega), hi]; omega
    · unfold Qu.pick
      rw [if_pos h2, hi]
      rfl
    · show _ = runL 2 ((List.replicate q.base 3 ++ q.st).drop (q.base + i)) most.toNat
      rw [drop_lift]
    · obtain ⟨g1, _⟩ := Lib.indexByte_some hi
      rcases Nat.eq_zero_or_pos (runL 2 (q.st.drop i) most.toNat) with h0 | h0
      · have := mt (h.fresh i 2 g1).1 (by decide)
        omega
      · have h3 := runL_all 2 (q.st.drop i) most.toNat (runL 2 (q.st.drop i) most.toNat - 1) (by omega)
        rw [List.getElem?_drop] at h3
        have := mt (h.fresh _ 2 h3).1 (by decide)
        omega
  · by_cases h0 : 0 ≤ Lib.indexByte q.st 0
    · obtain ⟨i, hi⟩ := Int.eq_ofNat_of_zero_le h0
      obtain ⟨g1, g2⟩ := Lib.indexByte_some hi
      have hsent := (h.fresh i 0 g1).2 rfl
      have key : ∀ n, (q.pick most limit).2 = n → (0 < n → (q.pick most limit).1 = i) → n = runL 0 (q.st.drop i) (min most (limit - (q.base + i : Nat))).toNat →
          (∃ i n : Nat, Lib.indexByte (q.lift pre).st 2 = ((q.base + i : Nat) : Int) ∧ q.pick most limit = (i, n) ∧ n = runL 2 ((q.lift pre).st.drop (q.base + i)) most.toNat ∧ q.base + i + n ≤ q.sent) ∨
          (∃ i n : Nat, Lib.indexByte (q.lift pre).st 2 = -1 ∧ Lib.indexByte (q.lift pre).st 0 = ((q.base + i : Nat) : Int) ∧ (q.pick most limit).2 = n ∧ (0 < n → (q.pick most limit).1 = i) ∧ n = runL 0 ((q.lift pre).st.drop (q.base + i)) (min most (limit - (q.base + i : Nat))).toNat ∧ (q.sent < q.base + i + n ∨ n = 0)) ∨
          (Lib.indexByte (q.lift pre).st 2 = -1 ∧ Lib.indexByte (q.lift pre).st 0 = -1 ∧ (q.pick most limit).2 = 0) := fun n k1 k2 k3 =>
        Or.inr (Or.inl ⟨i, n, by rw [e2, if_pos (by omega)], by rw [e0, if_neg (by omega), hi]; omega, k1, k2, by show _ = runL 0 ((List.replicate q.base 3 ++ q.st).drop (q.base + i)) _; rw [drop_lift]; exact k3, by omega⟩)
      by_cases hl : (q.base : Int) + Lib.indexByte q.st 0 < limit
      · have hp : q.pick most limit = (i, runL 0 (q.st.drop i) (min most (limit - q.base - (i : Int))).toNat) := by
          unfold Qu.pick
          rw [if_neg h2, if_pos ⟨h0, hl⟩, hi]
          rfl
        refine key _ rfl (fun _ => by rw [hp]) ?_
        rw [hp]
        simp only []
        congr 2
        congr 1
        omega
      · have hp : q.pick most limit = (0, 0) := by
          unfold Qu.pick
          rw [if_neg h2, if_neg (by omega)]
        refine key 0 (by rw [hp]) (fun h => by omega) ?_
        have : (min most (limit - (q.base + i : Nat))).toNat = 0 := by omega
        rw [this]
        have := (runL_le 0 (q.st.drop i) 0).1
        omega
    · refine .inr (.inr ⟨by rw [e2, if_pos (by omega)], by rw [e0, if_pos (by omega)], ?_⟩)
      unfold Qu.pick
      rw [if_neg h2, if_neg (by omega)]

theorem turned_lift (l : List UInt8) (b i n : Nat) (v : UInt8) (h : i + n ≤ l.length) : turned (List.replicate b 3 ++ l) (b + i) n v = List.replicate b 3 ++ turned l i n v := by
  apply List.ext_getElem?
  intro j
  rw [turned_get _ _ _ _ _ (by simp; omega), List.getElem?_append, List.getElem?_append, List.length_replicate]
  by_cases h1 : j < b
  · rw [if_neg (by omega), if_pos h1, if_pos h1]
  · rw [if_neg h1, if_neg h1, turned_get _ _ _ _ _ h]
    by_cases h2 : b + i ≤ j ∧ j < b + i + n
    · rw [if_pos h2, if_pos (by omega)]
    · rw [if_neg h2, if_neg (by omega)]
theorem next_lift {q : Qu} {pre : List UInt8} (h : PInv q pre) (most limit : Int) (i n : Nat) (hn : (q.pick most limit).2 = n) (hi : 0 < n → (q.pick most limit).1 = i) :
    (q.lift pre).outAt (q.base + i) n = q.out most limit ∧ (q.lift pre).nextAt (q.base + i) n = (q.next most limit).lift pre := by
  have h1 := h.ok.len
  have h2 := h.pre
  have h3 := h.ok.sent
  have hlen : (q.lift pre).data.length = q.base + q.data.length := by simp [Qu.lift]; omega
  have hsl := Qu.start_le h.ok most limit
  have ho : (q.lift pre).opens = q.opens := rfl
  have hs : (q.lift pre).sent = q.sent := rfl
  have he : (q.lift pre).e = q.e := rfl
  unfold Qu.outAt Qu.nextAt
  rw [ho, hs, hlen, he]
  rcases Nat.eq_zero_or_pos n with h0 | h0
  · rw [if_pos h0, if_pos h0]
    have hst : q.start most limit = q.data.length := by unfold Qu.start; rw [if_pos (by omega)]
    by_cases hc : q.opens = false ∨ q.sent ≠ q.base + q.data.length
    · have hno : q.none most limit := ⟨by omega, hc⟩
      rw [if_pos hc, if_pos hc]
      unfold Qu.out Qu.next
      rw [if_pos hno, if_pos hno]
      exact ⟨rfl, rfl⟩
    · have hno : ¬ q.none most limit := fun h => hc h.2
      rw [if_neg hc, if_neg hc]
      have hop : q.opens = true := by cases hq : q.opens with | true => rfl | false => exact absurd (.inl hq) hc
      have hse : q.sent = q.base + q.data.length := by by_cases hq : q.sent = q.base + q.data.length; (· exact hq); exact absurd (.inr hq) hc
      have hends : q.ends most limit = true := by unfold Qu.ends; rw [hop, hst, hn, h0]; simp
      unfold Qu.out Qu.next
      rw [if_neg hno, if_neg hno, hst, hn, h0, hends]
      refine ⟨by simp, ?_⟩
      unfold Qu.lift
      simp only [turned_zero, if_true, Nat.add_zero]
      rw [show max q.sent (q.base + q.data.length) = q.sent by omega]
  · have hst : q.start most limit = i := by unfold Qu.start; rw [if_neg (by omega)]; exact hi h0
    have hno : ¬ q.none most limit := fun h => by have := h.1; omega
    rw [hst, hn] at hsl
    rw [if_neg (by omega), if_neg (by omega)]
    have hends : q.ends most limit = (q.opens && decide (q.base + i + n = q.base + q.data.length)) := by
      unfold Qu.ends
      rw [hst, hn]
      congr 1
      rw [decide_eq_decide]
      omega
    unfold Qu.out Qu.next
    rw [if_neg hno, if_neg hno, hst, hn, hends]
    refine ⟨?_, ?_⟩
    · have : ((q.lift pre).data.drop (q.base + i)) = q.data.drop i := by
        show (pre ++ q.data).drop (q.base + i) = _
        rw [List.drop_append, List.drop_of_length_le (by omega), h2]
        simp
      rw [this]
    · unfold Qu.lift
      simp only []
      rw [turned_lift _ _ _ _ _ (by omega)]
theorem PInv.next {q : Qu} {pre : List UInt8} (h : PInv q pre) (most limit : Int) : PInv (q.next most limit) pre := by
  have h1 := h.ok.len
  have hsl := Qu.start_le h.ok most limit
  by_cases hno : q.none most limit
  · unfold Qu.next
    rw [if_pos hno]
    exact h
  · have hok := h.ok.next most limit
    obtain ⟨s, hs02, hst, _, _⟩ := pick_state q most limit
    have hstart : 0 < (q.pick most limit).2 → q.start most limit = (q.pick most limit).1 := fun h => by unfold Qu.start; rw [if_neg (by omega)]
    have hnx : q.next most limit = { q with st := turned q.st (q.start most limit) (q.pick most limit).2 1, sent := max q.sent (q.base + q.start most limit + (q.pick most limit).2), e := if q.ends most limit then 1 else q.e } := by unfold Qu.next; rw [if_neg hno]
    rw [hnx] at hok ⊢
    refine ⟨hok, h.pre, ?_, ?_⟩
    · simp only []
      rw [turned_get _ _ _ _ _ (by omega)]
      split
      · simp
      · exact h.head
    · intro j s' hs'
      simp only [] at hs' ⊢
      rw [turned_get _ _ _ _ _ (by omega)] at hs'
      split at hs'
      · have := Option.some.inj hs'
        subst this
        simp
        omega
      · rename_i hnot
        have hf := h.fresh j s' hs'
        rcases Nat.eq_zero_or_pos (q.pick most limit).2 with h0 | h0
        · have hs0 := h.ok.sent
          have hjl := (List.getElem?_eq_some_iff.1 hs').1
          have : q.start most limit = q.data.length := by unfold Qu.start; rw [if_pos h0]
          -- no byte went out: the end alone, all had been sent
          have hse : q.sent = q.base + q.data.length := by
            by_cases hq : q.sent = q.base + q.data.length
            · exact hq
            · exact absurd ⟨h0, .inr hq⟩ hno
          rw [← hf]
          omega
        · have e := hstart h0
          rw [e] at hnot ⊢
          rcases hs02 with rfl | rfl
          · -- fresh ones: they begin at sent
            have hfirst := hst 0 h0
            rw [Nat.add_zero] at hfirst
            have g1 := (h.fresh _ _ hfirst).2 rfl
            constructor
            · intro hle
              exact hf.1 (by omega)
            · intro hz
              have := hf.2 hz
              subst hz
              -- j lies behind the piece: the first fresh one is where it begins
              have hib : (q.pick most limit).1 ≤ j := by
                refine Nat.le_of_not_lt fun hlt => ?_
                have hp : ((q.pick most limit).1 : Int) = Lib.indexByte q.st 0 := by
                  unfold Qu.pick at hfirst hlt h0 ⊢
                  split at hfirst
                  · rename_i h2
                    rw [if_pos h2] at hlt h0 ⊢
                    obtain ⟨m, hm⟩ := Int.eq_ofNat_of_zero_le h2
                    have := (Lib.indexByte_some hm).1
                    rw [hm] at hfirst
                    simp only [Int.toNat_natCast] at hfirst
                    rw [this] at hfirst
                    exact absurd (Option.some.inj hfirst) (by decide)
                  · rename_i h2
                    rw [if_neg h2] at hlt h0 ⊢
                    split at h0
                    · rename_i h3
                      rw [if_pos h3]
                      simp only []
                      omega
                    · simp at h0
                have hp' : Lib.indexByte q.st 0 = (((q.pick most limit).1 : Nat) : Int) := hp.symm
                exact (Lib.indexByte_some hp').2 j hlt hs'
              omega
          · -- lost ones lie below what was sent
            have hlast := hst ((q.pick most limit).2 - 1) (by omega)
            have := mt (h.fresh _ _ hlast).1 (by decide)
            rw [← hf]
            omega

/-! ### Ack, Lose -/
theorem lift_right (q : Qu) (pre : List UInt8) (a n : Int) (fin : Bool) : (q.lift pre).right a n fin = q.right a n fin := rfl
theorem lift_terr (q : Qu) (pre : List UInt8) (a n : Int) (fin : Bool) : (q.lift pre).terr a n fin = q.terr a n fin := rfl
theorem mapped_lift (l : List UInt8) (b x m : Nat) (f : UInt8 → UInt8) (hf : f 3 = 3) : mapped (List.replicate b 3 ++ l) x (x + m) f = List.replicate b 3 ++ mapped l (x - b) (x + m - b) f := by
  apply List.ext_getElem?
  intro j
  rw [mapped_get, List.getElem?_append, List.getElem?_append, List.length_replicate]
  by_cases h1 : j < b
  · rw [if_pos h1, if_pos h1, List.getElem?_replicate, if_pos h1]
    split
    · simp [hf]
    · rfl
  · rw [if_neg h1, if_neg h1, mapped_get]
    by_cases h2 : x ≤ j ∧ j < x + m
    · rw [if_pos h2, if_pos (by omega)]
    · rw [if_neg h2, if_neg (by omega)]
theorem lift_lose {q : Qu} {pre : List UInt8} (a n : Int) (fin : Bool) : (q.lift pre).lose a n fin = (q.lose a n fin).lift pre := by
  unfold Qu.lose
  rw [lift_right]
  split
  · unfold Qu.lift
    simp only [Nat.sub_zero]
    rw [mapped_lift _ _ _ _ _ rfl]
  · rfl
theorem PInv.lose {q : Qu} {pre : List UInt8} (h : PInv q pre) (a n : Int) (fin : Bool) : PInv (q.lose a n fin) pre := by
  have hok := h.ok.lose a n fin
  cases hr : q.right a n fin
  · unfold Qu.lose
    rw [hr]
    exact h
  · obtain ⟨x, m, rfl, rfl, hxm⟩ := Qu.right_nat hr
    have e : q.lose (x : Int) (m : Int) fin = { q with st := mapped q.st (x - q.base) (x + m - q.base) turnLose, e := if fin then turnLose q.e else q.e } := by
      unfold Qu.lose
      rw [if_pos hr]
      rfl
    rw [e] at hok ⊢
    refine ⟨hok, h.pre, ?_, ?_⟩
    · simp only []
      rw [mapped_get]
      split
      · cases h0 : q.st[0]? with
        | none => simp
        | some s =>
          have := h.head
          rw [h0] at this
          simp only [Option.map_some, turnLose]
          split
          · simp
          · exact this
      · exact h.head
    · intro i s hs
      simp only [] at hs ⊢
      rw [mapped_get] at hs
      split at hs
      · cases h0 : q.st[i]? with
        | none => rw [h0] at hs; cases hs
        | some s0 =>
          rw [h0] at hs
          have hf := h.fresh i s0 h0
          simp only [Option.map_some, Option.some.injEq, turnLose] at hs
          rw [hf]
          split at hs
          · rename_i h1
            subst h1
            subst hs
            simp
          · rw [hs]
      · exact h.fresh i s hs
theorem lift_ack {q : Qu} {pre : List UInt8} (h : PInv q pre) (a n : Int) (fin : Bool) : ∃ pre', (q.lift pre).tack a n fin = (q.ack a n fin).lift pre' ∧ PInv (q.ack a n fin) pre' := by
  cases hr : q.right a n fin
  · refine ⟨pre, ?_, ?_⟩
    · unfold Qu.tack Qu.ack
      rw [lift_right, hr]
      rfl
    · unfold Qu.ack
      rw [hr]
      exact h
  · obtain ⟨x, m, rfl, rfl, hxm⟩ := Qu.right_nat hr
    have h1 := h.ok.len
    have h2 := h.pre
    obtain ⟨l, hl⟩ : ∃ l, l = mapped q.st (x - q.base) (x + m - q.base) turnAck := ⟨_, rfl⟩
    have hll : l.length = q.st.length := by rw [hl]; exact mapped_len _ _ _ _
    obtain ⟨k, hk⟩ : ∃ k, k = runL 3 l q.st.length := ⟨_, rfl⟩
    have hkl : k ≤ q.st.length := by rw [hk]; exact (runL_le _ _ _).1
    have hkall : ∀ j, j < k → l[j]? = some 3 := fun j hj => runL_all 3 _ q.st.length j (by rw [← hk]; exact hj)
    have ha : q.ack (x : Int) (m : Int) fin = { q with base := q.base + k, st := l.drop k, data := q.data.drop k, e := if fin then 3 else q.e } := by
      unfold Qu.ack
      rw [if_pos hr]
      unfold Qu.kept
      simp only [Int.toNat_natCast]
      rw [← hl, ← hk]
    have hf : ∀ (i : Nat) (s : UInt8), l[i]? = some s → (q.sent ≤ q.base + i ↔ s = 0) := by
      intro i s hs
      rw [hl, mapped_get] at hs
      split at hs
      · cases h0 : q.st[i]? with
        | none => rw [h0] at hs; cases hs
        | some s0 =>
          rw [h0] at hs
          simp only [Option.map_some, Option.some.injEq, turnAck] at hs
          subst hs
          simp
          omega
      · exact h.fresh i s hs
    have hsent : q.base + k ≤ q.sent := by
      rcases Nat.eq_zero_or_pos k with h0 | h0
      · have := h.ok.base; omega
      · have h3 := hf _ _ (hkall (k - 1) (by omega))
        have : ¬ q.sent ≤ q.base + (k - 1) := fun hc => absurd (h3.1 hc) (by decide)
        omega
    refine ⟨pre ++ q.data.take k, ?_, ?_⟩
    · rw [ha]
      unfold Qu.tack
      rw [lift_right, if_pos hr]
      unfold Qu.lift
      simp only [Int.toNat_natCast]
      rw [mapped_lift _ _ _ _ _ rfl, ← hl]
      have e1 : List.replicate q.base 3 ++ l = List.replicate (q.base + k) 3 ++ l.drop k := by
        rw [← List.replicate_append_replicate, List.append_assoc]
        congr 1
        have : l.take k = List.replicate k 3 := by
          apply List.ext_getElem?
          intro j
          rw [List.getElem?_take, List.getElem?_replicate]
          split
          · rename_i hj; exact hkall j hj
          · rfl
        rw [← this, List.take_append_drop]
      rw [e1, List.append_assoc, List.take_append_drop]
    · rw [ha]
      refine ⟨⟨by simp only [List.length_drop]; omega, h.ok.room1, h.ok.room2, by have := h.ok.fit; simp only [List.length_drop]; omega, hsent, by have := h.ok.sent; simp only [List.length_drop]; omega, by have := h.ok.most; simp only [List.length_drop]; omega⟩, ?_, ?_, ?_⟩
      · simp only [List.length_append, List.length_take]
        omega
      · simp only [List.getElem?_drop, Nat.add_zero]
        by_cases hkk : k = q.st.length
        · rw [List.getElem?_eq_none (by omega)]; simp
        · have h3 := runL_stop 3 l q.st.length (by rw [← hk]; omega)
          rw [← hk] at h3
          exact h3
      · intro i s hs
        simp only [List.getElem?_drop] at hs ⊢
        have := hf _ s hs
        rw [← this]
        omega

/-! ### what rest compares -/
theorem lift_done {q : Qu} {pre : List UInt8} (h : PInv q pre) : (q.lift pre).rdone = (q.e == 3 && q.data.length == 0) := by
  unfold Qu.rdone
  rw [lift_lead h]
  have : (q.lift pre).data.length = q.base + q.data.length := by have := h.pre; simp [Qu.lift]; omega
  rw [this]
  show (q.e == 3 && _) = _
  congr 1
  by_cases hz : q.data.length = 0
  · simp [hz]
  · rw [decide_eq_false (by omega)]
    symm
    rw [beq_eq_false_iff_ne]
    exact hz
/-- Next of the document's queue, at a queue's lift -/
theorem outAt_zero (r : Qu) (i : Nat) : r.outAt i 0 = r.outAt 0 0 ∧ r.nextAt i 0 = r.nextAt 0 0 := by
  unfold Qu.outAt Qu.nextAt
  simp
theorem rnext_lift (w : World) {F : Nat → Prop} {g : Nat} {q : Qu} {pre : List UInt8} (h : PInv q pre) (hm : q.base + q.data.length ≤ 8796093022208) (hr : RAt F w g (q.lift pre)) (most limit : Int) :
    Calls Try.prog 34 #[.pointer (some ⟨g, 0, none⟩), .int .i64 most, .int .i64 limit] w (RNexted F w g (q.out most limit) ((q.next most limit).lift pre)) := by
  have hok := lift_ok h hm
  rcases pick_lift h most limit with ⟨i, n, a1, a2, a3, a4⟩ | ⟨i, n, a1, a2, a3, a4, a5, a6⟩ | ⟨a1, a2, a3⟩
  · obtain ⟨e1, e2⟩ := next_lift h most limit i n (by rw [a2]) (fun _ => by rw [a2])
    rw [← e1, ← e2]
    exact rnext_lost w hr hok most limit (q.base + i) n a1 a3 a4
  · obtain ⟨e1, e2⟩ := next_lift h most limit i n a3 a4
    rw [← e1, ← e2]
    exact rnext_fresh w hr hok most limit (q.base + i) n a1 a2 a5 a6
  · obtain ⟨e1, e2⟩ := next_lift h most limit 0 0 a3 (fun h => by omega)
    rw [← e1, ← e2, (outAt_zero _ _).1, (outAt_zero _ _).2]
    exact rnext_no w hr hok most limit a1 a2
end Go.Proofs.Ytkjclgpecppokaa

/- What comes over a line that loses and tells: plain lemmas. -/
import Derived.Test.YtkjclgpecppokaaSqLim
namespace Go.Proofs.Ytkjclgpecppokaa

/-- what has not come yet: bytes, and the end -/
def todo (got : List Bool) (ended : Bool) : Nat := got.count false + (if ended then 0 else 1)

theorem count_le : ∀ (l l' : List Bool), l'.length = l.length → (∀ i : Nat, l[i]? = some true → l'[i]? = some true) → l'.count false ≤ l.count false
  | [], l', hl, _ => by
    obtain rfl : l' = [] := List.eq_nil_of_length_eq_zero (by simpa using hl)
    exact Nat.le_refl _
  | x :: r, l', hl, h => by
    cases l' with
    | nil => simp at hl
    | cons y r' =>
      have ih := count_le r r' (by simpa using hl) (fun i hi => by simpa using h (i + 1) (by simpa using hi))
      have h0 := h 0
      simp only [List.count_cons]
      cases x <;> cases y <;> simp_all <;> omega
theorem count_lt : ∀ (l l' : List Bool) (k : Nat), l'.length = l.length → (∀ i : Nat, l[i]? = some true → l'[i]? = some true) → l[k]? = some false → l'[k]? = some true → l'.count false < l.count false
  | [], l', k, _, _, h, _ => by simp at h
  | x :: r, l', k, hl, h, h1, h2 => by
    cases l' with
    | nil => simp at hl
    | cons y r' =>
      have hl' : r'.length = r.length := by simpa using hl
      have hr : ∀ i : Nat, r[i]? = some true → r'[i]? = some true := fun i hi => by simpa using h (i + 1) (by simpa using hi)
      have h0 := h 0
      simp only [List.count_cons]
      cases k with
      | zero =>
        simp at h1 h2
        subst h1
        subst h2
        have := count_le r r' hl' hr
        simp
        omega
      | succ k =>
        have ih := count_lt r r' k hl' hr (by simpa using h1) (by simpa using h2)
        cases x <;> cases y <;> simp_all <;> omega

theorem runL_pos (s : UInt8) (l : List UInt8) (m : Nat) (h : l[0]? = some s) (hm : 0 < m) : 0 < runL s l m := by
  cases l with
  | nil => simp at h
  | cons x r =>
    cases m with
    | zero => omega
    | succ m =>
      simp at h
      unfold runL
      rw [if_pos h]
      omega
theorem runL_stop (s : UInt8) : ∀ (l : List UInt8) (m : Nat), runL s l m < m → l[runL s l m]? ≠ some s
  | [], m, _ => by simp [runL]
  | x :: r, 0, h => by omega
  | x :: r, m + 1, h => by
    unfold runL at h ⊢
    split
    · rename_i hx
      rw [if_pos hx] at h
      simpa using runL_stop s r m (by omega)
    · rename_i hx
      simpa using hx
theorem mapped_turned (l : List UInt8) (i n : Nat) (v : UInt8) (f : UInt8 → UInt8) (h : i + n ≤ l.length) : mapped (turned l i n v) i (i + n) f = turned l i n (f v) := by
  apply List.ext_getElem?
  intro j
  rw [mapped_get, turned_get _ _ _ _ _ h, turned_get _ _ _ _ _ h]
  split <;> rfl

/-- the law's notes against the queue, at a round's head -/
structure AInv (data : List UInt8) (q : Qu) (got : List Bool) (ended : Bool) : Prop where
  ok : q.Ok
  small : data.length ≤ 65536
  fin : q.fin = true
  is : q.data = data.drop q.base
  base : q.base ≤ data.length
  got : got = List.replicate q.base true ++ q.st.map (· == 3)
  st : ∀ (i : Nat) (s : UInt8), q.st[i]? = some s → s = 0 ∨ s = 2 ∨ s = 3
  fresh : ∀ (i : Nat) (s : UInt8), q.st[i]? = some s → q.sent ≤ q.base + i → s = 0
  head : q.st[0]? ≠ some 3
  e : q.e = 0 ∨ q.e = 2 ∨ q.e = 3
  ended : ended = (q.e == 3)

theorem AInv.qlen {data : List UInt8} {q : Qu} {got : List Bool} {ended : Bool} (h : AInv data q got ended) : q.base + q.data.length = data.length := by
  have := h.base
  rw [h.is, List.length_drop]
  omega
theorem AInv.len {data : List UInt8} {q : Qu} {got : List Bool} {ended : Bool} (h : AInv data q got ended) : got.length = data.length := by
  rw [h.got, ← h.qlen, ← h.ok.len]
  simp
theorem AInv.start {data : List UInt8} (hs : data.length ≤ 65536) : AInv data ((Qu.new 65536).write data).finish (List.replicate data.length false) false := by
  have ht : (Qu.new 65536).took data = data.length := by unfold Qu.took Qu.new; simp; omega
  have e1 : ((Qu.new 65536).write data).finish = ⟨65536, 0, 0, data, List.replicate data.length 0, true, 0⟩ := by
    unfold Qu.write Qu.finish
    rw [ht]
    simp [Qu.new]
  rw [e1]
  refine ⟨⟨by simp, by simp, by simp, hs, by simp, by simp, by simp; omega⟩, hs, rfl, by simp, by simp, by simp, ?_, ?_, ?_, .inl rfl, rfl⟩
  · intro i s h
    simp only [List.getElem?_replicate] at h
    split at h
    · exact .inl (Option.some.inj h).symm
    · cases h
  · intro i s h _
    simp only [List.getElem?_replicate] at h
    split at h
    · exact (Option.some.inj h).symm
    · cases h
  · simp only [List.getElem?_replicate]
    split
    · simp
    · simp

/-- a queue all of whose bytes are done is empty -/
theorem AInv.empty {data : List UInt8} {q : Qu} {got : List Bool} {ended : Bool} (h : AInv data q got ended) (hs : q.st = []) : q.data = [] ∧ q.base = data.length ∧ q.sent = q.base ∧ got = List.replicate data.length true := by
  have h1 : q.data.length = 0 := by rw [← h.ok.len, hs]; rfl
  have h2 := h.qlen
  have h3 := h.ok.base
  have h4 := h.ok.sent
  refine ⟨List.eq_nil_of_length_eq_zero h1, by omega, by omega, ?_⟩
  rw [h.got, hs, show q.base = data.length by omega]
  simp

/-- with room for any chunk there is one, as long as a byte is not done -/
theorem AInv.more {data : List UInt8} {q : Qu} {got : List Bool} {ended : Bool} (h : AInv data q got ended) {most : Int} (hm : 65536 ≤ most) (hp : (q.pick most data.length).2 = 0) : q.st = [] := by
  cases hst : q.st with
  | nil => rfl
  | cons s0 r =>
    exfalso
    have h0 : q.st[0]? = some s0 := by rw [hst]; rfl
    have hlen : 0 < q.st.length := by rw [hst]; simp
    have hq := h.qlen
    have hl := h.ok.len
    unfold Qu.pick at hp
    split at hp
    · rename_i h2
      obtain ⟨m, hm2⟩ := Int.eq_ofNat_of_zero_le h2
      have hg := (Lib.indexByte_some hm2).1
      rw [hm2] at hp
      have := runL_pos 2 (q.st.drop m) most.toNat (by simpa using hg) (by omega)
      simp at hp
      omega
    · rename_i h2
      have hs0 : s0 = 0 := by
        rcases h.st 0 s0 h0 with h' | h' | h'
        · exact h'
        · subst h'; rw [ib_head h0] at h2; omega
        · subst h'; exact absurd h0 h.head
      subst hs0
      have hib := ib_head h0
      rw [hib] at hp
      rw [if_pos (by omega)] at hp
      have := runL_pos 0 (q.st.drop 0) (min most ((data.length : Int) - q.base - 0)).toNat (by simpa using h0) (by omega)
      simp at hp this
      omega

theorem AInv.done {data : List UInt8} {q : Qu} {got : List Bool} {ended : Bool} (h : AInv data q got ended) (ht : todo got ended = 0) : got = List.replicate data.length true ∧ ended = true ∧ q.e = 3 ∧ q.base = data.length ∧ q.data = [] := by
  unfold todo at ht
  have he : ended = true := by cases ended <;> simp_all
  have hc : got.count false = 0 := by omega
  have hs : q.st = [] := by
    cases hst : q.st with
    | nil => rfl
    | cons s0 r =>
      exfalso
      have h0 := h.head
      rw [hst] at h0
      simp at h0
      have := List.count_eq_zero.1 hc
      apply this
      rw [h.got, hst]
      simp [h0]
  obtain ⟨h1, h2, h3, h4⟩ := h.empty hs
  refine ⟨h4, he, ?_, h2, h1⟩
  have := h.ended
  rw [he] at this
  simpa using this.symm

/-- a round -/
theorem AInv.round {data : List UInt8} {q : Qu} {got : List Bool} {ended : Bool} (h : AInv data q got ended) (most : Int) :
    (q.out most data.length = ⟨0, [], false, false⟩ ∧ q.next most data.length = q ∧ (65536 ≤ most → todo got ended = 0)) ∨
    ∃ (x n : Nat) (fin : Bool), q.out most data.length = ⟨x, (data.drop x).take n, fin, true⟩ ∧ x + n ≤ data.length ∧ (0 < n → (n : Int) ≤ most) ∧ (fin = true → x + n = data.length) ∧ (n = 0 → fin = true) ∧
      (q.next most data.length).Ok ∧ (q.next most data.length).terr (x : Int) (n : Int) fin = 0 ∧ AInv data ((q.next most data.length).lose (x : Int) (n : Int) fin) got ended ∧
      AInv data ((q.next most data.length).ack (x : Int) (n : Int) fin) (turnedB got x n true) (ended || fin) ∧ todo (turnedB got x n true) (ended || fin) < todo got ended := by
  by_cases hn : q.none most data.length
  · refine .inl ⟨by unfold Qu.out; rw [if_pos hn], by unfold Qu.next; rw [if_pos hn], fun hm => ?_⟩
    have hs := h.more hm hn.1
    obtain ⟨h1, h2, h3, h4⟩ := h.empty hs
    have ho : q.opens = false := hn.2.resolve_right (fun hc => hc (by rw [h1]; simpa using h3))
    have he : q.e = 3 := by
      unfold Qu.opens at ho
      rw [h.fin] at ho
      rcases h.e with e | e | e
      · rw [e] at ho; cases ho
      · rw [e] at ho; cases ho
      · exact e
    have hended : ended = true := by rw [h.ended, he]; rfl
    unfold todo
    rw [h4, hended]
    simp [List.count_replicate]
  · have hok := h.ok.next most data.length
    have hsl := Qu.start_le h.ok most data.length
    have hql := h.qlen
    have hlen := h.ok.len
    obtain ⟨s, hs02, hst, hmost, _⟩ := pick_state q most data.length
    have hstart : 0 < (q.pick most data.length).2 → q.start most data.length = (q.pick most data.length).1 := fun h => by unfold Qu.start; rw [if_neg (by omega)]
    obtain ⟨i, hi⟩ : ∃ i, i = q.start most data.length := ⟨_, rfl⟩
    obtain ⟨n, hnn⟩ : ∃ n, n = (q.pick most data.length).2 := ⟨_, rfl⟩
    obtain ⟨fin, hf⟩ : ∃ fin, fin = q.ends most data.length := ⟨_, rfl⟩
    have hout : q.out most data.length = ⟨q.base + i, (q.data.drop i).take n, fin, true⟩ := by unfold Qu.out; rw [if_neg hn, hi, hnn, hf]
    have hnx : q.next most data.length = { q with st := turned q.st i n 1, sent := max q.sent (q.base + i + n), e := if fin then 1 else q.e } := by unfold Qu.next; rw [if_neg hn, hi, hnn, hf]
    have hin : i + n ≤ q.data.length := by omega
    have hfin : fin = true → i + n = q.data.length := by
      intro h'
      rw [hf] at h'
      unfold Qu.ends at h'
      simp only [Bool.and_eq_true, decide_eq_true_eq] at h'
      omega
    have hst' : ∀ j, j < n → q.st[i + j]? = some s := by
      intro j hj
      rw [hi, hstart (by omega)]
      exact hst j (by omega)
    have hf' : fin = true → q.opens = true := by
      intro h'
      rw [hf] at h'
      unfold Qu.ends at h'
      simp only [Bool.and_eq_true] at h'
      exact h'.1
    have hempty : n = 0 → fin = true ∧ ended = false := by
      intro h0
      have ho : q.opens = true := by
        cases hop : q.opens with
        | true => rfl
        | false => exact absurd ⟨by omega, .inl hop⟩ hn
      refine ⟨?_, ?_⟩
      · rw [hf]
        unfold Qu.ends
        have : q.start most data.length = q.data.length := by unfold Qu.start; rw [if_pos (by omega)]
        rw [ho, this, ← hnn, h0]
        simp
      · rw [h.ended]
        unfold Qu.opens at ho
        rcases h.e with e | e | e
        · rw [e]; rfl
        · rw [e]; rfl
        · rw [e, h.fin] at ho; cases ho
    have hmn : 0 < n → (n : Int) ≤ most := fun _ => by omega
    have hss : s = 0 ∨ s = 2 := hs02
    clear hi hnn hf hst hmost hstart hs02
    have hright : (q.next most data.length).right ((q.base + i : Nat) : Int) (n : Int) fin = true := by
      rw [hnx]
      unfold Qu.right
      simp only [Bool.and_eq_true, decide_eq_true_eq, h.fin, Bool.true_and]
      refine ⟨by omega, ?_⟩
      cases fin <;> simp
    have hsub : q.base + i + n - q.base = i + n := by omega
    have hsub' : q.base + i - q.base = i := by omega
    have hlose : (q.next most data.length).lose ((q.base + i : Nat) : Int) (n : Int) fin = { q with st := turned q.st i n 2, sent := max q.sent (q.base + i + n), e := if fin then 2 else q.e } := by
      unfold Qu.lose
      rw [if_pos hright, hnx]
      simp only [Int.toNat_natCast, hsub, hsub']
      rw [mapped_turned _ _ _ _ _ (by omega)]
      have : turnLose 1 = 2 := rfl
      rw [this]
      cases fin <;> simp [this]
    have hmap : mapped (turned q.st i n 1) i (i + n) turnAck = turned q.st i n 3 := mapped_turned _ _ _ _ _ (by omega)
    obtain ⟨k, hk⟩ : ∃ k, k = runL 3 (turned q.st i n 3) q.st.length := ⟨_, rfl⟩
    have htl : (turned q.st i n 3).length = q.st.length := turned_len _ _ _ _ (by omega)
    have hack : (q.next most data.length).ack ((q.base + i : Nat) : Int) (n : Int) fin = { q with base := q.base + k, st := (turned q.st i n 3).drop k, data := q.data.drop k, sent := max q.sent (q.base + i + n), e := if fin then 3 else q.e } := by
      unfold Qu.ack
      rw [if_pos hright]
      unfold Qu.kept
      rw [hnx]
      simp only [Int.toNat_natCast, hsub, hsub']
      rw [hmap, turned_len _ _ _ _ (by omega), ← hk]
      cases fin <;> simp
    have hkl : k ≤ q.st.length := by rw [hk]; exact (runL_le _ _ _).1
    have hkall : ∀ j, j < k → (turned q.st i n 3)[j]? = some 3 := fun j hj => runL_all 3 _ q.st.length j (by rw [← hk]; exact hj)
    have hget3 := fun j => turned_get q.st i n 3 j (by omega)
    have hget2 := fun j => turned_get q.st i n 2 j (by omega)
    have hksent : q.base + k ≤ max q.sent (q.base + i + n) := by
      rcases Nat.eq_zero_or_pos k with h0 | h0
      · have := h.ok.base; omega
      · have h1 := hkall (k - 1) (by omega)
        rw [hget3] at h1
        split at h1
        · omega
        · refine Nat.le_of_not_lt fun hlt => ?_
          have := h.fresh _ _ h1 (by omega)
          cases this
    have hgl : got.length = q.base + q.st.length := by rw [h.got]; simp
    have hgot : ∀ j, got[j]? = if j < q.base then some true else (q.st[j - q.base]?).map (· == 3) := by
      intro j
      rw [h.got, List.getElem?_append, List.getElem?_replicate]
      simp only [List.length_replicate, List.getElem?_map]
      split <;> rfl
    refine .inr ⟨q.base + i, n, fin, ?_, by omega, hmn, fun hh => by have := hfin hh; omega, fun hh => (hempty hh).1, hok, ?_, ?_, ?_, ?_⟩
    · rw [hout, h.is, List.drop_drop]
    · unfold Qu.terr; rw [if_pos hright]
    · rw [hlose]
      refine ⟨⟨by simp only []; rw [turned_len _ _ _ _ (by omega)]; exact hlen, h.ok.room1, h.ok.room2, h.ok.fit, by have := h.ok.base; simp only []; omega, by have := h.ok.sent; simp only []; omega, h.ok.most⟩, h.small, h.fin, h.is, h.base, ?_, ?_, ?_, ?_, ?_, ?_⟩
      · rw [h.got]
        congr 1
        apply List.ext_getElem?
        intro j
        simp only [List.getElem?_map]
        rw [hget2]
        split
        · rename_i hc
          have := hst' (j - i) (by omega)
          rw [show i + (j - i) = j by omega] at this
          rw [this]
          rcases hss with rfl | rfl <;> rfl
        · rfl
      · intro j s' hs'
        simp only [] at hs'
        rw [hget2] at hs'
        split at hs'
        · exact .inr (.inl (Option.some.inj hs').symm)
        · exact h.st j s' hs'
      · intro j s' hs' hle
        simp only [] at hs' hle
        rw [hget2, if_neg (by omega)] at hs'
        exact h.fresh j s' hs' (by omega)
      · simp only []
        rw [hget2]
        split
        · simp
        · exact h.head
      · cases fin
        · exact h.e
        · exact .inr (.inl rfl)
      · rw [h.ended]
        cases hfc : fin
        · rfl
        · have : q.opens = true := hf' hfc
          unfold Qu.opens at this
          rcases h.e with e | e | e
          · rw [e]; rfl
          · rw [e]; rfl
          · rw [e, h.fin] at this; cases this
    · rw [hack]
      refine ⟨⟨by simp only [List.length_drop]; rw [htl]; omega, h.ok.room1, h.ok.room2, by have := h.ok.fit; simp only [List.length_drop]; omega, hksent, by have := h.ok.sent; simp only [List.length_drop]; omega, by have := h.ok.most; simp only [List.length_drop]; omega⟩, h.small, h.fin, ?_, by simp only []; omega, ?_, ?_, ?_, ?_, ?_, ?_⟩
      · simp only []
        rw [h.is, List.drop_drop]
      · apply List.ext_getElem?
        intro j
        rw [turnedB_get, hgot]
        simp only []
        rw [List.getElem?_append, List.getElem?_replicate]
        simp only [List.length_replicate, List.getElem?_map, List.getElem?_drop]
        by_cases h1 : j < q.base + k
        · rw [if_pos h1, if_pos h1]
          by_cases h2 : j < q.base
          · rw [if_pos h2, if_neg (by omega)]
          · have h3 := hkall (j - q.base) (by omega)
            rw [hget3] at h3
            rw [if_neg h2]
            split at h3
            · rw [if_pos (by omega), List.getElem?_eq_getElem (by omega)]
              rfl
            · rw [if_neg (by omega), h3]
              rfl
        · rw [if_neg h1, show k + (j - (q.base + k)) = j - q.base by omega, hget3, if_neg (show ¬ j < q.base by omega)]
          by_cases h2 : i ≤ j - q.base ∧ j - q.base < i + n
          · rw [if_pos h2, if_pos (by omega), List.getElem?_eq_getElem (by omega)]
            rfl
          · rw [if_neg h2, if_neg (by omega)]
      · intro j s' hs'
        simp only [List.getElem?_drop] at hs'
        rw [hget3] at hs'
        split at hs'
        · exact .inr (.inr (Option.some.inj hs').symm)
        · exact h.st _ s' hs'
      · intro j s' hs' hle
        simp only [List.getElem?_drop] at hs' hle
        rw [hget3, if_neg (by omega)] at hs'
        exact h.fresh _ s' hs' (by omega)
      · simp only [List.getElem?_drop, Nat.add_zero]
        by_cases hkk : k = q.st.length
        · rw [List.getElem?_eq_none (by omega)]
          simp
        · intro hc
          have h2 := runL_stop 3 (turned q.st i n 3) q.st.length (by rw [← hk]; omega)
          rw [← hk] at h2
          exact h2 hc
      · cases fin
        · exact h.e
        · exact .inr (.inr rfl)
      · rw [h.ended]
        cases fin
        · simp
        · simp
    · have hle : ∀ j : Nat, got[j]? = some true → (turnedB got (q.base + i) n true)[j]? = some true := by
        intro j hj
        rw [turnedB_get, hj]
        split <;> rfl
      unfold todo
      rcases Nat.eq_zero_or_pos n with h0 | h0
      · obtain ⟨h1, h2⟩ := hempty h0
        have := count_le got (turnedB got (q.base + i) n true) (turnedB_len _ _ _ _) hle
        rw [h1, h2]
        simp
        omega
      · have hg0 : got[q.base + i]? = some false := by
          rw [hgot, if_neg (by omega), show q.base + i - q.base = i by omega, show q.st[i]? = some s from hst' 0 h0]
          rcases hss with rfl | rfl <;> rfl
        have := count_lt got (turnedB got (q.base + i) n true) (q.base + i) (turnedB_len _ _ _ _) hle hg0 (by rw [turnedB_get, if_pos (by omega), hg0]; rfl)
        have h5 : (if (ended || fin) = true then 0 else 1) ≤ (if ended = true then 0 else 1) := by cases ended <;> cases fin <;> simp
        omega
end Go.Proofs.Ytkjclgpecppokaa

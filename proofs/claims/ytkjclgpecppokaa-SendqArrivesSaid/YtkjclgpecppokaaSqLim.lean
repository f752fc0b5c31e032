/- What goes out of a queue that is never told: plain lemmas. -/
import Derived.Test.YtkjclgpecppokaaSqKeep
namespace Go.Proofs.Ytkjclgpecppokaa

/-- the law's note 'went out, and not lost since' against the queue -/
structure LInv (rm : Nat) (q : Qu) (out : List Bool) : Prop where
  ok : q.Ok
  base : q.base = 0
  room : q.room = rm
  is : out = q.st.map (· == 1)
  fresh : ∀ (i : Nat) (s : UInt8), q.st[i]? = some s → q.sent ≤ i → s = 0

theorem LInv.len {rm : Nat} {q : Qu} {out : List Bool} (h : LInv rm q out) : out.length = q.data.length := by rw [h.is, List.length_map, h.ok.len]
theorem LInv.new {rm : Nat} (h1 : 1 ≤ rm) (h2 : rm ≤ 65536) : LInv rm (Qu.new rm) [] := ⟨Qu.new_ok h1 h2, rfl, rfl, rfl, by simp [Qu.new]⟩
theorem LInv.finish {rm : Nat} {q : Qu} {out : List Bool} (h : LInv rm q out) : LInv rm q.finish out := ⟨h.ok.finish, h.base, h.room, h.is, h.fresh⟩
theorem LInv.write {rm : Nat} {q : Qu} {out : List Bool} (h : LInv rm q out) (l : List UInt8) (hl : l.length ≤ 1048576) : LInv rm (q.write l) (out ++ List.replicate (q.took l) false) := by
  have hb := h.base
  have hf := h.ok.fit
  have hr := h.ok.room2
  refine ⟨h.ok.write l (by omega), h.base, h.room, ?_, ?_⟩
  · unfold Qu.write
    simp only [List.map_append, List.map_replicate, ← h.is]
    rfl
  · intro i s hs hi
    have e : (q.write l).st = q.st ++ List.replicate (q.took l) 0 := rfl
    rw [e, List.getElem?_append] at hs
    split at hs
    · exact h.fresh i s hs hi
    · rw [List.getElem?_replicate] at hs
      split at hs
      · exact (Option.some.inj hs).symm
      · cases hs

/-- n places from i on turned to v -/
def turnedB (l : List Bool) (i n : Nat) (v : Bool) : List Bool := l.mapIdx fun j x => if i ≤ j ∧ j < i + n then v else x
theorem turnedB_len (l : List Bool) (i n : Nat) (v : Bool) : (turnedB l i n v).length = l.length := by simp [turnedB]
theorem turnedB_get (l : List Bool) (i n : Nat) (v : Bool) (j : Nat) : (turnedB l i n v)[j]? = if i ≤ j ∧ j < i + n then l[j]?.map (fun _ => v) else l[j]? := by
  unfold turnedB
  rw [List.getElem?_mapIdx]
  split <;> simp [*]
theorem turnedB_zero (l : List Bool) (i : Nat) (v : Bool) : turnedB l i 0 v = l := by
  apply List.ext_getElem?; intro j; rw [turnedB_get, if_neg (by omega)]
theorem turnedB_succ (l : List Bool) (i k : Nat) (v : Bool) (h : i + k < l.length) : turnedB l i (k + 1) v = (turnedB l i k v).set (i + k) v := by
  apply List.ext_getElem?
  intro j
  rw [turnedB_get, List.getElem?_set, turnedB_len, turnedB_get]
  by_cases hj : i + k = j
  · subst hj; rw [if_pos rfl, if_pos h, if_pos (by omega), List.getElem?_eq_getElem h]; rfl
  · rw [if_neg hj]
    by_cases h2 : i ≤ j ∧ j < i + k
    · rw [if_pos h2, if_pos (by omega)]
    · rw [if_neg h2, if_neg (by omega)]

theorem LInv.lose {rm : Nat} {q : Qu} {out : List Bool} (h : LInv rm q out) (x m : Nat) (fin : Bool) (hr : q.right (x : Int) (m : Int) fin = true) : LInv rm (q.lose (x : Int) (m : Int) fin) (turnedB out x m false) := by
  have hb := h.base
  have e : q.lose (x : Int) (m : Int) fin = { q with st := mapped q.st x (x + m) turnLose, e := if fin then turnLose q.e else q.e } := by
    unfold Qu.lose
    rw [if_pos hr]
    simp only [Int.toNat_natCast, hb, Nat.sub_zero]
  refine ⟨h.ok.lose _ _ _, by rw [e]; exact h.base, by rw [e]; exact h.room, ?_, ?_⟩
  · rw [e, h.is]
    apply List.ext_getElem?
    intro j
    rw [turnedB_get, List.getElem?_map, List.getElem?_map, mapped_get]
    by_cases h2 : x ≤ j ∧ j < x + m
    · rw [if_pos h2, if_pos h2]
      cases q.st[j]? with
      | none => rfl
      | some s =>
        simp only [Option.map_some, turnLose]
        congr 1
        by_cases hs : s = 1
        · rw [if_pos hs]; rfl
        · rw [if_neg hs]; simp [hs]
    · rw [if_neg h2, if_neg h2]
  · intro i s hs hi
    rw [e] at hs hi
    simp only [mapped_get] at hs hi
    have hsx : x + m ≤ q.sent := by
      obtain ⟨x', m', h1, h2, h3⟩ := Qu.right_nat hr
      omega
    rw [if_neg (by omega)] at hs
    exact h.fresh i s hs hi

theorem pick_state (q : Qu) (most limit : Int) : ∃ s : UInt8, (s = 0 ∨ s = 2) ∧ (∀ j, j < (q.pick most limit).2 → q.st[(q.pick most limit).1 + j]? = some s) ∧ (q.pick most limit).2 ≤ most.toNat ∧ (s = 0 → 0 < (q.pick most limit).2 → (q.base : Int) + (q.pick most limit).1 + (q.pick most limit).2 ≤ limit) := by
  unfold Qu.pick
  split
  · refine ⟨2, .inr rfl, fun j hj => ?_, (runL_le _ _ _).1, fun h => by cases h⟩
    have := runL_all 2 _ _ j hj
    rwa [List.getElem?_drop] at this
  · split
    · rename_i h1 h2
      refine ⟨0, .inl rfl, fun j hj => ?_, ?_, fun _ _ => ?_⟩
      · have := runL_all 0 _ _ j hj
        rwa [List.getElem?_drop] at this
      · have := (runL_le 0 (q.st.drop (Lib.indexByte q.st 0).toNat) (min most (limit - q.base - Lib.indexByte q.st 0)).toNat).1
        simp only []
        omega
      · have := (runL_le 0 (q.st.drop (Lib.indexByte q.st 0).toNat) (min most (limit - q.base - Lib.indexByte q.st 0)).toNat).1
        simp only []
        omega
    · exact ⟨0, .inl rfl, fun j hj => absurd hj (Nat.not_lt_zero _), Nat.zero_le _, fun _ h => absurd h (Nat.lt_irrefl _)⟩

/-- what the law asks of a chunk -/
theorem LInv.chunk {rm : Nat} {q : Qu} {out : List Bool} (h : LInv rm q out) (most limit : Int) :
    ((q.out most limit).ok = false ∧ q.out most limit = ⟨0, [], false, false⟩ ∧ q.next most limit = q) ∨
    ((q.out most limit).ok = true ∧ (q.out most limit).at_ + (q.out most limit).data.length ≤ out.length ∧ ((q.out most limit).data.length : Int) ≤ max most 0 ∧
      (0 < (q.out most limit).data.length → ((q.out most limit).at_ : Int) + (q.out most limit).data.length ≤ max (q.sent : Int) limit) ∧
      (∀ k, k < (q.out most limit).data.length → out[(q.out most limit).at_ + k]? = some false) ∧
      LInv rm (q.next most limit) (turnedB out (q.out most limit).at_ (q.out most limit).data.length true)) := by
  by_cases hn : q.none most limit
  · exact .inl ⟨by unfold Qu.out; rw [if_pos hn], by unfold Qu.out; rw [if_pos hn], by unfold Qu.next; rw [if_pos hn]⟩
  · have hok := h.ok.next most limit
    have hsl := Qu.start_le h.ok most limit
    have hb := h.base
    obtain ⟨s, hs02, hst, hmost, hlim⟩ := pick_state q most limit
    have hout : q.out most limit = ⟨q.base + q.start most limit, (q.data.drop (q.start most limit)).take (q.pick most limit).2, q.ends most limit, true⟩ := by unfold Qu.out; rw [if_neg hn]
    have hnx : q.next most limit = { q with st := turned q.st (q.start most limit) (q.pick most limit).2 1, sent := max q.sent (q.base + q.start most limit + (q.pick most limit).2), e := if q.ends most limit then 1 else q.e } := by unfold Qu.next; rw [if_neg hn]
    have hdl : ((q.data.drop (q.start most limit)).take (q.pick most limit).2).length = (q.pick most limit).2 := by simp; omega
    have hstart : 0 < (q.pick most limit).2 → q.start most limit = (q.pick most limit).1 := fun h => by unfold Qu.start; rw [if_neg (by omega)]
    have hol := h.len
    have hlen := h.ok.len
    rw [hout]
    simp only [hdl, hb, Nat.zero_add]
    refine .inr ⟨trivial, by omega, by omega, fun hp => ?_, fun k hk => ?_, ?_⟩
    · have e := hstart hp
      rcases hs02 with rfl | rfl
      · have := hlim rfl hp
        rw [hb] at this
        omega
      · -- lost bytes lie below what was sent
        have h1 := hst ((q.pick most limit).2 - 1) (by omega)
        have h2 : (q.pick most limit).1 + ((q.pick most limit).2 - 1) < q.sent := by
          refine Nat.lt_of_not_le fun hle => ?_
          have := h.fresh _ _ h1 hle
          cases this
        omega
    · have e := hstart (by omega)
      have h1 := hst k hk
      rw [h.is, List.getElem?_map, e, h1]
      rcases hs02 with rfl | rfl <;> rfl
    · refine ⟨hok, by rw [hnx]; exact h.base, by rw [hnx]; exact h.room, ?_, ?_⟩
      · rw [hnx, h.is]
        apply List.ext_getElem?
        intro j
        simp only []
        rw [turnedB_get, List.getElem?_map, List.getElem?_map, turned_get _ _ _ _ _ (by omega)]
        by_cases h2 : q.start most limit ≤ j ∧ j < q.start most limit + (q.pick most limit).2
        · rw [if_pos h2, if_pos h2, List.getElem?_eq_getElem (show j < q.st.length by omega)]
          rfl
        · rw [if_neg h2, if_neg h2]
      · intro i s' hs' hi
        rw [hnx] at hs' hi
        simp only [hb, Nat.zero_add] at hs' hi
        rw [turned_get _ _ _ _ _ (by omega), if_neg (by omega)] at hs'
        exact h.fresh i s' hs' (by omega)
end Go.Proofs.Ytkjclgpecppokaa

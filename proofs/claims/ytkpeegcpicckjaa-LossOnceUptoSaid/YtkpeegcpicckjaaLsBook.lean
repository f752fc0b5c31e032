/- Loss detection: the law's own book of packets that were not told yet, in plain lists. No condition. -/
import Derived.Test.YtkpeegcpicckjaaLsUnder
namespace Go.Proofs.Ytkpeegcpicckjaa
open Go.RowKit

structure On where
  sp : Int
  num : Int
  size : Int
def ocells (o : On) : List Value := [.int .i64 o.sp, .int .i64 o.num, .int .i64 o.size]
def ov : List On → List Value
  | [] => []
  | o :: r => ocells o ++ ov r
theorem ov_length : ∀ l : List On, (ov l).length = l.length * 3
  | [] => rfl
  | o :: r => by simp [ov, ocells, ov_length r]; omega
theorem ov_get : ∀ (l : List On) (i j : Nat) (hi : i < l.length), j < 3 → (ov l)[i * 3 + j]? = (ocells l[i])[j]?
  | o :: r, 0, j, _, hj => by
    simp only [ov, Nat.zero_mul, Nat.zero_add]
    rw [List.getElem?_append_left (by simp [ocells]; omega)]
    rfl
  | o :: r, i + 1, j, hi, hj => by
    simp only [ov]
    rw [List.getElem?_append_right (by simp [ocells]; omega)]
    have e : (i + 1) * 3 + j - (ocells o).length = i * 3 + j := by simp [ocells]; omega
    rw [e, ov_get r i j (by simpa using hi) hj]
    rfl
theorem ov_append (l m : List On) : ov (l ++ m) = ov l ++ ov m := by
  induction l with
  | nil => rfl
  | cons o r ih => simp [ov, ih]
theorem ov_one : ∀ l : List On, ∀ u ∈ ov l, u.oneCell' = true
  | [], u, h => by simp [ov] at h
  | o :: r, u, h => by
    simp only [ov, ocells, List.mem_append, List.mem_cons, List.not_mem_nil, or_false] at h
    rcases h with (rfl | rfl | rfl) | h
    · rfl
    · rfl
    · rfl
    · exact ov_one r u h
theorem ov_take : ∀ (l : List On) (k : Nat), ov (l.take k) = (ov l).take (k * 3)
  | [], k => by simp [ov]
  | o :: r, 0 => by simp [ov]
  | o :: r, k + 1 => by
    have e : (k + 1) * 3 = k * 3 + 3 := by omega
    simp only [List.take_succ_cons, ov, ov_take r k, e]
    simp [ocells]
theorem ov_drop : ∀ (l : List On) (k : Nat), ov (l.drop k) = (ov l).drop (k * 3)
  | [], k => by simp [ov]
  | o :: r, 0 => by simp [ov]
  | o :: r, k + 1 => by
    have e : (k + 1) * 3 = k * 3 + 3 := by omega
    simp only [List.drop_succ_cons, ov, ov_drop r k, e]
    simp [ocells]
theorem own_on {w : World} {B e : Nat} {a : Option Addr} {n c : Nat} {l : List On} (h : w.ownsRow B e 3 (.slice a n c) n (ov l)) (hl : l.length = n) {i : Nat} (hi : i < l.length) :
    ∃ s, a = some ⟨s, 0, none⟩ ∧ w.cell? ⟨s, i * 3, none⟩ = some (.int .i64 l[i].sp) ∧ w.cell? ⟨s, i * 3 + 1, none⟩ = some (.int .i64 l[i].num) ∧ w.cell? ⟨s, i * 3 + 2, none⟩ = some (.int .i64 l[i].size) ∧ n ≤ c ∧ c ≤ maxLen := by
  have key : ∀ s, Value.ownBlock (.slice a n c) = some s → ∀ j, j < 3 → w.cell? ⟨s, i * 3 + j, none⟩ = (ocells l[i])[j]? := by
    intro s hs j hj
    have h1 := ov_get l i j hi hj
    have hx : (ocells l[i])[j]? = some ((ocells l[i])[j]'(by simp [ocells]; omega)) := List.getElem?_eq_getElem _
    rw [hx] at h1
    have h2 := h.cells hs (i * 3 + j) _ h1
    rw [addr_add, Nat.zero_add] at h2
    rw [h2, hx]
  rcases h.2 with ⟨hv, rfl⟩ | ⟨g, cap, cur, hv, hB, hg, hnc, hcm, hcs, ht⟩
  · omega
  · simp only [Value.slice.injEq, true_and] at hv
    obtain ⟨rfl, rfl⟩ := hv
    have k := key g rfl
    exact ⟨g, rfl, k 0 (by omega), k 1 (by omega), k 2 (by omega), hnc, hcm⟩
def osum : List On → Int
  | [] => 0
  | o :: r => o.size + osum r
theorem osum_append (l m : List On) : osum (l ++ m) = osum l + osum m := by
  induction l with
  | nil => simp [osum]
  | cons o r ih => simp only [List.cons_append, osum, ih]; omega
theorem osum_bounds : ∀ (l : List On), (∀ o ∈ l, 0 ≤ o.size ∧ o.size ≤ 65535) → 0 ≤ osum l ∧ osum l ≤ l.length * 65535
  | [], _ => by simp [osum]
  | o :: r, h => by
    have h1 := h o (by simp)
    have h2 := osum_bounds r (fun q hq => h q (by simp [hq]))
    simp only [osum, List.length_cons]
    push_cast
    omega
theorem osum_erase : ∀ (l : List On) (q : Nat) (o : On), l[q]? = some o → osum (l.take q ++ l.drop (q + 1)) = osum l - o.size
  | [], q, o, h => by simp at h
  | x :: r, 0, o, h => by
    simp only [List.getElem?_cons_zero, Option.some.injEq] at h
    subst h
    simp only [List.take_zero, List.nil_append, Nat.zero_add, List.drop_succ_cons, List.drop_zero, osum]
    omega
  | x :: r, q + 1, o, h => by
    simp only [List.getElem?_cons_succ] at h
    simp only [List.take_succ_cons, List.cons_append, List.drop_succ_cons, osum, osum_erase r q o h]
    omega
/-- is it that packet? -/
def isO (s z : Int) (o : On) : Bool := decide (o.sp = s) && decide (o.num = z)
theorem isO_iff {s z : Int} {o : On} : isO s z o = true ↔ o.sp = s ∧ o.num = z := by simp [isO]
def Uniq (l : List On) : Prop := l.Pairwise fun a b => ¬ (a.sp = b.sp ∧ a.num = b.num)
theorem Uniq.filter {l : List On} (h : Uniq l) (f : On → Bool) : Uniq (l.filter f) := List.Pairwise.sublist List.filter_sublist h
theorem erase_filter {s z : Int} : ∀ (l : List On) (q : Nat) (o : On), Uniq l → l[q]? = some o → isO s z o = true → l.take q ++ l.drop (q + 1) = l.filter fun x => !isO s z x
  | [], q, o, _, h, _ => by simp at h
  | x :: r, 0, o, hu, h, ho => by
    simp only [List.getElem?_cons_zero, Option.some.injEq] at h
    subst h
    have hr : ∀ y ∈ r, isO s z y = false := by
      intro y hy
      have := (List.pairwise_cons.1 hu).1 y hy
      rw [isO_iff] at ho
      cases hc : isO s z y
      · rfl
      · rw [isO_iff] at hc
        exact absurd ⟨ho.1.trans hc.1.symm, ho.2.trans hc.2.symm⟩ this
    simp only [List.take_zero, List.nil_append, Nat.zero_add, List.drop_succ_cons, List.drop_zero]
    rw [List.filter_cons_of_neg (by simp [ho])]
    exact (List.filter_eq_self.2 (fun y hy => by simp [hr y hy])).symm
  | x :: r, q + 1, o, hu, h, ho => by
    simp only [List.getElem?_cons_succ] at h
    have hx : isO s z x = false := by
      have := (List.pairwise_cons.1 hu).1 o (List.mem_of_getElem? h)
      rw [isO_iff] at ho
      cases hc : isO s z x
      · rfl
      · rw [isO_iff] at hc
        exact absurd ⟨hc.1.trans ho.1.symm, hc.2.trans ho.2.symm⟩ this
    simp only [List.take_succ_cons, List.cons_append, List.drop_succ_cons]
    rw [List.filter_cons_of_pos (by simp [hx]), erase_filter r q o (List.pairwise_cons.1 hu).2 h ho]
/-- what is left when the packets zs of a space are told -/
def left (s : Int) (zs : List Int) (out : List On) : List On := out.filter fun o => !(zs.any fun z => isO s z o)
theorem left_nil (s : Int) (out : List On) : left s [] out = out := by simp [left]
theorem left_snoc (s : Int) (zs : List Int) (z : Int) (out : List On) : left s (zs ++ [z]) out = (left s zs out).filter fun o => !isO s z o := by
  unfold left
  rw [List.filter_filter]
  congr 1
  funext o
  simp [Bool.and_comm]
theorem left_mem {s : Int} {zs : List Int} {out : List On} {z : Int} (hz : z ∉ zs) {o : On} (ho : o ∈ out) (hi : isO s z o = true) : o ∈ left s zs out := by
  refine List.mem_filter.2 ⟨ho, ?_⟩
  rw [Bool.not_eq_true', List.any_eq_false]
  intro y hy hc
  rw [isO_iff] at hi hc
  exact hz (by rw [← hi.2, hc.2]; exact hy)

/-- the book holds what is out, space by space -/
structure Bk (O : Int → List Pk) (out : List On) : Prop where
  sp : ∀ o ∈ out, 0 ≤ o.sp ∧ o.sp ≤ 2
  same : ∀ k, 0 ≤ k → k ≤ 2 → (out.filter fun o => decide (o.sp = k)) = (O k).map fun p => ⟨k, p.num, p.size⟩
  inc : ∀ k, 0 ≤ k → k ≤ 2 → (O k).Pairwise fun a b => a.num < b.num
theorem uniq_of : ∀ (out : List On), (∀ k, Uniq (out.filter fun o => decide (o.sp = k))) → Uniq out
  | [], _ => List.Pairwise.nil
  | x :: r, h => by
    refine List.pairwise_cons.2 ⟨fun y hy hc => ?_, uniq_of r (fun k => ?_)⟩
    · have h1 := h x.sp
      rw [List.filter_cons_of_pos (by simp)] at h1
      exact (List.pairwise_cons.1 h1).1 y (List.mem_filter.2 ⟨hy, by simp [hc.1]⟩) hc
    · have h1 := h k
      by_cases hx : x.sp = k
      · rw [List.filter_cons_of_pos (by simp [hx])] at h1
        exact (List.pairwise_cons.1 h1).2
      · rwa [List.filter_cons_of_neg (by simp [hx])] at h1
theorem Bk.uniq {O : Int → List Pk} {out : List On} (h : Bk O out) : Uniq out := by
  refine uniq_of out (fun k => ?_)
  by_cases hk : 0 ≤ k ∧ k ≤ 2
  · rw [h.same k hk.1 hk.2]
    unfold Uniq
    rw [List.pairwise_map]
    exact (h.inc k hk.1 hk.2).imp (fun hab hc => by have := hc.2; simp only at this; omega)
  · have e : (out.filter fun o => decide (o.sp = k)) = [] := by
      rw [List.filter_eq_nil_iff]
      intro o ho
      have := h.sp o ho
      simp only [decide_eq_true_eq]
      omega
    rw [e]; exact List.Pairwise.nil
theorem Bk.size {O : Int → List Pk} {out : List On} (h : Bk O out) (hs : ∀ k, 0 ≤ k → k ≤ 2 → ∀ p ∈ O k, 0 ≤ p.size ∧ p.size ≤ 65535) : ∀ o ∈ out, 0 ≤ o.size ∧ o.size ≤ 65535 := by
  intro o ho
  obtain ⟨h0, h2⟩ := h.sp o ho
  have hm : o ∈ out.filter fun x => decide (x.sp = o.sp) := List.mem_filter.2 ⟨ho, by simp⟩
  rw [h.same o.sp h0 h2] at hm
  obtain ⟨p, hp, he⟩ := List.mem_map.1 hm
  have := hs o.sp h0 h2 p hp
  rw [← he]; exact this
theorem three_len : ∀ (out : List On), (∀ o ∈ out, 0 ≤ o.sp ∧ o.sp ≤ 2) → out.length = (out.filter fun o => decide (o.sp = 0)).length + (out.filter fun o => decide (o.sp = 1)).length + (out.filter fun o => decide (o.sp = 2)).length
  | [], _ => rfl
  | x :: r, h => by
    have ih := three_len r (fun o ho => h o (by simp [ho]))
    have hx := h x (by simp)
    have hc : x.sp = 0 ∨ x.sp = 1 ∨ x.sp = 2 := by omega
    rcases hc with hc | hc | hc <;> simp [hc, ih] <;> omega
theorem three_sum : ∀ (out : List On), (∀ o ∈ out, 0 ≤ o.sp ∧ o.sp ≤ 2) → osum out = osum (out.filter fun o => decide (o.sp = 0)) + osum (out.filter fun o => decide (o.sp = 1)) + osum (out.filter fun o => decide (o.sp = 2))
  | [], _ => rfl
  | x :: r, h => by
    have ih := three_sum r (fun o ho => h o (by simp [ho]))
    have hx := h x (by simp)
    have hc : x.sp = 0 ∨ x.sp = 1 ∨ x.sp = 2 := by omega
    rcases hc with hc | hc | hc <;> simp [hc, ih, osum] <;> omega
theorem osum_map (k : Int) : ∀ (l : List Pk), osum (l.map fun p => ⟨k, p.num, p.size⟩) = psum l
  | [] => rfl
  | p :: r => by simp [osum, psum, osum_map k r]
theorem Bk.sum {O : Int → List Pk} {out : List On} (h : Bk O out) : osum out = psum (O 0) + psum (O 1) + psum (O 2) := by
  rw [three_sum out h.sp, h.same 0 (by decide) (by decide), h.same 1 (by decide) (by decide), h.same 2 (by decide) (by decide), osum_map, osum_map, osum_map]
theorem Bk.len {O : Int → List Pk} {out : List On} (h : Bk O out) : out.length = (O 0).length + (O 1).length + (O 2).length := by
  rw [three_len out h.sp, h.same 0 (by decide) (by decide), h.same 1 (by decide) (by decide), h.same 2 (by decide) (by decide), List.length_map, List.length_map, List.length_map]
theorem Bk.nil : Bk (fun _ => []) [] := ⟨by simp, by simp, by simp⟩
theorem Bk.eq {O O' : Int → List Pk} {out : List On} (h : Bk O out) (he : ∀ k, 0 ≤ k → k ≤ 2 → O' k = O k) : Bk O' out :=
  ⟨h.sp, fun k h0 h2 => by rw [he k h0 h2]; exact h.same k h0 h2, fun k h0 h2 => by rw [he k h0 h2]; exact h.inc k h0 h2⟩
/-- a packet is sent -/
theorem Bk.add {O O' : Int → List Pk} {out : List On} (h : Bk O out) {k : Int} (hk : 0 ≤ k ∧ k ≤ 2) {p : Pk} (hO : O' k = O k ++ [p]) (hr : ∀ j, 0 ≤ j → j ≤ 2 → j ≠ k → O' j = O j) (hp : ∀ q ∈ O k, q.num < p.num) :
    Bk O' (out ++ [⟨k, p.num, p.size⟩]) := by
  refine ⟨fun o ho => ?_, fun j h0 h2 => ?_, fun j h0 h2 => ?_⟩
  · rcases List.mem_append.1 ho with ho | ho
    · exact h.sp o ho
    · simp only [List.mem_cons, List.not_mem_nil, or_false] at ho
      subst ho; exact hk
  · rw [List.filter_append, h.same j h0 h2]
    by_cases hj : j = k
    · subst hj; rw [hO]; simp
    · rw [hr j h0 h2 hj]; simp [Ne.symm hj]
  · by_cases hj : j = k
    · subst hj
      rw [hO, List.pairwise_append]
      exact ⟨h.inc j h0 h2, List.pairwise_singleton _ _, fun a ha b hb => by simp only [List.mem_cons, List.not_mem_nil, or_false] at hb; subst hb; exact hp a ha⟩
    · rw [hr j h0 h2 hj]; exact h.inc j h0 h2
theorem inc_inj : ∀ (l : List Pk), (l.Pairwise fun a b => a.num < b.num) → ∀ a ∈ l, ∀ b ∈ l, a.num = b.num → a = b
  | [], _, a, ha, _, _, _ => by simp at ha
  | x :: r, h, a, ha, b, hb, he => by
    obtain ⟨h1, h2⟩ := List.pairwise_cons.1 h
    rcases List.mem_cons.1 ha with ha1 | ha1
    · rcases List.mem_cons.1 hb with hb1 | hb1
      · rw [ha1, hb1]
      · have := h1 b hb1; rw [ha1] at he; omega
    · rcases List.mem_cons.1 hb with hb1 | hb1
      · have := h1 a ha1; rw [hb1] at he; omega
      · exact inc_inj r h2 a ha1 b hb1 he
/-- packets are told -/
theorem Bk.cut {O O' : Int → List Pk} {out : List On} (h : Bk O out) {k : Int} (hk : 0 ≤ k ∧ k ≤ 2) (f : Pk → Bool) (hO : O' k = (O k).filter fun p => !f p) (hr : ∀ j, 0 ≤ j → j ≤ 2 → j ≠ k → O' j = O j) :
    Bk O' (left k (((O k).filter f).map (·.num)) out) := by
  refine ⟨fun o ho => h.sp o (List.mem_filter.1 ho).1, fun j h0 h2 => ?_, fun j h0 h2 => ?_⟩
  · by_cases hj : j = k
    · subst hj
      have e : ((left j (((O j).filter f).map (·.num)) out).filter fun o => decide (o.sp = j)) = ((out.filter fun o => decide (o.sp = j)).filter fun o => !((((O j).filter f).map (·.num)).any fun z => isO j z o)) := by
        unfold left
        rw [List.filter_filter, List.filter_filter]
        congr 1
        funext o
        exact Bool.and_comm _ _
      rw [e, h.same j h0 h2, hO, List.filter_map]
      congr 1
      refine List.filter_congr (fun p hp => ?_)
      simp only [Function.comp_def]
      congr 1
      cases hf : f p
      · rw [List.any_eq_false]
        intro z hz hc
        obtain ⟨q, hq, rfl⟩ := List.mem_map.1 hz
        obtain ⟨hq1, hq2⟩ := List.mem_filter.1 hq
        rw [isO_iff] at hc
        have := inc_inj _ (h.inc j h0 h2) q hq1 p hp hc.2.symm
        rw [this, hf] at hq2
        exact Bool.noConfusion hq2
      · rw [List.any_eq_true]
        exact ⟨p.num, List.mem_map.2 ⟨p, List.mem_filter.2 ⟨hp, hf⟩, rfl⟩, by rw [isO_iff]; exact ⟨rfl, rfl⟩⟩
    · rw [hr j h0 h2 hj, ← h.same j h0 h2]
      unfold left
      rw [List.filter_filter]
      refine List.filter_congr (fun o ho => ?_)
      by_cases hs : o.sp = j
      · have hn : ((((O k).filter f).map (·.num)).any fun z => isO k z o) = false := by
          rw [List.any_eq_false]
          intro z _ hc
          rw [isO_iff] at hc
          exact hj (hs.symm.trans hc.1)
        rw [hn]; simp
      · simp [hs]
  · by_cases hj : j = k
    · subst hj; rw [hO]; exact (h.inc j h0 h2).sublist List.filter_sublist
    · rw [hr j h0 h2 hj]; exact h.inc j h0 h2
theorem Bk.nodup {O : Int → List Pk} {out : List On} (h : Bk O out) {k : Int} (hk : 0 ≤ k ∧ k ≤ 2) (f : Pk → Bool) : (((O k).filter f).map (·.num)).Nodup := by
  unfold List.Nodup
  rw [List.pairwise_map]
  exact ((h.inc k hk.1 hk.2).sublist List.filter_sublist).imp (fun hab hc => by omega)
theorem Bk.mem {O : Int → List Pk} {out : List On} (h : Bk O out) {k : Int} (hk : 0 ≤ k ∧ k ≤ 2) (f : Pk → Bool) : ∀ z ∈ ((O k).filter f).map (·.num), ∃ o ∈ out, isO k z o = true := by
  intro z hz
  obtain ⟨p, hp, rfl⟩ := List.mem_map.1 hz
  have hm : (⟨k, p.num, p.size⟩ : On) ∈ (O k).map fun p => (⟨k, p.num, p.size⟩ : On) := List.mem_map.2 ⟨p, (List.mem_filter.1 hp).1, rfl⟩
  rw [← h.same k hk.1 hk.2] at hm
  exact ⟨_, (List.mem_filter.1 hm).1, by rw [isO_iff]; exact ⟨rfl, rfl⟩⟩
end Go.Proofs.Ytkpeegcpicckjaa

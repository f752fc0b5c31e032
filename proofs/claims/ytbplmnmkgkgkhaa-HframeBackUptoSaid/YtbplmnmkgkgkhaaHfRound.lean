/- The reader's Next in plain words: a round (stepV), and rounds till there is an answer (nextV). -/
import Derived.Test.YtbplmnmkgkgkhaaHfWhole
namespace Go.Proofs.Ytbplmnmkgkgkhaa
open Go.RowKit

structure Ev where
  kind : Int
  data : List UInt8
  cap : Int
  blk : Int
  lim : Int
  id : Int
def ev0 : Ev := ⟨0, [], 0, 0, 0, 0⟩
structure NOut where
  ev : Ev
  ok : Bool
  z : Int
/-- this answer, these cells -/
def EvAt (B : Nat) (w : World) (e : Ev) (vs : List Value) : Prop :=
  ∃ a c, vs = [.int .i64 e.kind, .slice a e.data.length c, .int .i64 e.cap, .int .i64 e.blk, .int .i64 e.lim, .int .i64 e.id] ∧ Sl w a e.data.length c (bv e.data) ∧ ∀ ad, a = some ad → B ≤ ad.block
theorem EvAt.none {B : Nat} {w : World} {e : Ev} (h : e.data = []) : EvAt B w e [.int .i64 e.kind, .slice none 0 0, .int .i64 e.cap, .int .i64 e.blk, .int .i64 e.lim, .int .i64 e.id] := by
  refine ⟨Option.none, 0, by rw [h]; rfl, by rw [h]; exact ⟨rfl, Nat.le_refl _, Nat.zero_le _, fun _ => rfl, fun h => absurd h (Nat.lt_irrefl _)⟩, by simp⟩
theorem EvAt.kept {B : Nat} {X : Nat → Prop} {w w' : World} {e : Ev} {vs : List Value} (h : EvAt B w e vs) (hk : Kept X w w') (hx : ∀ k, X k → k < B) : EvAt B w' e vs := by
  obtain ⟨a, c, hv, hs, hb⟩ := h
  exact ⟨a, c, hv, hs.kept hk (fun ad ha e => by have := hb ad ha; have := hx _ e; omega), hb⟩
/-- nothing to tell, the error's number -/
def say (z : Int) : NOut := ⟨ev0, false, z⟩
def wholeE (R : Rd) (k : Int) (pl : List UInt8) : NOut × Rd :=
  if k = 1 then (⟨{ ev0 with kind := 1, data := pl }, true, 0⟩, { R with heads := R.heads + 1 })
  else if k = 7 then (if (oneV pl).2 = 0 then (⟨{ ev0 with kind := 4, id := (oneV pl).1 }, true, 0⟩, R) else (say (oneV pl).2, { R with fault := (oneV pl).2 }))
  else if (settV pl).2 = 0 then (⟨{ ev0 with kind := 3, cap := (settV pl).1.cap, blk := (settV pl).1.blk, lim := (settV pl).1.lim }, true, 0⟩, { R with settled := true }) else (say (settV pl).2, { R with fault := (settV pl).2 })
/-- one frame's beginning: type k, size s, the bytes behind it begin at t -/
def frameV (R : Rd) (k s t : Nat) : Option NOut × Rd :=
  if chk R k s ≠ 0 then (some (say (chk R k s)), { R with fault := chk R k s })
  else if k = 0 ∨ knoB k = false then (none, { R with b := R.b.drop t, left := s, passing := decide (k ≠ 0) })
  else if R.b.length < t + s then (some (say (waitR R).1), (waitR R).2)
  else if k = 13 then (if (oneV ((R.b.drop t).take s)).2 = 0 then (none, { R with b := R.b.drop (t + s) }) else (some (say (oneV ((R.b.drop t).take s)).2), { R with b := R.b.drop (t + s), fault := (oneV ((R.b.drop t).take s)).2 }))
  else (some (wholeE { R with b := R.b.drop (t + s) } k ((R.b.drop t).take s)).1, (wholeE { R with b := R.b.drop (t + s) } k ((R.b.drop t).take s)).2)
/-- a round: no answer: there is another -/
def stepV (R : Rd) : Option NOut × Rd :=
  if R.fault ≠ 0 then (some (say R.fault), R)
  else if 0 < R.left then
    (if R.b = [] then (some (say (waitR R).1), (waitR R).2)
    else if R.passing = true then (none, { R with b := R.b.drop R.left, left := R.left - R.b.length })
    else (some ⟨{ ev0 with kind := 2, data := R.b.take R.left }, true, 0⟩, { R with b := R.b.drop R.left, left := R.left - R.b.length }))
  else if R.b = [] then (some (say (overR R).1), (overR R).2)
  else if (getV R.b 0).2.2 ≠ 0 then (some (say (waitR R).1), (waitR R).2)
  else if (getV R.b (getV R.b 0).2.1).2.2 ≠ 0 then (some (say (waitR R).1), (waitR R).2)
  else frameV R (getV R.b 0).1 (getV R.b (getV R.b 0).2.1).1 (getV R.b (getV R.b 0).2.1).2.1
def nextV : Nat → Rd → NOut × Rd
  | 0, R => (say 0, R)
  | k + 1, R => match (stepV R).1 with
    | some o => (o, (stepV R).2)
    | none => nextV k (stepV R).2
/-- each round that gives no answer takes bytes -/
theorem getV_gt (l : List UInt8) (t : Nat) (h : (getV l t).2.2 = 0) : t < (getV l t).2.1 := by
  unfold getV at h ⊢
  by_cases h1 : l.length < t
  · rw [if_pos h1] at h; simp at h
  · rw [if_neg h1] at h ⊢
    cases hdd : l.drop t with
    | nil => rw [hdd] at h; simp at h
    | cons x r =>
      rw [hdd] at h
      simp only at h ⊢
      by_cases h4 : r.length + 1 < szB x
      · rw [if_pos h4] at h; simp at h
      · rw [if_neg h4]
        show t < t + szB x
        have := szB_cs x
        omega
theorem stepV_less (R : Rd) (h : (stepV R).1 = none) : (stepV R).2.b.length < R.b.length := by
  unfold stepV at h ⊢
  by_cases h1 : R.fault ≠ 0
  · rw [if_pos h1] at h; simp at h
  rw [if_neg h1] at h ⊢
  by_cases h2 : 0 < R.left
  · rw [if_pos h2] at h ⊢
    by_cases h3 : R.b = []
    · rw [if_pos h3] at h; simp at h
    · rw [if_neg h3] at h ⊢
      by_cases h4 : R.passing = true
      · rw [if_pos h4]
        show (R.b.drop R.left).length < _
        have : 0 < R.b.length := List.length_pos_iff.2 h3
        rw [List.length_drop]; omega
      · rw [if_neg h4] at h; simp at h
  · rw [if_neg h2] at h ⊢
    by_cases h3 : R.b = []
    · rw [if_pos h3] at h; simp at h
    · rw [if_neg h3] at h ⊢
      by_cases h4 : (getV R.b 0).2.2 ≠ 0
      · rw [if_pos h4] at h; simp at h
      · rw [if_neg h4] at h ⊢
        by_cases h5 : (getV R.b (getV R.b 0).2.1).2.2 ≠ 0
        · rw [if_pos h5] at h; simp at h
        · rw [if_neg h5] at h ⊢
          have hp : 0 < R.b.length := List.length_pos_iff.2 h3
          have hg := getV_gt _ _ (Decidable.not_not.mp h5)
          generalize (getV R.b (getV R.b 0).2.1).2.1 = t at h hg ⊢
          generalize (getV R.b (getV R.b 0).2.1).1 = s at h ⊢
          generalize (getV R.b 0).1 = k at h ⊢
          unfold frameV at h ⊢
          by_cases h6 : chk R k s ≠ 0
          · rw [if_pos h6] at h; simp at h
          rw [if_neg h6] at h ⊢
          by_cases h7 : k = 0 ∨ knoB k = false
          · rw [if_pos h7]
            show (R.b.drop t).length < _
            rw [List.length_drop]; omega
          rw [if_neg h7] at h ⊢
          by_cases h8 : R.b.length < t + s
          · rw [if_pos h8] at h; simp at h
          rw [if_neg h8] at h ⊢
          by_cases h9 : k = 13
          · rw [if_pos h9] at h ⊢
            by_cases h10 : (oneV ((R.b.drop t).take s)).2 = 0
            · rw [if_pos h10]
              show (R.b.drop (t + s)).length < _
              rw [List.length_drop]; omega
            · rw [if_neg h10] at h; simp at h
          · rw [if_neg h9] at h; simp at h
end Go.Proofs.Ytbplmnmkgkgkhaa

/- The reader of responses as a function on texts, and that cuts make no difference to it. Plain; no program in sight. -/
import Derived.Test.YtfffefhchjnfjaaGreatDoorHoGram
namespace Go.Proofs.YtfffefhchjnfjaaGreatDoor
open Go.RowKit


/-- a text cut at the first instance of p: what stands ahead of it, what behind -/
def cutS (p : List UInt8) : List UInt8 → Option (List UInt8 × List UInt8)
  | [] => if p.isPrefixOf [] then some ([], []) else none
  | a :: r => if p.isPrefixOf (a :: r) then some ([], (a :: r).drop p.length) else (cutS p r).map fun x => (a :: x.1, x.2)
theorem pre_drop {p l : List UInt8} (h : p.isPrefixOf l = true) : l = p ++ l.drop p.length := by
  have := List.isPrefixOf_iff_prefix.1 h
  obtain ⟨t, rfl⟩ := this
  rw [List.drop_left]
theorem cutS_eq {p : List UInt8} : ∀ {l x r : List UInt8}, cutS p l = some (x, r) → l = x ++ (p ++ r)
  | [], x, r, h => by
    unfold cutS at h
    split at h
    · rename_i hp
      simp only [Option.some.injEq, Prod.mk.injEq] at h
      obtain ⟨rfl, rfl⟩ := h
      have := pre_drop hp
      simpa using this
    · cases h
  | a :: l, x, r, h => by
    unfold cutS at h
    split at h
    · rename_i hp
      simp only [Option.some.injEq, Prod.mk.injEq] at h
      obtain ⟨rfl, rfl⟩ := h
      exact pre_drop hp
    · simp only [Option.map_eq_some_iff, Prod.mk.injEq] at h
      obtain ⟨⟨x', r'⟩, h1, rfl, rfl⟩ := h
      rw [List.cons_append, ← cutS_eq h1]
theorem cutS_lt {p l x r : List UInt8} (h : cutS p l = some (x, r)) : x.length + p.length + r.length = l.length := by
  rw [cutS_eq h]; simp; omega
theorem pre_on {p l : List UInt8} (q : List UInt8) (h : p.length ≤ l.length) : p.isPrefixOf (l ++ q) = p.isPrefixOf l := by
  rw [Bool.eq_iff_iff, List.isPrefixOf_iff_prefix, List.isPrefixOf_iff_prefix]
  constructor
  · intro hp
    exact List.prefix_of_prefix_length_le hp (List.prefix_append l q) h
  · intro hp
    exact hp.trans (List.prefix_append l q)
theorem cutS_on {p : List UInt8} : ∀ {l x r : List UInt8} (q : List UInt8), cutS p l = some (x, r) → cutS p (l ++ q) = some (x, r ++ q)
  | [], x, r, q, h => by
    have h2 := cutS_eq h
    obtain ⟨rfl, h3⟩ := List.append_eq_nil_iff.1 h2.symm
    obtain ⟨rfl, rfl⟩ := List.append_eq_nil_iff.1 h3
    cases q with
    | nil => exact h
    | cons b q => simp [cutS]
  | a :: l, x, r, q, h => by
    have hl := cutS_lt h
    show cutS p (a :: (l ++ q)) = _
    unfold cutS at h ⊢
    have e : p.isPrefixOf (a :: (l ++ q)) = p.isPrefixOf (a :: l) := pre_on (l := a :: l) q (by omega)
    rw [e]
    split at h
    · rename_i hp
      simp only [Option.some.injEq, Prod.mk.injEq] at h
      obtain ⟨rfl, rfl⟩ := h
      rw [if_pos hp]
      have hpl : p.length ≤ (a :: l).length := by rw [List.length_drop] at hl; omega
      rw [show a :: (l ++ q) = (a :: l) ++ q from rfl, List.drop_append_of_le_length hpl]
    · rename_i hp
      simp only [Option.map_eq_some_iff, Prod.mk.injEq] at h
      obtain ⟨⟨x', r'⟩, h1, rfl, rfl⟩ := h
      rw [if_neg hp, cutS_on q h1]; rfl
def crS : List UInt8 := [13, 10]
def crcrS : List UInt8 := [13, 10, 13, 10]
/-- lines, without their ends -/
def splitG : Nat → List UInt8 → List (List UInt8)
  | 0, l => [l]
  | n + 1, l => match cutL l with
    | none => [l]
    | some (x, r) => x :: splitG n r
def splitL (l : List UInt8) : List (List UInt8) := splitG (l.length + 1) l
/-- the lines up to an empty one -/
inductive BR where
  | wait
  | bad (e : Int)
  | ok (ls : List (List UInt8)) (r : List UInt8)
def blkV (limit : Nat) (b : List UInt8) (ended : Bool) : BR := match cutS crcrS b with
  | none => if limit < b.length then .bad 151 else if ended = true then .bad 204 else .wait
  | some (x, r) => if limit < x.length + 4 then .bad 151 else .ok (splitL x) r
inductive Ex (α : Type) where
  | bad (e : Int)
  | ok (a : α)
def fieldH (l : List UInt8) : Ex Fd := match cutAt 58 l with
  | none => .bad 180
  | some (a, v) => if a = [] ∨ a.all tokC = false then .bad 180 else if (trimL v).all valC = false then .bad 181 else .ok ⟨strB (smallL a), strB (trimL v)⟩
def fieldsH : List (List UInt8) → Ex (List Fd)
  | [] => .ok []
  | l :: r => match fieldH l with
    | .bad e => .bad e
    | .ok f => match fieldsH r with
      | .bad e => .bad e
      | .ok fs => .ok (f :: fs)
def httpS : List UInt8 := [72, 84, 84, 80, 47, 49, 46]
def atB (l : List UInt8) (i : Nat) : UInt8 := (l[i]?).getD 0
def stBad (l : List UInt8) : Bool := decide (l.length < 13) || !httpS.isPrefixOf l || (!decide (atB l 7 = 48) && !decide (atB l 7 = 49)) || !decide (atB l 8 = 32) || !decide (atB l 12 = 32) || !(l.drop 13).all valC
def statusH (l : List UInt8) : Ex (Nat × Bool) :=
  if stBad l = true then .bad 201 else if ((l.drop 9).take 3).all digC = false then .bad 201
  else if natV ((l.drop 9).take 3) < 100 ∨ 599 < natV ((l.drop 9).take 3) ∨ natV ((l.drop 9).take 3) = 101 then .bad 200
  else .ok (natV ((l.drop 9).take 3), decide (atB l 7 = 48))
def lengthH (l : List UInt8) : Option Nat := if l.length < 1 ∨ 15 < l.length ∨ l.all digC = false then none else some (natV l)
def frameH (old : Bool) : List Fd → Bool → Option Nat → Ex (Bool × Option Nat)
  | [], coded, size => if coded = true ∧ size.isSome = true then .bad 202 else .ok (coded, size)
  | f :: r, coded, size =>
    if bl f.nm = traN then (if coded = true ∨ old = true ∨ smallL (bl f.va) ≠ chkS then .bad 202 else frameH old r true size)
    else if bl f.nm = lenN then (match lengthH (bl f.va) with
      | none => .bad 202
      | some n => if ∃ m, size = some m ∧ n ≠ m then .bad 202 else frameH old r coded (some n))
    else frameH old r coded size
inductive Stp where
  | head | nobody | length | close | chunk | piece | trailers
structure HSt where
  b : List UInt8
  ended : Bool
  fault : Int
  stp : Stp
  done : Bool
  old : Bool
  fr : Int
  left : Nat
inductive HEv where
  | head (st : Nat) (l : List Fd) (fr : Int)
  | data (d : List UInt8)
  | fin (l : List Fd)
/-- what a step tells: nothing, an error, an event -/
inductive Out where
  | none
  | bad (e : Int)
  | ev (e : HEv)
def waitV (s : HSt) : HSt × Out := (s, if s.ended = true then .bad 204 else .none)
def endV (s : HSt) (l : List Fd) : HSt × Out := ({ s with done := true }, .ev (.fin l))
def pieceV (s : HSt) (n : Nat) : HSt × Out := if min n s.b.length = 0 then waitV s else ({ s with b := s.b.drop (min n s.b.length) }, .ev (.data (s.b.take (min n s.b.length))))
/-- up to n bytes, which are then no more left -/
def leftV (s : HSt) : HSt × Out := if min s.left s.b.length = 0 then waitV s else ({ s with b := s.b.drop (min s.left s.b.length), left := s.left - min s.left s.b.length }, .ev (.data (s.b.take (min s.left s.b.length))))
def beginV (head : Bool) (s : HSt) (st : Nat) (coded : Bool) (size : Option Nat) : HSt :=
  if head = true ∨ st = 204 ∨ st = 304 then { s with fr := 0, stp := .nobody }
  else if coded = true then { s with fr := 2, stp := .chunk }
  else match size with
    | some n => { s with fr := 1, left := n, stp := .length }
    | none => { s with fr := 3, stp := .close }
def headG (head : Bool) (limit : Nat) : Nat → HSt → HSt × Out
  | 0, s => (s, .none)
  | k + 1, s => match blkV limit s.b s.ended with
    | .wait => (s, .none)
    | .bad e => (s, .bad e)
    | .ok ls r => match statusH (ls.headD []) with
      | .bad e => (s, .bad e)
      | .ok (st, old) => match fieldsH ls.tail with
        | .bad e => ({ s with old := old }, .bad e)
        | .ok l => match frameH old l false none with
          | .bad e => ({ s with old := old }, .bad e)
          | .ok (coded, size) =>
            if 200 ≤ st then (beginV head { s with old := old, b := r } st coded size, .ev (.head st l (beginV head { s with old := old, b := r } st coded size).fr))
            else headG head limit k { s with old := old, b := r }
def headV (head : Bool) (limit : Nat) (s : HSt) : HSt × Out := headG head limit (s.b.length + 1) s
def badTr (f : Fd) : Bool := decide (bl f.nm = lenN) || decide (bl f.nm = traN)
def trailV (limit : Nat) (s : HSt) : HSt × Out :=
  if crS.isPrefixOf s.b = true then endV { s with b := s.b.drop 2 } []
  else if s.b.length < 2 then waitV s
  else match blkV limit s.b s.ended with
    | .wait => (s, .none)
    | .bad e => (s, .bad e)
    | .ok ls r => match fieldsH ls with
      | .bad e => (s, .bad e)
      | .ok l => if l.any badTr = true then (s, .bad 202) else endV { s with b := r } l
def chunkV (limit : Nat) (s : HSt) : HSt × Out := match cutL (s.b.take 10) with
  | none => if 9 < s.b.length then (s, .bad 203) else waitV s
  | some (x, _) => if x = [] then (s, .bad 203) else match hexAc 0 x with
    | none => (s, .bad 203)
    | some n => if n = 0 then trailV limit { s with b := s.b.drop (x.length + 2), stp := .trailers } else leftV { s with b := s.b.drop (x.length + 2), left := n, stp := .piece }
def pieceS (limit : Nat) (s : HSt) : HSt × Out :=
  if 0 < s.left then leftV s
  else if (0 < s.b.length ∧ atB s.b 0 ≠ 13) ∨ (1 < s.b.length ∧ atB s.b 1 ≠ 10) then (s, .bad 203)
  else if s.b.length < 2 then waitV s
  else chunkV limit { s with b := s.b.drop 2, stp := .chunk }
def stepV (head : Bool) (limit : Nat) (s : HSt) : HSt × Out := match s.stp with
  | .head => headV head limit s
  | .nobody => endV s []
  | .length => if s.left = 0 then endV s [] else leftV s
  | .close => if s.ended = true ∧ s.b = [] then endV s [] else pieceV s s.b.length
  | .chunk => chunkV limit s
  | .piece => pieceS limit s
  | .trailers => trailV limit s
/-- Next -/
def nextV (head : Bool) (limit : Nat) (s : HSt) : HSt × Out :=
  if s.done = true ∨ s.fault ≠ 0 then (s, if s.fault = 0 then .none else .bad s.fault)
  else match stepV head limit s with
    | (s', .bad e) => ({ s' with fault := e }, .bad e)
    | p => p
/-- more bytes, and perhaps the end -/
def moreV (q : List UInt8) (e : Bool) (s : HSt) : HSt := { s with b := s.b ++ q, ended := e }
theorem moreV_b (q : List UInt8) (e : Bool) (s : HSt) : (moreV q e s).b = s.b ++ q := rfl
/-- p: what a step tells; p2: what it tells with more bytes; G: the step, from where p has come -/
def Sim (T : HSt → HSt) (G : HSt → HSt × Out) (p p2 : HSt × Out) : Prop :=
  match p.2 with
  | .none => p2 = G (T p.1)
  | .bad _ => ∃ e', p2.2 = .bad e' ∧ e' ≠ 0
  | .ev (.data d) => p2 = (T p.1, .ev (.data d)) ∨ ∃ s'' x, G (T p.1) = (s'', .ev (.data x)) ∧ p2 = (s'', .ev (.data (d ++ x)))
  | .ev E => p2 = (T p.1, .ev E)
theorem cutS_pre {p : List UInt8} : ∀ {l x r q : List UInt8}, cutS p (l ++ q) = some (x, r) → x.length + p.length ≤ l.length → ∃ r', cutS p l = some (x, r') ∧ r = r' ++ q
  | [], x, r, q, h, hl => by
    have hl2 : x.length + p.length ≤ 0 := hl
    have hp : p = [] := List.eq_nil_of_length_eq_zero (by omega)
    have hx : x = [] := List.eq_nil_of_length_eq_zero (by omega)
    subst hp hx
    have := cutS_eq h
    exact ⟨[], by simp [cutS], by simpa using this.symm⟩
  | a :: l, x, r, q, h, hl => by
    rw [List.cons_append] at h
    unfold cutS at h ⊢
    have e : p.isPrefixOf (a :: (l ++ q)) = p.isPrefixOf (a :: l) := pre_on (l := a :: l) q (by omega)
    rw [e] at h
    split at h
    · rename_i hp
      simp only [Option.some.injEq, Prod.mk.injEq] at h
      obtain ⟨rfl, rfl⟩ := h
      rw [if_pos hp]
      refine ⟨_, rfl, ?_⟩
      rw [show a :: (l ++ q) = (a :: l) ++ q from rfl, List.drop_append_of_le_length (by simpa using hl)]
    · rename_i hp
      simp only [Option.map_eq_some_iff, Prod.mk.injEq] at h
      obtain ⟨⟨x', r'⟩, h1, rfl, rfl⟩ := h
      rw [if_neg hp]
      obtain ⟨r2, h2, h3⟩ := cutS_pre (l := l) (q := q) h1 (by simp at hl; omega)
      exact ⟨r2, by rw [h2]; rfl, h3⟩
theorem blk_ok {limit : Nat} {b : List UInt8} {ended : Bool} {ls : List (List UInt8)} {r : List UInt8} (h : blkV limit b ended = .ok ls r) (q : List UInt8) (e : Bool) : blkV limit (b ++ q) e = .ok ls (r ++ q) ∧ r.length + 4 ≤ b.length := by
  unfold blkV at h ⊢
  cases hc : cutS crcrS b with
  | none => rw [hc] at h; simp only at h; split at h <;> (try cases h); split at h <;> cases h
  | some xr =>
    obtain ⟨x, r'⟩ := xr
    rw [hc] at h
    rw [cutS_on q hc]
    have hl := cutS_lt hc
    have h4 : crcrS.length = 4 := rfl
    simp only at h ⊢
    split at h
    · cases h
    · rename_i hlim
      simp only [BR.ok.injEq] at h
      obtain ⟨rfl, rfl⟩ := h
      rw [if_neg hlim]
      exact ⟨rfl, by omega⟩
theorem blk_bad {limit : Nat} {b : List UInt8} {x : Int} (h : blkV limit b false = .bad x) (q : List UInt8) (e : Bool) : blkV limit (b ++ q) e = .bad 151 := by
  unfold blkV at h ⊢
  cases hc : cutS crcrS b with
  | none =>
    rw [hc] at h
    simp only at h
    split at h
    · rename_i hlim
      cases hc2 : cutS crcrS (b ++ q) with
      | none => simp only; rw [if_pos (by rw [List.length_append]; omega)]
      | some xr =>
        obtain ⟨x2, r2⟩ := xr
        simp only
        rw [if_pos]
        have h4 : crcrS.length = 4 := rfl
        rcases Nat.lt_or_ge limit (x2.length + 4) with h5 | h5
        · exact h5
        · obtain ⟨r3, h6, _⟩ := cutS_pre (q := q) hc2 (by omega)
          rw [h6] at hc; cases hc
    · rw [if_neg (by decide)] at h; cases h
  | some xr =>
    obtain ⟨x2, r2⟩ := xr
    rw [hc] at h
    rw [cutS_on q hc]
    simp only at h ⊢
    split at h
    · rename_i hlim; rw [if_pos hlim]
    · cases h
section
variable {q : List UInt8} {e : Bool}
theorem sim_wait {G : HSt → HSt × Out} {s : HSt} (hs : s.ended = false) {p2 : HSt × Out} (h : p2 = G (moreV q e s)) : Sim (moreV q e) G (waitV s) p2 := by
  unfold waitV Sim
  rw [hs]
  exact h
theorem sim_end (G : HSt → HSt × Out) (s : HSt) (l : List Fd) : Sim (moreV q e) G (endV s l) (endV (moreV q e s) l) := rfl
theorem take_min (n : Nat) (b q : List UInt8) : (b ++ q).take (min n (b ++ q).length) = b.take (min n b.length) ++ q.take (min n (b ++ q).length - min n b.length) := by
  rcases Nat.le_total n b.length with h | h
  · rw [Nat.min_eq_left h, Nat.min_eq_left (by rw [List.length_append]; omega), Nat.sub_self, List.take_append_of_le_length h]; simp
  · rw [Nat.min_eq_right h, List.take_append, List.take_of_length_le (l := b) (by rw [List.length_append]; omega), List.take_of_length_le (l := b) (Nat.le_refl _)]
theorem drop_min (n : Nat) (b q : List UInt8) (h : b.length ≤ n) : (b ++ q).drop (min n (b ++ q).length) = q.drop (min n (b ++ q).length - b.length) := by
  rw [List.drop_append, List.drop_eq_nil_of_le (by rw [List.length_append]; omega)]; rfl
/-- bytes that are left, taken -/
theorem sim_left {G : HSt → HSt × Out} (s : HSt) (hs : s.ended = false) (hp : ∀ t : HSt, t.stp = s.stp → 0 < t.left → G t = leftV t) (h0 : 0 < s.left) : Sim (moreV q e) G (leftV s) (leftV (moreV q e s)) := by
  by_cases hm : min s.left s.b.length = 0
  · have hw : leftV s = waitV s := by unfold leftV; rw [if_pos hm]
    rw [hw]
    exact sim_wait hs (hp (moreV q e s) rfl h0).symm
  · have hw : leftV s = ({ s with b := s.b.drop (min s.left s.b.length), left := s.left - min s.left s.b.length }, .ev (.data (s.b.take (min s.left s.b.length)))) := by unfold leftV; rw [if_neg hm]
    rw [hw]
    show _ ∨ _
    have hm2 : ¬ min s.left (s.b ++ q).length = 0 := by rw [List.length_append]; omega
    have hw2 : leftV (moreV q e s) = ({ moreV q e s with b := (s.b ++ q).drop (min s.left (s.b ++ q).length), left := s.left - min s.left (s.b ++ q).length }, .ev (.data ((s.b ++ q).take (min s.left (s.b ++ q).length)))) := by
      show leftV _ = _
      unfold leftV
      rw [moreV_b]
      show (if min s.left (s.b ++ q).length = 0 then _ else _) = _
      rw [if_neg hm2]
      rfl
    rcases Nat.le_total s.left s.b.length with h | h
    · refine .inl ?_
      rw [hw2, Nat.min_eq_left h, Nat.min_eq_left (by rw [List.length_append]; omega), List.take_append_of_le_length h, List.drop_append_of_le_length h]
      rfl
    · rw [Nat.min_eq_right h]
      rcases Nat.eq_zero_or_pos (min (s.left - s.b.length) q.length) with hz | hz
      · refine .inl ?_
        have e1 : min s.left (s.b ++ q).length = s.b.length := by rw [List.length_append]; omega
        rw [hw2, e1, List.take_append_of_le_length (Nat.le_refl _), List.drop_append_of_le_length (Nat.le_refl _)]
        rfl
      · refine .inr ⟨({ moreV q e s with b := (s.b ++ q).drop (min s.left (s.b ++ q).length), left := s.left - min s.left (s.b ++ q).length }), q.take (min (s.left - s.b.length) q.length), ?_, ?_⟩
        · have hg := hp (moreV q e { s with b := s.b.drop s.b.length, left := s.left - s.b.length }) rfl (by show 0 < s.left - s.b.length; omega)
          show G (moreV q e { s with b := s.b.drop s.b.length, left := s.left - s.b.length }) = _
          rw [hg]
          unfold leftV
          have e2 : (moreV q e { s with b := s.b.drop s.b.length, left := s.left - s.b.length }).b = q := by show s.b.drop s.b.length ++ q = q; rw [List.drop_length]; rfl
          have e3 : (moreV q e { s with b := s.b.drop s.b.length, left := s.left - s.b.length }).left = s.left - s.b.length := rfl
          rw [e2, e3, if_neg (by omega)]
          have e4 : q.drop (min (s.left - s.b.length) q.length) = (s.b ++ q).drop (min s.left (s.b ++ q).length) := by
            rw [drop_min _ _ _ h]; congr 1; rw [List.length_append]; omega
          have e5 : s.left - s.b.length - min (s.left - s.b.length) q.length = s.left - min s.left (s.b ++ q).length := by rw [List.length_append]; omega
          rw [e4, e5]
          rfl
        · rw [hw2, take_min, Nat.min_eq_right h, List.take_of_length_le (l := s.b) (Nat.le_refl _)]
          have e6 : min s.left (s.b ++ q).length - s.b.length = min (s.left - s.b.length) q.length := by rw [List.length_append]; omega
          rw [e6]
theorem headG_fuel (head : Bool) (limit : Nat) : ∀ (n m : Nat) (s : HSt), s.b.length < n → s.b.length < m → headG head limit n s = headG head limit m s
  | 0, _, _, h, _ => by omega
  | _, 0, _, _, h => by omega
  | n + 1, m + 1, s, h1, h2 => by
    unfold headG
    cases hb : blkV limit s.b s.ended with
    | wait => rfl
    | bad e => rfl
    | ok ls r =>
      have hl := (blk_ok hb [] s.ended).2
      simp only
      cases statusH (ls.headD []) with
      | bad e => rfl
      | ok v =>
        obtain ⟨st, old⟩ := v
        simp only
        cases fieldsH ls.tail with
        | bad e => rfl
        | ok l =>
          simp only
          cases frameH old l false none with
          | bad e => rfl
          | ok v =>
            obtain ⟨coded, size⟩ := v
            simp only
            split
            · rfl
            · exact headG_fuel head limit n m _ (by show r.length < n; omega) (by show r.length < m; omega)
theorem beginV_more (head : Bool) (s : HSt) (st : Nat) (coded : Bool) (size : Option Nat) : beginV head (moreV q e s) st coded size = moreV q e (beginV head s st coded size) := by
  unfold beginV
  split
  · rfl
  · split
    · rfl
    · cases size <;> rfl
theorem statusH_ne {l : List UInt8} {x : Int} (h : statusH l = .bad x) : x ≠ 0 := by
  unfold statusH at h
  split at h
  · cases h; decide
  · split at h
    · cases h; decide
    · split at h <;> cases h; decide
theorem fieldH_ne {l : List UInt8} {x : Int} (h : fieldH l = .bad x) : x ≠ 0 := by
  unfold fieldH at h
  split at h
  · cases h; decide
  · split at h
    · cases h; decide
    · split at h <;> cases h; decide
theorem fieldsH_ne : ∀ {ls : List (List UInt8)} {x : Int}, fieldsH ls = .bad x → x ≠ 0
  | [], x, h => by cases h
  | l :: r, x, h => by
    unfold fieldsH at h
    cases hf : fieldH l with
    | bad y => rw [hf] at h; cases h; exact fieldH_ne hf
    | ok f =>
      rw [hf] at h
      simp only at h
      cases hr : fieldsH r with
      | bad y => rw [hr] at h; cases h; exact fieldsH_ne hr
      | ok fs => rw [hr] at h; cases h
theorem frameH_ne (old : Bool) : ∀ {l : List Fd} {c : Bool} {z : Option Nat} {x : Int}, frameH old l c z = .bad x → x ≠ 0
  | [], c, z, x, h => by unfold frameH at h; split at h <;> cases h; decide
  | f :: r, c, z, x, h => by
    unfold frameH at h
    split at h
    · split at h
      · cases h; decide
      · exact frameH_ne old h
    · split at h
      · split at h
        · cases h; decide
        · split at h
          · cases h; decide
          · exact frameH_ne old h
      · exact frameH_ne old h
theorem sim_head (head : Bool) (limit : Nat) (G : HSt → HSt × Out) (hG : ∀ t : HSt, t.stp = .head → G t = headV head limit t) : ∀ (n : Nat) (s : HSt), s.b.length < n → s.ended = false → s.stp = .head →
    Sim (moreV q e) G (headV head limit s) (headV head limit (moreV q e s))
  | 0, s, h, _, _ => by omega
  | n + 1, s, h, hs, hst => by
    have e1 : headV head limit s = headG head limit (s.b.length + 1) s := rfl
    have e2 : headV head limit (moreV q e s) = headG head limit ((s.b ++ q).length + 1) (moreV q e s) := rfl
    cases hb : blkV limit s.b s.ended with
    | wait =>
      rw [e1]
      unfold headG
      rw [hb]
      exact (hG (moreV q e s) hst).symm
    | bad x =>
      have h2 : blkV limit (s.b ++ q) e = .bad 151 := blk_bad (by rw [← hs]; exact hb) q e
      rw [e1, e2]
      unfold headG
      rw [hb]
      show ∃ e', _
      rw [show (moreV q e s).b = s.b ++ q from rfl, show (moreV q e s).ended = e from rfl, h2]
      exact ⟨151, rfl, by decide⟩
    | ok ls r =>
      obtain ⟨h2, h3⟩ := blk_ok hb q e
      have h2' : blkV limit (moreV q e s).b (moreV q e s).ended = .ok ls (r ++ q) := h2
      rw [e1, e2]
      unfold headG
      rw [hb, h2']
      simp only
      cases hst2 : statusH (ls.headD []) with
      | bad x => exact ⟨x, rfl, statusH_ne hst2⟩
      | ok v =>
        obtain ⟨st, old⟩ := v
        simp only
        cases hfl : fieldsH ls.tail with
        | bad x => exact ⟨x, rfl, fieldsH_ne hfl⟩
        | ok l =>
          simp only
          cases hfr : frameH old l false none with
          | bad x => exact ⟨x, rfl, frameH_ne old hfr⟩
          | ok v =>
            obtain ⟨coded, size⟩ := v
            simp only
            have e3 : { moreV q e s with old := old, b := r ++ q } = moreV q e { s with old := old, b := r } := rfl
            rw [e3]
            by_cases h200 : 200 ≤ st
            · rw [if_pos h200, if_pos h200, beginV_more]
              rfl
            · rw [if_neg h200, if_neg h200]
              have ih := sim_head head limit G hG n { s with old := old, b := r } (by show r.length < n; omega) hs hst
              have f1 : headG head limit s.b.length { s with old := old, b := r } = headV head limit { s with old := old, b := r } := headG_fuel head limit _ _ _ (by show r.length < _; omega) (by show r.length < r.length + 1; omega)
              have f2 : headG head limit (s.b ++ q).length (moreV q e { s with old := old, b := r }) = headV head limit (moreV q e { s with old := old, b := r }) := headG_fuel head limit _ _ _ (by show (r ++ q).length < _; rw [List.length_append, List.length_append]; omega) (by show (r ++ q).length < (r ++ q).length + 1; omega)
              rw [f1, f2]
              exact ih
end
section
variable {q : List UInt8} {e : Bool} {head : Bool} {limit : Nat}
theorem sim_trail (s : HSt) (hs : s.ended = false) (hst : s.stp = .trailers) : Sim (moreV q e) (stepV head limit) (trailV limit s) (trailV limit (moreV q e s)) := by
  by_cases h2 : s.b.length < 2
  · have hp : crS.isPrefixOf s.b = false := by
      rw [Bool.eq_false_iff]
      intro h
      have := (List.isPrefixOf_iff_prefix.1 h).length_le
      have h3 : crS.length = 2 := rfl
      omega
    have e1 : trailV limit s = waitV s := by unfold trailV; rw [hp, if_neg (by decide), if_pos h2]
    rw [e1]
    refine sim_wait hs ?_
    unfold stepV
    rw [show (moreV q e s).stp = .trailers from hst]
  · have hp2 : crS.isPrefixOf (s.b ++ q) = crS.isPrefixOf s.b := pre_on q (by show 2 ≤ _; omega)
    have h2' : ¬ (s.b ++ q).length < 2 := by rw [List.length_append]; omega
    unfold trailV
    rw [moreV_b, hp2]
    by_cases hp : crS.isPrefixOf s.b = true
    · rw [if_pos hp, if_pos hp]
      have e3 : { moreV q e s with b := (s.b ++ q).drop 2 } = moreV q e { s with b := s.b.drop 2 } := by
        rw [List.drop_append_of_le_length (by omega)]; rfl
      rw [e3]
      exact sim_end _ _ _
    · rw [if_neg hp, if_neg hp, if_neg h2, if_neg h2']
      cases hb : blkV limit s.b s.ended with
      | wait =>
        have hg : stepV head limit (moreV q e s) = trailV limit (moreV q e s) := by
          unfold stepV
          rw [show (moreV q e s).stp = .trailers from hst]
        show _ = stepV head limit (moreV q e s)
        rw [hg]
        unfold trailV
        rw [moreV_b, hp2, if_neg hp, if_neg h2']
      | bad x =>
        rw [show (moreV q e s).ended = e from rfl, blk_bad (by rw [← hs]; exact hb) q e]
        exact ⟨151, rfl, by decide⟩
      | ok ls r =>
        rw [show (moreV q e s).ended = e from rfl, (blk_ok hb q e).1]
        simp only
        cases hfl : fieldsH ls with
        | bad x => exact ⟨x, rfl, fieldsH_ne hfl⟩
        | ok l =>
          simp only
          by_cases hbt : l.any badTr = true
          · rw [if_pos hbt, if_pos hbt]
            exact ⟨202, rfl, by decide⟩
          · rw [if_neg hbt, if_neg hbt]
            exact sim_end _ { s with b := r } _
theorem cut10 {b x r : List UInt8} (q : List UInt8) (h : cutL (b.take 10) = some (x, r)) : ∃ r', cutL ((b ++ q).take 10) = some (x, r') ∧ x.length + 2 ≤ b.length := by
  have hl := cut_lt h
  rw [List.length_take] at hl
  have e1 : (b ++ q).take 10 = b.take 10 ++ q.take (10 - b.length) := List.take_append
  exact ⟨r ++ q.take (10 - b.length), by rw [e1]; exact cut_on _ h, by omega⟩
theorem sim_chunk (s : HSt) (hs : s.ended = false) (hst : s.stp = .chunk) : Sim (moreV q e) (stepV head limit) (chunkV limit s) (chunkV limit (moreV q e s)) := by
  cases hc : cutL (s.b.take 10) with
  | none =>
    by_cases h9 : 9 < s.b.length
    · have e1 : chunkV limit s = (s, .bad 203) := by unfold chunkV; rw [hc]; simp only; rw [if_pos h9]
      have e2 : chunkV limit (moreV q e s) = (moreV q e s, .bad 203) := by
        unfold chunkV
        rw [moreV_b, List.take_append_of_le_length (by omega), hc]
        simp only
        rw [if_pos (by rw [List.length_append]; omega)]
      rw [e1, e2]
      exact ⟨203, rfl, by decide⟩
    · have e1 : chunkV limit s = waitV s := by unfold chunkV; rw [hc]; simp only; rw [if_neg h9]
      rw [e1]
      refine sim_wait hs ?_
      unfold stepV
      rw [show (moreV q e s).stp = .chunk from hst]
  | some xr =>
    obtain ⟨x, r⟩ := xr
    obtain ⟨r', hc2, hxl⟩ := cut10 q hc
    unfold chunkV
    rw [moreV_b, hc, hc2]
    simp only
    by_cases hx : x = []
    · rw [if_pos hx, if_pos hx]
      exact ⟨203, rfl, by decide⟩
    · rw [if_neg hx, if_neg hx]
      cases hexAc 0 x with
      | none => exact ⟨203, rfl, by decide⟩
      | some n =>
        simp only
        by_cases hn : n = 0
        · rw [if_pos hn, if_pos hn]
          have e3 : { moreV q e s with b := (s.b ++ q).drop (x.length + 2), stp := .trailers } = moreV q e { s with b := s.b.drop (x.length + 2), stp := .trailers } := by
            rw [List.drop_append_of_le_length hxl]; rfl
          rw [e3]
          exact sim_trail { s with b := s.b.drop (x.length + 2), stp := .trailers } hs rfl
        · rw [if_neg hn, if_neg hn]
          have e3 : { moreV q e s with b := (s.b ++ q).drop (x.length + 2), left := n, stp := .piece } = moreV q e { s with b := s.b.drop (x.length + 2), left := n, stp := .piece } := by
            rw [List.drop_append_of_le_length hxl]; rfl
          rw [e3]
          refine sim_left { s with b := s.b.drop (x.length + 2), left := n, stp := .piece } hs ?_ (by show 0 < n; omega)
          intro t ht hl
          unfold stepV
          rw [show t.stp = .piece from ht]
          simp only
          unfold pieceS
          rw [if_pos hl]
theorem atB_on {b : List UInt8} (q : List UInt8) {i : Nat} (h : i < b.length) : atB (b ++ q) i = atB b i := by
  unfold atB; rw [List.getElem?_append_left h]
theorem sim_pieceS (s : HSt) (hs : s.ended = false) (hst : s.stp = .piece) : Sim (moreV q e) (stepV head limit) (pieceS limit s) (pieceS limit (moreV q e s)) := by
  unfold pieceS
  rw [moreV_b, show (moreV q e s).left = s.left from rfl]
  by_cases h0 : 0 < s.left
  · rw [if_pos h0, if_pos h0]
    refine sim_left s hs ?_ h0
    intro t ht hl
    unfold stepV
    rw [show t.stp = .piece by rw [ht]; exact hst]
    simp only
    unfold pieceS
    rw [if_pos hl]
  · rw [if_neg h0, if_neg h0]
    by_cases hb : (0 < s.b.length ∧ atB s.b 0 ≠ 13) ∨ (1 < s.b.length ∧ atB s.b 1 ≠ 10)
    · have hb2 : (0 < (s.b ++ q).length ∧ atB (s.b ++ q) 0 ≠ 13) ∨ (1 < (s.b ++ q).length ∧ atB (s.b ++ q) 1 ≠ 10) := by
        rcases hb with ⟨h1, h2⟩ | ⟨h1, h2⟩
        · exact .inl ⟨by rw [List.length_append]; omega, by rw [atB_on q h1]; exact h2⟩
        · exact .inr ⟨by rw [List.length_append]; omega, by rw [atB_on q h1]; exact h2⟩
      rw [if_pos hb, if_pos hb2]
      exact ⟨203, rfl, by decide⟩
    · rw [if_neg hb]
      by_cases h2 : s.b.length < 2
      · rw [if_pos h2]
        refine sim_wait hs ?_
        unfold stepV
        rw [show (moreV q e s).stp = .piece from hst]
        simp only
        unfold pieceS
        rw [moreV_b, show (moreV q e s).left = s.left from rfl, if_neg h0]
      · have hb2 : ¬ ((0 < (s.b ++ q).length ∧ atB (s.b ++ q) 0 ≠ 13) ∨ (1 < (s.b ++ q).length ∧ atB (s.b ++ q) 1 ≠ 10)) := by
          rw [atB_on q (by omega), atB_on q (by omega)]
          rintro (⟨h1, h3⟩ | ⟨h1, h3⟩)
          · exact hb (.inl ⟨by omega, h3⟩)
          · exact hb (.inr ⟨by omega, h3⟩)
        rw [if_neg h2, if_neg hb2, if_neg (by rw [List.length_append]; omega)]
        have e3 : { moreV q e s with b := (s.b ++ q).drop 2, stp := .chunk } = moreV q e { s with b := s.b.drop 2, stp := .chunk } := by
          rw [List.drop_append_of_le_length (by omega)]; rfl
        show Sim _ _ _ (chunkV limit { moreV q e s with b := (s.b ++ q).drop 2, stp := .chunk })
        rw [e3]
        exact sim_chunk { s with b := s.b.drop 2, stp := .chunk } hs rfl
theorem sim_close (s : HSt) (hs : s.ended = false) (hst : s.stp = .close) : Sim (moreV q e) (stepV head limit) (pieceV s s.b.length) (stepV head limit (moreV q e s)) := by
  by_cases hb : s.b.length = 0
  · have e1 : pieceV s s.b.length = waitV s := by unfold pieceV; rw [if_pos (by omega)]
    rw [e1]
    exact sim_wait hs rfl
  · have e1 : pieceV s s.b.length = ({ s with b := [] }, .ev (.data s.b)) := by
      unfold pieceV
      rw [if_neg (by omega), Nat.min_self, List.drop_length, List.take_length]
    have hne : ¬ (e = true ∧ s.b ++ q = []) := by
      rintro ⟨_, h⟩
      have h3 : s.b.length + q.length = 0 := by rw [← List.length_append, h]; rfl
      omega
    have e2 : stepV head limit (moreV q e s) = ({ moreV q e s with b := [] }, .ev (.data (s.b ++ q))) := by
      unfold stepV
      rw [show (moreV q e s).stp = .close from hst]
      simp only
      rw [moreV_b, show (moreV q e s).ended = e from rfl, if_neg hne]
      unfold pieceV
      rw [moreV_b, if_neg (by rw [List.length_append]; omega), Nat.min_self, List.drop_length, List.take_length]
      rfl
    rw [e1, e2]
    show _ ∨ _
    by_cases hq : q = []
    · subst hq
      refine .inl ?_
      rw [List.append_nil]
      rfl
    · refine .inr ⟨{ moreV q e s with b := [] }, q, ?_, rfl⟩
      have hq1 : q.length ≠ 0 := fun h => hq (List.eq_nil_of_length_eq_zero h)
      show stepV head limit (moreV q e { s with b := [] }) = _
      unfold stepV
      rw [show (moreV q e { s with b := [] }).stp = .close from hst]
      simp only
      have eb : (moreV q e { s with b := [] }).b = q := rfl
      rw [eb, if_neg (by rintro ⟨_, h⟩; exact hq h)]
      unfold pieceV
      rw [eb, if_neg (by omega), Nat.min_self, List.drop_length, List.take_length]
      rfl
theorem sim_step (s : HSt) (hs : s.ended = false) : Sim (moreV q e) (stepV head limit) (stepV head limit s) (stepV head limit (moreV q e s)) := by
  cases hst : s.stp with
  | head =>
    have h1 : stepV head limit s = headV head limit s := by unfold stepV; rw [hst]
    have h2 : stepV head limit (moreV q e s) = headV head limit (moreV q e s) := by unfold stepV; rw [show (moreV q e s).stp = .head from hst]
    rw [h1, h2]
    exact sim_head head limit _ (fun t ht => by unfold stepV; rw [ht]) (s.b.length + 1) s (by omega) hs hst
  | nobody =>
    have h1 : stepV head limit s = endV s [] := by unfold stepV; rw [hst]
    have h2 : stepV head limit (moreV q e s) = endV (moreV q e s) [] := by unfold stepV; rw [show (moreV q e s).stp = .nobody from hst]
    rw [h1, h2]
    exact sim_end _ _ _
  | length =>
    have h1 : stepV head limit s = if s.left = 0 then endV s [] else leftV s := by unfold stepV; rw [hst]
    have h2 : stepV head limit (moreV q e s) = if s.left = 0 then endV (moreV q e s) [] else leftV (moreV q e s) := by unfold stepV; rw [show (moreV q e s).stp = .length from hst]; rfl
    rw [h1, h2]
    by_cases h0 : s.left = 0
    · rw [if_pos h0, if_pos h0]; exact sim_end _ _ _
    · rw [if_neg h0, if_neg h0]
      refine sim_left s hs ?_ (by omega)
      intro t ht hl
      unfold stepV
      rw [show t.stp = .length by rw [ht]; exact hst]
      simp only
      rw [if_neg (by omega)]
  | close =>
    have h1 : stepV head limit s = pieceV s s.b.length := by unfold stepV; rw [hst]; simp only; rw [if_neg (by rw [hs]; simp)]
    rw [h1]
    exact sim_close s hs hst
  | chunk =>
    have h1 : stepV head limit s = chunkV limit s := by unfold stepV; rw [hst]
    have h2 : stepV head limit (moreV q e s) = chunkV limit (moreV q e s) := by unfold stepV; rw [show (moreV q e s).stp = .chunk from hst]
    rw [h1, h2]
    exact sim_chunk s hs hst
  | piece =>
    have h1 : stepV head limit s = pieceS limit s := by unfold stepV; rw [hst]
    have h2 : stepV head limit (moreV q e s) = pieceS limit (moreV q e s) := by unfold stepV; rw [show (moreV q e s).stp = .piece from hst]
    rw [h1, h2]
    exact sim_pieceS s hs hst
  | trailers =>
    have h1 : stepV head limit s = trailV limit s := by unfold stepV; rw [hst]
    have h2 : stepV head limit (moreV q e s) = trailV limit (moreV q e s) := by unfold stepV; rw [show (moreV q e s).stp = .trailers from hst]
    rw [h1, h2]
    exact sim_trail s hs hst
end
/-- what became of the bytes -/
structure Rs where
  hd : Option (Nat × List Fd × Int)
  body : List UInt8
  tr : List Fd
def Rs.add (a : Rs) : HEv → Rs
  | .head st l fr => { a with hd := some (st, l, fr) }
  | .data d => { a with body := a.body ++ d }
  | .fin l => { a with tr := l }
theorem Rs.add_data (a : Rs) (d x : List UInt8) : (a.add (.data d)).add (.data x) = a.add (.data (d ++ x)) := by simp [Rs.add]
/-- Next again and again, until it tells nothing or an error -/
def runG (head : Bool) (limit : Nat) : Nat → HSt → Rs → HSt × Rs
  | 0, s, a => (s, a)
  | k + 1, s, a => match nextV head limit s with
    | (s', .ev E) => runG head limit k s' (a.add E)
    | (s', .none) => (s', a)
    | (s', .bad _) => (s', a)
/-- how many events there can be -/
def mu (s : HSt) : Nat := 2 * s.b.length + (if s.done = true then 0 else 1)
/-- what an event costs -/
def Less (s : HSt) (p : HSt × Out) : Prop := ∀ E, p.2 = .ev E → mu p.1 < mu s ∧ p.1.fault = s.fault
/-- no more bytes than there were, done as before, or the end -/
def Shr (s : HSt) (p : HSt × Out) : Prop := match p.2 with
  | .ev (.fin _) => p.1.done = true ∧ p.1.b.length ≤ s.b.length ∧ p.1.fault = s.fault
  | .ev _ => p.1.b.length < s.b.length ∧ p.1.done = s.done ∧ p.1.fault = s.fault
  | _ => p.1.done = s.done ∧ p.1.fault = s.fault ∧ p.1.ended = s.ended
theorem shr_mono {s t : HSt} {p : HSt × Out} (h : Shr t p) (hb : t.b.length ≤ s.b.length) (hd : t.done = s.done) (hf : t.fault = s.fault) (he : t.ended = s.ended) : Shr s p := by
  unfold Shr at h ⊢
  split at h
  · exact ⟨h.1, Nat.le_trans h.2.1 hb, by rw [h.2.2, hf]⟩
  · exact ⟨by omega, by rw [h.2.1, hd], by rw [h.2.2, hf]⟩
  · exact ⟨by rw [h.1, hd], by rw [h.2.1, hf], by rw [h.2.2, he]⟩
theorem shr_wait (s : HSt) : Shr s (waitV s) := by
  unfold waitV
  by_cases h : s.ended = true
  · rw [if_pos h]; exact ⟨rfl, rfl, rfl⟩
  · rw [if_neg h]; exact ⟨rfl, rfl, rfl⟩
theorem shr_end (s : HSt) (l : List Fd) : Shr s (endV s l) := ⟨rfl, Nat.le_refl _, rfl⟩
theorem shr_left (s : HSt) : Shr s (leftV s) := by
  unfold leftV
  split
  · exact shr_wait s
  · rename_i h
    exact ⟨by show (s.b.drop _).length < _; rw [List.length_drop]; omega, rfl, rfl⟩
theorem shr_piece (s : HSt) (n : Nat) : Shr s (pieceV s n) := by
  unfold pieceV
  split
  · exact shr_wait s
  · rename_i h
    exact ⟨by show (s.b.drop _).length < _; rw [List.length_drop]; omega, rfl, rfl⟩
theorem begin_same (head : Bool) (s : HSt) (st : Nat) (coded : Bool) (size : Option Nat) : (beginV head s st coded size).b = s.b ∧ (beginV head s st coded size).done = s.done ∧ (beginV head s st coded size).fault = s.fault ∧ (beginV head s st coded size).ended = s.ended := by
  unfold beginV
  split
  · exact ⟨rfl, rfl, rfl, rfl⟩
  · split
    · exact ⟨rfl, rfl, rfl, rfl⟩
    · cases size <;> exact ⟨rfl, rfl, rfl, rfl⟩
theorem shr_head (head : Bool) (limit : Nat) : ∀ (n : Nat) (s : HSt), Shr s (headG head limit n s)
  | 0, s => ⟨rfl, rfl, rfl⟩
  | n + 1, s => by
    unfold headG
    cases hb : blkV limit s.b s.ended with
    | wait => exact ⟨rfl, rfl, rfl⟩
    | bad x => exact ⟨rfl, rfl, rfl⟩
    | ok ls r =>
      have hl := (blk_ok hb [] s.ended).2
      simp only
      cases statusH (ls.headD []) with
      | bad x => exact ⟨rfl, rfl, rfl⟩
      | ok v =>
        obtain ⟨st, old⟩ := v
        simp only
        cases fieldsH ls.tail with
        | bad x => exact ⟨rfl, rfl, rfl⟩
        | ok l =>
          simp only
          cases frameH old l false none with
          | bad x => exact ⟨rfl, rfl, rfl⟩
          | ok v =>
            obtain ⟨coded, size⟩ := v
            simp only
            split
            · obtain ⟨h1, h2, h3, h4⟩ := begin_same head { s with old := old, b := r } st coded size
              exact ⟨by rw [h1]; show r.length < _; omega, by rw [h2], by rw [h3]⟩
            · exact shr_mono (shr_head head limit n _) (by show r.length ≤ _; omega) rfl rfl rfl
theorem shr_trail (limit : Nat) (s : HSt) : Shr s (trailV limit s) := by
  unfold trailV
  split
  · exact ⟨rfl, by show (s.b.drop 2).length ≤ _; rw [List.length_drop]; omega, rfl⟩
  · split
    · exact shr_wait s
    · cases hb : blkV limit s.b s.ended with
      | wait => exact ⟨rfl, rfl, rfl⟩
      | bad x => exact ⟨rfl, rfl, rfl⟩
      | ok ls r =>
        have hl := (blk_ok hb [] s.ended).2
        simp only
        cases fieldsH ls with
        | bad x => exact ⟨rfl, rfl, rfl⟩
        | ok l =>
          simp only
          split
          · exact ⟨rfl, rfl, rfl⟩
          · exact ⟨rfl, by show r.length ≤ _; omega, rfl⟩
theorem shr_chunk (limit : Nat) (s : HSt) : Shr s (chunkV limit s) := by
  unfold chunkV
  cases hc : cutL (s.b.take 10) with
  | none =>
    simp only
    split
    · exact ⟨rfl, rfl, rfl⟩
    · exact shr_wait s
  | some xr =>
    obtain ⟨x, r⟩ := xr
    simp only
    split
    · exact ⟨rfl, rfl, rfl⟩
    · cases hexAc 0 x with
      | none => exact ⟨rfl, rfl, rfl⟩
      | some n =>
        simp only
        have hd : (s.b.drop (x.length + 2)).length ≤ s.b.length := by rw [List.length_drop]; omega
        split
        · exact shr_mono (shr_trail limit _) hd rfl rfl rfl
        · exact shr_mono (shr_left _) hd rfl rfl rfl
theorem shr_step (head : Bool) (limit : Nat) (s : HSt) : Shr s (stepV head limit s) := by
  unfold stepV
  split
  · exact shr_head head limit _ s
  · exact shr_end s []
  · split
    · exact shr_end s []
    · exact shr_left s
  · split
    · exact shr_end s []
    · exact shr_piece s _
  · exact shr_chunk limit s
  · unfold pieceS
    split
    · exact shr_left s
    · split
      · exact ⟨rfl, rfl, rfl⟩
      · split
        · exact shr_wait s
        · exact shr_mono (shr_chunk limit _) (by show (s.b.drop 2).length ≤ _; rw [List.length_drop]; omega) rfl rfl rfl
  · exact shr_trail limit s
theorem wait_bad {s s' : HSt} {x : Int} (h : waitV s = (s', .bad x)) : x = 204 := by
  unfold waitV at h
  split at h <;> simp only [Prod.mk.injEq] at h <;> obtain ⟨_, h⟩ := h <;> cases h
  rfl
theorem left_bad {s s' : HSt} {x : Int} (h : leftV s = (s', .bad x)) : x = 204 := by
  unfold leftV at h
  split at h
  · exact wait_bad h
  · simp at h
theorem blk_ne {limit : Nat} {b : List UInt8} {e : Bool} {x : Int} (h : blkV limit b e = .bad x) : x ≠ 0 := by
  unfold blkV at h
  split at h
  · split at h
    · cases h; decide
    · split at h <;> cases h; decide
  · split at h <;> cases h; decide
theorem trail_ne {limit : Nat} {s s' : HSt} {x : Int} (h : trailV limit s = (s', .bad x)) : x ≠ 0 := by
  unfold trailV at h
  split at h
  · simp [endV] at h
  · split at h
    · rw [wait_bad h]; decide
    · cases hb : blkV limit s.b s.ended with
      | wait => rw [hb] at h; simp at h
      | bad y => rw [hb] at h; simp only [Prod.mk.injEq] at h; obtain ⟨_, h⟩ := h; cases h; exact blk_ne hb
      | ok ls r =>
        rw [hb] at h
        simp only at h
        cases hf : fieldsH ls with
        | bad y => rw [hf] at h; simp only [Prod.mk.injEq] at h; obtain ⟨_, h⟩ := h; cases h; exact fieldsH_ne hf
        | ok l =>
          rw [hf] at h
          simp only at h
          split at h
          · simp only [Prod.mk.injEq] at h; obtain ⟨_, h⟩ := h; cases h; decide
          · simp [endV] at h
theorem chunk_ne {limit : Nat} {s s' : HSt} {x : Int} (h : chunkV limit s = (s', .bad x)) : x ≠ 0 := by
  unfold chunkV at h
  cases hc : cutL (s.b.take 10) with
  | none =>
    rw [hc] at h
    simp only at h
    split at h
    · simp only [Prod.mk.injEq] at h; obtain ⟨_, h⟩ := h; cases h; decide
    · rw [wait_bad h]; decide
  | some xr =>
    obtain ⟨y, r⟩ := xr
    rw [hc] at h
    simp only at h
    split at h
    · simp only [Prod.mk.injEq] at h; obtain ⟨_, h⟩ := h; cases h; decide
    · cases hh : hexAc 0 y with
      | none => rw [hh] at h; simp only [Prod.mk.injEq] at h; obtain ⟨_, h⟩ := h; cases h; decide
      | some n =>
        rw [hh] at h
        simp only at h
        split at h
        · exact trail_ne h
        · rw [left_bad h]; decide
theorem head_ne' (head : Bool) (limit : Nat) : ∀ (n : Nat) (s s' : HSt) (x : Int), headG head limit n s = (s', .bad x) → x ≠ 0
  | 0, s, s', x, h => by simp [headG] at h
  | n + 1, s, s', x, h => by
    unfold headG at h
    cases hb : blkV limit s.b s.ended with
    | wait => rw [hb] at h; simp at h
    | bad y => rw [hb] at h; simp only [Prod.mk.injEq] at h; obtain ⟨_, h⟩ := h; cases h; exact blk_ne hb
    | ok ls r =>
      rw [hb] at h
      simp only at h
      cases hs : statusH (ls.headD []) with
      | bad y => rw [hs] at h; simp only [Prod.mk.injEq] at h; obtain ⟨_, h⟩ := h; cases h; exact statusH_ne hs
      | ok v =>
        obtain ⟨st, old⟩ := v
        rw [hs] at h
        simp only at h
        cases hf : fieldsH ls.tail with
        | bad y => rw [hf] at h; simp only [Prod.mk.injEq] at h; obtain ⟨_, h⟩ := h; cases h; exact fieldsH_ne hf
        | ok l =>
          rw [hf] at h
          simp only at h
          cases hr : frameH old l false none with
          | bad y => rw [hr] at h; simp only [Prod.mk.injEq] at h; obtain ⟨_, h⟩ := h; cases h; exact frameH_ne old hr
          | ok v =>
            obtain ⟨coded, size⟩ := v
            rw [hr] at h
            simp only at h
            split at h
            · simp at h
            · exact head_ne' head limit n _ _ _ h
theorem step_bad_ne {head : Bool} {limit : Nat} {s s' : HSt} {x : Int} (h : stepV head limit s = (s', .bad x)) : x ≠ 0 := by
  unfold stepV at h
  split at h
  · exact head_ne' head limit _ _ _ _ h
  · simp [endV] at h
  · split at h
    · simp [endV] at h
    · rw [left_bad h]; decide
  · split at h
    · simp [endV] at h
    · unfold pieceV at h
      split at h
      · rw [wait_bad h]; decide
      · simp at h
  · exact chunk_ne h
  · unfold pieceS at h
    split at h
    · rw [left_bad h]; decide
    · split at h
      · simp only [Prod.mk.injEq] at h; obtain ⟨_, h⟩ := h; cases h; decide
      · split at h
        · rw [wait_bad h]; decide
        · exact chunk_ne h
  · exact trail_ne h
/-- a step never ends the bytes -/
theorem end_ended (s : HSt) (l : List Fd) : (endV s l).1.ended = s.ended := rfl
theorem wait_ended (s : HSt) : (waitV s).1.ended = s.ended := rfl
theorem left_ended (s : HSt) : (leftV s).1.ended = s.ended := by unfold leftV; split <;> rfl
theorem piece_ended (s : HSt) (n : Nat) : (pieceV s n).1.ended = s.ended := by unfold pieceV; split <;> rfl
theorem trail_ended (limit : Nat) (s : HSt) : (trailV limit s).1.ended = s.ended := by
  unfold trailV
  split
  · rfl
  · split
    · rfl
    · cases blkV limit s.b s.ended with
      | wait => rfl
      | bad y => rfl
      | ok ls r =>
        simp only
        cases fieldsH ls with
        | bad y => rfl
        | ok l => simp only; split <;> rfl
theorem chunk_ended (limit : Nat) (s : HSt) : (chunkV limit s).1.ended = s.ended := by
  unfold chunkV
  cases cutL (s.b.take 10) with
  | none => simp only; split <;> rfl
  | some xr =>
    obtain ⟨y, r⟩ := xr
    simp only
    split
    · rfl
    · cases hexAc 0 y with
      | none => rfl
      | some n =>
        simp only
        split
        · exact trail_ended limit _
        · exact left_ended _
theorem head_ended (head : Bool) (limit : Nat) : ∀ (n : Nat) (s : HSt), (headG head limit n s).1.ended = s.ended
  | 0, s => rfl
  | n + 1, s => by
    unfold headG
    cases blkV limit s.b s.ended with
    | wait => rfl
    | bad y => rfl
    | ok ls r =>
      simp only
      cases statusH (ls.headD []) with
      | bad y => rfl
      | ok v =>
        obtain ⟨st, old⟩ := v
        simp only
        cases fieldsH ls.tail with
        | bad y => rfl
        | ok l =>
          simp only
          cases frameH old l false none with
          | bad y => rfl
          | ok v =>
            obtain ⟨coded, size⟩ := v
            simp only
            split
            · exact (begin_same head { s with old := old, b := r } st coded size).2.2.2
            · exact head_ended head limit n _
theorem step_ended' (head : Bool) (limit : Nat) (s : HSt) : (stepV head limit s).1.ended = s.ended := by
  unfold stepV
  split
  · exact head_ended head limit _ s
  · rfl
  · split
    · rfl
    · exact left_ended s
  · split
    · rfl
    · exact piece_ended s _
  · exact chunk_ended limit s
  · unfold pieceS
    split
    · exact left_ended s
    · split
      · rfl
      · split
        · rfl
        · exact chunk_ended limit _
  · exact trail_ended limit s
theorem step_ended {head : Bool} {limit : Nat} {s s' : HSt} {o : Out} (h : stepV head limit s = (s', o)) : s'.ended = s.ended := by
  have := step_ended' head limit s
  rw [h] at this
  exact this
theorem step_less {head : Bool} {limit : Nat} {s : HSt} (hd : s.done = false) : Less s (stepV head limit s) := by
  intro E hE
  have h := shr_step head limit s
  unfold Shr at h
  rw [hE] at h
  unfold mu
  cases E with
  | fin l =>
    obtain ⟨h1, h2, h3⟩ := h
    rw [h1, hd, if_pos rfl, if_neg (by decide)]
    exact ⟨by omega, h3⟩
  | head a b c =>
    obtain ⟨h1, h2, h3⟩ := h
    rw [h2]
    exact ⟨by omega, h3⟩
  | data d =>
    obtain ⟨h1, h2, h3⟩ := h
    rw [h2]
    exact ⟨by omega, h3⟩
theorem next_step {head : Bool} {limit : Nat} {s : HSt} (hd : s.done = false) (hf : s.fault = 0) : nextV head limit s = match stepV head limit s with
    | (s', .bad e) => ({ s' with fault := e }, .bad e)
    | p => p := by
  have hc : ¬ (s.done = true ∨ s.fault ≠ 0) := by
    rintro (h | h)
    · rw [hd] at h; cases h
    · exact h hf
  unfold nextV
  rw [if_neg hc]
theorem next_ev {head : Bool} {limit : Nat} {s s' : HSt} {E : HEv} (hd : s.done = false) (hf : s.fault = 0) (h : stepV head limit s = (s', .ev E)) : nextV head limit s = (s', .ev E) := by rw [next_step hd hf, h]
theorem next_none {head : Bool} {limit : Nat} {s s' : HSt} (hd : s.done = false) (hf : s.fault = 0) (h : stepV head limit s = (s', .none)) : nextV head limit s = (s', .none) := by rw [next_step hd hf, h]
theorem next_bad {head : Bool} {limit : Nat} {s s' : HSt} {x : Int} (hd : s.done = false) (hf : s.fault = 0) (h : stepV head limit s = (s', .bad x)) : nextV head limit s = ({ s' with fault := x }, .bad x) := by rw [next_step hd hf, h]
theorem next_done {head : Bool} {limit : Nat} {s : HSt} (hd : s.done = true) (hf : s.fault = 0) : nextV head limit s = (s, .none) := by
  unfold nextV; rw [if_pos (.inl hd), if_pos hf]
theorem run_fuel (head : Bool) (limit : Nat) : ∀ (n m : Nat) (s : HSt) (a : Rs), s.fault = 0 → mu s < n → mu s < m → runG head limit n s a = runG head limit m s a
  | 0, _, _, _, _, h, _ => by omega
  | _, 0, _, _, _, _, h => by omega
  | n + 1, m + 1, s, a, hf, h1, h2 => by
    unfold runG
    by_cases hd : s.done = true
    · rw [next_done hd hf]
    · have hd' : s.done = false := by simpa using hd
      rcases hst : stepV head limit s with ⟨s', o⟩
      cases o with
      | none => rw [next_none hd' hf hst]
      | bad x => rw [next_bad hd' hf hst]
      | ev E =>
        rw [next_ev hd' hf hst]
        have hl := step_less (head := head) (limit := limit) hd' E (by rw [hst])
        rw [hst] at hl
        exact run_fuel head limit n m s' _ (by rw [hl.2, hf]) (by have := hl.1; simp only at this; omega) (by have := hl.1; simp only at this; omega)
/-- the whole run -/
def runV (head : Bool) (limit : Nat) (s : HSt) (a : Rs) : HSt × Rs := runG head limit (mu s + 1) s a
theorem run_ev {head : Bool} {limit : Nat} {s s' : HSt} {E : HEv} (a : Rs) (hd : s.done = false) (hf : s.fault = 0) (h : stepV head limit s = (s', .ev E)) : runV head limit s a = runV head limit s' (a.add E) := by
  have hl := step_less (head := head) (limit := limit) hd E (by rw [h])
  rw [h] at hl
  unfold runV
  rw [runG, next_ev hd hf h]
  exact run_fuel head limit _ _ s' _ (by rw [hl.2, hf]) (by have := hl.1; simp only at this; omega) (by omega)
theorem run_none {head : Bool} {limit : Nat} {s s' : HSt} (a : Rs) (hd : s.done = false) (hf : s.fault = 0) (h : stepV head limit s = (s', .none)) : runV head limit s a = (s', a) := by
  unfold runV
  rw [runG, next_none hd hf h]
theorem run_bad {head : Bool} {limit : Nat} {s s' : HSt} {x : Int} (a : Rs) (hd : s.done = false) (hf : s.fault = 0) (h : stepV head limit s = (s', .bad x)) : runV head limit s a = ({ s' with fault := x }, a) := by
  unfold runV
  rw [runG, next_bad hd hf h]
theorem run_done {head : Bool} {limit : Nat} {s : HSt} (a : Rs) (hd : s.done = true) (hf : s.fault = 0) : runV head limit s a = (s, a) := by
  unfold runV
  rw [runG, next_done hd hf]
/-- a run, then more bytes: as if the bytes had come at once -/
theorem run_more (head : Bool) (limit : Nat) (q : List UInt8) (e : Bool) : ∀ (n : Nat) (s : HSt) (a : Rs), mu s < n → s.ended = false → s.fault = 0 →
    ((runV head limit s a).1.fault ≠ 0 → (runV head limit (moreV q e s) a).1.fault ≠ 0) ∧
    ((runV head limit s a).1.fault = 0 → runV head limit (moreV q e s) a = runV head limit (moreV q e (runV head limit s a).1) (runV head limit s a).2)
  | 0, s, a, h, _, _ => by omega
  | n + 1, s, a, hn, hs, hf => by
    by_cases hd : s.done = true
    · rw [run_done a hd hf]
      exact ⟨fun h => absurd hf h, fun _ => rfl⟩
    · have hd' : s.done = false := by simpa using hd
      have hdm : (moreV q e s).done = false := hd'
      have hfm : (moreV q e s).fault = 0 := hf
      have hsim := sim_step (q := q) (e := e) (head := head) (limit := limit) s hs
      have hshr := shr_step head limit s
      rcases hst : stepV head limit s with ⟨s', o⟩
      rw [hst] at hsim hshr
      cases o with
      | none =>
        obtain ⟨k1, k2, k3⟩ := hshr
        have h2 : stepV head limit (moreV q e s) = stepV head limit (moreV q e s') := hsim
        have e1 : runV head limit (moreV q e s) a = runV head limit (moreV q e s') a := by
          have hd2 : (moreV q e s').done = false := by show s'.done = false; rw [k1]; exact hd'
          have hf2 : (moreV q e s').fault = 0 := by show s'.fault = 0; rw [k2]; exact hf
          rcases h3 : stepV head limit (moreV q e s') with ⟨t, o⟩
          rw [h3] at h2
          cases o with
          | none => rw [run_none a hdm hfm h2, run_none a hd2 hf2 h3]
          | bad x => rw [run_bad a hdm hfm h2, run_bad a hd2 hf2 h3]
          | ev E => rw [run_ev a hdm hfm h2, run_ev a hd2 hf2 h3]
        rw [run_none a hd' hf hst]
        exact ⟨fun h => absurd (k2.trans hf) h, fun _ => e1⟩
      | bad x =>
        obtain ⟨x', h2, hx⟩ := hsim
        rw [run_bad a hd' hf hst]
        refine ⟨fun _ => ?_, fun h0 => ?_⟩
        · rcases h3 : stepV head limit (moreV q e s) with ⟨t, o⟩
          rw [h3] at h2
          simp only at h2
          subst h2
          rw [run_bad a hdm hfm h3]
          exact hx
        · exfalso
          have := step_bad_ne hst
          exact this h0
      | ev E =>
        have hl := step_less (head := head) (limit := limit) hd' E (by rw [hst])
        rw [hst] at hl
        have hf' : s'.fault = 0 := by rw [hl.2, hf]
        have he' : s'.ended = false := by rw [step_ended hst]; exact hs
        have ih := run_more head limit q e n s' (a.add E) (by have := hl.1; simp only at this; omega) he' hf'
        rw [run_ev a hd' hf hst]
        have key : runV head limit (moreV q e s) a = runV head limit (moreV q e s') (a.add E) := by
          cases E with
          | head x y z => exact run_ev a hdm hfm hsim
          | fin l => exact run_ev a hdm hfm hsim
          | data d =>
            rcases hsim with h2 | ⟨s'', x, h2, h3⟩
            · exact run_ev a hdm hfm h2
            · have hd2 : (moreV q e s').done = false := by
                have : s'.done = s.done := hshr.2.1
                show s'.done = false
                rw [this]; exact hd'
              rw [run_ev a hdm hfm h3, run_ev (a.add (.data d)) hd2 (show (moreV q e s').fault = 0 from hf') h2, Rs.add_data]
        rw [key]
        exact ih
end Go.Proofs.YtfffefhchjnfjaaGreatDoor

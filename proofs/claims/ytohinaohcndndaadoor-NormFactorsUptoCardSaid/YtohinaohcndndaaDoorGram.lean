/- The grammar of requests as a function on texts, and what is read back of a head, its body, its chunks. Plain. -/
import Derived.Test.YtohinaohcndndaaDoorChk5
import Derived.Test.YtohinaohcndndaaDoorNmHead
import Derived.Test.YtohinaohcndndaaDoorDigits
namespace Go.Proofs.YtohinaohcndndaaDoor
open Go.RowKit


/-- a text cut behind its first line's end -/
def cutL : List UInt8 → Option (List UInt8 × List UInt8)
  | [] => none
  | [_] => none
  | a :: b :: r => if a = 13 ∧ b = 10 then some ([], r) else (cutL (b :: r)).map fun p => (a :: p.1, p.2)
theorem cut_eq : ∀ {l x r : List UInt8}, cutL l = some (x, r) → l = x ++ 13 :: 10 :: r
  | [], x, r, h => by simp [cutL] at h
  | [_], x, r, h => by simp [cutL] at h
  | a :: b :: l, x, r, h => by
    unfold cutL at h
    split at h
    · rename_i hc
      simp only [Option.some.injEq, Prod.mk.injEq] at h
      obtain ⟨rfl, rfl⟩ := h
      rw [hc.1, hc.2]; rfl
    · simp only [Option.map_eq_some_iff, Prod.mk.injEq] at h
      obtain ⟨⟨x', r'⟩, h1, rfl, rfl⟩ := h
      rw [cut_eq h1]; rfl
theorem cut_made : ∀ {x : List UInt8} (r : List UInt8), (∀ b ∈ x, b ≠ 13) → cutL (x ++ 13 :: 10 :: r) = some (x, r)
  | [], r, _ => by simp [cutL]
  | [a], r, h => by
    have ha := h a (by simp)
    show cutL (a :: 13 :: 10 :: r) = _
    unfold cutL
    rw [if_neg (by rintro ⟨h1, _⟩; exact ha h1)]
    have e : cutL (13 :: 10 :: r) = some ([], r) := by simp [cutL]
    rw [e]; rfl
  | a :: b :: x, r, h => by
    have ha := h a (by simp)
    have ih := cut_made (x := b :: x) r (fun c hc => h c (by simp at hc ⊢; exact .inr hc))
    show cutL (a :: b :: (x ++ 13 :: 10 :: r)) = _
    unfold cutL
    rw [if_neg (by rintro ⟨h1, _⟩; exact ha h1)]
    have e : cutL (b :: (x ++ 13 :: 10 :: r)) = some (b :: x, r) := ih
    rw [e]; rfl
theorem cut_on : ∀ {p x r : List UInt8} (q : List UInt8), cutL p = some (x, r) → cutL (p ++ q) = some (x, r ++ q)
  | [], x, r, q, h => by simp [cutL] at h
  | [_], x, r, q, h => by simp [cutL] at h
  | a :: b :: l, x, r, q, h => by
    unfold cutL at h
    show cutL (a :: b :: (l ++ q)) = _
    unfold cutL
    split at h
    · rename_i hc
      simp only [Option.some.injEq, Prod.mk.injEq] at h
      obtain ⟨rfl, rfl⟩ := h
      rw [if_pos hc]
    · rename_i hc
      simp only [Option.map_eq_some_iff, Prod.mk.injEq] at h
      obtain ⟨⟨x', r'⟩, h1, rfl, rfl⟩ := h
      rw [if_neg hc]
      have ih := cut_on q h1
      have e : cutL (b :: (l ++ q)) = some (x', r' ++ q) := ih
      rw [e]; rfl
theorem cut_lt {l x r : List UInt8} (h : cutL l = some (x, r)) : x.length + 2 + r.length = l.length := by
  rw [cut_eq h]; simp; omega
/-- a text cut at its first byte c -/
def cutAt (c : UInt8) : List UInt8 → Option (List UInt8 × List UInt8)
  | [] => none
  | b :: r => if b = c then some ([], r) else (cutAt c r).map fun p => (b :: p.1, p.2)
theorem cutAt_made {c : UInt8} : ∀ {x : List UInt8} (r : List UInt8), (∀ b ∈ x, b ≠ c) → cutAt c (x ++ c :: r) = some (x, r)
  | [], r, _ => by simp [cutAt]
  | a :: x, r, h => by
    show cutAt c (a :: (x ++ c :: r)) = _
    unfold cutAt
    rw [if_neg (h a (by simp)), cutAt_made r (fun b hb => h b (by simp [hb]))]
    rfl
/-- a field's line -/
def fd0 : Fd := ⟨strB [], strB []⟩
def fieldV (l : List UInt8) : Fd × Bool := match cutAt 58 l with
  | none => (fd0, false)
  | some (a, b) => (⟨strB (smallL a), strB (trimL b)⟩, tokenL a && valueL (trimL b))
/-- fields up to an empty line, and what stands behind it -/
inductive FR where
  | short
  | bad
  | ok (l : List Fd) (r : List UInt8)
def FR.cons (f : Fd) : FR → FR
  | .ok l r => .ok (f :: l) r
  | .short => .short
  | .bad => .bad
def fldsG : Nat → List UInt8 → FR
  | 0, _ => .short
  | n + 1, l => match cutL l with
    | none => .short
    | some (x, r) => if x = [] then .ok [] r else if (fieldV x).2 = false then .bad else (fldsG n r).cons (fieldV x).1
def fldsL (l : List UInt8) : FR := fldsG (l.length + 1) l
theorem fldsG_fuel : ∀ (n m : Nat) (l : List UInt8), l.length < n → l.length < m → fldsG n l = fldsG m l
  | 0, _, _, h, _ => by omega
  | _, 0, _, _, h => by omega
  | n + 1, m + 1, l, h1, h2 => by
    unfold fldsG
    split
    · rfl
    · rename_i x r hc
      have := cut_lt hc
      rw [fldsG_fuel n m r (by omega) (by omega)]
theorem fldsL_none {l : List UInt8} (h : cutL l = none) : fldsL l = .short := by
  unfold fldsL fldsG; rw [h]
theorem fldsL_end {l r : List UInt8} (h : cutL l = some ([], r)) : fldsL l = .ok [] r := by
  unfold fldsL fldsG; rw [h]; rfl
theorem fldsL_bad {l x r : List UInt8} (h : cutL l = some (x, r)) (hx : x ≠ []) (hb : (fieldV x).2 = false) : fldsL l = .bad := by
  unfold fldsL fldsG; rw [h]; simp only [if_neg hx, if_pos hb]
theorem fldsL_cons {l x r : List UInt8} (h : cutL l = some (x, r)) (hx : x ≠ []) (hb : (fieldV x).2 = true) : fldsL l = (fldsL r).cons (fieldV x).1 := by
  have := cut_lt h
  have e : fldsL r = fldsG l.length r := fldsG_fuel _ _ _ (by omega) (by omega)
  rw [e]
  unfold fldsL
  rw [fldsG, h]
  have hb2 : ¬ (fieldV x).2 = false := by rw [hb]; decide
  simp only [if_neg hx, if_neg hb2]
/-- what stands behind makes no difference -/
theorem flds_on (q : List UInt8) : ∀ (n : Nat) (p : List UInt8), p.length < n → (∀ l r, fldsL p = .ok l r → fldsL (p ++ q) = .ok l (r ++ q)) ∧ (fldsL p = .bad → fldsL (p ++ q) = .bad)
  | 0, p, h => by omega
  | n + 1, p, h => by
    cases hc : cutL p with
    | none => rw [fldsL_none hc]; exact ⟨fun _ _ h => (by cases h), fun h => by cases h⟩
    | some xr =>
      obtain ⟨x, r⟩ := xr
      have hc2 := cut_on q hc
      have hl := cut_lt hc
      by_cases hx : x = []
      · subst hx
        rw [fldsL_end hc, fldsL_end hc2]
        exact ⟨fun l r h => by cases h; rfl, fun h => by cases h⟩
      · cases hb : (fieldV x).2 with
        | false => rw [fldsL_bad hc hx hb, fldsL_bad hc2 hx hb]; exact ⟨fun _ _ h => (by cases h), fun _ => rfl⟩
        | true =>
          rw [fldsL_cons hc hx hb, fldsL_cons hc2 hx hb]
          obtain ⟨i1, i2⟩ := flds_on q n r (by omega)
          cases hf : fldsL r with
          | short => exact ⟨fun _ _ h => (by simp [FR.cons] at h), fun h => by simp [FR.cons] at h⟩
          | bad => rw [i2 hf]; exact ⟨fun _ _ h => (by simp [FR.cons] at h), fun _ => rfl⟩
          | ok l2 r2 => rw [i1 _ _ hf]; exact ⟨fun _ _ h => (by simp only [FR.cons, FR.ok.injEq] at h ⊢; exact ⟨h.1, by rw [h.2]⟩), fun h => by simp [FR.cons] at h⟩
/-- the request line -/
def verS : List UInt8 := [32, 72, 84, 84, 80, 47, 49, 46, 49]
def tgtC (b : UInt8) : Bool := decide (33 ≤ b.toNat) && decide (b.toNat < 127)
def startV (l : List UInt8) : List UInt8 × List UInt8 × Bool :=
  if l.length < 11 ∨ ¬ l.drop (l.length - 9) = verS then ([], [], false)
  else match cutAt 32 (l.take (l.length - 9)) with
    | none => ([], [], false)
    | some (m, t) => if t.all tgtC = true then (m, t, tokenL m && !t.isEmpty) else ([], [], false)
theorem start_made {m t : List UInt8} (h1 : tokenL m = true) (h2 : t.all tgtC = true) (h3 : t ≠ []) (h4 : ∀ b ∈ m, b ≠ 32) : startV (m ++ 32 :: (t ++ verS)) = (m, t, true) := by
  have hm : 1 ≤ m.length := by
    cases m with
    | nil => simp [tokenL] at h1
    | cons a r => simp
  have ht : 1 ≤ t.length := by
    cases t with
    | nil => exact absurd rfl h3
    | cons a r => simp
  have hv : verS.length = 9 := rfl
  have e : m ++ 32 :: (t ++ verS) = (m ++ 32 :: t) ++ verS := by simp
  have el : ((m ++ 32 :: t) ++ verS).length - 9 = (m ++ 32 :: t).length := by rw [List.length_append, hv]; omega
  unfold startV
  rw [e, el, List.drop_left, List.take_left, if_neg, cutAt_made t h4]
  · simp only [h2, if_true, h1, Bool.true_and]
    cases t with
    | nil => exact absurd rfl h3
    | cons a r => rfl
  · rw [List.length_append, hv, List.length_append, List.length_cons]
    rintro (h | h)
    · omega
    · exact h rfl
/-- the number of hexadecimal digits -/
def hexDg (b : UInt8) : Option Nat :=
  if 48 ≤ (smallB b).toNat ∧ (smallB b).toNat ≤ 57 then some ((smallB b).toNat - 48)
  else if 97 ≤ (smallB b).toNat ∧ (smallB b).toNat ≤ 102 then some ((smallB b).toNat - 87) else none
def hexAc : Nat → List UInt8 → Option Nat
  | n, [] => some n
  | n, b :: r => match hexDg b with
    | some d => hexAc (n * 16 + d) r
    | none => none
def hexV (l : List UInt8) : Int := if l.length < 1 ∨ 8 < l.length then -1 else match hexAc 0 l with
  | some n => (n : Int)
  | none => -1
theorem hexDg_hexD : ∀ k : Nat, k < 16 → hexDg (hexD k) = some k ∧ hexD k ≠ 13 := by decide +kernel
theorem hexAc_go : ∀ (fuel m : Nat) (acc : List UInt8), m < fuel → hexAc 0 (hexGo fuel m acc) = hexAc m acc
  | 0, m, acc, h => by omega
  | fuel + 1, m, acc, h => by
    unfold hexGo
    have hd := (hexDg_hexD (m % 16) (Nat.mod_lt _ (by decide))).1
    split
    · rename_i h0
      have e : m % 16 = m := by omega
      rw [hexAc, hd]
      simp only [Nat.zero_mul, Nat.zero_add]
      rw [e]
    · rename_i h0
      rw [hexAc_go fuel (m / 16) _ (by omega)]
      rw [hexAc, hd]
      simp only
      have e : m / 16 * 16 + m % 16 = m := by omega
      rw [e]
theorem hexGo_le : ∀ (k fuel m : Nat) (acc : List UInt8), m < 16 ^ (k + 1) → (hexGo fuel m acc).length ≤ acc.length + (k + 1)
  | k, 0, m, acc, h => by unfold hexGo; omega
  | k, fuel + 1, m, acc, h => by
    unfold hexGo
    split
    · simp
    · rename_i h0
      cases k with
      | zero => omega
      | succ k =>
        have := hexGo_le k fuel (m / 16) (hexD (m % 16) :: acc) (by rw [Nat.pow_succ] at h; omega)
        simp only [List.length_cons] at this
        omega
theorem hexGo_ne : ∀ (fuel m : Nat) (acc : List UInt8), m < fuel → 1 ≤ (hexGo fuel m acc).length ∧ ((∀ b ∈ acc, b ≠ 13) → ∀ b ∈ hexGo fuel m acc, b ≠ 13)
  | 0, m, acc, h => by omega
  | fuel + 1, m, acc, h => by
    have hd := (hexDg_hexD (m % 16) (Nat.mod_lt _ (by decide))).2
    have hcons : (∀ b ∈ acc, b ≠ 13) → ∀ b ∈ hexD (m % 16) :: acc, b ≠ 13 := fun ha b hb => by
      rcases List.mem_cons.1 hb with rfl | hb
      · exact hd
      · exact ha b hb
    unfold hexGo
    split
    · exact ⟨by simp, hcons⟩
    · have ih := hexGo_ne fuel (m / 16) (hexD (m % 16) :: acc) (by omega)
      exact ⟨ih.1, fun ha => ih.2 (hcons ha)⟩
theorem hexV_hexL {n : Nat} (h : n ≤ 16384) : hexV (hexL n) = (n : Int) ∧ ∀ b ∈ hexL n, b ≠ 13 := by
  have h1 := hexAc_go (n + 1) n [] (by omega)
  have h2 := hexGo_le 3 (n + 1) n [] (by omega)
  have h3 := hexGo_ne (n + 1) n [] (by omega)
  simp only [List.length_nil] at h2
  refine ⟨?_, h3.2 (by simp)⟩
  unfold hexV hexL
  rw [if_neg (by omega), h1]
  rfl
/-- a chunked body, its trailers, and what stands behind them -/
inductive CR where
  | short
  | bad
  | ok (b : List UInt8) (t : List Fd) (r : List UInt8)
def CR.cons (d : List UInt8) : CR → CR
  | .ok b t r => .ok (d ++ b) t r
  | .short => .short
  | .bad => .bad
def CR.ofF : FR → CR
  | .ok t r => .ok [] t r
  | .short => .short
  | .bad => .bad
def chunksG : Nat → List UInt8 → CR
  | 0, _ => .short
  | k + 1, l => match cutL l with
    | none => .short
    | some (x, r) => if hexV x < 0 then .bad else if hexV x = 0 then CR.ofF (fldsL r)
      else if r.length < (hexV x).toNat + 2 then .short else if ¬ (r.drop (hexV x).toNat).take 2 = [13, 10] then .bad
      else (chunksG k (r.drop ((hexV x).toNat + 2))).cons (r.take (hexV x).toNat)
def chunksL (l : List UInt8) : CR := chunksG (l.length + 1) l
theorem chunksG_fuel : ∀ (n m : Nat) (l : List UInt8), l.length < n → l.length < m → chunksG n l = chunksG m l
  | 0, _, _, h, _ => by omega
  | _, 0, _, _, h => by omega
  | n + 1, m + 1, l, h1, h2 => by
    unfold chunksG
    split
    · rfl
    · rename_i x r hc
      have := cut_lt hc
      rw [chunksG_fuel n m _ (by rw [List.length_drop]; omega) (by rw [List.length_drop]; omega)]
theorem chunksL_eq {l x r : List UInt8} (h : cutL l = some (x, r)) : chunksL l = if hexV x < 0 then .bad else if hexV x = 0 then CR.ofF (fldsL r)
      else if r.length < (hexV x).toNat + 2 then .short else if ¬ (r.drop (hexV x).toNat).take 2 = [13, 10] then .bad
      else (chunksL (r.drop ((hexV x).toNat + 2))).cons (r.take (hexV x).toNat) := by
  have := cut_lt h
  have e : chunksL (r.drop ((hexV x).toNat + 2)) = chunksG l.length (r.drop ((hexV x).toNat + 2)) := chunksG_fuel _ _ _ (by omega) (by rw [List.length_drop]; omega)
  rw [e]
  conv => lhs; unfold chunksL chunksG
  rw [h]
theorem chunksL_none {l : List UInt8} (h : cutL l = none) : chunksL l = .short := by
  unfold chunksL chunksG; rw [h]
theorem take_on {α : Type} {k : Nat} {r : List α} (q : List α) (h : k ≤ r.length) : (r ++ q).take k = r.take k ∧ (r ++ q).drop k = r.drop k ++ q :=
  ⟨List.take_append_of_le_length h, List.drop_append_of_le_length h⟩
theorem chunks_on (q : List UInt8) : ∀ (n : Nat) (p : List UInt8), p.length < n → (∀ b t r, chunksL p = .ok b t r → chunksL (p ++ q) = .ok b t (r ++ q)) ∧ (chunksL p = .bad → chunksL (p ++ q) = .bad)
  | 0, p, h => by omega
  | n + 1, p, h => by
    cases hc : cutL p with
    | none => rw [chunksL_none hc]; exact ⟨fun _ _ _ h => (by cases h), fun h => by cases h⟩
    | some xr =>
      obtain ⟨x, r⟩ := xr
      have hc2 := cut_on q hc
      have hl := cut_lt hc
      rw [chunksL_eq hc, chunksL_eq hc2]
      by_cases h1 : hexV x < 0
      · rw [if_pos h1, if_pos h1]; exact ⟨fun _ _ _ h => (by cases h), fun _ => rfl⟩
      · rw [if_neg h1, if_neg h1]
        by_cases h2 : hexV x = 0
        · rw [if_pos h2, if_pos h2]
          obtain ⟨i1, i2⟩ := flds_on q (r.length + 1) r (by omega)
          cases hf : fldsL r with
          | short => exact ⟨fun _ _ _ h => (by simp [CR.ofF] at h), fun h => by simp [CR.ofF] at h⟩
          | bad => rw [i2 hf]; exact ⟨fun _ _ _ h => (by simp [CR.ofF] at h), fun _ => rfl⟩
          | ok l2 r2 => rw [i1 _ _ hf]; exact ⟨fun _ _ _ h => (by simp only [CR.ofF, CR.ok.injEq] at h ⊢; exact ⟨h.1, h.2.1, by rw [h.2.2]⟩), fun h => by simp [CR.ofF] at h⟩
        · rw [if_neg h2, if_neg h2]
          obtain ⟨k, hk⟩ : ∃ k, k = (hexV x).toNat := ⟨_, rfl⟩
          rw [← hk]
          by_cases h3 : r.length < k + 2
          · rw [if_pos h3]; exact ⟨fun _ _ _ h => (by cases h), fun h => by cases h⟩
          · have h3' : ¬ (r ++ q).length < k + 2 := by rw [List.length_append]; omega
            rw [if_neg h3, if_neg h3']
            have e1 : ((r ++ q).drop k).take 2 = (r.drop k).take 2 := by
              rw [(take_on q (show k ≤ r.length by omega)).2, List.take_append_of_le_length (by rw [List.length_drop]; omega)]
            rw [e1, (take_on q (show k + 2 ≤ r.length by omega)).2, (take_on q (show k ≤ r.length by omega)).1]
            by_cases h4 : ¬ (r.drop k).take 2 = [13, 10]
            · rw [if_pos h4, if_pos h4]; exact ⟨fun _ _ _ h => (by cases h), fun _ => rfl⟩
            · rw [if_neg h4, if_neg h4]
              obtain ⟨i1, i2⟩ := chunks_on q n (r.drop (k + 2)) (by rw [List.length_drop]; omega)
              cases hf : chunksL (r.drop (k + 2)) with
              | short => exact ⟨fun _ _ _ h => (by simp [CR.cons] at h), fun h => by simp [CR.cons] at h⟩
              | bad => rw [i2 hf]; exact ⟨fun _ _ _ h => (by simp [CR.cons] at h), fun _ => rfl⟩
              | ok b2 t2 r2 => rw [i1 _ _ _ hf]; exact ⟨fun _ _ _ h => (by simp only [CR.cons, CR.ok.injEq] at h ⊢; exact ⟨h.1, h.2.1, by rw [h.2.2]⟩), fun h => by simp [CR.cons] at h⟩
def hosN : List UInt8 := [104, 111, 115, 116]
def lenN : List UInt8 := [99, 111, 110, 116, 101, 110, 116, 45, 108, 101, 110, 103, 116, 104]
def traN : List UInt8 := [116, 114, 97, 110, 115, 102, 101, 114, 45, 101, 110, 99, 111, 100, 105, 110, 103]
def chkS : List UInt8 := [99, 104, 117, 110, 107, 101, 100]
/-- what the fields tell of the framing, and how many hosts -/
def headsV : List Fd → Int → Bool → Nat → Option (Int × Bool × Nat)
  | [], len, ch, h => some (len, ch, h)
  | f :: r, len, ch, h =>
    if bl f.nm = hosN then headsV r len ch (h + 1)
    else if bl f.nm = lenN then (if lenL (bl f.va) < 0 ∨ 0 ≤ len then none else headsV r (lenL (bl f.va)) ch h)
    else if bl f.nm = traN then (if ¬ bl f.va = chkS ∨ ch = true then none else headsV r len true h)
    else headsV r len ch h
/-- a request -/
inductive RR where
  | short
  | bad
  | ok (me tg : List UInt8) (fs : List Fd) (b : List UInt8) (t : List Fd) (r : List UInt8)
def RR.ofC (me tg : List UInt8) (fs : List Fd) : CR → RR
  | .ok b t r => .ok me tg fs b t r
  | .short => .short
  | .bad => .bad
def bodyV (me tg : List UInt8) (fs : List Fd) (r : List UInt8) : RR := match headsV fs (-1) false 0 with
  | none => .bad
  | some (len, ch, h) => if ¬ h = 1 ∨ (ch = true ∧ 0 ≤ len) then .bad
    else if ch = true then RR.ofC me tg fs (chunksL r)
    else if 0 < len then (if r.length < len.toNat then .short else .ok me tg fs (r.take len.toNat) [] (r.drop len.toNat))
    else .ok me tg fs [] [] r
def readV (l : List UInt8) : RR := match cutL l with
  | none => .short
  | some (x, r) => if (startV x).2.2 = false then .bad else match fldsL r with
    | .short => .short
    | .bad => .bad
    | .ok fs r2 => bodyV (startV x).1 (startV x).2.1 fs r2
theorem body_on (q me tg : List UInt8) (fs : List Fd) (p : List UInt8) : (∀ a b c d e r, bodyV me tg fs p = .ok a b c d e r → bodyV me tg fs (p ++ q) = .ok a b c d e (r ++ q)) ∧ (bodyV me tg fs p = .bad → bodyV me tg fs (p ++ q) = .bad) := by
  unfold bodyV
  cases headsV fs (-1) false 0 with
  | none => exact ⟨fun _ _ _ _ _ _ h => (by cases h), fun _ => rfl⟩
  | some v =>
    obtain ⟨len, ch, h⟩ := v
    simp only
    by_cases h1 : ¬ h = 1 ∨ (ch = true ∧ 0 ≤ len)
    · rw [if_pos h1, if_pos h1]; exact ⟨fun _ _ _ _ _ _ h => (by cases h), fun _ => rfl⟩
    · rw [if_neg h1, if_neg h1]
      by_cases h2 : ch = true
      · rw [if_pos h2, if_pos h2]
        obtain ⟨i1, i2⟩ := chunks_on q (p.length + 1) p (by omega)
        cases hf : chunksL p with
        | short => exact ⟨fun _ _ _ _ _ _ h => (by simp [RR.ofC] at h), fun h => by simp [RR.ofC] at h⟩
        | bad => rw [i2 hf]; exact ⟨fun _ _ _ _ _ _ h => (by simp [RR.ofC] at h), fun _ => rfl⟩
        | ok b2 t2 r2 =>
          rw [i1 _ _ _ hf]
          refine ⟨fun a b c d e r h => ?_, fun h => by simp [RR.ofC] at h⟩
          simp only [RR.ofC, RR.ok.injEq] at h ⊢
          obtain ⟨k1, k2, k3, k4, k5, k6⟩ := h
          exact ⟨k1, k2, k3, k4, k5, by rw [k6]⟩
      · rw [if_neg h2, if_neg h2]
        by_cases h3 : 0 < len
        · rw [if_pos h3, if_pos h3]
          by_cases h4 : p.length < len.toNat
          · rw [if_pos h4]; exact ⟨fun _ _ _ _ _ _ h => (by cases h), fun h => by cases h⟩
          · rw [if_neg h4, if_neg (by rw [List.length_append]; omega), (take_on q (by omega)).1, (take_on q (by omega)).2]
            refine ⟨fun a b c d e r h => ?_, fun h => by cases h⟩
            simp only [RR.ok.injEq] at h ⊢
            obtain ⟨k1, k2, k3, k4, k5, k6⟩ := h
            exact ⟨k1, k2, k3, k4, k5, by rw [k6]⟩
        · rw [if_neg h3, if_neg h3]
          refine ⟨fun a b c d e r h => ?_, fun h => by cases h⟩
          simp only [RR.ok.injEq] at h ⊢
          obtain ⟨k1, k2, k3, k4, k5, k6⟩ := h
          exact ⟨k1, k2, k3, k4, k5, by rw [k6]⟩
theorem read_on (q p : List UInt8) : (∀ a b c d e r, readV p = .ok a b c d e r → readV (p ++ q) = .ok a b c d e (r ++ q)) ∧ (readV p = .bad → readV (p ++ q) = .bad) := by
  cases hc : cutL p with
  | none =>
    have e : readV p = .short := by unfold readV; rw [hc]
    rw [e]; exact ⟨fun _ _ _ _ _ _ h => (by cases h), fun h => by cases h⟩
  | some xr =>
    obtain ⟨x, r⟩ := xr
    have hc2 := cut_on q hc
    unfold readV
    rw [hc, hc2]
    simp only
    by_cases h1 : (startV x).2.2 = false
    · rw [if_pos h1, if_pos h1]; exact ⟨fun _ _ _ _ _ _ h => (by cases h), fun _ => rfl⟩
    · rw [if_neg h1, if_neg h1]
      obtain ⟨i1, i2⟩ := flds_on q (r.length + 1) r (by omega)
      cases hf : fldsL r with
      | short => exact ⟨fun _ _ _ _ _ _ h => (by simp at h), fun h => by simp at h⟩
      | bad => rw [i2 hf]; exact ⟨fun _ _ _ _ _ _ h => (by simp at h), fun _ => rfl⟩
      | ok l2 r2 => rw [i1 _ _ hf]; exact body_on q _ _ _ _
/-- what is left is an end of it -/
theorem flds_len : ∀ (n : Nat) (p : List UInt8), p.length < n → ∀ l r, fldsL p = .ok l r → r.length + 2 ≤ p.length
  | 0, p, h => by omega
  | n + 1, p, h => fun l r hf => by
    cases hc : cutL p with
    | none => rw [fldsL_none hc] at hf; cases hf
    | some xr =>
      obtain ⟨x, r'⟩ := xr
      have hl := cut_lt hc
      by_cases hx : x = []
      · subst hx
        rw [fldsL_end hc] at hf
        cases hf
        omega
      · cases hb : (fieldV x).2 with
        | false => rw [fldsL_bad hc hx hb] at hf; cases hf
        | true =>
          rw [fldsL_cons hc hx hb] at hf
          cases hq : fldsL r' with
          | short => rw [hq] at hf; cases hf
          | bad => rw [hq] at hf; cases hf
          | ok l2 r2 =>
            rw [hq] at hf
            have := flds_len n r' (by omega) l2 r2 hq
            simp only [FR.cons, FR.ok.injEq] at hf
            obtain ⟨_, rfl⟩ := hf
            omega
theorem chunks_len : ∀ (n : Nat) (p : List UInt8), p.length < n → ∀ b t r, chunksL p = .ok b t r → r.length ≤ p.length
  | 0, p, h => by omega
  | n + 1, p, h => fun b t r hf => by
    cases hc : cutL p with
    | none => rw [chunksL_none hc] at hf; cases hf
    | some xr =>
      obtain ⟨x, r'⟩ := xr
      have hl := cut_lt hc
      rw [chunksL_eq hc] at hf
      split at hf
      · cases hf
      · split at hf
        · cases hq : fldsL r' with
          | short => rw [hq] at hf; cases hf
          | bad => rw [hq] at hf; cases hf
          | ok l2 r2 =>
            rw [hq] at hf
            have := flds_len (r'.length + 1) r' (by omega) l2 r2 hq
            simp only [CR.ofF, CR.ok.injEq] at hf
            obtain ⟨_, _, rfl⟩ := hf
            omega
        · split at hf
          · cases hf
          · split at hf
            · cases hf
            · cases hq : chunksL (r'.drop ((hexV x).toNat + 2)) with
              | short => rw [hq] at hf; cases hf
              | bad => rw [hq] at hf; cases hf
              | ok b2 t2 r2 =>
                rw [hq] at hf
                have := chunks_len n _ (by rw [List.length_drop]; omega) b2 t2 r2 hq
                rw [List.length_drop] at this
                simp only [CR.cons, CR.ok.injEq] at hf
                obtain ⟨_, _, rfl⟩ := hf
                omega
theorem read_len {p a b : List UInt8} {c : List Fd} {d : List UInt8} {e : List Fd} {r : List UInt8} (h : readV p = .ok a b c d e r) : r.length ≤ p.length := by
  cases hc : cutL p with
  | none => unfold readV at h; rw [hc] at h; cases h
  | some xr =>
    obtain ⟨x, r'⟩ := xr
    have hl := cut_lt hc
    unfold readV at h
    rw [hc] at h
    simp only at h
    split at h
    · cases h
    · cases hf : fldsL r' with
      | short => rw [hf] at h; cases h
      | bad => rw [hf] at h; cases h
      | ok l2 r2 =>
        rw [hf] at h
        have h2 := flds_len (r'.length + 1) r' (by omega) l2 r2 hf
        simp only [bodyV] at h
        split at h
        · cases h
        · split at h
          · cases h
          · split at h
            · cases hq : chunksL r2 with
              | short => rw [hq] at h; cases h
              | bad => rw [hq] at h; cases h
              | ok b3 t3 r3 =>
                rw [hq] at h
                have h3 := chunks_len (r2.length + 1) r2 (by omega) b3 t3 r3 hq
                simp only [RR.ofC, RR.ok.injEq] at h
                obtain ⟨_, _, _, _, _, rfl⟩ := h
                omega
            · split at h
              · split at h
                · cases h
                · simp only [RR.ok.injEq] at h
                  obtain ⟨_, _, _, _, _, rfl⟩ := h
                  rw [List.length_drop]; omega
              · simp only [RR.ok.injEq] at h
                obtain ⟨_, _, _, _, _, rfl⟩ := h
                omega
/-- every proper beginning of a whole request is the beginning of one -/
theorem read_begin {H a b : List UInt8} {c : List Fd} {d : List UInt8} {e : List Fd} (h : readV H = .ok a b c d e []) {k : Nat} (hk : k < H.length) : readV (H.take k) = .short := by
  obtain ⟨p, hp⟩ : ∃ p, p = H.take k := ⟨_, rfl⟩
  obtain ⟨q, hq⟩ : ∃ q, q = H.drop k := ⟨_, rfl⟩
  have e0 : H = p ++ q := by rw [hp, hq, List.take_append_drop]
  have hlen : p.length < H.length := by rw [hp, List.length_take]; omega
  rw [← hp]
  obtain ⟨i1, i2⟩ := read_on q p
  cases hr : readV p with
  | short => rfl
  | bad => have := i2 hr; rw [← e0, h] at this; cases this
  | ok a' b' c' d' e' r' =>
    have h1 := i1 _ _ _ _ _ _ hr
    rw [← e0, h] at h1
    simp only [RR.ok.injEq] at h1
    have h2 := congrArg List.length h1.2.2.2.2.2
    rw [e0, List.length_append] at hlen
    rw [List.length_append] at h2
    simp only [List.length_nil] at h2
    omega
theorem tok_no : ∀ b : UInt8, tokC b = true → b ≠ 13 ∧ b ≠ 58 ∧ b ≠ 32 := by
  intro b h
  refine ⟨?_, ?_, ?_⟩ <;> (rintro rfl; revert h; decide)
theorem val_no {b : UInt8} (h : valC b = true) : b ≠ 13 := by
  rintro rfl; revert h; decide
theorem dropWhile_head {p : UInt8 → Bool} : ∀ {l : List UInt8} {b : UInt8} {r : List UInt8}, l.dropWhile p = b :: r → p b = false
  | [], b, r, h => by simp at h
  | a :: l, b, r, h => by
    rw [List.dropWhile_cons] at h
    split at h
    · exact dropWhile_head h
    · rename_i hp
      simp only [List.cons.injEq] at h
      rw [← h.1]; simpa using hp
theorem trim_sub {l : List UInt8} {b : UInt8} (h : b ∈ trimL l) : b ∈ l := by
  unfold trimL at h
  have h1 := List.mem_reverse.1 h
  have h2 := (List.dropWhile_sublist ws).subset h1
  have h3 := List.mem_reverse.1 h2
  exact (List.dropWhile_sublist ws).subset h3
theorem trim_ends (l : List UInt8) : valE (trimL l) = true := by
  unfold trimL
  obtain ⟨d, hd⟩ : ∃ d, d = l.dropWhile ws := ⟨_, rfl⟩
  obtain ⟨e, he⟩ : ∃ e, e = d.reverse.dropWhile ws := ⟨_, rfl⟩
  rw [← hd, ← he]
  cases e with
  | nil => rfl
  | cons x r =>
    have hx : ws x = false := dropWhile_head he.symm
    have hsuf : (x :: r) <:+ d.reverse := by rw [he]; exact List.dropWhile_suffix ws
    have hpre : (x :: r).reverse <+: d := by
      have := List.reverse_prefix.2 hsuf
      rwa [List.reverse_reverse] at this
    cases hr : (x :: r).reverse with
    | nil => simp at hr
    | cons y t =>
      obtain ⟨z, hz⟩ := hpre
      rw [hr] at hz
      have hy : ws y = false := dropWhile_head (l := l) (r := t ++ z) (by rw [← hd, ← hz]; rfl)
      have hl : (y :: t).getLast (by simp) = x := by
        have e1 : (y :: t) = r.reverse ++ [x] := by rw [← hr]; simp
        have : ∀ (L : List UInt8) (hL : L ≠ []), L = r.reverse ++ [x] → L.getLast hL = x := by
          intro L hL e2; subst e2; simp
        exact this _ _ e1
      show (!ws y && !ws ((y :: t).getLast (by simp))) = true
      rw [hy, hl, hx]; rfl
theorem trim_value {l : List UInt8} (h : l.all valC = true) : valueL (trimL l) = true := by
  unfold valueL
  rw [trim_ends, Bool.and_true, List.all_eq_true]
  exact fun b hb => List.all_eq_true.1 h b (trim_sub hb)
theorem trim_same {l : List UInt8} (h : valE l = true) : trimL (32 :: l) = l := by
  have e : (32 :: l : List UInt8).dropWhile ws = l.dropWhile ws := by simp [ws]
  unfold trimL
  rw [e]
  cases l with
  | nil => rfl
  | cons b r =>
    unfold valE at h
    simp only [Bool.and_eq_true, Bool.not_eq_true'] at h
    obtain ⟨h1, h2⟩ := h
    rw [List.dropWhile_cons, h1, if_neg (by decide)]
    have hne : (b :: r) ≠ [] := by simp
    obtain ⟨q, x, hq⟩ : ∃ q x, b :: r = q ++ [x] := ⟨_, _, (List.dropLast_concat_getLast hne).symm⟩
    have hx : x = (b :: r).getLast hne := by
      have : ∀ (L : List UInt8) (hL : L ≠ []), L = q ++ [x] → x = L.getLast hL := by
        intro L hL e2; subst e2; simp
      exact this _ _ hq
    rw [hq, List.reverse_append, List.reverse_cons, List.reverse_nil, List.nil_append, List.cons_append, List.nil_append, List.dropWhile_cons, hx, h2, if_neg (by decide)]
    simp
theorem small_same {l : List UInt8} (h : l.all nameC = true) : smallL l = l := by
  unfold smallL
  have : ∀ b ∈ l, smallB b = b := fun b hb => by
    have h1 := List.all_eq_true.1 h b hb
    unfold nameC at h1
    unfold smallB
    rw [if_neg]
    rintro ⟨h2, h3⟩
    simp [h2, h3] at h1
  rw [List.map_congr_left this, List.map_id']
/-- a field that can be read back -/
def goodF (f : Fd) : Prop := tokenL (bl f.nm) = true ∧ (bl f.va).all valC = true
def backF (f : Fd) : Fd := ⟨strB (smallL (bl f.nm)), strB (trimL (32 :: bl f.va))⟩
theorem line_cut {f : Fd} (h : goodF f) (R : List UInt8) : cutL (lineL f ++ R) = some (bl f.nm ++ 58 :: 32 :: bl f.va, R) := by
  have e : lineL f ++ R = (bl f.nm ++ 58 :: 32 :: bl f.va) ++ 13 :: 10 :: R := by simp [lineL]
  rw [e]
  refine cut_made R fun b hb => ?_
  rcases List.mem_append.1 hb with hb | hb
  · have ht := h.1
    unfold tokenL at ht
    simp only [Bool.and_eq_true] at ht
    exact (tok_no b (List.all_eq_true.1 ht.1 b hb)).1
  · rcases List.mem_cons.1 hb with rfl | hb
    · decide
    · rcases List.mem_cons.1 hb with rfl | hb
      · decide
      · exact val_no (List.all_eq_true.1 h.2 b hb)
theorem line_field {f : Fd} (h : goodF f) : fieldV (bl f.nm ++ 58 :: 32 :: bl f.va) = (backF f, true) := by
  have ht := h.1
  unfold tokenL at ht
  simp only [Bool.and_eq_true] at ht
  unfold fieldV
  rw [cutAt_made _ fun b hb => (tok_no b (List.all_eq_true.1 ht.1 b hb)).2.1]
  have hv : ((32 : UInt8) :: bl f.va).all valC = true := by
    rw [List.all_cons, h.2]; decide
  simp only [h.1, trim_value hv]
  rfl
theorem flds_made : ∀ {G : List Fd} (B : List UInt8), (∀ g ∈ G, goodF g) → fldsL (linesL G ++ 13 :: 10 :: B) = .ok (G.map backF) B
  | [], B, _ => by
    have e : cutL (linesL [] ++ 13 :: 10 :: B) = some ([], B) := by simp [linesL, cutL]
    rw [fldsL_end e]; rfl
  | g :: G, B, h => by
    have hg := h g (by simp)
    have e : linesL (g :: G) ++ 13 :: 10 :: B = lineL g ++ (linesL G ++ 13 :: 10 :: B) := by simp [linesL]
    have hf := line_field hg
    rw [e, fldsL_cons (line_cut hg _) (by simp) (by rw [hf]), flds_made B (fun x hx => h x (by simp [hx])), hf]
    rfl
theorem back_same {f : Fd} (h1 : (bl f.nm).all nameC = true) (h2 : valE (bl f.va) = true) : backF f = f := by
  unfold backF
  rw [small_same h1, trim_same h2, strB_bl, strB_bl]
/-- chunks, the last one, and trailers -/
theorem chunks_made : ∀ {ds : List (List UInt8)} (ts : List Fd) (B : List UInt8), (∀ d ∈ ds, 1 ≤ d.length ∧ d.length ≤ 16384) → (∀ g ∈ ts, goodF g) → chunksL (ds.flatMap (fun d => (chunkL d).1) ++ (lastL ts ++ B)) = .ok ds.flatten (ts.map backF) B
  | [], ts, B, _, ht => by
    have e : ([] : List (List UInt8)).flatMap (fun d => (chunkL d).1) ++ (lastL ts ++ B) = [48] ++ 13 :: 10 :: (linesL ts ++ 13 :: 10 :: B) := by simp [lastL]
    have hc := cut_made (x := [48]) (linesL ts ++ 13 :: 10 :: B) (by decide)
    rw [e, chunksL_eq hc]
    have h0 : hexV [48] = 0 := by decide
    rw [h0, if_neg (by decide), if_pos rfl, flds_made B ht]
    rfl
  | d :: ds, ts, B, hd, ht => by
    obtain ⟨h1, h2⟩ := hd d (by simp)
    obtain ⟨x1, x2⟩ := hexV_hexL h2
    obtain ⟨T, hT⟩ : ∃ T, T = ds.flatMap (fun d => (chunkL d).1) ++ (lastL ts ++ B) := ⟨_, rfl⟩
    have ec : (chunkL d).1 = hexL d.length ++ ([13, 10] ++ (d ++ [13, 10])) := by
      unfold chunkL
      rw [if_neg (by omega), if_neg (by omega)]
    have e : (d :: ds).flatMap (fun d => (chunkL d).1) ++ (lastL ts ++ B) = hexL d.length ++ 13 :: 10 :: (d ++ 13 :: 10 :: T) := by
      rw [hT, List.flatMap_cons, ec]; simp
    have ih := chunks_made (ds := ds) ts B (fun x hx => hd x (by simp [hx])) ht
    rw [e, chunksL_eq (cut_made _ x2), x1, if_neg (by omega), if_neg (by omega), Int.toNat_natCast, if_neg (by simp)]
    have e1 : ((d ++ 13 :: 10 :: T).drop d.length).take 2 = [13, 10] := by rw [List.drop_left]; rfl
    have e2 : (d ++ 13 :: 10 :: T).drop (d.length + 2) = T := by
      rw [← List.drop_drop, List.drop_left]; rfl
    have e3 : (d ++ 13 :: 10 :: T).take d.length = d := List.take_left
    rw [if_neg (by rw [e1]; simp), e2, e3, hT, ih]
    rfl
/-- the digits of a length -/
theorem natV_snoc (l : List UInt8) (b : UInt8) : natV (l ++ [b]) = natV l * 10 + (b.toNat - 48) := by
  unfold natV; rw [List.foldl_append]; rfl
theorem dec_read : ∀ (f n : Nat), n < f → natV (Lib.decDigits n) = n ∧ (Lib.decDigits n).all digC = true ∧ 1 ≤ (Lib.decDigits n).length ∧ ∀ k, n < 10 ^ (k + 1) → (Lib.decDigits n).length ≤ k + 1
  | 0, n, h => by omega
  | f + 1, n, h => by
    by_cases h10 : 10 ≤ n
    · obtain ⟨i1, i2, i3, i4⟩ := dec_read f (n / 10) (by omega)
      rw [dig_big h10]
      have hb : (UInt8.ofNat (48 + n % 10)).toNat = 48 + n % 10 := by simp; omega
      refine ⟨?_, ?_, by simp, fun k hk => ?_⟩
      · rw [natV_snoc, i1, hb]; omega
      · rw [List.all_append, i2, List.all_cons]
        unfold digC
        rw [hb]
        simp; omega
      · cases k with
        | zero => omega
        | succ k =>
          have := i4 k (by rw [Nat.pow_succ] at hk; omega)
          rw [List.length_append]; simpa using this
    · rw [dig_small (by omega)]
      have hb : (UInt8.ofNat (48 + n)).toNat = 48 + n := by simp; omega
      refine ⟨?_, ?_, by simp, fun k hk => by simp⟩
      · show natV ([] ++ _) = _
        rw [natV_snoc, hb]; simp [natV]
      · rw [List.all_cons]
        unfold digC
        rw [hb]
        simp; omega
theorem dec_lenL {n : Nat} (h : n < 1000000000000000) : lenL (Lib.decDigits n) = (n : Int) := by
  obtain ⟨i1, i2, i3, i4⟩ := dec_read (n + 1) n (by omega)
  have := i4 14 (by simpa using h)
  unfold lenL
  rw [if_neg (by omega), if_pos i2, i1]
theorem dig_val {l : List UInt8} (h : l.all digC = true) : l.all valC = true ∧ ∀ b ∈ l, ws b = false := by
  have h2 : ∀ b ∈ l, valC b = true ∧ ws b = false := fun b hb => by
    have h1 := List.all_eq_true.1 h b hb
    unfold digC at h1
    simp only [Bool.and_eq_true, decide_eq_true_eq] at h1
    constructor
    · unfold valC; simp; omega
    · unfold ws
      simp only [Bool.or_eq_false_iff, beq_eq_false_iff_ne]
      constructor <;> (rintro rfl; simp at h1)
  exact ⟨List.all_eq_true.2 fun b hb => (h2 b hb).1, fun b hb => (h2 b hb).2⟩
theorem ends_of {l : List UInt8} (h : ∀ b ∈ l, ws b = false) : valE l = true := by
  cases l with
  | nil => rfl
  | cons b r =>
    show (!ws b && !ws ((b :: r).getLast (by simp))) = true
    rw [h b (by simp), h _ (List.getLast_mem _)]; rfl
/-- the fields of the head -/
def cooN : List UInt8 := [99, 111, 111, 107, 105, 101]
def keptF (cv : List UInt8) : Bool → List Fd → List Fd
  | _, [] => []
  | ck, f :: r =>
    if bl f.nm = [99, 111, 110, 116, 101, 110, 116, 45, 108, 101, 110, 103, 116, 104] ∨ bl f.nm = [116, 101] ∨ bl f.nm = [101, 120, 112, 101, 99, 116] then keptF cv ck r
    else if bl f.nm = [99, 111, 111, 107, 105, 101] then
      if ck = true then keptF cv ck r else ⟨f.nm, strB cv⟩ :: keptF cv true r
    else f :: keptF cv ck r
theorem kept_lines (cv : List UInt8) : ∀ (l : List Fd) (ck : Bool), headF cv ck l = linesL (keptF cv ck l)
  | [], ck => by cases ck <;> rfl
  | f :: r, ck => by
    unfold headF keptF
    split
    · exact kept_lines cv r ck
    · split
      · split
        · exact kept_lines cv r ck
        · rw [kept_lines cv r true]
          simp [linesL, lineL, bl_strB']
      · rw [kept_lines cv r ck]
        simp [linesL]
theorem kept_of (cv : List UInt8) : ∀ (l : List Fd) (ck : Bool), ∀ g ∈ keptF cv ck l, bl g.nm ≠ lenN ∧ ∃ f ∈ l, g.nm = f.nm ∧ (bl g.va = cv ∨ g.va = f.va)
  | [], ck, g, h => by cases ck <;> simp [keptF] at h
  | f :: r, ck, g, h => by
    have on : ∀ {ck}, g ∈ keptF cv ck r → bl g.nm ≠ lenN ∧ ∃ f' ∈ f :: r, g.nm = f'.nm ∧ (bl g.va = cv ∨ g.va = f'.va) := fun h => by
      obtain ⟨h1, f', h2, h3⟩ := kept_of cv r _ g h
      exact ⟨h1, f', by simp [h2], h3⟩
    unfold keptF at h
    split at h
    · exact on h
    · rename_i hn
      have hl : bl f.nm ≠ lenN := fun e => hn (.inl e)
      split at h
      · split at h
        · exact on h
        · rcases List.mem_cons.1 h with rfl | h
          · exact ⟨hl, f, by simp, rfl, .inl (bl_strB' cv)⟩
          · exact on h
      · rcases List.mem_cons.1 h with rfl | h
        · exact ⟨hl, g, by simp, rfl, .inr rfl⟩
        · exact on h
def frF (r : Rq) (body : Bool) : List Fd :=
  if framL r body = 1 then [⟨strB lenN, strB (Lib.itoa (max r.len 0))⟩] else if framL r body = 2 then [⟨strB traN, strB chkS⟩] else []
def hosF (r : Rq) : Fd := ⟨strB hosN, r.au⟩
def viaG : Fd := ⟨strB [118, 105, 97], strB [51, 32, 116, 117, 114, 110, 112, 105, 107, 101]⟩
def hdFs (r : Rq) (body : Bool) : List Fd := hosF r :: (keptF (cookL r.fs) false r.fs ++ (frF r body ++ [viaG]))
theorem head_lines (r : Rq) (body : Bool) (h : ¬ bl r.me = [67, 79, 78, 78, 69, 67, 84]) (B : List UInt8) : (headL r body).1 ++ B = (bl r.me ++ 32 :: (bl r.pa ++ verS)) ++ 13 :: 10 :: (linesL (hdFs r body) ++ 13 :: 10 :: B) := by
  have e1 : framT r body = linesL (frF r body) := by
    unfold framT frF
    split
    · simp [linesL, lineL, bl_strB', lenN]
    · split
      · simp [linesL, lineL, bl_strB', traN, chkS]
      · rfl
  unfold headL
  rw [if_neg h]
  simp only [head1, head2, kept_lines, e1]
  simp [hdFs, linesL, lineL, hosF, viaG, bl_strB', hosN, verS, viaT]
/-- what Check has found right -/
structure Good (r : Rq) : Prop where
  tok : tokenL (bl r.me) = true
  con : ¬ bl r.me = [67, 79, 78, 78, 69, 67, 84]
  aut : (bl r.au).all valC = true
  pat : (bl r.pa).all tgtC = true
  pne : bl r.pa ≠ []
  fs : ∀ f ∈ r.fs, tokenL (bl f.nm) = true ∧ (bl f.nm).all nameC = true ∧ (bl f.va).all valC = true ∧ bl f.nm ≠ hosN ∧ bl f.nm ≠ traN
  lo : -1 ≤ r.len
  hi : r.len < 1000000000000000
theorem inter_all {p : UInt8 → Bool} {s : List UInt8} (hs : s.all p = true) : ∀ {l : List (List UInt8)}, (∀ x ∈ l, x.all p = true) → (s.intercalate l).all p = true
  | [], _ => rfl
  | [x], h => by simpa [List.intercalate] using h x (by simp)
  | x :: y :: l, h => by
    have ih := inter_all hs (l := y :: l) (fun z hz => h z (by simp at hz ⊢; exact .inr hz))
    have e : s.intercalate (x :: y :: l) = x ++ (s ++ s.intercalate (y :: l)) := by simp [List.intercalate]
    rw [e, List.all_append, List.all_append, hs, ih, h x (by simp)]; rfl
theorem cook_val {r : Rq} (h : Good r) : (cookL r.fs).all valC = true := by
  unfold cookL Lib.join
  refine inter_all (by decide) fun x hx => ?_
  simp only [List.mem_map] at hx
  obtain ⟨y, hy, rfl⟩ := hx
  unfold ckl at hy
  simp only [List.mem_map, List.mem_filter] at hy
  obtain ⟨f, ⟨hf, _⟩, rfl⟩ := hy
  exact (h.fs f hf).2.2.1
theorem itoa_max {n : Int} (h : -1 ≤ n) (h2 : n < 1000000000000000) : ∃ q : Nat, max n 0 = (q : Int) ∧ q < 1000000000000000 ∧ Lib.itoa (max n 0) = Lib.decDigits q := by
  refine ⟨(max n 0).toNat, by omega, by omega, ?_⟩
  conv => lhs; rw [show max n 0 = (((max n 0).toNat : Nat) : Int) by omega]
  rw [itoa_nat]
theorem hd_good {r : Rq} (h : Good r) (body : Bool) : ∀ g ∈ hdFs r body, goodF g := by
  intro g hg
  unfold hdFs at hg
  rcases List.mem_cons.1 hg with rfl | hg
  · exact ⟨by simp only [hosF, bl_strB']; decide, h.aut⟩
  · rcases List.mem_append.1 hg with hg | hg
    · obtain ⟨_, f, hf, e1, e2⟩ := kept_of _ _ _ g hg
      have hh := h.fs f hf
      refine ⟨by rw [e1]; exact hh.1, ?_⟩
      rcases e2 with e2 | e2
      · rw [e2]; exact cook_val h
      · rw [e2]; exact hh.2.2.1
    · rcases List.mem_append.1 hg with hg | hg
      · unfold frF at hg
        split at hg
        · simp only [List.mem_singleton] at hg
          subst hg
          obtain ⟨q, _, _, h3⟩ := itoa_max h.lo h.hi
          refine ⟨by simp only [bl_strB']; decide, ?_⟩
          simp only [bl_strB', h3]
          exact (dig_val (dec_read (q + 1) q (by omega)).2.1).1
        · split at hg
          · simp only [List.mem_singleton] at hg
            subst hg
            exact ⟨by simp only [bl_strB']; decide, by simp only [bl_strB']; decide⟩
          · simp at hg
      · simp only [List.mem_singleton] at hg
        subst hg
        exact ⟨by simp only [viaG, bl_strB']; decide, by simp only [viaG, bl_strB']; decide⟩
theorem heads_skip : ∀ {G : List Fd} (R : List Fd) (len : Int) (ch : Bool) (k : Nat), (∀ g ∈ G, bl g.nm ≠ hosN ∧ bl g.nm ≠ lenN ∧ bl g.nm ≠ traN) → headsV (G ++ R) len ch k = headsV R len ch k
  | [], R, len, ch, k, _ => rfl
  | g :: G, R, len, ch, k, h => by
    obtain ⟨h1, h2, h3⟩ := h g (by simp)
    show headsV (g :: (G ++ R)) len ch k = _
    rw [headsV, if_neg h1, if_neg h2, if_neg h3]
    exact heads_skip (G := G) R len ch k fun x hx => h x (by simp [hx])
theorem hd_heads {r : Rq} (h : Good r) (body : Bool) : headsV ((hdFs r body).map backF) (-1) false 0 = if framL r body = 1 then some (max r.len 0, false, 1) else if framL r body = 2 then some (-1, true, 1) else some (-1, false, 1) := by
  have hk : ∀ g ∈ (keptF (cookL r.fs) false r.fs).map backF, bl g.nm ≠ hosN ∧ bl g.nm ≠ lenN ∧ bl g.nm ≠ traN := by
    intro g hg
    simp only [List.mem_map] at hg
    obtain ⟨f, hf, rfl⟩ := hg
    obtain ⟨e0, f', hf', e1, _⟩ := kept_of _ _ _ f hf
    have hh := h.fs f' hf'
    have e : bl (backF f).nm = bl f.nm := by
      unfold backF
      simp only [bl_strB']
      rw [e1]
      exact small_same hh.2.1
    rw [e]
    exact ⟨by rw [e1]; exact hh.2.2.2.1, e0, by rw [e1]; exact hh.2.2.2.2⟩
  have hv : ∀ len ch, headsV ([viaG].map backF) len ch 1 = some (len, ch, 1) := fun len ch => by
    have e : bl (backF viaG).nm = [118, 105, 97] := by simp only [backF, viaG, bl_strB']; decide
    simp only [List.map_cons, List.map_nil, headsV, e]
    rfl
  unfold hdFs
  rw [List.map_cons, List.map_append, List.map_append]
  have e : bl (backF (hosF r)).nm = hosN := by simp only [backF, hosF, bl_strB']; decide
  rw [headsV, if_pos e, heads_skip _ _ _ _ hk]
  unfold frF
  split
  · obtain ⟨q, h1, h2, h3⟩ := itoa_max h.lo h.hi
    obtain ⟨d1, d2, d3, d4⟩ := dec_read (q + 1) q (by omega)
    have e1 : bl (backF ⟨strB lenN, strB (Lib.itoa (max r.len 0))⟩).nm = lenN := by simp only [backF, bl_strB']; decide
    have e2 : bl (backF ⟨strB lenN, strB (Lib.itoa (max r.len 0))⟩).va = Lib.decDigits q := by
      simp only [backF, bl_strB', h3]
      exact trim_same (ends_of (dig_val d2).2)
    show headsV (backF ⟨strB lenN, strB (Lib.itoa (max r.len 0))⟩ :: [viaG].map backF) (-1) false 1 = _
    rw [headsV, e1, e2, dec_lenL h2, if_neg (by decide), if_pos rfl, if_neg (by omega), h1]
    exact hv _ _
  · split
    · have e1 : bl (backF ⟨strB traN, strB chkS⟩).nm = traN := by simp only [backF, bl_strB']; decide
      have e2 : bl (backF ⟨strB traN, strB chkS⟩).va = chkS := by simp only [backF, bl_strB']; decide
      show headsV (backF ⟨strB traN, strB chkS⟩ :: [viaG].map backF) (-1) false 1 = _
      rw [headsV, e1, e2, if_neg (by decide), if_neg (by decide), if_pos rfl, if_neg (by simp)]
      exact hv _ _
    · exact hv _ _
theorem ver_no : ∀ b ∈ verS, b ≠ 13 := by decide
theorem read_made {r : Rq} (h : Good r) (body : Bool) (B : List UInt8) : readV ((headL r body).1 ++ B) = bodyV (bl r.me) (bl r.pa) ((hdFs r body).map backF) B := by
  have ht := h.tok
  unfold tokenL at ht
  simp only [Bool.and_eq_true] at ht
  have hm : ∀ b ∈ bl r.me, b ≠ 13 ∧ b ≠ 32 := fun b hb => by
    have := tok_no b (List.all_eq_true.1 ht.1 b hb)
    exact ⟨this.1, this.2.2⟩
  have hp : ∀ b ∈ bl r.pa, b ≠ 13 := fun b hb => by
    have := List.all_eq_true.1 h.pat b hb
    rintro rfl
    simp [tgtC] at this
  have hs := start_made (m := bl r.me) (t := bl r.pa) h.tok h.pat h.pne (fun b hb => (hm b hb).2)
  rw [head_lines r body h.con]
  unfold readV
  rw [cut_made]
  · simp only [hs, flds_made B (hd_good h body)]
    rfl
  · intro b hb
    rcases List.mem_append.1 hb with hb | hb
    · exact (hm b hb).1
    · rcases List.mem_cons.1 hb with rfl | hb
      · decide
      · rcases List.mem_append.1 hb with hb | hb
        · exact hp b hb
        · exact ver_no b hb
/-- no body -/
theorem read_none {r : Rq} (h : Good r) (body : Bool) (hf : framL r body = 0 ∨ (framL r body = 1 ∧ r.len ≤ 0)) : readV (headL r body).1 = .ok (bl r.me) (bl r.pa) ((hdFs r body).map backF) [] [] [] := by
  have e := read_made h body []
  rw [List.append_nil] at e
  rw [e, bodyV, hd_heads h body]
  rcases hf with hf | ⟨hf, hl⟩
  · rw [hf]; rfl
  · rw [hf, if_pos rfl]
    simp only
    rw [if_neg (by simp), if_neg (by decide), if_neg (by omega)]
/-- a body of a length -/
theorem read_length {r : Rq} (h : Good r) (body : Bool) (hf : framL r body = 1) {b : List UInt8} (hb : max r.len 0 = (b.length : Int)) : readV ((headL r body).1 ++ b) = .ok (bl r.me) (bl r.pa) ((hdFs r body).map backF) b [] [] := by
  rw [read_made h body b, bodyV, hd_heads h body, hf, if_pos rfl]
  simp only
  rw [if_neg (by simp), if_neg (by decide), hb]
  split
  · rw [Int.toNat_natCast, if_neg (by omega), List.take_of_length_le (Nat.le_refl _), List.drop_length]
  · have : b = [] := List.eq_nil_of_length_eq_zero (by omega)
    rw [this]
/-- a body in chunks -/
theorem read_chunks {r : Rq} (h : Good r) (body : Bool) (hf : framL r body = 2) {ds : List (List UInt8)} {ts : List Fd} (hd : ∀ d ∈ ds, 1 ≤ d.length ∧ d.length ≤ 16384) (ht : ∀ g ∈ ts, goodF g ∧ (bl g.nm).all nameC = true ∧ valE (bl g.va) = true) :
    readV ((headL r body).1 ++ (ds.flatMap (fun d => (chunkL d).1) ++ lastL ts)) = .ok (bl r.me) (bl r.pa) ((hdFs r body).map backF) ds.flatten ts [] := by
  have e := chunks_made (ds := ds) ts [] hd (fun g hg => (ht g hg).1)
  rw [List.append_nil] at e
  rw [read_made h body _, bodyV, hd_heads h body, hf, if_neg (by decide), if_pos rfl]
  simp only
  rw [if_neg (by simp), if_pos trivial, e]
  have e2 : ts.map backF = ts := by
    conv => rhs; rw [← List.map_id ts]
    exact List.map_congr_left fun g hg => back_same (ht g hg).2.1 (ht g hg).2.2
  rw [e2]
  rfl
theorem first_zero : ∀ {l : List Int}, firstNZ l = 0 → ∀ x ∈ l, x = 0
  | [], _, x, hx => by simp at hx
  | y :: r, h, x, hx => by
    unfold firstNZ at h
    split at h
    · rename_i hy
      rcases List.mem_cons.1 hx with rfl | hx
      · exact hy
      · exact first_zero h x hx
    · rename_i hy; exact absurd h hy
theorem err_zero {fs : List Fd} (h : errF fs = 0) {f : Fd} (hf : f ∈ fs) : ∃ i, oneF fs i f = 0 := by
  obtain ⟨i, hi, rfl⟩ := List.getElem_of_mem hf
  refine ⟨i, ?_⟩
  rw [← one_at hi]
  exact first_zero h _ (List.mem_map.2 ⟨i, List.mem_range.2 hi, rfl⟩)
theorem name_tok {l : List UInt8} (h : nameL l = true) : tokenL l = true ∧ l.all nameC = true := by
  unfold nameL at h
  simp only [Bool.and_eq_true] at h
  exact ⟨by unfold tokenL; simp only [Bool.and_eq_true]; exact h.2, h.1⟩
theorem rest_zero {fs : List Fd} {f : Fd} (h : restF fs f = 0) : valueL (bl f.va) = true ∧ hopL (bl f.nm) (bl f.va) = false := by
  unfold restF at h
  split at h
  · simp at h
  · split at h
    · simp at h
    · rename_i h1 h2
      exact ⟨by simpa using h1, by simpa using h2⟩
theorem hop_tra {nm va : List UInt8} (h : hopL nm va = false) : nm ≠ traN := by
  rintro rfl
  unfold hopL at h
  simp only [Bool.or_eq_false_iff] at h
  revert h
  intro h
  have h1 := h.1
  revert h1
  decide
theorem aut_val {l : List UInt8} (h : authL l = true) : l.all valC = true := by
  unfold authL at h
  simp only [Bool.and_eq_true] at h
  refine List.all_eq_true.2 fun b hb => ?_
  have h1 := List.all_eq_true.1 h.1 b hb
  revert h1
  have key : ∀ k : Fin 256, autC (UInt8.ofNat k.val) = true → valC (UInt8.ofNat k.val) = true := by decide +kernel
  have := key ⟨b.toNat, UInt8.toNat_lt b⟩
  simp only [UInt8.ofNat_toNat] at this
  exact this
theorem path_tgt {m l : List UInt8} (h : pathL m l = true) : l.all tgtC = true ∧ l ≠ [] := by
  unfold pathL at h
  simp only [Bool.or_eq_true, Bool.and_eq_true, decide_eq_true_eq] at h
  rcases h with ⟨_, rfl⟩ | h
  · exact ⟨by decide, by simp⟩
  · cases l with
    | nil => simp at h
    | cons b r =>
      simp only [Bool.and_eq_true] at h
      refine ⟨List.all_eq_true.2 fun x hx => ?_, by simp⟩
      have := List.all_eq_true.1 h.2 x hx
      simp only [pathC, Bool.and_eq_true, decide_eq_true_eq] at this
      unfold tgtC
      simp; omega
theorem flds_good {fs : List Fd} (h : errF fs = 0) : ∀ f ∈ fs.filter keepF, tokenL (bl f.nm) = true ∧ (bl f.nm).all nameC = true ∧ (bl f.va).all valC = true ∧ bl f.nm ≠ hosN ∧ bl f.nm ≠ traN := by
  intro f hf
  obtain ⟨h1, h2⟩ := List.mem_filter.1 hf
  obtain ⟨i, hi⟩ := err_zero h h1
  unfold keepF at h2
  simp only [Bool.and_eq_true, Bool.not_eq_true', decide_eq_false_iff_not] at h2
  unfold oneF at hi
  rw [h2.2, if_neg (by decide)] at hi
  split at hi
  · simp at hi
  · rename_i hn
    have hn2 : nameL (bl f.nm) = true := by simpa using hn
    obtain ⟨n1, n2⟩ := name_tok hn2
    obtain ⟨r1, r2⟩ := rest_zero hi
    unfold valueL at r1
    simp only [Bool.and_eq_true] at r1
    exact ⟨n1, n2, r1.1, h2.1, hop_tra r2⟩
theorem end_good {fs : List Fd} {me sc pa au : ByteArray} (he : errF fs = 0) (h1 : tokenL (bl me) = true) (hc : ¬ bl me = conS) (h2 : pathL (bl me) (bl pa) = true) (h3 : authL (bl au) = true) (hl : -1 ≤ fs.foldl lastL' (-1) ∧ fs.foldl lastL' (-1) < 1000000000000000) (h0 : (chkEnd fs me sc pa au).er = 0) : Good (chkEnd fs me sc pa au).rq := by
  unfold chkEnd at h0 ⊢
  split
  · rename_i hb; rw [if_pos hb] at h0; simp [Ck.bad] at h0
  · exact ⟨h1, hc, aut_val h3, (path_tgt h2).1, (path_tgt h2).2, flds_good he, hl.1, hl.2⟩
theorem aut_good {fs : List Fd} {me sc pa : ByteArray} {o : Option ByteArray} (he : errF fs = 0) (h1 : tokenL (bl me) = true) (hc : ¬ bl me = conS) (h2 : pathL (bl me) (bl pa) = true) (hl : -1 ≤ fs.foldl lastL' (-1) ∧ fs.foldl lastL' (-1) < 1000000000000000) (h0 : (chkAut fs me sc pa o).er = 0) : Good (chkAut fs me sc pa o).rq := by
  cases o with
  | none => simp [chkAut, Ck.bad] at h0
  | some au =>
    unfold chkAut at h0 ⊢
    simp only at h0 ⊢
    split
    · rename_i hb; rw [if_pos hb] at h0; simp [Ck.bad] at h0
    · rename_i hb
      rw [if_neg hb] at h0
      exact end_good he h1 hc h2 (by simpa using hb) hl h0
/-- a request that Check has taken, but for CONNECT, can be read back -/
theorem chk_good {fs : List Fd} {cnt sz : Int} (h0 : (chkF fs cnt sz).er = 0) (hc : ¬ bl (chkF fs cnt sz).rq.me = conS) (hl : -1 ≤ fs.foldl lastL' (-1) ∧ fs.foldl lastL' (-1) < 1000000000000000) : Good (chkF fs cnt sz).rq := by
  have keyE : ∀ me sc pa au, (chkEnd fs me sc pa au).er = 0 → (chkEnd fs me sc pa au).rq.me = me := by
    intro me sc pa au h
    unfold chkEnd at h ⊢
    split
    · rename_i hb; rw [if_pos hb] at h; simp [Ck.bad] at h
    · rfl
  have keyA : ∀ me sc pa o, (chkAut fs me sc pa o).er = 0 → (chkAut fs me sc pa o).rq.me = me := by
    intro me sc pa o h
    cases o with
    | none => simp [chkAut, Ck.bad] at h
    | some au =>
      unfold chkAut at h ⊢
      simp only at h ⊢
      split
      · rename_i hb; rw [if_pos hb] at h; simp [Ck.bad] at h
      · rename_i hb; rw [if_neg hb] at h; exact keyE _ _ _ _ h
  have keyH : ∀ me sc pa o, (chkHost fs me sc pa o).er = 0 → (chkHost fs me sc pa o).rq.me = me ∧ (∃ o', chkHost fs me sc pa o = chkAut fs me sc pa o') := by
    intro me sc pa o h
    cases o with
    | none => exact ⟨keyA me sc pa (findF fs hostS) h, findF fs hostS, rfl⟩
    | some au => exact ⟨keyA me sc pa (some au) h, some au, rfl⟩
  revert h0 hc
  unfold chkF chkM
  split
  · intro h0; simp [Ck.bad] at h0
  · split
    · rename_i he; intro h0; simp only [Ck.bad] at h0; exact absurd h0 he
    · rename_i he
      have he' : errF fs = 0 := by simpa using he
      cases hm : findF fs metS with
      | none => intro h0; simp [Ck.bad] at h0
      | some me =>
        simp only
        split
        · intro h0; simp [Ck.bad] at h0
        · rename_i ht
          have ht' : tokenL (bl me) = true := by simpa using ht
          split
          · rename_i hcon
            split
            · intro h0; simp [Ck.bad] at h0
            · split
              · intro h0; simp [Ck.bad] at h0
              · intro h0 hc
                rw [(keyH _ _ _ _ h0).1] at hc
                exact absurd hcon hc
          · rename_i hcon
            split
            · intro h0; simp [Ck.bad] at h0
            · split
              · intro h0; simp [Ck.bad] at h0
              · rename_i hp
                simp only [Bool.or_eq_true, Bool.not_eq_true', not_or, Bool.not_eq_false] at hp
                intro h0 hc
                obtain ⟨o', ho⟩ := (keyH _ _ _ _ h0).2
                rw [ho] at h0 ⊢
                exact aut_good he' ht' hcon hp.2 hl h0
/-- trailers that are taken -/
def trailOne (f : Fd) : Int := if psL (bl f.nm) = true then 182 else if nameL (bl f.nm) = false then 180 else if valueL (bl f.va) = false then 181
  else if hopL (bl f.nm) (bl f.va) = true ∨ bl f.nm = [116, 101] ∨ bl f.nm = hosN ∨ bl f.nm = lenN then 184 else 0
def trailF (fs : List Fd) (cnt sz : Int) : Int := if muchL fs cnt sz = true then 185 else firstNZ (fs.map trailOne)
theorem trail_good {fs : List Fd} {cnt sz : Int} (h : trailF fs cnt sz = 0) : ∀ g ∈ fs, goodF g ∧ (bl g.nm).all nameC = true ∧ valE (bl g.va) = true := by
  unfold trailF at h
  split at h
  · simp at h
  · intro g hg
    have h1 := first_zero h _ (List.mem_map.2 ⟨g, hg, rfl⟩)
    unfold trailOne at h1
    split at h1
    · simp at h1
    · split at h1
      · simp at h1
      · rename_i hn
        split at h1
        · simp at h1
        · rename_i hv
          obtain ⟨n1, n2⟩ := name_tok (show nameL (bl g.nm) = true by simpa using hn)
          have hv2 : valueL (bl g.va) = true := by simpa using hv
          unfold valueL at hv2
          simp only [Bool.and_eq_true] at hv2
          exact ⟨⟨n1, hv2.1⟩, n2, hv2.2⟩
theorem cut_hit : ∀ {l : List UInt8} {k : Nat}, (∀ j, j < k → ¬ (l[j]? = some 13 ∧ l[j + 1]? = some 10)) → l[k]? = some 13 → l[k + 1]? = some 10 → cutL l = some (l.take k, l.drop (k + 2))
  | [], k, _, h, _ => by simp at h
  | [a], k, _, h1, h2 => by simp at h2
  | a :: b :: l, 0, _, h1, h2 => by
    simp only [List.getElem?_cons_zero, List.getElem?_cons_succ, Option.some.injEq] at h1 h2
    rw [cutL, if_pos ⟨h1, h2⟩]; rfl
  | a :: b :: l, k + 1, hno, h1, h2 => by
    have h0 := hno 0 (by omega)
    simp only [List.getElem?_cons_zero, List.getElem?_cons_succ, Option.some.injEq] at h0
    have ih := cut_hit (l := b :: l) (k := k) (fun j hj => by have := hno (j + 1) (by omega); simpa only [List.getElem?_cons_succ] using this) (by simpa only [List.getElem?_cons_succ] using h1) (by simpa only [List.getElem?_cons_succ] using h2)
    rw [cutL, if_neg h0, ih]; rfl
theorem cut_miss : ∀ {l : List UInt8}, (∀ j, j + 1 < l.length → ¬ (l[j]? = some 13 ∧ l[j + 1]? = some 10)) → cutL l = none
  | [], _ => rfl
  | [a], _ => rfl
  | a :: b :: l, h => by
    have h0 := h 0 (by simp)
    simp only [List.getElem?_cons_zero, List.getElem?_cons_succ, Option.some.injEq] at h0
    have ih := cut_miss (l := b :: l) (fun j hj => by have := h (j + 1) (by simp only [List.length_cons] at hj ⊢; omega); simpa only [List.getElem?_cons_succ] using this)
    rw [cutL, if_neg h0, ih]; rfl
theorem cutAt_hit {c : UInt8} : ∀ {l : List UInt8} {k : Nat} (hk : k < l.length), (∀ b ∈ l.take k, b ≠ c) → l[k] = c → cutAt c l = some (l.take k, l.drop (k + 1))
  | b :: r, 0, _, _, h => by
    simp only [List.getElem_cons_zero] at h
    rw [cutAt, if_pos h]; rfl
  | b :: r, k + 1, hk, hno, h => by
    have ih := cutAt_hit (c := c) (l := r) (k := k) (by simpa using hk) (fun x hx => hno x (by rw [List.take_succ_cons]; exact List.mem_cons_of_mem _ hx)) (by simpa using h)
    rw [cutAt, if_neg (hno b (by simp)), ih]; rfl
theorem cutAt_miss {c : UInt8} : ∀ {l : List UInt8}, (∀ b ∈ l, b ≠ c) → cutAt c l = none
  | [], _ => rfl
  | b :: r, h => by rw [cutAt, if_neg (h b (by simp)), cutAt_miss (fun x hx => h x (by simp [hx]))]; rfl
/-- the line at a place, and where the next one begins -/
def lineV (L : List UInt8) (at' : Nat) : List UInt8 × Int := match cutL (L.drop at') with
  | some (x, r) => (x, ((L.length - r.length : Nat) : Int))
  | none => ([], -1)
/-- no line's end within these places -/
def NoEnd (L : List UInt8) (a i : Nat) : Prop := ∀ j, a ≤ j → j < i → ¬ (L[j]? = some 13 ∧ L[j + 1]? = some 10)
theorem NoEnd.nil (L : List UInt8) (a : Nat) : NoEnd L a a := fun j h1 h2 => by omega
theorem NoEnd.on {L : List UInt8} {a i : Nat} (h : NoEnd L a i) (hn : ¬ (L[i]? = some 13 ∧ L[i + 1]? = some 10)) : NoEnd L a (i + 1) := fun j h1 h2 => by
  rcases Nat.lt_or_ge j i with h3 | h3
  · exact h j h1 h3
  · obtain rfl : j = i := by omega
    exact hn
theorem line_hit {L : List UInt8} {a i : Nat} (h : NoEnd L a i) (ha : a ≤ i) (h1 : L[i]? = some 13) (h2 : L[i + 1]? = some 10) : lineV L a = ((L.drop a).take (i - a), ((i + 2 : Nat) : Int)) := by
  have hl : i + 1 < L.length := (List.getElem?_eq_some_iff.1 h2).1
  have e1 : a + (i - a) = i := by omega
  have e2 : a + (i - a + 1) = i + 1 := by omega
  have e3 : a + (i - a + 2) = i + 2 := by omega
  have hc := cut_hit (l := L.drop a) (k := i - a) (fun j hj => by
    rw [List.getElem?_drop, List.getElem?_drop]
    exact h (a + j) (by omega) (by omega)) (by rw [List.getElem?_drop, e1]; exact h1) (by rw [List.getElem?_drop, e2]; exact h2)
  rw [List.drop_drop, e3] at hc
  unfold lineV
  rw [hc]
  simp only [List.length_drop]
  congr 2; omega
theorem line_miss {L : List UInt8} {a i : Nat} (h : NoEnd L a i) (hi : L.length ≤ i + 1) : lineV L a = ([], -1) := by
  have hc := cut_miss (l := L.drop a) (fun j hj => by
    rw [List.length_drop] at hj
    rw [List.getElem?_drop, List.getElem?_drop]
    exact h (a + j) (by omega) (by omega))
  unfold lineV
  rw [hc]
end Go.Proofs.YtohinaohcndndaaDoor

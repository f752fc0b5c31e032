/- Texts cut at their lines' ends, at a byte; hexadecimal and decimal digits. Plain. -/
import Derived.Test.YtfffefhchjnfjaaGreatDoorHoDig
namespace Go.Proofs.YtfffefhchjnfjaaGreatDoor
open Go.RowKit

def tokenL (l : List UInt8) : Bool := l.all tokC && !l.isEmpty
def valueL (l : List UInt8) : Bool := l.all valC && valE l
def natV (l : List UInt8) : Nat := l.foldl (fun n b => n * 10 + (b.toNat - 48)) 0
def digC (b : UInt8) : Bool := decide (48 ≤ b.toNat) && decide (b.toNat ≤ 57)
/-- a text cut behind its first line's end -/
def cutL : List UInt8 → Option (List UInt8 × List UInt8)
  | [] => none
  | [_] => none
  | a :: b :: r => if a = 13 ∧ b = 10 then some ([], r) else (cutL (b :: r)).map fun p => (a :: p.1, p.2)
theorem cut_eq : ∀ {l x r : List UInt8}, cutL l = some (x, r) → l = x ++ 13 :: 10 :: r
  | [], x, r, h => by simp [cutL] at h
  | [_], x, r, h => by simp [cutL] at h
  | a :: b :: l, x, r, h => by
    unfold cutL at h
    split at h
    · rename_i hc
      simp only [Option.some.injEq, Prod.mk.injEq] at h
      obtain ⟨rfl, rfl⟩ := h
      rw [hc.1, hc.2]; rfl
    · simp only [Option.map_eq_some_iff, Prod.mk.injEq] at h
      obtain ⟨⟨x', r'⟩, h1, rfl, rfl⟩ := h
      rw [cut_eq h1]; rfl
theorem cut_made : ∀ {x : List UInt8} (r : List UInt8), (∀ b ∈ x, b ≠ 13) → cutL (x ++ 13 :: 10 :: r) = some (x, r)
  | [], r, _ => by simp [cutL]
  | [a], r, h => by
    have ha := h a (by simp)
    show cutL (a :: 13 :: 10 :: r) = _
    unfold cutL
    rw [if_neg (by rintro ⟨h1, _⟩; exact ha h1)]
    have e : cutL (13 :: 10 :: r) = some ([], r) := by simp [cutL]
    rw [e]; rfl
  | a :: b :: x, r, h => by
    have ha := h a (by simp)
    have ih := cut_made (x := b :: x) r (fun c hc => h c (by simp at hc ⊢; exact .inr hc))
    show cutL (a :: b :: (x ++ 13 :: 10 :: r)) = _
    unfold cutL
    rw [if_neg (by rintro ⟨h1, _⟩; exact ha h1)]
    have e : cutL (b :: (x ++ 13 :: 10 :: r)) = some (b :: x, r) := ih
    rw [e]; rfl
theorem cut_on : ∀ {p x r : List UInt8} (q : List UInt8), cutL p = some (x, r) → cutL (p ++ q) = some (x, r ++ q)
  | [], x, r, q, h => by simp [cutL] at h
  | [_], x, r, q, h => by simp [cutL] at h
  | a :: b :: l, x, r, q, h => by
    unfold cutL at h
    show cutL (a :: b :: (l ++ q)) = _
    unfold cutL
    split at h
    · rename_i hc
      simp only [Option.some.injEq, Prod.mk.injEq] at h
      obtain ⟨rfl, rfl⟩ := h
      rw [if_pos hc]
    · rename_i hc
      simp only [Option.map_eq_some_iff, Prod.mk.injEq] at h
      obtain ⟨⟨x', r'⟩, h1, rfl, rfl⟩ := h
      rw [if_neg hc]
      have ih := cut_on q h1
      have e : cutL (b :: (l ++ q)) = some (x', r' ++ q) := ih
      rw [e]; rfl
theorem cut_lt {l x r : List UInt8} (h : cutL l = some (x, r)) : x.length + 2 + r.length = l.length := by
  rw [cut_eq h]; simp; omega
/-- a text cut at its first byte c -/
def cutAt (c : UInt8) : List UInt8 → Option (List UInt8 × List UInt8)
  | [] => none
  | b :: r => if b = c then some ([], r) else (cutAt c r).map fun p => (b :: p.1, p.2)
theorem cutAt_made {c : UInt8} : ∀ {x : List UInt8} (r : List UInt8), (∀ b ∈ x, b ≠ c) → cutAt c (x ++ c :: r) = some (x, r)
  | [], r, _ => by simp [cutAt]
  | a :: x, r, h => by
    show cutAt c (a :: (x ++ c :: r)) = _
    unfold cutAt
    rw [if_neg (h a (by simp)), cutAt_made r (fun b hb => h b (by simp [hb]))]
    rfl
/-- the number of hexadecimal digits -/
def hexDg (b : UInt8) : Option Nat :=
  if 48 ≤ (smallB b).toNat ∧ (smallB b).toNat ≤ 57 then some ((smallB b).toNat - 48)
  else if 97 ≤ (smallB b).toNat ∧ (smallB b).toNat ≤ 102 then some ((smallB b).toNat - 87) else none
def hexAc : Nat → List UInt8 → Option Nat
  | n, [] => some n
  | n, b :: r => match hexDg b with
    | some d => hexAc (n * 16 + d) r
    | none => none
def hexV (l : List UInt8) : Int := if l.length < 1 ∨ 8 < l.length then -1 else match hexAc 0 l with
  | some n => (n : Int)
  | none => -1
theorem hexDg_hexD : ∀ k : Nat, k < 16 → hexDg (hexD k) = some k ∧ hexD k ≠ 13 := by decide +kernel
theorem hexAc_go : ∀ (fuel m : Nat) (acc : List UInt8), m < fuel → hexAc 0 (hexGo fuel m acc) = hexAc m acc
  | 0, m, acc, h => by omega
  | fuel + 1, m, acc, h => by
    unfold hexGo
    have hd := (hexDg_hexD (m % 16) (Nat.mod_lt _ (by decide))).1
    split
    · rename_i h0
      have e : m % 16 = m := by omega
      rw [hexAc, hd]
      simp only [Nat.zero_mul, Nat.zero_add]
      rw [e]
    · rename_i h0
      rw [hexAc_go fuel (m / 16) _ (by omega)]
      rw [hexAc, hd]
      simp only
      have e : m / 16 * 16 + m % 16 = m := by omega
      rw [e]
theorem hexGo_le : ∀ (k fuel m : Nat) (acc : List UInt8), m < 16 ^ (k + 1) → (hexGo fuel m acc).length ≤ acc.length + (k + 1)
  | k, 0, m, acc, h => by unfold hexGo; omega
  | k, fuel + 1, m, acc, h => by
    unfold hexGo
    split
    · simp
    · rename_i h0
      cases k with
      | zero => omega
      | succ k =>
        have := hexGo_le k fuel (m / 16) (hexD (m % 16) :: acc) (by rw [Nat.pow_succ] at h; omega)
        simp only [List.length_cons] at this
        omega
theorem hexGo_ne : ∀ (fuel m : Nat) (acc : List UInt8), m < fuel → 1 ≤ (hexGo fuel m acc).length ∧ ((∀ b ∈ acc, b ≠ 13) → ∀ b ∈ hexGo fuel m acc, b ≠ 13)
  | 0, m, acc, h => by omega
  | fuel + 1, m, acc, h => by
    have hd := (hexDg_hexD (m % 16) (Nat.mod_lt _ (by decide))).2
    have hcons : (∀ b ∈ acc, b ≠ 13) → ∀ b ∈ hexD (m % 16) :: acc, b ≠ 13 := fun ha b hb => by
      rcases List.mem_cons.1 hb with rfl | hb
      · exact hd
      · exact ha b hb
    unfold hexGo
    split
    · exact ⟨by simp, hcons⟩
    · have ih := hexGo_ne fuel (m / 16) (hexD (m % 16) :: acc) (by omega)
      exact ⟨ih.1, fun ha => ih.2 (hcons ha)⟩
theorem hexV_hexL {n : Nat} (h : n ≤ 16384) : hexV (hexL n) = (n : Int) ∧ ∀ b ∈ hexL n, b ≠ 13 := by
  have h1 := hexAc_go (n + 1) n [] (by omega)
  have h2 := hexGo_le 3 (n + 1) n [] (by omega)
  have h3 := hexGo_ne (n + 1) n [] (by omega)
  simp only [List.length_nil] at h2
  refine ⟨?_, h3.2 (by simp)⟩
  unfold hexV hexL
  rw [if_neg (by omega), h1]
  rfl
def hosN : List UInt8 := [104, 111, 115, 116]
def lenN : List UInt8 := [99, 111, 110, 116, 101, 110, 116, 45, 108, 101, 110, 103, 116, 104]
def traN : List UInt8 := [116, 114, 97, 110, 115, 102, 101, 114, 45, 101, 110, 99, 111, 100, 105, 110, 103]
def chkS : List UInt8 := [99, 104, 117, 110, 107, 101, 100]
theorem cut_hit : ∀ {l : List UInt8} {k : Nat}, (∀ j, j < k → ¬ (l[j]? = some 13 ∧ l[j + 1]? = some 10)) → l[k]? = some 13 → l[k + 1]? = some 10 → cutL l = some (l.take k, l.drop (k + 2))
  | [], k, _, h, _ => by simp at h
  | [a], k, _, h1, h2 => by simp at h2
  | a :: b :: l, 0, _, h1, h2 => by
    simp only [List.getElem?_cons_zero, List.getElem?_cons_succ, Option.some.injEq] at h1 h2
    rw [cutL, if_pos ⟨h1, h2⟩]; rfl
  | a :: b :: l, k + 1, hno, h1, h2 => by
    have h0 := hno 0 (by omega)
    simp only [List.getElem?_cons_zero, List.getElem?_cons_succ, Option.some.injEq] at h0
    have ih := cut_hit (l := b :: l) (k := k) (fun j hj => by have := hno (j + 1) (by omega); simpa only [List.getElem?_cons_succ] using this) (by simpa only [List.getElem?_cons_succ] using h1) (by simpa only [List.getElem?_cons_succ] using h2)
    rw [cutL, if_neg h0, ih]; rfl
theorem cut_miss : ∀ {l : List UInt8}, (∀ j, j + 1 < l.length → ¬ (l[j]? = some 13 ∧ l[j + 1]? = some 10)) → cutL l = none
  | [], _ => rfl
  | [a], _ => rfl
  | a :: b :: l, h => by
    have h0 := h 0 (by simp)
    simp only [List.getElem?_cons_zero, List.getElem?_cons_succ, Option.some.injEq] at h0
    have ih := cut_miss (l := b :: l) (fun j hj => by have := h (j + 1) (by simp only [List.length_cons] at hj ⊢; omega); simpa only [List.getElem?_cons_succ] using this)
    rw [cutL, if_neg h0, ih]; rfl
theorem cutAt_hit {c : UInt8} : ∀ {l : List UInt8} {k : Nat} (hk : k < l.length), (∀ b ∈ l.take k, b ≠ c) → l[k] = c → cutAt c l = some (l.take k, l.drop (k + 1))
  | b :: r, 0, _, _, h => by
    simp only [List.getElem_cons_zero] at h
    rw [cutAt, if_pos h]; rfl
  | b :: r, k + 1, hk, hno, h => by
    have ih := cutAt_hit (c := c) (l := r) (k := k) (by simpa using hk) (fun x hx => hno x (by rw [List.take_succ_cons]; exact List.mem_cons_of_mem _ hx)) (by simpa using h)
    rw [cutAt, if_neg (hno b (by simp)), ih]; rfl
theorem cutAt_miss {c : UInt8} : ∀ {l : List UInt8}, (∀ b ∈ l, b ≠ c) → cutAt c l = none
  | [], _ => rfl
  | b :: r, h => by rw [cutAt, if_neg (h b (by simp)), cutAt_miss (fun x hx => h x (by simp [hx]))]; rfl
end Go.Proofs.YtfffefhchjnfjaaGreatDoor

/- Heads that were written are read back. Plain. -/
import Derived.Test.YtfffefhchjnfjaaGreatDoorHoPlay
namespace Go.Proofs.YtfffefhchjnfjaaGreatDoor
open Go.RowKit

/-- lines, each with its end -/
def linesE : List (List UInt8) → List UInt8
  | [] => []
  | l :: r => l ++ 13 :: 10 :: linesE r
/-- a line that is cut off where it ends, whatever stands behind -/
def Cl (l : List UInt8) : Prop := ∀ r, cutL (l ++ 13 :: 10 :: r) = some (l, r)
theorem cl_of {l : List UInt8} (h : ∀ b ∈ l, b ≠ 13) : Cl l := fun r => cut_made r h
/-- the first empty line, seen from the first line's end -/
theorem cutS_step : ∀ {t x r : List UInt8}, cutL t = some (x, r) → cutS crcrS t = if crS.isPrefixOf r = true then some (x, r.drop 2) else (cutS crcrS r).map fun p => (x ++ 13 :: 10 :: p.1, p.2)
  | [], x, r, h => by simp [cutL] at h
  | [_], x, r, h => by simp [cutL] at h
  | a :: b :: t, x, r, h => by
    unfold cutL at h
    split at h
    · rename_i hc
      obtain ⟨rfl, rfl⟩ := hc
      simp only [Option.some.injEq, Prod.mk.injEq] at h
      obtain ⟨rfl, rfl⟩ := h
      have e1 : crcrS.isPrefixOf (13 :: 10 :: t) = crS.isPrefixOf t := by simp [crcrS, crS, List.isPrefixOf]
      rw [cutS, e1]
      by_cases hp : crS.isPrefixOf t = true
      · rw [if_pos hp, if_pos hp]; rfl
      · rw [if_neg hp, if_neg hp]
        have e2 : crcrS.isPrefixOf (10 :: t) = false := by simp [crcrS, List.isPrefixOf]
        rw [cutS, e2, if_neg (by decide), Option.map_map]
        rfl
    · rename_i hc
      simp only [Option.map_eq_some_iff, Prod.mk.injEq] at h
      obtain ⟨⟨x', r'⟩, h1, rfl, rfl⟩ := h
      have e1 : crcrS.isPrefixOf (a :: b :: t) = false := by
        simp only [crcrS, List.isPrefixOf, Bool.and_eq_false_iff, beq_eq_false_iff_ne]
        by_cases ha : a = 13
        · right; left; exact fun hb => hc ⟨ha, hb.symm⟩
        · left; exact fun h => ha h.symm
      rw [cutS, e1, if_neg (by decide), cutS_step h1]
      split
      · rfl
      · rw [Option.map_map]; rfl
/-- lines, joined -/
def joinE : List (List UInt8) → List UInt8
  | [] => []
  | [l] => l
  | l :: r => l ++ 13 :: 10 :: joinE r
theorem head_block : ∀ {ls : List (List UInt8)} (r : List UInt8), ls ≠ [] → (∀ l ∈ ls, Cl l ∧ l ≠ [] ∧ crS.isPrefixOf (l ++ [13]) = false) → cutS crcrS (linesE ls ++ 13 :: 10 :: r) = some (joinE ls, r)
  | [], r, h, _ => absurd rfl h
  | [l], r, _, hl => by
    have h1 := (hl l (by simp)).1 (13 :: 10 :: r)
    have e : linesE [l] ++ 13 :: 10 :: r = l ++ 13 :: 10 :: 13 :: 10 :: r := by simp [linesE]
    rw [e, cutS_step h1, if_pos (by simp [crS, List.isPrefixOf])]
    rfl
  | l :: m :: ls, r, _, hl => by
    have h1 := (hl l (by simp)).1 (linesE (m :: ls) ++ 13 :: 10 :: r)
    have e : linesE (l :: m :: ls) ++ 13 :: 10 :: r = l ++ 13 :: 10 :: (linesE (m :: ls) ++ 13 :: 10 :: r) := by simp [linesE]
    have h2 := (hl m (by simp))
    have hp : crS.isPrefixOf (linesE (m :: ls) ++ 13 :: 10 :: r) = false := by
      have h3 := h2.2.2
      cases m with
      | nil => exact absurd rfl h2.2.1
      | cons a m =>
        cases m with
        | nil => simp only [linesE, List.cons_append, List.nil_append, crS, List.isPrefixOf] at h3 ⊢; exact h3
        | cons b m => simp only [linesE, List.cons_append, crS, List.isPrefixOf] at h3 ⊢; exact h3
    rw [e, cutS_step h1, hp, if_neg (by decide), head_block r (by simp) (fun x hx => hl x (by simp at hx ⊢; exact .inr hx))]
    rfl
theorem split_join : ∀ {ls : List (List UInt8)} (n : Nat), ls ≠ [] → (∀ l ∈ ls, Cl l) → (∀ l, ls.getLast? = some l → cutL l = none) → (joinE ls).length < n → splitG n (joinE ls) = ls
  | [], n, h, _, _, _ => absurd rfl h
  | [l], n, _, _, hn, hlt => by
    have h := hn l rfl
    cases n with
    | zero => omega
    | succ n => show splitG (n + 1) l = [l]; rw [splitG, h]
  | l :: m :: ls, n, _, hl, hn, hlt => by
    have h1 := hl l (by simp) (joinE (m :: ls))
    cases n with
    | zero => omega
    | succ n =>
      have e : joinE (l :: m :: ls) = l ++ 13 :: 10 :: joinE (m :: ls) := rfl
      rw [e] at hlt ⊢
      rw [splitG, h1]
      show l :: splitG n (joinE (m :: ls)) = _
      rw [split_join n (by simp) (fun x hx => hl x (by simp at hx ⊢; exact .inr hx)) (fun x hx => hn x (by rw [List.getLast?_cons_cons]; exact hx)) (by simp at hlt; omega)]
/-- a line as the law writes it -/
def fline (f : Fd) : List UInt8 := bl f.nm ++ 58 :: bl f.va
def gdF (f : Fd) : Prop := tokenL (bl f.nm) = true ∧ valueL (bl f.va) = true
def smF (f : Fd) : Fd := ⟨strB (smallL (bl f.nm)), f.va⟩
theorem tok_ne {b : UInt8} (h : tokC b = true) : b ≠ 58 ∧ b ≠ 13 ∧ b ≠ 10 := by
  have h1 : ∀ k, k < 256 → tokC (UInt8.ofNat k) = true → UInt8.ofNat k ≠ 58 ∧ UInt8.ofNat k ≠ 13 ∧ UInt8.ofNat k ≠ 10 := by decide +kernel
  have e : UInt8.ofNat b.toNat = b := by simp
  have h2 := h1 b.toNat b.toNat_lt
  rw [e] at h2
  exact h2 h
theorem val_ne {b : UInt8} (h : valC b = true) : b ≠ 13 ∧ b ≠ 10 := by
  have h1 : ∀ k, k < 256 → valC (UInt8.ofNat k) = true → UInt8.ofNat k ≠ 13 ∧ UInt8.ofNat k ≠ 10 := by decide +kernel
  have e : UInt8.ofNat b.toNat = b := by simp
  have h2 := h1 b.toNat b.toNat_lt
  rw [e] at h2
  exact h2 h
theorem trim_val {l : List UInt8} (h : valE l = true) : trimL l = l := by
  cases l with
  | nil => rfl
  | cons b r =>
    unfold valE at h
    simp only [Bool.and_eq_true, Bool.not_eq_true'] at h
    unfold trimL
    have h1 : (b :: r).dropWhile ws = b :: r := by rw [List.dropWhile_cons, if_neg (by rw [h.1]; decide)]
    rw [h1]
    have h2 : ((b :: r).reverse).dropWhile ws = (b :: r).reverse := by
      have h3 : (b :: r).reverse = (b :: r).getLast (by simp) :: ((b :: r).dropLast).reverse := by
        conv => lhs; rw [← List.dropLast_concat_getLast (l := b :: r) (by simp)]
        simp
      rw [h3, List.dropWhile_cons, if_neg (by rw [h.2]; decide)]
    rw [h2, List.reverse_reverse]
theorem field_back {f : Fd} (h : gdF f) : fieldH (fline f) = .ok (smF f) := by
  obtain ⟨h1, h2⟩ := h
  unfold tokenL at h1
  unfold valueL at h2
  simp only [Bool.and_eq_true, Bool.not_eq_true'] at h1 h2
  have hne : ∀ b ∈ bl f.nm, b ≠ 58 := fun b hb => (tok_ne (List.all_eq_true.1 h1.1 b hb)).1
  unfold fieldH fline
  rw [cutAt_made _ hne]
  simp only
  rw [if_neg (by rintro (h | h)
                 · rw [h] at h1; simp at h1
                 · rw [h1.1] at h; cases h), trim_val h2.2, if_neg (by rw [h2.1]; decide), strB_bl]
  rfl
theorem fline_cl {f : Fd} (h : gdF f) : Cl (fline f) ∧ fline f ≠ [] ∧ crS.isPrefixOf (fline f ++ [13]) = false ∧ cutL (fline f) = none := by
  obtain ⟨h1, h2⟩ := h
  unfold tokenL at h1
  unfold valueL at h2
  simp only [Bool.and_eq_true, Bool.not_eq_true'] at h1 h2
  have hn : ∀ b ∈ fline f, b ≠ 13 := by
    intro b hb
    unfold fline at hb
    rcases List.mem_append.1 hb with hb | hb
    · exact (tok_ne (List.all_eq_true.1 h1.1 b hb)).2.1
    · rcases List.mem_cons.1 hb with rfl | hb
      · decide
      · exact (val_ne (List.all_eq_true.1 h2.1 b hb)).1
  have hne : fline f ≠ [] := by unfold fline; simp
  refine ⟨cl_of hn, hne, ?_, ?_⟩
  · cases hf : fline f with
    | nil => exact absurd hf hne
    | cons a r =>
      have ha := hn a (by rw [hf]; simp)
      simp only [List.cons_append, crS, List.isPrefixOf, Bool.and_eq_false_iff, beq_eq_false_iff_ne]
      exact .inl (Ne.symm ha)
  · exact cut_miss hn
where
  cut_miss : ∀ {l : List UInt8}, (∀ b ∈ l, b ≠ 13) → cutL l = none
    | [], _ => rfl
    | [_], _ => rfl
    | a :: b :: r, h => by
      unfold cutL
      rw [if_neg (by rintro ⟨h1, _⟩; exact h a (by simp) h1), cut_miss (fun x hx => h x (by simp at hx ⊢; exact .inr hx))]
      rfl
theorem fields_back : ∀ {fs : List Fd} (ls : List (List UInt8)), (∀ f ∈ fs, gdF f) → fieldsH (fs.map fline ++ ls) = Ex.pre (fs.map smF) (fieldsH ls)
  | [], ls, _ => (pre_nil _).symm
  | f :: r, ls, h => by
    rw [List.map_cons, List.cons_append, fieldsH, field_back (h f (by simp))]
    simp only
    rw [fields_back ls (fun x hx => h x (by simp [hx]))]
    cases fieldsH ls <;> rfl
/-- fields that frame passes by -/
theorem frame_by (old : Bool) : ∀ {fs : List Fd} {r : List Fd} {cd : Bool} {sz : Option Nat}, (∀ f ∈ fs, bl f.nm ≠ traN ∧ bl f.nm ≠ lenN) → frameH old (fs ++ r) cd sz = frameH old r cd sz
  | [], r, cd, sz, _ => rfl
  | f :: fs, r, cd, sz, h => by
    obtain ⟨h1, h2⟩ := h f (by simp)
    rw [List.cons_append, frm_oth h1 h2, frame_by old (fun x hx => h x (by simp [hx]))]
def okL : List UInt8 := [72, 84, 84, 80, 47, 49, 46, 49, 32, 50, 48, 48, 32, 79, 75]
theorem ok_status : statusH okL = .ok (200, false) := by kernel_rfl
theorem ok_cl : Cl okL ∧ okL ≠ [] ∧ crS.isPrefixOf (okL ++ [13]) = false := ⟨cl_of (by decide), by decide, by decide⟩
/-- a head that was written is read -/
theorem head_run {x0 : List UInt8} {ls : List (List UInt8)} {rest : List UInt8} {e old cd : Bool} {sz : Option Nat} {st : Nat} {l : List Fd} (hx : Cl x0 ∧ x0 ≠ [] ∧ crS.isPrefixOf (x0 ++ [13]) = false) (hls : ∀ x ∈ ls, Cl x ∧ x ≠ [] ∧ crS.isPrefixOf (x ++ [13]) = false)
    (hlast : ∀ x, (x0 :: ls).getLast? = some x → cutL x = none) (hlen : (joinE (x0 :: ls)).length + 4 ≤ 1048576) (hst : statusH x0 = .ok (st, old)) (h200 : 200 ≤ st) (hf : fieldsH ls = .ok l) (hfr : frameH old l false none = .ok (cd, sz)) :
    headV false 1048576 (moreV (linesE (x0 :: ls) ++ 13 :: 10 :: rest) e s0) = (beginV false ⟨rest, e, 0, .head, false, old, 0, 0⟩ st cd sz, .ev (.head st l (beginV false ⟨rest, e, 0, .head, false, old, 0, 0⟩ st cd sz).fr)) := by
  obtain ⟨t, ht⟩ : ∃ t, t = linesE (x0 :: ls) ++ 13 :: 10 :: rest := ⟨_, rfl⟩
  have hb : blkV 1048576 t e = .ok (x0 :: ls) rest := by
    unfold blkV
    rw [ht, head_block rest (by simp) (by
      intro x hx'
      rcases List.mem_cons.1 hx' with rfl | hx'
      · exact hx
      · exact hls x hx')]
    simp only
    rw [if_neg (by omega)]
    congr 1
    exact split_join _ (by simp) (by
      intro x hx'
      rcases List.mem_cons.1 hx' with rfl | hx'
      · exact hx.1
      · exact (hls x hx').1) hlast (Nat.lt_succ_self _)
  rw [← ht]
  show headG false 1048576 _ (moreV t e s0) = _
  unfold headG
  have e1 : (moreV t e s0).b = t := rfl
  have e2 : (moreV t e s0).ended = e := rfl
  rw [e1, e2, hb]
  simp only [List.headD_cons, List.tail_cons]
  rw [hst]
  simp only
  rw [hf]
  simp only
  rw [hfr]
  simp only
  rw [if_pos h200]
  rfl
theorem run_end {lim : Nat} {s : HSt} (a : Rs) (l : List Fd) (hd : s.done = false) (hf : s.fault = 0) (h : stepV false lim s = endV s l) : runV false lim s a = ({ s with done := true }, a.add (.fin l)) := by
  rw [run_ev a hd hf (show stepV false lim s = ({ s with done := true }, .ev (.fin l)) from h)]
  exact run_done (s := { s with done := true }) _ rfl hf
/-- a body of a length is read -/
theorem length_run {lim : Nat} {body behind : List UInt8} {e old : Bool} {fr : Int} (a : Rs) :
    runV false lim ⟨body ++ behind, e, 0, .length, false, old, fr, body.length⟩ a = (⟨behind, e, 0, .length, true, old, fr, 0⟩, { a with body := a.body ++ body, tr := [] }) := by
  by_cases h0 : body.length = 0
  · have hb : body = [] := List.eq_nil_of_length_eq_zero h0
    subst hb
    rw [run_end a [] rfl rfl (by unfold stepV; simp only [List.length_nil]; rfl)]
    simp [Rs.add]
  · have hs : stepV false lim ⟨body ++ behind, e, 0, .length, false, old, fr, body.length⟩ = (⟨behind, e, 0, .length, false, old, fr, 0⟩, .ev (.data body)) := by
      unfold stepV
      simp only
      rw [if_neg h0]
      unfold leftV
      simp only
      have hm : min body.length (body ++ behind).length = body.length := by rw [List.length_append]; omega
      rw [hm, if_neg h0, List.drop_left, List.take_left, Nat.sub_self]
    rw [run_ev a rfl rfl hs, run_end _ [] rfl rfl (by unfold stepV; rfl)]
    rfl
end Go.Proofs.YtfffefhchjnfjaaGreatDoor

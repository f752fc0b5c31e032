/- Contracts of the queue's check, mark and Finish. -/
import Derived.Test.YtkjclgpecppokaaSqDelete
namespace Go.Proofs.Ytkjclgpecppokaa
open Go.RowKit

/-- was the piece sent? -/
def Qu.right (q : Qu) (a n : Int) (fin : Bool) : Bool := decide (0 ≤ a ∧ 0 ≤ n ∧ n ≤ q.sent ∧ a ≤ q.sent - n) && (!fin || (q.fin && q.e != 0))

set_option maxRecDepth 100000 in
theorem check_any (w : World) {F : Nat → Prop} {g : Nat} {q : Qu} (h : QAt F w g q) (hq : q.Ok) (a n : Int) (fin : Bool) :
    Calls Try.prog 26 #[.pointer (some ⟨g, 0, none⟩), .int .i64 a, .int .i64 n, .bool fin] w fun e w' => e = .returned (.bool (q.right a n fin)) ∧ w = w' := by
  obtain ⟨da, dc, sa, sc, hb, _⟩ := h
  have c2 := hb.has.cell 2 rfl
  have c5 := hb.has.cell 5 rfl
  have c6 := hb.has.cell 6 rfl
  have hS : q.sent ≤ 1152921504606846976 := by have := hq.sent; have := hq.most; omega
  clear hb hq
  have cases : (¬ 0 ≤ a ∧ q.right a n fin = false) ∨ (0 ≤ a ∧ ¬ 0 ≤ n ∧ q.right a n fin = false) ∨ (0 ≤ a ∧ 0 ≤ n ∧ ¬ n ≤ q.sent ∧ q.right a n fin = false) ∨ (0 ≤ a ∧ 0 ≤ n ∧ n ≤ q.sent ∧ ¬ a ≤ q.sent - n ∧ q.right a n fin = false) ∨
      (0 ≤ a ∧ 0 ≤ n ∧ n ≤ q.sent ∧ a ≤ q.sent - n ∧ ((fin = false ∧ q.right a n fin = true) ∨ (fin = true ∧ q.fin = false ∧ q.right a n fin = false) ∨ (fin = true ∧ q.fin = true ∧ ((q.e.toNat : Int) != 0) = false ∧ q.right a n fin = false) ∨ (fin = true ∧ q.fin = true ∧ ((q.e.toNat : Int) != 0) = true ∧ q.right a n fin = true))) := by
    unfold Qu.right
    by_cases h1 : 0 ≤ a
    · by_cases h2 : 0 ≤ n
      · by_cases h3 : n ≤ q.sent
        · by_cases h4 : a ≤ q.sent - n
          · refine .inr (.inr (.inr (.inr ⟨h1, h2, h3, h4, ?_⟩)))
            cases fin
            · exact .inl ⟨rfl, by simp [h1, h2, h3, h4]⟩
            · cases hf : q.fin
              · exact .inr (.inl ⟨rfl, rfl, by simp⟩)
              · by_cases he : q.e = 0
                · exact .inr (.inr (.inl ⟨rfl, rfl, by rw [he]; rfl, by simp [he]⟩))
                · exact .inr (.inr (.inr ⟨rfl, rfl, by rw [bne_iff_ne]; exact fun h => he (u8_inj h), by simp [h1, h2, h3, h4, he]⟩))
          · exact .inr (.inr (.inr (.inl ⟨h1, h2, h3, h4, by simp [h4]⟩)))
        · exact .inr (.inr (.inl ⟨h1, h2, h3, by simp [h3]⟩))
      · exact .inr (.inl ⟨h1, h2, by simp [h2]⟩)
    · exact .inl ⟨h1, by simp [h1]⟩
  rcases cases with ⟨h1, hr⟩ | ⟨h1, h2, hr⟩ | ⟨h1, h2, h3, hr⟩ | ⟨h1, h2, h3, h4, hr⟩ | ⟨h1, h2, h3, h4, ⟨rfl, hr⟩ | ⟨rfl, hf, hr⟩ | ⟨rfl, hf, he, hr⟩ | ⟨rfl, hf, he, hr⟩⟩
  all_goals
    have HR := Lib.hid hr
    clear hr
    have f1 : 0 ≤ n → n ≤ (q.sent : Int) → IntKind.i64.wrap ((q.sent : Int) - n) = (q.sent : Int) - n := fun _ _ => by rw [IntKind.wrap_i64]; omega
    try rw [hf] at c5
    go_enter Try.func26, Try.ntmps26
    go_wp2
    go_ret
    exact ⟨by rw [HR.out]; rfl, rfl⟩

/-- Finish -/
def Qu.finish (q : Qu) : Qu := { q with fin := true }
theorem finish_any (w : World) {F : Nat → Prop} {g : Nat} {q : Qu} (h : QAt F w g q) :
    Calls Try.prog 18 #[.pointer (some ⟨g, 0, none⟩)] w fun e w' => e = .returned (.int .i64 q.werr) ∧ Kept F w w' ∧ QAt F w' g q.finish := by
  have hQ := h
  obtain ⟨da, dc, sa, sc, hb, F1, F2, F3⟩ := h
  have c5 := hb.has.cell 5 rfl
  have c5f := hb.has.free 5
  by_cases hf : q.fin = true
  · have HE : Hid (q.werr = 40) := Lib.hid (by unfold Qu.werr; rw [if_pos hf])
    have HQ : Hid (q.finish = q) := Lib.hid (by unfold Qu.finish; rw [← hf])
    rw [hf] at c5
    clear hf
    go_enter Try.func18, Try.ntmps18
    go_wp2
    go_ret
    exact ⟨by rw [HE.out]; rfl, Kept.refl _ _, by rw [HQ.out]; exact hQ⟩
  · have HE : Hid (q.werr = 0) := Lib.hid (by unfold Qu.werr; rw [if_neg hf])
    have hf' : q.fin = false := by simpa using hf
    rw [hf'] at c5
    clear hf hf'
    go_enter Try.func18, Try.ntmps18
    go_wp2
    go_ret
    have k := Kept.set w g 5 (.bool true)
    refine ⟨by rw [HE.out]; rfl, k.more (fun j _ e => by rw [e]; exact F1), da, dc, sa, sc, ⟨hb.has.set 5 _, own_kept' hb.d k (fun ad ha e => hb.dg ad ha e), own_kept' hb.s k (fun ad ha e => hb.sg ad ha e), hb.dg, hb.sg, hb.ds⟩, F1, F2, F3⟩

/-- the places from lo up to hi turned by f -/
def mapped (l : List UInt8) (lo hi : Nat) (f : UInt8 → UInt8) : List UInt8 := l.mapIdx fun i x => if lo ≤ i ∧ i < hi then f x else x
theorem mapped_len (l : List UInt8) (lo hi : Nat) (f : UInt8 → UInt8) : (mapped l lo hi f).length = l.length := by simp [mapped]
theorem mapped_get (l : List UInt8) (lo hi : Nat) (f : UInt8 → UInt8) (i : Nat) : (mapped l lo hi f)[i]? = if lo ≤ i ∧ i < hi then l[i]?.map f else l[i]? := by
  unfold mapped
  rw [List.getElem?_mapIdx]
  split
  · simp [*]
  · simp [*]
theorem mapped_none (l : List UInt8) (lo : Nat) (f : UInt8 → UInt8) : mapped l lo lo f = l := by
  apply List.ext_getElem?
  intro i
  rw [mapped_get, if_neg (by omega)]
theorem mapped_succ (l : List UInt8) (lo k : Nat) (f : UInt8 → UInt8) (h : k < l.length) (hlo : lo ≤ k) : mapped l lo (k + 1) f = (mapped l lo k f).set k (f l[k]) := by
  apply List.ext_getElem?
  intro i
  rw [mapped_get, List.getElem?_set, mapped_len, mapped_get]
  by_cases hi : k = i
  · subst hi
    rw [if_pos rfl, if_pos h, if_pos (by omega), List.getElem?_eq_getElem h]; rfl
  · rw [if_neg hi]
    by_cases h2 : lo ≤ i ∧ i < k
    · rw [if_pos h2, if_pos (by omega)]
    · rw [if_neg h2, if_neg (by omega)]
def turnAck (_ : UInt8) : UInt8 := 3
def turnLose (x : UInt8) : UInt8 := if x = 1 then 2 else x
theorem ack1_any (w : World) (x : UInt8) : Calls Try.prog 29 #[.int .u8 (x.toNat : Int)] w fun e w' => e = .returned (.int .u8 ((turnAck x).toNat : Int)) ∧ w = w' := by
  go_enter Try.func29, Try.ntmps29
  go_wp2
  go_ret
  exact ⟨rfl, rfl⟩
theorem lose1_any (w : World) (x : UInt8) : Calls Try.prog 27 #[.int .u8 (x.toNat : Int)] w fun e w' => e = .returned (.int .u8 ((turnLose x).toNat : Int)) ∧ w = w' := by
  by_cases h : x = 1
  · subst h
    go_enter Try.func27, Try.ntmps27
    go_wp2
    go_ret
    exact ⟨rfl, rfl⟩
  · have hd : ((x.toNat : Int) == 1) = false := by rw [beq_eq_false_iff_ne]; exact fun e => h (u8_inj e)
    have HT : Hid (turnLose x = x) := Lib.hid (by unfold turnLose; rw [if_neg h])
    clear h
    go_enter Try.func27, Try.ntmps27
    go_wp2
    go_ret
    exact ⟨by rw [HT.out]; rfl, rfl⟩
end Go.Proofs.Ytkjclgpecppokaa

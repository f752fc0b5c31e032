/- slices.Reverse at spans: the library's contract at this translation, one application of a theorem of the kit's. No condition. -/
import Derived.Shelf.SlicesQ.Reverse
import Derived.Test.YtppkilkfmclpkaaFrSt
namespace Go.Proofs.Ytppkilkfmclpkaa
open Go.RowKit
def revRen : Go.Shelf.Ren := ⟨fun | 35 => 76 | n => n, fun | 22 => 23 | 23 => 53 | n => n, fun | n => n⟩
theorem revLay : SlLaysE0.n35 Try.prog revRen := {
  mixed := by kernel_rfl
  f35 := ⟨Try.f76.name, by decide, Try.func76.trans (congrArg some (by kernel_rfl))⟩
  t0 := Try.underlying0
  a0 := Try.isAgg0
  z0 := Try.sizeOf0
  v0 := Try.zeroValue0
  t3 := Try.underlying3
  a3 := Try.isAgg3
  z3 := Try.sizeOf3
  v3 := Try.zeroValue3
  t4 := Try.underlying4
  a4 := Try.isAgg4
  z4 := Try.sizeOf4
  v4 := Try.zeroValue4
  t22 := Try.underlying23
  a22 := Try.isAgg23
  z22 := Try.sizeOf23
  v22 := Try.zeroValue23 }

instance : Inhabited Sn := ⟨⟨0, 0⟩⟩
theorem flat_sv (l : List Sn) : Go.Sort.flatK scells 2 l.toArray = (sv l).toArray := by
  apply Go.Sort.ext_get!
  · simp [sv_length]
  · intro t ht
    have ht2 : t < l.length * 2 := by simpa using ht
    rw [Go.Sort.get_flatK _ _ _ _ (by simpa using ht2)]
    have h2 : t / 2 < l.length := by omega
    have h3 := sv_get l (t / 2) (t % 2) h2 (by omega)
    rw [show t / 2 * 2 + t % 2 = t by omega] at h3
    have e1 : l.toArray[t / 2]! = l[t / 2] := by rw [getElem!_pos _ _ (by simpa using h2)]; simp
    rw [e1, getElem!_pos (scells _) (t % 2) (by simp [scells]; omega), getElem!_pos _ t (by simpa [sv_length] using ht2)]
    rw [List.getElem?_eq_getElem (by rw [sv_length]; exact ht2), List.getElem?_eq_getElem (by simp [scells]; omega)] at h3
    simp only [Option.some.injEq] at h3
    rw [← h3]
    simp
theorem sv_append : ∀ l m : List Sn, sv (l ++ m) = sv l ++ sv m
  | [], _ => rfl
  | x :: r, m => by simp [sv, sv_append r m]
/-- spans of one's own turned round -/
def RevR (w : World) (B : Nat) (a : Option Addr) (c : Nat) (l : List Sn) (e : Ending) (w' : World) : Prop := e = .returned (.tuple #[]) ∧ Sps w' B a c l.reverse ∧ Kept (fun k => blk a k) w w'
theorem put_take (cur F : Array Value) (n : Nat) (hF : F.size = n) (hn : n ≤ cur.size) : ((Go.Sort.putCells id 0 F cur).toList.take n) = F.toList := by
  apply List.ext_getElem?
  intro i
  rw [List.getElem?_take]
  by_cases hi : i < n
  · rw [if_pos hi]
    simp only [Go.Sort.putCells, Array.getElem?_toList, Array.getElem?_mapIdx]
    rw [Array.getElem?_eq_getElem (show i < cur.size by omega), Array.getElem?_eq_getElem (show i < F.size by omega)]
    simp only [Option.map_some, id]
    rw [if_pos ⟨by omega, by omega⟩, Nat.sub_zero, getElem!_pos F i (by omega)]
  · rw [if_neg hi, List.getElem?_eq_none (by simp; omega)]
theorem rev_any (w : World) {B : Nat} {a : Option Addr} {c : Nat} {l : List Sn} (h : Sps w B a c l) :
    Calls Try.prog 76 #[.slice a l.length c] w (RevR w B a c l) := by
  by_cases h0 : l = []
  · subst h0
    exact (AnyQ.slices_Reverse_empty revLay a c w).mono fun e w' ⟨he, hw⟩ => by
      subst hw
      exact ⟨he, h, Kept.refl _ _⟩
  · have hpos : 0 < l.length := List.length_pos_iff.2 h0
    rcases h.2 with ⟨hv, hz⟩ | ⟨g, cap, cur, hv, hB, hg, hnc, hcm, hcs, ht⟩
    · omega
    · simp only [Value.slice.injEq, true_and] at hv
      obtain ⟨rfl, rfl⟩ := hv
      have hcs2 : l.length * 2 ≤ cur.size := by have : l.length * 2 ≤ c * 2 := Nat.mul_le_mul_right _ hnc; omega
      have hH : Go.Sort.HoldsK scells 2 w g 0 l.toArray := by
        unfold Go.Sort.HoldsK
        rw [flat_sv]
        intro j hj
        have hj2 : j < l.length * 2 := by simpa [sv_length] using hj
        refine ⟨?_, by simp [World.frozen?, hg]⟩
        rw [Nat.zero_add, cell_of_row w g j cur _ _ hg, getElem!_pos (sv l).toArray j hj]
        have e1 : (sv l)[j]? = cur[j]? := by
          rw [← ht, List.getElem?_take, if_pos hj2, Array.getElem?_toList]
        have e2 : (sv l)[j]? = some ((sv l)[j]'(by rw [sv_length]; exact hj2)) := List.getElem?_eq_getElem _
        rw [← e1, e2]
        rfl
      have hmax : l.toArray.size ≤ 9223372036854775807 := by simp only [maxLen] at hcm; simp; omega
      have := AnyQ.slices_Reverse revLay 2 Try.isAgg53 Try.sizeOf53 scells (fun _ => rfl) (fun x v hv => by simp [scells] at hv; rcases hv with rfl | rfl <;> rfl) g 0 c l.toArray w hH hmax
      refine this.mono fun e w' hw => ?_
      obtain ⟨he, n, hw⟩ := hw
      have hk : Kept (fun k => blk (some ⟨g, 0, none⟩) k) w w' := by
        rw [hw]
        refine ⟨rfl, rfl, rfl, by simp [Go.Sort.putRowK, Go.Sort.putRow, Go.Sort.mapBlock, Go.Sort.ahead], fun k hk hx => ?_⟩
        simp only [Go.Sort.putRowK, Go.Sort.putRow, Go.Sort.mapBlock, Go.Sort.ahead]
        rw [Array.getElem?_modify, if_neg (fun e => hx ⟨_, rfl, e⟩)]
      refine ⟨he, ⟨?_, .inr ⟨g, c, Go.Sort.putCells id 0 (sv l.reverse).toArray cur, by simp, hB, ?_, by simpa using hnc, hcm, ?_, ?_⟩⟩, hk⟩
      · simp [sv_length]
      · rw [hw]
        have e : (l.toArray.reverse : Array Sn) = l.reverse.toArray := by simp
        rw [e]
        simp only [Go.Sort.putRowK, Go.Sort.putRow, Go.Sort.mapBlock, Go.Sort.ahead, flat_sv]
        rw [Array.getElem?_modify, if_pos rfl, hg]
        rfl
      · simpa [Go.Sort.putCells] using hcs
      · simp only [List.length_reverse]
        exact put_take cur _ _ (by simp [sv_length]) hcs2
end Go.Proofs.Ytppkilkfmclpkaa

/- turnpikeref19.Trim: blanks and tabs around a text taken away; the library's strings.Trim at that set. No condition. -/
import Derived.Test.YtfffefhchjnfjaaGreatDoorHoSmall
import Derived.Test.YtfffefhchjnfjaaGreatDoorShelf
import Derived.Shelf.Strings.SlTrimAscii
namespace Go.Proofs.YtfffefhchjnfjaaGreatDoor
open Go.RowKit

def ws (b : UInt8) : Bool := b == 32 || b == 9
/-- blanks and tabs around taken away -/
def trimL (l : List UInt8) : List UInt8 := (((l.dropWhile ws).reverse).dropWhile ws).reverse
theorem rdrop_cons (p : UInt8 → Bool) (a : UInt8) (r : List UInt8) : ((a :: r).reverse.dropWhile p).reverse = if (r.reverse.dropWhile p) = [] then (if p a = true then [] else [a]) else a :: (r.reverse.dropWhile p).reverse := by
  rw [List.reverse_cons, List.dropWhile_append]
  split
  · rename_i h
    have h' : r.reverse.dropWhile p = [] := by simpa using h
    rw [if_pos h']
    by_cases hp : p a = true
    · simp [hp]
    · simp [hp]
  · rename_i h
    have h' : ¬ r.reverse.dropWhile p = [] := by simpa using h
    rw [if_neg h']
    simp
theorem drop_comm (p : UInt8 → Bool) : ∀ l : List UInt8, (l.reverse.dropWhile p).reverse.dropWhile p = ((l.dropWhile p).reverse.dropWhile p).reverse
  | [] => rfl
  | a :: r => by
    rw [rdrop_cons]
    by_cases hp : p a = true
    · have h2 : (a :: r).dropWhile p = r.dropWhile p := by simp [hp]
      rw [h2, ← drop_comm p r]
      split
      · rename_i h
        rw [h]
        rfl
      · rename_i h
        simp [hp]
    · have h2 : (a :: r).dropWhile p = a :: r := by simp [hp]
      rw [h2, rdrop_cons]
      split
      · rename_i h
        simp [hp]
      · simp [hp]
theorem ws_set : (fun b => ([32, 9] : List UInt8).contains b) = ws := by
  funext b
  simp [ws]
  rfl
theorem trimS_eq (l : List UInt8) : Lib.trimS l [32, 9] = trimL l := by
  unfold Lib.trimS Lib.trimLeftS Lib.trimRightS trimL
  have h := drop_comm ws l
  rw [← ws_set] at h ⊢
  exact h
theorem info256 : (Tryz.prog.info? 102).map (fun i => (i.zero, i.size)) = some (some (.agg (Array.replicate 256 (.bool false))), 256) := by kernel_rfl
set_option maxRecDepth 100000 in
theorem strim_any (w : World) (s : ByteArray) (hs : s.size ≤ 9223372036854775807) : Calls Tryz.prog 45 #[.string s, .string ⟨#[32, 9]⟩] w (StrOf w (trimL (bl s))) := by
  refine (Any.strings_Trim_laid Tryz.lays160 info256 s ⟨#[32, 9]⟩ w hs (by decide) (ascii_of_all (by decide))).mono ?_
  rintro e w' ⟨rfl, hb⟩
  refine ⟨?_, hb⟩
  rw [← trimS_eq]
  rfl
theorem idx0 (w : World) (b : UInt8) (r : List UInt8) : (Instr.index 9 (.string (strB (b :: r))) (.int .i64 0)).run Tryz.prog w = .ok (.int .u8 (b.toNat : Int)) w := by
  have h : (strB (b :: r))[0]? = some b := rfl
  simp [go_sem, Instr.index, h]
theorem idxS (w : World) (l : List UInt8) (i : Nat) (h : i < l.length) : (Instr.index 9 (.string (strB l)) (.int .i64 (i : Int))).run Tryz.prog w = .ok (.int .u8 (l[i].toNat : Int)) w := by
  have h2 : (strB l)[i]? = some l[i] := by
    have h3 : i < (strB l).size := by rw [strB_size]; exact h
    rw [getElem?_pos (strB l) i h3]
    rfl
  simp [go_sem, Instr.index, h2]
end Go.Proofs.YtfffefhchjnfjaaGreatDoor

/- Contract of turnpikeref01.Join: pieces one behind the other, in new memory. -/
import Derived.Test.YtbplmnmkgkgkhaaCopy
namespace Go.Proofs.Ytbplmnmkgkgkhaa
open Go.RowKit

/-- a piece: where it lies, and its bytes -/
structure Piece where
  a : Option Addr
  n : Nat
  c : Nat
  l : List UInt8
def Piece.val (p : Piece) : Value := .slice p.a p.n p.c
def joined (ps : List Piece) : List UInt8 := ps.flatMap Piece.l
theorem joined_take (ps : List Piece) (k : Nat) (h : k < ps.length) : joined (ps.take (k + 1)) = joined (ps.take k) ++ ps[k].l := by
  unfold joined
  rw [List.take_succ_eq_append_getElem h, List.flatMap_append]
  simp only [List.flatMap_cons, List.flatMap_nil, List.append_nil]
theorem joined_take_len (ps : List Piece) (k : Nat) : (joined (ps.take k)).length ≤ (joined ps).length := by
  have h : joined (ps.take k) ++ joined (ps.drop k) = joined ps := by
    unfold joined; rw [← List.flatMap_append, List.take_append_drop]
  rw [← h]; simp

set_option maxRecDepth 100000 in
set_option maxHeartbeats 1000000 in
theorem join_any (w : World) {a : Option Addr} {n c : Nat} {ps : List Piece} (h : Sl w a n c (ps.map Piece.val)) (hp : ∀ p ∈ ps, Sl w p.a p.n p.c (bv p.l))
    (hsum : (joined ps).length ≤ 140737488355328) :
    Calls Try.prog 13 #[.slice a n c] w (RetB w (joined ps)) := by
  have hl1 : ps.length ≤ n := by have := h.len; simp at this; omega
  have hl2 : n ≤ ps.length := by have := h.len; simp at this; omega
  have hcm : n ≤ 9223372036854775807 := by have := h.cap_le; have := h.cap_max; unfold maxLen at this; omega
  have HP := Lib.hid hp
  clear hp
  go_enter Try.func13, Try.ntmps13
  go_wp2_with fail
  go_loopw [3, 4] (fun o i wr => ∃ (k : Nat) (a' : Option Addr) (c' : Nat), k ≤ n ∧ i = .int .i64 k ∧ o = .slice a' (joined (ps.take k)).length c' ∧
    wr.ownsRow w.heap.size 5 1 (.slice a' (joined (ps.take k)).length c') (joined (ps.take k)).length (bv (joined (ps.take k))) ∧ Below w.heap.size w wr) (fun _ i _ => n - (intOf i).toNat)
  case atStart =>
    exact ⟨0, some ⟨w.heap.size, 0, none⟩, 0, by omega, rfl, rfl, World.ownsRow_lit w #[] 0 (Nat.le_refl _) (by decide) rfl, (Below.refl _ _).alloc (Nat.le_refl _) _⟩
  case round =>
    obtain ⟨k, a', c', hk, rfl, rfl, ho, hb⟩ := hrel
    have hz := hb.size
    by_cases hlt : k < n
    · have hkl : k < ps.length := by omega
      have HT := Lib.hid (joined_take ps k hkl)
      have hle := joined_take_len ps (k + 1)
      have hlk : (joined (ps.take k)).length + ps[k].l.length = (joined (ps.take (k + 1))).length := by rw [HT.out]; simp
      have hsp := (HP.out ps[k] (List.getElem_mem hkl)).below hb
      have hspl : ps[k].l.length = ps[k].n := hsp.byte
      obtain ⟨b, off, rfl, hc⟩ := h.cells (by omega)
      have g1 := hc k hlt
      rw [List.getElem?_map, List.getElem?_eq_getElem hkl, Option.map_some] at g1
      have q1 : wr.cell? ⟨b, off + k, none⟩ = some (.slice ps[k].a ps[k].n ps[k].c) := by rw [hb.cell (World.block_lt_of_cell? w _ g1)]; exact g1
      clear g1 hc
      have kk : (k : Int) < (n : Int) := by omega
      have hbnd : (joined (ps.take k)).length + ps[k].n ≤ 140737488355328 := by omega
      have HLK : Hid ((joined (ps.take (k + 1))).length = (joined (ps.take k)).length + ps[k].n) := by show _ = _; omega
      clear hlk hspl hle
      generalize ps[k] = pk at hsp q1 hbnd HT HLK
      generalize joined (ps.take k) = J at ho hbnd HT HLK ⊢
      go_wp2_with (at_builtin; refine wpL_app tyU8 rfl _ _ rfl rfl rfl ho hsp (bv_one _) (by omega) (by unfold maxLen; omega) hb (Nat.le_refl _) hz ?_; intro a4 c4 w4 ho4 hb4 _)
      go_roundw
      case rel =>
        refine ⟨k + 1, a4, c4, by omega, by go_num, by rw [HLK.out], ?_, hb4⟩
        rw [HLK.out, HT.out, bv_append]
        exact ho4
      case measure => simp [intOf]; omega
    · have hE : ps.take k = ps := List.take_of_length_le (by omega)
      rw [hE] at ho ⊢
      clear hE
      go_wp2
      go_ret
      exact RetB.mk rfl ho rfl hb
end Go.Proofs.Ytbplmnmkgkgkhaa

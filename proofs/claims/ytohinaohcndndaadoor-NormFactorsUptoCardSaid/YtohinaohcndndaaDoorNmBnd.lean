/- What Check answers is bounded by what came in. Plain. -/
import Derived.Test.YtohinaohcndndaaDoorNmMade
namespace Go.Proofs.YtohinaohcndndaaDoor
open Go.RowKit

theorem natV_lt {l : List UInt8} (h : l.all digC = true) : ∀ i, i ≤ l.length → natV (l.take i) < 10 ^ i
  | 0, _ => by simp [natV]
  | i + 1, hi => by
    have ih := natV_lt h i (by omega)
    have hl : i < l.length := by omega
    have hd : digC l[i] = true := (List.all_eq_true.1 h) _ (List.getElem_mem hl)
    rw [natV_on hl]
    refine pow_on ih ?_
    simp [digC] at hd
    omega
theorem lenL_lt (l : List UInt8) : -1 ≤ lenL l ∧ lenL l < 1000000000000000 := by
  unfold lenL
  split
  · omega
  · split
    · rename_i h1 h2
      have h := natV_lt h2 l.length (Nat.le_refl _)
      rw [List.take_length] at h
      have := pow_le15 h (by omega)
      omega
    · omega
theorem last_lt : ∀ (l : List Fd) (z : Int), (-1 ≤ z ∧ z < 1000000000000000) → -1 ≤ l.foldl lastL' z ∧ l.foldl lastL' z < 1000000000000000
  | [], z, h => h
  | f :: r, z, h => last_lt r (lastL' z f) (by unfold lastL'; split; exact lenL_lt _; exact h)
theorem fdz_filter (p : Fd → Bool) : ∀ l : List Fd, fdz (l.filter p) ≤ fdz l
  | [] => Nat.le_refl _
  | f :: r => by
    have ih := fdz_filter p r
    rw [List.filter_cons]
    split <;> simp only [fdz] at ih ⊢ <;> omega
structure Bnd (r : Ck) : Prop where
  me : r.rq.me.size ≤ 1048576
  au : r.rq.au.size ≤ 1048576
  pa : r.rq.pa.size ≤ 1048576
  fs : fdz r.rq.fs ≤ 1048576
  lo : -1 ≤ r.rq.len
  hi : r.rq.len < 1000000000000000
theorem Bnd.bad (e : Int) : Bnd (Ck.bad e) := ⟨Nat.zero_le _, Nat.zero_le _, Nat.zero_le _, Nat.zero_le _, by simp [Ck.bad, rq0], by simp [Ck.bad, rq0]⟩
theorem getB_le {fs : List Fd} {n : List UInt8} (hz : fdz fs ≤ 1048576) : (getB (findF fs n)).size ≤ 1048576 := by
  cases h : findF fs n with
  | none => exact Nat.zero_le _
  | some v => exact find_le hz h
theorem chkEnd_bnd {fs : List Fd} (hz : fdz fs ≤ 1048576) {me sc pa au : ByteArray} (h1 : me.size ≤ 1048576) (h2 : pa.size ≤ 1048576) (h3 : au.size ≤ 1048576) : Bnd (chkEnd fs me sc pa au) := by
  unfold chkEnd
  split
  · exact Bnd.bad 182
  · have h := last_lt fs (-1) (by omega)
    exact ⟨h1, h3, h2, Nat.le_trans (fdz_filter _ _) hz, h.1, h.2⟩
theorem chkAut_bnd {fs : List Fd} (hz : fdz fs ≤ 1048576) {me sc pa : ByteArray} {o : Option ByteArray} (h1 : me.size ≤ 1048576) (h2 : pa.size ≤ 1048576) (h3 : ∀ v, o = some v → v.size ≤ 1048576) : Bnd (chkAut fs me sc pa o) := by
  unfold chkAut
  cases o with
  | none => exact Bnd.bad 183
  | some au =>
    simp only
    split
    · exact Bnd.bad 182
    · exact chkEnd_bnd hz h1 h2 (h3 au rfl)
theorem chkHost_bnd {fs : List Fd} (hz : fdz fs ≤ 1048576) {me sc pa : ByteArray} {o : Option ByteArray} (h1 : me.size ≤ 1048576) (h2 : pa.size ≤ 1048576) (h3 : ∀ v, o = some v → v.size ≤ 1048576) : Bnd (chkHost fs me sc pa o) := by
  unfold chkHost
  cases o with
  | none => exact chkAut_bnd hz h1 h2 (fun v h => find_le hz h)
  | some au => exact chkAut_bnd hz h1 h2 h3
theorem chkM_bnd {fs : List Fd} (hz : fdz fs ≤ 1048576) : Bnd (chkM fs) := by
  unfold chkM
  cases hm : findF fs metS with
  | none => exact Bnd.bad 183
  | some me =>
    have h1 := find_le hz hm
    simp only
    split
    · exact Bnd.bad 182
    · split
      · split
        · exact Bnd.bad 182
        · split
          · exact Bnd.bad 183
          · exact chkHost_bnd hz h1 (getB_le hz) (fun v h => find_le hz h)
      · split
        · exact Bnd.bad 183
        · split
          · exact Bnd.bad 182
          · exact chkHost_bnd hz h1 (getB_le hz) (fun v h => find_le hz h)
theorem chkF_bnd {fs : List Fd} (hz : fdz fs ≤ 1048576) (cnt sz : Int) : Bnd (chkF fs cnt sz) := by
  unfold chkF
  split
  · exact Bnd.bad _
  · split
    · exact Bnd.bad _
    · exact chkM_bnd hz
/-- what the head's walk asks for -/
theorem head_bnd {r : Rq} (h1 : r.me.size ≤ 1048576) (h2 : r.au.size ≤ 1048576) (h3 : r.pa.size ≤ 1048576) (hz : fdz r.fs ≤ 1048576) (h4 : -1 ≤ r.len) (h5 : r.len < 1000000000000000) (body : Bool) : (cookL r.fs).length ≤ 4194304 ∧ (headL r body).1.length ≤ 140737488355328 := by
  have hn := fdz_len r.fs
  have hf := fsz_fdz r.fs
  have hc : (cookL r.fs).length ≤ 4194304 := by
    have h := cook_len (l := r.fs) r.fs.length (Nat.le_refl _)
    rw [List.take_length] at h
    omega
  refine ⟨hc, ?_⟩
  unfold headL
  split
  · exact Nat.zero_le _
  · have e1 := headF_len (cookL r.fs) false r.fs
    have e2 : r.fs.length * (4 + (cookL r.fs).length) ≤ 1048576 * (4 + 4194304) := Nat.mul_le_mul (by omega) (Nat.add_le_add_left hc 4)
    have e3 : (framT r body).length ≤ 60 := by
      unfold framT
      split
      · have h := Lib.itoa_length_le (max r.len 0) (by omega) (by omega)
        simp only [List.length_append, List.length_cons, List.length_nil]
        omega
      · split
        · decide
        · decide
    have e4 : viaT.length = 19 := rfl
    rw [bl_size] at h1 h2 h3
    simp only [List.length_append, head1, head2, List.length_cons, List.length_nil]
    omega
end Go.Proofs.YtohinaohcndndaaDoor

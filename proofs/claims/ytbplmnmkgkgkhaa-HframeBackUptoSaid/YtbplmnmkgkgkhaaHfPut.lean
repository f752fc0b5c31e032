/- Contracts of hframe's numbers, Frame, PutGoaway and of the document's Frame. The numbers must have a form. -/
import Derived.Test.YtbplmnmkgkgkhaaVnPut
import Derived.Test.YtbplmnmkgkgkhaaJoin
namespace Go.Proofs.Ytbplmnmkgkgkhaa
open Go.RowKit

theorem RetBE.mk {w w' : World} {r : List UInt8 × Int} {a : Option Addr} {c n : Nat} {k : Int} {xs : List Value} {e : Ending} (h : e = .returned (.tuple #[.slice a n c, .int .i64 k])) (hk : r.2 = k)
    (ho : w'.ownsRow w.heap.size 5 1 (.slice a n c) n xs) (hx : bv r.1 = xs) (hb : Below w.heap.size w w') : RetBE w.heap.size w r e w' := by
  have hn : r.1.length = n := by have := ho.1; rw [← hx, bv_length] at this; omega
  subst hx; subst hn; subst hk
  exact ⟨a, c, h, ho, hb⟩
theorem RetBE.none' {w w' : World} {k : Int} {e : Ending} (h : e = .returned (.tuple #[.slice none 0 0, .int .i64 k])) (hb : Below w.heap.size w w') : RetBE w.heap.size w ([], k) e w' :=
  ⟨none, 0, h, World.ownsRow_nil _ _ _ _, hb⟩
def nats (l : List Nat) : List Value := l.map fun (x : Nat) => Value.int .i64 (x : Int)
theorem nats_length (l : List Nat) : (nats l).length = l.length := by simp [nats]
theorem nats_get (l : List Nat) (i : Nat) (h : i < l.length) : (nats l)[i]? = some (.int .i64 (l[i] : Int)) := by simp [nats, h]
/-- numbers one behind the other -/
def numsB (l : List Nat) : List UInt8 := l.flatMap vl
theorem numsB_take (l : List Nat) (k : Nat) (h : k < l.length) : numsB (l.take (k + 1)) = numsB (l.take k) ++ vl l[k] := by
  unfold numsB
  rw [List.take_succ_eq_append_getElem h, List.flatMap_append]
  simp
theorem numsB_len : ∀ l : List Nat, (numsB l).length ≤ l.length * 8
  | [] => by simp [numsB]
  | x :: r => by
    have h1 := (szN_pos x).2
    have h2 := numsB_len r
    have h3 := vl_length x
    simp only [numsB, List.flatMap_cons, List.length_append, List.length_cons] at h2 ⊢
    omega
theorem numsB_one (a : Nat) : numsB [a] = vl a := by simp [numsB]
theorem numsB_two (a b : Nat) : numsB [a, b] = vl a ++ vl b := by simp [numsB]

set_option maxRecDepth 100000 in
set_option maxHeartbeats 1000000 in
theorem numbers_any (w : World) {a : Option Addr} {n c : Nat} {l : List Nat} (h : Sl w a n c (nats l)) (hl : l.length ≤ 1048576) (hx : ∀ x ∈ l, x < 4611686018427387904) :
    Calls Try.prog 24 #[.slice a n c] w (RetB w (numsB l)) := by
  have hn : n = l.length := by have := h.len; rw [nats_length] at this; exact this.symm
  subst hn
  have hcap := h.cap_le
  have hcm := h.cap_max
  have hcm' : (c : Int) ≤ 9223372036854775807 := by unfold maxLen at hcm; omega
  have HS := Lib.hid h
  have HX := Lib.hid hx
  clear h hx hcm
  go_enter Try.func24, Try.ntmps24
  go_wp2_with fail
  go_loopw [3, 10] (fun bv' iv wr => ∃ (k : Nat) (a' : Option Addr) (c' n' : Nat), iv = .int .i64 (k : Int) ∧ bv' = .slice a' n' c' ∧ k ≤ l.length ∧ n' = (numsB (l.take k)).length ∧ wr.ownsRow w.heap.size 5 1 (.slice a' n' c') n' (bv (numsB (l.take k))) ∧ Below w.heap.size w wr) (fun _ iv _ => l.length - (intOf iv).toNat)
  case atStart => exact ⟨0, none, 0, 0, rfl, rfl, Nat.zero_le _, rfl, World.ownsRow_nil _ _ _ _, Below.refl _ _⟩
  case round =>
    obtain ⟨k, a', c', n', rfl, rfl, hk, hn', ho, hb⟩ := hrel
    have HN := Lib.hid hn'
    clear hn'
    by_cases hkl : k < l.length
    · have hkl' : (k : Int) < (l.length : Int) := by omega
      have g2 : IntKind.i64.wrap ((k : Int) + 1) = (k : Int) + 1 := by rw [IntKind.wrap_i64]; omega
      obtain ⟨b, off, rfl, hc⟩ := HS.out.cells (by omega)
      have hc0 := hc k hkl
      rw [nats_get l k hkl] at hc0
      have q1 := (hb.cell (World.block_lt_of_cell? _ _ hc0)).trans hc0
      have HT := Lib.hid (numsB_take l k hkl)
      have hxk := HX.out _ (List.getElem_mem hkl)
      have hbl := numsB_len (l.take k)
      rw [← HN.out] at hbl
      have hbl2 : (l.take k).length ≤ 1048576 := by rw [List.length_take]; omega
      have hsz := (szN_pos l[k]).2
      generalize l[k] = x at q1 HT hxk hsz
      have HP := Lib.hid (put_any wr x hxk)
      have hvl := vl_length x
      have z := hb.size
      clear hc hc0 hxk
      go_wp2_with fail
      refine HP.out.mono ?_
      rintro e w2 ⟨pa, pc, rfl, hpo, hb2⟩
      have ho2 := own_below ho hb2
      have hb22 := hb.trans (hb2.mono hb.size)
      have hps := own_sl hpo
      simp only at hps
      have hvx : (vl x).length ≤ 8 := by omega
      obtain ⟨m, hm⟩ : ∃ m, m = (vl x).length := ⟨_, rfl⟩
      simp only
      rw [← hm] at hps hvx ⊢
      have HMm := Lib.hid hm
      have z2 := hb22.size
      clear hvl hb2 hpo hm
      go_wp2_with (at_builtin; refine wpL_app tyU8 rfl _ _ rfl rfl rfl ho2 hps (bv_one _) (by omega) (by unfold maxLen; omega) hb22 (Nat.le_refl _) z2 ?_; intro a4 c4 w4 ho4 hb4 _)
      go_roundw
      case rel =>
        refine ⟨k + 1, a4, c4, n' + m, by push_cast; rfl, rfl, by omega, by rw [HT.out, List.length_append, ← HN.out, ← HMm.out], ?_, hb4⟩
        rw [HT.out, bv_append]
        exact ho4
      case measure => simp [intOf]; omega
    · have hE : l.take k = l := List.take_of_length_le (by omega)
      have hkl' : ¬ (k : Int) < (l.length : Int) := by omega
      rw [hE] at ho
      go_wp2
      go_ret
      exact RetB.mk rfl ho rfl hb
/-- a frame, or the error's number -/
def frB (kind : Int) (p : List UInt8) : List UInt8 × Int :=
  if kind < 0 ∨ 4611686018427387903 < kind then ([], 10) else if 1048576 < p.length then ([], 52) else (vl kind.toNat ++ (vl p.length ++ p), 0)
theorem sl_two {w : World} {t : TypeId} {u v : Value} : Sl (w.alloc (.cells #[u, v] t)) (some ⟨w.heap.size, 0, none⟩) 2 2 [u, v] := by
  refine ⟨rfl, Nat.le_refl _, by decide, by simp, fun _ => ⟨_, 0, rfl, fun i hi => ?_⟩⟩
  have hN : Has (w.alloc (.cells #[u, v] t)) w.heap.size t [u, v] := Has.new _ _ _
  have : i = 0 ∨ i = 1 := by omega
  rcases this with rfl | rfl
  · exact hN.cell 0 rfl
  · exact hN.cell 1 rfl
theorem sl_one {w : World} {t : TypeId} {u : Value} : Sl (w.alloc (.cells #[u] t)) (some ⟨w.heap.size, 0, none⟩) 1 1 [u] := by
  refine ⟨rfl, Nat.le_refl _, by decide, by simp, fun _ => ⟨_, 0, rfl, fun i hi => ?_⟩⟩
  have hN : Has (w.alloc (.cells #[u] t)) w.heap.size t [u] := Has.new _ _ _
  obtain rfl : i = 0 := by omega
  exact hN.cell 0 rfl

set_option maxRecDepth 100000 in
set_option maxHeartbeats 1000000 in
theorem frame_any (w : World) (kind : Int) {a : Option Addr} {n c : Nat} {p : List UInt8} (h : Sl w a n c (bv p)) :
    Calls Try.prog 10 #[.int .i64 kind, .slice a n c] w (RetBE w.heap.size w (frB kind p)) := by
  have hn := h.byte
  subst hn
  by_cases hk : kind < 0 ∨ 4611686018427387903 < kind
  · have e : frB kind p = ([], 10) := if_pos hk
    rw [e]
    have hc : kind < 0 ∨ (¬ kind < 0 ∧ 4611686018427387903 < kind) := by omega
    clear hk e
    rcases hc with h1 | ⟨h1, h2⟩
    all_goals
      go_enter Try.func10, Try.ntmps10
      go_wp2
      go_ret2
      exact RetBE.none' rfl (Below.refl _ _)
  · obtain ⟨k, rfl⟩ := Int.eq_ofNat_of_zero_le (show 0 ≤ kind by omega)
    have k1 : ¬ (k : Int) < 0 := by omega
    have k2 : ¬ (4611686018427387903 : Int) < (k : Int) := by omega
    have hk62 : k < 4611686018427387904 := by omega
    by_cases hp : 1048576 < p.length
    · have e : frB (k : Int) p = ([], 52) := by unfold frB; rw [if_neg hk, if_pos hp]
      rw [e]
      have hp' : (1048576 : Int) < (p.length : Int) := by omega
      clear hk e
      go_enter Try.func10, Try.ntmps10
      go_wp2
      go_ret2
      exact RetBE.none' rfl (Below.refl _ _)
    · have HE : Hid (frB (k : Int) p = (vl k ++ (vl p.length ++ p), 0)) := Lib.hid (by unfold frB; rw [if_neg hk, if_neg hp]; rfl)
      have hp' : ¬ (1048576 : Int) < (p.length : Int) := by omega
      have HN : Hid (∀ t, Calls Try.prog 24 #[.slice (some ⟨w.heap.size, 0, none⟩) 2 2] (w.alloc (.cells #[.int .i64 (k : Int), .int .i64 (p.length : Int)] t)) (RetB (w.alloc (.cells #[.int .i64 (k : Int), .int .i64 (p.length : Int)] t)) (vl k ++ vl p.length))) := Lib.hid (fun t => by
        have := numbers_any (w.alloc (.cells #[.int .i64 (k : Int), .int .i64 (p.length : Int)] t)) (l := [k, p.length]) sl_two (by simp) (by
          intro x hx
          simp only [List.mem_cons, List.not_mem_nil, or_false] at hx
          rcases hx with rfl | rfl <;> omega)
        rwa [numsB_two] at this)
      have hvk := vl_length k
      have hvp := vl_length p.length
      have hk8 := (szN_pos k).2
      have hp8 := (szN_pos p.length).2
      have HS := Lib.hid h
      clear hk h
      go_enter Try.func10, Try.ntmps10
      go_wp2_with fail
      refine (HN.out _).mono ?_
      rintro e w2 ⟨na, nc, rfl, hno, hb2⟩
      have hal : Below w.heap.size w (w.alloc (.cells #[.int .i64 (k : Int), .int .i64 (p.length : Int)] 3)) := (Below.refl _ _).alloc (Nat.le_refl _) _
      have hb := hal.trans (hb2.mono (by simp))
      have ho2 := own_mono hno (show w.heap.size ≤ (w.alloc (.cells #[.int .i64 (k : Int), .int .i64 (p.length : Int)] 3)).heap.size by simp)
      have hsl := HS.out.below hb
      obtain ⟨m, hm⟩ : ∃ m, m = (vl k ++ vl p.length).length := ⟨_, rfl⟩
      have hm16 : m ≤ 16 := by rw [hm, List.length_append]; omega
      rw [← hm] at ho2 ⊢
      have HM := Lib.hid hm
      have z := hb.size
      clear hal hb2 hno hm hvk hvp
      go_wp2_with (at_builtin; refine wpL_app tyU8 rfl _ _ rfl rfl rfl ho2 hsl (bv_one _) (by omega) (by unfold maxLen; omega) hb (Nat.le_refl _) z ?_; intro a4 c4 w4 ho4 hb4 _)
      go_ret2
      refine RetBE.mk rfl (by rw [HE.out]) ho4 ?_ hb4
      rw [HE.out, ← bv_append, List.append_assoc]
end Go.Proofs.Ytbplmnmkgkgkhaa

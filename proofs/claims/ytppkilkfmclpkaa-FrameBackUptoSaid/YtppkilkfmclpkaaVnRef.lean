/- Contract of turnpikeref01.Put. No condition. -/
import Derived.Test.YtppkilkfmclpkaaVnClass
import Derived.Test.YtppkilkfmclpkaaCopy
import Derived.Test.YtppkilkfmclpkaaGrow
namespace Go.Proofs.Ytppkilkfmclpkaa
open Go.RowKit

theorem made_bytes (s : Nat) (z : UInt8) (hz : z = 0) : (madeCells #[.int .u8 0] (s * 1)).toList = bv (List.replicate s z ++ bd 0 0) := by
  subst hz
  apply List.ext_getElem?
  intro i
  simp only [madeCells, bv, bd, Nat.mul_one, List.append_nil, List.map_replicate, List.getElem?_replicate]
  simp [Nat.mod_one]
  by_cases h : i < s <;> simp [h]

set_option maxRecDepth 100000 in
set_option maxHeartbeats 1000000 in
theorem refput_any (w : World) (n : Nat) (h : n < 4611686018427387904) : Calls Try.prog 33 #[.int .i64 (n : Int)] w (RetB w (vl n)) := by
  have HS := Lib.hid (size_any w n h)
  obtain ⟨s, hs⟩ : ∃ s, s = szN n := ⟨_, rfl⟩
  have hsp := szN_pos n
  rw [← hs] at HS hsp
  obtain ⟨i, hi, hz, hsize, hby⟩ := tyU8.ex
  have fs : IntKind.i64.wrap ((s : Int) - 1) = (s : Int) - 1 := by rw [IntKind.wrap_i64]; omega
  have HE := Lib.hid hs
  clear hs
  go_enter Try.func33, Try.ntmps33
  go_wp2_with fail
  refine HS.out.mono ?_
  rintro e w2 ⟨rfl, hb2⟩
  go_wp2_with (refine wpList_make_full _ rfl (.tmp 8) (.tmp 8) _ rfl w2.heap.size 5 i (.int .u8 0) 1 tyU8.ht hi hz hsize .i64 .i64 _ _ s rfl rfl rfl rfl (by rw [hby]; omega) (by unfold maxLen; omega) (Nat.le_refl _) ?_; intro w3 ho3 hg3)
  have ho3' : w3.ownsRow w2.heap.size 5 1 (.slice (some ⟨w2.heap.size, 0, none⟩) s s) s (bv (List.replicate s 0 ++ bd 0 n)) := by rw [show (madeCells (Value.int .u8 0).cells (s * 1)).toList = _ from made_bytes s 0 rfl] at ho3; exact ho3
  have hb3 : Below w.heap.size w w3 := (hb2.grown hg3 hb2.size (fun k hk => by cases hk))
  obtain ⟨rb, hrb⟩ : ∃ rb, rb = w2.heap.size := ⟨_, rfl⟩
  rw [← hrb] at ho3' ⊢
  have hrB : w.heap.size ≤ rb := by rw [hrb]; exact hb2.size
  clear ho3 hg3 hb2 hrb
  go_wp2_with fail
  go_loopw [0, 5] (fun nv iv wr => ∃ k : Nat, nv = .int .i64 ((n / 256 ^ k : Nat) : Int) ∧ iv = .int .i64 ((s : Int) - 1 - k) ∧ k ≤ s ∧ wr.ownsRow rb 5 1 (.slice (some ⟨rb, 0, none⟩) s s) s (bv (List.replicate (s - k) 0 ++ bd k n)) ∧ Below w.heap.size w wr) (fun _ iv _ => (intOf iv + 1).toNat)
  case atStart => exact ⟨0, by simp, by simp, Nat.zero_le _, ho3', hb3⟩
  case round =>
    obtain ⟨k, rfl, rfl, hk, ho, hb⟩ := hrel
    clear ho3' hb3
    by_cases hks : k < s
    · obtain ⟨j, hj⟩ : ∃ j : Nat, j = s - 1 - k := ⟨_, rfl⟩
      have hji : (s : Int) - 1 - (k : Int) = (j : Int) := by omega
      have hjs : (j : Int) < (s : Int) := by omega
      have hj0 : (0 : Int) ≤ (j : Int) := by omega
      have fj : IntKind.i64.wrap ((j : Int) - 1) = (j : Int) - 1 := by rw [IntKind.wrap_i64]; omega
      rw [hji]
      obtain ⟨rb', hrb', hcell, hfz, _, _⟩ := own_cell ho (i := j) (by omega)
      cases hrb'
      have hset := own_set ho j (.int .u8 ((n / 256 ^ k % 256 : Nat) : Int))
      rw [hj, bd_set s k n hks, ← hj] at hset
      obtain ⟨x, hx⟩ : ∃ x, (bv (List.replicate (s - k) 0 ++ bd k n))[j]? = some x := ⟨_, List.getElem?_eq_getElem (by simp [bv, bd_length]; omega)⟩
      obtain ⟨m, hm⟩ : ∃ m, m = n / 256 ^ k := ⟨_, rfl⟩
      have hms : n / 256 ^ (k + 1) = m / 256 := by rw [hm, Nat.pow_succ, Nat.div_div_eq_div_mul]
      rw [← hm] at hset ⊢
      have fq : IntKind.i64.wrap ((m : Int).tdiv 256) = (m : Int) / 256 := by
        rw [Int.tdiv_eq_ediv_of_nonneg (by omega), IntKind.wrap_i64]
        have : m ≤ n := by rw [hm]; exact Nat.div_le_self _ _
        omega
      have fq2 : IntKind.i64.wrap ((m : Int) / 256) = (m : Int) / 256 := by
        rw [IntKind.wrap_i64]
        have : m ≤ n := by rw [hm]; exact Nat.div_le_self _ _
        omega
      have fr : (m : Int).tmod 256 = (m : Int) % 256 := Int.tmod_eq_emod_of_nonneg (by omega)
      have hb' : Below w.heap.size w (wr.setCell ⟨rb, j, none⟩ (.int .u8 ((m % 256 : Nat) : Int))) := hb.setCell (p := ⟨rb, j, none⟩) hrB _
      rw [hx] at hcell
      have HM := Lib.hid hms
      have HSet := Lib.hid hset
      have HB := Lib.hid hb'
      have HJ := Lib.hid hj
      clear hms hset hb' hj hm ho hb hx hji
      go_wp2
      go_roundw
      case rel => exact ⟨k + 1, by rw [HM.out]; push_cast; rfl, by have := HJ.out; rw [show (s : Int) - 1 - ((k + 1 : Nat) : Int) = (j : Int) - 1 by omega], by omega, by have := HSet.out; push_cast at this; simpa using this, by have := HB.out; push_cast at this; simpa using this⟩
      case measure => simp [intOf]
    · have hks' : k = s := by omega
      subst hks'
      have hm1 : (k : Int) - 1 - (k : Int) = -1 := by omega
      rw [hm1]
      rw [Nat.sub_self, List.replicate_zero, List.nil_append] at ho
      obtain ⟨x, hx⟩ : ∃ x, x = n / 256 ^ (k - 1) := ⟨_, rfl⟩
      have hx64 : x < 64 := by rw [hx, HE.out]; exact first_lt h
      have hv := vl_eq h
      rw [← HE.out, ← hx] at hv
      have hbd : bd k n = UInt8.ofNat (x % 256) :: bd (k - 1) n := by
        obtain ⟨t, rfl⟩ : ∃ t, k = t + 1 := ⟨k - 1, by omega⟩
        rw [hx]; rfl
      have hxm : x % 256 = x := by omega
      rw [hbd, hxm] at ho
      rw [hxm] at hv
      obtain ⟨rb', hrb', hcell, hfz, _, _⟩ := own_cell ho (i := 0) (by omega)
      cases hrb'
      have hcell : wr.cell? ⟨rb, 0, none⟩ = some (.int .u8 (x : Int)) := by
        rw [hcell]; simp [bv]; omega
      have hwx : ∀ (c : Nat), c ≤ 192 → (wr.setCell ⟨rb, 0, none⟩ (.int .u8 ((x + c : Nat) : Int))).ownsRow rb 5 1 (.slice (some ⟨rb, 0, none⟩) k k) k (bv (UInt8.ofNat (x + c) :: bd (k - 1) n)) := by
        intro c hc
        have := own_set ho 0 (.int .u8 ((x + c : Nat) : Int))
        have e : (bv (UInt8.ofNat x :: bd (k - 1) n)).set 0 (.int .u8 ((x + c : Nat) : Int)) = bv (UInt8.ofNat (x + c) :: bd (k - 1) n) := by
          simp [bv]; omega
        rwa [e] at this
      have hwb : ∀ (c : Nat), Below w.heap.size w (wr.setCell ⟨rb, 0, none⟩ (.int .u8 ((x + c : Nat) : Int))) := fun c => hb.setCell (p := ⟨rb, 0, none⟩) hrB _
      have hll : (vl n).length = k := by rw [vl_length, ← HE.out]
      have HV := Lib.hid hv
      have HLL := Lib.hid hll
      have HO := Lib.hid ho
      have HWX := Lib.hid hwx
      have HWB := Lib.hid hwb
      have HBD := Lib.hid hbd
      have HB := Lib.hid hb
      have HX := Lib.hid hx
      have fin : ∀ (e : Ending) (w' : World), e = .returned (.slice (some ⟨rb, 0, none⟩) k k) → w'.ownsRow rb 5 1 (.slice (some ⟨rb, 0, none⟩) k k) k (bv (UInt8.ofNat (x + clN n * 64) :: bd (k - 1) n)) → Below w.heap.size w w' → RetB w (vl n) e w' := fun e w' h1 h2 h3 =>
        RetB.mk h1 (own_mono h2 hrB) (by rw [HV.out]) h3
      have HFin := Lib.hid fin
      have hcs := szN_cs n
      rw [← HE.out] at hcs
      clear fin hv hll ho hwx hwb hbd hb hx HE HS hxm
      rcases hcs with ⟨_, rfl, hc⟩ | ⟨_, _, rfl, hc⟩ | ⟨_, _, rfl, hc⟩ | ⟨_, rfl, hc⟩
      · have HC := Lib.hid hc
        clear hc
        go_wp2
        go_ret
        refine HFin.out _ _ rfl ?_ HB.out
        rw [HC.out]
        exact HO.out
      · have HC := Lib.hid hc
        have fa : IntKind.u8.wrap ((x : Int) + 64) = (x : Int) + 64 := by rw [IntKind.wrap_u8]; omega
        clear hc
        go_wp2
        go_ret
        refine HFin.out _ _ rfl ?_ ?_
        · rw [HC.out]; have := HWX.out 64 (by decide); push_cast at this; exact this
        · have := HWB.out 64; push_cast at this; exact this
      · have HC := Lib.hid hc
        have fa : IntKind.u8.wrap ((x : Int) + 128) = (x : Int) + 128 := by rw [IntKind.wrap_u8]; omega
        clear hc
        go_wp2
        go_ret
        refine HFin.out _ _ rfl ?_ ?_
        · rw [HC.out]; have := HWX.out 128 (by decide); push_cast at this; exact this
        · have := HWB.out 128; push_cast at this; exact this
      · have HC := Lib.hid hc
        have fa : IntKind.u8.wrap ((x : Int) + 192) = (x : Int) + 192 := by rw [IntKind.wrap_u8]; omega
        clear hc
        go_wp2
        go_ret
        refine HFin.out _ _ rfl ?_ ?_
        · rw [HC.out]; have := HWX.out 192 (by decide); push_cast at this; exact this
        · have := HWB.out 192; push_cast at this; exact this
set_option maxRecDepth 100000 in
theorem refput_none (w : World) (n : Int) (h : n < 0 ∨ 4611686018427387903 < n) : Calls Try.prog 33 #[.int .i64 n] w (RetB w []) := by
  have HS := Lib.hid (size_none w n h)
  obtain ⟨i, hi, hz, hsize, hby⟩ := tyU8.ex
  go_enter Try.func33, Try.ntmps33
  go_wp2_with fail
  refine HS.out.mono ?_
  rintro e w2 ⟨rfl, hb2⟩
  go_wp2_with (refine wpList_make_full _ rfl (.tmp 8) (.tmp 8) _ rfl w2.heap.size 5 i (.int .u8 0) 1 tyU8.ht hi hz hsize .i64 .i64 _ _ 0 rfl rfl rfl rfl (by rw [hby]; omega) (by unfold maxLen; omega) (Nat.le_refl _) ?_; intro w3 ho3 hg3)
  go_wp2_with fail
  go_loopw [0, 5] (fun nv iv wr => iv = .int .i64 (-1) ∧ wr = w3) (fun _ _ _ => 0)
  case atStart => exact ⟨rfl, rfl⟩
  case round =>
    obtain ⟨rfl, rfl⟩ := hrel
    go_wp2
    go_ret
    exact RetB.mk rfl (own_mono ho3 hb2.size) (by simp [madeCells, bv]) (hb2.grown hg3 hb2.size (fun k hk => by cases hk))
end Go.Proofs.Ytppkilkfmclpkaa

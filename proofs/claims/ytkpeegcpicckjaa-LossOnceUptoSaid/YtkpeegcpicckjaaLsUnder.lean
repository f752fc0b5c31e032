/- Loss detection: contract of Under. -/
import Derived.Test.YtkpeegcpicckjaaLsRead
namespace Go.Proofs.Ytkpeegcpicckjaa
open Go.RowKit

theorem idx_sp0 (v1 v2 v3 v4 v5 v6 v7 v8 v9 v10 v11 v12 v13 v14 v15 : Value) (w : World) : (Instr.index 62 (.agg #[v1, v2, v3, v4, v5, v6, v7, v8, v9, v10, v11, v12, v13, v14, v15]) (.int .i64 0)).run Try.prog w = .ok (.agg #[v1, v2, v3, v4, v5]) w := by kernel_rfl
theorem idx_sp1 (v1 v2 v3 v4 v5 v6 v7 v8 v9 v10 v11 v12 v13 v14 v15 : Value) (w : World) : (Instr.index 62 (.agg #[v1, v2, v3, v4, v5, v6, v7, v8, v9, v10, v11, v12, v13, v14, v15]) (.int .i64 1)).run Try.prog w = .ok (.agg #[v6, v7, v8, v9, v10]) w := by kernel_rfl
theorem idx_sp2 (v1 v2 v3 v4 v5 v6 v7 v8 v9 v10 v11 v12 v13 v14 v15 : Value) (w : World) : (Instr.index 62 (.agg #[v1, v2, v3, v4, v5, v6, v7, v8, v9, v10, v11, v12, v13, v14, v15]) (.int .i64 2)).run Try.prog w = .ok (.agg #[v11, v12, v13, v14, v15]) w := by kernel_rfl
def psum : List Pk → Int
  | [] => 0
  | p :: r => p.size + psum r
theorem psum_append (l m : List Pk) : psum (l ++ m) = psum l + psum m := by
  induction l with
  | nil => simp [psum]
  | cons p r ih => simp only [List.cons_append, psum, ih]; omega
theorem psum_take (l : List Pk) (k : Nat) (h : k < l.length) : psum (l.take (k + 1)) = psum (l.take k) + l[k].size := by
  rw [List.take_succ_eq_append_getElem h, psum_append]
  simp [psum]
def SizesOk (l : List Pk) : Prop := l.length ≤ 4096 ∧ ∀ p ∈ l, 0 ≤ p.size ∧ p.size ≤ 65535
theorem psum_bounds : ∀ (l : List Pk), (∀ p ∈ l, 0 ≤ p.size ∧ p.size ≤ 65535) → 0 ≤ psum l ∧ psum l ≤ l.length * 65535
  | [], _ => by simp [psum]
  | p :: r, h => by
    have h1 := h p (by simp)
    have h2 := psum_bounds r (fun q hq => h q (by simp [hq]))
    simp only [psum, List.length_cons]
    push_cast
    omega
theorem SizesOk.sum {l : List Pk} (h : SizesOk l) (k : Nat) : 0 ≤ psum (l.take k) ∧ psum (l.take k) ≤ 268431360 := by
  have h1 := psum_bounds (l.take k) (fun p hp => h.2 p (List.mem_of_mem_take hp))
  have h2 := h.1
  have h3 : (l.take k).length ≤ 4096 := by rw [List.length_take]; omega
  have h4 : ((l.take k).length : Int) * 65535 ≤ 4096 * 65535 := by omega
  omega
def Lo.under (L : Lo) : Int := psum L.s0.out + psum L.s1.out + psum L.s2.out
/-- what the first k spaces hold -/
def Lo.unders (L : Lo) (k : Nat) : Int := (if 0 < k then psum L.s0.out else 0) + (if 1 < k then psum L.s1.out else 0) + (if 2 < k then psum L.s2.out else 0)

set_option maxRecDepth 100000 in
set_option maxHeartbeats 4000000 in
theorem under_any (w : World) {F : Nat → Prop} {g : Nat} {L : Lo} (h : LAt F w g L) (h0 : SizesOk L.s0.out) (h1 : SizesOk L.s1.out) (h2 : SizesOk L.s2.out) :
    Calls Try.prog 11 #[.pointer (some ⟨g, 0, none⟩)] w (IntOf w L.under) := by
  obtain ⟨a0, c0, a1, c1, a2, c2, hb, _⟩ := h
  have d1 := hb.has.cell 1 rfl
  have d2 := hb.has.cell 2 rfl
  have d3 := hb.has.cell 3 rfl
  have d4 := hb.has.cell 4 rfl
  have d5 := hb.has.cell 5 rfl
  have d6 := hb.has.cell 6 rfl
  have d7 := hb.has.cell 7 rfl
  have d8 := hb.has.cell 8 rfl
  have d9 := hb.has.cell 9 rfl
  have d10 := hb.has.cell 10 rfl
  have d11 := hb.has.cell 11 rfl
  have d12 := hb.has.cell 12 rfl
  have d13 := hb.has.cell 13 rfl
  have d14 := hb.has.cell 14 rfl
  have d15 := hb.has.cell 15 rfl
  have HB := Lib.hid hb
  have H0 := Lib.hid h0
  have H1 := Lib.hid h1
  have H2 := Lib.hid h2
  have u0 : L.unders 0 = 0 := by simp [Lo.unders]
  have HU1 : Hid (L.unders 1 = L.unders 0 + psum L.s0.out) := Lib.hid (by simp [Lo.unders])
  have HU2 : Hid (L.unders 2 = L.unders 1 + psum L.s1.out) := Lib.hid (by simp [Lo.unders])
  have HU3 : Hid (L.unders 3 = L.unders 2 + psum L.s2.out) := Lib.hid (by simp [Lo.unders])
  have HU : Hid (L.under = L.unders 3) := Lib.hid (by simp [Lo.unders, Lo.under])
  have HUb : Hid (∀ k, 0 ≤ L.unders k ∧ L.unders k ≤ 3 * 268431360) := Lib.hid (fun k => by
    have b0 := h0.sum L.s0.out.length
    have b1 := h1.sum L.s1.out.length
    have b2 := h2.sum L.s2.out.length
    rw [List.take_length] at b0 b1 b2
    unfold Lo.unders
    split <;> split <;> split <;> omega)
  clear hb h0 h1 h2
  go_enter Try.func11, Try.ntmps11
  go_wp2_with fail
  go_loopw [3, 12] (fun nv iv wr => ∃ k : Nat, iv = .int .i64 (k : Int) ∧ nv = .int .i64 (L.unders k) ∧ k ≤ 3 ∧ Below w.heap.size w wr) (fun _ iv _ => 3 - (intOf iv).toNat)
  case atStart => exact ⟨0, rfl, by rw [u0], by omega, Below.refl _ _⟩
  case round =>
    obtain ⟨k, rfl, rfl, hk, hB⟩ := hrel
    clear d1 d2 d3 d4 d5 d6 d7 d8 d9 d10 d11 d12 d13 d14 d15
    rcases (show k = 0 ∨ k = 1 ∨ k = 2 ∨ k = 3 by omega) with rfl | rfl | rfl | rfl
    · have hix := idx_sp0 (.slice a0 L.s0.out.length c0) (.int .i64 L.s0.high) (.int .i64 L.s0.acked) (.int .i64 L.s0.loss) (.int .i64 L.s0.last) (.slice a1 L.s1.out.length c1) (.int .i64 L.s1.high) (.int .i64 L.s1.acked) (.int .i64 L.s1.loss) (.int .i64 L.s1.last) (.slice a2 L.s2.out.length c2) (.int .i64 L.s2.high) (.int .i64 L.s2.acked) (.int .i64 L.s2.loss) (.int .i64 L.s2.last)
      have HLen : Hid (L.s0.out.length ≤ 4096) := Lib.hid H0.out.1
      have hu := HUb.out 0
      have hlI : (L.s0.out.length : Int) ≤ 4096 := by have := HLen.out; omega
      obtain ⟨ub, hub⟩ : ∃ ub, ub = L.unders 0 := ⟨_, rfl⟩
      rw [← hub] at hu
      have HUB := Lib.hid hub
      clear hub
      go_wp2_with fail
      go_loopw [3, 18] (fun nv jv wq => ∃ j : Nat, jv = .int .i64 (j : Int) ∧ nv = .int .i64 (ub + psum (L.s0.out.take j)) ∧ j ≤ L.s0.out.length ∧ Below w.heap.size w wq) (fun _ jv _ => L.s0.out.length - (intOf jv).toNat)
      case atStart => exact ⟨0, rfl, by rw [HUB.out]; simp [psum], Nat.zero_le _, hB.alloc hB.size _⟩
      case round =>
        obtain ⟨j, rfl, rfl, hj, hBj⟩ := hrel
        by_cases hjl : j < L.s0.out.length
        · have hjl' : (j : Int) < (L.s0.out.length : Int) := by omega
          have g2 : IntKind.i64.wrap ((j : Int) + 1) = (j : Int) + 1 := by rw [IntKind.wrap_i64]; omega
          obtain ⟨sb, rfl, e0, e1, e2, e3, s1, s2⟩ := own_pk (own_below HB.out.r0 (by exact hBj)) rfl hjl
          have s1' : (L.s0.out.length : Int) ≤ (c0 : Int) := by omega
          have hb1 := H0.out.sum j
          have hb2 := H0.out.2 _ (List.getElem_mem hjl)
          have HS := Lib.hid (psum_take L.s0.out j hjl)
          generalize psum (L.s0.out.take j) = pj at HS hb1 ⊢
          generalize L.s0.out[j] = p at HS hb2 e0 e1 e2 e3
          have g3 : IntKind.i64.wrap (ub + pj + p.size) = ub + pj + p.size := by rw [IntKind.wrap_i64]; omega
          go_wp2
          go_roundw
          case rel => exact ⟨j + 1, by push_cast; rfl, by rw [HS.out, ← Int.add_assoc], by omega, hBj.alloc hBj.size _⟩
          case measure => simp [intOf]; omega
        · obtain rfl : j = L.s0.out.length := by omega
          go_wp2
          go_roundw
          case rel => exact ⟨1, rfl, by rw [HU1.out, HUB.out, List.take_length], by omega, hBj⟩
          case measure => simp [intOf]
    · have hix := idx_sp1 (.slice a0 L.s0.out.length c0) (.int .i64 L.s0.high) (.int .i64 L.s0.acked) (.int .i64 L.s0.loss) (.int .i64 L.s0.last) (.slice a1 L.s1.out.length c1) (.int .i64 L.s1.high) (.int .i64 L.s1.acked) (.int .i64 L.s1.loss) (.int .i64 L.s1.last) (.slice a2 L.s2.out.length c2) (.int .i64 L.s2.high) (.int .i64 L.s2.acked) (.int .i64 L.s2.loss) (.int .i64 L.s2.last)
      have HLen : Hid (L.s1.out.length ≤ 4096) := Lib.hid H1.out.1
      have hu := HUb.out 1
      have hlI : (L.s1.out.length : Int) ≤ 4096 := by have := HLen.out; omega
      obtain ⟨ub, hub⟩ : ∃ ub, ub = L.unders 1 := ⟨_, rfl⟩
      rw [← hub] at hu
      have HUB := Lib.hid hub
      clear hub
      go_wp2_with fail
      go_loopw [3, 18] (fun nv jv wq => ∃ j : Nat, jv = .int .i64 (j : Int) ∧ nv = .int .i64 (ub + psum (L.s1.out.take j)) ∧ j ≤ L.s1.out.length ∧ Below w.heap.size w wq) (fun _ jv _ => L.s1.out.length - (intOf jv).toNat)
      case atStart => exact ⟨0, rfl, by rw [HUB.out]; simp [psum], Nat.zero_le _, hB.alloc hB.size _⟩
      case round =>
        obtain ⟨j, rfl, rfl, hj, hBj⟩ := hrel
        by_cases hjl : j < L.s1.out.length
        · have hjl' : (j : Int) < (L.s1.out.length : Int) := by omega
          have g2 : IntKind.i64.wrap ((j : Int) + 1) = (j : Int) + 1 := by rw [IntKind.wrap_i64]; omega
          obtain ⟨sb, rfl, e0, e1, e2, e3, s1, s2⟩ := own_pk (own_below HB.out.r1 (by exact hBj)) rfl hjl
          have s1' : (L.s1.out.length : Int) ≤ (c1 : Int) := by omega
          have hb1 := H1.out.sum j
          have hb2 := H1.out.2 _ (List.getElem_mem hjl)
          have HS := Lib.hid (psum_take L.s1.out j hjl)
          generalize psum (L.s1.out.take j) = pj at HS hb1 ⊢
          generalize L.s1.out[j] = p at HS hb2 e0 e1 e2 e3
          have g3 : IntKind.i64.wrap (ub + pj + p.size) = ub + pj + p.size := by rw [IntKind.wrap_i64]; omega
          go_wp2
          go_roundw
          case rel => exact ⟨j + 1, by push_cast; rfl, by rw [HS.out, ← Int.add_assoc], by omega, hBj.alloc hBj.size _⟩
          case measure => simp [intOf]; omega
        · obtain rfl : j = L.s1.out.length := by omega
          go_wp2
          go_roundw
          case rel => exact ⟨2, rfl, by rw [HU2.out, HUB.out, List.take_length], by omega, hBj⟩
          case measure => simp [intOf]
    · have hix := idx_sp2 (.slice a0 L.s0.out.length c0) (.int .i64 L.s0.high) (.int .i64 L.s0.acked) (.int .i64 L.s0.loss) (.int .i64 L.s0.last) (.slice a1 L.s1.out.length c1) (.int .i64 L.s1.high) (.int .i64 L.s1.acked) (.int .i64 L.s1.loss) (.int .i64 L.s1.last) (.slice a2 L.s2.out.length c2) (.int .i64 L.s2.high) (.int .i64 L.s2.acked) (.int .i64 L.s2.loss) (.int .i64 L.s2.last)
      have HLen : Hid (L.s2.out.length ≤ 4096) := Lib.hid H2.out.1
      have hu := HUb.out 2
      have hlI : (L.s2.out.length : Int) ≤ 4096 := by have := HLen.out; omega
      obtain ⟨ub, hub⟩ : ∃ ub, ub = L.unders 2 := ⟨_, rfl⟩
      rw [← hub] at hu
      have HUB := Lib.hid hub
      clear hub
      go_wp2_with fail
      go_loopw [3, 18] (fun nv jv wq => ∃ j : Nat, jv = .int .i64 (j : Int) ∧ nv = .int .i64 (ub + psum (L.s2.out.take j)) ∧ j ≤ L.s2.out.length ∧ Below w.heap.size w wq) (fun _ jv _ => L.s2.out.length - (intOf jv).toNat)
      case atStart => exact ⟨0, rfl, by rw [HUB.out]; simp [psum], Nat.zero_le _, hB.alloc hB.size _⟩
      case round =>
        obtain ⟨j, rfl, rfl, hj, hBj⟩ := hrel
        by_cases hjl : j < L.s2.out.length
        · have hjl' : (j : Int) < (L.s2.out.length : Int) := by omega
          have g2 : IntKind.i64.wrap ((j : Int) + 1) = (j : Int) + 1 := by rw [IntKind.wrap_i64]; omega
          obtain ⟨sb, rfl, e0, e1, e2, e3, s1, s2⟩ := own_pk (own_below HB.out.r2 (by exact hBj)) rfl hjl
          have s1' : (L.s2.out.length : Int) ≤ (c2 : Int) := by omega
          have hb1 := H2.out.sum j
          have hb2 := H2.out.2 _ (List.getElem_mem hjl)
          have HS := Lib.hid (psum_take L.s2.out j hjl)
          generalize psum (L.s2.out.take j) = pj at HS hb1 ⊢
          generalize L.s2.out[j] = p at HS hb2 e0 e1 e2 e3
          have g3 : IntKind.i64.wrap (ub + pj + p.size) = ub + pj + p.size := by rw [IntKind.wrap_i64]; omega
          go_wp2
          go_roundw
          case rel => exact ⟨j + 1, by push_cast; rfl, by rw [HS.out, ← Int.add_assoc], by omega, hBj.alloc hBj.size _⟩
          case measure => simp [intOf]; omega
        · obtain rfl : j = L.s2.out.length := by omega
          go_wp2
          go_roundw
          case rel => exact ⟨3, rfl, by rw [HU3.out, HUB.out, List.take_length], by omega, hBj⟩
          case measure => simp [intOf]
    · go_wp2
      go_ret
      exact ⟨by rw [HU.out]; rfl, hB⟩
end Go.Proofs.Ytkpeegcpicckjaa

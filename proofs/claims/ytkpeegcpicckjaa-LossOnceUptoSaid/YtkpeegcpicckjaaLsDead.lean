/- Loss detection: contracts of deadline and Timer. -/
import Derived.Test.YtkpeegcpicckjaaLsAny
namespace Go.Proofs.Ytkpeegcpicckjaa
open Go.RowKit

/-- a space's loss time, if it comes first -/
def dl1 (i : Int) (s : Sp) (r : Int × Int) : Int × Int := if 0 ≤ s.loss ∧ (r.1 < 0 ∨ s.loss < r.2) then (i, s.loss) else r
def Lo.dloss (L : Lo) : Nat → Int × Int
  | 0 => (-1, 0)
  | 1 => dl1 0 L.s0 (-1, 0)
  | 2 => dl1 1 L.s1 (dl1 0 L.s0 (-1, 0))
  | _ => dl1 2 L.s2 (dl1 1 L.s1 (dl1 0 L.s0 (-1, 0)))
/-- how long a probe waits -/
def Lo.wait (L : Lo) : Int := L.smooth + max 1 (4 * L.vary)
/-- when a space's probe comes -/
def Lo.pto (L : Lo) (s : Sp) (extra : Int) : Int := s.last + (L.wait + extra) * 2 ^ L.probes.toNat
def dl2 (L : Lo) (i : Int) (s : Sp) (extra : Int) (r : Int × Int) : Int × Int :=
  if s.out.any (·.el) then (if r.1 < 0 ∨ L.pto s extra < r.2 then (i, L.pto s extra) else r) else r
def Lo.dpto (L : Lo) (r : Int × Int) : Nat → Int × Int
  | 0 => r
  | 1 => dl2 L 0 L.s0 0 r
  | 2 => dl2 L 1 L.s1 0 (dl2 L 0 L.s0 0 r)
  | _ => dl2 L 2 L.s2 L.most (dl2 L 1 L.s1 0 (dl2 L 0 L.s0 0 r))
def Lo.dead (L : Lo) : Int × Int × Bool :=
  if 0 ≤ (L.dloss 3).1 then ((L.dloss 3).1, (L.dloss 3).2, true) else ((L.dpto (L.dloss 3) 3).1, (L.dpto (L.dloss 3) 3).2, false)

theorem wrap64_id {z : Int} (h1 : -9223372036854775808 ≤ z) (h2 : z ≤ 9223372036854775807) : wrap64 z = z := by
  unfold wrap64
  omega
/-- what keeps the reckoning of times within bounds -/
structure Lo.TimeOk (L : Lo) : Prop where
  most : 0 ≤ L.most ∧ L.most ≤ 16383
  smooth : 0 ≤ L.smooth ∧ L.smooth ≤ 1099511627776
  vary : 0 ≤ L.vary ∧ L.vary ≤ 1099511627776
  probes : 0 ≤ L.probes ∧ L.probes ≤ 20
  last0 : -1 ≤ L.s0.last ∧ L.s0.last ≤ 1099511627776
  last1 : -1 ≤ L.s1.last ∧ L.s1.last ≤ 1099511627776
  last2 : -1 ≤ L.s2.last ∧ L.s2.last ≤ 1099511627776
  len0 : L.s0.out.length ≤ 4096
  len1 : L.s1.out.length ≤ 4096
  len2 : L.s2.out.length ≤ 4096

theorem pow_le20 {p : Int} (h0 : 0 ≤ p) (h1 : p ≤ 20) : (2 : Int) ^ p.toNat ≤ 1048576 ∧ (1 : Int) ≤ 2 ^ p.toNat := by
  have h : p.toNat ≤ 20 := by omega
  generalize p.toNat = n at h
  have : n = 0 ∨ n = 1 ∨ n = 2 ∨ n = 3 ∨ n = 4 ∨ n = 5 ∨ n = 6 ∨ n = 7 ∨ n = 8 ∨ n = 9 ∨ n = 10 ∨ n = 11 ∨ n = 12 ∨ n = 13 ∨ n = 14 ∨ n = 15 ∨ n = 16 ∨ n = 17 ∨ n = 18 ∨ n = 19 ∨ n = 20 := by omega
  rcases this with rfl | rfl | rfl | rfl | rfl | rfl | rfl | rfl | rfl | rfl | rfl | rfl | rfl | rfl | rfl | rfl | rfl | rfl | rfl | rfl | rfl <;> decide
theorem Lo.TimeOk.shift {L : Lo} (h : L.TimeOk) {extra : Int} (h0 : 0 ≤ extra) (h1 : extra ≤ 16383) : 0 ≤ (L.wait + extra) * 2 ^ L.probes.toNat ∧ (L.wait + extra) * 2 ^ L.probes.toNat ≤ 5764624665010000000 := by
  obtain ⟨p1, p2⟩ := pow_le20 h.probes.1 h.probes.2
  have hw : 0 ≤ L.wait + extra ∧ L.wait + extra ≤ 5497558155263 := by
    have := h.smooth
    have := h.vary
    unfold Lo.wait
    omega
  generalize (2 : Int) ^ L.probes.toNat = t at p1 p2
  generalize L.wait + extra = x at hw
  constructor
  · exact Int.mul_nonneg hw.1 (by omega)
  · have h2 : x * t ≤ 5497558155263 * 1048576 := Int.mul_le_mul hw.2 p1 (by omega) (by omega)
    omega

set_option maxRecDepth 100000 in
set_option maxHeartbeats 8000000 in
theorem deadline_any (w : World) {F : Nat → Prop} {g : Nat} {L : Lo} (h : LAt F w g L) (hq : L.TimeOk) :
    Calls Try.prog 20 #[.pointer (some ⟨g, 0, none⟩)] w fun e w' => e = .returned (.tuple #[.int .i64 L.dead.1, .int .i64 L.dead.2.1, .bool L.dead.2.2]) ∧ Below w.heap.size w w' := by
  obtain ⟨a0, c0, a1, c1, a2, c2, hb, _⟩ := h
  have d1 := hb.has.cell 1 rfl
  have d2 := hb.has.cell 2 rfl
  have d3 := hb.has.cell 3 rfl
  have d4 := hb.has.cell 4 rfl
  have d5 := hb.has.cell 5 rfl
  have d6 := hb.has.cell 6 rfl
  have d7 := hb.has.cell 7 rfl
  have d8 := hb.has.cell 8 rfl
  have d9 := hb.has.cell 9 rfl
  have d10 := hb.has.cell 10 rfl
  have d11 := hb.has.cell 11 rfl
  have d12 := hb.has.cell 12 rfl
  have d13 := hb.has.cell 13 rfl
  have d14 := hb.has.cell 14 rfl
  have d15 := hb.has.cell 15 rfl
  have HB := Lib.hid hb
  have HQ := Lib.hid hq
  have HD1 : Hid (L.dloss 1 = dl1 0 L.s0 (L.dloss 0)) := Lib.hid rfl
  have HD2 : Hid (L.dloss 2 = dl1 1 L.s1 (L.dloss 1)) := Lib.hid rfl
  have HD3 : Hid (L.dloss 3 = dl1 2 L.s2 (L.dloss 2)) := Lib.hid rfl
  have HDD : Hid (L.dead = if 0 ≤ (L.dloss 3).1 then ((L.dloss 3).1, (L.dloss 3).2, true) else ((L.dpto (L.dloss 3) 3).1, (L.dpto (L.dloss 3) 3).2, false)) := Lib.hid rfl
  have e0 : L.dloss 0 = (-1, 0) := rfl
  have ix0 := idx_sp0 (.slice a0 L.s0.out.length c0) (.int .i64 L.s0.high) (.int .i64 L.s0.acked) (.int .i64 L.s0.loss) (.int .i64 L.s0.last) (.slice a1 L.s1.out.length c1) (.int .i64 L.s1.high) (.int .i64 L.s1.acked) (.int .i64 L.s1.loss) (.int .i64 L.s1.last) (.slice a2 L.s2.out.length c2) (.int .i64 L.s2.high) (.int .i64 L.s2.acked) (.int .i64 L.s2.loss) (.int .i64 L.s2.last)
  have ix1 := idx_sp1 (.slice a0 L.s0.out.length c0) (.int .i64 L.s0.high) (.int .i64 L.s0.acked) (.int .i64 L.s0.loss) (.int .i64 L.s0.last) (.slice a1 L.s1.out.length c1) (.int .i64 L.s1.high) (.int .i64 L.s1.acked) (.int .i64 L.s1.loss) (.int .i64 L.s1.last) (.slice a2 L.s2.out.length c2) (.int .i64 L.s2.high) (.int .i64 L.s2.acked) (.int .i64 L.s2.loss) (.int .i64 L.s2.last)
  have ix2 := idx_sp2 (.slice a0 L.s0.out.length c0) (.int .i64 L.s0.high) (.int .i64 L.s0.acked) (.int .i64 L.s0.loss) (.int .i64 L.s0.last) (.slice a1 L.s1.out.length c1) (.int .i64 L.s1.high) (.int .i64 L.s1.acked) (.int .i64 L.s1.loss) (.int .i64 L.s1.last) (.slice a2 L.s2.out.length c2) (.int .i64 L.s2.high) (.int .i64 L.s2.acked) (.int .i64 L.s2.loss) (.int .i64 L.s2.last)
  obtain ⟨dl, hdl⟩ : ∃ dl, dl = L.dloss := ⟨_, rfl⟩
  rw [← hdl] at HD1 HD2 HD3 HDD e0
  obtain ⟨dead, hdead⟩ : ∃ x, x = L.dead := ⟨_, rfl⟩
  rw [← hdead] at HDD ⊢
  clear hb hq hdl hdead
  go_enter Try.func20, Try.ntmps20
  go_wp2_with fail
  go_loopw [2, 3, 15] (fun sv av iv wr => ∃ k : Nat, iv = .int .i64 (k : Int) ∧ sv = .int .i64 (dl k).1 ∧ av = .int .i64 (dl k).2 ∧ k ≤ 3 ∧ Below w.heap.size w wr) (fun _ _ iv _ => 3 - (intOf iv).toNat)
  case atStart => exact ⟨0, rfl, by rw [e0], by rw [e0], by omega, Below.refl _ _⟩
  case round =>
    obtain ⟨k, rfl, rfl, rfl, hk, hB⟩ := hrel
    clear e0
    rcases (show k = 0 ∨ k = 1 ∨ k = 2 ∨ k = 3 by omega) with rfl | rfl | rfl | rfl
    · generalize hdk : dl 0 = r at HD1 ⊢
      obtain ⟨rs, ra⟩ := r
      simp only [] at ⊢
      have hBa := hB.alloc hB.size (.cells #[.slice a0 L.s0.out.length c0, .int .i64 L.s0.high, .int .i64 L.s0.acked, .int .i64 L.s0.loss, .int .i64 L.s0.last] 61)
      by_cases h1 : 0 ≤ L.s0.loss
      · by_cases h2 : rs < 0
        · have HN2 : Hid (dl 1 = (0, L.s0.loss)) := Lib.hid (by rw [HD1.out]; unfold dl1; rw [if_pos ⟨h1, .inl h2⟩])
          clear hdk
          go_wp2
          go_quiet (fail)
          go_wp2
          go_roundw
          case rel => exact ⟨1, rfl, by rw [HN2.out] <;> rfl, by rw [HN2.out] <;> rfl, by omega, below_drewN hBa _⟩
          case measure => simp [intOf]
        · by_cases h3 : L.s0.loss < ra
          · have HN2 : Hid (dl 1 = (0, L.s0.loss)) := Lib.hid (by rw [HD1.out]; unfold dl1; rw [if_pos ⟨h1, .inr h3⟩])
            clear hdk
            go_wp2
            go_quiet (fail)
            go_wp2
            go_roundw
            case rel => exact ⟨1, rfl, by rw [HN2.out] <;> rfl, by rw [HN2.out] <;> rfl, by omega, below_drewN hBa _⟩
            case measure => simp [intOf]
          · have HN2 : Hid (dl 1 = (rs, ra)) := Lib.hid (by rw [HD1.out]; unfold dl1; rw [if_neg (by simp only []; omega)])
            clear hdk
            go_wp2
            go_roundw
            case rel => exact ⟨1, rfl, by rw [HN2.out] <;> rfl, by rw [HN2.out] <;> rfl, by omega, hBa⟩
            case measure => simp [intOf]
      · have HN2 : Hid (dl 1 = (rs, ra)) := Lib.hid (by rw [HD1.out]; unfold dl1; rw [if_neg (by simp only []; omega)])
        clear hdk
        go_wp2
        go_roundw
        case rel => exact ⟨1, rfl, by rw [HN2.out] <;> rfl, by rw [HN2.out] <;> rfl, by omega, hBa⟩
        case measure => simp [intOf]
    · generalize hdk : dl 1 = r at HD2 ⊢
      obtain ⟨rs, ra⟩ := r
      simp only [] at ⊢
      have hBa := hB.alloc hB.size (.cells #[.slice a1 L.s1.out.length c1, .int .i64 L.s1.high, .int .i64 L.s1.acked, .int .i64 L.s1.loss, .int .i64 L.s1.last] 61)
      by_cases h1 : 0 ≤ L.s1.loss
      · by_cases h2 : rs < 0
        · have HN2 : Hid (dl 2 = (1, L.s1.loss)) := Lib.hid (by rw [HD2.out]; unfold dl1; rw [if_pos ⟨h1, .inl h2⟩])
          clear hdk
          go_wp2
          go_quiet (fail)
          go_wp2
          go_roundw
          case rel => exact ⟨2, rfl, by rw [HN2.out] <;> rfl, by rw [HN2.out] <;> rfl, by omega, below_drewN hBa _⟩
          case measure => simp [intOf]
        · by_cases h3 : L.s1.loss < ra
          · have HN2 : Hid (dl 2 = (1, L.s1.loss)) := Lib.hid (by rw [HD2.out]; unfold dl1; rw [if_pos ⟨h1, .inr h3⟩])
            clear hdk
            go_wp2
            go_quiet (fail)
            go_wp2
            go_roundw
            case rel => exact ⟨2, rfl, by rw [HN2.out] <;> rfl, by rw [HN2.out] <;> rfl, by omega, below_drewN hBa _⟩
            case measure => simp [intOf]
          · have HN2 : Hid (dl 2 = (rs, ra)) := Lib.hid (by rw [HD2.out]; unfold dl1; rw [if_neg (by simp only []; omega)])
            clear hdk
            go_wp2
            go_roundw
            case rel => exact ⟨2, rfl, by rw [HN2.out] <;> rfl, by rw [HN2.out] <;> rfl, by omega, hBa⟩
            case measure => simp [intOf]
      · have HN2 : Hid (dl 2 = (rs, ra)) := Lib.hid (by rw [HD2.out]; unfold dl1; rw [if_neg (by simp only []; omega)])
        clear hdk
        go_wp2
        go_roundw
        case rel => exact ⟨2, rfl, by rw [HN2.out] <;> rfl, by rw [HN2.out] <;> rfl, by omega, hBa⟩
        case measure => simp [intOf]
    · generalize hdk : dl 2 = r at HD3 ⊢
      obtain ⟨rs, ra⟩ := r
      simp only [] at ⊢
      have hBa := hB.alloc hB.size (.cells #[.slice a2 L.s2.out.length c2, .int .i64 L.s2.high, .int .i64 L.s2.acked, .int .i64 L.s2.loss, .int .i64 L.s2.last] 61)
      by_cases h1 : 0 ≤ L.s2.loss
      · by_cases h2 : rs < 0
        · have HN2 : Hid (dl 3 = (2, L.s2.loss)) := Lib.hid (by rw [HD3.out]; unfold dl1; rw [if_pos ⟨h1, .inl h2⟩])
          clear hdk
          go_wp2
          go_quiet (fail)
          go_wp2
          go_roundw
          case rel => exact ⟨3, rfl, by rw [HN2.out] <;> rfl, by rw [HN2.out] <;> rfl, by omega, below_drewN hBa _⟩
          case measure => simp [intOf]
        · by_cases h3 : L.s2.loss < ra
          · have HN2 : Hid (dl 3 = (2, L.s2.loss)) := Lib.hid (by rw [HD3.out]; unfold dl1; rw [if_pos ⟨h1, .inr h3⟩])
            clear hdk
            go_wp2
            go_quiet (fail)
            go_wp2
            go_roundw
            case rel => exact ⟨3, rfl, by rw [HN2.out] <;> rfl, by rw [HN2.out] <;> rfl, by omega, below_drewN hBa _⟩
            case measure => simp [intOf]
          · have HN2 : Hid (dl 3 = (rs, ra)) := Lib.hid (by rw [HD3.out]; unfold dl1; rw [if_neg (by simp only []; omega)])
            clear hdk
            go_wp2
            go_roundw
            case rel => exact ⟨3, rfl, by rw [HN2.out] <;> rfl, by rw [HN2.out] <;> rfl, by omega, hBa⟩
            case measure => simp [intOf]
      · have HN2 : Hid (dl 3 = (rs, ra)) := Lib.hid (by rw [HD3.out]; unfold dl1; rw [if_neg (by simp only []; omega)])
        clear hdk
        go_wp2
        go_roundw
        case rel => exact ⟨3, rfl, by rw [HN2.out] <;> rfl, by rw [HN2.out] <;> rfl, by omega, hBa⟩
        case measure => simp [intOf]
    · obtain ⟨r, hr⟩ : ∃ r, r = dl 3 := ⟨_, rfl⟩
      rw [← hr] at HDD ⊢
      have HPs : Hid (L.dpto r 0 = r ∧ L.dpto r 1 = dl2 L 0 L.s0 0 (L.dpto r 0) ∧ L.dpto r 2 = dl2 L 1 L.s1 0 (L.dpto r 1) ∧ L.dpto r 3 = dl2 L 2 L.s2 L.most (L.dpto r 2)) := Lib.hid ⟨rfl, rfl, rfl, rfl⟩
      clear hr HD1 HD2 HD3
      by_cases hs : 0 ≤ r.1
      · have HE : Hid (dead = (r.1, r.2, true)) := Lib.hid (by rw [HDD.out, if_pos hs])
        clear HDD HPs
        go_wp2
        go_ret3
        exact ⟨by rw [HE.out]; rfl, hB⟩
      · obtain ⟨dp, hdp⟩ : ∃ dp, dp = L.dpto r := ⟨_, rfl⟩
        have HE : Hid (dead = ((dp 3).1, (dp 3).2, false)) := Lib.hid (by rw [HDD.out, if_neg hs, hdp])
        rw [← hdp] at HPs
        have HP0 := Lib.hid HPs.out.1
        have HP1 := Lib.hid HPs.out.2.1
        have HP2 := Lib.hid HPs.out.2.2.1
        have HP3 := Lib.hid HPs.out.2.2.2
        have HC0 : Hid (∀ w', Below w.heap.size w w' → Calls Try.prog 30 #[.slice a0 L.s0.out.length c0, .func (.func 34) #[] #[]] w' (BoolOf w' (L.s0.out.any (·.el)))) := Lib.hid (fun w' hb => containsEl_any w' (own_below HB.out.r0 hb) (by have := HQ.out.len0; omega))
        have HC1 : Hid (∀ w', Below w.heap.size w w' → Calls Try.prog 30 #[.slice a1 L.s1.out.length c1, .func (.func 34) #[] #[]] w' (BoolOf w' (L.s1.out.any (·.el)))) := Lib.hid (fun w' hb => containsEl_any w' (own_below HB.out.r1 hb) (by have := HQ.out.len1; omega))
        have HC2 : Hid (∀ w', Below w.heap.size w w' → Calls Try.prog 30 #[.slice a2 L.s2.out.length c2, .func (.func 34) #[] #[]] w' (BoolOf w' (L.s2.out.any (·.el)))) := Lib.hid (fun w' hb => containsEl_any w' (own_below HB.out.r2 hb) (by have := HQ.out.len2; omega))
        have HPC : Hid (∀ w', Below w.heap.size w w' → w'.cell? ⟨g, 0, none⟩ = some (.int .i64 L.most) ∧ w'.cell? ⟨g, 20, none⟩ = some (.int .i64 L.smooth) ∧ w'.cell? ⟨g, 21, none⟩ = some (.int .i64 L.vary) ∧ w'.cell? ⟨g, 25, none⟩ = some (.int .i64 L.probes)) := Lib.hid (fun w' hb => by
          have h := (HB.out.below hb).has
          exact ⟨h.cell 0 rfl, h.cell 20 rfl, h.cell 21 rfl, h.cell 25 rfl⟩)
        have q1 := HQ.out.most
        have q2 := HQ.out.smooth
        have q3 := HQ.out.vary
        have q4 := HQ.out.probes
        have f1 : IntKind.i64.wrap (4 * L.vary) = 4 * L.vary := by rw [IntKind.wrap_i64]; omega
        have f2 : IntKind.i64.wrap (L.smooth + max 1 (4 * L.vary)) = L.wait := by rw [IntKind.wrap_i64]; unfold Lo.wait; omega
        have hw : 0 ≤ L.wait ∧ L.wait ≤ 5497558138880 := by unfold Lo.wait; omega
        have f3 : IntKind.i64.wrap (L.wait + L.most) = L.wait + L.most := by rw [IntKind.wrap_i64]; omega
        have HL := Lib.hid (And.intro HQ.out.last0 (And.intro HQ.out.last1 HQ.out.last2))
        have HSh := Lib.hid (fun (extra : Int) (h0 : 0 ≤ extra) (h1 : extra ≤ 16383) => HQ.out.shift h0 h1)
        clear HDD HPs hdp
        have hs' : r.1 < 0 := by omega
        have BB := (HB.out.below hB).has
        have x1 := BB.cell 1 rfl
        have x2 := BB.cell 2 rfl
        have x3 := BB.cell 3 rfl
        have x4 := BB.cell 4 rfl
        have x5 := BB.cell 5 rfl
        have x6 := BB.cell 6 rfl
        have x7 := BB.cell 7 rfl
        have x8 := BB.cell 8 rfl
        have x9 := BB.cell 9 rfl
        have x10 := BB.cell 10 rfl
        have x11 := BB.cell 11 rfl
        have x12 := BB.cell 12 rfl
        have x13 := BB.cell 13 rfl
        have x14 := BB.cell 14 rfl
        have x15 := BB.cell 15 rfl
        clear BB
        go_wp2_with fail
        go_loopw [2, 3, 44] (fun sv av iv wr => ∃ k : Nat, iv = .int .i64 (k : Int) ∧ sv = .int .i64 (dp k).1 ∧ av = .int .i64 (dp k).2 ∧ k ≤ 3 ∧ Below w.heap.size w wr) (fun _ _ iv _ => 3 - (intOf iv).toNat)
        case atStart => exact ⟨0, rfl, by rw [HP0.out], by rw [HP0.out], by omega, hB⟩
        case round =>
          obtain ⟨k, rfl, rfl, rfl, hk, hB⟩ := hrel
          clear x1 x2 x3 x4 x5 x6 x7 x8 x9 x10 x11 x12 x13 x14 x15
          rcases (show k = 0 ∨ k = 1 ∨ k = 2 ∨ k = 3 by omega) with rfl | rfl | rfl | rfl
          · generalize hdk : dp 0 = r2 at HP1 ⊢
            obtain ⟨rs, ra⟩ := r2
            simp only [] at ⊢
            have hBa := hB.alloc hB.size (.cells #[.slice a0 L.s0.out.length c0, .int .i64 L.s0.high, .int .i64 L.s0.acked, .int .i64 L.s0.loss, .int .i64 L.s0.last] 61)
            have hH : Has (wr.alloc (.cells #[.slice a0 L.s0.out.length c0, .int .i64 L.s0.high, .int .i64 L.s0.acked, .int .i64 L.s0.loss, .int .i64 L.s0.last] 61)) wr.heap.size 61 [.slice a0 L.s0.out.length c0, .int .i64 L.s0.high, .int .i64 L.s0.acked, .int .i64 L.s0.loss, .int .i64 L.s0.last] := Has.new _ _ _
            have HCc := Lib.hid (HC0.out _ hBa)
            cases hany : L.s0.out.any (·.el)
            · rw [hany] at HCc
              have HN2 : Hid (dp 1 = (rs, ra)) := Lib.hid (by rw [HP1.out]; unfold dl2; rw [hany]; rfl)
              clear hdk hany
              go_wp2_with fail
              refine HCc.out.mono ?_
              rintro e w2 ⟨rfl, hb2⟩
              go_wp2
              go_roundw
              case rel => exact ⟨1, rfl, by rw [HN2.out] <;> rfl, by rw [HN2.out] <;> rfl, by omega, hBa.trans (hb2.mono hBa.size)⟩
              case measure => simp [intOf]
            · rw [hany] at HCc
              have HN2 : Hid (dp 1 = if rs < 0 ∨ L.pto L.s0 0 < ra then (0, L.pto L.s0 0) else (rs, ra)) := Lib.hid (by rw [HP1.out]; unfold dl2; rw [hany]; rfl)
              clear hdk hany
              go_wp2_with fail
              refine HCc.out.mono ?_
              rintro e w2 ⟨rfl, hb2⟩
              have hB2 := hBa.trans (hb2.mono hBa.size)
              have hH2 := hH.kept (Kept.of_below (X := none') hb2) (fun h => h)
              have t4 := hH2.cell 4 rfl
              obtain ⟨p0, p1, p2, p3⟩ := HPC.out w2 hB2
              have hlast := HL.out.1
              have hsh := HSh.out 0 (by omega) (by omega)
              obtain ⟨pp, hpp⟩ : ∃ pp, pp = L.pto L.s0 0 := ⟨_, rfl⟩
              rw [← hpp] at HN2
              have HTT : Hid (wrap64 (L.s0.last + wrap64 (L.wait * 2 ^ L.probes.toNat)) = pp) := Lib.hid (by
                rw [hpp]
                unfold Lo.pto
                have e : (L.wait + 0) * 2 ^ L.probes.toNat = L.wait * 2 ^ L.probes.toNat := by rw [Int.add_zero]
                rw [e] at hsh ⊢
                generalize L.wait * 2 ^ L.probes.toNat = y at hsh
                have e2 : wrap64 y = y := wrap64_id (by omega) (by omega)
                rw [e2, wrap64_id (by omega) (by omega)])
              clear hpp hsh
              by_cases hv : 4 * L.vary ≤ 1
              · have hwt : L.smooth + 1 = L.wait := by unfold Lo.wait; omega
                go_wp2_with fail
                go_quiet (fail)
                all_goals try (exfalso; omega)
                go_wp2_with fail
                go_quiet (fail)
                have ht : wrap64 (L.s0.last + wrap64 (L.wait * 2 ^ L.probes.toNat)) = pp := HTT.out
                by_cases h1 : rs < 0
                · have HN3 : Hid (dp 1 = (0, pp)) := Lib.hid (by rw [HN2.out, if_pos (.inl h1)])
                  go_wp2
                  go_roundw
                  case rel => exact ⟨1, rfl, by rw [HN3.out] <;> rfl, by rw [HN3.out, ht], by omega, below_drewN hB2 _⟩
                  case measure => simp [intOf]
                · by_cases h2 : pp < ra
                  · have HN3 : Hid (dp 1 = (0, pp)) := Lib.hid (by rw [HN2.out, if_pos (.inr h2)])
                    go_wp2
                    go_roundw
                    case rel => exact ⟨1, rfl, by rw [HN3.out] <;> rfl, by rw [HN3.out, ht], by omega, below_drewN hB2 _⟩
                    case measure => simp [intOf]
                  · have HN3 : Hid (dp 1 = (rs, ra)) := Lib.hid (by rw [HN2.out, if_neg (by omega)])
                    go_wp2
                    go_roundw
                    case rel => exact ⟨1, rfl, by rw [HN3.out] <;> rfl, by rw [HN3.out] <;> rfl, by omega, below_drewN hB2 _⟩
                    case measure => simp [intOf]
              · have hv2 : 1 ≤ 4 * L.vary := by omega
                have hwt : L.smooth + 4 * L.vary = L.wait := by unfold Lo.wait; omega
                go_wp2_with fail
                go_quiet (fail)
                all_goals try (exfalso; omega)
                go_wp2_with fail
                go_quiet (fail)
                have ht : wrap64 (L.s0.last + wrap64 (L.wait * 2 ^ L.probes.toNat)) = pp := HTT.out
                by_cases h1 : rs < 0
                · have HN3 : Hid (dp 1 = (0, pp)) := Lib.hid (by rw [HN2.out, if_pos (.inl h1)])
                  go_wp2
                  go_roundw
                  case rel => exact ⟨1, rfl, by rw [HN3.out] <;> rfl, by rw [HN3.out, ht], by omega, below_drewN hB2 _⟩
                  case measure => simp [intOf]
                · by_cases h2 : pp < ra
                  · have HN3 : Hid (dp 1 = (0, pp)) := Lib.hid (by rw [HN2.out, if_pos (.inr h2)])
                    go_wp2
                    go_roundw
                    case rel => exact ⟨1, rfl, by rw [HN3.out] <;> rfl, by rw [HN3.out, ht], by omega, below_drewN hB2 _⟩
                    case measure => simp [intOf]
                  · have HN3 : Hid (dp 1 = (rs, ra)) := Lib.hid (by rw [HN2.out, if_neg (by omega)])
                    go_wp2
                    go_roundw
                    case rel => exact ⟨1, rfl, by rw [HN3.out] <;> rfl, by rw [HN3.out] <;> rfl, by omega, below_drewN hB2 _⟩
                    case measure => simp [intOf]
          · generalize hdk : dp 1 = r2 at HP2 ⊢
            obtain ⟨rs, ra⟩ := r2
            simp only [] at ⊢
            have hBa := hB.alloc hB.size (.cells #[.slice a1 L.s1.out.length c1, .int .i64 L.s1.high, .int .i64 L.s1.acked, .int .i64 L.s1.loss, .int .i64 L.s1.last] 61)
            have hH : Has (wr.alloc (.cells #[.slice a1 L.s1.out.length c1, .int .i64 L.s1.high, .int .i64 L.s1.acked, .int .i64 L.s1.loss, .int .i64 L.s1.last] 61)) wr.heap.size 61 [.slice a1 L.s1.out.length c1, .int .i64 L.s1.high, .int .i64 L.s1.acked, .int .i64 L.s1.loss, .int .i64 L.s1.last] := Has.new _ _ _
            have HCc := Lib.hid (HC1.out _ hBa)
            cases hany : L.s1.out.any (·.el)
            · rw [hany] at HCc
              have HN2 : Hid (dp 2 = (rs, ra)) := Lib.hid (by rw [HP2.out]; unfold dl2; rw [hany]; rfl)
              clear hdk hany
              go_wp2_with fail
              refine HCc.out.mono ?_
              rintro e w2 ⟨rfl, hb2⟩
              go_wp2
              go_roundw
              case rel => exact ⟨2, rfl, by rw [HN2.out] <;> rfl, by rw [HN2.out] <;> rfl, by omega, hBa.trans (hb2.mono hBa.size)⟩
              case measure => simp [intOf]
            · rw [hany] at HCc
              have HN2 : Hid (dp 2 = if rs < 0 ∨ L.pto L.s1 0 < ra then (1, L.pto L.s1 0) else (rs, ra)) := Lib.hid (by rw [HP2.out]; unfold dl2; rw [hany]; rfl)
              clear hdk hany
              go_wp2_with fail
              refine HCc.out.mono ?_
              rintro e w2 ⟨rfl, hb2⟩
              have hB2 := hBa.trans (hb2.mono hBa.size)
              have hH2 := hH.kept (Kept.of_below (X := none') hb2) (fun h => h)
              have t4 := hH2.cell 4 rfl
              obtain ⟨p0, p1, p2, p3⟩ := HPC.out w2 hB2
              have hlast := HL.out.2.1
              have hsh := HSh.out 0 (by omega) (by omega)
              obtain ⟨pp, hpp⟩ : ∃ pp, pp = L.pto L.s1 0 := ⟨_, rfl⟩
              rw [← hpp] at HN2
              have HTT : Hid (wrap64 (L.s1.last + wrap64 (L.wait * 2 ^ L.probes.toNat)) = pp) := Lib.hid (by
                rw [hpp]
                unfold Lo.pto
                have e : (L.wait + 0) * 2 ^ L.probes.toNat = L.wait * 2 ^ L.probes.toNat := by rw [Int.add_zero]
                rw [e] at hsh ⊢
                generalize L.wait * 2 ^ L.probes.toNat = y at hsh
                have e2 : wrap64 y = y := wrap64_id (by omega) (by omega)
                rw [e2, wrap64_id (by omega) (by omega)])
              clear hpp hsh
              by_cases hv : 4 * L.vary ≤ 1
              · have hwt : L.smooth + 1 = L.wait := by unfold Lo.wait; omega
                go_wp2_with fail
                go_quiet (fail)
                all_goals try (exfalso; omega)
                go_wp2_with fail
                go_quiet (fail)
                have ht : wrap64 (L.s1.last + wrap64 (L.wait * 2 ^ L.probes.toNat)) = pp := HTT.out
                by_cases h1 : rs < 0
                · have HN3 : Hid (dp 2 = (1, pp)) := Lib.hid (by rw [HN2.out, if_pos (.inl h1)])
                  go_wp2
                  go_roundw
                  case rel => exact ⟨2, rfl, by rw [HN3.out] <;> rfl, by rw [HN3.out, ht], by omega, below_drewN hB2 _⟩
                  case measure => simp [intOf]
                · by_cases h2 : pp < ra
                  · have HN3 : Hid (dp 2 = (1, pp)) := Lib.hid (by rw [HN2.out, if_pos (.inr h2)])
                    go_wp2
                    go_roundw
                    case rel => exact ⟨2, rfl, by rw [HN3.out] <;> rfl, by rw [HN3.out, ht], by omega, below_drewN hB2 _⟩
                    case measure => simp [intOf]
                  · have HN3 : Hid (dp 2 = (rs, ra)) := Lib.hid (by rw [HN2.out, if_neg (by omega)])
                    go_wp2
                    go_roundw
                    case rel => exact ⟨2, rfl, by rw [HN3.out] <;> rfl, by rw [HN3.out] <;> rfl, by omega, below_drewN hB2 _⟩
                    case measure => simp [intOf]
              · have hv2 : 1 ≤ 4 * L.vary := by omega
                have hwt : L.smooth + 4 * L.vary = L.wait := by unfold Lo.wait; omega
                go_wp2_with fail
                go_quiet (fail)
                all_goals try (exfalso; omega)
                go_wp2_with fail
                go_quiet (fail)
                have ht : wrap64 (L.s1.last + wrap64 (L.wait * 2 ^ L.probes.toNat)) = pp := HTT.out
                by_cases h1 : rs < 0
                · have HN3 : Hid (dp 2 = (1, pp)) := Lib.hid (by rw [HN2.out, if_pos (.inl h1)])
                  go_wp2
                  go_roundw
                  case rel => exact ⟨2, rfl, by rw [HN3.out] <;> rfl, by rw [HN3.out, ht], by omega, below_drewN hB2 _⟩
                  case measure => simp [intOf]
                · by_cases h2 : pp < ra
                  · have HN3 : Hid (dp 2 = (1, pp)) := Lib.hid (by rw [HN2.out, if_pos (.inr h2)])
                    go_wp2
                    go_roundw
                    case rel => exact ⟨2, rfl, by rw [HN3.out] <;> rfl, by rw [HN3.out, ht], by omega, below_drewN hB2 _⟩
                    case measure => simp [intOf]
                  · have HN3 : Hid (dp 2 = (rs, ra)) := Lib.hid (by rw [HN2.out, if_neg (by omega)])
                    go_wp2
                    go_roundw
                    case rel => exact ⟨2, rfl, by rw [HN3.out] <;> rfl, by rw [HN3.out] <;> rfl, by omega, below_drewN hB2 _⟩
                    case measure => simp [intOf]
          · generalize hdk : dp 2 = r2 at HP3 ⊢
            obtain ⟨rs, ra⟩ := r2
            simp only [] at ⊢
            have hBa := hB.alloc hB.size (.cells #[.slice a2 L.s2.out.length c2, .int .i64 L.s2.high, .int .i64 L.s2.acked, .int .i64 L.s2.loss, .int .i64 L.s2.last] 61)
            have hH : Has (wr.alloc (.cells #[.slice a2 L.s2.out.length c2, .int .i64 L.s2.high, .int .i64 L.s2.acked, .int .i64 L.s2.loss, .int .i64 L.s2.last] 61)) wr.heap.size 61 [.slice a2 L.s2.out.length c2, .int .i64 L.s2.high, .int .i64 L.s2.acked, .int .i64 L.s2.loss, .int .i64 L.s2.last] := Has.new _ _ _
            have HCc := Lib.hid (HC2.out _ hBa)
            cases hany : L.s2.out.any (·.el)
            · rw [hany] at HCc
              have HN2 : Hid (dp 3 = (rs, ra)) := Lib.hid (by rw [HP3.out]; unfold dl2; rw [hany]; rfl)
              clear hdk hany
              go_wp2_with fail
              refine HCc.out.mono ?_
              rintro e w2 ⟨rfl, hb2⟩
              go_wp2
              go_roundw
              case rel => exact ⟨3, rfl, by rw [HN2.out] <;> rfl, by rw [HN2.out] <;> rfl, by omega, hBa.trans (hb2.mono hBa.size)⟩
              case measure => simp [intOf]
            · rw [hany] at HCc
              have HN2 : Hid (dp 3 = if rs < 0 ∨ L.pto L.s2 L.most < ra then (2, L.pto L.s2 L.most) else (rs, ra)) := Lib.hid (by rw [HP3.out]; unfold dl2; rw [hany]; rfl)
              clear hdk hany
              go_wp2_with fail
              refine HCc.out.mono ?_
              rintro e w2 ⟨rfl, hb2⟩
              have hB2 := hBa.trans (hb2.mono hBa.size)
              have hH2 := hH.kept (Kept.of_below (X := none') hb2) (fun h => h)
              have t4 := hH2.cell 4 rfl
              obtain ⟨p0, p1, p2, p3⟩ := HPC.out w2 hB2
              have hlast := HL.out.2.2
              have hsh := HSh.out L.most (by omega) (by omega)
              obtain ⟨pp, hpp⟩ : ∃ pp, pp = L.pto L.s2 L.most := ⟨_, rfl⟩
              rw [← hpp] at HN2
              have HTT : Hid (wrap64 (L.s2.last + wrap64 ((L.wait + L.most) * 2 ^ L.probes.toNat)) = pp) := Lib.hid (by
                rw [hpp]
                unfold Lo.pto
                have e : (L.wait + L.most) * 2 ^ L.probes.toNat = (L.wait + L.most) * 2 ^ L.probes.toNat := by rfl
                rw [e] at hsh ⊢
                generalize (L.wait + L.most) * 2 ^ L.probes.toNat = y at hsh
                have e2 : wrap64 y = y := wrap64_id (by omega) (by omega)
                rw [e2, wrap64_id (by omega) (by omega)])
              clear hpp hsh
              by_cases hv : 4 * L.vary ≤ 1
              · have hwt : L.smooth + 1 = L.wait := by unfold Lo.wait; omega
                go_wp2_with fail
                go_quiet (fail)
                all_goals try (exfalso; omega)
                go_wp2_with fail
                go_quiet (fail)
                have ht : wrap64 (L.s2.last + wrap64 ((L.wait + L.most) * 2 ^ L.probes.toNat)) = pp := HTT.out
                by_cases h1 : rs < 0
                · have HN3 : Hid (dp 3 = (2, pp)) := Lib.hid (by rw [HN2.out, if_pos (.inl h1)])
                  go_wp2
                  go_roundw
                  case rel => exact ⟨3, rfl, by rw [HN3.out] <;> rfl, by rw [HN3.out, ht], by omega, below_drewN hB2 _⟩
                  case measure => simp [intOf]
                · by_cases h2 : pp < ra
                  · have HN3 : Hid (dp 3 = (2, pp)) := Lib.hid (by rw [HN2.out, if_pos (.inr h2)])
                    go_wp2
                    go_roundw
                    case rel => exact ⟨3, rfl, by rw [HN3.out] <;> rfl, by rw [HN3.out, ht], by omega, below_drewN hB2 _⟩
                    case measure => simp [intOf]
                  · have HN3 : Hid (dp 3 = (rs, ra)) := Lib.hid (by rw [HN2.out, if_neg (by omega)])
                    go_wp2
                    go_roundw
                    case rel => exact ⟨3, rfl, by rw [HN3.out] <;> rfl, by rw [HN3.out] <;> rfl, by omega, below_drewN hB2 _⟩
                    case measure => simp [intOf]
              · have hv2 : 1 ≤ 4 * L.vary := by omega
                have hwt : L.smooth + 4 * L.vary = L.wait := by unfold Lo.wait; omega
                go_wp2_with fail
                go_quiet (fail)
                all_goals try (exfalso; omega)
                go_wp2_with fail
                go_quiet (fail)
                have ht : wrap64 (L.s2.last + wrap64 ((L.wait + L.most) * 2 ^ L.probes.toNat)) = pp := HTT.out
                by_cases h1 : rs < 0
                · have HN3 : Hid (dp 3 = (2, pp)) := Lib.hid (by rw [HN2.out, if_pos (.inl h1)])
                  go_wp2
                  go_roundw
                  case rel => exact ⟨3, rfl, by rw [HN3.out] <;> rfl, by rw [HN3.out, ht], by omega, below_drewN hB2 _⟩
                  case measure => simp [intOf]
                · by_cases h2 : pp < ra
                  · have HN3 : Hid (dp 3 = (2, pp)) := Lib.hid (by rw [HN2.out, if_pos (.inr h2)])
                    go_wp2
                    go_roundw
                    case rel => exact ⟨3, rfl, by rw [HN3.out] <;> rfl, by rw [HN3.out, ht], by omega, below_drewN hB2 _⟩
                    case measure => simp [intOf]
                  · have HN3 : Hid (dp 3 = (rs, ra)) := Lib.hid (by rw [HN2.out, if_neg (by omega)])
                    go_wp2
                    go_roundw
                    case rel => exact ⟨3, rfl, by rw [HN3.out] <;> rfl, by rw [HN3.out] <;> rfl, by omega, below_drewN hB2 _⟩
                    case measure => simp [intOf]
          · go_wp2
            go_ret3
            exact ⟨by rw [HE.out]; rfl, hB⟩
end Go.Proofs.Ytkpeegcpicckjaa

/- Contracts of turnpikeref01: Same, Copy. No condition but sizes. -/
import Derived.Test.YtfffefhchjnfjaaGreatDoorMem
namespace Go.Proofs.YtfffefhchjnfjaaGreatDoor
open Go.RowKit

theorem infoU8 : (Tryz.prog.info? 5).map (fun i => (i.zero, i.size, i.bytes)) = some (some (.int .u8 0), 1, 1) := by kernel_rfl
theorem tyU8 : ETy Tryz.prog 23 5 (.int .u8 0) 1 := by
  obtain ⟨i, hi, h1, h2, h3⟩ := info_parts infoU8
  exact ⟨Tryz.underlying23, ⟨i, hi, h1, h2, h3⟩, rfl⟩

theorem take_snoc (l : List UInt8) (k : Nat) (h : k < l.length) : l.take (k + 1) = l.take k ++ [l[k]] := by
  rw [List.take_succ_eq_append_getElem h]

set_option maxHeartbeats 400000 in
theorem same_any (w : World) {a1 : Option Addr} {n1 c1 : Nat} {l1 : List UInt8} {a2 : Option Addr} {n2 c2 : Nat} {l2 : List UInt8}
    (h1 : Sl w a1 n1 c1 (bv l1)) (h2 : Sl w a2 n2 c2 (bv l2)) :
    Calls Tryz.prog 13 #[.slice a1 n1 c1, .slice a2 n2 c2] w fun e w' => e = .returned (.bool (decide (l1 = l2))) ∧ Below w.heap.size w w' := by
  have e1 := h1.byte
  have e2 := h2.byte
  have hm : n1 ≤ 9223372036854775807 := by have := h1.cap_le; have := h1.cap_max; unfold maxLen at this; omega
  by_cases hn : n1 = n2
  · subst hn
    by_cases hp : n1 = 0
    · subst hp
      obtain rfl : l1 = [] := List.eq_nil_of_length_eq_zero e1
      obtain rfl : l2 = [] := List.eq_nil_of_length_eq_zero e2
      go_enter Tryz.func13, Tryz.ntmps13
      go_wp2
      refine wp_loop_once ?_
      go_wp2
      go_ret
      exact ⟨rfl, Below.refl _ _⟩
    · obtain ⟨b1, o1, rfl, hc1⟩ := h1.cells (by omega)
      obtain ⟨b2, o2, rfl, hc2⟩ := h2.cells (by omega)
      have hne : ((n1 : Int) != (n1 : Int)) = false := by simp
      go_enter Tryz.func13, Tryz.ntmps13
      go_wp2
      go_loopw [5] (fun i wr => ∃ k : Nat, k ≤ n1 ∧ i = .int .i64 k ∧ l1.take k = l2.take k ∧ Below w.heap.size w wr) (fun i _ => n1 - (intOf i).toNat)
      case atStart => exact ⟨0, Nat.zero_le _, rfl, by simp, Below.refl _ _⟩
      case round =>
        obtain ⟨k, hk, rfl, ht, hb⟩ := hrel
        have HT := Lib.hid ht
        clear ht
        by_cases hlt : k < n1
        · have g1 := hc1 k hlt
          have g2 := hc2 k hlt
          rw [bv_get l1 k (by omega)] at g1
          rw [bv_get l2 k (by omega)] at g2
          have q1 : wr.cell? ⟨b1, o1 + k, none⟩ = some (.int .u8 (l1[k].toNat : Int)) := by rw [hb.cell (World.block_lt_of_cell? w _ g1)]; exact g1
          have q2 : wr.cell? ⟨b2, o2 + k, none⟩ = some (.int .u8 (l2[k].toNat : Int)) := by rw [hb.cell (World.block_lt_of_cell? w _ g2)]; exact g2
          clear g1 g2 hc1 hc2
          have kk : ((k : Int)) < (n1 : Int) := by omega
          by_cases hx : l1[k] = l2[k]
          · have hd : ((l1[k].toNat : Int) != (l2[k].toNat : Int)) = false := by rw [hx]; simp
            have HS : Hid (l1.take (k + 1) = l2.take (k + 1)) := by show _ = _; rw [take_snoc l1 k (by omega), take_snoc l2 k (by omega), HT.out, hx]
            go_wp2
            go_quiet (fail)
            go_wp2
            go_roundw
            case rel => exact ⟨k + 1, by omega, by go_num, HS.out, below_drewN hb _⟩
            case measure => simp [intOf]; omega
          · have hd : ((l1[k].toNat : Int) != (l2[k].toNat : Int)) = true := by rw [bne_iff_ne]; exact fun h => hx (u8_inj h)
            have HN : Hid (¬ l1 = l2) := by show ¬ _; intro h; subst h; exact hx rfl
            go_wp2
            go_quiet (fail)
            go_wp2
            go_ret
            exact ⟨ret_bool (decide_eq_false HN.out).symm, below_drewN hb _⟩
        · have hke : k = n1 := by omega
          have HE : Hid (l1 = l2) := by
            have := HT.out
            rwa [List.take_of_length_le (by omega), List.take_of_length_le (by omega)] at this
          clear hc1 hc2
          subst hke
          go_wp2
          go_ret
          exact ⟨ret_bool (decide_eq_true HE.out).symm, hb⟩
  · have hne : ((n1 : Int) != (n2 : Int)) = true := by rw [bne_iff_ne]; omega
    have HN : Hid (¬ l1 = l2) := by show ¬ _; intro h; subst h; omega
    go_enter Tryz.func13, Tryz.ntmps13
    go_wp2
    go_ret
    exact ⟨ret_bool (decide_eq_false HN.out).symm, Below.refl _ _⟩
end Go.Proofs.YtfffefhchjnfjaaGreatDoor

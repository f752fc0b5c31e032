/- SendqKeeps answers true. -/
import Derived.Test.YtkjclgpecppokaaSqKeep
import Derived.Test.YtkjclgpecppokaaSqLaw1
import Derived.Test.YtkjclgpecppokaaOpen
namespace Go.Proofs.Ytkjclgpecppokaa
open Go.RowKit

theorem iv_get (k : IntKind) (zs : List Int) (i : Nat) (h : i < zs.length) : (iv k zs)[i]? = some (.int k zs[i]) := by simp [iv, h]

/-- one round of the law, at a number that counts -/
theorem lim_fresh {B : Nat} {F : Nat → Prop} {w w' : World} {g : Nat} {q : Qu} (h : QAt (Fat F w w') w' g q) (hF : ∀ k, F k → B ≤ k) (hB : B ≤ w.heap.size) : QAt (fun k => B ≤ k) w' g q :=
  h.more (fun k hk _ => hk.elim (fun h => hF k h) (fun h => by omega))

theorem zero_cells (n : Nat) : (madeCells (Value.int .u8 0).cells (n * 1)).toList = bv (List.replicate n 0) := by
  have h : (Value.int .u8 0).cells = #[Value.int .u8 0] := rfl
  rw [h, Nat.mul_one]
  simp [madeCells, bv]
  apply List.ext_getElem
  · simp
  · intro i h1 h2
    simp [Nat.mod_one]

set_option maxRecDepth 100000 in
set_option maxHeartbeats 2000000 in
theorem keeps_any (W : World) (room : Int) (_ : -9223372036854775808 ≤ room) (_ : room ≤ 9223372036854775807) {a : Option Addr} {n c : Nat} {zs : List Int} (h : Sl W a n c (iv .i64 zs)) (hn : n * 8 ≤ 140737488351232) (hw : ∀ z ∈ zs, (Lit.int .i64 z).wf = true) :
    Calls Try.prog 5 #[.int .i64 room, .slice a n c] W fun e w' => e = .returned (.bool true) ∧ Below W.heap.size W w' := by
  by_cases hr : room < 1 ∨ 65536 < room
  · have HA := Lib.hid awake4_any
    rcases hr with hr | hr
    · go_enter Try.func5, Try.ntmps5
      go_wp2_with fail
      refine (new_any W room).mono ?_
      rintro e w1 (⟨_, rfl, hb1⟩ | ⟨h1, h2, _⟩)
      rotate_left
      · exfalso; omega
      go_wp2_with fail
      refine (HA.out w1).mono ?_
      rintro e w2 ⟨rfl, hb2⟩
      go_wp2
      go_ret
      exact ⟨rfl, hb1.trans (hb2.mono hb1.size)⟩
    · have hr' : ¬ room < 1 := by omega
      go_enter Try.func5, Try.ntmps5
      go_wp2_with fail
      refine (new_any W room).mono ?_
      rintro e w1 (⟨_, rfl, hb1⟩ | ⟨h1, h2, _⟩)
      rotate_left
      · exfalso; omega
      go_wp2_with fail
      refine (HA.out w1).mono ?_
      rintro e w2 ⟨rfl, hb2⟩
      go_wp2
      go_ret
      exact ⟨rfl, hb1.trans (hb2.mono hb1.size)⟩
  · obtain ⟨rm, rfl⟩ := Int.eq_ofNat_of_zero_le (show 0 ≤ room by omega)
    have hr1 : 1 ≤ rm := by omega
    have hr2 : rm ≤ 65536 := by omega
    have HZ : Hid (zs.length = n) := Lib.hid (by have := h.len; simpa [iv] using this)
    have HA := Lib.hid awake4_any
    have hn44 : n ≤ 17592186043904 := by omega
    have hcap := h.cap_le
    have hcc := h.cells
    have HC := Lib.hid hcc
    have HW := Lib.hid hw
    clear hr hcc hw h
    go_enter Try.func5, Try.ntmps5
    go_wp2_with fail
    refine (new_any W rm).mono ?_
    rintro e w1 (⟨h, _⟩ | ⟨_, _, g, rfl, hQ, hb1⟩)
    · exfalso; omega
    have q1 : QAt (fun k => W.heap.size ≤ k) w1 g (idle rm 0 []) := hQ.more (fun _ h _ => h.1)
    clear hQ
    go_wp2_with fail
    go_loopw [38] (fun v wr => ∃ (k base : Nat) (data : List UInt8), v = .int .i64 (k : Int) ∧ k ≤ n ∧ QAt (fun k => W.heap.size ≤ k) wr g (idle rm base data) ∧ data.length ≤ rm ∧ base + data.length ≤ k * 4096 ∧ Below W.heap.size W wr) (fun v _ => n - (intOf v).toNat)
    case atStart => exact ⟨0, 0, [], rfl, Nat.zero_le _, q1, Nat.zero_le _, by simp, hb1⟩
    case round =>
      obtain ⟨k, base, data, rfl, hk, hQ, hfit, hmost, hB⟩ := hrel
      clear q1
      by_cases hkn : k < n
      · have hkn' : (k : Int) < (n : Int) := by omega
        have g2 : IntKind.i64.wrap ((k : Int) + 1) = (k : Int) + 1 := by rw [IntKind.wrap_i64]; omega
        obtain ⟨b, off, rfl, hc⟩ := HC.out (by omega)
        have hkz : k < zs.length := by have := HZ.out; omega
        have hck := hc k hkn
        rw [iv_get _ _ _ hkz] at hck
        have hblt := World.block_lt_of_cell? W _ hck
        have hck : wr.cell? ⟨b, off + k, none⟩ = some (.int .i64 zs[k]) := by rw [hB.cell hblt]; exact hck
        have hzb := bounds_i64 (HW.out _ (List.getElem_mem hkz))
        generalize zs[k] = z at hck hzb
        clear hc
        obtain ⟨hz1, hz2⟩ := hzb
        by_cases hz : z < 0
        · go_wp2
          go_roundw
          case rel => exact ⟨k + 1, base, data, by push_cast; rfl, by omega, hQ, hfit, by omega, hB⟩
          case measure => simp [intOf]; omega
        · by_cases hz4 : 4096 < z
          · go_wp2
            go_roundw
            case rel => exact ⟨k + 1, base, data, by push_cast; rfl, by omega, hQ, hfit, by omega, hB⟩
            case measure => simp [intOf]; omega
          · obtain ⟨m, rfl⟩ := Int.eq_ofNat_of_zero_le (show 0 ≤ z by omega)
            have hm4 : m ≤ 4096 := by omega
            have hok := idle_ok hr1 hr2 hfit (show base + data.length ≤ 1152921504606846976 by omega)
            have HR : Hid (∀ w', Below wr.heap.size wr w' → Calls Try.prog 11 #[.pointer (some ⟨g, 0, none⟩)] w' (IntOf w' ((rm : Int) - data.length))) := Lib.hid (fun w' hb => room_any w' (hQ.below hb) hok)
            go_wp2_with fail
            refine (HR.out wr (Below.refl _ _)).mono ?_
            rintro e w2 ⟨rfl, hb2⟩
            have z2 := hb2.size
            have B2 := hB.trans (hb2.mono hB.size)
            have hQ2 := hQ.below hb2
            obtain ⟨t, ht⟩ : ∃ t : Nat, t = min m (rm - data.length) := ⟨_, rfl⟩
            have htm : t ≤ m := by omega
            have hmin : min (m : Int) ((rm : Int) - (data.length : Int)) = (t : Int) := by omega
            have htr : (data.length : Int) + (t : Int) ≤ (rm : Int) := by omega
            obtain ⟨ti, hti, htz, htsize, htby⟩ := tyU8.ex
            have HWr : Hid (∀ w3 : World, w2.grownBy w3 none → w3.ownsRow w2.heap.size 5 1 (.slice (some ⟨w2.heap.size, 0, none⟩) m m) m (madeCells (Value.int .u8 0).cells (m * 1)).toList →
                Calls Try.prog 16 #[.pointer (some ⟨g, 0, none⟩), .slice (some ⟨w2.heap.size, 0, none⟩) m m] w3 fun e w' => e = .returned (.tuple #[.int .i64 (t : Int), .int .i64 0]) ∧ Below W.heap.size W w' ∧ ∃ data', data'.length = data.length + t ∧ QAt (fun k => W.heap.size ≤ k) w' g (idle rm base data')) := Lib.hid (by
              intro w3 hg3 ho3
              rw [zero_cells] at ho3
              have k3 : Kept none' w2 w3 := (Kept.of_grown hg3).more (fun _ _ h => by cases h)
              have hQ3 := hQ2.kept k3 (fun _ _ _ h => h)
              have hlen : (List.replicate m (0 : UInt8)).length = m := by simp
              refine (write_any w3 hQ3 hok (own_sl ho3)).mono ?_
              rintro e w' ⟨he, hk', hQ'⟩
              rw [idle_took, hlen, ← ht] at he
              rw [idle_write, hlen, ← ht] at hQ'
              refine ⟨he, ?_, data ++ (List.replicate m 0).take t, by simp; omega, lim_fresh hQ' (fun _ h => h) (by have := B2.size; have := hg3.size; omega)⟩
              have B3 : Below W.heap.size W w3 := B2.trans (k3.below B2.size (fun _ h => h.elim))
              exact Kept.fresh B3 hk' (fun _ h => h))
            have hdl : data.length ≤ 65536 := by omega
            have hbz : base ≤ 72057594037927936 := by omega
            have f1 : IntKind.i64.wrap ((rm : Int) - (data.length : Int) - (t : Int)) = (rm : Int) - data.length - t := by rw [IntKind.wrap_i64]; omega
            have f2 : IntKind.i64.wrap ((base : Int) + ((data.length : Int) + (t : Int)) - (base : Int)) = (data.length : Int) + t := by rw [IntKind.wrap_i64]; omega
            have HT := Lib.hid ht
            clear ht hQ hQ2 hok HR hb2 hB
            go_wp2_with (refine wpList_make_full _ rfl (.tmp 52) (.tmp 52) _ rfl w2.heap.size 5 ti (.int .u8 0) 1 tyU8.ht hti htz htsize .i64 .i64 _ _ m rfl rfl rfl rfl (by rw [htby]; omega) (by unfold maxLen; omega) (Nat.le_refl _) ?_; intro w3 ho3 hg3)
            refine (HWr.out w3 hg3 ho3).mono ?_
            rintro e w4 ⟨rfl, B4, data', hd', hQ4⟩
            clear HWr ho3 hg3
            have hok' := idle_ok hr1 hr2 (show data'.length ≤ rm by omega) (show base + data'.length ≤ 1152921504606846976 by omega)
            have HD := Lib.hid hd'
            have HR : Hid (∀ w', QAt (fun k => W.heap.size ≤ k) w' g (idle rm base data') → Calls Try.prog 11 #[.pointer (some ⟨g, 0, none⟩)] w' (IntOf w' ((rm : Int) - data.length - t))) := Lib.hid (fun w' hb => by
              have := room_any w' hb hok'
              rwa [show (((idle rm base data').room : Int) - ((idle rm base data').data.length : Int)) = (rm : Int) - data.length - t by simp only [idle]; omega] at this)
            have HWt : Hid (∀ w', QAt (fun k => W.heap.size ≤ k) w' g (idle rm base data') → Calls Try.prog 12 #[.pointer (some ⟨g, 0, none⟩)] w' (IntOf w' ((base : Int) + (data.length + t)))) := Lib.hid (fun w' hb => by
              have := written_any w' hb hok'
              rwa [show (((idle rm base data').base : Int) + ((idle rm base data').data.length : Int)) = (base : Int) + (data.length + t) by simp only [idle]; omega] at this)
            have HBs : Hid (∀ w', QAt (fun k => W.heap.size ≤ k) w' g (idle rm base data') → Calls Try.prog 14 #[.pointer (some ⟨g, 0, none⟩)] w' (IntOf w' (base : Int))) := Lib.hid (fun w' hb => base_any w' hb)
            have hd1 : data'.length ≤ data.length + t := by omega
            have hd2 : data.length + t ≤ data'.length := by omega
            clear hd'
            go_wp2_with fail
            refine (HR.out w4 hQ4).mono ?_
            rintro e w5 ⟨rfl, hb5⟩
            have hQ5 := hQ4.below hb5
            have B5 := B4.trans (hb5.mono B4.size)
            go_wp2_with fail
            refine (HWt.out w5 hQ5).mono ?_
            rintro e w6 ⟨rfl, hb6⟩
            have hQ6 := hQ5.below hb6
            have B6 := B5.trans (hb6.mono B5.size)
            go_wp2_with fail
            refine (HBs.out w6 hQ6).mono ?_
            rintro e w7 ⟨rfl, hb7⟩
            have hQ7 := hQ6.below hb7
            have B7 := B6.trans (hb7.mono B6.size)
            have HN := next_any w7 hQ7 hok' (m : Int) 1099511627776 (by decide)
            clear hQ4 hQ5 hQ6 hb5 hb6 hb7 B4 B5 B6
            rcases idle_next rm base data' (m : Int) 1099511627776 with ⟨ho, hnx⟩ | ⟨n', hn0, hn', ho, hnx⟩
            · unfold Nexted at HN
              rw [ho, hnx] at HN
              have HN' : Hid (Calls Try.prog 10 #[.pointer (some ⟨g, 0, none⟩), .int .i64 (m : Int), .int .i64 1099511627776] w7 fun e w' => ∃ a c, e = .returned (.tuple #[.int .i64 0, .slice a 0 c, .bool false, .bool false]) ∧ Kept (fun k => W.heap.size ≤ k) w7 w' ∧ QAt (fun k => W.heap.size ≤ k) w' g (idle rm base data')) :=
                Lib.hid (HN.mono fun e w' ⟨a, c, h1, h2, h3, h4⟩ => ⟨a, c, h1, h3, h4⟩)
              clear HN ho hnx
              go_wp2_with fail
              refine HN'.out.mono ?_
              rintro e w8 ⟨a8, c8, rfl, hk8, hQ8⟩
              go_wp2
              go_roundw
              case rel => exact ⟨k + 1, base, data', by push_cast; rfl, by omega, hQ8, by omega, by omega, Kept.fresh B7 hk8 (fun _ h => h)⟩
              case measure => simp [intOf]; omega
            · unfold Nexted at HN
              rw [ho, hnx] at HN
              have hlt : (data'.take n').length = n' := by simp; omega
              simp only [hlt] at HN
              have HN' : Hid (Calls Try.prog 10 #[.pointer (some ⟨g, 0, none⟩), .int .i64 (m : Int), .int .i64 1099511627776] w7 fun e w' => ∃ a c, e = .returned (.tuple #[.int .i64 (base : Int), .slice a n' c, .bool false, .bool true]) ∧ Kept (fun k => W.heap.size ≤ k) w7 w' ∧
                  Calls Try.prog 20 #[.pointer (some ⟨g, 0, none⟩), .int .i64 (base : Int), .int .i64 (n' : Int), .bool false] w' fun e w'' => e = .returned (.int .i64 0) ∧ Kept (fun k => W.heap.size ≤ k) w' w'' ∧ QAt (fun k => W.heap.size ≤ k) w'' g (idle rm (base + n') (data'.drop n'))) :=
                Lib.hid (HN.mono fun e w' ⟨a, c, h1, h2, h3, h4⟩ => ⟨a, c, h1, h3, by
                  have hA := ack_any w' h4 (by rw [← hnx]; exact hok'.next _ _) (base : Int) (n' : Int) false
                  obtain ⟨e1, e2⟩ := idle_ack rm base data' n' hn0 hn' _ rfl
                  rw [e1, e2] at hA
                  exact hA⟩)
              have hok2 := idle_ok hr1 hr2 (show (data'.drop n').length ≤ rm by simp; omega) (show base + n' + (data'.drop n').length ≤ 1152921504606846976 by simp; omega)
              have HR2 : Hid (∀ w', QAt (fun k => W.heap.size ≤ k) w' g (idle rm (base + n') (data'.drop n')) → Calls Try.prog 11 #[.pointer (some ⟨g, 0, none⟩)] w' (IntOf w' ((rm : Int) - data.length - t + n'))) := Lib.hid (fun w' hb => by
                have := room_any w' hb hok2
                rwa [show (((idle rm (base + n') (data'.drop n')).room : Int) - ((idle rm (base + n') (data'.drop n')).data.length : Int)) = (rm : Int) - data.length - t + n' by simp only [idle, List.length_drop]; omega] at this)
              have f3 : IntKind.i64.wrap ((rm : Int) - (data.length : Int) - (t : Int) + (n' : Int)) = (rm : Int) - data.length - t + n' := by rw [IntKind.wrap_i64]; omega
              clear HN ho hnx hlt
              go_wp2_with fail
              refine HN'.out.mono ?_
              rintro e w8 ⟨a8, c8, rfl, hk8, hA8⟩
              have B8 := Kept.fresh B7 hk8 (fun _ h => h)
              have HA8 := Lib.hid hA8
              clear hA8
              go_wp2_with fail
              refine HA8.out.mono ?_
              rintro e w9 ⟨rfl, hk9, hQ9⟩
              have B9 := Kept.fresh B8 hk9 (fun _ h => h)
              go_wp2_with fail
              refine (HR2.out w9 hQ9).mono ?_
              rintro e w10 ⟨rfl, hb10⟩
              have hQ10 := hQ9.below hb10
              go_wp2
              go_roundw
              case rel => exact ⟨k + 1, base + n', data'.drop n', by push_cast; rfl, by omega, hQ10, by simp; omega, by simp; omega, B9.trans (hb10.mono B9.size)⟩
              case measure => simp [intOf]; omega
      · obtain rfl : k = n := by omega
        go_wp2_with fail
        refine (HA.out wr).mono ?_
        rintro e w2 ⟨rfl, hb2⟩
        go_wp2
        go_ret
        exact ⟨rfl, hB.trans (hb2.mono hB.size)⟩
end Go.Proofs.Ytkjclgpecppokaa

/- SendqArrives answers true. -/
import Derived.Test.YtkjclgpecppokaaSqArr
import Derived.Test.YtkjclgpecppokaaSqLaw1
import Derived.Test.YtkjclgpecppokaaBools
import Derived.Test.YtkjclgpecppokaaCopy
namespace Go.Proofs.Ytkjclgpecppokaa
open Go.RowKit

set_option maxRecDepth 100000 in
set_option maxHeartbeats 100000000 in
theorem arrives_any (W : World) {da : Option Addr} {dn dc : Nat} {l : List UInt8} (hD : Sl W da dn dc (bv l)) (hdn : dn * 1 ≤ 140737488351232) {sa : Option Addr} {sn sc : Nat} {zs : List Int} (hS : Sl W sa sn sc (iv .i64 zs)) (hsn : sn * 8 ≤ 140737488351232) (hw : ∀ z ∈ zs, (Lit.int .i64 z).wf = true)
    (la : Option Addr) (ln lc : Nat) (bs : List Bool) (hL : Sl W la ln lc (boV bs)) :
    Calls Try.prog 6 #[.slice da dn dc, .slice sa sn sc, .slice la ln lc] W fun e w' => e = .returned (.bool true) ∧ Below W.heap.size W w' := by
  have hl := hD.byte
  have hdcm : (dn : Int) ≤ (dc : Int) := by have := hD.cap_le; omega
  subst hl
  have HNw : Hid (Calls Try.prog 8 #[.int .i64 65536] W fun e w1 => ∃ g, e = .returned (.tuple #[.pointer (some ⟨g, 0, none⟩), .int .i64 0]) ∧ QAt (Fo W none) w1 g (Qu.new 65536) ∧ Below W.heap.size W w1) :=
    Lib.hid ((new_any W 65536).mono (by
      rintro e w1 (⟨h, _⟩ | ⟨_, _, g, h1, h2, h3⟩)
      · exfalso; omega
      · exact ⟨g, h1, h2.more (fun _ h _ => ⟨h.1, by simp⟩), h3⟩))
  by_cases hbig : 65536 < l.length
  · have hbig' : (65536 : Int) < (l.length : Int) := by omega
    clear hw hS hL hD
    go_enter Try.func6, Try.ntmps6
    go_wp2_with fail
    refine HNw.out.mono ?_
    rintro e w1 ⟨g, rfl, _, hb1⟩
    go_wp2
    go_ret
    exact ⟨rfl, hb1⟩
  · have HA := Lib.hid awake4_any
    have hsm : l.length ≤ 65536 := by omega
    have hbig' : ¬ (65536 : Int) < (l.length : Int) := by omega
    have hsI : (l.length : Int) ≤ 65536 := by omega
    have hss : (sn : Int) ≤ 17592186044416 := by omega
    have HS := Lib.hid hS
    have HL := Lib.hid hL
    have HD := Lib.hid hD
    have HW := Lib.hid hw
    have hst := Lib.hid (AInv.start hsm)
    have hscap : (sn : Int) ≤ (sc : Int) := by have := hS.cap_le; omega
    have hlcap : (ln : Int) ≤ (lc : Int) := by have := hL.cap_le; omega
    have hlm : (ln : Int) ≤ 9223372036854775807 := by have := hL.cap_le; have := hL.cap_max; unfold maxLen at this; omega
    clear hS hL hD hw hbig
    go_enter Try.func6, Try.ntmps6
    go_wp2_with fail
    refine HNw.out.mono ?_
    rintro e w1 ⟨g, rfl, hQ1, hb1⟩
    have HCp := Lib.hid (copy_any w1 (HD.out.below hb1) (by omega))
    go_wp2_with fail
    refine HCp.out.mono ?_
    rintro e w2 ⟨a2, c2, rfl, ho2, hb2⟩
    have hQ2 := hQ1.below hb2
    have hB2 := hb1.trans (hb2.mono hb1.size)
    have ht : (Qu.new 65536).took l = l.length := by unfold Qu.took Qu.new; simp; omega
    have HWr := write_any w2 hQ2 (Qu.new_ok (by decide) (by decide)) (own_sl ho2)
    unfold Wrote at HWr
    rw [ht, show (Qu.new 65536).werr = 0 from rfl] at HWr
    have HWr := Lib.hid HWr
    clear hQ2 hQ1 HCp HNw ht
    go_wp2_with fail
    refine HWr.out.mono ?_
    rintro e w3 ⟨rfl, hk3, hQ3⟩
    have hQ3' : QAt (Fo W none) w3 g ((Qu.new 65536).write l) := fo_after hQ3 (fun j h => h) hB2.size (by simp)
    have hB3 := Kept.fresh hB2 hk3 (fun j h => h.1)
    have HFn := finish_any w3 hQ3'
    rw [show ((Qu.new 65536).write l).werr = 0 from rfl] at HFn
    have HFn := Lib.hid HFn
    clear hQ3 hQ3' HWr hk3 hB2 ho2 hb2
    go_wp2_with fail
    refine HFn.out.mono ?_
    rintro e w4 ⟨rfl, hk4, hQ4⟩
    have hB4 := Kept.fresh hB3 hk4 (fun j h => h.1)
    obtain ⟨q0, hq0⟩ : ∃ q0, q0 = ((Qu.new 65536).write l).finish := ⟨_, rfl⟩
    rw [← hq0] at hQ4
    have hst : Hid (AInv l q0 (List.replicate l.length false) false) := by rw [hq0]; exact hst
    clear HFn hk4 hB3 hq0
    go_wp2_with fail
    go_loopw [11, 63] (fun ov jv wv => ∃ (j : Nat) (oa' : Option Addr) (oc' : Nat), jv = .int .i64 (j : Int) ∧ j ≤ l.length ∧ ov = .slice oa' j oc' ∧
      wv.ownsRow 0 4 1 (.slice oa' j oc') j (boV (List.replicate j false)) ∧ QAt (Fo W oa') wv g q0 ∧ Below W.heap.size W wv ∧ ∀ ad, oa' = some ad → W.heap.size ≤ ad.block) (fun _ jv _ => l.length - (intOf jv).toNat)
    case atStart => exact ⟨0, none, 0, rfl, Nat.zero_le _, rfl, World.ownsRow_nil _ _ _ _, hQ4, hB4, by simp⟩
    case round =>
      obtain ⟨j, oa', oc', rfl, hj, rfl, hOj, hQj, hBj, hoaj⟩ := hrel
      clear hQ4 hB4
      by_cases hjt : j < l.length
      · have hjt' : (j : Int) < (l.length : Int) := by omega
        have g3 : IntKind.i64.wrap ((j : Int) + 1) = (j : Int) + 1 := by rw [IntKind.wrap_i64]; omega
        have hal2 : Below wr.heap.size wr (wr.alloc (.cells #[.bool false] 4)) := (Below.refl _ _).alloc (Nat.le_refl _) _
        have hs1 : Sl (wr.alloc (.cells #[.bool false] 4)) (some ⟨wr.heap.size, 0, none⟩) 1 1 (boV [false]) := ⟨rfl, Nat.le_refl _, by decide, by simp, fun _ => ⟨_, 0, rfl, fun i hi => by
          have : i = 0 := by omega
          subst this
          simp [boV]⟩⟩
        obtain ⟨a4, c4', w4, hr4, ho4, hg4, hno4⟩ := run_app_own (tyo := 33) tyBool (B := 0) (own_below hOj hal2) hs1 (boV_one _) (by omega) (by unfold maxLen; omega) (Nat.zero_le _)
        have k4 := Kept.of_grown hg4
        have hwz : (wr.alloc (.cells #[.bool false] 4)).heap.size = wr.heap.size + 1 := by simp
        go_wp2_with (at_builtin; refine Lib.wpList_append_run _ rfl _ _ _ _ rfl (.slice oa' j oc') (.slice (some ⟨wr.heap.size, 0, none⟩) 1 1) rfl rfl _ _ hr4 ?_)
        go_roundw
        case rel =>
          have hown : ∀ kk, Value.ownBlock (.slice oa' j oc') = some kk → ∃ ad, oa' = some ad ∧ ad.block = kk := fun kk hkk => by
            cases oa' with
            | none => cases hkk
            | some ad => exact ⟨ad, rfl, by simpa [Value.ownBlock] using hkk⟩
          refine ⟨j + 1, a4, c4', by push_cast; rfl, by omega, rfl, ?_, ?_, ?_, ?_⟩
          · rw [List.replicate_succ', show boV (List.replicate j false ++ [false]) = boV (List.replicate j false) ++ boV [false] by simp [boV]]
            exact ho4
          · have hq2 := (hQj.more (G := fun kk => Fo W oa' kk ∧ kk < wr.heap.size) (fun kk h hlt => ⟨h, hlt⟩)).below hal2
            refine (hq2.kept k4 (fun kk hkk _ hx => by obtain ⟨ad, ha, e⟩ := hown kk hx; exact hkk.1.2 ad ha e.symm)).more (fun kk hkk _ => ⟨hkk.1.1, fun ad ha e => ?_⟩)
            rcases newOr_at hno4 ha with ⟨x, hx, e2⟩ | e2
            · exact hkk.1.2 x hx (by omega)
            · omega
          · refine (hBj.trans (hal2.mono hBj.size)).trans (k4.below (by rw [hwz]; have := hBj.size; omega) (fun kk hx => ?_))
            obtain ⟨ad, ha, e⟩ := hown kk hx
            have := hoaj ad ha
            omega
          · intro ad ha
            rcases newOr_at hno4 ha with ⟨x, hx, e2⟩ | e2
            · have := hoaj x hx; omega
            · have := hBj.size; omega
        case measure => simp [intOf]; omega
      · obtain rfl : j = l.length := by omega
        have f1 : IntKind.i64.wrap ((sn : Int) + (l.length : Int)) = (sn : Int) + l.length := by rw [IntKind.wrap_i64]; omega
        have f2 : IntKind.i64.wrap ((sn : Int) + (l.length : Int) + 2) = (sn : Int) + l.length + 2 := by rw [IntKind.wrap_i64]; omega
        have htd0 : todo (List.replicate l.length false) false ≤ l.length + 1 - (0 - sn) := by unfold todo; simp
        go_wp2_with fail
        go_loopw [12, 13] (fun ev iv wv => ∃ (k : Nat) (got : List Bool) (ended : Bool) (q : Qu), iv = .int .i64 (k : Int) ∧ ev = .bool ended ∧ k ≤ sn + l.length + 3 ∧
          wv.ownsRow 0 4 1 (.slice oa' l.length oc') l.length (boV got) ∧ QAt (Fo W oa') wv g q ∧ AInv l q got ended ∧ todo got ended ≤ l.length + 1 - (k - sn) ∧ Below W.heap.size W wv) (fun _ iv _ => sn + l.length + 3 - (intOf iv).toNat)
        case atStart => exact ⟨0, List.replicate l.length false, false, q0, rfl, rfl, by omega, hOj, hQj, hst.out, htd0, hBj⟩
        case round =>
          obtain ⟨k, got, ended, q, rfl, rfl, hk, hO, hQ, hI, htd, hB⟩ := hrel
          clear hOj hQj hBj htd0 hst
          by_cases hkn : k < sn + l.length + 3
          · have hkn' : (k : Int) ≤ (sn : Int) + (l.length : Int) + 2 := by omega
            have g2 : IntKind.i64.wrap ((k : Int) + 1) = (k : Int) + 1 := by rw [IntKind.wrap_i64]; omega
            have hgl := hI.len
            have HGL := Lib.hid hgl
            clear hgl
            by_cases hks : k < sn
            · have hks' : (k : Int) < (sn : Int) := by omega
              obtain ⟨sb, soff, rfl, hcs⟩ := HS.out.cells (by omega)
              have hzl : zs.length = sn := by have := HS.out.len; simpa [iv] using this
              have hcz0 := hcs k hks
              rw [iv_get' _ _ _ (by omega)] at hcz0
              have hzb := bounds_i64 (HW.out _ (List.getElem_mem (show k < zs.length by omega)))
              have hcz : wr.cell? ⟨sb, soff + k, none⟩ = some (.int .i64 (zs[k]'(by omega))) := by rw [hB.cell (World.block_lt_of_cell? W _ hcz0)]; exact hcz0
              clear hcz0
              generalize zs[k]'(by omega) = most at hcz hzb
              obtain ⟨hz1, hz2⟩ := hzb
              clear hcs hzl
              by_cases hkl : k < ln
              · have hkl' : (k : Int) < (ln : Int) := by omega
                obtain ⟨lb, loff, rfl, hcl⟩ := HL.out.cells (by omega)
                have hbl : bs.length = ln := by have := HL.out.len; simpa [boV] using this
                have hcb0 := hcl k hkl
                rw [boV_get, List.getElem?_eq_getElem (by omega)] at hcb0
                have hcb : wr.cell? ⟨lb, loff + k, none⟩ = some (.bool (bs[k]'(by omega))) := by rw [hB.cell (World.block_lt_of_cell? W _ hcb0)]; exact hcb0
                clear hcb0
                generalize bs[k]'(by omega) = gone at hcb
                clear hcl hbl
                have htn : ∀ got' ended', todo got' ended' ≤ todo got ended → todo got' ended' ≤ l.length + 1 - (k + 1 - sn) := fun _ _ h => by omega
                have hbm : ¬ 65536 ≤ most ∨ todo got ended ≤ l.length + 1 - (k + 1 - sn) := .inr (by omega)
                cases gone
                · have HNx := next_any wr hQ hI.ok most (l.length : Int) (by omega)
                  have hrd := hI.round most
                  unfold Nexted at HNx
                  rcases hrd with ⟨ho, hnx, htd0⟩ | ⟨x, n, fin, ho, h1, h2, h3, h0f, hok, hte, hIl, hIa, hlt⟩
                  · as_aux_lemma =>
                      rw [ho, hnx] at HNx
                      have HN := Lib.hid HNx
                      clear ho hnx HNx
                      go_wp2_with fail
                      refine HN.out.mono ?_
                      rintro e w2 ⟨a3, c3, rfl, _, hk3, hQ3⟩
                      have hO3 := own_kept' hO hk3 Fo.not
                      have hB3 := Kept.fresh hB hk3 (fun j h => h.1)
                      go_wp2
                      go_roundw
                      case rel => exact ⟨k + 1, got, ended, q, by push_cast; rfl, rfl, by omega, hO3, hQ3, hI, htn _ _ (Nat.le_refl _), hB3⟩
                      case measure => simp [intOf]; omega
                  · rw [ho] at HNx
                    have hxl : ((l.drop x).take n).length = n := by simp; omega
                    simp only [hxl] at HNx
                    have HN : Hid (Calls Try.prog 10 #[.pointer (some ⟨g, 0, none⟩), .int .i64 most, .int .i64 (l.length : Int)] wr fun e w' => ∃ a c, e = .returned (.tuple #[.int .i64 (x : Int), .slice a n c, .bool fin, .bool true]) ∧ Sl w' a n c (bv ((l.drop x).take n)) ∧ Kept (Fo W oa') wr w' ∧ QAt (Fo W oa') w' g (q.next most (l.length : Int))) :=
                      Lib.hid (HNx.mono fun e w' ⟨a, c, e1, e2, e3, e4⟩ => ⟨a, c, e1, own_sl e2, e3, e4⟩)
                    have x1 : (x : Int) ≤ (l.length : Int) := by omega
                    have x2 : ¬ (l.length : Int) - (x : Int) < (n : Int) := by omega
                    have x3 : IntKind.i64.wrap ((l.length : Int) - (x : Int)) = (l.length : Int) - x := by rw [IntKind.wrap_i64]; omega
                    have x4 : IntKind.i64.wrap ((x : Int) + (n : Int)) = (x : Int) + n := by rw [IntKind.wrap_i64]; omega
                    have x5 : ¬ (l.length : Int) < (x : Int) := by omega
                    have x6 : ((x : Int) + (n : Int)).toNat = x + n := by omega
                    have x7 : x + n - x = n := by omega
                    have x8 : (x : Int) + (n : Int) ≤ (dc : Int) := by omega
                    have hIl := Lib.hid hIl
                    have hIa := Lib.hid hIa
                    have hte := Lib.hid hte
                    obtain ⟨q1, hq1⟩ : ∃ q1, q1 = q.next most (l.length : Int) := ⟨_, rfl⟩
                    rw [← hq1] at hok hte hIl hIa HN
                    have htn1 : todo (turnedB got x n true) (ended || fin) ≤ l.length + 1 - (k + 1 - sn) := by omega
                    clear ho hxl HNx hq1 hQ hI hlt
                    rcases Nat.eq_zero_or_pos n with h0 | h0
                    · obtain rfl : fin = true := h0f h0
                      subst h0
                      have hxe : ((x : Int) != (l.length : Int)) = false := by rw [bne_eq_false_iff_eq]; have := h3 rfl; omega
                      by_cases hdx : dc = x
                      · have hdx0 : dc - x = 0 := by omega
                        have hdx' : (dc = x) = True := eq_true hdx
                        clear hdx
                        as_aux_lemma =>
                          go_wp2_with fail
                          refine HN.out.mono ?_
                          rintro e w2 ⟨a3, c3, rfl, hs3, hk3, hQ3⟩
                          have hO3 := own_kept' hO hk3 Fo.not
                          have hB3 := Kept.fresh hB hk3 (fun j h => h.1)
                          have hs4 := sl_cut (HD.out.below hB3) (lo := x) (k := 0) (by omega)
                          rw [← bv_drop, ← bv_take, if_pos (of_eq_true hdx'), hdx0] at hs4
                          have HSm : Hid (∀ a' c', Sl w2 a' 0 c' (bv ((l.drop x).take 0)) → Calls Try.prog 21 #[.slice a3 0 c3, .slice a' 0 c'] w2 fun e w' => e = .returned (.bool true) ∧ Below w2.heap.size w2 w') := Lib.hid (fun a' c' h => (same_any w2 hs3 h).mono (by
                            rintro e w' ⟨h1, h2⟩
                            exact ⟨by rw [h1, decide_eq_true rfl], h2⟩))
                          have HS4 := Lib.hid hs4
                          clear hs4 hs3 hO hB hk3 HN
                          go_wp2_with fail
                          refine (HSm.out _ _ HS4.out).mono ?_
                          rintro e w3 ⟨rfl, hb3⟩
                          have hO4 := own_below hO3 hb3
                          have hB4 := hB3.trans (hb3.mono hB3.size)
                          have hQ4 := hQ3.below hb3
                          clear hO3 hB3 hQ3 hb3 HSm HS4

                          go_wp2_with fail
                          go_loopw [171] (fun jv wv => ∃ j : Nat, jv = .int .i64 (j : Int) ∧ j ≤ 0 ∧ wv.ownsRow 0 4 1 (.slice oa' l.length oc') l.length (boV (turnedB got x j true)) ∧ QAt (Fo W oa') wv g q1 ∧ Below W.heap.size W wv) (fun jv _ => 0 - (intOf jv).toNat)
                          case atStart => exact ⟨0, rfl, Nat.zero_le _, by rw [turnedB_zero]; exact hO4, hQ4, hB4⟩
                          case round =>
                            obtain ⟨j, rfl, hj, hOj, hQj, hBj⟩ := hrel
                            clear hO4 hQ4 hB4
                            by_cases hjm : j < 0
                            · exfalso; omega
                            · obtain rfl : j = 0 := by omega
                              have HAc := ack_any wr hQj hok (x : Int) ((0 : Nat) : Int) true
                              unfold Turned at HAc
                              rw [hte.out] at HAc
                              have HAc := Lib.hid HAc
                              cases ended
                              all_goals
                                go_wp2_with fail
                                refine HAc.out.mono ?_
                                rintro e w4 ⟨rfl, hk5, hQ5⟩
                                have hO5 := own_kept' hOj hk5 Fo.not
                                have hB5 := Kept.fresh hBj hk5 (fun j h => h.1)
                                go_wp2
                                go_roundw
                                case rel => exact ⟨k + 1, _, _, _, by push_cast; rfl, rfl, by omega, hO5, hQ5, hIa.out, htn1, hB5⟩
                                case measure => simp [intOf]; omega

                      · as_aux_lemma =>
                          go_wp2_with fail
                          refine HN.out.mono ?_
                          rintro e w2 ⟨a3, c3, rfl, hs3, hk3, hQ3⟩
                          have hO3 := own_kept' hO hk3 Fo.not
                          have hB3 := Kept.fresh hB hk3 (fun j h => h.1)
                          have hs4 := sl_cut (HD.out.below hB3) (lo := x) (k := 0) (by omega)
                          rw [← bv_drop, ← bv_take, if_neg hdx] at hs4
                          have HSm : Hid (∀ a' c', Sl w2 a' 0 c' (bv ((l.drop x).take 0)) → Calls Try.prog 21 #[.slice a3 0 c3, .slice a' 0 c'] w2 fun e w' => e = .returned (.bool true) ∧ Below w2.heap.size w2 w') := Lib.hid (fun a' c' h => (same_any w2 hs3 h).mono (by
                            rintro e w' ⟨h1, h2⟩
                            exact ⟨by rw [h1, decide_eq_true rfl], h2⟩))
                          have HS4 := Lib.hid hs4
                          clear hs4 hs3 hO hB hk3 HN
                          go_wp2_with fail
                          refine (HSm.out _ _ HS4.out).mono ?_
                          rintro e w3 ⟨rfl, hb3⟩
                          have hO4 := own_below hO3 hb3
                          have hB4 := hB3.trans (hb3.mono hB3.size)
                          have hQ4 := hQ3.below hb3
                          clear hO3 hB3 hQ3 hb3 HSm HS4

                          go_wp2_with fail
                          go_loopw [171] (fun jv wv => ∃ j : Nat, jv = .int .i64 (j : Int) ∧ j ≤ 0 ∧ wv.ownsRow 0 4 1 (.slice oa' l.length oc') l.length (boV (turnedB got x j true)) ∧ QAt (Fo W oa') wv g q1 ∧ Below W.heap.size W wv) (fun jv _ => 0 - (intOf jv).toNat)
                          case atStart => exact ⟨0, rfl, Nat.zero_le _, by rw [turnedB_zero]; exact hO4, hQ4, hB4⟩
                          case round =>
                            obtain ⟨j, rfl, hj, hOj, hQj, hBj⟩ := hrel
                            clear hO4 hQ4 hB4
                            by_cases hjm : j < 0
                            · exfalso; omega
                            · obtain rfl : j = 0 := by omega
                              have HAc := ack_any wr hQj hok (x : Int) ((0 : Nat) : Int) true
                              unfold Turned at HAc
                              rw [hte.out] at HAc
                              have HAc := Lib.hid HAc
                              cases ended
                              all_goals
                                go_wp2_with fail
                                refine HAc.out.mono ?_
                                rintro e w4 ⟨rfl, hk5, hQ5⟩
                                have hO5 := own_kept' hOj hk5 Fo.not
                                have hB5 := Kept.fresh hBj hk5 (fun j h => h.1)
                                go_wp2
                                go_roundw
                                case rel => exact ⟨k + 1, _, _, _, by push_cast; rfl, rfl, by omega, hO5, hQ5, hIa.out, htn1, hB5⟩
                                case measure => simp [intOf]; omega
                    · have hn0 : (0 : Int) < (n : Int) := by omega
                      have hnm : ¬ most < (n : Int) := by have := h2 h0; omega
                      cases fin
                      · have hdx : ¬ dc = x := by omega
                        as_aux_lemma =>
                          go_wp2_with fail
                          refine HN.out.mono ?_
                          rintro e w2 ⟨a3, c3, rfl, hs3, hk3, hQ3⟩
                          have hO3 := own_kept' hO hk3 Fo.not
                          have hB3 := Kept.fresh hB hk3 (fun j h => h.1)
                          have hs4 := sl_cut (HD.out.below hB3) (lo := x) (k := n) (by omega)
                          rw [← bv_drop, ← bv_take, if_neg hdx] at hs4
                          have HSm : Hid (∀ a' c', Sl w2 a' n c' (bv ((l.drop x).take n)) → Calls Try.prog 21 #[.slice a3 n c3, .slice a' n c'] w2 fun e w' => e = .returned (.bool true) ∧ Below w2.heap.size w2 w') := Lib.hid (fun a' c' h => (same_any w2 hs3 h).mono (by
                            rintro e w' ⟨h1, h2⟩
                            exact ⟨by rw [h1, decide_eq_true rfl], h2⟩))
                          have HS4 := Lib.hid hs4
                          clear hs4 hs3 hO hB hk3 HN
                          go_wp2_with fail
                          refine (HSm.out _ _ HS4.out).mono ?_
                          rintro e w3 ⟨rfl, hb3⟩
                          have hO4 := own_below hO3 hb3
                          have hB4 := hB3.trans (hb3.mono hB3.size)
                          have hQ4 := hQ3.below hb3
                          clear hO3 hB3 hQ3 hb3 HSm HS4

                          go_wp2_with fail
                          go_loopw [171] (fun jv wv => ∃ j : Nat, jv = .int .i64 (j : Int) ∧ j ≤ n ∧ wv.ownsRow 0 4 1 (.slice oa' l.length oc') l.length (boV (turnedB got x j true)) ∧ QAt (Fo W oa') wv g q1 ∧ Below W.heap.size W wv) (fun jv _ => n - (intOf jv).toNat)
                          case atStart => exact ⟨0, rfl, Nat.zero_le _, by rw [turnedB_zero]; exact hO4, hQ4, hB4⟩
                          case round =>
                            obtain ⟨j, rfl, hj, hOj, hQj, hBj⟩ := hrel
                            clear hO4 hQ4 hB4
                            by_cases hjm : j < n
                            · have hjm' : (j : Int) < (n : Int) := by omega
                              have g3 : IntKind.i64.wrap ((j : Int) + 1) = (j : Int) + 1 := by rw [IntKind.wrap_i64]; omega
                              have g4 : IntKind.i64.wrap ((x : Int) + (j : Int)) = (x : Int) + j := by rw [IntKind.wrap_i64]; omega
                              have g5 : ((x : Int) + (j : Int)).toNat = x + j := by omega
                              obtain ⟨ob, rfl, hcO0, hfO, hcap1, hcap2⟩ := own_cell hOj (i := x + j) (by omega)
                              have hxg : x + j < got.length := by rw [HGL.out]; omega
                              have hcO : wr.cell? ⟨ob, x + j, none⟩ = some (.bool (got[x + j]'hxg)) := by
                                rw [hcO0, boV_get, turnedB_get, if_neg (by omega), List.getElem?_eq_getElem hxg]; rfl
                              clear hcO0
                              generalize got[x + j]'hxg = old at hcO
                              have hxj : (x : Int) + (j : Int) < (l.length : Int) := by omega
                              have hcap : (l.length : Int) ≤ (oc' : Int) := by omega
                              have HT := Lib.hid (turnedB_succ got x j true hxg)
                              have hob := hoaj _ rfl
                              go_wp2
                              go_roundw
                              case rel =>
                                have ks := Kept.set wr ob (x + j) (.bool true)
                                refine ⟨j + 1, by push_cast; rfl, by omega, ?_, hQj.kept ks (fun kk hk _ e => hk.2 _ rfl e), hBj.trans (ks.below hBj.size (fun kk e => by rw [e]; exact hob))⟩
                                rw [HT.out, boV_set]
                                exact own_set hOj (x + j) (.bool true)
                              case measure => simp [intOf]; omega
                            · obtain rfl : j = n := by omega
                              have HAc := ack_any wr hQj hok (x : Int) ((j : Nat) : Int) false
                              unfold Turned at HAc
                              rw [hte.out] at HAc
                              have HAc := Lib.hid HAc
                              cases ended
                              all_goals
                                go_wp2_with fail
                                refine HAc.out.mono ?_
                                rintro e w4 ⟨rfl, hk5, hQ5⟩
                                have hO5 := own_kept' hOj hk5 Fo.not
                                have hB5 := Kept.fresh hBj hk5 (fun j h => h.1)
                                go_wp2
                                go_roundw
                                case rel => exact ⟨k + 1, _, _, _, by push_cast; rfl, rfl, by omega, hO5, hQ5, hIa.out, htn1, hB5⟩
                                case measure => simp [intOf]; omega
                      · have hxe : ((x : Int) + (n : Int) != (l.length : Int)) = false := by rw [bne_eq_false_iff_eq]; have := h3 rfl; omega
                        have x9 : l.length - x = n := by have := h3 rfl; omega
                        have hdx : ¬ dc = x := by omega
                        as_aux_lemma =>
                          go_wp2_with fail
                          refine HN.out.mono ?_
                          rintro e w2 ⟨a3, c3, rfl, hs3, hk3, hQ3⟩
                          have hO3 := own_kept' hO hk3 Fo.not
                          have hB3 := Kept.fresh hB hk3 (fun j h => h.1)
                          have hs4 := sl_cut (HD.out.below hB3) (lo := x) (k := n) (by omega)
                          rw [← bv_drop, ← bv_take, if_neg hdx] at hs4
                          have HSm : Hid (∀ a' c', Sl w2 a' n c' (bv ((l.drop x).take n)) → Calls Try.prog 21 #[.slice a3 n c3, .slice a' n c'] w2 fun e w' => e = .returned (.bool true) ∧ Below w2.heap.size w2 w') := Lib.hid (fun a' c' h => (same_any w2 hs3 h).mono (by
                            rintro e w' ⟨h1, h2⟩
                            exact ⟨by rw [h1, decide_eq_true rfl], h2⟩))
                          have HS4 := Lib.hid hs4
                          clear hs4 hs3 hO hB hk3 HN
                          go_wp2_with fail
                          refine (HSm.out _ _ HS4.out).mono ?_
                          rintro e w3 ⟨rfl, hb3⟩
                          have hO4 := own_below hO3 hb3
                          have hB4 := hB3.trans (hb3.mono hB3.size)
                          have hQ4 := hQ3.below hb3
                          clear hO3 hB3 hQ3 hb3 HSm HS4

                          go_wp2_with fail
                          go_loopw [171] (fun jv wv => ∃ j : Nat, jv = .int .i64 (j : Int) ∧ j ≤ n ∧ wv.ownsRow 0 4 1 (.slice oa' l.length oc') l.length (boV (turnedB got x j true)) ∧ QAt (Fo W oa') wv g q1 ∧ Below W.heap.size W wv) (fun jv _ => n - (intOf jv).toNat)
                          case atStart => exact ⟨0, rfl, Nat.zero_le _, by rw [turnedB_zero]; exact hO4, hQ4, hB4⟩
                          case round =>
                            obtain ⟨j, rfl, hj, hOj, hQj, hBj⟩ := hrel
                            clear hO4 hQ4 hB4
                            by_cases hjm : j < n
                            · have hjm' : (j : Int) < (n : Int) := by omega
                              have g3 : IntKind.i64.wrap ((j : Int) + 1) = (j : Int) + 1 := by rw [IntKind.wrap_i64]; omega
                              have g4 : IntKind.i64.wrap ((x : Int) + (j : Int)) = (x : Int) + j := by rw [IntKind.wrap_i64]; omega
                              have g5 : ((x : Int) + (j : Int)).toNat = x + j := by omega
                              obtain ⟨ob, rfl, hcO0, hfO, hcap1, hcap2⟩ := own_cell hOj (i := x + j) (by omega)
                              have hxg : x + j < got.length := by rw [HGL.out]; omega
                              have hcO : wr.cell? ⟨ob, x + j, none⟩ = some (.bool (got[x + j]'hxg)) := by
                                rw [hcO0, boV_get, turnedB_get, if_neg (by omega), List.getElem?_eq_getElem hxg]; rfl
                              clear hcO0
                              generalize got[x + j]'hxg = old at hcO
                              have hxj : (x : Int) + (j : Int) < (l.length : Int) := by omega
                              have hcap : (l.length : Int) ≤ (oc' : Int) := by omega
                              have HT := Lib.hid (turnedB_succ got x j true hxg)
                              have hob := hoaj _ rfl
                              go_wp2
                              go_roundw
                              case rel =>
                                have ks := Kept.set wr ob (x + j) (.bool true)
                                refine ⟨j + 1, by push_cast; rfl, by omega, ?_, hQj.kept ks (fun kk hk _ e => hk.2 _ rfl e), hBj.trans (ks.below hBj.size (fun kk e => by rw [e]; exact hob))⟩
                                rw [HT.out, boV_set]
                                exact own_set hOj (x + j) (.bool true)
                              case measure => simp [intOf]; omega
                            · obtain rfl : j = n := by omega
                              have HAc := ack_any wr hQj hok (x : Int) ((j : Nat) : Int) true
                              unfold Turned at HAc
                              rw [hte.out] at HAc
                              have HAc := Lib.hid HAc
                              cases ended
                              all_goals
                                go_wp2_with fail
                                refine HAc.out.mono ?_
                                rintro e w4 ⟨rfl, hk5, hQ5⟩
                                have hO5 := own_kept' hOj hk5 Fo.not
                                have hB5 := Kept.fresh hBj hk5 (fun j h => h.1)
                                go_wp2
                                go_roundw
                                case rel => exact ⟨k + 1, _, _, _, by push_cast; rfl, rfl, by omega, hO5, hQ5, hIa.out, htn1, hB5⟩
                                case measure => simp [intOf]; omega
                · have HNx := next_any wr hQ hI.ok most (l.length : Int) (by omega)
                  have hrd := hI.round most
                  unfold Nexted at HNx
                  rcases hrd with ⟨ho, hnx, htd0⟩ | ⟨x, n, fin, ho, h1, h2, h3, h0f, hok, hte, hIl, hIa, hlt⟩
                  · as_aux_lemma =>
                      rw [ho, hnx] at HNx
                      have HN := Lib.hid HNx
                      clear ho hnx HNx
                      go_wp2_with fail
                      refine HN.out.mono ?_
                      rintro e w2 ⟨a3, c3, rfl, _, hk3, hQ3⟩
                      have hO3 := own_kept' hO hk3 Fo.not
                      have hB3 := Kept.fresh hB hk3 (fun j h => h.1)
                      go_wp2
                      go_roundw
                      case rel => exact ⟨k + 1, got, ended, q, by push_cast; rfl, rfl, by omega, hO3, hQ3, hI, htn _ _ (Nat.le_refl _), hB3⟩
                      case measure => simp [intOf]; omega
                  · rw [ho] at HNx
                    have hxl : ((l.drop x).take n).length = n := by simp; omega
                    simp only [hxl] at HNx
                    have HN : Hid (Calls Try.prog 10 #[.pointer (some ⟨g, 0, none⟩), .int .i64 most, .int .i64 (l.length : Int)] wr fun e w' => ∃ a c, e = .returned (.tuple #[.int .i64 (x : Int), .slice a n c, .bool fin, .bool true]) ∧ Sl w' a n c (bv ((l.drop x).take n)) ∧ Kept (Fo W oa') wr w' ∧ QAt (Fo W oa') w' g (q.next most (l.length : Int))) :=
                      Lib.hid (HNx.mono fun e w' ⟨a, c, e1, e2, e3, e4⟩ => ⟨a, c, e1, own_sl e2, e3, e4⟩)
                    have x1 : (x : Int) ≤ (l.length : Int) := by omega
                    have x2 : ¬ (l.length : Int) - (x : Int) < (n : Int) := by omega
                    have x3 : IntKind.i64.wrap ((l.length : Int) - (x : Int)) = (l.length : Int) - x := by rw [IntKind.wrap_i64]; omega
                    have x4 : IntKind.i64.wrap ((x : Int) + (n : Int)) = (x : Int) + n := by rw [IntKind.wrap_i64]; omega
                    have x5 : ¬ (l.length : Int) < (x : Int) := by omega
                    have x6 : ((x : Int) + (n : Int)).toNat = x + n := by omega
                    have x7 : x + n - x = n := by omega
                    have x8 : (x : Int) + (n : Int) ≤ (dc : Int) := by omega
                    have hIl := Lib.hid hIl
                    have hIa := Lib.hid hIa
                    have hte := Lib.hid hte
                    obtain ⟨q1, hq1⟩ : ∃ q1, q1 = q.next most (l.length : Int) := ⟨_, rfl⟩
                    rw [← hq1] at hok hte hIl hIa HN
                    have htn1 : todo (turnedB got x n true) (ended || fin) ≤ l.length + 1 - (k + 1 - sn) := by omega
                    clear ho hxl HNx hq1 hQ hI hlt
                    rcases Nat.eq_zero_or_pos n with h0 | h0
                    · obtain rfl : fin = true := h0f h0
                      subst h0
                      have hxe : ((x : Int) != (l.length : Int)) = false := by rw [bne_eq_false_iff_eq]; have := h3 rfl; omega
                      by_cases hdx : dc = x
                      · have hdx0 : dc - x = 0 := by omega
                        have hdx' : (dc = x) = True := eq_true hdx
                        clear hdx
                        as_aux_lemma =>
                          go_wp2_with fail
                          refine HN.out.mono ?_
                          rintro e w2 ⟨a3, c3, rfl, hs3, hk3, hQ3⟩
                          have hO3 := own_kept' hO hk3 Fo.not
                          have hB3 := Kept.fresh hB hk3 (fun j h => h.1)
                          have hs4 := sl_cut (HD.out.below hB3) (lo := x) (k := 0) (by omega)
                          rw [← bv_drop, ← bv_take, if_pos (of_eq_true hdx'), hdx0] at hs4
                          have HSm : Hid (∀ a' c', Sl w2 a' 0 c' (bv ((l.drop x).take 0)) → Calls Try.prog 21 #[.slice a3 0 c3, .slice a' 0 c'] w2 fun e w' => e = .returned (.bool true) ∧ Below w2.heap.size w2 w') := Lib.hid (fun a' c' h => (same_any w2 hs3 h).mono (by
                            rintro e w' ⟨h1, h2⟩
                            exact ⟨by rw [h1, decide_eq_true rfl], h2⟩))
                          have HS4 := Lib.hid hs4
                          clear hs4 hs3 hO hB hk3 HN
                          go_wp2_with fail
                          refine (HSm.out _ _ HS4.out).mono ?_
                          rintro e w3 ⟨rfl, hb3⟩
                          have hO4 := own_below hO3 hb3
                          have hB4 := hB3.trans (hb3.mono hB3.size)
                          have hQ4 := hQ3.below hb3
                          clear hO3 hB3 hQ3 hb3 HSm HS4

                          have HLs := lose_any w3 hQ4 hok (x : Int) ((0 : Nat) : Int) true
                          unfold Turned at HLs
                          rw [hte.out] at HLs
                          have HLs := Lib.hid HLs
                          go_wp2_with fail
                          refine HLs.out.mono ?_
                          rintro e w4 ⟨rfl, hk5, hQ5⟩
                          have hO5 := own_kept' hO4 hk5 Fo.not
                          have hB5 := Kept.fresh hB4 hk5 (fun j h => h.1)
                          go_wp2
                          go_roundw
                          case rel => exact ⟨k + 1, got, ended, _, by push_cast; rfl, rfl, by omega, hO5, hQ5, hIl.out, htn _ _ (Nat.le_refl _), hB5⟩
                          case measure => simp [intOf]; omega

                      · as_aux_lemma =>
                          go_wp2_with fail
                          refine HN.out.mono ?_
                          rintro e w2 ⟨a3, c3, rfl, hs3, hk3, hQ3⟩
                          have hO3 := own_kept' hO hk3 Fo.not
                          have hB3 := Kept.fresh hB hk3 (fun j h => h.1)
                          have hs4 := sl_cut (HD.out.below hB3) (lo := x) (k := 0) (by omega)
                          rw [← bv_drop, ← bv_take, if_neg hdx] at hs4
                          have HSm : Hid (∀ a' c', Sl w2 a' 0 c' (bv ((l.drop x).take 0)) → Calls Try.prog 21 #[.slice a3 0 c3, .slice a' 0 c'] w2 fun e w' => e = .returned (.bool true) ∧ Below w2.heap.size w2 w') := Lib.hid (fun a' c' h => (same_any w2 hs3 h).mono (by
                            rintro e w' ⟨h1, h2⟩
                            exact ⟨by rw [h1, decide_eq_true rfl], h2⟩))
                          have HS4 := Lib.hid hs4
                          clear hs4 hs3 hO hB hk3 HN
                          go_wp2_with fail
                          refine (HSm.out _ _ HS4.out).mono ?_
                          rintro e w3 ⟨rfl, hb3⟩
                          have hO4 := own_below hO3 hb3
                          have hB4 := hB3.trans (hb3.mono hB3.size)
                          have hQ4 := hQ3.below hb3
                          clear hO3 hB3 hQ3 hb3 HSm HS4

                          have HLs := lose_any w3 hQ4 hok (x : Int) ((0 : Nat) : Int) true
                          unfold Turned at HLs
                          rw [hte.out] at HLs
                          have HLs := Lib.hid HLs
                          go_wp2_with fail
                          refine HLs.out.mono ?_
                          rintro e w4 ⟨rfl, hk5, hQ5⟩
                          have hO5 := own_kept' hO4 hk5 Fo.not
                          have hB5 := Kept.fresh hB4 hk5 (fun j h => h.1)
                          go_wp2
                          go_roundw
                          case rel => exact ⟨k + 1, got, ended, _, by push_cast; rfl, rfl, by omega, hO5, hQ5, hIl.out, htn _ _ (Nat.le_refl _), hB5⟩
                          case measure => simp [intOf]; omega
                    · have hn0 : (0 : Int) < (n : Int) := by omega
                      have hnm : ¬ most < (n : Int) := by have := h2 h0; omega
                      cases fin
                      · have hdx : ¬ dc = x := by omega
                        as_aux_lemma =>
                          go_wp2_with fail
                          refine HN.out.mono ?_
                          rintro e w2 ⟨a3, c3, rfl, hs3, hk3, hQ3⟩
                          have hO3 := own_kept' hO hk3 Fo.not
                          have hB3 := Kept.fresh hB hk3 (fun j h => h.1)
                          have hs4 := sl_cut (HD.out.below hB3) (lo := x) (k := n) (by omega)
                          rw [← bv_drop, ← bv_take, if_neg hdx] at hs4
                          have HSm : Hid (∀ a' c', Sl w2 a' n c' (bv ((l.drop x).take n)) → Calls Try.prog 21 #[.slice a3 n c3, .slice a' n c'] w2 fun e w' => e = .returned (.bool true) ∧ Below w2.heap.size w2 w') := Lib.hid (fun a' c' h => (same_any w2 hs3 h).mono (by
                            rintro e w' ⟨h1, h2⟩
                            exact ⟨by rw [h1, decide_eq_true rfl], h2⟩))
                          have HS4 := Lib.hid hs4
                          clear hs4 hs3 hO hB hk3 HN
                          go_wp2_with fail
                          refine (HSm.out _ _ HS4.out).mono ?_
                          rintro e w3 ⟨rfl, hb3⟩
                          have hO4 := own_below hO3 hb3
                          have hB4 := hB3.trans (hb3.mono hB3.size)
                          have hQ4 := hQ3.below hb3
                          clear hO3 hB3 hQ3 hb3 HSm HS4

                          have HLs := lose_any w3 hQ4 hok (x : Int) ((n : Nat) : Int) false
                          unfold Turned at HLs
                          rw [hte.out] at HLs
                          have HLs := Lib.hid HLs
                          go_wp2_with fail
                          refine HLs.out.mono ?_
                          rintro e w4 ⟨rfl, hk5, hQ5⟩
                          have hO5 := own_kept' hO4 hk5 Fo.not
                          have hB5 := Kept.fresh hB4 hk5 (fun j h => h.1)
                          go_wp2
                          go_roundw
                          case rel => exact ⟨k + 1, got, ended, _, by push_cast; rfl, rfl, by omega, hO5, hQ5, hIl.out, htn _ _ (Nat.le_refl _), hB5⟩
                          case measure => simp [intOf]; omega
                      · have hxe : ((x : Int) + (n : Int) != (l.length : Int)) = false := by rw [bne_eq_false_iff_eq]; have := h3 rfl; omega
                        have x9 : l.length - x = n := by have := h3 rfl; omega
                        have hdx : ¬ dc = x := by omega
                        as_aux_lemma =>
                          go_wp2_with fail
                          refine HN.out.mono ?_
                          rintro e w2 ⟨a3, c3, rfl, hs3, hk3, hQ3⟩
                          have hO3 := own_kept' hO hk3 Fo.not
                          have hB3 := Kept.fresh hB hk3 (fun j h => h.1)
                          have hs4 := sl_cut (HD.out.below hB3) (lo := x) (k := n) (by omega)
                          rw [← bv_drop, ← bv_take, if_neg hdx] at hs4
                          have HSm : Hid (∀ a' c', Sl w2 a' n c' (bv ((l.drop x).take n)) → Calls Try.prog 21 #[.slice a3 n c3, .slice a' n c'] w2 fun e w' => e = .returned (.bool true) ∧ Below w2.heap.size w2 w') := Lib.hid (fun a' c' h => (same_any w2 hs3 h).mono (by
                            rintro e w' ⟨h1, h2⟩
                            exact ⟨by rw [h1, decide_eq_true rfl], h2⟩))
                          have HS4 := Lib.hid hs4
                          clear hs4 hs3 hO hB hk3 HN
                          go_wp2_with fail
                          refine (HSm.out _ _ HS4.out).mono ?_
                          rintro e w3 ⟨rfl, hb3⟩
                          have hO4 := own_below hO3 hb3
                          have hB4 := hB3.trans (hb3.mono hB3.size)
                          have hQ4 := hQ3.below hb3
                          clear hO3 hB3 hQ3 hb3 HSm HS4

                          have HLs := lose_any w3 hQ4 hok (x : Int) ((n : Nat) : Int) true
                          unfold Turned at HLs
                          rw [hte.out] at HLs
                          have HLs := Lib.hid HLs
                          go_wp2_with fail
                          refine HLs.out.mono ?_
                          rintro e w4 ⟨rfl, hk5, hQ5⟩
                          have hO5 := own_kept' hO4 hk5 Fo.not
                          have hB5 := Kept.fresh hB4 hk5 (fun j h => h.1)
                          go_wp2
                          go_roundw
                          case rel => exact ⟨k + 1, got, ended, _, by push_cast; rfl, rfl, by omega, hO5, hQ5, hIl.out, htn _ _ (Nat.le_refl _), hB5⟩
                          case measure => simp [intOf]; omega
              · have hkl' : ¬ (k : Int) < (ln : Int) := by omega
                have htn : ∀ got' ended', todo got' ended' ≤ todo got ended → todo got' ended' ≤ l.length + 1 - (k + 1 - sn) := fun _ _ h => by omega
                have hbm : ¬ 65536 ≤ most ∨ todo got ended ≤ l.length + 1 - (k + 1 - sn) := .inr (by omega)
                have HNx := next_any wr hQ hI.ok most (l.length : Int) (by omega)
                have hrd := hI.round most
                unfold Nexted at HNx
                rcases hrd with ⟨ho, hnx, htd0⟩ | ⟨x, n, fin, ho, h1, h2, h3, h0f, hok, hte, hIl, hIa, hlt⟩
                · as_aux_lemma =>
                    rw [ho, hnx] at HNx
                    have HN := Lib.hid HNx
                    clear ho hnx HNx
                    go_wp2_with fail
                    refine HN.out.mono ?_
                    rintro e w2 ⟨a3, c3, rfl, _, hk3, hQ3⟩
                    have hO3 := own_kept' hO hk3 Fo.not
                    have hB3 := Kept.fresh hB hk3 (fun j h => h.1)
                    go_wp2
                    go_roundw
                    case rel => exact ⟨k + 1, got, ended, q, by push_cast; rfl, rfl, by omega, hO3, hQ3, hI, htn _ _ (Nat.le_refl _), hB3⟩
                    case measure => simp [intOf]; omega
                · rw [ho] at HNx
                  have hxl : ((l.drop x).take n).length = n := by simp; omega
                  simp only [hxl] at HNx
                  have HN : Hid (Calls Try.prog 10 #[.pointer (some ⟨g, 0, none⟩), .int .i64 most, .int .i64 (l.length : Int)] wr fun e w' => ∃ a c, e = .returned (.tuple #[.int .i64 (x : Int), .slice a n c, .bool fin, .bool true]) ∧ Sl w' a n c (bv ((l.drop x).take n)) ∧ Kept (Fo W oa') wr w' ∧ QAt (Fo W oa') w' g (q.next most (l.length : Int))) :=
                    Lib.hid (HNx.mono fun e w' ⟨a, c, e1, e2, e3, e4⟩ => ⟨a, c, e1, own_sl e2, e3, e4⟩)
                  have x1 : (x : Int) ≤ (l.length : Int) := by omega
                  have x2 : ¬ (l.length : Int) - (x : Int) < (n : Int) := by omega
                  have x3 : IntKind.i64.wrap ((l.length : Int) - (x : Int)) = (l.length : Int) - x := by rw [IntKind.wrap_i64]; omega
                  have x4 : IntKind.i64.wrap ((x : Int) + (n : Int)) = (x : Int) + n := by rw [IntKind.wrap_i64]; omega
                  have x5 : ¬ (l.length : Int) < (x : Int) := by omega
                  have x6 : ((x : Int) + (n : Int)).toNat = x + n := by omega
                  have x7 : x + n - x = n := by omega
                  have x8 : (x : Int) + (n : Int) ≤ (dc : Int) := by omega
                  have hIl := Lib.hid hIl
                  have hIa := Lib.hid hIa
                  have hte := Lib.hid hte
                  obtain ⟨q1, hq1⟩ : ∃ q1, q1 = q.next most (l.length : Int) := ⟨_, rfl⟩
                  rw [← hq1] at hok hte hIl hIa HN
                  have htn1 : todo (turnedB got x n true) (ended || fin) ≤ l.length + 1 - (k + 1 - sn) := by omega
                  clear ho hxl HNx hq1 hQ hI hlt
                  rcases Nat.eq_zero_or_pos n with h0 | h0
                  · obtain rfl : fin = true := h0f h0
                    subst h0
                    have hxe : ((x : Int) != (l.length : Int)) = false := by rw [bne_eq_false_iff_eq]; have := h3 rfl; omega
                    by_cases hdx : dc = x
                    · have hdx0 : dc - x = 0 := by omega
                      have hdx' : (dc = x) = True := eq_true hdx
                      clear hdx
                      as_aux_lemma =>
                        go_wp2_with fail
                        refine HN.out.mono ?_
                        rintro e w2 ⟨a3, c3, rfl, hs3, hk3, hQ3⟩
                        have hO3 := own_kept' hO hk3 Fo.not
                        have hB3 := Kept.fresh hB hk3 (fun j h => h.1)
                        have hs4 := sl_cut (HD.out.below hB3) (lo := x) (k := 0) (by omega)
                        rw [← bv_drop, ← bv_take, if_pos (of_eq_true hdx'), hdx0] at hs4
                        have HSm : Hid (∀ a' c', Sl w2 a' 0 c' (bv ((l.drop x).take 0)) → Calls Try.prog 21 #[.slice a3 0 c3, .slice a' 0 c'] w2 fun e w' => e = .returned (.bool true) ∧ Below w2.heap.size w2 w') := Lib.hid (fun a' c' h => (same_any w2 hs3 h).mono (by
                          rintro e w' ⟨h1, h2⟩
                          exact ⟨by rw [h1, decide_eq_true rfl], h2⟩))
                        have HS4 := Lib.hid hs4
                        clear hs4 hs3 hO hB hk3 HN
                        go_wp2_with fail
                        refine (HSm.out _ _ HS4.out).mono ?_
                        rintro e w3 ⟨rfl, hb3⟩
                        have hO4 := own_below hO3 hb3
                        have hB4 := hB3.trans (hb3.mono hB3.size)
                        have hQ4 := hQ3.below hb3
                        clear hO3 hB3 hQ3 hb3 HSm HS4

                        go_wp2_with fail
                        go_loopw [171] (fun jv wv => ∃ j : Nat, jv = .int .i64 (j : Int) ∧ j ≤ 0 ∧ wv.ownsRow 0 4 1 (.slice oa' l.length oc') l.length (boV (turnedB got x j true)) ∧ QAt (Fo W oa') wv g q1 ∧ Below W.heap.size W wv) (fun jv _ => 0 - (intOf jv).toNat)
                        case atStart => exact ⟨0, rfl, Nat.zero_le _, by rw [turnedB_zero]; exact hO4, hQ4, hB4⟩
                        case round =>
                          obtain ⟨j, rfl, hj, hOj, hQj, hBj⟩ := hrel
                          clear hO4 hQ4 hB4
                          by_cases hjm : j < 0
                          · exfalso; omega
                          · obtain rfl : j = 0 := by omega
                            have HAc := ack_any wr hQj hok (x : Int) ((0 : Nat) : Int) true
                            unfold Turned at HAc
                            rw [hte.out] at HAc
                            have HAc := Lib.hid HAc
                            cases ended
                            all_goals
                              go_wp2_with fail
                              refine HAc.out.mono ?_
                              rintro e w4 ⟨rfl, hk5, hQ5⟩
                              have hO5 := own_kept' hOj hk5 Fo.not
                              have hB5 := Kept.fresh hBj hk5 (fun j h => h.1)
                              go_wp2
                              go_roundw
                              case rel => exact ⟨k + 1, _, _, _, by push_cast; rfl, rfl, by omega, hO5, hQ5, hIa.out, htn1, hB5⟩
                              case measure => simp [intOf]; omega

                    · as_aux_lemma =>
                        go_wp2_with fail
                        refine HN.out.mono ?_
                        rintro e w2 ⟨a3, c3, rfl, hs3, hk3, hQ3⟩
                        have hO3 := own_kept' hO hk3 Fo.not
                        have hB3 := Kept.fresh hB hk3 (fun j h => h.1)
                        have hs4 := sl_cut (HD.out.below hB3) (lo := x) (k := 0) (by omega)
                        rw [← bv_drop, ← bv_take, if_neg hdx] at hs4
                        have HSm : Hid (∀ a' c', Sl w2 a' 0 c' (bv ((l.drop x).take 0)) → Calls Try.prog 21 #[.slice a3 0 c3, .slice a' 0 c'] w2 fun e w' => e = .returned (.bool true) ∧ Below w2.heap.size w2 w') := Lib.hid (fun a' c' h => (same_any w2 hs3 h).mono (by
                          rintro e w' ⟨h1, h2⟩
                          exact ⟨by rw [h1, decide_eq_true rfl], h2⟩))
                        have HS4 := Lib.hid hs4
                        clear hs4 hs3 hO hB hk3 HN
                        go_wp2_with fail
                        refine (HSm.out _ _ HS4.out).mono ?_
                        rintro e w3 ⟨rfl, hb3⟩
                        have hO4 := own_below hO3 hb3
                        have hB4 := hB3.trans (hb3.mono hB3.size)
                        have hQ4 := hQ3.below hb3
                        clear hO3 hB3 hQ3 hb3 HSm HS4

                        go_wp2_with fail
                        go_loopw [171] (fun jv wv => ∃ j : Nat, jv = .int .i64 (j : Int) ∧ j ≤ 0 ∧ wv.ownsRow 0 4 1 (.slice oa' l.length oc') l.length (boV (turnedB got x j true)) ∧ QAt (Fo W oa') wv g q1 ∧ Below W.heap.size W wv) (fun jv _ => 0 - (intOf jv).toNat)
                        case atStart => exact ⟨0, rfl, Nat.zero_le _, by rw [turnedB_zero]; exact hO4, hQ4, hB4⟩
                        case round =>
                          obtain ⟨j, rfl, hj, hOj, hQj, hBj⟩ := hrel
                          clear hO4 hQ4 hB4
                          by_cases hjm : j < 0
                          · exfalso; omega
                          · obtain rfl : j = 0 := by omega
                            have HAc := ack_any wr hQj hok (x : Int) ((0 : Nat) : Int) true
                            unfold Turned at HAc
                            rw [hte.out] at HAc
                            have HAc := Lib.hid HAc
                            cases ended
                            all_goals
                              go_wp2_with fail
                              refine HAc.out.mono ?_
                              rintro e w4 ⟨rfl, hk5, hQ5⟩
                              have hO5 := own_kept' hOj hk5 Fo.not
                              have hB5 := Kept.fresh hBj hk5 (fun j h => h.1)
                              go_wp2
                              go_roundw
                              case rel => exact ⟨k + 1, _, _, _, by push_cast; rfl, rfl, by omega, hO5, hQ5, hIa.out, htn1, hB5⟩
                              case measure => simp [intOf]; omega
                  · have hn0 : (0 : Int) < (n : Int) := by omega
                    have hnm : ¬ most < (n : Int) := by have := h2 h0; omega
                    cases fin
                    · have hdx : ¬ dc = x := by omega
                      as_aux_lemma =>
                        go_wp2_with fail
                        refine HN.out.mono ?_
                        rintro e w2 ⟨a3, c3, rfl, hs3, hk3, hQ3⟩
                        have hO3 := own_kept' hO hk3 Fo.not
                        have hB3 := Kept.fresh hB hk3 (fun j h => h.1)
                        have hs4 := sl_cut (HD.out.below hB3) (lo := x) (k := n) (by omega)
                        rw [← bv_drop, ← bv_take, if_neg hdx] at hs4
                        have HSm : Hid (∀ a' c', Sl w2 a' n c' (bv ((l.drop x).take n)) → Calls Try.prog 21 #[.slice a3 n c3, .slice a' n c'] w2 fun e w' => e = .returned (.bool true) ∧ Below w2.heap.size w2 w') := Lib.hid (fun a' c' h => (same_any w2 hs3 h).mono (by
                          rintro e w' ⟨h1, h2⟩
                          exact ⟨by rw [h1, decide_eq_true rfl], h2⟩))
                        have HS4 := Lib.hid hs4
                        clear hs4 hs3 hO hB hk3 HN
                        go_wp2_with fail
                        refine (HSm.out _ _ HS4.out).mono ?_
                        rintro e w3 ⟨rfl, hb3⟩
                        have hO4 := own_below hO3 hb3
                        have hB4 := hB3.trans (hb3.mono hB3.size)
                        have hQ4 := hQ3.below hb3
                        clear hO3 hB3 hQ3 hb3 HSm HS4

                        go_wp2_with fail
                        go_loopw [171] (fun jv wv => ∃ j : Nat, jv = .int .i64 (j : Int) ∧ j ≤ n ∧ wv.ownsRow 0 4 1 (.slice oa' l.length oc') l.length (boV (turnedB got x j true)) ∧ QAt (Fo W oa') wv g q1 ∧ Below W.heap.size W wv) (fun jv _ => n - (intOf jv).toNat)
                        case atStart => exact ⟨0, rfl, Nat.zero_le _, by rw [turnedB_zero]; exact hO4, hQ4, hB4⟩
                        case round =>
                          obtain ⟨j, rfl, hj, hOj, hQj, hBj⟩ := hrel
                          clear hO4 hQ4 hB4
                          by_cases hjm : j < n
                          · have hjm' : (j : Int) < (n : Int) := by omega
                            have g3 : IntKind.i64.wrap ((j : Int) + 1) = (j : Int) + 1 := by rw [IntKind.wrap_i64]; omega
                            have g4 : IntKind.i64.wrap ((x : Int) + (j : Int)) = (x : Int) + j := by rw [IntKind.wrap_i64]; omega
                            have g5 : ((x : Int) + (j : Int)).toNat = x + j := by omega
                            obtain ⟨ob, rfl, hcO0, hfO, hcap1, hcap2⟩ := own_cell hOj (i := x + j) (by omega)
                            have hxg : x + j < got.length := by rw [HGL.out]; omega
                            have hcO : wr.cell? ⟨ob, x + j, none⟩ = some (.bool (got[x + j]'hxg)) := by
                              rw [hcO0, boV_get, turnedB_get, if_neg (by omega), List.getElem?_eq_getElem hxg]; rfl
                            clear hcO0
                            generalize got[x + j]'hxg = old at hcO
                            have hxj : (x : Int) + (j : Int) < (l.length : Int) := by omega
                            have hcap : (l.length : Int) ≤ (oc' : Int) := by omega
                            have HT := Lib.hid (turnedB_succ got x j true hxg)
                            have hob := hoaj _ rfl
                            go_wp2
                            go_roundw
                            case rel =>
                              have ks := Kept.set wr ob (x + j) (.bool true)
                              refine ⟨j + 1, by push_cast; rfl, by omega, ?_, hQj.kept ks (fun kk hk _ e => hk.2 _ rfl e), hBj.trans (ks.below hBj.size (fun kk e => by rw [e]; exact hob))⟩
                              rw [HT.out, boV_set]
                              exact own_set hOj (x + j) (.bool true)
                            case measure => simp [intOf]; omega
                          · obtain rfl : j = n := by omega
                            have HAc := ack_any wr hQj hok (x : Int) ((j : Nat) : Int) false
                            unfold Turned at HAc
                            rw [hte.out] at HAc
                            have HAc := Lib.hid HAc
                            cases ended
                            all_goals
                              go_wp2_with fail
                              refine HAc.out.mono ?_
                              rintro e w4 ⟨rfl, hk5, hQ5⟩
                              have hO5 := own_kept' hOj hk5 Fo.not
                              have hB5 := Kept.fresh hBj hk5 (fun j h => h.1)
                              go_wp2
                              go_roundw
                              case rel => exact ⟨k + 1, _, _, _, by push_cast; rfl, rfl, by omega, hO5, hQ5, hIa.out, htn1, hB5⟩
                              case measure => simp [intOf]; omega
                    · have hxe : ((x : Int) + (n : Int) != (l.length : Int)) = false := by rw [bne_eq_false_iff_eq]; have := h3 rfl; omega
                      have x9 : l.length - x = n := by have := h3 rfl; omega
                      have hdx : ¬ dc = x := by omega
                      as_aux_lemma =>
                        go_wp2_with fail
                        refine HN.out.mono ?_
                        rintro e w2 ⟨a3, c3, rfl, hs3, hk3, hQ3⟩
                        have hO3 := own_kept' hO hk3 Fo.not
                        have hB3 := Kept.fresh hB hk3 (fun j h => h.1)
                        have hs4 := sl_cut (HD.out.below hB3) (lo := x) (k := n) (by omega)
                        rw [← bv_drop, ← bv_take, if_neg hdx] at hs4
                        have HSm : Hid (∀ a' c', Sl w2 a' n c' (bv ((l.drop x).take n)) → Calls Try.prog 21 #[.slice a3 n c3, .slice a' n c'] w2 fun e w' => e = .returned (.bool true) ∧ Below w2.heap.size w2 w') := Lib.hid (fun a' c' h => (same_any w2 hs3 h).mono (by
                          rintro e w' ⟨h1, h2⟩
                          exact ⟨by rw [h1, decide_eq_true rfl], h2⟩))
                        have HS4 := Lib.hid hs4
                        clear hs4 hs3 hO hB hk3 HN
                        go_wp2_with fail
                        refine (HSm.out _ _ HS4.out).mono ?_
                        rintro e w3 ⟨rfl, hb3⟩
                        have hO4 := own_below hO3 hb3
                        have hB4 := hB3.trans (hb3.mono hB3.size)
                        have hQ4 := hQ3.below hb3
                        clear hO3 hB3 hQ3 hb3 HSm HS4

                        go_wp2_with fail
                        go_loopw [171] (fun jv wv => ∃ j : Nat, jv = .int .i64 (j : Int) ∧ j ≤ n ∧ wv.ownsRow 0 4 1 (.slice oa' l.length oc') l.length (boV (turnedB got x j true)) ∧ QAt (Fo W oa') wv g q1 ∧ Below W.heap.size W wv) (fun jv _ => n - (intOf jv).toNat)
                        case atStart => exact ⟨0, rfl, Nat.zero_le _, by rw [turnedB_zero]; exact hO4, hQ4, hB4⟩
                        case round =>
                          obtain ⟨j, rfl, hj, hOj, hQj, hBj⟩ := hrel
                          clear hO4 hQ4 hB4
                          by_cases hjm : j < n
                          · have hjm' : (j : Int) < (n : Int) := by omega
                            have g3 : IntKind.i64.wrap ((j : Int) + 1) = (j : Int) + 1 := by rw [IntKind.wrap_i64]; omega
                            have g4 : IntKind.i64.wrap ((x : Int) + (j : Int)) = (x : Int) + j := by rw [IntKind.wrap_i64]; omega
                            have g5 : ((x : Int) + (j : Int)).toNat = x + j := by omega
                            obtain ⟨ob, rfl, hcO0, hfO, hcap1, hcap2⟩ := own_cell hOj (i := x + j) (by omega)
                            have hxg : x + j < got.length := by rw [HGL.out]; omega
                            have hcO : wr.cell? ⟨ob, x + j, none⟩ = some (.bool (got[x + j]'hxg)) := by
                              rw [hcO0, boV_get, turnedB_get, if_neg (by omega), List.getElem?_eq_getElem hxg]; rfl
                            clear hcO0
                            generalize got[x + j]'hxg = old at hcO
                            have hxj : (x : Int) + (j : Int) < (l.length : Int) := by omega
                            have hcap : (l.length : Int) ≤ (oc' : Int) := by omega
                            have HT := Lib.hid (turnedB_succ got x j true hxg)
                            have hob := hoaj _ rfl
                            go_wp2
                            go_roundw
                            case rel =>
                              have ks := Kept.set wr ob (x + j) (.bool true)
                              refine ⟨j + 1, by push_cast; rfl, by omega, ?_, hQj.kept ks (fun kk hk _ e => hk.2 _ rfl e), hBj.trans (ks.below hBj.size (fun kk e => by rw [e]; exact hob))⟩
                              rw [HT.out, boV_set]
                              exact own_set hOj (x + j) (.bool true)
                            case measure => simp [intOf]; omega
                          · obtain rfl : j = n := by omega
                            have HAc := ack_any wr hQj hok (x : Int) ((j : Nat) : Int) true
                            unfold Turned at HAc
                            rw [hte.out] at HAc
                            have HAc := Lib.hid HAc
                            cases ended
                            all_goals
                              go_wp2_with fail
                              refine HAc.out.mono ?_
                              rintro e w4 ⟨rfl, hk5, hQ5⟩
                              have hO5 := own_kept' hOj hk5 Fo.not
                              have hB5 := Kept.fresh hBj hk5 (fun j h => h.1)
                              go_wp2
                              go_roundw
                              case rel => exact ⟨k + 1, _, _, _, by push_cast; rfl, rfl, by omega, hO5, hQ5, hIa.out, htn1, hB5⟩
                              case measure => simp [intOf]; omega
            · have hks' : ¬ (k : Int) < (sn : Int) := by omega

              have HNx := next_any wr hQ hI.ok 65536 (l.length : Int) (by omega)
              have hrd := hI.round 65536
              unfold Nexted at HNx
              rcases hrd with ⟨ho, hnx, htd0⟩ | ⟨x, n, fin, ho, h1, h2, h3, h0f, hok, hte, hIl, hIa, hlt⟩
              · as_aux_lemma =>
                  rw [ho, hnx] at HNx
                  have HN := Lib.hid HNx
                  clear ho hnx HNx
                  go_wp2_with fail
                  refine HN.out.mono ?_
                  rintro e w2 ⟨a3, c3, rfl, _, hk3, hQ3⟩
                  have hO3 := own_kept' hO hk3 Fo.not
                  have hB3 := Kept.fresh hB hk3 (fun j h => h.1)
                  go_wp2
                  go_roundw
                  case rel => exact ⟨k + 1, got, ended, q, by push_cast; rfl, rfl, by omega, hO3, hQ3, hI, by have := htd0 (by decide); omega, hB3⟩
                  case measure => simp [intOf]; omega
              · rw [ho] at HNx
                have hxl : ((l.drop x).take n).length = n := by simp; omega
                simp only [hxl] at HNx
                have HN : Hid (Calls Try.prog 10 #[.pointer (some ⟨g, 0, none⟩), .int .i64 65536, .int .i64 (l.length : Int)] wr fun e w' => ∃ a c, e = .returned (.tuple #[.int .i64 (x : Int), .slice a n c, .bool fin, .bool true]) ∧ Sl w' a n c (bv ((l.drop x).take n)) ∧ Kept (Fo W oa') wr w' ∧ QAt (Fo W oa') w' g (q.next 65536 (l.length : Int))) :=
                  Lib.hid (HNx.mono fun e w' ⟨a, c, e1, e2, e3, e4⟩ => ⟨a, c, e1, own_sl e2, e3, e4⟩)
                have x1 : (x : Int) ≤ (l.length : Int) := by omega
                have x2 : ¬ (l.length : Int) - (x : Int) < (n : Int) := by omega
                have x3 : IntKind.i64.wrap ((l.length : Int) - (x : Int)) = (l.length : Int) - x := by rw [IntKind.wrap_i64]; omega
                have x4 : IntKind.i64.wrap ((x : Int) + (n : Int)) = (x : Int) + n := by rw [IntKind.wrap_i64]; omega
                have x5 : ¬ (l.length : Int) < (x : Int) := by omega
                have x6 : ((x : Int) + (n : Int)).toNat = x + n := by omega
                have x7 : x + n - x = n := by omega
                have x8 : (x : Int) + (n : Int) ≤ (dc : Int) := by omega
                have hIl := Lib.hid hIl
                have hIa := Lib.hid hIa
                have hte := Lib.hid hte
                obtain ⟨q1, hq1⟩ : ∃ q1, q1 = q.next 65536 (l.length : Int) := ⟨_, rfl⟩
                rw [← hq1] at hok hte hIl hIa HN
                have htn1 : todo (turnedB got x n true) (ended || fin) ≤ l.length + 1 - (k + 1 - sn) := by omega
                clear ho hxl HNx hq1 hQ hI hlt
                rcases Nat.eq_zero_or_pos n with h0 | h0
                · obtain rfl : fin = true := h0f h0
                  subst h0
                  have hxe : ((x : Int) != (l.length : Int)) = false := by rw [bne_eq_false_iff_eq]; have := h3 rfl; omega
                  by_cases hdx : dc = x
                  · have hdx0 : dc - x = 0 := by omega
                    have hdx' : (dc = x) = True := eq_true hdx
                    clear hdx
                    as_aux_lemma =>
                      go_wp2_with fail
                      refine HN.out.mono ?_
                      rintro e w2 ⟨a3, c3, rfl, hs3, hk3, hQ3⟩
                      have hO3 := own_kept' hO hk3 Fo.not
                      have hB3 := Kept.fresh hB hk3 (fun j h => h.1)
                      have hs4 := sl_cut (HD.out.below hB3) (lo := x) (k := 0) (by omega)
                      rw [← bv_drop, ← bv_take, if_pos (of_eq_true hdx'), hdx0] at hs4
                      have HSm : Hid (∀ a' c', Sl w2 a' 0 c' (bv ((l.drop x).take 0)) → Calls Try.prog 21 #[.slice a3 0 c3, .slice a' 0 c'] w2 fun e w' => e = .returned (.bool true) ∧ Below w2.heap.size w2 w') := Lib.hid (fun a' c' h => (same_any w2 hs3 h).mono (by
                        rintro e w' ⟨h1, h2⟩
                        exact ⟨by rw [h1, decide_eq_true rfl], h2⟩))
                      have HS4 := Lib.hid hs4
                      clear hs4 hs3 hO hB hk3 HN
                      go_wp2_with fail
                      refine (HSm.out _ _ HS4.out).mono ?_
                      rintro e w3 ⟨rfl, hb3⟩
                      have hO4 := own_below hO3 hb3
                      have hB4 := hB3.trans (hb3.mono hB3.size)
                      have hQ4 := hQ3.below hb3
                      clear hO3 hB3 hQ3 hb3 HSm HS4

                      go_wp2_with fail
                      go_loopw [171] (fun jv wv => ∃ j : Nat, jv = .int .i64 (j : Int) ∧ j ≤ 0 ∧ wv.ownsRow 0 4 1 (.slice oa' l.length oc') l.length (boV (turnedB got x j true)) ∧ QAt (Fo W oa') wv g q1 ∧ Below W.heap.size W wv) (fun jv _ => 0 - (intOf jv).toNat)
                      case atStart => exact ⟨0, rfl, Nat.zero_le _, by rw [turnedB_zero]; exact hO4, hQ4, hB4⟩
                      case round =>
                        obtain ⟨j, rfl, hj, hOj, hQj, hBj⟩ := hrel
                        clear hO4 hQ4 hB4
                        by_cases hjm : j < 0
                        · exfalso; omega
                        · obtain rfl : j = 0 := by omega
                          have HAc := ack_any wr hQj hok (x : Int) ((0 : Nat) : Int) true
                          unfold Turned at HAc
                          rw [hte.out] at HAc
                          have HAc := Lib.hid HAc
                          cases ended
                          all_goals
                            go_wp2_with fail
                            refine HAc.out.mono ?_
                            rintro e w4 ⟨rfl, hk5, hQ5⟩
                            have hO5 := own_kept' hOj hk5 Fo.not
                            have hB5 := Kept.fresh hBj hk5 (fun j h => h.1)
                            go_wp2
                            go_roundw
                            case rel => exact ⟨k + 1, _, _, _, by push_cast; rfl, rfl, by omega, hO5, hQ5, hIa.out, htn1, hB5⟩
                            case measure => simp [intOf]; omega

                  · as_aux_lemma =>
                      go_wp2_with fail
                      refine HN.out.mono ?_
                      rintro e w2 ⟨a3, c3, rfl, hs3, hk3, hQ3⟩
                      have hO3 := own_kept' hO hk3 Fo.not
                      have hB3 := Kept.fresh hB hk3 (fun j h => h.1)
                      have hs4 := sl_cut (HD.out.below hB3) (lo := x) (k := 0) (by omega)
                      rw [← bv_drop, ← bv_take, if_neg hdx] at hs4
                      have HSm : Hid (∀ a' c', Sl w2 a' 0 c' (bv ((l.drop x).take 0)) → Calls Try.prog 21 #[.slice a3 0 c3, .slice a' 0 c'] w2 fun e w' => e = .returned (.bool true) ∧ Below w2.heap.size w2 w') := Lib.hid (fun a' c' h => (same_any w2 hs3 h).mono (by
                        rintro e w' ⟨h1, h2⟩
                        exact ⟨by rw [h1, decide_eq_true rfl], h2⟩))
                      have HS4 := Lib.hid hs4
                      clear hs4 hs3 hO hB hk3 HN
                      go_wp2_with fail
                      refine (HSm.out _ _ HS4.out).mono ?_
                      rintro e w3 ⟨rfl, hb3⟩
                      have hO4 := own_below hO3 hb3
                      have hB4 := hB3.trans (hb3.mono hB3.size)
                      have hQ4 := hQ3.below hb3
                      clear hO3 hB3 hQ3 hb3 HSm HS4

                      go_wp2_with fail
                      go_loopw [171] (fun jv wv => ∃ j : Nat, jv = .int .i64 (j : Int) ∧ j ≤ 0 ∧ wv.ownsRow 0 4 1 (.slice oa' l.length oc') l.length (boV (turnedB got x j true)) ∧ QAt (Fo W oa') wv g q1 ∧ Below W.heap.size W wv) (fun jv _ => 0 - (intOf jv).toNat)
                      case atStart => exact ⟨0, rfl, Nat.zero_le _, by rw [turnedB_zero]; exact hO4, hQ4, hB4⟩
                      case round =>
                        obtain ⟨j, rfl, hj, hOj, hQj, hBj⟩ := hrel
                        clear hO4 hQ4 hB4
                        by_cases hjm : j < 0
                        · exfalso; omega
                        · obtain rfl : j = 0 := by omega
                          have HAc := ack_any wr hQj hok (x : Int) ((0 : Nat) : Int) true
                          unfold Turned at HAc
                          rw [hte.out] at HAc
                          have HAc := Lib.hid HAc
                          cases ended
                          all_goals
                            go_wp2_with fail
                            refine HAc.out.mono ?_
                            rintro e w4 ⟨rfl, hk5, hQ5⟩
                            have hO5 := own_kept' hOj hk5 Fo.not
                            have hB5 := Kept.fresh hBj hk5 (fun j h => h.1)
                            go_wp2
                            go_roundw
                            case rel => exact ⟨k + 1, _, _, _, by push_cast; rfl, rfl, by omega, hO5, hQ5, hIa.out, htn1, hB5⟩
                            case measure => simp [intOf]; omega
                · have hn0 : (0 : Int) < (n : Int) := by omega
                  have hnm : ¬ 65536 < (n : Int) := by have := h2 h0; omega
                  cases fin
                  · have hdx : ¬ dc = x := by omega
                    as_aux_lemma =>
                      go_wp2_with fail
                      refine HN.out.mono ?_
                      rintro e w2 ⟨a3, c3, rfl, hs3, hk3, hQ3⟩
                      have hO3 := own_kept' hO hk3 Fo.not
                      have hB3 := Kept.fresh hB hk3 (fun j h => h.1)
                      have hs4 := sl_cut (HD.out.below hB3) (lo := x) (k := n) (by omega)
                      rw [← bv_drop, ← bv_take, if_neg hdx] at hs4
                      have HSm : Hid (∀ a' c', Sl w2 a' n c' (bv ((l.drop x).take n)) → Calls Try.prog 21 #[.slice a3 n c3, .slice a' n c'] w2 fun e w' => e = .returned (.bool true) ∧ Below w2.heap.size w2 w') := Lib.hid (fun a' c' h => (same_any w2 hs3 h).mono (by
                        rintro e w' ⟨h1, h2⟩
                        exact ⟨by rw [h1, decide_eq_true rfl], h2⟩))
                      have HS4 := Lib.hid hs4
                      clear hs4 hs3 hO hB hk3 HN
                      go_wp2_with fail
                      refine (HSm.out _ _ HS4.out).mono ?_
                      rintro e w3 ⟨rfl, hb3⟩
                      have hO4 := own_below hO3 hb3
                      have hB4 := hB3.trans (hb3.mono hB3.size)
                      have hQ4 := hQ3.below hb3
                      clear hO3 hB3 hQ3 hb3 HSm HS4

                      go_wp2_with fail
                      go_loopw [171] (fun jv wv => ∃ j : Nat, jv = .int .i64 (j : Int) ∧ j ≤ n ∧ wv.ownsRow 0 4 1 (.slice oa' l.length oc') l.length (boV (turnedB got x j true)) ∧ QAt (Fo W oa') wv g q1 ∧ Below W.heap.size W wv) (fun jv _ => n - (intOf jv).toNat)
                      case atStart => exact ⟨0, rfl, Nat.zero_le _, by rw [turnedB_zero]; exact hO4, hQ4, hB4⟩
                      case round =>
                        obtain ⟨j, rfl, hj, hOj, hQj, hBj⟩ := hrel
                        clear hO4 hQ4 hB4
                        by_cases hjm : j < n
                        · have hjm' : (j : Int) < (n : Int) := by omega
                          have g3 : IntKind.i64.wrap ((j : Int) + 1) = (j : Int) + 1 := by rw [IntKind.wrap_i64]; omega
                          have g4 : IntKind.i64.wrap ((x : Int) + (j : Int)) = (x : Int) + j := by rw [IntKind.wrap_i64]; omega
                          have g5 : ((x : Int) + (j : Int)).toNat = x + j := by omega
                          obtain ⟨ob, rfl, hcO0, hfO, hcap1, hcap2⟩ := own_cell hOj (i := x + j) (by omega)
                          have hxg : x + j < got.length := by rw [HGL.out]; omega
                          have hcO : wr.cell? ⟨ob, x + j, none⟩ = some (.bool (got[x + j]'hxg)) := by
                            rw [hcO0, boV_get, turnedB_get, if_neg (by omega), List.getElem?_eq_getElem hxg]; rfl
                          clear hcO0
                          generalize got[x + j]'hxg = old at hcO
                          have hxj : (x : Int) + (j : Int) < (l.length : Int) := by omega
                          have hcap : (l.length : Int) ≤ (oc' : Int) := by omega
                          have HT := Lib.hid (turnedB_succ got x j true hxg)
                          have hob := hoaj _ rfl
                          go_wp2
                          go_roundw
                          case rel =>
                            have ks := Kept.set wr ob (x + j) (.bool true)
                            refine ⟨j + 1, by push_cast; rfl, by omega, ?_, hQj.kept ks (fun kk hk _ e => hk.2 _ rfl e), hBj.trans (ks.below hBj.size (fun kk e => by rw [e]; exact hob))⟩
                            rw [HT.out, boV_set]
                            exact own_set hOj (x + j) (.bool true)
                          case measure => simp [intOf]; omega
                        · obtain rfl : j = n := by omega
                          have HAc := ack_any wr hQj hok (x : Int) ((j : Nat) : Int) false
                          unfold Turned at HAc
                          rw [hte.out] at HAc
                          have HAc := Lib.hid HAc
                          cases ended
                          all_goals
                            go_wp2_with fail
                            refine HAc.out.mono ?_
                            rintro e w4 ⟨rfl, hk5, hQ5⟩
                            have hO5 := own_kept' hOj hk5 Fo.not
                            have hB5 := Kept.fresh hBj hk5 (fun j h => h.1)
                            go_wp2
                            go_roundw
                            case rel => exact ⟨k + 1, _, _, _, by push_cast; rfl, rfl, by omega, hO5, hQ5, hIa.out, htn1, hB5⟩
                            case measure => simp [intOf]; omega
                  · have hxe : ((x : Int) + (n : Int) != (l.length : Int)) = false := by rw [bne_eq_false_iff_eq]; have := h3 rfl; omega
                    have x9 : l.length - x = n := by have := h3 rfl; omega
                    have hdx : ¬ dc = x := by omega
                    as_aux_lemma =>
                      go_wp2_with fail
                      refine HN.out.mono ?_
                      rintro e w2 ⟨a3, c3, rfl, hs3, hk3, hQ3⟩
                      have hO3 := own_kept' hO hk3 Fo.not
                      have hB3 := Kept.fresh hB hk3 (fun j h => h.1)
                      have hs4 := sl_cut (HD.out.below hB3) (lo := x) (k := n) (by omega)
                      rw [← bv_drop, ← bv_take, if_neg hdx] at hs4
                      have HSm : Hid (∀ a' c', Sl w2 a' n c' (bv ((l.drop x).take n)) → Calls Try.prog 21 #[.slice a3 n c3, .slice a' n c'] w2 fun e w' => e = .returned (.bool true) ∧ Below w2.heap.size w2 w') := Lib.hid (fun a' c' h => (same_any w2 hs3 h).mono (by
                        rintro e w' ⟨h1, h2⟩
                        exact ⟨by rw [h1, decide_eq_true rfl], h2⟩))
                      have HS4 := Lib.hid hs4
                      clear hs4 hs3 hO hB hk3 HN
                      go_wp2_with fail
                      refine (HSm.out _ _ HS4.out).mono ?_
                      rintro e w3 ⟨rfl, hb3⟩
                      have hO4 := own_below hO3 hb3
                      have hB4 := hB3.trans (hb3.mono hB3.size)
                      have hQ4 := hQ3.below hb3
                      clear hO3 hB3 hQ3 hb3 HSm HS4

                      go_wp2_with fail
                      go_loopw [171] (fun jv wv => ∃ j : Nat, jv = .int .i64 (j : Int) ∧ j ≤ n ∧ wv.ownsRow 0 4 1 (.slice oa' l.length oc') l.length (boV (turnedB got x j true)) ∧ QAt (Fo W oa') wv g q1 ∧ Below W.heap.size W wv) (fun jv _ => n - (intOf jv).toNat)
                      case atStart => exact ⟨0, rfl, Nat.zero_le _, by rw [turnedB_zero]; exact hO4, hQ4, hB4⟩
                      case round =>
                        obtain ⟨j, rfl, hj, hOj, hQj, hBj⟩ := hrel
                        clear hO4 hQ4 hB4
                        by_cases hjm : j < n
                        · have hjm' : (j : Int) < (n : Int) := by omega
                          have g3 : IntKind.i64.wrap ((j : Int) + 1) = (j : Int) + 1 := by rw [IntKind.wrap_i64]; omega
                          have g4 : IntKind.i64.wrap ((x : Int) + (j : Int)) = (x : Int) + j := by rw [IntKind.wrap_i64]; omega
                          have g5 : ((x : Int) + (j : Int)).toNat = x + j := by omega
                          obtain ⟨ob, rfl, hcO0, hfO, hcap1, hcap2⟩ := own_cell hOj (i := x + j) (by omega)
                          have hxg : x + j < got.length := by rw [HGL.out]; omega
                          have hcO : wr.cell? ⟨ob, x + j, none⟩ = some (.bool (got[x + j]'hxg)) := by
                            rw [hcO0, boV_get, turnedB_get, if_neg (by omega), List.getElem?_eq_getElem hxg]; rfl
                          clear hcO0
                          generalize got[x + j]'hxg = old at hcO
                          have hxj : (x : Int) + (j : Int) < (l.length : Int) := by omega
                          have hcap : (l.length : Int) ≤ (oc' : Int) := by omega
                          have HT := Lib.hid (turnedB_succ got x j true hxg)
                          have hob := hoaj _ rfl
                          go_wp2
                          go_roundw
                          case rel =>
                            have ks := Kept.set wr ob (x + j) (.bool true)
                            refine ⟨j + 1, by push_cast; rfl, by omega, ?_, hQj.kept ks (fun kk hk _ e => hk.2 _ rfl e), hBj.trans (ks.below hBj.size (fun kk e => by rw [e]; exact hob))⟩
                            rw [HT.out, boV_set]
                            exact own_set hOj (x + j) (.bool true)
                          case measure => simp [intOf]; omega
                        · obtain rfl : j = n := by omega
                          have HAc := ack_any wr hQj hok (x : Int) ((j : Nat) : Int) true
                          unfold Turned at HAc
                          rw [hte.out] at HAc
                          have HAc := Lib.hid HAc
                          cases ended
                          all_goals
                            go_wp2_with fail
                            refine HAc.out.mono ?_
                            rintro e w4 ⟨rfl, hk5, hQ5⟩
                            have hO5 := own_kept' hOj hk5 Fo.not
                            have hB5 := Kept.fresh hBj hk5 (fun j h => h.1)
                            go_wp2
                            go_roundw
                            case rel => exact ⟨k + 1, _, _, _, by push_cast; rfl, rfl, by omega, hO5, hQ5, hIa.out, htn1, hB5⟩
                            case measure => simp [intOf]; omega
          · obtain rfl : k = sn + l.length + 3 := by omega
            as_aux_lemma =>
              obtain ⟨d1, d2, d3, d4, d5⟩ := hI.done (by omega)
              subst d1
              subst d2
              have hqd : q.data.length = 0 := by rw [d5]; rfl
              have hkn' : ¬ ((sn + l.length + 3 : Nat) : Int) ≤ (sn : Int) + (l.length : Int) + 2 := by omega
              have hQB : Hid (∀ w', QAt (Fo W oa') w' g q → Calls Try.prog 14 #[.pointer (some ⟨g, 0, none⟩)] w' (IntOf w' (l.length : Int))) := Lib.hid (fun w' h => by have := base_any w' h; rwa [d4] at this)
              have hQD : Hid (∀ w', QAt (Fo W oa') w' g q → Calls Try.prog 15 #[.pointer (some ⟨g, 0, none⟩)] w' fun e w'' => e = .returned (.bool true) ∧ Below w'.heap.size w' w'') := Lib.hid (fun w' h => by have := done_any w' h; rwa [d3, hqd] at this)
              clear d3 d4 d5 hqd hI htd hkn
              go_wp2_with fail
              go_loopw [193] (fun jv wv => ∃ j : Nat, jv = .int .i64 (j : Int) ∧ j ≤ l.length ∧ wv.ownsRow 0 4 1 (.slice oa' l.length oc') l.length (boV (List.replicate l.length true)) ∧ QAt (Fo W oa') wv g q ∧ Below W.heap.size W wv) (fun jv _ => l.length - (intOf jv).toNat)
              case atStart => exact ⟨0, rfl, Nat.zero_le _, hO, hQ, hB⟩
              case round =>
                obtain ⟨j, rfl, hj, hOj, hQj, hBj⟩ := hrel
                clear hO hQ hB
                by_cases hjm : j < l.length
                · have hjm' : (j : Int) < (l.length : Int) := by omega
                  have g3 : IntKind.i64.wrap ((j : Int) + 1) = (j : Int) + 1 := by rw [IntKind.wrap_i64]; omega
                  obtain ⟨ob, rfl, hcO0, hfO, hcap1, hcap2⟩ := own_cell hOj (i := j) hjm
                  have hcO : wr.cell? ⟨ob, j, none⟩ = some (.bool true) := by
                    rw [hcO0, boV_get, List.getElem?_replicate, if_pos hjm]; rfl
                  clear hcO0
                  go_wp2
                  go_roundw
                  case rel => exact ⟨j + 1, by push_cast; rfl, by omega, hOj, hQj, hBj⟩
                  case measure => simp [intOf]; omega
                · obtain rfl : j = l.length := by omega
                  go_wp2_with fail
                  refine (hQD.out wr hQj).mono ?_
                  rintro e w2 ⟨rfl, hb2⟩
                  have hQ2 := hQj.below hb2
                  have hB2 := hBj.trans (hb2.mono hBj.size)
                  go_wp2_with fail
                  refine (hQB.out w2 hQ2).mono ?_
                  rintro e w3 ⟨rfl, hb3⟩
                  have hB3 := hB2.trans (hb3.mono hB2.size)
                  go_wp2_with fail
                  refine (HA.out w3).mono ?_
                  rintro e w4 ⟨rfl, hb4⟩
                  go_wp2
                  go_ret
                  exact ⟨rfl, hB3.trans (hb4.mono hB3.size)⟩
end Go.Proofs.Ytkjclgpecppokaa

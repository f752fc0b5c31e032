/- SendqLimits answers true. -/
import Derived.Test.YtkjclgpecppokaaSqLim
import Derived.Test.YtkjclgpecppokaaSqLaw1
import Derived.Test.YtkjclgpecppokaaOpenOps
import Derived.Test.YtkjclgpecppokaaCopy
namespace Go.Proofs.Ytkjclgpecppokaa
open Go.RowKit

theorem infoBool : (Try.prog.info? 4).map (fun i => (i.zero, i.size, i.bytes)) = some (some (.bool false), 1, 1) := by kernel_rfl
theorem tyBool : ETy Try.prog 33 4 (.bool false) 1 := by
  obtain ⟨i, hi, h1, h2, h3⟩ := info_parts infoBool
  exact ⟨Try.underlying33, ⟨i, hi, h1, h2, h3⟩, rfl⟩
def boV (l : List Bool) : List Value := l.map Value.bool
theorem boV_get (l : List Bool) (i : Nat) : (boV l)[i]? = l[i]?.map Value.bool := by simp [boV]
theorem boV_set (l : List Bool) (i : Nat) (b : Bool) : boV (l.set i b) = (boV l).set i (.bool b) := by simp [boV, List.map_set]
theorem boV_one (l : List Bool) : ∀ u ∈ boV l, u.oneCell' = true := by
  intro u hu
  simp only [boV, List.mem_map] at hu
  obtain ⟨b, _, rfl⟩ := hu
  rfl
/-- what is new since W, but for the row at oa -/
def Fo (W : World) (oa : Option Addr) (k : Nat) : Prop := W.heap.size ≤ k ∧ ∀ ad, oa = some ad → k ≠ ad.block
theorem Fo.not {W : World} {oa : Option Addr} : ∀ ad, oa = some ad → ¬ Fo W oa ad.block := fun ad h hf => hf.2 ad h rfl
/-- a call's own memory has come -/
theorem fo_after {W w w' : World} {oa : Option Addr} {g : Nat} {q : Qu} {F : Nat → Prop} (h : QAt (Fat F w w') w' g q) (hF : ∀ k, F k → Fo W oa k) (hW : W.heap.size ≤ w.heap.size) (hoa : ∀ ad, oa = some ad → ad.block < w.heap.size) : QAt (Fo W oa) w' g q :=
  h.more (fun k hk _ => hk.elim (hF k) (fun h => ⟨by omega, fun ad ha e => by have := hoa ad ha; omega⟩))

set_option maxRecDepth 100000 in
set_option maxHeartbeats 20000000 in
theorem limits_any (W : World) (room : Int) (_ : -9223372036854775808 ≤ room) (_ : room ≤ 9223372036854775807) (a : Option Addr) (n c : Nat) (h : OpsAt W a n c) :
    Calls Try.prog 4 #[.int .i64 room, .slice a n c] W fun e w' => e = .returned (.bool true) ∧ Below W.heap.size W w' := by
  by_cases hr : room < 1 ∨ 65536 < room
  · have HA := Lib.hid awake4_any
    clear h
    rcases hr with hr | hr
    · go_enter Try.func4, Try.ntmps4
      go_wp2_with fail
      refine (new_any W room).mono ?_
      rintro e w1 (⟨_, rfl, hb1⟩ | ⟨h1, h2, _⟩)
      rotate_left
      · exfalso; omega
      go_wp2_with fail
      refine (HA.out w1).mono ?_
      rintro e w2 ⟨rfl, hb2⟩
      go_wp2
      go_ret
      exact ⟨rfl, hb1.trans (hb2.mono hb1.size)⟩
    · have hr' : ¬ room < 1 := by omega
      go_enter Try.func4, Try.ntmps4
      go_wp2_with fail
      refine (new_any W room).mono ?_
      rintro e w1 (⟨_, rfl, hb1⟩ | ⟨h1, h2, _⟩)
      rotate_left
      · exfalso; omega
      go_wp2_with fail
      refine (HA.out w1).mono ?_
      rintro e w2 ⟨rfl, hb2⟩
      go_wp2
      go_ret
      exact ⟨rfl, hb1.trans (hb2.mono hb1.size)⟩
  · obtain ⟨rm, rfl⟩ := Int.eq_ofNat_of_zero_le (show 0 ≤ room by omega)
    have hr1 : 1 ≤ rm := by omega
    have hr2 : rm ≤ 65536 := by omega
    have HA := Lib.hid awake4_any
    obtain ⟨hn20, hnc, hcm, hops⟩ := h
    have HO := Lib.hid hops
    have hcm' : (c : Int) ≤ 9223372036854775807 := by unfold maxLen at hcm; omega
    clear hr hops hcm
    go_enter Try.func4, Try.ntmps4
    go_wp2_with fail
    refine (new_any W rm).mono ?_
    rintro e w1 (⟨h, _⟩ | ⟨_, _, g, rfl, hQ1, hb1⟩)
    · exfalso; omega
    have q1 : QAt (Fo W none) w1 g (Qu.new rm) := hQ1.more (fun _ h _ => ⟨h.1, by simp⟩)
    clear hQ1
    go_wp2_with fail
    go_loopw [7, 41] (fun ov iv wr => ∃ (k : Nat) (oa : Option Addr) (oc : Nat) (out : List Bool) (q : Qu), iv = .int .i64 (k : Int) ∧ k ≤ n ∧ ov = .slice oa out.length oc ∧
      wr.ownsRow 0 4 1 (.slice oa out.length oc) out.length (boV out) ∧ QAt (Fo W oa) wr g q ∧ LInv rm q out ∧ Below W.heap.size W wr ∧ ∀ ad, oa = some ad → W.heap.size ≤ ad.block) (fun _ iv _ => n - (intOf iv).toNat)
    case atStart => exact ⟨0, none, 0, [], Qu.new rm, rfl, Nat.zero_le _, rfl, World.ownsRow_nil _ _ _ _, q1, LInv.new hr1 hr2, hb1, by simp⟩
    case round =>
      obtain ⟨k, oa, oc, out, q, rfl, hk, rfl, hO, hQ, hI, hB, hoa⟩ := hrel
      clear q1
      by_cases hkn : k < n
      · have hkn' : (k : Int) < (n : Int) := by omega
        have g2 : IntKind.i64.wrap ((k : Int) + 1) = (k : Int) + 1 := by rw [IntKind.wrap_i64]; omega
        obtain ⟨b, off, rfl, hop⟩ := HO.out (by omega)
        obtain ⟨kind, A, B, da, dn, dc, dl, fin, c0, c1, c2, c3, c4, sD, hdn, hA1, hA2, hB1, hB2⟩ := hop k hkn
        clear hop
        have cellB : ∀ {ad : Addr} {u : Value}, W.cell? ad = some u → wr.cell? ad = some u := fun {ad u} hc => by rw [hB.cell (World.block_lt_of_cell? W _ hc)]; exact hc
        have c0 := cellB c0
        have c1 := cellB c1
        have c2 := cellB c2
        have c3 := cellB c3
        have c4 := cellB c4
        clear cellB
        have hdl : dl.length = dn := sD.byte
        have hol := hI.len
        have hof := hI.ok.fit
        have hor := hI.ok.room2
        have hoL : out.length ≤ 65536 := by omega
        obtain ⟨w1, hw1⟩ : ∃ w1, w1 = wr.alloc (.cells #[.int .i64 kind, .int .i64 A, .int .i64 B, .slice da dn dc, .bool fin] 35) := ⟨_, rfl⟩
        have hal : Below wr.heap.size wr w1 := by rw [hw1]; exact (Below.refl _ _).alloc (Nat.le_refl _) _
        have hT : Has w1 wr.heap.size 35 [.int .i64 kind, .int .i64 A, .int .i64 B, .slice da dn dc, .bool fin] := by rw [hw1]; exact Has.new _ _ _
        have hB1w := hB.trans (hal.mono hB.size)
        have hQ1 : QAt (fun j => Fo W oa j ∧ j < wr.heap.size) w1 g q := (hQ.more (fun j h hlt => ⟨h, hlt⟩)).below hal
        have hO1 := own_below hO hal
        have hoa1 : ∀ ad, oa = some ad → ad.block < wr.heap.size := fun ad ha => own_at hO ha
        have hTn : ¬ (Fo W oa wr.heap.size ∧ wr.heap.size < wr.heap.size) := fun h => Nat.lt_irrefl _ h.2
        have hoaN : ∀ ad, oa = some ad → ¬ (Fo W oa ad.block ∧ ad.block < wr.heap.size) := fun ad ha hh => hh.1.2 ad ha rfl
        have sD1 := sD.below hB1w
        have t1 := hT.cell 1 rfl
        have t2 := hT.cell 2 rfl
        have t3 := hT.cell 3 rfl
        have t4 := hT.cell 4 rfl
        have hz1 : wr.heap.size < w1.heap.size := hT.lt
        have hzr := hB.size
        have HDL := Lib.hid hdl
        have HOL := Lib.hid hol
        clear hdl hol hof hor sD hO hQ
        by_cases k1 : kind = 1
        · subst k1
          as_aux_lemma =>
            have HCp := Lib.hid (copy_any w1 sD1 (by omega))
            go_wp2_with fail
            rw [← hw1]
            refine HCp.out.mono ?_
            rintro e w2 ⟨a2, c2', rfl, ho2, hb2⟩
            have hQ2 := hQ1.below hb2
            have hO2 := own_below hO1 hb2
            have hB2w := hB1w.trans (hb2.mono hB1w.size)
            have HWr := Lib.hid (write_any w2 hQ2 hI.ok (own_sl ho2))
            have hI2 := hI.write dl (by rw [HDL.out]; omega)
            have htk := q.took_le dl
            have htk2 : q.took dl ≤ 65536 := by have := hI2.ok.fit; have := hI2.ok.room2; have e : (q.write dl).data.length = q.data.length + q.took dl := (by unfold Qu.write; simp; omega); omega
            obtain ⟨t, ht⟩ : ∃ t, t = q.took dl := ⟨_, rfl⟩
            have HWr2 : Hid (Calls Try.prog 16 #[.pointer (some ⟨g, 0, none⟩), .slice a2 dl.length c2'] w2 fun e w' => e = .returned (.tuple #[.int .i64 (t : Int), .int .i64 q.werr]) ∧ Kept (fun j => Fo W oa j ∧ j < wr.heap.size) w2 w' ∧ QAt (Fat (fun j => Fo W oa j ∧ j < wr.heap.size) w2 w') w' g (q.write dl)) := by rw [ht]; exact HWr
            rw [← ht] at hI2 htk2
            clear hw1 c0 c1 c2 c3 c4 hT t1 t2 t3 t4 hQ1 hO1 hB1w sD1 hal HWr ht htk ho2
            go_wp2_with fail
            refine HWr2.out.mono ?_
            rintro e w3 ⟨rfl, hk3, hQ3⟩
            have hQ3' : QAt (Fo W oa) w3 g (q.write dl) := fo_after hQ3 (fun j h => h.1) hB2w.size (fun ad ha => by have := hoa1 ad ha; have := hb2.size; omega)
            have hO3 := own_kept' hO2 hk3 hoaN
            have hB3 := Kept.fresh hB2w hk3 (fun j h => h.1.1)
            clear hQ3 hQ2 hO2 hk3 hB2w
            obtain ⟨q', hq'⟩ : ∃ q', q' = q.write dl := ⟨_, rfl⟩
            rw [← hq'] at hQ3' hI2
            clear hq'
            go_wp2_with fail
            go_loopw [7, 58] (fun ov jv wv => ∃ (j : Nat) (oa' : Option Addr) (oc' : Nat), jv = .int .i64 (j : Int) ∧ j ≤ t ∧ ov = .slice oa' (out.length + j) oc' ∧
              wv.ownsRow 0 4 1 (.slice oa' (out.length + j) oc') (out.length + j) (boV (out ++ List.replicate j false)) ∧ QAt (Fo W oa') wv g q' ∧ Below W.heap.size W wv ∧ ∀ ad, oa' = some ad → W.heap.size ≤ ad.block) (fun _ jv _ => t - (intOf jv).toNat)
            case atStart => exact ⟨0, oa, oc, rfl, Nat.zero_le _, rfl, by simpa using hO3, hQ3', hB3, hoa⟩
            case round =>
              obtain ⟨j, oa', oc', rfl, hj, rfl, hOj, hQj, hBj, hoaj⟩ := hrel
              clear hO3 hQ3' hB3
              by_cases hjt : j < t
              · have hjt' : (j : Int) < (t : Int) := by omega
                have g3 : IntKind.i64.wrap ((j : Int) + 1) = (j : Int) + 1 := by rw [IntKind.wrap_i64]; omega
                have hal2 : Below wr.heap.size wr (wr.alloc (.cells #[.bool false] 4)) := (Below.refl _ _).alloc (Nat.le_refl _) _
                have hs1 : Sl (wr.alloc (.cells #[.bool false] 4)) (some ⟨wr.heap.size, 0, none⟩) 1 1 (boV [false]) := ⟨rfl, Nat.le_refl _, by decide, by simp, fun _ => ⟨_, 0, rfl, fun i hi => by
                  have : i = 0 := by omega
                  subst this
                  simp [boV]⟩⟩
                obtain ⟨a4, c4', w4, hr4, ho4, hg4, hno4⟩ := run_app_own (tyo := 33) tyBool (B := 0) (own_below hOj hal2) hs1 (boV_one _) (by omega) (by unfold maxLen; omega) (Nat.zero_le _)
                have k4 := Kept.of_grown hg4
                have hwz : (wr.alloc (.cells #[.bool false] 4)).heap.size = wr.heap.size + 1 := by simp
                go_wp2_with (at_builtin; refine Lib.wpList_append_run _ rfl _ _ _ _ rfl (.slice oa' (out.length + j) oc') (.slice (some ⟨wr.heap.size, 0, none⟩) 1 1) rfl rfl _ _ hr4 ?_)
                go_roundw
                case rel =>
                  have hown : ∀ kk, Value.ownBlock (.slice oa' (out.length + j) oc') = some kk → ∃ ad, oa' = some ad ∧ ad.block = kk := fun kk hkk => by
                    cases oa' with
                    | none => cases hkk
                    | some ad => exact ⟨ad, rfl, by simpa [Value.ownBlock] using hkk⟩
                  refine ⟨j + 1, a4, c4', by push_cast; rfl, by omega, by rw [Nat.add_assoc], ?_, ?_, ?_, ?_⟩
                  · rw [← Nat.add_assoc, List.replicate_succ', ← List.append_assoc, show boV (out ++ List.replicate j false ++ [false]) = boV (out ++ List.replicate j false) ++ boV [false] by simp [boV]]
                    exact ho4
                  · have hq2 := (hQj.more (G := fun kk => Fo W oa' kk ∧ kk < wr.heap.size) (fun kk h hlt => ⟨h, hlt⟩)).below hal2
                    refine (hq2.kept k4 (fun kk hkk _ hx => by obtain ⟨ad, ha, e⟩ := hown kk hx; exact hkk.1.2 ad ha e.symm)).more (fun kk hkk _ => ⟨hkk.1.1, fun ad ha e => ?_⟩)
                    rcases newOr_at hno4 ha with ⟨x, hx, e2⟩ | e2
                    · exact hkk.1.2 x hx (by omega)
                    · omega
                  · refine (hBj.trans (hal2.mono hBj.size)).trans (k4.below (by rw [hwz]; have := hBj.size; omega) (fun kk hx => ?_))
                    obtain ⟨ad, ha, e⟩ := hown kk hx
                    have := hoaj ad ha
                    omega
                  · intro ad ha
                    rcases newOr_at hno4 ha with ⟨x, hx, e2⟩ | e2
                    · have := hoaj x hx; omega
                    · have := hBj.size; omega
                case measure => simp [intOf]; omega
              · obtain rfl : j = t := by omega
                have hlo : (out ++ List.replicate j false).length = out.length + j := by simp
                obtain ⟨out', hout'⟩ : ∃ out', out' = out ++ List.replicate j false := ⟨_, rfl⟩
                have hI := hI2
                have hO := hOj
                rw [← hout'] at hlo hO hI
                rw [← hlo] at hO ⊢
                have hQ := hQj
                have hB9 := hBj
                have hoa := hoaj
                obtain ⟨w9, rfl⟩ : ∃ w9, w9 = wr := ⟨_, rfl⟩
                clear hlo hout' hI2 hOj hQj hBj hoaj HOL HDL
                have k1 := hI.ok.sent
                have k2 := hI.ok.base
                have k3 := hI.ok.fit
                have k4 := hI.room
                have k5 := hI.ok.room2
                have HS : Hid (∀ w', QAt (Fo W oa') w' g q' → Calls Try.prog 13 #[.pointer (some ⟨g, 0, none⟩)] w' (IntOf w' (q'.sent : Int))) := Lib.hid (fun w' h => sent_any w' h)
                have HW : Hid (∀ w', QAt (Fo W oa') w' g q' → Calls Try.prog 12 #[.pointer (some ⟨g, 0, none⟩)] w' (IntOf w' ((q'.base : Int) + q'.data.length))) := Lib.hid (fun w' h => written_any w' h hI.ok)
                have HBs : Hid (∀ w', QAt (Fo W oa') w' g q' → Calls Try.prog 14 #[.pointer (some ⟨g, 0, none⟩)] w' (IntOf w' (q'.base : Int))) := Lib.hid (fun w' h => base_any w' h)
                have HRm : Hid (∀ w', QAt (Fo W oa') w' g q' → Calls Try.prog 11 #[.pointer (some ⟨g, 0, none⟩)] w' (IntOf w' ((q'.room : Int) - q'.data.length))) := Lib.hid (fun w' h => room_any w' h hI.ok)
                have e1 : ¬ (q'.base : Int) + (q'.data.length : Int) < (q'.sent : Int) := by omega
                have e2 : ¬ (q'.sent : Int) < (q'.base : Int) := by omega
                have e3 : ¬ (q'.room : Int) - (q'.data.length : Int) < 0 := by omega
                have e4 : ¬ (rm : Int) < (q'.room : Int) - (q'.data.length : Int) := by omega
                have HI := Lib.hid hI
                clear k1 k2 k3 k4 k5 hI
                go_wp2_with fail
                refine (HS.out w9 hQ).mono ?_
                rintro e w10 ⟨rfl, hb10⟩
                have hQ := hQ.below hb10
                have hO := own_below hO hb10
                have hB9 := hB9.trans (hb10.mono hB9.size)
                clear hb10
                go_wp2_with fail
                refine (HW.out w10 hQ).mono ?_
                rintro e w11 ⟨rfl, hb10⟩
                have hQ := hQ.below hb10
                have hO := own_below hO hb10
                have hB9 := hB9.trans (hb10.mono hB9.size)
                clear hb10
                go_wp2_with fail
                refine (HBs.out w11 hQ).mono ?_
                rintro e w12 ⟨rfl, hb10⟩
                have hQ := hQ.below hb10
                have hO := own_below hO hb10
                have hB9 := hB9.trans (hb10.mono hB9.size)
                clear hb10
                go_wp2_with fail
                refine (HS.out w12 hQ).mono ?_
                rintro e w13 ⟨rfl, hb10⟩
                have hQ := hQ.below hb10
                have hO := own_below hO hb10
                have hB9 := hB9.trans (hb10.mono hB9.size)
                clear hb10
                go_wp2_with fail
                refine (HRm.out w13 hQ).mono ?_
                rintro e w14 ⟨rfl, hb10⟩
                have hQ := hQ.below hb10
                have hO := own_below hO hb10
                have hB9 := hB9.trans (hb10.mono hB9.size)
                clear hb10
                go_wp2_with fail
                refine (HRm.out w14 hQ).mono ?_
                rintro e w15 ⟨rfl, hb10⟩
                have hQ := hQ.below hb10
                have hO := own_below hO hb10
                have hB9 := hB9.trans (hb10.mono hB9.size)
                clear hb10
                go_wp2
                go_roundw
                case rel => exact ⟨k + 1, oa', oc', out', q', by push_cast; rfl, by omega, rfl, hO, hQ, HI.out, hB9, hoa⟩
                case measure => simp [intOf]; omega
        by_cases k2 : kind = 2
        · subst k2
          as_aux_lemma =>
            have HFn := Lib.hid (finish_any w1 hQ1)
            go_wp2_with fail
            rw [← hw1]
            refine HFn.out.mono ?_
            rintro e w9 ⟨rfl, hk9, hQ9⟩
            have hQ := hQ9.more (G := Fo W oa) (fun j h _ => h.1)
            have hO := own_kept' hO1 hk9 hoaN
            have hB9 := Kept.fresh hB1w hk9 (fun j h => h.1.1)
            have hI := hI.finish
            obtain ⟨q', hq'⟩ : ∃ q', q' = q.finish := ⟨_, rfl⟩
            rw [← hq'] at hQ hI
            obtain ⟨oa', rfl⟩ : ∃ oa', oa' = oa := ⟨_, rfl⟩
            obtain ⟨oc', rfl⟩ : ∃ oc', oc' = oc := ⟨_, rfl⟩
            obtain ⟨out', rfl⟩ : ∃ out', out' = out := ⟨_, rfl⟩
            clear hw1 c0 c1 c2 c3 c4 hT t1 t2 t3 t4 hQ1 hO1 hB1w sD1 hal hQ9 HFn hq' HOL

            have k1 := hI.ok.sent
            have k2 := hI.ok.base
            have k3 := hI.ok.fit
            have k4 := hI.room
            have k5 := hI.ok.room2
            have HS : Hid (∀ w', QAt (Fo W oa') w' g q' → Calls Try.prog 13 #[.pointer (some ⟨g, 0, none⟩)] w' (IntOf w' (q'.sent : Int))) := Lib.hid (fun w' h => sent_any w' h)
            have HW : Hid (∀ w', QAt (Fo W oa') w' g q' → Calls Try.prog 12 #[.pointer (some ⟨g, 0, none⟩)] w' (IntOf w' ((q'.base : Int) + q'.data.length))) := Lib.hid (fun w' h => written_any w' h hI.ok)
            have HBs : Hid (∀ w', QAt (Fo W oa') w' g q' → Calls Try.prog 14 #[.pointer (some ⟨g, 0, none⟩)] w' (IntOf w' (q'.base : Int))) := Lib.hid (fun w' h => base_any w' h)
            have HRm : Hid (∀ w', QAt (Fo W oa') w' g q' → Calls Try.prog 11 #[.pointer (some ⟨g, 0, none⟩)] w' (IntOf w' ((q'.room : Int) - q'.data.length))) := Lib.hid (fun w' h => room_any w' h hI.ok)
            have e1 : ¬ (q'.base : Int) + (q'.data.length : Int) < (q'.sent : Int) := by omega
            have e2 : ¬ (q'.sent : Int) < (q'.base : Int) := by omega
            have e3 : ¬ (q'.room : Int) - (q'.data.length : Int) < 0 := by omega
            have e4 : ¬ (rm : Int) < (q'.room : Int) - (q'.data.length : Int) := by omega
            have HI := Lib.hid hI
            clear k1 k2 k3 k4 k5 hI
            go_wp2_with fail
            refine (HS.out w9 hQ).mono ?_
            rintro e w10 ⟨rfl, hb10⟩
            have hQ := hQ.below hb10
            have hO := own_below hO hb10
            have hB9 := hB9.trans (hb10.mono hB9.size)
            clear hb10
            go_wp2_with fail
            refine (HW.out w10 hQ).mono ?_
            rintro e w11 ⟨rfl, hb10⟩
            have hQ := hQ.below hb10
            have hO := own_below hO hb10
            have hB9 := hB9.trans (hb10.mono hB9.size)
            clear hb10
            go_wp2_with fail
            refine (HBs.out w11 hQ).mono ?_
            rintro e w12 ⟨rfl, hb10⟩
            have hQ := hQ.below hb10
            have hO := own_below hO hb10
            have hB9 := hB9.trans (hb10.mono hB9.size)
            clear hb10
            go_wp2_with fail
            refine (HS.out w12 hQ).mono ?_
            rintro e w13 ⟨rfl, hb10⟩
            have hQ := hQ.below hb10
            have hO := own_below hO hb10
            have hB9 := hB9.trans (hb10.mono hB9.size)
            clear hb10
            go_wp2_with fail
            refine (HRm.out w13 hQ).mono ?_
            rintro e w14 ⟨rfl, hb10⟩
            have hQ := hQ.below hb10
            have hO := own_below hO hb10
            have hB9 := hB9.trans (hb10.mono hB9.size)
            clear hb10
            go_wp2_with fail
            refine (HRm.out w14 hQ).mono ?_
            rintro e w15 ⟨rfl, hb10⟩
            have hQ := hQ.below hb10
            have hO := own_below hO hb10
            have hB9 := hB9.trans (hb10.mono hB9.size)
            clear hb10
            go_wp2
            go_roundw
            case rel => exact ⟨k + 1, oa', oc', out', q', by push_cast; rfl, by omega, rfl, hO, hQ, HI.out, hB9, hoa⟩
            case measure => simp [intOf]; omega
        by_cases k3 : kind = 3
        · subst k3
          as_aux_lemma =>
            have HSn := Lib.hid (sent_any w1 hQ1)
            go_wp2_with fail
            rw [← hw1]
            refine HSn.out.mono ?_
            rintro e w2 ⟨rfl, hb2⟩
            have hQ2 := hQ1.below hb2
            have hO2 := own_below hO1 hb2
            have hB2w := hB1w.trans (hb2.mono hB1w.size)
            have hT2 := hT.kept (Kept.of_below (X := none') hb2) (fun h => h)
            have HNx := next_any w2 hQ2 hI.ok A B hB2
            have u1 := hT2.cell 1 rfl
            have u2 := hT2.cell 2 rfl
            have hch := hI.chunk A B
            clear hw1 c0 c1 c2 c3 c4 hT t1 t2 t3 t4 hQ1 hO1 hB1w sD1 hal HSn hQ2
            unfold Nexted at HNx
            rcases hch with ⟨_, ho, hnx⟩ | ⟨ho, h1, h2, h3, h4, hIx⟩
            · rw [ho, hnx] at HNx
              have HN := Lib.hid HNx
              clear ho hnx HNx
              go_wp2_with fail
              refine HN.out.mono ?_
              rintro e w3 ⟨a3, c3', rfl, _, hk3, hQ3⟩
              have hO3 := own_kept' hO2 hk3 hoaN
              have hB3 := Kept.fresh hB2w hk3 (fun j h => h.1.1)
              go_wp2
              go_roundw
              case rel => exact ⟨k + 1, oa, oc, out, q, by push_cast; rfl, by omega, rfl, hO3, hQ3.more (fun j h _ => h.1), hI, hB3, hoa⟩
              case measure => simp [intOf]; omega
            · rw [ho] at HNx
              obtain ⟨x, hx⟩ : ∃ x, x = (q.out A B).at_ := ⟨_, rfl⟩
              obtain ⟨m, hm⟩ : ∃ m, m = (q.out A B).data.length := ⟨_, rfl⟩
              rw [← hx] at h1 h3 h4 hIx
              rw [← hm] at h1 h2 h3 h4 hIx
              have HN : Hid (Calls Try.prog 10 #[.pointer (some ⟨g, 0, none⟩), .int .i64 A, .int .i64 B] w2 fun e w' => ∃ a c fb, e = .returned (.tuple #[.int .i64 (x : Int), .slice a m c, .bool fb, .bool true]) ∧ Kept (fun j => Fo W oa j ∧ j < wr.heap.size) w2 w' ∧ QAt (fun j => Fo W oa j ∧ j < wr.heap.size) w' g (q.next A B)) := by
                rw [hx, hm]
                exact Lib.hid (HNx.mono fun e w' ⟨a, c, g1, g2, g3, g4⟩ => ⟨a, c, _, g1, g3, g4⟩)
              have HFalse := Lib.hid h4
              have x1 : (x : Int) ≤ (out.length : Int) := by omega
              have x2 : (m : Int) ≤ (out.length : Int) - (x : Int) := by omega
              have x3 : IntKind.i64.wrap ((out.length : Int) - (x : Int)) = (out.length : Int) - x := by rw [IntKind.wrap_i64]; omega
              have x4 : IntKind.i64.wrap ((x : Int) + (m : Int)) = (x : Int) + m := by rw [IntKind.wrap_i64]; omega
              clear ho HNx hx hm h4
              have split : (¬ max (q.sent : Int) B < (x : Int) + (m : Int)) ∨ (max (q.sent : Int) B < (x : Int) + (m : Int) ∧ ¬ (0 : Int) < (m : Int)) := by
                by_cases hmm : 0 < m
                · have := h3 hmm; exact .inl (by omega)
                · by_cases hq : max (q.sent : Int) B < (x : Int) + (m : Int)
                  · exact .inr ⟨hq, by omega⟩
                  · exact .inl hq
              clear h3
              rcases split with hs1 | ⟨hs1, hs2⟩
              · go_wp2_with fail
                refine HN.out.mono ?_
                rintro e w3 ⟨a3, c3', fb, rfl, hk3, hQ3'⟩
                have hT3 := hT2.kept hk3 hTn
                have v1 := hT3.cell 1 rfl
                have v2 := hT3.cell 2 rfl
                have hO3 := own_kept' hO2 hk3 hoaN
                have hB3 := Kept.fresh hB2w hk3 (fun j h => h.1.1)
                have hQ3 := hQ3'.more (G := Fo W oa) (fun j h _ => h.1)
                clear hk3 hQ3' hT2 u1 u2 hO2 hB2w HN hT3 hb2
                have hI := hIx
                obtain ⟨q', hq'⟩ : ∃ q', q' = q.next A B := ⟨_, rfl⟩
                rw [← hq'] at hI hQ3
                clear hq'
                go_wp2_with fail
                go_loopw [138] (fun jv wv => ∃ j : Nat, jv = .int .i64 (j : Int) ∧ j ≤ m ∧ wv.ownsRow 0 4 1 (.slice oa out.length oc) out.length (boV (turnedB out x j true)) ∧ QAt (Fo W oa) wv g q' ∧ Below W.heap.size W wv) (fun jv _ => m - (intOf jv).toNat)
                case atStart => exact ⟨0, rfl, Nat.zero_le _, by rw [turnedB_zero]; exact hO3, hQ3, hB3⟩
                case round =>
                  obtain ⟨j, rfl, hj, hOj, hQj, hBj⟩ := hrel
                  clear hO3 hQ3 hB3
                  by_cases hjm : j < m
                  · have hjm' : (j : Int) < (m : Int) := by omega
                    have g3 : IntKind.i64.wrap ((j : Int) + 1) = (j : Int) + 1 := by rw [IntKind.wrap_i64]; omega
                    have g4 : IntKind.i64.wrap ((x : Int) + (j : Int)) = (x : Int) + j := by rw [IntKind.wrap_i64]; omega
                    have g5 : ((x : Int) + (j : Int)).toNat = x + j := by omega
                    obtain ⟨ob, rfl, hcO0, hfO, hcap1, hcap2⟩ := own_cell hOj (i := x + j) (by omega)
                    have hcO : wr.cell? ⟨ob, x + j, none⟩ = some (.bool false) := by
                      rw [hcO0, boV_get, turnedB_get, if_neg (by omega), HFalse.out j hjm]; rfl
                    clear hcO0
                    have hxj : (x : Int) + (j : Int) < (out.length : Int) := by omega
                    have hcap : (out.length : Int) ≤ (oc : Int) := by omega
                    have HT := Lib.hid (turnedB_succ out x j true (by omega))
                    have hob := hoa _ rfl
                    go_wp2
                    go_roundw
                    case rel =>
                      have ks := Kept.set wr ob (x + j) (.bool true)
                      refine ⟨j + 1, by push_cast; rfl, by omega, ?_, hQj.kept ks (fun kk hk _ e => hk.2 _ rfl e), hBj.trans (ks.below hBj.size (fun kk e => by rw [e]; exact hob))⟩
                      rw [HT.out, boV_set]
                      exact own_set hOj (x + j) (.bool true)
                    case measure => simp [intOf]; omega
                  · obtain rfl : j = m := by omega
                    have hlo := turnedB_len out x j true
                    obtain ⟨out', hout'⟩ : ∃ out', out' = turnedB out x j true := ⟨_, rfl⟩
                    rw [← hout'] at hlo hOj hI
                    have hO := hOj
                    rw [← hlo] at hO
                    have HLO := Lib.hid hlo
                    have hQ := hQj
                    have hB9 := hBj
                    obtain ⟨w9, rfl⟩ : ∃ w9, w9 = wr := ⟨_, rfl⟩
                    obtain ⟨oa', rfl⟩ : ∃ oa', oa' = oa := ⟨_, rfl⟩
                    obtain ⟨oc', rfl⟩ : ∃ oc', oc' = oc := ⟨_, rfl⟩
                    clear hlo hout' hOj hQj hBj HFalse
                    have k1 := hI.ok.sent
                    have k2 := hI.ok.base
                    have k3 := hI.ok.fit
                    have k4 := hI.room
                    have k5 := hI.ok.room2
                    have HS : Hid (∀ w', QAt (Fo W oa') w' g q' → Calls Try.prog 13 #[.pointer (some ⟨g, 0, none⟩)] w' (IntOf w' (q'.sent : Int))) := Lib.hid (fun w' h => sent_any w' h)
                    have HW : Hid (∀ w', QAt (Fo W oa') w' g q' → Calls Try.prog 12 #[.pointer (some ⟨g, 0, none⟩)] w' (IntOf w' ((q'.base : Int) + q'.data.length))) := Lib.hid (fun w' h => written_any w' h hI.ok)
                    have HBs : Hid (∀ w', QAt (Fo W oa') w' g q' → Calls Try.prog 14 #[.pointer (some ⟨g, 0, none⟩)] w' (IntOf w' (q'.base : Int))) := Lib.hid (fun w' h => base_any w' h)
                    have HRm : Hid (∀ w', QAt (Fo W oa') w' g q' → Calls Try.prog 11 #[.pointer (some ⟨g, 0, none⟩)] w' (IntOf w' ((q'.room : Int) - q'.data.length))) := Lib.hid (fun w' h => room_any w' h hI.ok)
                    have e1 : ¬ (q'.base : Int) + (q'.data.length : Int) < (q'.sent : Int) := by omega
                    have e2 : ¬ (q'.sent : Int) < (q'.base : Int) := by omega
                    have e3 : ¬ (q'.room : Int) - (q'.data.length : Int) < 0 := by omega
                    have e4 : ¬ (rm : Int) < (q'.room : Int) - (q'.data.length : Int) := by omega
                    have HI := Lib.hid hI
                    clear k1 k2 k3 k4 k5 hI
                    go_wp2_with fail
                    refine (HS.out w9 hQ).mono ?_
                    rintro e w10 ⟨rfl, hb10⟩
                    have hQ := hQ.below hb10
                    have hO := own_below hO hb10
                    have hB9 := hB9.trans (hb10.mono hB9.size)
                    clear hb10
                    go_wp2_with fail
                    refine (HW.out w10 hQ).mono ?_
                    rintro e w11 ⟨rfl, hb10⟩
                    have hQ := hQ.below hb10
                    have hO := own_below hO hb10
                    have hB9 := hB9.trans (hb10.mono hB9.size)
                    clear hb10
                    go_wp2_with fail
                    refine (HBs.out w11 hQ).mono ?_
                    rintro e w12 ⟨rfl, hb10⟩
                    have hQ := hQ.below hb10
                    have hO := own_below hO hb10
                    have hB9 := hB9.trans (hb10.mono hB9.size)
                    clear hb10
                    go_wp2_with fail
                    refine (HS.out w12 hQ).mono ?_
                    rintro e w13 ⟨rfl, hb10⟩
                    have hQ := hQ.below hb10
                    have hO := own_below hO hb10
                    have hB9 := hB9.trans (hb10.mono hB9.size)
                    clear hb10
                    go_wp2_with fail
                    refine (HRm.out w13 hQ).mono ?_
                    rintro e w14 ⟨rfl, hb10⟩
                    have hQ := hQ.below hb10
                    have hO := own_below hO hb10
                    have hB9 := hB9.trans (hb10.mono hB9.size)
                    clear hb10
                    go_wp2_with fail
                    refine (HRm.out w14 hQ).mono ?_
                    rintro e w15 ⟨rfl, hb10⟩
                    have hQ := hQ.below hb10
                    have hO := own_below hO hb10
                    have hB9 := hB9.trans (hb10.mono hB9.size)
                    clear hb10
                    go_wp2
                    go_roundw
                    case rel => exact ⟨k + 1, oa', oc', out', q', by push_cast; rfl, by omega, by rw [HLO.out], hO, hQ, HI.out, hB9, hoa⟩
                    case measure => simp [intOf]; omega
              · go_wp2_with fail
                refine HN.out.mono ?_
                rintro e w3 ⟨a3, c3', fb, rfl, hk3, hQ3'⟩
                have hT3 := hT2.kept hk3 hTn
                have v1 := hT3.cell 1 rfl
                have v2 := hT3.cell 2 rfl
                have hO3 := own_kept' hO2 hk3 hoaN
                have hB3 := Kept.fresh hB2w hk3 (fun j h => h.1.1)
                have hQ3 := hQ3'.more (G := Fo W oa) (fun j h _ => h.1)
                clear hk3 hQ3' hT2 u1 u2 hO2 hB2w HN hT3 hb2
                have hI := hIx
                obtain ⟨q', hq'⟩ : ∃ q', q' = q.next A B := ⟨_, rfl⟩
                rw [← hq'] at hI hQ3
                clear hq'
                go_wp2_with fail
                go_loopw [138] (fun jv wv => ∃ j : Nat, jv = .int .i64 (j : Int) ∧ j ≤ m ∧ wv.ownsRow 0 4 1 (.slice oa out.length oc) out.length (boV (turnedB out x j true)) ∧ QAt (Fo W oa) wv g q' ∧ Below W.heap.size W wv) (fun jv _ => m - (intOf jv).toNat)
                case atStart => exact ⟨0, rfl, Nat.zero_le _, by rw [turnedB_zero]; exact hO3, hQ3, hB3⟩
                case round =>
                  obtain ⟨j, rfl, hj, hOj, hQj, hBj⟩ := hrel
                  clear hO3 hQ3 hB3
                  by_cases hjm : j < m
                  · exfalso; omega
                  · obtain rfl : j = m := by omega
                    have hlo := turnedB_len out x j true
                    obtain ⟨out', hout'⟩ : ∃ out', out' = turnedB out x j true := ⟨_, rfl⟩
                    rw [← hout'] at hlo hOj hI
                    have hO := hOj
                    rw [← hlo] at hO
                    have HLO := Lib.hid hlo
                    have hQ := hQj
                    have hB9 := hBj
                    obtain ⟨w9, rfl⟩ : ∃ w9, w9 = wr := ⟨_, rfl⟩
                    obtain ⟨oa', rfl⟩ : ∃ oa', oa' = oa := ⟨_, rfl⟩
                    obtain ⟨oc', rfl⟩ : ∃ oc', oc' = oc := ⟨_, rfl⟩
                    clear hlo hout' hOj hQj hBj HFalse
                    have k1 := hI.ok.sent
                    have k2 := hI.ok.base
                    have k3 := hI.ok.fit
                    have k4 := hI.room
                    have k5 := hI.ok.room2
                    have HS : Hid (∀ w', QAt (Fo W oa') w' g q' → Calls Try.prog 13 #[.pointer (some ⟨g, 0, none⟩)] w' (IntOf w' (q'.sent : Int))) := Lib.hid (fun w' h => sent_any w' h)
                    have HW : Hid (∀ w', QAt (Fo W oa') w' g q' → Calls Try.prog 12 #[.pointer (some ⟨g, 0, none⟩)] w' (IntOf w' ((q'.base : Int) + q'.data.length))) := Lib.hid (fun w' h => written_any w' h hI.ok)
                    have HBs : Hid (∀ w', QAt (Fo W oa') w' g q' → Calls Try.prog 14 #[.pointer (some ⟨g, 0, none⟩)] w' (IntOf w' (q'.base : Int))) := Lib.hid (fun w' h => base_any w' h)
                    have HRm : Hid (∀ w', QAt (Fo W oa') w' g q' → Calls Try.prog 11 #[.pointer (some ⟨g, 0, none⟩)] w' (IntOf w' ((q'.room : Int) - q'.data.length))) := Lib.hid (fun w' h => room_any w' h hI.ok)
                    have e1 : ¬ (q'.base : Int) + (q'.data.length : Int) < (q'.sent : Int) := by omega
                    have e2 : ¬ (q'.sent : Int) < (q'.base : Int) := by omega
                    have e3 : ¬ (q'.room : Int) - (q'.data.length : Int) < 0 := by omega
                    have e4 : ¬ (rm : Int) < (q'.room : Int) - (q'.data.length : Int) := by omega
                    have HI := Lib.hid hI
                    clear k1 k2 k3 k4 k5 hI
                    go_wp2_with fail
                    refine (HS.out w9 hQ).mono ?_
                    rintro e w10 ⟨rfl, hb10⟩
                    have hQ := hQ.below hb10
                    have hO := own_below hO hb10
                    have hB9 := hB9.trans (hb10.mono hB9.size)
                    clear hb10
                    go_wp2_with fail
                    refine (HW.out w10 hQ).mono ?_
                    rintro e w11 ⟨rfl, hb10⟩
                    have hQ := hQ.below hb10
                    have hO := own_below hO hb10
                    have hB9 := hB9.trans (hb10.mono hB9.size)
                    clear hb10
                    go_wp2_with fail
                    refine (HBs.out w11 hQ).mono ?_
                    rintro e w12 ⟨rfl, hb10⟩
                    have hQ := hQ.below hb10
                    have hO := own_below hO hb10
                    have hB9 := hB9.trans (hb10.mono hB9.size)
                    clear hb10
                    go_wp2_with fail
                    refine (HS.out w12 hQ).mono ?_
                    rintro e w13 ⟨rfl, hb10⟩
                    have hQ := hQ.below hb10
                    have hO := own_below hO hb10
                    have hB9 := hB9.trans (hb10.mono hB9.size)
                    clear hb10
                    go_wp2_with fail
                    refine (HRm.out w13 hQ).mono ?_
                    rintro e w14 ⟨rfl, hb10⟩
                    have hQ := hQ.below hb10
                    have hO := own_below hO hb10
                    have hB9 := hB9.trans (hb10.mono hB9.size)
                    clear hb10
                    go_wp2_with fail
                    refine (HRm.out w14 hQ).mono ?_
                    rintro e w15 ⟨rfl, hb10⟩
                    have hQ := hQ.below hb10
                    have hO := own_below hO hb10
                    have hB9 := hB9.trans (hb10.mono hB9.size)
                    clear hb10
                    go_wp2
                    go_roundw
                    case rel => exact ⟨k + 1, oa', oc', out', q', by push_cast; rfl, by omega, by rw [HLO.out], hO, hQ, HI.out, hB9, hoa⟩
                    case measure => simp [intOf]; omega
        by_cases k5 : kind = 5
        · subst k5
          as_aux_lemma =>
            have HLs := lose_any w1 hQ1 hI.ok A B fin
            cases hrt : q.right A B fin
            · have HL2 : Hid (Calls Try.prog 19 #[.pointer (some ⟨g, 0, none⟩), .int .i64 A, .int .i64 B, .bool fin] w1 (Turned (fun j => Fo W oa j ∧ j < wr.heap.size) w1 g q 30)) := Lib.hid (by
                have e1 : q.lose A B fin = q := by unfold Qu.lose; rw [hrt]; rfl
                have e2 : q.terr A B fin = 30 := by unfold Qu.terr; rw [hrt]; rfl
                rw [e1, e2] at HLs
                exact HLs)
              clear HLs hrt
              go_wp2_with fail
              rw [← hw1]
              clear hw1 c0 c1 c2 c3 c4
              refine HL2.out.mono ?_
              rintro e w3 ⟨rfl, hk3, hQ3⟩
              have hO3 := own_kept' hO1 hk3 hoaN
              have hB3 := Kept.fresh hB1w hk3 (fun j h => h.1.1)
              go_wp2
              go_roundw
              case rel => exact ⟨k + 1, oa, oc, out, q, by push_cast; rfl, by omega, rfl, hO3, hQ3.more (fun j h _ => h.1), hI, hB3, hoa⟩
              case measure => simp [intOf]; omega
            · obtain ⟨x, m, rfl, rfl, hxm⟩ := Qu.right_nat hrt
              have HL2 : Hid (Calls Try.prog 19 #[.pointer (some ⟨g, 0, none⟩), .int .i64 (x : Int), .int .i64 (m : Int), .bool fin] w1 (Turned (fun j => Fo W oa j ∧ j < wr.heap.size) w1 g (q.lose (x : Int) (m : Int) fin) 0)) := Lib.hid (by
                have e2 : q.terr (x : Int) (m : Int) fin = 0 := by unfold Qu.terr; rw [hrt]; rfl
                rw [e2] at HLs
                exact HLs)
              have hxm2 : x + m ≤ 65536 := by have h1 := hI.ok.sent; have h2 := hI.base; have h3 := hI.ok.fit; have h4 := hI.ok.room2; omega
              have hI := hI.lose x m fin hrt
              have hmx : max (x : Int) 0 = (x : Int) := by omega
              clear HLs hrt
              go_wp2_with fail
              rw [← hw1]
              clear hw1 c0 c1 c2 c3 c4
              refine HL2.out.mono ?_
              rintro e w3 ⟨rfl, hk3, hQ3'⟩
              have hT3 := hT.kept hk3 hTn
              have v1 := hT3.cell 1 rfl
              have hO3 := own_kept' hO1 hk3 hoaN
              have hB3 := Kept.fresh hB1w hk3 (fun j h => h.1.1)
              have hQ3 := hQ3'.more (G := Fo W oa) (fun j h _ => h.1)
              obtain ⟨q', hq'⟩ : ∃ q', q' = q.lose (x : Int) (m : Int) fin := ⟨_, rfl⟩
              rw [← hq'] at hI hQ3
              have hoT : ∀ ad, oa = some ad → wr.heap.size ≠ ad.block := fun ad ha e => by have := hoa1 ad ha; omega
              clear hq' hk3 hQ3' HL2 hT t1 t2 t3 t4 hQ1 hO1 hB1w sD1 hal
              go_wp2_with fail
              go_loopw [18] (fun jv wv => ∃ j : Nat, jv = .int .i64 ((x + j : Nat) : Int) ∧ j ≤ m ∧ wv.ownsRow 0 4 1 (.slice oa out.length oc) out.length (boV (turnedB out x j false)) ∧ QAt (Fo W oa) wv g q' ∧ Below W.heap.size W wv ∧
                Has wv wr.heap.size 35 [.int .i64 5, .int .i64 (x : Int), .int .i64 (m : Int), .slice da dn dc, .bool fin]) (fun jv _ => x + m - (intOf jv).toNat)
              case atStart => exact ⟨0, rfl, Nat.zero_le _, by rw [turnedB_zero]; exact hO3, hQ3, hB3, hT3⟩
              case round =>
                obtain ⟨j, rfl, hj, hOj, hQj, hBj, hTj⟩ := hrel
                clear hO3 hQ3 hB3 hT3 v1
                have v1 := hTj.cell 1 rfl
                have v2 := hTj.cell 2 rfl
                have g3 : IntKind.i64.wrap (((x + j : Nat) : Int) - (x : Int)) = (j : Int) := by rw [IntKind.wrap_i64]; omega
                have g4 : IntKind.i64.wrap (((x + j : Nat) : Int) + 1) = ((x + (j + 1) : Nat) : Int) := by rw [IntKind.wrap_i64]; omega
                by_cases hlt : x + j < out.length
                · have hlt' : ((x + j : Nat) : Int) < (out.length : Int) := by omega
                  by_cases hjm : j < m
                  · have hjm' : ((x + j : Nat) : Int) - (x : Int) < (m : Int) := by omega
                    obtain ⟨ob, rfl, hcO, hfO, hcap1, hcap2⟩ := own_cell hOj hlt
                    have hcI : (boV (turnedB out x j false))[x + j]? = some (.bool (out[x + j]'hlt)) := by rw [boV_get, turnedB_get, if_neg (by omega), List.getElem?_eq_getElem hlt]; rfl
                    rw [hcI] at hcO
                    have hcap : (out.length : Int) ≤ (oc : Int) := by omega
                    have HTs := Lib.hid (turnedB_succ out x j false hlt)
                    have hob := hoa _ rfl
                    generalize out[x + j] = bo at hcO
                    clear hcI
                    go_wp2
                    go_roundw
                    case rel =>
                      have ks := Kept.set wr ob (x + j) (.bool false)
                      refine ⟨j + 1, by rfl, by omega, ?_, hQj.kept ks (fun kk hk _ e => hk.2 _ rfl e), hBj.trans (ks.below hBj.size (fun kk e => by rw [e]; exact hob)), hTj.kept ks (fun e => hoT _ rfl e)⟩
                      rw [HTs.out, boV_set]
                      exact own_set hOj (x + j) (.bool false)
                    case measure => simp [intOf]; omega
                  · have hjm' : ¬ ((x + j : Nat) : Int) - (x : Int) < (m : Int) := by omega
                    obtain rfl : j = m := by omega
                    have hlo := turnedB_len out x j false
                    obtain ⟨out', hout'⟩ : ∃ out', out' = turnedB out x j false := ⟨_, rfl⟩
                    rw [← hout'] at hlo hOj hI
                    have hO := hOj
                    rw [← hlo] at hO
                    have HLO := Lib.hid hlo
                    have hQ := hQj
                    have hB9 := hBj
                    obtain ⟨w9, rfl⟩ : ∃ w9, w9 = wr := ⟨_, rfl⟩
                    obtain ⟨oa', rfl⟩ : ∃ oa', oa' = oa := ⟨_, rfl⟩
                    obtain ⟨oc', rfl⟩ : ∃ oc', oc' = oc := ⟨_, rfl⟩
                    clear hlo hout' hOj hQj hBj

                    have k1 := hI.ok.sent
                    have k2 := hI.ok.base
                    have k3 := hI.ok.fit
                    have k4 := hI.room
                    have k5 := hI.ok.room2
                    have HS : Hid (∀ w', QAt (Fo W oa') w' g q' → Calls Try.prog 13 #[.pointer (some ⟨g, 0, none⟩)] w' (IntOf w' (q'.sent : Int))) := Lib.hid (fun w' h => sent_any w' h)
                    have HW : Hid (∀ w', QAt (Fo W oa') w' g q' → Calls Try.prog 12 #[.pointer (some ⟨g, 0, none⟩)] w' (IntOf w' ((q'.base : Int) + q'.data.length))) := Lib.hid (fun w' h => written_any w' h hI.ok)
                    have HBs : Hid (∀ w', QAt (Fo W oa') w' g q' → Calls Try.prog 14 #[.pointer (some ⟨g, 0, none⟩)] w' (IntOf w' (q'.base : Int))) := Lib.hid (fun w' h => base_any w' h)
                    have HRm : Hid (∀ w', QAt (Fo W oa') w' g q' → Calls Try.prog 11 #[.pointer (some ⟨g, 0, none⟩)] w' (IntOf w' ((q'.room : Int) - q'.data.length))) := Lib.hid (fun w' h => room_any w' h hI.ok)
                    have e1 : ¬ (q'.base : Int) + (q'.data.length : Int) < (q'.sent : Int) := by omega
                    have e2 : ¬ (q'.sent : Int) < (q'.base : Int) := by omega
                    have e3 : ¬ (q'.room : Int) - (q'.data.length : Int) < 0 := by omega
                    have e4 : ¬ (rm : Int) < (q'.room : Int) - (q'.data.length : Int) := by omega
                    have HI := Lib.hid hI
                    clear k1 k2 k3 k4 k5 hI
                    go_wp2_with fail
                    refine (HS.out w9 hQ).mono ?_
                    rintro e w10 ⟨rfl, hb10⟩
                    have hQ := hQ.below hb10
                    have hO := own_below hO hb10
                    have hB9 := hB9.trans (hb10.mono hB9.size)
                    clear hb10
                    go_wp2_with fail
                    refine (HW.out w10 hQ).mono ?_
                    rintro e w11 ⟨rfl, hb10⟩
                    have hQ := hQ.below hb10
                    have hO := own_below hO hb10
                    have hB9 := hB9.trans (hb10.mono hB9.size)
                    clear hb10
                    go_wp2_with fail
                    refine (HBs.out w11 hQ).mono ?_
                    rintro e w12 ⟨rfl, hb10⟩
                    have hQ := hQ.below hb10
                    have hO := own_below hO hb10
                    have hB9 := hB9.trans (hb10.mono hB9.size)
                    clear hb10
                    go_wp2_with fail
                    refine (HS.out w12 hQ).mono ?_
                    rintro e w13 ⟨rfl, hb10⟩
                    have hQ := hQ.below hb10
                    have hO := own_below hO hb10
                    have hB9 := hB9.trans (hb10.mono hB9.size)
                    clear hb10
                    go_wp2_with fail
                    refine (HRm.out w13 hQ).mono ?_
                    rintro e w14 ⟨rfl, hb10⟩
                    have hQ := hQ.below hb10
                    have hO := own_below hO hb10
                    have hB9 := hB9.trans (hb10.mono hB9.size)
                    clear hb10
                    go_wp2_with fail
                    refine (HRm.out w14 hQ).mono ?_
                    rintro e w15 ⟨rfl, hb10⟩
                    have hQ := hQ.below hb10
                    have hO := own_below hO hb10
                    have hB9 := hB9.trans (hb10.mono hB9.size)
                    clear hb10
                    go_wp2
                    go_roundw
                    case rel => exact ⟨k + 1, oa', oc', out', q', by push_cast; rfl, by omega, by rw [HLO.out], hO, hQ, HI.out, hB9, hoa⟩
                    case measure => simp [intOf]; omega
                · have hlt' : ¬ ((x + j : Nat) : Int) < (out.length : Int) := by omega
                  have het : turnedB out x j false = turnedB out x m false := by
                    apply List.ext_getElem?
                    intro i
                    rw [turnedB_get, turnedB_get]
                    by_cases hi : i < out.length
                    · by_cases h1 : x ≤ i ∧ i < x + j
                      · rw [if_pos h1, if_pos (by omega)]
                      · rw [if_neg h1, if_neg (by omega)]
                    · rw [List.getElem?_eq_none (by omega)]; split <;> split <;> rfl
                  rw [het] at hOj
                  have hlo := turnedB_len out x m false
                  obtain ⟨out', hout'⟩ : ∃ out', out' = turnedB out x m false := ⟨_, rfl⟩
                  rw [← hout'] at hlo hOj hI
                  have hO := hOj
                  rw [← hlo] at hO
                  have HLO := Lib.hid hlo
                  have hQ := hQj
                  have hB9 := hBj
                  obtain ⟨w9, rfl⟩ : ∃ w9, w9 = wr := ⟨_, rfl⟩
                  obtain ⟨oa', rfl⟩ : ∃ oa', oa' = oa := ⟨_, rfl⟩
                  obtain ⟨oc', rfl⟩ : ∃ oc', oc' = oc := ⟨_, rfl⟩
                  clear hlo hout' hOj hQj hBj

                  have k1 := hI.ok.sent
                  have k2 := hI.ok.base
                  have k3 := hI.ok.fit
                  have k4 := hI.room
                  have k5 := hI.ok.room2
                  have HS : Hid (∀ w', QAt (Fo W oa') w' g q' → Calls Try.prog 13 #[.pointer (some ⟨g, 0, none⟩)] w' (IntOf w' (q'.sent : Int))) := Lib.hid (fun w' h => sent_any w' h)
                  have HW : Hid (∀ w', QAt (Fo W oa') w' g q' → Calls Try.prog 12 #[.pointer (some ⟨g, 0, none⟩)] w' (IntOf w' ((q'.base : Int) + q'.data.length))) := Lib.hid (fun w' h => written_any w' h hI.ok)
                  have HBs : Hid (∀ w', QAt (Fo W oa') w' g q' → Calls Try.prog 14 #[.pointer (some ⟨g, 0, none⟩)] w' (IntOf w' (q'.base : Int))) := Lib.hid (fun w' h => base_any w' h)
                  have HRm : Hid (∀ w', QAt (Fo W oa') w' g q' → Calls Try.prog 11 #[.pointer (some ⟨g, 0, none⟩)] w' (IntOf w' ((q'.room : Int) - q'.data.length))) := Lib.hid (fun w' h => room_any w' h hI.ok)
                  have e1 : ¬ (q'.base : Int) + (q'.data.length : Int) < (q'.sent : Int) := by omega
                  have e2 : ¬ (q'.sent : Int) < (q'.base : Int) := by omega
                  have e3 : ¬ (q'.room : Int) - (q'.data.length : Int) < 0 := by omega
                  have e4 : ¬ (rm : Int) < (q'.room : Int) - (q'.data.length : Int) := by omega
                  have HI := Lib.hid hI
                  clear k1 k2 k3 k4 k5 hI
                  go_wp2_with fail
                  refine (HS.out w9 hQ).mono ?_
                  rintro e w10 ⟨rfl, hb10⟩
                  have hQ := hQ.below hb10
                  have hO := own_below hO hb10
                  have hB9 := hB9.trans (hb10.mono hB9.size)
                  clear hb10
                  go_wp2_with fail
                  refine (HW.out w10 hQ).mono ?_
                  rintro e w11 ⟨rfl, hb10⟩
                  have hQ := hQ.below hb10
                  have hO := own_below hO hb10
                  have hB9 := hB9.trans (hb10.mono hB9.size)
                  clear hb10
                  go_wp2_with fail
                  refine (HBs.out w11 hQ).mono ?_
                  rintro e w12 ⟨rfl, hb10⟩
                  have hQ := hQ.below hb10
                  have hO := own_below hO hb10
                  have hB9 := hB9.trans (hb10.mono hB9.size)
                  clear hb10
                  go_wp2_with fail
                  refine (HS.out w12 hQ).mono ?_
                  rintro e w13 ⟨rfl, hb10⟩
                  have hQ := hQ.below hb10
                  have hO := own_below hO hb10
                  have hB9 := hB9.trans (hb10.mono hB9.size)
                  clear hb10
                  go_wp2_with fail
                  refine (HRm.out w13 hQ).mono ?_
                  rintro e w14 ⟨rfl, hb10⟩
                  have hQ := hQ.below hb10
                  have hO := own_below hO hb10
                  have hB9 := hB9.trans (hb10.mono hB9.size)
                  clear hb10
                  go_wp2_with fail
                  refine (HRm.out w14 hQ).mono ?_
                  rintro e w15 ⟨rfl, hb10⟩
                  have hQ := hQ.below hb10
                  have hO := own_below hO hb10
                  have hB9 := hB9.trans (hb10.mono hB9.size)
                  clear hb10
                  go_wp2
                  go_roundw
                  case rel => exact ⟨k + 1, oa', oc', out', q', by push_cast; rfl, by omega, by rw [HLO.out], hO, hQ, HI.out, hB9, hoa⟩
                  case measure => simp [intOf]; omega
        · have j1 : (kind == 1) = false := by rw [beq_eq_false_iff_ne]; exact k1
          have j2 : (kind == 2) = false := by rw [beq_eq_false_iff_ne]; exact k2
          have j3 : (kind == 3) = false := by rw [beq_eq_false_iff_ne]; exact k3
          have j5 : (kind == 5) = false := by rw [beq_eq_false_iff_ne]; exact k5
          clear k1 k2 k3 k5
          as_aux_lemma =>
            have hQ := hQ1.more (G := Fo W oa) (fun j h _ => h.1)
            have hO := hO1
            have hB9 := hB1w
            obtain ⟨q', rfl⟩ : ∃ q', q' = q := ⟨_, rfl⟩
            obtain ⟨oa', rfl⟩ : ∃ oa', oa' = oa := ⟨_, rfl⟩
            obtain ⟨oc', rfl⟩ : ∃ oc', oc' = oc := ⟨_, rfl⟩
            obtain ⟨out', rfl⟩ : ∃ out', out' = out := ⟨_, rfl⟩
            obtain ⟨w9, hw9⟩ : ∃ w9, w9 = w1 := ⟨_, rfl⟩
            rw [← hw9] at hQ hO hB9

            have k1 := hI.ok.sent
            have k2 := hI.ok.base
            have k3 := hI.ok.fit
            have k4 := hI.room
            have k5 := hI.ok.room2
            have HS : Hid (∀ w', QAt (Fo W oa') w' g q' → Calls Try.prog 13 #[.pointer (some ⟨g, 0, none⟩)] w' (IntOf w' (q'.sent : Int))) := Lib.hid (fun w' h => sent_any w' h)
            have HW : Hid (∀ w', QAt (Fo W oa') w' g q' → Calls Try.prog 12 #[.pointer (some ⟨g, 0, none⟩)] w' (IntOf w' ((q'.base : Int) + q'.data.length))) := Lib.hid (fun w' h => written_any w' h hI.ok)
            have HBs : Hid (∀ w', QAt (Fo W oa') w' g q' → Calls Try.prog 14 #[.pointer (some ⟨g, 0, none⟩)] w' (IntOf w' (q'.base : Int))) := Lib.hid (fun w' h => base_any w' h)
            have HRm : Hid (∀ w', QAt (Fo W oa') w' g q' → Calls Try.prog 11 #[.pointer (some ⟨g, 0, none⟩)] w' (IntOf w' ((q'.room : Int) - q'.data.length))) := Lib.hid (fun w' h => room_any w' h hI.ok)
            have e1 : ¬ (q'.base : Int) + (q'.data.length : Int) < (q'.sent : Int) := by omega
            have e2 : ¬ (q'.sent : Int) < (q'.base : Int) := by omega
            have e3 : ¬ (q'.room : Int) - (q'.data.length : Int) < 0 := by omega
            have e4 : ¬ (rm : Int) < (q'.room : Int) - (q'.data.length : Int) := by omega
            have HI := Lib.hid hI
            clear k1 k2 k3 k4 k5 hI
            go_wp2_with fail
            rw [← hw1, ← hw9]
            clear hw1 hw9 c0 c1 c2 c3 c4 hT t1 t2 t3 t4 hQ1 hO1 hB1w sD1 hal
            refine (HS.out w9 hQ).mono ?_
            rintro e w10 ⟨rfl, hb10⟩
            have hQ := hQ.below hb10
            have hO := own_below hO hb10
            have hB9 := hB9.trans (hb10.mono hB9.size)
            clear hb10
            go_wp2_with fail
            refine (HW.out w10 hQ).mono ?_
            rintro e w11 ⟨rfl, hb10⟩
            have hQ := hQ.below hb10
            have hO := own_below hO hb10
            have hB9 := hB9.trans (hb10.mono hB9.size)
            clear hb10
            go_wp2_with fail
            refine (HBs.out w11 hQ).mono ?_
            rintro e w12 ⟨rfl, hb10⟩
            have hQ := hQ.below hb10
            have hO := own_below hO hb10
            have hB9 := hB9.trans (hb10.mono hB9.size)
            clear hb10
            go_wp2_with fail
            refine (HS.out w12 hQ).mono ?_
            rintro e w13 ⟨rfl, hb10⟩
            have hQ := hQ.below hb10
            have hO := own_below hO hb10
            have hB9 := hB9.trans (hb10.mono hB9.size)
            clear hb10
            go_wp2_with fail
            refine (HRm.out w13 hQ).mono ?_
            rintro e w14 ⟨rfl, hb10⟩
            have hQ := hQ.below hb10
            have hO := own_below hO hb10
            have hB9 := hB9.trans (hb10.mono hB9.size)
            clear hb10
            go_wp2_with fail
            refine (HRm.out w14 hQ).mono ?_
            rintro e w15 ⟨rfl, hb10⟩
            have hQ := hQ.below hb10
            have hO := own_below hO hb10
            have hB9 := hB9.trans (hb10.mono hB9.size)
            clear hb10
            go_wp2
            go_roundw
            case rel => exact ⟨k + 1, oa', oc', out', q', by push_cast; rfl, by omega, rfl, hO, hQ, HI.out, hB9, hoa⟩
            case measure => simp [intOf]; omega
      · obtain rfl : k = n := by omega
        go_wp2_with fail
        refine (HA.out wr).mono ?_
        rintro e w2 ⟨rfl, hb2⟩
        go_wp2
        go_ret
        exact ⟨rfl, hB.trans (hb2.mono hB.size)⟩
end Go.Proofs.Ytkjclgpecppokaa

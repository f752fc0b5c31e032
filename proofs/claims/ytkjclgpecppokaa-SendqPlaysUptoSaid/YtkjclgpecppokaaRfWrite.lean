/- The document's queue: contracts of Finish and Write. -/
import Derived.Test.YtkjclgpecppokaaRfRead
import Derived.Test.YtkjclgpecppokaaSqWrite
namespace Go.Proofs.Ytkjclgpecppokaa
open Go.RowKit

theorem rfinish_any (w : World) {F : Nat → Prop} {g : Nat} {q : Qu} (h : RAt F w g q) :
    Calls Try.prog 33 #[.pointer (some ⟨g, 0, none⟩)] w fun e w' => e = .returned (.int .i64 q.werr) ∧ Kept F w w' ∧ RAt F w' g q.finish := by
  have hQ := h
  obtain ⟨da, dc, sa, sc, hb, F1, F2, F3⟩ := h
  have c5 := hb.has.cell 4 rfl
  have c5f := hb.has.free 4
  by_cases hf : q.fin = true
  · have HE : Hid (q.werr = 40) := Lib.hid (by unfold Qu.werr; rw [if_pos hf])
    have HQ : Hid (q.finish = q) := Lib.hid (by unfold Qu.finish; rw [← hf])
    rw [hf] at c5
    clear hf
    go_enter Try.func33, Try.ntmps33
    go_wp2
    go_ret
    exact ⟨by rw [HE.out]; rfl, Kept.refl _ _, by rw [HQ.out]; exact hQ⟩
  · have HE : Hid (q.werr = 0) := Lib.hid (by unfold Qu.werr; rw [if_neg hf])
    have hf' : q.fin = false := by simpa using hf
    rw [hf'] at c5
    clear hf hf'
    go_enter Try.func33, Try.ntmps33
    go_wp2
    go_ret
    have k := Kept.set w g 4 (.bool true)
    refine ⟨by rw [HE.out]; rfl, k.more (fun j _ e => by rw [e]; exact F1), da, dc, sa, sc, ⟨hb.has.set 4 _, own_kept' hb.d k (fun ad ha e => hb.dg ad ha e), own_kept' hb.s k (fun ad ha e => hb.sg ad ha e), hb.dg, hb.sg, hb.ds⟩, F1, F2, F3⟩

theorem sl_one (w : World) (t : TypeId) (v : Value) : Sl (w.alloc (.cells #[v] t)) (some ⟨w.heap.size, 0, none⟩) 1 1 [v] := ⟨rfl, Nat.le_refl _, by decide, by simp, fun _ => ⟨_, 0, rfl, fun i hi => by
  have : i = 0 := by omega
  subst this
  simp⟩⟩
/-- k of the bytes are in -/
def Qu.plus (r : Qu) (l : List UInt8) (k : Nat) : Qu := { r with data := r.data ++ l.take k, st := r.st ++ List.replicate k 0 }

set_option maxRecDepth 100000 in
set_option maxHeartbeats 2000000 in
theorem rwrite_any (w : World) {F : Nat → Prop} {g : Nat} {r : Qu} (h : RAt F w g r) (hq : r.ROk) {a : Option Addr} {n c : Nat} {l : List UInt8} (hs : Sl w a n c (bv l)) (hn : n ≤ 1048576) (hx : 0 < n → ∀ ad, a = some ad → ¬ F ad.block) :
    Calls Try.prog 32 #[.pointer (some ⟨g, 0, none⟩), .slice a n c] w fun e w' => e = .returned (.tuple #[.int .i64 (r.rtook l : Int), .int .i64 r.werr]) ∧ Kept F w w' ∧ RAt (Fat F w w') w' g (r.rwrite l) := by
  have hR := h
  have hl := hs.byte
  obtain ⟨da, dc, sa, sc, hb, F1, F2, F3⟩ := h
  have c4 := hb.has.cell 4 rfl
  by_cases hf : r.fin = true
  · rw [hf] at c4
    have HT : Hid (r.rtook l = 0) := Lib.hid (by unfold Qu.rtook; rw [if_pos hf])
    have HE : Hid (r.werr = 40) := Lib.hid (by unfold Qu.werr; rw [if_pos hf])
    clear hf hR hq hl hs
    go_enter Try.func32, Try.ntmps32
    go_wp2
    go_ret2
    refine ⟨by rw [HT.out, HE.out]; rfl, Kept.refl _ _, ?_⟩
    have : r.rwrite l = r := by unfold Qu.rwrite; rw [HT.out]; simp
    rw [this]
    exact ⟨da, dc, sa, sc, hb, .inl F1, fun ad h => .inl (F2 ad h), fun ad h => .inl (F3 ad h)⟩
  · have hf' : r.fin = false := by simpa using hf
    rw [hf'] at c4
    have HT : Hid (r.rtook l = min l.length (r.room + r.lead - r.data.length)) := Lib.hid (by unfold Qu.rtook; rw [if_neg hf])
    have HE : Hid (r.werr = 0) := Lib.hid (by unfold Qu.werr; rw [if_neg hf])
    have HL := Lib.hid hl
    have hfit := hq.fit
    have hroom := hq.room2
    have hmost := hq.most
    have HLn := Lib.hid hq.len
    obtain ⟨left, hleft⟩ : ∃ z : Nat, z = r.room + r.lead - r.data.length := ⟨_, rfl⟩
    have hLI : (r.room : Int) - ((r.data.length : Int) - (r.lead : Int)) = (left : Int) := by omega
    have HLf : Hid (∀ w', Below w.heap.size w w' → Calls Try.prog 37 #[.pointer (some ⟨g, 0, none⟩)] w' (IntOf w' (left : Int))) := Lib.hid (fun w' hb' => by
      have := rleft_any w' (hR.below hb') hq
      rwa [hLI] at this)
    have HM : Hid (r.rtook l = min n left) := Lib.hid (by rw [HT.out, hl, hleft])
    have HS := Lib.hid hs
    have HB := Lib.hid hb
    clear hf hf' hR hl hq hleft hLI hs hb
    have fin : ∀ (m : Nat), m = min n left → ∀ (w' : World) (da' : Option Addr) (dc' : Nat) (sa' : Option Addr) (sc' : Nat), RB w' g (r.plus l m) da' dc' sa' sc' → Kept F w w' → (∀ ad, da' = some ad → Fat F w w' ad.block) → (∀ ad, sa' = some ad → Fat F w w' ad.block) →
        (Ending.returned (.tuple #[.int .i64 (m : Int), .int .i64 0]) = Ending.returned (.tuple #[.int .i64 (r.rtook l : Int), .int .i64 r.werr]) ∧ Kept F w w' ∧ RAt (Fat F w w') w' g (r.rwrite l)) := by
      intro m hm w' da' dc' sa' sc' h1 h2 h3 h4
      refine ⟨by rw [HM.out, HE.out, hm], h2, da', dc', sa', sc', ?_, .inl F1, h3, h4⟩
      have : r.rwrite l = r.plus l m := by unfold Qu.rwrite Qu.plus; rw [HM.out, hm]
      rw [this]
      exact h1
    have HFin := Lib.hid fin
    clear fin
    by_cases hmn : left < n
    · have hmn' : (left : Int) < (n : Int) := by omega
      have HMM : Hid (left = min n left) := Lib.hid (by omega)
      go_enter Try.func32, Try.ntmps32
      go_wp2_with fail
      refine (HLf.out w (Below.refl _ _)).mono ?_
      rintro e w1 ⟨rfl, hb1⟩
      go_wp2_with fail
      refine (HLf.out w1 hb1).mono ?_
      rintro e w2 ⟨rfl, hb2⟩
      have hb2 := hb1.trans (hb2.mono hb1.size)
      obtain ⟨m, rfl⟩ : ∃ m, m = left := ⟨_, rfl⟩
      have hmn : m ≤ n := by omega
      go_wp2_with fail
      go_loopw [7] (fun v wr => ∃ (k : Nat) (da' : Option Addr) (dc' : Nat) (sa' : Option Addr) (sc' : Nat), v = .int .i64 (k : Int) ∧ k ≤ m ∧ RB wr g (r.plus l k) da' dc' sa' sc' ∧ Kept F w wr ∧ (∀ ad, da' = some ad → Fat F w wr ad.block) ∧ (∀ ad, sa' = some ad → Fat F w wr ad.block)) (fun v _ => m - (intOf v).toNat)
      case atStart =>
        refine ⟨0, da, dc, sa, sc, rfl, Nat.zero_le _, ?_, Kept.of_below hb2, fun ad h => .inl (F2 ad h), fun ad h => .inl (F3 ad h)⟩
        have : r.plus l 0 = r := by unfold Qu.plus; simp
        rw [this]
        exact HB.out.below hb2
      case round =>
        obtain ⟨k, da', dc', sa', sc', rfl, hk, hR, hK, G2, G3⟩ := hrel
        by_cases hkm : k < m
        · have hkm' : (k : Int) < (m : Int) := by omega
          have g2 : IntKind.i64.wrap ((k : Int) + 1) = (k : Int) + 1 := by rw [IntKind.wrap_i64]; omega
          obtain ⟨ab, ao, rfl, hc⟩ := HS.out.cells (by omega)
          have hck0 := hc k (by omega)
          have hkl : k < l.length := by rw [HL.out]; omega
          rw [bv_get _ _ hkl] at hck0
          have hck : wr.cell? ⟨ab, ao + k, none⟩ = some (.int .u8 (l[k].toNat : Int)) := hK.cell hck0 (show ¬ F ab from hx (by omega) _ rfl)
          have hkn : (k : Int) < (n : Int) := by omega
          have hcn : (n : Int) ≤ (c : Int) := by have := HS.out.cap_le; omega
          have hab := World.block_lt_of_cell? _ _ hck
          have hab0 := World.block_lt_of_cell? _ _ hck0
          have d2 := hR.has.cell 2 rfl
          have hgz := hR.has.lt
          have hdl : (r.plus l k).data.length ≤ 8796094070784 := by unfold Qu.plus; simp; omega
          have hsl : (r.plus l k).st.length ≤ 8796094070784 := by unfold Qu.plus; simp; have := HLn.out; omega
          clear hc hck0
          have HLX : Hid ((r.plus l k).data ++ [l[k]] = (r.plus l (k + 1)).data) := Lib.hid (by unfold Qu.plus; simp only [List.append_assoc]; rw [take_snoc l k hkl])
          have HLY : Hid ((r.plus l k).st ++ [0] = (r.plus l (k + 1)).st) := Lib.hid (by unfold Qu.plus; simp only [List.append_assoc]; rw [List.replicate_succ'])
          obtain ⟨x, hxe⟩ : ∃ x, x = l[k] := ⟨_, rfl⟩
          rw [← hxe] at hck HLX
          clear hxe
          obtain ⟨rk, hrk⟩ : ∃ rk, rk = r.plus l k := ⟨_, rfl⟩
          rw [← hrk] at hR d2 hdl hsl HLX HLY
          have HRK := Lib.hid hrk
          clear hrk
          -- the byte's row
          have kd := Kept.drew none' wr
          have hal : Below wr.drew.heap.size wr.drew (wr.drew.alloc (.cells #[.int .u8 (x.toNat : Int)] 5)) := (Below.refl _ _).alloc (Nat.le_refl _) _
          have R1 := (hR.kept kd (fun h => h) (fun _ _ h => h) (fun _ _ h => h)).below hal
          have hs1 : Sl (wr.drew.alloc (.cells #[.int .u8 (x.toNat : Int)] 5)) (some ⟨wr.heap.size, 0, none⟩) 1 1 (bv [x]) := sl_one wr.drew _ (.int .u8 (x.toNat : Int))
          obtain ⟨a4, c4', w4, hr4, ho4, hg4, hno4⟩ := run_app_own (tyo := 27) tyU8 (B := 0) R1.d hs1 (bv_one _) (by omega) (by unfold maxLen; omega) (Nat.zero_le _)
          have k4 := Kept.of_grown hg4
          have hwz : (wr.drew.alloc (.cells #[.int .u8 (x.toNat : Int)] 5)).heap.size = wr.heap.size + 1 := by simp
          have R4h := R1.has.kept k4 (fun e => blk_ne R1.dg e)
          have d4 := R4h.cell 2 rfl
          have f4 := R4h.free 2
          have s4 := own_kept' R1.s k4 (fun ad ha e => by
            cases hda : da' with
            | none => rw [hda] at e; cases e
            | some y => rw [hda] at e; exact R1.ds y ad hda ha (by simpa [Value.ownBlock] using e))
          have hck1 : (wr.drew.alloc (.cells #[.int .u8 (x.toNat : Int)] 5)).cell? ⟨ab, ao + k, none⟩ = some (.int .u8 (x.toNat : Int)) := by rw [hal.cell hab]; exact kd.cell hck (fun h => h)
          have d1 := R1.has.cell 2 rfl
          have hda0 : ∀ y, da' = some y → y.block ≠ ab := fun y hy e => by
            rcases G2 y hy with h | h
            · exact hx (by omega) _ rfl (by rw [← e]; exact h)
            · rw [e] at h; have : ab < w.heap.size := hab0; omega
          have hck4 : w4.cell? ⟨ab, ao + k, none⟩ = some (.int .u8 (x.toNat : Int)) := k4.cell hck1 (fun e => by
            cases hda : da' with
            | none => rw [hda] at e; cases e
            | some y => rw [hda] at e; exact hda0 y hda (by simpa [Value.ownBlock] using e))
          have a4g : ∀ ad, a4 = some ad → ad.block ≠ g := fun ad ha => by
            rcases newOr_at hno4 ha with ⟨y, hy, e⟩ | e
            · rw [← e]; exact R1.dg y hy
            · have := R1.has.lt; omega
          have a4s : ∀ ad ad', a4 = some ad → sa' = some ad' → ad.block ≠ ad'.block := fun ad ad' ha ha' => by
            rcases newOr_at hno4 ha with ⟨y, hy, e⟩ | e
            · rw [← e]; exact R1.ds y ad' hy ha'
            · have := own_at R1.s ha'; omega
          -- behind the store
          have k5 := Kept.set w4 g 2 (.slice a4 (rk.data.length + 1) c4')
          have R5h := R4h.set 2 (.slice a4 (rk.data.length + 1) c4')
          have D5 := own_kept' ho4 k5 (fun ad ha e => a4g ad ha e)
          have S5 := own_kept' s4 k5 (fun ad ha e => R1.sg ad ha e)
          have z4 := k4.size
          have z5 := k5.size
          have d53 := R5h.cell 3 rfl
          have HK5 : Hid (Kept F w (w4.setCell ⟨g, 2, none⟩ (.slice a4 (rk.data.length + 1) c4'))) := Lib.hid (by
            have K1 := (hK.trans kd (fun _ _ h => h.elim)).trans (Kept.of_below (X := none') hal) (fun _ _ h => h.elim)
            have K2 := K1.trans k4 (fun j hj e => by
              cases hda : da' with
              | none => rw [hda] at e; cases e
              | some y =>
                rw [hda] at e
                simp only [Value.ownBlock, Option.some.injEq] at e
                rcases G2 y hda with h | h
                · rw [← e]; exact h
                · omega)
            exact K2.trans k5 (fun j _ e => by rw [e]; exact F1))
          have R1sg := R1.sg
          have R1z := R1.has.lt
          clear R4h R1 hs1 ho4 s4
          have hal5 : Below (w4.setCell ⟨g, 2, none⟩ (.slice a4 (rk.data.length + 1) c4')).heap.size (w4.setCell ⟨g, 2, none⟩ (.slice a4 (rk.data.length + 1) c4')) ((w4.setCell ⟨g, 2, none⟩ (.slice a4 (rk.data.length + 1) c4')).alloc (.cells #[.int .i64 0] 3)) := (Below.refl _ _).alloc (Nat.le_refl _) _
          have hs6 := sl_one (w4.setCell ⟨g, 2, none⟩ (.slice a4 (rk.data.length + 1) c4')) 3 (.int .i64 0)
          have sz5 : (w4.setCell ⟨g, 2, none⟩ (.slice a4 (rk.data.length + 1) c4')).heap.size = w4.heap.size := by simp [World.setCell]
          rw [sz5] at hs6
          have S6 := own_below S5 hal5
          have D6 := own_below D5 hal5
          have R6h := R5h.kept (Kept.of_below (X := none') hal5) (fun h => h)
          obtain ⟨a7, c7', w7, hr7, ho7, hg7, hno7⟩ := run_app_own (tyo := 42) tyInt (B := 0) S6 hs6 (nv_one [0]) (by omega) (by unfold maxLen; omega) (Nat.zero_le _)
          have k7 := Kept.of_grown hg7
          have R7h := R6h.kept k7 (fun e => blk_ne R1sg e)
          have D7 := own_kept' D6 k7 (fun ad ha e => by
            cases hsa : sa' with
            | none => rw [hsa] at e; cases e
            | some y => rw [hsa] at e; exact a4s ad y ha hsa (by simpa [Value.ownBlock] using e.symm))
          have d7 := R7h.cell 3 rfl
          have f7 := R7h.free 3
          have z7 := k7.size
          have k8 := Kept.set w7 g 3 (.slice a7 (rk.st.length + 1) c7')
          have R8h := R7h.set 3 (.slice a7 (rk.st.length + 1) c7')
          have a7g : ∀ ad, a7 = some ad → ad.block ≠ g := fun ad ha => by
            rcases newOr_at hno7 ha with ⟨y, hy, e⟩ | e
            · rw [← e]; exact R1sg y hy
            · have := hal5.size; omega
          have a47 : ∀ ad ad', a4 = some ad → a7 = some ad' → ad.block ≠ ad'.block := fun ad ad' ha ha' => by
            rcases newOr_at hno7 ha' with ⟨y, hy, e⟩ | e
            · rw [← e]; exact a4s ad y ha hy
            · have := own_at D6 ha; omega
          have D8 := own_kept' D7 k8 (fun ad ha e => a4g ad ha e)
          have S8 := own_kept' ho7 k8 (fun ad ha e => a7g ad ha e)
          have z8 := k8.size
          have z65 := hal5.size
          have HK8 : Hid (Kept F w (w7.setCell ⟨g, 3, none⟩ (.slice a7 (rk.st.length + 1) c7'))) := Lib.hid (by
            have K6 := HK5.out.trans (Kept.of_below (X := none') hal5) (fun _ _ h => h.elim)
            have K7 := K6.trans k7 (fun j hj e => by
              cases hsa : sa' with
              | none => rw [hsa] at e; cases e
              | some y =>
                rw [hsa] at e
                simp only [Value.ownBlock, Option.some.injEq] at e
                rcases G3 y hsa with h | h
                · rw [← e]; exact h
                · omega)
            exact K7.trans k8 (fun j _ e => by rw [e]; exact F1))
          have HR8 : Hid (RB (w7.setCell ⟨g, 3, none⟩ (.slice a7 (rk.st.length + 1) c7')) g (r.plus l (k + 1)) a4 c4' a7 c7' ∧
              (∀ ad, a4 = some ad → Fat F w (w7.setCell ⟨g, 3, none⟩ (.slice a7 (rk.st.length + 1) c7')) ad.block) ∧ (∀ ad, a7 = some ad → Fat F w (w7.setCell ⟨g, 3, none⟩ (.slice a7 (rk.st.length + 1) c7')) ad.block)) := Lib.hid (by
            have lD : (r.plus l (k + 1)).data.length = rk.data.length + 1 := by rw [← HLX.out]; simp
            have lS : (r.plus l (k + 1)).st.length = rk.st.length + 1 := by rw [← HLY.out]; simp
            refine ⟨⟨?_, ?_, ?_, a4g, a7g, a47⟩, fun ad ha => ?_, fun ad ha => ?_⟩
            · have e : rcells (r.plus l (k + 1)) a4 c4' a7 c7' = ((rcells rk da' dc' sa' sc').set 2 (.slice a4 (rk.data.length + 1) c4')).set 3 (.slice a7 (rk.st.length + 1) c7') := by
                unfold rcells
                rw [lD, lS, HRK.out]
                rfl
              rw [e]
              exact R8h
            · rw [lD, ← HLX.out, bv_append]
              exact D8
            · rw [lS, ← HLY.out, nv_append]
              exact S8
            · rcases newOr_at hno4 ha with ⟨y, hy, e⟩ | e
              · rcases G2 y hy with h | h
                · rw [← e]; exact .inl h
                · rw [← e]; exact .inr ⟨h.1, by have := h.2; omega⟩
              · exact .inr ⟨by have := hK.size; omega, own_at D8 ha⟩
            · rcases newOr_at hno7 ha with ⟨y, hy, e⟩ | e
              · rcases G3 y hy with h | h
                · rw [← e]; exact .inl h
                · rw [← e]; exact .inr ⟨h.1, by have := h.2; omega⟩
              · exact .inr ⟨by have := hK.size; omega, own_at S8 ha⟩)
          clear R5h D5 S5 hs6 S6 D6 R6h ho7 R7h D7 R8h D8 S8 HK5 hR hK G2 G3 HLX HLY
          go_wp2_with fail
          refine Mx.regionZ [] (fun w' => w'.cell? ⟨g, 2, none⟩ = some (.slice da' rk.data.length dc') ∧ w'.cell? ⟨ab, ao + k, none⟩ = some (.int .u8 (x.toNat : Int))) (by kernel_rfl) (by kernel_rfl) ⟨d2, hck⟩ ?_
          repeat ((first | (refine Mx.skips (by kernel_rfl) ?_; go_big_quiet_skip) | (refine Mx.quietly rfl ?_; go_big_quiet_want; go_big_quiet_op; go_big_quiet_on)); refine Mx.done ?_)
          refine Mx.cell ⟨g, 2, none⟩ (.slice da' rk.data.length dc') (by kernel_rfl) (by kernel_rfl) (by kernel_rfl) Try.isAgg27 (fun w' h => h.1) ?_
          go_big_quiet_want; go_big_quiet_op; go_big_quiet_on; refine Mx.done ?_
          repeat ((first | (refine Mx.skips (by kernel_rfl) ?_; go_big_quiet_skip) | (refine Mx.quietly rfl ?_; go_big_quiet_want; go_big_quiet_op; go_big_quiet_on)); refine Mx.done ?_)
          refine Mx.cell ⟨ab, ao + k, none⟩ (.int .u8 (x.toNat : Int)) (by kernel_rfl) (by kernel_rfl) (by kernel_rfl) Try.isAgg5 (fun w' h => h.2) ?_
          go_big_quiet_want; go_big_quiet_op; go_big_quiet_on; refine Mx.done ?_
          repeat ((first | (refine Mx.skips (by kernel_rfl) ?_; go_big_quiet_skip) | (refine Mx.quietly rfl ?_; go_big_quiet_want; go_big_quiet_op; go_big_quiet_on)); refine Mx.done ?_)
          refine Mx.loudly (by kernel_rfl) (by kernel_rfl) ?_
          go_wp2_with fail
          repeat ((first | (refine Mx.skips (by kernel_rfl) ?_; go_big_quiet_skip) | (refine Mx.quietly rfl ?_; go_big_quiet_want; go_big_quiet_op; go_big_quiet_on)); refine Mx.done ?_)
          refine Mx.loudly (by kernel_rfl) (by kernel_rfl) ?_
          go_wp2_with (at_builtin; refine Lib.wpList_append_run _ rfl _ _ _ _ rfl (.slice da' rk.data.length dc') (.slice (some ⟨wr.heap.size, 0, none⟩) 1 1) rfl rfl _ _ hr4 ?_)
          repeat ((first | (refine Mx.skips (by kernel_rfl) ?_; go_big_quiet_skip) | (refine Mx.quietly rfl ?_; go_big_quiet_want; go_big_quiet_op; go_big_quiet_on)); refine Mx.done ?_)
          refine Mx.atLast (by kernel_rfl) (by kernel_rfl) ?_
          have d3 := d53
          go_wp2_with (at_builtin; refine Lib.wpList_append_run _ rfl _ _ _ _ rfl (.slice sa' rk.st.length sc') (.slice (some ⟨w4.heap.size, 0, none⟩) 1 1) rfl rfl _ _ hr7 ?_)
          go_roundw
          case rel => exact ⟨k + 1, a4, c4', a7, c7', by push_cast; rfl, by omega, HR8.out.1, HK8.out, HR8.out.2.1, HR8.out.2.2⟩
          case measure => simp [intOf]; omega
        · obtain rfl : k = m := by omega
          clear HS HB hx
          go_wp2
          go_ret2
          exact HFin.out k HMM.out _ _ _ _ _ hR hK G2 G3
    · have hmn' : ¬ (left : Int) < (n : Int) := by omega
      have HMM : Hid (n = min n left) := Lib.hid (by omega)
      go_enter Try.func32, Try.ntmps32
      go_wp2_with fail
      refine (HLf.out w (Below.refl _ _)).mono ?_
      rintro e w2 ⟨rfl, hb2⟩
      obtain ⟨m, rfl⟩ : ∃ m, m = n := ⟨_, rfl⟩
      have hmn : m ≤ m := Nat.le_refl _
      go_wp2_with fail
      go_loopw [7] (fun v wr => ∃ (k : Nat) (da' : Option Addr) (dc' : Nat) (sa' : Option Addr) (sc' : Nat), v = .int .i64 (k : Int) ∧ k ≤ m ∧ RB wr g (r.plus l k) da' dc' sa' sc' ∧ Kept F w wr ∧ (∀ ad, da' = some ad → Fat F w wr ad.block) ∧ (∀ ad, sa' = some ad → Fat F w wr ad.block)) (fun v _ => m - (intOf v).toNat)
      case atStart =>
        refine ⟨0, da, dc, sa, sc, rfl, Nat.zero_le _, ?_, Kept.of_below hb2, fun ad h => .inl (F2 ad h), fun ad h => .inl (F3 ad h)⟩
        have : r.plus l 0 = r := by unfold Qu.plus; simp
        rw [this]
        exact HB.out.below hb2
      case round =>
        obtain ⟨k, da', dc', sa', sc', rfl, hk, hR, hK, G2, G3⟩ := hrel
        by_cases hkm : k < m
        · have hkm' : (k : Int) < (m : Int) := by omega
          have g2 : IntKind.i64.wrap ((k : Int) + 1) = (k : Int) + 1 := by rw [IntKind.wrap_i64]; omega
          obtain ⟨ab, ao, rfl, hc⟩ := HS.out.cells (by omega)
          have hck0 := hc k (by omega)
          have hkl : k < l.length := by rw [HL.out]; omega
          rw [bv_get _ _ hkl] at hck0
          have hck : wr.cell? ⟨ab, ao + k, none⟩ = some (.int .u8 (l[k].toNat : Int)) := hK.cell hck0 (show ¬ F ab from hx (by omega) _ rfl)
          have hkn : (k : Int) < (m : Int) := by omega
          have hcn : (m : Int) ≤ (c : Int) := by have := HS.out.cap_le; omega
          have hab := World.block_lt_of_cell? _ _ hck
          have hab0 := World.block_lt_of_cell? _ _ hck0
          have d2 := hR.has.cell 2 rfl
          have hgz := hR.has.lt
          have hdl : (r.plus l k).data.length ≤ 8796094070784 := by unfold Qu.plus; simp; omega
          have hsl : (r.plus l k).st.length ≤ 8796094070784 := by unfold Qu.plus; simp; have := HLn.out; omega
          clear hc hck0
          have HLX : Hid ((r.plus l k).data ++ [l[k]] = (r.plus l (k + 1)).data) := Lib.hid (by unfold Qu.plus; simp only [List.append_assoc]; rw [take_snoc l k hkl])
          have HLY : Hid ((r.plus l k).st ++ [0] = (r.plus l (k + 1)).st) := Lib.hid (by unfold Qu.plus; simp only [List.append_assoc]; rw [List.replicate_succ'])
          obtain ⟨x, hxe⟩ : ∃ x, x = l[k] := ⟨_, rfl⟩
          rw [← hxe] at hck HLX
          clear hxe
          obtain ⟨rk, hrk⟩ : ∃ rk, rk = r.plus l k := ⟨_, rfl⟩
          rw [← hrk] at hR d2 hdl hsl HLX HLY
          have HRK := Lib.hid hrk
          clear hrk
          -- the byte's row
          have kd := Kept.drew none' wr
          have hal : Below wr.drew.heap.size wr.drew (wr.drew.alloc (.cells #[.int .u8 (x.toNat : Int)] 5)) := (Below.refl _ _).alloc (Nat.le_refl _) _
          have R1 := (hR.kept kd (fun h => h) (fun _ _ h => h) (fun _ _ h => h)).below hal
          have hs1 : Sl (wr.drew.alloc (.cells #[.int .u8 (x.toNat : Int)] 5)) (some ⟨wr.heap.size, 0, none⟩) 1 1 (bv [x]) := sl_one wr.drew _ (.int .u8 (x.toNat : Int))
          obtain ⟨a4, c4', w4, hr4, ho4, hg4, hno4⟩ := run_app_own (tyo := 27) tyU8 (B := 0) R1.d hs1 (bv_one _) (by omega) (by unfold maxLen; omega) (Nat.zero_le _)
          have k4 := Kept.of_grown hg4
          have hwz : (wr.drew.alloc (.cells #[.int .u8 (x.toNat : Int)] 5)).heap.size = wr.heap.size + 1 := by simp
          have R4h := R1.has.kept k4 (fun e => blk_ne R1.dg e)
          have d4 := R4h.cell 2 rfl
          have f4 := R4h.free 2
          have s4 := own_kept' R1.s k4 (fun ad ha e => by
            cases hda : da' with
            | none => rw [hda] at e; cases e
            | some y => rw [hda] at e; exact R1.ds y ad hda ha (by simpa [Value.ownBlock] using e))
          have hck1 : (wr.drew.alloc (.cells #[.int .u8 (x.toNat : Int)] 5)).cell? ⟨ab, ao + k, none⟩ = some (.int .u8 (x.toNat : Int)) := by rw [hal.cell hab]; exact kd.cell hck (fun h => h)
          have d1 := R1.has.cell 2 rfl
          have hda0 : ∀ y, da' = some y → y.block ≠ ab := fun y hy e => by
            rcases G2 y hy with h | h
            · exact hx (by omega) _ rfl (by rw [← e]; exact h)
            · rw [e] at h; have : ab < w.heap.size := hab0; omega
          have hck4 : w4.cell? ⟨ab, ao + k, none⟩ = some (.int .u8 (x.toNat : Int)) := k4.cell hck1 (fun e => by
            cases hda : da' with
            | none => rw [hda] at e; cases e
            | some y => rw [hda] at e; exact hda0 y hda (by simpa [Value.ownBlock] using e))
          have a4g : ∀ ad, a4 = some ad → ad.block ≠ g := fun ad ha => by
            rcases newOr_at hno4 ha with ⟨y, hy, e⟩ | e
            · rw [← e]; exact R1.dg y hy
            · have := R1.has.lt; omega
          have a4s : ∀ ad ad', a4 = some ad → sa' = some ad' → ad.block ≠ ad'.block := fun ad ad' ha ha' => by
            rcases newOr_at hno4 ha with ⟨y, hy, e⟩ | e
            · rw [← e]; exact R1.ds y ad' hy ha'
            · have := own_at R1.s ha'; omega
          -- behind the store
          have k5 := Kept.set w4 g 2 (.slice a4 (rk.data.length + 1) c4')
          have R5h := R4h.set 2 (.slice a4 (rk.data.length + 1) c4')
          have D5 := own_kept' ho4 k5 (fun ad ha e => a4g ad ha e)
          have S5 := own_kept' s4 k5 (fun ad ha e => R1.sg ad ha e)
          have z4 := k4.size
          have z5 := k5.size
          have d53 := R5h.cell 3 rfl
          have HK5 : Hid (Kept F w (w4.setCell ⟨g, 2, none⟩ (.slice a4 (rk.data.length + 1) c4'))) := Lib.hid (by
            have K1 := (hK.trans kd (fun _ _ h => h.elim)).trans (Kept.of_below (X := none') hal) (fun _ _ h => h.elim)
            have K2 := K1.trans k4 (fun j hj e => by
              cases hda : da' with
              | none => rw [hda] at e; cases e
              | some y =>
                rw [hda] at e
                simp only [Value.ownBlock, Option.some.injEq] at e
                rcases G2 y hda with h | h
                · rw [← e]; exact h
                · omega)
            exact K2.trans k5 (fun j _ e => by rw [e]; exact F1))
          have R1sg := R1.sg
          have R1z := R1.has.lt
          clear R4h R1 hs1 ho4 s4
          have hal5 : Below (w4.setCell ⟨g, 2, none⟩ (.slice a4 (rk.data.length + 1) c4')).heap.size (w4.setCell ⟨g, 2, none⟩ (.slice a4 (rk.data.length + 1) c4')) ((w4.setCell ⟨g, 2, none⟩ (.slice a4 (rk.data.length + 1) c4')).alloc (.cells #[.int .i64 0] 3)) := (Below.refl _ _).alloc (Nat.le_refl _) _
          have hs6 := sl_one (w4.setCell ⟨g, 2, none⟩ (.slice a4 (rk.data.length + 1) c4')) 3 (.int .i64 0)
          have sz5 : (w4.setCell ⟨g, 2, none⟩ (.slice a4 (rk.data.length + 1) c4')).heap.size = w4.heap.size := by simp [World.setCell]
          rw [sz5] at hs6
          have S6 := own_below S5 hal5
          have D6 := own_below D5 hal5
          have R6h := R5h.kept (Kept.of_below (X := none') hal5) (fun h => h)
          obtain ⟨a7, c7', w7, hr7, ho7, hg7, hno7⟩ := run_app_own (tyo := 42) tyInt (B := 0) S6 hs6 (nv_one [0]) (by omega) (by unfold maxLen; omega) (Nat.zero_le _)
          have k7 := Kept.of_grown hg7
          have R7h := R6h.kept k7 (fun e => blk_ne R1sg e)
          have D7 := own_kept' D6 k7 (fun ad ha e => by
            cases hsa : sa' with
            | none => rw [hsa] at e; cases e
            | some y => rw [hsa] at e; exact a4s ad y ha hsa (by simpa [Value.ownBlock] using e.symm))
          have d7 := R7h.cell 3 rfl
          have f7 := R7h.free 3
          have z7 := k7.size
          have k8 := Kept.set w7 g 3 (.slice a7 (rk.st.length + 1) c7')
          have R8h := R7h.set 3 (.slice a7 (rk.st.length + 1) c7')
          have a7g : ∀ ad, a7 = some ad → ad.block ≠ g := fun ad ha => by
            rcases newOr_at hno7 ha with ⟨y, hy, e⟩ | e
            · rw [← e]; exact R1sg y hy
            · have := hal5.size; omega
          have a47 : ∀ ad ad', a4 = some ad → a7 = some ad' → ad.block ≠ ad'.block := fun ad ad' ha ha' => by
            rcases newOr_at hno7 ha' with ⟨y, hy, e⟩ | e
            · rw [← e]; exact a4s ad y ha hy
            · have := own_at D6 ha; omega
          have D8 := own_kept' D7 k8 (fun ad ha e => a4g ad ha e)
          have S8 := own_kept' ho7 k8 (fun ad ha e => a7g ad ha e)
          have z8 := k8.size
          have z65 := hal5.size
          have HK8 : Hid (Kept F w (w7.setCell ⟨g, 3, none⟩ (.slice a7 (rk.st.length + 1) c7'))) := Lib.hid (by
            have K6 := HK5.out.trans (Kept.of_below (X := none') hal5) (fun _ _ h => h.elim)
            have K7 := K6.trans k7 (fun j hj e => by
              cases hsa : sa' with
              | none => rw [hsa] at e; cases e
              | some y =>
                rw [hsa] at e
                simp only [Value.ownBlock, Option.some.injEq] at e
                rcases G3 y hsa with h | h
                · rw [← e]; exact h
                · omega)
            exact K7.trans k8 (fun j _ e => by rw [e]; exact F1))
          have HR8 : Hid (RB (w7.setCell ⟨g, 3, none⟩ (.slice a7 (rk.st.length + 1) c7')) g (r.plus l (k + 1)) a4 c4' a7 c7' ∧
              (∀ ad, a4 = some ad → Fat F w (w7.setCell ⟨g, 3, none⟩ (.slice a7 (rk.st.length + 1) c7')) ad.block) ∧ (∀ ad, a7 = some ad → Fat F w (w7.setCell ⟨g, 3, none⟩ (.slice a7 (rk.st.length + 1) c7')) ad.block)) := Lib.hid (by
            have lD : (r.plus l (k + 1)).data.length = rk.data.length + 1 := by rw [← HLX.out]; simp
            have lS : (r.plus l (k + 1)).st.length = rk.st.length + 1 := by rw [← HLY.out]; simp
            refine ⟨⟨?_, ?_, ?_, a4g, a7g, a47⟩, fun ad ha => ?_, fun ad ha => ?_⟩
            · have e : rcells (r.plus l (k + 1)) a4 c4' a7 c7' = ((rcells rk da' dc' sa' sc').set 2 (.slice a4 (rk.data.length + 1) c4')).set 3 (.slice a7 (rk.st.length + 1) c7') := by
                unfold rcells
                rw [lD, lS, HRK.out]
                rfl
              rw [e]
              exact R8h
            · rw [lD, ← HLX.out, bv_append]
              exact D8
            · rw [lS, ← HLY.out, nv_append]
              exact S8
            · rcases newOr_at hno4 ha with ⟨y, hy, e⟩ | e
              · rcases G2 y hy with h | h
                · rw [← e]; exact .inl h
                · rw [← e]; exact .inr ⟨h.1, by have := h.2; omega⟩
              · exact .inr ⟨by have := hK.size; omega, own_at D8 ha⟩
            · rcases newOr_at hno7 ha with ⟨y, hy, e⟩ | e
              · rcases G3 y hy with h | h
                · rw [← e]; exact .inl h
                · rw [← e]; exact .inr ⟨h.1, by have := h.2; omega⟩
              · exact .inr ⟨by have := hK.size; omega, own_at S8 ha⟩)
          clear R5h D5 S5 hs6 S6 D6 R6h ho7 R7h D7 R8h D8 S8 HK5 hR hK G2 G3 HLX HLY
          go_wp2_with fail
          refine Mx.regionZ [] (fun w' => w'.cell? ⟨g, 2, none⟩ = some (.slice da' rk.data.length dc') ∧ w'.cell? ⟨ab, ao + k, none⟩ = some (.int .u8 (x.toNat : Int))) (by kernel_rfl) (by kernel_rfl) ⟨d2, hck⟩ ?_
          repeat ((first | (refine Mx.skips (by kernel_rfl) ?_; go_big_quiet_skip) | (refine Mx.quietly rfl ?_; go_big_quiet_want; go_big_quiet_op; go_big_quiet_on)); refine Mx.done ?_)
          refine Mx.cell ⟨g, 2, none⟩ (.slice da' rk.data.length dc') (by kernel_rfl) (by kernel_rfl) (by kernel_rfl) Try.isAgg27 (fun w' h => h.1) ?_
          go_big_quiet_want; go_big_quiet_op; go_big_quiet_on; refine Mx.done ?_
          repeat ((first | (refine Mx.skips (by kernel_rfl) ?_; go_big_quiet_skip) | (refine Mx.quietly rfl ?_; go_big_quiet_want; go_big_quiet_op; go_big_quiet_on)); refine Mx.done ?_)
          refine Mx.cell ⟨ab, ao + k, none⟩ (.int .u8 (x.toNat : Int)) (by kernel_rfl) (by kernel_rfl) (by kernel_rfl) Try.isAgg5 (fun w' h => h.2) ?_
          go_big_quiet_want; go_big_quiet_op; go_big_quiet_on; refine Mx.done ?_
          repeat ((first | (refine Mx.skips (by kernel_rfl) ?_; go_big_quiet_skip) | (refine Mx.quietly rfl ?_; go_big_quiet_want; go_big_quiet_op; go_big_quiet_on)); refine Mx.done ?_)
          refine Mx.loudly (by kernel_rfl) (by kernel_rfl) ?_
          go_wp2_with fail
          repeat ((first | (refine Mx.skips (by kernel_rfl) ?_; go_big_quiet_skip) | (refine Mx.quietly rfl ?_; go_big_quiet_want; go_big_quiet_op; go_big_quiet_on)); refine Mx.done ?_)
          refine Mx.loudly (by kernel_rfl) (by kernel_rfl) ?_
          go_wp2_with (at_builtin; refine Lib.wpList_append_run _ rfl _ _ _ _ rfl (.slice da' rk.data.length dc') (.slice (some ⟨wr.heap.size, 0, none⟩) 1 1) rfl rfl _ _ hr4 ?_)
          repeat ((first | (refine Mx.skips (by kernel_rfl) ?_; go_big_quiet_skip) | (refine Mx.quietly rfl ?_; go_big_quiet_want; go_big_quiet_op; go_big_quiet_on)); refine Mx.done ?_)
          refine Mx.atLast (by kernel_rfl) (by kernel_rfl) ?_
          have d3 := d53
          go_wp2_with (at_builtin; refine Lib.wpList_append_run _ rfl _ _ _ _ rfl (.slice sa' rk.st.length sc') (.slice (some ⟨w4.heap.size, 0, none⟩) 1 1) rfl rfl _ _ hr7 ?_)
          go_roundw
          case rel => exact ⟨k + 1, a4, c4', a7, c7', by push_cast; rfl, by omega, HR8.out.1, HK8.out, HR8.out.2.1, HR8.out.2.2⟩
          case measure => simp [intOf]; omega
        · obtain rfl : k = m := by omega
          clear HS HB hx
          go_wp2
          go_ret2
          exact HFin.out k HMM.out _ _ _ _ _ hR hK G2 G3
end Go.Proofs.Ytkjclgpecppokaa

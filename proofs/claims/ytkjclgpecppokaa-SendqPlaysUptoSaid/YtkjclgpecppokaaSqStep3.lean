/- step of layer 4's law: Next. -/
import Derived.Test.YtkjclgpecppokaaSqStep
namespace Go.Proofs.Ytkjclgpecppokaa
open Go.RowKit

set_option maxRecDepth 100000 in
set_option maxHeartbeats 4000000 in
theorem step_next (w : World) {B : Nat} {Fq Fr : Nat → Prop} {g gr : Nat} {q : Qu} {pre : List UInt8} (T : TwinF B Fq Fr w g gr q pre) (hB : B ≤ w.heap.size) (hm : q.base + q.data.length ≤ 8796093022208) (A Bb : Int) (da : Option Addr) (dn dc : Nat) (fin : Bool) (hlim : Bb ≤ 9223372036854775807) :
    Calls Try.prog 22 #[.pointer (some ⟨g, 0, none⟩), .pointer (some ⟨gr, 0, none⟩), .agg #[.int .i64 3, .int .i64 A, .int .i64 Bb, .slice da dn dc, .bool fin]] w (Stepped B w g gr q dn) := by
  have hal : Below w.heap.size w (w.alloc (.cells #[.int .i64 3, .int .i64 A, .int .i64 Bb, .slice da dn dc, .bool fin] 35)) := (Below.refl _ _).alloc (Nat.le_refl _) _
  have hT := opHas w 3 A Bb da dn dc fin
  have T1 := T.below hal
  have t0 := hT.cell 0 rfl
  have hbq : ¬ Fq w.heap.size := fun h => by have := (T.qb _ h).2; omega
  have hbr : ¬ Fr w.heap.size := fun h => by have := (T.rb _ h).2; omega
  obtain ⟨out, hout⟩ : ∃ o : Out, o = q.out A Bb := ⟨_, rfl⟩
  obtain ⟨q', hq'⟩ : ∃ q', q' = q.next A Bb := ⟨_, rfl⟩
  have hI' := T.inv.next A Bb
  rw [← hq'] at hI'
  have hgrow : q'.base + q'.data.length ≤ q.base + q.data.length := by
    rw [hq']
    unfold Qu.next
    split <;> exact Nat.le_refl _
  have HA : Hid (∀ w', Below (w.alloc (.cells #[.int .i64 3, .int .i64 A, .int .i64 Bb, .slice da dn dc, .bool fin] 35)).heap.size (w.alloc (.cells #[.int .i64 3, .int .i64 A, .int .i64 Bb, .slice da dn dc, .bool fin] 35)) w' → Calls Try.prog 10 #[.pointer (some ⟨g, 0, none⟩), .int .i64 A, .int .i64 Bb] w' fun e w'' => ∃ a c, e = .returned (.tuple #[.int .i64 (out.at_ : Int), .slice a out.data.length c, .bool out.fin, .bool out.ok]) ∧
      w''.ownsRow w'.heap.size 5 1 (.slice a out.data.length c) out.data.length (bv out.data) ∧ Kept Fq w' w'' ∧ QAt Fq w'' g q') := Lib.hid (fun w' hb => by
    have := next_any w' (T1.atq.below hb) T.inv.ok A Bb hlim
    unfold Nexted at this
    rwa [← hout, ← hq'] at this)
  have HR : Hid (∀ w', RAt Fr w' gr (q.lift pre) → Calls Try.prog 34 #[.pointer (some ⟨gr, 0, none⟩), .int .i64 A, .int .i64 Bb] w' fun e w'' => ∃ a c, e = .returned (.tuple #[.int .i64 (out.at_ : Int), .slice a out.data.length c, .bool out.fin, .bool out.ok]) ∧
      w''.ownsRow w'.heap.size 5 1 (.slice a out.data.length c) out.data.length (bv out.data) ∧ Kept Fr w' w'' ∧ RAt Fr w'' gr (q'.lift pre)) := Lib.hid (fun w' hr => by
    have := rnext_lift w' T.inv hm hr A Bb
    unfold RNexted at this
    rwa [← hout, ← hq'] at this)
  have hol : out.data.length ≤ 8796093022208 := by
    rw [hout]
    have hp := q.pick_le A Bb
    rw [T.inv.ok.len] at hp
    unfold Qu.out
    split
    · simp
    · simp only [List.length_take, List.length_drop]; omega
  have HT1 := Lib.hid T1
  have HI' := Lib.hid hI'
  have t1 := hT.cell 1 rfl
  have t2 := hT.cell 2 rfl
  have z1 := hal.size
  have hz1 : w.heap.size < (w.alloc (.cells #[.int .i64 3, .int .i64 A, .int .i64 Bb, .slice da dn dc, .bool fin] 35)).heap.size := hT.lt
  obtain ⟨x, l, fb, ob⟩ := out
  simp only [] at HA HR hol
  clear hout hq' hI' T T1
  generalize hw1 : (w.alloc (.cells #[.int .i64 3, .int .i64 A, .int .i64 Bb, .slice da dn dc, .bool fin] 35)) = w1 at *
  have HW1 := Lib.hid hw1
  clear hw1
  go_enter Try.func22, Try.ntmps22
  go_wp2_with fail
  rw [HW1.out]
  refine (HA.out w1 (Below.refl _ _)).mono ?_
  rintro e w2 ⟨a2, c2, rfl, ho2, hk2, hQ2⟩
  have hT2 := hT.kept hk2 hbq
  have u1 := hT2.cell 1 rfl
  have u2 := hT2.cell 2 rfl
  have hR2 := HT1.out.atr.kept hk2 (fun k hf _ hx => HT1.out.dis k hx hf)
  clear t1 t2
  go_wp2_with fail
  refine (HR.out w2 hR2).mono ?_
  rintro e w3 ⟨a3, c3, rfl, ho3, hk3, hR3⟩
  have z2 := hk2.size
  have z3 := hk3.size
  have T3 := HT1.out.calls0 hk2 hQ2 (Below.refl _ _) hk3 hR3 HI'.out
  have ho2' := own_kept' ho2 hk3 (fun ad ha hf => by have := ownblk ho2 ha; have := (HT1.out.rb _ hf).2; omega)
  have K3 : Kept (fun k => B ≤ k) w w3 := ((Kept.of_below hal).trans (hk2.more (fun k _ h => (HT1.out.qb k h).1)) (fun _ _ h => h)).trans (hk3.more (fun k _ h => (HT1.out.rb k h).1)) (fun _ _ h => h)
  have HNB : Hid (∀ ad, a2 = some ad → ¬ Fq ad.block ∧ ¬ Fr ad.block ∧ B ≤ ad.block) := Lib.hid (fun ad ha => by
    have h1 := ownblk ho2 ha
    exact ⟨fun h => by have := (HT1.out.qb _ h).2; omega, fun h => by have := (HT1.out.rb _ h).2; omega, by omega⟩)
  have HSm : Hid (Calls Try.prog 21 #[.slice a2 l.length c2, .slice a3 l.length c3] w3 fun e w' => e = .returned (.bool true) ∧ Below w3.heap.size w3 w') := Lib.hid ((same_any w3 (own_sl ho2') (own_sl ho3)).mono (by
    rintro e w' ⟨h1, h2⟩
    exact ⟨by rw [h1, decide_eq_true rfl], h2⟩))
  clear hQ2 hR3 hk2 hk3 ho2 ho3 hT2 u1 u2 hR2 HA HR
  go_wp2_with fail
  refine HSm.out.mono ?_
  rintro e w4 ⟨rfl, hb4⟩
  have ho4 := own_below ho2' hb4
  have T4 := T3.below hb4
  have K4 := K3.trans (Kept.of_below (X := none') hb4) (fun _ _ h => h.elim)
  clear HSm T3 ho2' K3 hb4

  go_wp2_with fail
  go_loopw [109] (fun v wr => ∃ (j : Nat) (xs : List Value), v = .int .i64 (j : Int) ∧ j ≤ l.length ∧ wr.ownsRow w1.heap.size 5 1 (.slice a2 l.length c2) l.length xs ∧ (∀ i, j ≤ i → xs[i]? = (bv l)[i]?) ∧ TwinF B Fq Fr wr g gr q' pre ∧ Kept (fun k => B ≤ k) w wr) (fun v _ => l.length - (intOf v).toNat)
  case atStart => exact ⟨0, bv l, rfl, Nat.zero_le _, ho4, fun _ _ => rfl, T4, K4⟩
  case round =>
    obtain ⟨j, xs, rfl, hj, hO, hxs, hTw, hK⟩ := hrel
    clear ho4 T4 K4
    by_cases hjl : j < l.length
    · have hjl' : (j : Int) < (l.length : Int) := by omega
      have g2 : IntKind.i64.wrap ((j : Int) + 1) = (j : Int) + 1 := by rw [IntKind.wrap_i64]; omega
      obtain ⟨sb, rfl, hc, hfz, h1, h2⟩ := own_cell hO hjl
      rw [hxs j (Nat.le_refl _), bv_get _ _ hjl] at hc
      have hcI : (l.length : Int) ≤ (c2 : Int) := by omega
      have hsb := HNB.out _ rfl
      generalize (l[j].toNat : Int) = y at hc
      go_wp2
      go_roundw
      case rel =>
        refine ⟨j + 1, _, by push_cast; rfl, by omega, own_set hO j _, fun i hi => ?_, hTw.kept (Kept.set wr sb j _) (fun k e => by rw [e]; exact ⟨hsb.1, hsb.2.1⟩), hK.trans (Kept.set wr sb j _) (fun k _ e => by rw [e]; exact hsb.2.2)⟩
        rw [List.getElem?_set, if_neg (by omega)]
        exact hxs i (by omega)
      case measure => simp [intOf]; omega
    · obtain rfl : j = l.length := by omega
      go_wp2
      go_ret
      exact ⟨rfl, hK.below hB (fun k h => h), _, _, _, _, hTw, by omega⟩
end Go.Proofs.Ytkjclgpecppokaa

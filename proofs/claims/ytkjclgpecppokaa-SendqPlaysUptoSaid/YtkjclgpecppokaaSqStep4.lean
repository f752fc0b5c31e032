/- step of layer 4's law: Write; all of step. -/
import Derived.Test.YtkjclgpecppokaaSqStep2
import Derived.Test.YtkjclgpecppokaaSqStep3
namespace Go.Proofs.Ytkjclgpecppokaa
open Go.RowKit

set_option maxRecDepth 100000 in
set_option maxHeartbeats 4000000 in
theorem step_write (w : World) {B : Nat} {Fq Fr : Nat → Prop} {g gr : Nat} {q : Qu} {pre : List UInt8} (T : TwinF B Fq Fr w g gr q pre) (hB : B ≤ w.heap.size) (hm : q.base + q.data.length ≤ 8796093022208) {da : Option Addr} {dn dc : Nat} {l : List UInt8} (sD : Sl w da dn dc (bv l)) (hdB : 0 < dn → ∀ ad, da = some ad → ad.block < B) (hdn : dn ≤ 1048576) (A Bb : Int) (fin : Bool) :
    Calls Try.prog 22 #[.pointer (some ⟨g, 0, none⟩), .pointer (some ⟨gr, 0, none⟩), .agg #[.int .i64 1, .int .i64 A, .int .i64 Bb, .slice da dn dc, .bool fin]] w (Stepped B w g gr q dn) := by
  have hal : Below w.heap.size w (w.alloc (.cells #[.int .i64 1, .int .i64 A, .int .i64 Bb, .slice da dn dc, .bool fin] 35)) := (Below.refl _ _).alloc (Nat.le_refl _) _
  have hT := opHas w 1 A Bb da dn dc fin
  have T1 := T.below hal
  have t0 := hT.cell 0 rfl
  have hbq : ¬ Fq w.heap.size := fun h => by have := (T.qb _ h).2; omega
  have hbr : ¬ Fr w.heap.size := fun h => by have := (T.rb _ h).2; omega
  have hl := sD.byte
  subst hl
  obtain ⟨t, ht⟩ : ∃ t : Nat, t = q.took l := ⟨_, rfl⟩
  obtain ⟨ev, hev⟩ : ∃ ev : Int, ev = q.werr := ⟨_, rfl⟩
  obtain ⟨q', hq'⟩ : ∃ q', q' = q.write l := ⟨_, rfl⟩
  have hI' := T.inv.write l (by omega)
  rw [← hq'] at hI'
  have hgrow : q'.base + q'.data.length ≤ q.base + q.data.length + l.length := by
    rw [hq']
    have := q.took_le l
    unfold Qu.write
    simp only [List.length_append, List.length_take]
    omega
  have HCp := Lib.hid (copy_any (w.alloc (.cells #[.int .i64 1, .int .i64 A, .int .i64 Bb, .slice da l.length dc, .bool fin] 35)) (sD.below hal) (by omega))
  have HA : Hid (∀ w' a c, Below (w.alloc (.cells #[.int .i64 1, .int .i64 A, .int .i64 Bb, .slice da l.length dc, .bool fin] 35)).heap.size (w.alloc (.cells #[.int .i64 1, .int .i64 A, .int .i64 Bb, .slice da l.length dc, .bool fin] 35)) w' → Sl w' a l.length c (bv l) → Calls Try.prog 16 #[.pointer (some ⟨g, 0, none⟩), .slice a l.length c] w' fun e w'' => e = .returned (.tuple #[.int .i64 (t : Int), .int .i64 ev]) ∧ Kept Fq w' w'' ∧ QAt (Fat Fq w' w'') w'' g q') := Lib.hid (fun w' a c hb hs => by
    have := write_any w' (T1.atq.below hb) T.inv.ok hs
    unfold Wrote at this
    rwa [← ht, ← hev, ← hq'] at this)
  have HR : Hid (∀ w', RAt Fr w' gr (q.lift pre) → Sl w' da l.length dc (bv l) → Calls Try.prog 32 #[.pointer (some ⟨gr, 0, none⟩), .slice da l.length dc] w' fun e w'' => e = .returned (.tuple #[.int .i64 (t : Int), .int .i64 ev]) ∧ Kept Fr w' w'' ∧ RAt (Fat Fr w' w'') w'' gr (q'.lift pre)) := Lib.hid (fun w' hr hs => by
    have := rwrite_any w' hr (lift_ok T.inv hm) hs hdn (fun h0 ad ha hf => by have := hdB h0 ad ha; have := (T.rb _ hf).1; omega)
    rwa [lift_took T.inv, lift_werr, lift_write T.inv, ← ht, ← hev, ← hq'] at this)
  have HT1 := Lib.hid T1
  have HI' := Lib.hid hI'
  have t3 := hT.cell 3 rfl
  have z1 := hal.size
  have hz1 : w.heap.size < (w.alloc (.cells #[.int .i64 1, .int .i64 A, .int .i64 Bb, .slice da l.length dc, .bool fin] 35)).heap.size := hT.lt
  clear ht hev hq' hI' T T1
  generalize hw1 : (w.alloc (.cells #[.int .i64 1, .int .i64 A, .int .i64 Bb, .slice da l.length dc, .bool fin] 35)) = w1 at *
  have HW1 := Lib.hid hw1
  clear hw1
  go_enter Try.func22, Try.ntmps22
  go_wp2_with fail
  rw [HW1.out]
  refine HCp.out.mono ?_
  rintro e w2 ⟨a2, c2, rfl, ho2, hb2⟩
  have hT2 := hT.kept (Kept.of_below (X := none') hb2) (fun h => h)
  have HWr := Lib.hid (HA.out w2 a2 c2 hb2 (own_sl ho2))
  clear t3
  have t3 := hT2.cell 3 rfl
  go_wp2_with fail
  refine HWr.out.mono ?_
  rintro e w3 ⟨rfl, hk3, hQ3⟩
  have hT3 := hT2.kept hk3 hbq
  have u3 := hT3.cell 3 rfl
  have hR3 := (HT1.out.atr.below hb2).kept hk3 (fun k hf _ hx => HT1.out.dis k hx hf)
  have s3 := ((sD.below hal).below hb2).kept0 hk3 (fun h0 ad ha hf => by have := hdB h0 ad ha; have := (HT1.out.qb _ hf).1; omega)
  have ho3 := own_kept' ho2 hk3 (fun ad ha hf => by have := ownblk ho2 ha; have := (HT1.out.qb _ hf).2; omega)
  clear t3 HWr
  go_wp2_with fail
  refine (HR.out w3 hR3 s3).mono ?_
  rintro e w4 ⟨rfl, hk4, hR4⟩
  have hT4 := hT3.kept hk4 hbr
  have v3 := hT4.cell 3 rfl
  have z2 := hb2.size
  have z3 := hk3.size
  have z4 := hk4.size
  have T4 : TwinF B (Fat Fq w2 w3) (Fat Fr w3 w4) w4 g gr q' pre := (HT1.out.below hb2).calls (by omega) hk3 hQ3 (Below.refl _ _) hk4 hR4 HI'.out
  have s4 := s3.kept0 hk4 (fun h0 ad ha hf => by have := hdB h0 ad ha; have := (HT1.out.rb _ hf).1; omega)
  have ho4 := own_kept' ho3 hk4 (fun ad ha hf => by have := ownblk ho2 ha; have := (HT1.out.rb _ hf).2; omega)
  have K4 : Kept (fun k => B ≤ k) w w4 := (((Kept.of_below hal).trans (Kept.of_below (X := none') hb2) (fun _ _ h => h.elim)).trans (hk3.more (fun k _ h => (HT1.out.qb k h).1)) (fun _ _ h => h)).trans (hk4.more (fun k _ h => (HT1.out.rb k h).1)) (fun _ _ h => h)
  have HNB : Hid (∀ ad, a2 = some ad → ¬ Fat Fq w2 w3 ad.block ∧ ¬ Fat Fr w3 w4 ad.block ∧ B ≤ ad.block) := Lib.hid (fun ad ha => by
    have h1 := ownblk ho2 ha
    have h2 := own_at ho2 ha
    exact ⟨fun h => by rcases h with h | h; (· have := (HT1.out.qb _ h).2; omega); (· omega), fun h => by rcases h with h | h; (· have := (HT1.out.rb _ h).2; omega); (· omega), by omega⟩)
  have HSm : Hid (Calls Try.prog 21 #[.slice a2 l.length c2, .slice da l.length dc] w4 fun e w' => e = .returned (.bool true) ∧ Below w4.heap.size w4 w') := Lib.hid ((same_any w4 (own_sl ho4) s4).mono (by
    rintro e w' ⟨h1, h2⟩
    exact ⟨by rw [h1, decide_eq_true rfl], h2⟩))
  clear hQ3 hR4 hk3 hk4 ho2 ho3 hT2 hT3 hT4 u3 hR3 HA HR s3 s4 hb2
  go_wp2_with fail
  refine HSm.out.mono ?_
  rintro e w5 ⟨rfl, hb5⟩
  have ho4 := own_below ho4 hb5
  have T4 := T4.below hb5
  have K4 := K4.trans (Kept.of_below (X := none') hb5) (fun _ _ h => h.elim)
  clear HSm hb5 v3

  go_wp2_with fail
  go_loopw [50] (fun v wr => ∃ (j : Nat) (xs : List Value), v = .int .i64 (j : Int) ∧ j ≤ l.length ∧ wr.ownsRow w1.heap.size 5 1 (.slice a2 l.length c2) l.length xs ∧ (∀ i, j ≤ i → xs[i]? = (bv l)[i]?) ∧ TwinF B (Fat Fq w2 w3) (Fat Fr w3 w4) wr g gr q' pre ∧ Kept (fun k => B ≤ k) w wr) (fun v _ => l.length - (intOf v).toNat)
  case atStart => exact ⟨0, bv l, rfl, Nat.zero_le _, ho4, fun _ _ => rfl, T4, K4⟩
  case round =>
    obtain ⟨j, xs, rfl, hj, hO, hxs, hTw, hK⟩ := hrel
    clear ho4 T4 K4
    by_cases hjl : j < l.length
    · have hjl' : (j : Int) < (l.length : Int) := by omega
      have g2 : IntKind.i64.wrap ((j : Int) + 1) = (j : Int) + 1 := by rw [IntKind.wrap_i64]; omega
      obtain ⟨sb, rfl, hc, hfz, h1, h2⟩ := own_cell hO hjl
      rw [hxs j (Nat.le_refl _), bv_get _ _ hjl] at hc
      have hcI : (l.length : Int) ≤ (c2 : Int) := by omega
      have hsb := HNB.out _ rfl
      generalize (l[j].toNat : Int) = y at hc
      go_wp2
      go_roundw
      case rel =>
        refine ⟨j + 1, _, by push_cast; rfl, by omega, own_set hO j _, fun i hi => ?_, hTw.kept (Kept.set wr sb j _) (fun k e => by rw [e]; exact ⟨hsb.1, hsb.2.1⟩), hK.trans (Kept.set wr sb j _) (fun k _ e => by rw [e]; exact hsb.2.2)⟩
        rw [List.getElem?_set, if_neg (by omega)]
        exact hxs i (by omega)
      case measure => simp [intOf]; omega
    · obtain rfl : j = l.length := by omega
      go_wp2
      go_ret
      exact ⟨rfl, hK.below hB (fun k h => h), _, _, _, _, hTw, hgrow⟩

theorem step_any (w : World) {B : Nat} {Fq Fr : Nat → Prop} {g gr : Nat} {q : Qu} {pre : List UInt8} (T : TwinF B Fq Fr w g gr q pre) (hB : B ≤ w.heap.size) (hm : q.base + q.data.length ≤ 8796093022208) {da : Option Addr} {dn dc : Nat} {l : List UInt8} (sD : Sl w da dn dc (bv l)) (hdB : 0 < dn → ∀ ad, da = some ad → ad.block < B) (hdn : dn ≤ 1048576)
    (kind A Bb : Int) (fin : Bool) (hlim : Bb ≤ 9223372036854775807) :
    Calls Try.prog 22 #[.pointer (some ⟨g, 0, none⟩), .pointer (some ⟨gr, 0, none⟩), .agg #[.int .i64 kind, .int .i64 A, .int .i64 Bb, .slice da dn dc, .bool fin]] w (Stepped B w g gr q dn) := by
  by_cases k1 : kind = 1
  · subst k1; exact step_write w T hB hm sD hdB hdn A Bb fin
  by_cases k2 : kind = 2
  · subst k2; exact step_finish w T hB A Bb da dn dc fin
  by_cases k3 : kind = 3
  · subst k3; exact step_next w T hB hm A Bb da dn dc fin hlim
  by_cases k4 : kind = 4
  · subst k4; exact step_ack w T hB hm A Bb da dn dc fin
  by_cases k5 : kind = 5
  · subst k5; exact step_lose w T hB hm A Bb da dn dc fin
  exact step_other w T hB kind A Bb da dn dc fin (beq_eq_false_iff_ne.2 k1) (beq_eq_false_iff_ne.2 k2) (beq_eq_false_iff_ne.2 k3) (beq_eq_false_iff_ne.2 k4) (beq_eq_false_iff_ne.2 k5)
end Go.Proofs.Ytkjclgpecppokaa

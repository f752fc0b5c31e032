/- step of layer 4's law: Ack and Lose. -/
import Derived.Test.YtkjclgpecppokaaSqStep
namespace Go.Proofs.Ytkjclgpecppokaa
open Go.RowKit

set_option maxRecDepth 100000 in
set_option maxHeartbeats 4000000 in
theorem step_ack (w : World) {B : Nat} {Fq Fr : Nat → Prop} {g gr : Nat} {q : Qu} {pre : List UInt8} (T : TwinF B Fq Fr w g gr q pre) (hB : B ≤ w.heap.size) (hm : q.base + q.data.length ≤ 8796093022208) (A Bb : Int) (da : Option Addr) (dn dc : Nat) (fin : Bool) :
    Calls Try.prog 22 #[.pointer (some ⟨g, 0, none⟩), .pointer (some ⟨gr, 0, none⟩), .agg #[.int .i64 4, .int .i64 A, .int .i64 Bb, .slice da dn dc, .bool fin]] w (Stepped B w g gr q dn) := by
  have hal : Below w.heap.size w (w.alloc (.cells #[.int .i64 4, .int .i64 A, .int .i64 Bb, .slice da dn dc, .bool fin] 35)) := (Below.refl _ _).alloc (Nat.le_refl _) _
  have hT := opHas w 4 A Bb da dn dc fin
  have T1 := T.below hal
  have t0 := hT.cell 0 rfl
  have hbq : ¬ Fq w.heap.size := fun h => by have := (T.qb _ h).2; omega
  have hbr : ¬ Fr w.heap.size := fun h => by have := (T.rb _ h).2; omega
  obtain ⟨ev, hev⟩ : ∃ ev, ev = q.terr A Bb fin := ⟨_, rfl⟩
  obtain ⟨pre', hl, hI'⟩ := lift_ack T.inv A Bb fin
  obtain ⟨q', hq'⟩ : ∃ q', q' = q.ack A Bb fin := ⟨_, rfl⟩
  have hturn : (q.lift pre).turn true A Bb fin = q'.lift pre' := by rw [hq', ← hl]; rfl
  have hgrow : q'.base + q'.data.length ≤ q.base + q.data.length := by
    have h1 := hI'.pre
    have h2 := T.inv.pre
    have h3 : (q'.lift pre').data.length = (q.lift pre).data.length := by
      rw [hq', ← hl]
      unfold Qu.tack
      split <;> rfl
    rw [← hq'] at h1
    simp only [Qu.lift, List.length_append] at h3
    omega
  rw [← hq'] at hI'
  have HA : Hid (∀ w', Below (w.alloc (.cells #[.int .i64 4, .int .i64 A, .int .i64 Bb, .slice da dn dc, .bool fin] 35)).heap.size (w.alloc (.cells #[.int .i64 4, .int .i64 A, .int .i64 Bb, .slice da dn dc, .bool fin] 35)) w' → Calls Try.prog 20 #[.pointer (some ⟨g, 0, none⟩), .int .i64 A, .int .i64 Bb, .bool fin] w' (Turned Fq w' g q' ev)) := Lib.hid (fun w' hb => by
    rw [hev, hq']
    exact ack_any w' (T1.atq.below hb) T.inv.ok A Bb fin)
  have HR : Hid (∀ w', RAt Fr w' gr (q.lift pre) → q.base + q.data.length ≤ 8796093022208 → Calls Try.prog 35 #[.pointer (some ⟨gr, 0, none⟩), .bool true, .int .i64 A, .int .i64 Bb, .bool fin] w' fun e w'' => e = .returned (.int .i64 ev) ∧ Kept Fr w' w'' ∧ RAt Fr w'' gr (q'.lift pre')) := Lib.hid (fun w' hr hm => by
    have := rturn_any w' hr (lift_ok T.inv hm) true A Bb fin
    rwa [lift_terr, ← hev, hturn] at this)
  have HT1 := Lib.hid T1
  have HI' := Lib.hid hI'
  have t1 := hT.cell 1 rfl
  have t2 := hT.cell 2 rfl
  have t4 := hT.cell 4 rfl
  have z1 := hal.size
  have hz1 : w.heap.size < (w.alloc (.cells #[.int .i64 4, .int .i64 A, .int .i64 Bb, .slice da dn dc, .bool fin] 35)).heap.size := hT.lt
  clear hev hq' hturn hl hI' T T1 
  generalize hw1 : (w.alloc (.cells #[.int .i64 4, .int .i64 A, .int .i64 Bb, .slice da dn dc, .bool fin] 35)) = w1 at *
  have HW1 := Lib.hid hw1
  clear hw1
  go_enter Try.func22, Try.ntmps22
  go_wp2_with fail
  rw [HW1.out]
  go_wp2_with fail
  have hd1 : Below w1.heap.size w1 w1.drew := below_drewN (Below.refl _ w1) 1
  have d1 : w1.drew.cell? ⟨w.heap.size, 1, none⟩ = some (.int .i64 A) := t1
  have d2 : w1.drew.cell? ⟨w.heap.size, 2, none⟩ = some (.int .i64 Bb) := t2
  have d4 : w1.drew.cell? ⟨w.heap.size, 4, none⟩ = some (.bool fin) := t4
  refine Mx.region [] (fun w' => w'.cell? ⟨w.heap.size, 1, none⟩ = some (.int .i64 A) ∧ w'.cell? ⟨w.heap.size, 2, none⟩ = some (.int .i64 Bb) ∧ w'.cell? ⟨w.heap.size, 4, none⟩ = some (.bool fin)) (by kernel_rfl) (by kernel_rfl) ⟨d1, d2, d4⟩ ?_
  repeat ((first | (refine Mx.skips (by kernel_rfl) ?_; go_big_quiet_skip) | (refine Mx.quietly rfl ?_; go_big_quiet_want; go_big_quiet_op; go_big_quiet_on)); refine Mx.done ?_)
  refine Mx.cell ⟨w.heap.size, 1, none⟩ (.int .i64 A) (by kernel_rfl) (by kernel_rfl) (by kernel_rfl) Try.isAgg3 (fun w' h => h.1) ?_
  go_big_quiet_want; go_big_quiet_op; go_big_quiet_on; refine Mx.done ?_
  repeat ((first | (refine Mx.skips (by kernel_rfl) ?_; go_big_quiet_skip) | (refine Mx.quietly rfl ?_; go_big_quiet_want; go_big_quiet_op; go_big_quiet_on)); refine Mx.done ?_)
  refine Mx.cell ⟨w.heap.size, 2, none⟩ (.int .i64 Bb) (by kernel_rfl) (by kernel_rfl) (by kernel_rfl) Try.isAgg3 (fun w' h => h.2.1) ?_
  go_big_quiet_want; go_big_quiet_op; go_big_quiet_on; refine Mx.done ?_
  repeat ((first | (refine Mx.skips (by kernel_rfl) ?_; go_big_quiet_skip) | (refine Mx.quietly rfl ?_; go_big_quiet_want; go_big_quiet_op; go_big_quiet_on)); refine Mx.done ?_)
  refine Mx.cell ⟨w.heap.size, 4, none⟩ (.bool fin) (by kernel_rfl) (by kernel_rfl) (by kernel_rfl) Try.isAgg4 (fun w' h => h.2.2) ?_
  go_big_quiet_want; go_big_quiet_op; go_big_quiet_on; refine Mx.done ?_
  repeat ((first | (refine Mx.skips (by kernel_rfl) ?_; go_big_quiet_skip) | (refine Mx.quietly rfl ?_; go_big_quiet_want; go_big_quiet_op; go_big_quiet_on)); refine Mx.done ?_)
  refine Mx.loudly (by kernel_rfl) (by kernel_rfl) ?_
  go_wp2_with fail
  refine (HA.out _ hd1).mono ?_
  rintro e w2 ⟨rfl, hk2, hQ2⟩
  have hT2 := (hT.kept (Kept.drew none' w1) (fun h => h)).kept hk2 hbq
  have u1 := hT2.cell 1 rfl
  have u2 := hT2.cell 2 rfl
  have u4 := hT2.cell 4 rfl
  have hR2 := (HT1.out.atr.below hd1).kept hk2 (fun k hf _ hx => HT1.out.dis k hx hf)
  go_wp2_with fail
  repeat ((first | (refine Mx.skips (by kernel_rfl) ?_; go_big_quiet_skip) | (refine Mx.quietly rfl ?_; go_big_quiet_want; go_big_quiet_op; go_big_quiet_on)); refine Mx.done ?_)
  refine Mx.cell ⟨w.heap.size, 1, none⟩ (.int .i64 A) (by kernel_rfl) (by kernel_rfl) (by kernel_rfl) Try.isAgg3 (fun w' h => h.1) ?_
  go_big_quiet_want; go_big_quiet_op; go_big_quiet_on; refine Mx.done ?_
  repeat ((first | (refine Mx.skips (by kernel_rfl) ?_; go_big_quiet_skip) | (refine Mx.quietly rfl ?_; go_big_quiet_want; go_big_quiet_op; go_big_quiet_on)); refine Mx.done ?_)
  refine Mx.cell ⟨w.heap.size, 2, none⟩ (.int .i64 Bb) (by kernel_rfl) (by kernel_rfl) (by kernel_rfl) Try.isAgg3 (fun w' h => h.2.1) ?_
  go_big_quiet_want; go_big_quiet_op; go_big_quiet_on; refine Mx.done ?_
  repeat ((first | (refine Mx.skips (by kernel_rfl) ?_; go_big_quiet_skip) | (refine Mx.quietly rfl ?_; go_big_quiet_want; go_big_quiet_op; go_big_quiet_on)); refine Mx.done ?_)
  refine Mx.cell ⟨w.heap.size, 4, none⟩ (.bool fin) (by kernel_rfl) (by kernel_rfl) (by kernel_rfl) Try.isAgg4 (fun w' h => h.2.2) ?_
  go_big_quiet_want; go_big_quiet_op; go_big_quiet_on; refine Mx.done ?_
  repeat ((first | (refine Mx.skips (by kernel_rfl) ?_; go_big_quiet_skip) | (refine Mx.quietly rfl ?_; go_big_quiet_want; go_big_quiet_op; go_big_quiet_on)); refine Mx.done ?_)
  refine Mx.loudly (by kernel_rfl) (by kernel_rfl) ?_
  go_wp2_with fail
  refine (HR.out _ hR2 hm).mono ?_
  rintro e w3 ⟨rfl, hk3, hR3⟩
  have hT3 := hT2.kept hk3 hbr
  have v1 := hT3.cell 1 rfl
  have v2 := hT3.cell 2 rfl
  have v4 := hT3.cell 4 rfl
  go_wp2_with fail
  repeat ((first | (refine Mx.skips (by kernel_rfl) ?_; go_big_quiet_skip) | (refine Mx.quietly rfl ?_; go_big_quiet_want; go_big_quiet_op; go_big_quiet_on)); refine Mx.done ?_)
  refine Mx.nil ?_
  go_wp2
  go_ret
  have zd : w1.drew.heap.size = w1.heap.size := rfl
  have T3 := (HT1.out.below hd1).calls (by omega) hk2 (hQ2.more (fun k h _ => .inl h)) (Below.refl _ _) hk3 (hR3.more (fun k h _ => .inl h)) HI'.out
  have b1 := (hal.mono hB).trans (hd1.mono (by omega))
  exact ⟨rfl, (b1.trans (hk2.below (by omega) (fun k h => (HT1.out.qb k h).1))).trans (hk3.below (by have := hk2.size; omega) (fun k h => (HT1.out.rb k h).1)), _, _, _, _, T3, by omega⟩

set_option maxRecDepth 100000 in
set_option maxHeartbeats 4000000 in
theorem step_lose (w : World) {B : Nat} {Fq Fr : Nat → Prop} {g gr : Nat} {q : Qu} {pre : List UInt8} (T : TwinF B Fq Fr w g gr q pre) (hB : B ≤ w.heap.size) (hm : q.base + q.data.length ≤ 8796093022208) (A Bb : Int) (da : Option Addr) (dn dc : Nat) (fin : Bool) :
    Calls Try.prog 22 #[.pointer (some ⟨g, 0, none⟩), .pointer (some ⟨gr, 0, none⟩), .agg #[.int .i64 5, .int .i64 A, .int .i64 Bb, .slice da dn dc, .bool fin]] w (Stepped B w g gr q dn) := by
  have hal : Below w.heap.size w (w.alloc (.cells #[.int .i64 5, .int .i64 A, .int .i64 Bb, .slice da dn dc, .bool fin] 35)) := (Below.refl _ _).alloc (Nat.le_refl _) _
  have hT := opHas w 5 A Bb da dn dc fin
  have T1 := T.below hal
  have t0 := hT.cell 0 rfl
  have hbq : ¬ Fq w.heap.size := fun h => by have := (T.qb _ h).2; omega
  have hbr : ¬ Fr w.heap.size := fun h => by have := (T.rb _ h).2; omega
  obtain ⟨ev, hev⟩ : ∃ ev, ev = q.terr A Bb fin := ⟨_, rfl⟩
  have hl := lift_lose (q := q) (pre := pre) A Bb fin
  have hI' := T.inv.lose A Bb fin
  obtain ⟨pre', hpre'⟩ : ∃ pre', pre' = pre := ⟨_, rfl⟩
  rw [← hpre'] at hI'
  obtain ⟨q', hq'⟩ : ∃ q', q' = q.lose A Bb fin := ⟨_, rfl⟩
  have hturn : (q.lift pre).turn false A Bb fin = q'.lift pre' := by rw [hq', hpre', ← hl]; rfl
  have hgrow : q'.base + q'.data.length ≤ q.base + q.data.length := by
    rw [hq']
    unfold Qu.lose
    split <;> exact Nat.le_refl _
  rw [← hq'] at hI'
  have HA : Hid (∀ w', Below (w.alloc (.cells #[.int .i64 5, .int .i64 A, .int .i64 Bb, .slice da dn dc, .bool fin] 35)).heap.size (w.alloc (.cells #[.int .i64 5, .int .i64 A, .int .i64 Bb, .slice da dn dc, .bool fin] 35)) w' → Calls Try.prog 19 #[.pointer (some ⟨g, 0, none⟩), .int .i64 A, .int .i64 Bb, .bool fin] w' (Turned Fq w' g q' ev)) := Lib.hid (fun w' hb => by
    rw [hev, hq']
    exact lose_any w' (T1.atq.below hb) T.inv.ok A Bb fin)
  have HR : Hid (∀ w', RAt Fr w' gr (q.lift pre) → q.base + q.data.length ≤ 8796093022208 → Calls Try.prog 35 #[.pointer (some ⟨gr, 0, none⟩), .bool false, .int .i64 A, .int .i64 Bb, .bool fin] w' fun e w'' => e = .returned (.int .i64 ev) ∧ Kept Fr w' w'' ∧ RAt Fr w'' gr (q'.lift pre')) := Lib.hid (fun w' hr hm => by
    have := rturn_any w' hr (lift_ok T.inv hm) false A Bb fin
    rwa [lift_terr, ← hev, hturn] at this)
  have HT1 := Lib.hid T1
  have HI' := Lib.hid hI'
  have t1 := hT.cell 1 rfl
  have t2 := hT.cell 2 rfl
  have t4 := hT.cell 4 rfl
  have z1 := hal.size
  have hz1 : w.heap.size < (w.alloc (.cells #[.int .i64 5, .int .i64 A, .int .i64 Bb, .slice da dn dc, .bool fin] 35)).heap.size := hT.lt
  clear hev hq' hturn hl hI' T T1 hpre'
  generalize hw1 : (w.alloc (.cells #[.int .i64 5, .int .i64 A, .int .i64 Bb, .slice da dn dc, .bool fin] 35)) = w1 at *
  have HW1 := Lib.hid hw1
  clear hw1
  go_enter Try.func22, Try.ntmps22
  go_wp2_with fail
  rw [HW1.out]
  go_wp2_with fail
  have hd1 : Below w1.heap.size w1 w1.drew := below_drewN (Below.refl _ w1) 1
  have d1 : w1.drew.cell? ⟨w.heap.size, 1, none⟩ = some (.int .i64 A) := t1
  have d2 : w1.drew.cell? ⟨w.heap.size, 2, none⟩ = some (.int .i64 Bb) := t2
  have d4 : w1.drew.cell? ⟨w.heap.size, 4, none⟩ = some (.bool fin) := t4
  refine Mx.region [] (fun w' => w'.cell? ⟨w.heap.size, 1, none⟩ = some (.int .i64 A) ∧ w'.cell? ⟨w.heap.size, 2, none⟩ = some (.int .i64 Bb) ∧ w'.cell? ⟨w.heap.size, 4, none⟩ = some (.bool fin)) (by kernel_rfl) (by kernel_rfl) ⟨d1, d2, d4⟩ ?_
  repeat ((first | (refine Mx.skips (by kernel_rfl) ?_; go_big_quiet_skip) | (refine Mx.quietly rfl ?_; go_big_quiet_want; go_big_quiet_op; go_big_quiet_on)); refine Mx.done ?_)
  refine Mx.cell ⟨w.heap.size, 1, none⟩ (.int .i64 A) (by kernel_rfl) (by kernel_rfl) (by kernel_rfl) Try.isAgg3 (fun w' h => h.1) ?_
  go_big_quiet_want; go_big_quiet_op; go_big_quiet_on; refine Mx.done ?_
  repeat ((first | (refine Mx.skips (by kernel_rfl) ?_; go_big_quiet_skip) | (refine Mx.quietly rfl ?_; go_big_quiet_want; go_big_quiet_op; go_big_quiet_on)); refine Mx.done ?_)
  refine Mx.cell ⟨w.heap.size, 2, none⟩ (.int .i64 Bb) (by kernel_rfl) (by kernel_rfl) (by kernel_rfl) Try.isAgg3 (fun w' h => h.2.1) ?_
  go_big_quiet_want; go_big_quiet_op; go_big_quiet_on; refine Mx.done ?_
  repeat ((first | (refine Mx.skips (by kernel_rfl) ?_; go_big_quiet_skip) | (refine Mx.quietly rfl ?_; go_big_quiet_want; go_big_quiet_op; go_big_quiet_on)); refine Mx.done ?_)
  refine Mx.cell ⟨w.heap.size, 4, none⟩ (.bool fin) (by kernel_rfl) (by kernel_rfl) (by kernel_rfl) Try.isAgg4 (fun w' h => h.2.2) ?_
  go_big_quiet_want; go_big_quiet_op; go_big_quiet_on; refine Mx.done ?_
  repeat ((first | (refine Mx.skips (by kernel_rfl) ?_; go_big_quiet_skip) | (refine Mx.quietly rfl ?_; go_big_quiet_want; go_big_quiet_op; go_big_quiet_on)); refine Mx.done ?_)
  refine Mx.loudly (by kernel_rfl) (by kernel_rfl) ?_
  go_wp2_with fail
  refine (HA.out _ hd1).mono ?_
  rintro e w2 ⟨rfl, hk2, hQ2⟩
  have hT2 := (hT.kept (Kept.drew none' w1) (fun h => h)).kept hk2 hbq
  have u1 := hT2.cell 1 rfl
  have u2 := hT2.cell 2 rfl
  have u4 := hT2.cell 4 rfl
  have hR2 := (HT1.out.atr.below hd1).kept hk2 (fun k hf _ hx => HT1.out.dis k hx hf)
  go_wp2_with fail
  repeat ((first | (refine Mx.skips (by kernel_rfl) ?_; go_big_quiet_skip) | (refine Mx.quietly rfl ?_; go_big_quiet_want; go_big_quiet_op; go_big_quiet_on)); refine Mx.done ?_)
  refine Mx.cell ⟨w.heap.size, 1, none⟩ (.int .i64 A) (by kernel_rfl) (by kernel_rfl) (by kernel_rfl) Try.isAgg3 (fun w' h => h.1) ?_
  go_big_quiet_want; go_big_quiet_op; go_big_quiet_on; refine Mx.done ?_
  repeat ((first | (refine Mx.skips (by kernel_rfl) ?_; go_big_quiet_skip) | (refine Mx.quietly rfl ?_; go_big_quiet_want; go_big_quiet_op; go_big_quiet_on)); refine Mx.done ?_)
  refine Mx.cell ⟨w.heap.size, 2, none⟩ (.int .i64 Bb) (by kernel_rfl) (by kernel_rfl) (by kernel_rfl) Try.isAgg3 (fun w' h => h.2.1) ?_
  go_big_quiet_want; go_big_quiet_op; go_big_quiet_on; refine Mx.done ?_
  repeat ((first | (refine Mx.skips (by kernel_rfl) ?_; go_big_quiet_skip) | (refine Mx.quietly rfl ?_; go_big_quiet_want; go_big_quiet_op; go_big_quiet_on)); refine Mx.done ?_)
  refine Mx.cell ⟨w.heap.size, 4, none⟩ (.bool fin) (by kernel_rfl) (by kernel_rfl) (by kernel_rfl) Try.isAgg4 (fun w' h => h.2.2) ?_
  go_big_quiet_want; go_big_quiet_op; go_big_quiet_on; refine Mx.done ?_
  repeat ((first | (refine Mx.skips (by kernel_rfl) ?_; go_big_quiet_skip) | (refine Mx.quietly rfl ?_; go_big_quiet_want; go_big_quiet_op; go_big_quiet_on)); refine Mx.done ?_)
  refine Mx.loudly (by kernel_rfl) (by kernel_rfl) ?_
  go_wp2_with fail
  refine (HR.out _ hR2 hm).mono ?_
  rintro e w3 ⟨rfl, hk3, hR3⟩
  have hT3 := hT2.kept hk3 hbr
  have v1 := hT3.cell 1 rfl
  have v2 := hT3.cell 2 rfl
  have v4 := hT3.cell 4 rfl
  go_wp2_with fail
  repeat ((first | (refine Mx.skips (by kernel_rfl) ?_; go_big_quiet_skip) | (refine Mx.quietly rfl ?_; go_big_quiet_want; go_big_quiet_op; go_big_quiet_on)); refine Mx.done ?_)
  refine Mx.nil ?_
  go_wp2
  go_ret
  have zd : w1.drew.heap.size = w1.heap.size := rfl
  have T3 := (HT1.out.below hd1).calls (by omega) hk2 (hQ2.more (fun k h _ => .inl h)) (Below.refl _ _) hk3 (hR3.more (fun k h _ => .inl h)) HI'.out
  have b1 := (hal.mono hB).trans (hd1.mono (by omega))
  exact ⟨rfl, (b1.trans (hk2.below (by omega) (fun k h => (HT1.out.qb k h).1))).trans (hk3.below (by have := hk2.size; omega) (fun k h => (HT1.out.rb k h).1)), _, _, _, _, T3, by omega⟩

end Go.Proofs.Ytkjclgpecppokaa

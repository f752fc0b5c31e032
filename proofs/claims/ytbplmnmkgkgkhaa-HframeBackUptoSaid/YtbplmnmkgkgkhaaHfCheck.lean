/- Contract of the reader's check (printed by gen_hfcheck.py). No condition. -/
import Derived.Test.YtbplmnmkgkgkhaaHfOver
namespace Go.Proofs.Ytbplmnmkgkgkhaa
open Go.RowKit

/-- may a frame of this type be here, and how long may it be -/
def okMost (R : Rd) (k : Int) : Bool × Int :=
  if k = 0 then (R.req && R.heads == 1, 4611686018427387903)
  else if k = 1 then (R.req && decide (R.heads < 2), R.limit)
  else if k = 4 then (!R.req && !R.settled, 1024)
  else if k = 7 ∨ k = 13 then (!R.req, 1024)
  else (true, 4611686018427387903)
def chk (R : Rd) (k s : Int) : Int :=
  if R.req = false ∧ R.settled = false ∧ k ≠ 4 then 171
  else if barB k = true then 170
  else if (okMost R k).1 = false then 170
  else if (okMost R k).2 < s then 151
  else 0
set_option maxRecDepth 100000 in
set_option maxHeartbeats 1000000 in
theorem check_x (w : World) {g : Nat} {R : Rd} {ba : Option Addr} {bc : Nat} (hR : RB w g R ba bc) (k : Int) (s : Int) (hq : R.req = false) (hst : R.settled = false) (hk4 : k ≠ 4) :
    Calls Try.prog 30 #[.pointer (some ⟨g, 0, none⟩), .int .i64 k, .int .i64 s] w (IntOf w 171) := by
  obtain ⟨hd, hhd⟩ : ∃ hd, hd = R.heads := ⟨_, rfl⟩
  obtain ⟨lm, hlm⟩ : ∃ lm, lm = R.limit := ⟨_, rfl⟩
  have HB := Lib.hid (barred_any w k)
  have c0 : w.cell? ⟨g, 0, none⟩ = some (.bool false) := by rw [← hq]; exact hR.has.cell 0 rfl
  have c7 : w.cell? ⟨g, 7, none⟩ = some (.bool false) := by rw [← hst]; exact hR.has.cell 7 rfl
  have HR := Lib.hid hR
  have HQ := Lib.hid hq
  have HST := Lib.hid hst
  clear hR hq
  clear hst
  have k4 : ((k : Int) == 4) = false := by simpa using hk4
  clear hk4
  go_enter Try.func30, Try.ntmps30
  go_wp2
  go_ret
  exact ⟨rfl, Below.refl _ _⟩
set_option maxRecDepth 100000 in
set_option maxHeartbeats 1000000 in
theorem check_0a (w : World) {g : Nat} {R : Rd} {ba : Option Addr} {bc : Nat} (hR : RB w g R ba bc) (s : Int) (hq : R.req = true) (h1 : R.heads = 1) (hs : ¬ 4611686018427387903 < s) :
    Calls Try.prog 30 #[.pointer (some ⟨g, 0, none⟩), .int .i64 0, .int .i64 s] w (IntOf w 0) := by
  obtain ⟨hd, hhd⟩ : ∃ hd, hd = R.heads := ⟨_, rfl⟩
  obtain ⟨lm, hlm⟩ : ∃ lm, lm = R.limit := ⟨_, rfl⟩
  have HB := Lib.hid (barred_any w 0)
  have c0 : w.cell? ⟨g, 0, none⟩ = some (.bool true) := by rw [← hq]; exact hR.has.cell 0 rfl
  have HR := Lib.hid hR
  have HQ := Lib.hid hq
  clear hR hq
  rw [← hhd] at h1
  go_enter Try.func30, Try.ntmps30
  go_wp2_with fail
  refine HB.out.mono ?_
  rintro e w2 ⟨rfl, hb2⟩
  have hR2 := HR.out.below hb2
  have d0 : w2.cell? ⟨g, 0, none⟩ = some (.bool true) := by rw [← HQ.out]; exact hR2.has.cell 0 rfl
  have d6 : w2.cell? ⟨g, 6, none⟩ = some (.int .i64 1) := by rw [← h1, hhd]; exact hR2.has.cell 6 rfl
  clear hR2 hhd hlm h1
  go_wp2
  go_ret
  exact ⟨rfl, hb2⟩
set_option maxRecDepth 100000 in
set_option maxHeartbeats 1000000 in
theorem check_0b (w : World) {g : Nat} {R : Rd} {ba : Option Addr} {bc : Nat} (hR : RB w g R ba bc) (s : Int) (hq : R.req = true) (h1 : R.heads = 1) (hs : 4611686018427387903 < s) :
    Calls Try.prog 30 #[.pointer (some ⟨g, 0, none⟩), .int .i64 0, .int .i64 s] w (IntOf w 151) := by
  obtain ⟨hd, hhd⟩ : ∃ hd, hd = R.heads := ⟨_, rfl⟩
  obtain ⟨lm, hlm⟩ : ∃ lm, lm = R.limit := ⟨_, rfl⟩
  have HB := Lib.hid (barred_any w 0)
  have c0 : w.cell? ⟨g, 0, none⟩ = some (.bool true) := by rw [← hq]; exact hR.has.cell 0 rfl
  have HR := Lib.hid hR
  have HQ := Lib.hid hq
  clear hR hq
  rw [← hhd] at h1
  go_enter Try.func30, Try.ntmps30
  go_wp2_with fail
  refine HB.out.mono ?_
  rintro e w2 ⟨rfl, hb2⟩
  have hR2 := HR.out.below hb2
  have d0 : w2.cell? ⟨g, 0, none⟩ = some (.bool true) := by rw [← HQ.out]; exact hR2.has.cell 0 rfl
  have d6 : w2.cell? ⟨g, 6, none⟩ = some (.int .i64 1) := by rw [← h1, hhd]; exact hR2.has.cell 6 rfl
  clear hR2 hhd hlm h1
  go_wp2
  go_ret
  exact ⟨rfl, hb2⟩
set_option maxRecDepth 100000 in
set_option maxHeartbeats 1000000 in
theorem check_0c (w : World) {g : Nat} {R : Rd} {ba : Option Addr} {bc : Nat} (hR : RB w g R ba bc) (s : Int) (hq : R.req = true) (hn1 : ¬ R.heads = 1) :
    Calls Try.prog 30 #[.pointer (some ⟨g, 0, none⟩), .int .i64 0, .int .i64 s] w (IntOf w 170) := by
  obtain ⟨hd, hhd⟩ : ∃ hd, hd = R.heads := ⟨_, rfl⟩
  obtain ⟨lm, hlm⟩ : ∃ lm, lm = R.limit := ⟨_, rfl⟩
  have HB := Lib.hid (barred_any w 0)
  have c0 : w.cell? ⟨g, 0, none⟩ = some (.bool true) := by rw [← hq]; exact hR.has.cell 0 rfl
  have HR := Lib.hid hR
  have HQ := Lib.hid hq
  clear hR hq
  rw [← hhd] at hn1
  have hn1b : (hd == 1) = false := by simpa using hn1
  go_enter Try.func30, Try.ntmps30
  go_wp2_with fail
  refine HB.out.mono ?_
  rintro e w2 ⟨rfl, hb2⟩
  have hR2 := HR.out.below hb2
  have d0 : w2.cell? ⟨g, 0, none⟩ = some (.bool true) := by rw [← HQ.out]; exact hR2.has.cell 0 rfl
  have d6 : w2.cell? ⟨g, 6, none⟩ = some (.int .i64 hd) := by rw [hhd]; exact hR2.has.cell 6 rfl
  clear hR2 hhd hlm
  go_wp2
  go_ret
  exact ⟨rfl, hb2⟩
set_option maxRecDepth 100000 in
set_option maxHeartbeats 1000000 in
theorem check_0d (w : World) {g : Nat} {R : Rd} {ba : Option Addr} {bc : Nat} (hR : RB w g R ba bc) (s : Int) (hq : R.req = false) (hst : R.settled = true)  :
    Calls Try.prog 30 #[.pointer (some ⟨g, 0, none⟩), .int .i64 0, .int .i64 s] w (IntOf w 170) := by
  obtain ⟨hd, hhd⟩ : ∃ hd, hd = R.heads := ⟨_, rfl⟩
  obtain ⟨lm, hlm⟩ : ∃ lm, lm = R.limit := ⟨_, rfl⟩
  have HB := Lib.hid (barred_any w 0)
  have c0 : w.cell? ⟨g, 0, none⟩ = some (.bool false) := by rw [← hq]; exact hR.has.cell 0 rfl
  have c7 : w.cell? ⟨g, 7, none⟩ = some (.bool true) := by rw [← hst]; exact hR.has.cell 7 rfl
  have HR := Lib.hid hR
  have HQ := Lib.hid hq
  have HST := Lib.hid hst
  clear hR hq
  clear hst
  go_enter Try.func30, Try.ntmps30
  go_wp2_with fail
  refine HB.out.mono ?_
  rintro e w2 ⟨rfl, hb2⟩
  have hR2 := HR.out.below hb2
  have d0 : w2.cell? ⟨g, 0, none⟩ = some (.bool false) := by rw [← HQ.out]; exact hR2.has.cell 0 rfl
  have d7 : w2.cell? ⟨g, 7, none⟩ = some (.bool true) := by rw [← HST.out]; exact hR2.has.cell 7 rfl
  have d6 : w2.cell? ⟨g, 6, none⟩ = some (.int .i64 hd) := by rw [hhd]; exact hR2.has.cell 6 rfl
  clear hR2 hhd hlm
  go_wp2
  go_ret
  exact ⟨rfl, hb2⟩
set_option maxRecDepth 100000 in
set_option maxHeartbeats 1000000 in
theorem check_1a (w : World) {g : Nat} {R : Rd} {ba : Option Addr} {bc : Nat} (hR : RB w g R ba bc) (s : Int) (hq : R.req = true) (h2 : R.heads < 2) (hl : ¬ R.limit < s) :
    Calls Try.prog 30 #[.pointer (some ⟨g, 0, none⟩), .int .i64 1, .int .i64 s] w (IntOf w 0) := by
  obtain ⟨hd, hhd⟩ : ∃ hd, hd = R.heads := ⟨_, rfl⟩
  obtain ⟨lm, hlm⟩ : ∃ lm, lm = R.limit := ⟨_, rfl⟩
  have HB := Lib.hid (barred_any w 1)
  have c0 : w.cell? ⟨g, 0, none⟩ = some (.bool true) := by rw [← hq]; exact hR.has.cell 0 rfl
  have HR := Lib.hid hR
  have HQ := Lib.hid hq
  clear hR hq
  rw [← hhd] at h2
  rw [← hlm] at hl
  go_enter Try.func30, Try.ntmps30
  go_wp2_with fail
  refine HB.out.mono ?_
  rintro e w2 ⟨rfl, hb2⟩
  have hb3 := hb2.trans (below_drewN (Below.refl _ w2) 1 |>.mono hb2.size)
  have hR3 := HR.out.below hb3
  have d0 : w2.drew.cell? ⟨g, 0, none⟩ = some (.bool true) := by rw [← HQ.out]; exact hR3.has.cell 0 rfl
  have d1 : w2.drew.cell? ⟨g, 1, none⟩ = some (.int .i64 lm) := by rw [hlm]; exact hR3.has.cell 1 rfl
  have d6 : w2.drew.cell? ⟨g, 6, none⟩ = some (.int .i64 hd) := by rw [hhd]; exact hR3.has.cell 6 rfl
  have HB3 := Lib.hid hb3
  clear hb2 hb3 hR3 c0 hhd hlm
  go_wp2_with fail
  refine Mx.region [] (fun w' => w'.cell? ⟨g, 0, none⟩ = some (.bool true) ∧ w'.cell? ⟨g, 1, none⟩ = some (.int .i64 lm) ∧ w'.cell? ⟨g, 6, none⟩ = some (.int .i64 hd)) (by kernel_rfl) (by kernel_rfl) ⟨d0, d1, d6⟩ ?_
  repeat ((first | (refine Mx.skips (by kernel_rfl) ?_; go_big_quiet_skip) | (refine Mx.quietly rfl ?_; go_big_quiet_want; go_big_quiet_op; go_big_quiet_on)); refine Mx.done ?_)
  refine Mx.cell ⟨g, 0, none⟩ (.bool true) (by kernel_rfl) (by kernel_rfl) (by kernel_rfl) Try.isAgg4 (fun w' h => h.1) ?_
  go_big_quiet_want; go_big_quiet_op; go_big_quiet_on; refine Mx.done ?_
  repeat ((first | (refine Mx.skips (by kernel_rfl) ?_; go_big_quiet_skip) | (refine Mx.quietly rfl ?_; go_big_quiet_want; go_big_quiet_op; go_big_quiet_on)); refine Mx.done ?_)
  refine Mx.cell ⟨g, 6, none⟩ (.int .i64 hd) (by kernel_rfl) (by kernel_rfl) (by kernel_rfl) Try.isAgg3 (fun w' h => h.2.2) ?_
  go_big_quiet_want; go_big_quiet_op; go_big_quiet_on; refine Mx.done ?_
  repeat ((first | (refine Mx.skips (by kernel_rfl) ?_; go_big_quiet_skip) | (refine Mx.quietly rfl ?_; go_big_quiet_want; go_big_quiet_op; go_big_quiet_on)); refine Mx.done ?_)
  refine Mx.cell ⟨g, 1, none⟩ (.int .i64 lm) (by kernel_rfl) (by kernel_rfl) (by kernel_rfl) Try.isAgg3 (fun w' h => h.2.1) ?_
  go_big_quiet_want; go_big_quiet_op; go_big_quiet_on; refine Mx.done ?_
  repeat ((first | (refine Mx.skips (by kernel_rfl) ?_; go_big_quiet_skip) | (refine Mx.quietly rfl ?_; go_big_quiet_want; go_big_quiet_op; go_big_quiet_on)); refine Mx.done ?_)
  refine Mx.nil ?_
  go_wp2
  go_ret
  exact ⟨rfl, HB3.out⟩
set_option maxRecDepth 100000 in
set_option maxHeartbeats 1000000 in
theorem check_1b (w : World) {g : Nat} {R : Rd} {ba : Option Addr} {bc : Nat} (hR : RB w g R ba bc) (s : Int) (hq : R.req = true) (h2 : R.heads < 2) (hl : R.limit < s) :
    Calls Try.prog 30 #[.pointer (some ⟨g, 0, none⟩), .int .i64 1, .int .i64 s] w (IntOf w 151) := by
  obtain ⟨hd, hhd⟩ : ∃ hd, hd = R.heads := ⟨_, rfl⟩
  obtain ⟨lm, hlm⟩ : ∃ lm, lm = R.limit := ⟨_, rfl⟩
  have HB := Lib.hid (barred_any w 1)
  have c0 : w.cell? ⟨g, 0, none⟩ = some (.bool true) := by rw [← hq]; exact hR.has.cell 0 rfl
  have HR := Lib.hid hR
  have HQ := Lib.hid hq
  clear hR hq
  rw [← hhd] at h2
  rw [← hlm] at hl
  go_enter Try.func30, Try.ntmps30
  go_wp2_with fail
  refine HB.out.mono ?_
  rintro e w2 ⟨rfl, hb2⟩
  have hb3 := hb2.trans (below_drewN (Below.refl _ w2) 1 |>.mono hb2.size)
  have hR3 := HR.out.below hb3
  have d0 : w2.drew.cell? ⟨g, 0, none⟩ = some (.bool true) := by rw [← HQ.out]; exact hR3.has.cell 0 rfl
  have d1 : w2.drew.cell? ⟨g, 1, none⟩ = some (.int .i64 lm) := by rw [hlm]; exact hR3.has.cell 1 rfl
  have d6 : w2.drew.cell? ⟨g, 6, none⟩ = some (.int .i64 hd) := by rw [hhd]; exact hR3.has.cell 6 rfl
  have HB3 := Lib.hid hb3
  clear hb2 hb3 hR3 c0 hhd hlm
  go_wp2_with fail
  refine Mx.region [] (fun w' => w'.cell? ⟨g, 0, none⟩ = some (.bool true) ∧ w'.cell? ⟨g, 1, none⟩ = some (.int .i64 lm) ∧ w'.cell? ⟨g, 6, none⟩ = some (.int .i64 hd)) (by kernel_rfl) (by kernel_rfl) ⟨d0, d1, d6⟩ ?_
  repeat ((first | (refine Mx.skips (by kernel_rfl) ?_; go_big_quiet_skip) | (refine Mx.quietly rfl ?_; go_big_quiet_want; go_big_quiet_op; go_big_quiet_on)); refine Mx.done ?_)
  refine Mx.cell ⟨g, 0, none⟩ (.bool true) (by kernel_rfl) (by kernel_rfl) (by kernel_rfl) Try.isAgg4 (fun w' h => h.1) ?_
  go_big_quiet_want; go_big_quiet_op; go_big_quiet_on; refine Mx.done ?_
  repeat ((first | (refine Mx.skips (by kernel_rfl) ?_; go_big_quiet_skip) | (refine Mx.quietly rfl ?_; go_big_quiet_want; go_big_quiet_op; go_big_quiet_on)); refine Mx.done ?_)
  refine Mx.cell ⟨g, 6, none⟩ (.int .i64 hd) (by kernel_rfl) (by kernel_rfl) (by kernel_rfl) Try.isAgg3 (fun w' h => h.2.2) ?_
  go_big_quiet_want; go_big_quiet_op; go_big_quiet_on; refine Mx.done ?_
  repeat ((first | (refine Mx.skips (by kernel_rfl) ?_; go_big_quiet_skip) | (refine Mx.quietly rfl ?_; go_big_quiet_want; go_big_quiet_op; go_big_quiet_on)); refine Mx.done ?_)
  refine Mx.cell ⟨g, 1, none⟩ (.int .i64 lm) (by kernel_rfl) (by kernel_rfl) (by kernel_rfl) Try.isAgg3 (fun w' h => h.2.1) ?_
  go_big_quiet_want; go_big_quiet_op; go_big_quiet_on; refine Mx.done ?_
  repeat ((first | (refine Mx.skips (by kernel_rfl) ?_; go_big_quiet_skip) | (refine Mx.quietly rfl ?_; go_big_quiet_want; go_big_quiet_op; go_big_quiet_on)); refine Mx.done ?_)
  refine Mx.nil ?_
  go_wp2
  go_ret
  exact ⟨rfl, HB3.out⟩
set_option maxRecDepth 100000 in
set_option maxHeartbeats 1000000 in
theorem check_1c (w : World) {g : Nat} {R : Rd} {ba : Option Addr} {bc : Nat} (hR : RB w g R ba bc) (s : Int) (hq : R.req = true) (h2 : ¬ R.heads < 2) :
    Calls Try.prog 30 #[.pointer (some ⟨g, 0, none⟩), .int .i64 1, .int .i64 s] w (IntOf w 170) := by
  obtain ⟨hd, hhd⟩ : ∃ hd, hd = R.heads := ⟨_, rfl⟩
  obtain ⟨lm, hlm⟩ : ∃ lm, lm = R.limit := ⟨_, rfl⟩
  have HB := Lib.hid (barred_any w 1)
  have c0 : w.cell? ⟨g, 0, none⟩ = some (.bool true) := by rw [← hq]; exact hR.has.cell 0 rfl
  have HR := Lib.hid hR
  have HQ := Lib.hid hq
  clear hR hq
  rw [← hhd] at h2
  have h2b : decide (hd < 2) = false := by simpa using h2
  have h2c : 2 ≤ hd := by omega
  go_enter Try.func30, Try.ntmps30
  go_wp2_with fail
  refine HB.out.mono ?_
  rintro e w2 ⟨rfl, hb2⟩
  have hb3 := hb2.trans (below_drewN (Below.refl _ w2) 1 |>.mono hb2.size)
  have hR3 := HR.out.below hb3
  have d0 : w2.drew.cell? ⟨g, 0, none⟩ = some (.bool true) := by rw [← HQ.out]; exact hR3.has.cell 0 rfl
  have d1 : w2.drew.cell? ⟨g, 1, none⟩ = some (.int .i64 lm) := by rw [hlm]; exact hR3.has.cell 1 rfl
  have d6 : w2.drew.cell? ⟨g, 6, none⟩ = some (.int .i64 hd) := by rw [hhd]; exact hR3.has.cell 6 rfl
  have HB3 := Lib.hid hb3
  clear hb2 hb3 hR3 c0 hhd hlm
  go_wp2_with fail
  refine Mx.region [] (fun w' => w'.cell? ⟨g, 0, none⟩ = some (.bool true) ∧ w'.cell? ⟨g, 1, none⟩ = some (.int .i64 lm) ∧ w'.cell? ⟨g, 6, none⟩ = some (.int .i64 hd)) (by kernel_rfl) (by kernel_rfl) ⟨d0, d1, d6⟩ ?_
  repeat ((first | (refine Mx.skips (by kernel_rfl) ?_; go_big_quiet_skip) | (refine Mx.quietly rfl ?_; go_big_quiet_want; go_big_quiet_op; go_big_quiet_on)); refine Mx.done ?_)
  refine Mx.cell ⟨g, 0, none⟩ (.bool true) (by kernel_rfl) (by kernel_rfl) (by kernel_rfl) Try.isAgg4 (fun w' h => h.1) ?_
  go_big_quiet_want; go_big_quiet_op; go_big_quiet_on; refine Mx.done ?_
  repeat ((first | (refine Mx.skips (by kernel_rfl) ?_; go_big_quiet_skip) | (refine Mx.quietly rfl ?_; go_big_quiet_want; go_big_quiet_op; go_big_quiet_on)); refine Mx.done ?_)
  refine Mx.cell ⟨g, 6, none⟩ (.int .i64 hd) (by kernel_rfl) (by kernel_rfl) (by kernel_rfl) Try.isAgg3 (fun w' h => h.2.2) ?_
  go_big_quiet_want; go_big_quiet_op; go_big_quiet_on; refine Mx.done ?_
  repeat ((first | (refine Mx.skips (by kernel_rfl) ?_; go_big_quiet_skip) | (refine Mx.quietly rfl ?_; go_big_quiet_want; go_big_quiet_op; go_big_quiet_on)); refine Mx.done ?_)
  refine Mx.cell ⟨g, 1, none⟩ (.int .i64 lm) (by kernel_rfl) (by kernel_rfl) (by kernel_rfl) Try.isAgg3 (fun w' h => h.2.1) ?_
  go_big_quiet_want; go_big_quiet_op; go_big_quiet_on; refine Mx.done ?_
  repeat ((first | (refine Mx.skips (by kernel_rfl) ?_; go_big_quiet_skip) | (refine Mx.quietly rfl ?_; go_big_quiet_want; go_big_quiet_op; go_big_quiet_on)); refine Mx.done ?_)
  refine Mx.nil ?_
  go_wp2
  go_ret
  exact ⟨rfl, HB3.out⟩
set_option maxRecDepth 100000 in
set_option maxHeartbeats 1000000 in
theorem check_1d (w : World) {g : Nat} {R : Rd} {ba : Option Addr} {bc : Nat} (hR : RB w g R ba bc) (s : Int) (hq : R.req = false) (hst : R.settled = true)  :
    Calls Try.prog 30 #[.pointer (some ⟨g, 0, none⟩), .int .i64 1, .int .i64 s] w (IntOf w 170) := by
  obtain ⟨hd, hhd⟩ : ∃ hd, hd = R.heads := ⟨_, rfl⟩
  obtain ⟨lm, hlm⟩ : ∃ lm, lm = R.limit := ⟨_, rfl⟩
  have HB := Lib.hid (barred_any w 1)
  have c0 : w.cell? ⟨g, 0, none⟩ = some (.bool false) := by rw [← hq]; exact hR.has.cell 0 rfl
  have c7 : w.cell? ⟨g, 7, none⟩ = some (.bool true) := by rw [← hst]; exact hR.has.cell 7 rfl
  have HR := Lib.hid hR
  have HQ := Lib.hid hq
  have HST := Lib.hid hst
  clear hR hq
  clear hst
  go_enter Try.func30, Try.ntmps30
  go_wp2_with fail
  refine HB.out.mono ?_
  rintro e w2 ⟨rfl, hb2⟩
  have hb3 := hb2.trans (below_drewN (Below.refl _ w2) 1 |>.mono hb2.size)
  have hR3 := HR.out.below hb3
  have d0 : w2.drew.cell? ⟨g, 0, none⟩ = some (.bool false) := by rw [← HQ.out]; exact hR3.has.cell 0 rfl
  have d1 : w2.drew.cell? ⟨g, 1, none⟩ = some (.int .i64 lm) := by rw [hlm]; exact hR3.has.cell 1 rfl
  have d6 : w2.drew.cell? ⟨g, 6, none⟩ = some (.int .i64 hd) := by rw [hhd]; exact hR3.has.cell 6 rfl
  have HB3 := Lib.hid hb3
  clear hb2 hb3 hR3 c0 hhd hlm
  go_wp2_with fail
  refine Mx.region [] (fun w' => w'.cell? ⟨g, 0, none⟩ = some (.bool false) ∧ w'.cell? ⟨g, 1, none⟩ = some (.int .i64 lm) ∧ w'.cell? ⟨g, 6, none⟩ = some (.int .i64 hd)) (by kernel_rfl) (by kernel_rfl) ⟨d0, d1, d6⟩ ?_
  repeat ((first | (refine Mx.skips (by kernel_rfl) ?_; go_big_quiet_skip) | (refine Mx.quietly rfl ?_; go_big_quiet_want; go_big_quiet_op; go_big_quiet_on)); refine Mx.done ?_)
  refine Mx.cell ⟨g, 0, none⟩ (.bool false) (by kernel_rfl) (by kernel_rfl) (by kernel_rfl) Try.isAgg4 (fun w' h => h.1) ?_
  go_big_quiet_want; go_big_quiet_op; go_big_quiet_on; refine Mx.done ?_
  repeat ((first | (refine Mx.skips (by kernel_rfl) ?_; go_big_quiet_skip) | (refine Mx.quietly rfl ?_; go_big_quiet_want; go_big_quiet_op; go_big_quiet_on)); refine Mx.done ?_)
  refine Mx.cell ⟨g, 1, none⟩ (.int .i64 lm) (by kernel_rfl) (by kernel_rfl) (by kernel_rfl) Try.isAgg3 (fun w' h => h.2.1) ?_
  go_big_quiet_want; go_big_quiet_op; go_big_quiet_on; refine Mx.done ?_
  repeat ((first | (refine Mx.skips (by kernel_rfl) ?_; go_big_quiet_skip) | (refine Mx.quietly rfl ?_; go_big_quiet_want; go_big_quiet_op; go_big_quiet_on)); refine Mx.done ?_)
  refine Mx.nil ?_
  go_wp2
  go_ret
  exact ⟨rfl, HB3.out⟩
set_option maxRecDepth 100000 in
set_option maxHeartbeats 1000000 in
theorem check_4a (w : World) {g : Nat} {R : Rd} {ba : Option Addr} {bc : Nat} (hR : RB w g R ba bc) (s : Int) (hq : R.req = false) (hst : R.settled = false) (hs : ¬ 1024 < s) :
    Calls Try.prog 30 #[.pointer (some ⟨g, 0, none⟩), .int .i64 4, .int .i64 s] w (IntOf w 0) := by
  obtain ⟨hd, hhd⟩ : ∃ hd, hd = R.heads := ⟨_, rfl⟩
  obtain ⟨lm, hlm⟩ : ∃ lm, lm = R.limit := ⟨_, rfl⟩
  have HB := Lib.hid (barred_any w 4)
  have c0 : w.cell? ⟨g, 0, none⟩ = some (.bool false) := by rw [← hq]; exact hR.has.cell 0 rfl
  have c7 : w.cell? ⟨g, 7, none⟩ = some (.bool false) := by rw [← hst]; exact hR.has.cell 7 rfl
  have HR := Lib.hid hR
  have HQ := Lib.hid hq
  have HST := Lib.hid hst
  clear hR hq
  clear hst
  go_enter Try.func30, Try.ntmps30
  go_wp2_with fail
  refine HB.out.mono ?_
  rintro e w2 ⟨rfl, hb2⟩
  have hR2 := HR.out.below hb2
  have d0 : w2.cell? ⟨g, 0, none⟩ = some (.bool false) := by rw [← HQ.out]; exact hR2.has.cell 0 rfl
  have d7 : w2.cell? ⟨g, 7, none⟩ = some (.bool false) := by rw [← HST.out]; exact hR2.has.cell 7 rfl
  have d6 : w2.cell? ⟨g, 6, none⟩ = some (.int .i64 hd) := by rw [hhd]; exact hR2.has.cell 6 rfl
  clear hR2 hhd hlm
  go_wp2
  go_ret
  exact ⟨rfl, hb2⟩
set_option maxRecDepth 100000 in
set_option maxHeartbeats 1000000 in
theorem check_4b (w : World) {g : Nat} {R : Rd} {ba : Option Addr} {bc : Nat} (hR : RB w g R ba bc) (s : Int) (hq : R.req = false) (hst : R.settled = false) (hs : 1024 < s) :
    Calls Try.prog 30 #[.pointer (some ⟨g, 0, none⟩), .int .i64 4, .int .i64 s] w (IntOf w 151) := by
  obtain ⟨hd, hhd⟩ : ∃ hd, hd = R.heads := ⟨_, rfl⟩
  obtain ⟨lm, hlm⟩ : ∃ lm, lm = R.limit := ⟨_, rfl⟩
  have HB := Lib.hid (barred_any w 4)
  have c0 : w.cell? ⟨g, 0, none⟩ = some (.bool false) := by rw [← hq]; exact hR.has.cell 0 rfl
  have c7 : w.cell? ⟨g, 7, none⟩ = some (.bool false) := by rw [← hst]; exact hR.has.cell 7 rfl
  have HR := Lib.hid hR
  have HQ := Lib.hid hq
  have HST := Lib.hid hst
  clear hR hq
  clear hst
  go_enter Try.func30, Try.ntmps30
  go_wp2_with fail
  refine HB.out.mono ?_
  rintro e w2 ⟨rfl, hb2⟩
  have hR2 := HR.out.below hb2
  have d0 : w2.cell? ⟨g, 0, none⟩ = some (.bool false) := by rw [← HQ.out]; exact hR2.has.cell 0 rfl
  have d7 : w2.cell? ⟨g, 7, none⟩ = some (.bool false) := by rw [← HST.out]; exact hR2.has.cell 7 rfl
  have d6 : w2.cell? ⟨g, 6, none⟩ = some (.int .i64 hd) := by rw [hhd]; exact hR2.has.cell 6 rfl
  clear hR2 hhd hlm
  go_wp2
  go_ret
  exact ⟨rfl, hb2⟩
set_option maxRecDepth 100000 in
set_option maxHeartbeats 1000000 in
theorem check_4c (w : World) {g : Nat} {R : Rd} {ba : Option Addr} {bc : Nat} (hR : RB w g R ba bc) (s : Int) (hq : R.req = false) (hst : R.settled = true)  :
    Calls Try.prog 30 #[.pointer (some ⟨g, 0, none⟩), .int .i64 4, .int .i64 s] w (IntOf w 170) := by
  obtain ⟨hd, hhd⟩ : ∃ hd, hd = R.heads := ⟨_, rfl⟩
  obtain ⟨lm, hlm⟩ : ∃ lm, lm = R.limit := ⟨_, rfl⟩
  have HB := Lib.hid (barred_any w 4)
  have c0 : w.cell? ⟨g, 0, none⟩ = some (.bool false) := by rw [← hq]; exact hR.has.cell 0 rfl
  have c7 : w.cell? ⟨g, 7, none⟩ = some (.bool true) := by rw [← hst]; exact hR.has.cell 7 rfl
  have HR := Lib.hid hR
  have HQ := Lib.hid hq
  have HST := Lib.hid hst
  clear hR hq
  clear hst
  go_enter Try.func30, Try.ntmps30
  go_wp2_with fail
  refine HB.out.mono ?_
  rintro e w2 ⟨rfl, hb2⟩
  have hR2 := HR.out.below hb2
  have d0 : w2.cell? ⟨g, 0, none⟩ = some (.bool false) := by rw [← HQ.out]; exact hR2.has.cell 0 rfl
  have d7 : w2.cell? ⟨g, 7, none⟩ = some (.bool true) := by rw [← HST.out]; exact hR2.has.cell 7 rfl
  have d6 : w2.cell? ⟨g, 6, none⟩ = some (.int .i64 hd) := by rw [hhd]; exact hR2.has.cell 6 rfl
  clear hR2 hhd hlm
  go_wp2
  go_ret
  exact ⟨rfl, hb2⟩
set_option maxRecDepth 100000 in
set_option maxHeartbeats 1000000 in
theorem check_4d (w : World) {g : Nat} {R : Rd} {ba : Option Addr} {bc : Nat} (hR : RB w g R ba bc) (s : Int) (hq : R.req = true)  :
    Calls Try.prog 30 #[.pointer (some ⟨g, 0, none⟩), .int .i64 4, .int .i64 s] w (IntOf w 170) := by
  obtain ⟨hd, hhd⟩ : ∃ hd, hd = R.heads := ⟨_, rfl⟩
  obtain ⟨lm, hlm⟩ : ∃ lm, lm = R.limit := ⟨_, rfl⟩
  have HB := Lib.hid (barred_any w 4)
  have c0 : w.cell? ⟨g, 0, none⟩ = some (.bool true) := by rw [← hq]; exact hR.has.cell 0 rfl
  have HR := Lib.hid hR
  have HQ := Lib.hid hq
  clear hR hq
  go_enter Try.func30, Try.ntmps30
  go_wp2_with fail
  refine HB.out.mono ?_
  rintro e w2 ⟨rfl, hb2⟩
  have hR2 := HR.out.below hb2
  have d0 : w2.cell? ⟨g, 0, none⟩ = some (.bool true) := by rw [← HQ.out]; exact hR2.has.cell 0 rfl
  have d6 : w2.cell? ⟨g, 6, none⟩ = some (.int .i64 hd) := by rw [hhd]; exact hR2.has.cell 6 rfl
  clear hR2 hhd hlm
  go_wp2
  go_ret
  exact ⟨rfl, hb2⟩
set_option maxRecDepth 100000 in
set_option maxHeartbeats 1000000 in
theorem check_7a (w : World) {g : Nat} {R : Rd} {ba : Option Addr} {bc : Nat} (hR : RB w g R ba bc) (s : Int) (hq : R.req = false) (hst : R.settled = true) (hs : ¬ 1024 < s) :
    Calls Try.prog 30 #[.pointer (some ⟨g, 0, none⟩), .int .i64 7, .int .i64 s] w (IntOf w 0) := by
  obtain ⟨hd, hhd⟩ : ∃ hd, hd = R.heads := ⟨_, rfl⟩
  obtain ⟨lm, hlm⟩ : ∃ lm, lm = R.limit := ⟨_, rfl⟩
  have HB := Lib.hid (barred_any w 7)
  have c0 : w.cell? ⟨g, 0, none⟩ = some (.bool false) := by rw [← hq]; exact hR.has.cell 0 rfl
  have c7 : w.cell? ⟨g, 7, none⟩ = some (.bool true) := by rw [← hst]; exact hR.has.cell 7 rfl
  have HR := Lib.hid hR
  have HQ := Lib.hid hq
  have HST := Lib.hid hst
  clear hR hq
  clear hst
  go_enter Try.func30, Try.ntmps30
  go_wp2_with fail
  refine HB.out.mono ?_
  rintro e w2 ⟨rfl, hb2⟩
  have hR2 := HR.out.below hb2
  have d0 : w2.cell? ⟨g, 0, none⟩ = some (.bool false) := by rw [← HQ.out]; exact hR2.has.cell 0 rfl
  have d7 : w2.cell? ⟨g, 7, none⟩ = some (.bool true) := by rw [← HST.out]; exact hR2.has.cell 7 rfl
  have d6 : w2.cell? ⟨g, 6, none⟩ = some (.int .i64 hd) := by rw [hhd]; exact hR2.has.cell 6 rfl
  clear hR2 hhd hlm
  go_wp2
  go_ret
  exact ⟨rfl, hb2⟩
set_option maxRecDepth 100000 in
set_option maxHeartbeats 1000000 in
theorem check_7b (w : World) {g : Nat} {R : Rd} {ba : Option Addr} {bc : Nat} (hR : RB w g R ba bc) (s : Int) (hq : R.req = false) (hst : R.settled = true) (hs : 1024 < s) :
    Calls Try.prog 30 #[.pointer (some ⟨g, 0, none⟩), .int .i64 7, .int .i64 s] w (IntOf w 151) := by
  obtain ⟨hd, hhd⟩ : ∃ hd, hd = R.heads := ⟨_, rfl⟩
  obtain ⟨lm, hlm⟩ : ∃ lm, lm = R.limit := ⟨_, rfl⟩
  have HB := Lib.hid (barred_any w 7)
  have c0 : w.cell? ⟨g, 0, none⟩ = some (.bool false) := by rw [← hq]; exact hR.has.cell 0 rfl
  have c7 : w.cell? ⟨g, 7, none⟩ = some (.bool true) := by rw [← hst]; exact hR.has.cell 7 rfl
  have HR := Lib.hid hR
  have HQ := Lib.hid hq
  have HST := Lib.hid hst
  clear hR hq
  clear hst
  go_enter Try.func30, Try.ntmps30
  go_wp2_with fail
  refine HB.out.mono ?_
  rintro e w2 ⟨rfl, hb2⟩
  have hR2 := HR.out.below hb2
  have d0 : w2.cell? ⟨g, 0, none⟩ = some (.bool false) := by rw [← HQ.out]; exact hR2.has.cell 0 rfl
  have d7 : w2.cell? ⟨g, 7, none⟩ = some (.bool true) := by rw [← HST.out]; exact hR2.has.cell 7 rfl
  have d6 : w2.cell? ⟨g, 6, none⟩ = some (.int .i64 hd) := by rw [hhd]; exact hR2.has.cell 6 rfl
  clear hR2 hhd hlm
  go_wp2
  go_ret
  exact ⟨rfl, hb2⟩
set_option maxRecDepth 100000 in
set_option maxHeartbeats 1000000 in
theorem check_7d (w : World) {g : Nat} {R : Rd} {ba : Option Addr} {bc : Nat} (hR : RB w g R ba bc) (s : Int) (hq : R.req = true)  :
    Calls Try.prog 30 #[.pointer (some ⟨g, 0, none⟩), .int .i64 7, .int .i64 s] w (IntOf w 170) := by
  obtain ⟨hd, hhd⟩ : ∃ hd, hd = R.heads := ⟨_, rfl⟩
  obtain ⟨lm, hlm⟩ : ∃ lm, lm = R.limit := ⟨_, rfl⟩
  have HB := Lib.hid (barred_any w 7)
  have c0 : w.cell? ⟨g, 0, none⟩ = some (.bool true) := by rw [← hq]; exact hR.has.cell 0 rfl
  have HR := Lib.hid hR
  have HQ := Lib.hid hq
  clear hR hq
  go_enter Try.func30, Try.ntmps30
  go_wp2_with fail
  refine HB.out.mono ?_
  rintro e w2 ⟨rfl, hb2⟩
  have hR2 := HR.out.below hb2
  have d0 : w2.cell? ⟨g, 0, none⟩ = some (.bool true) := by rw [← HQ.out]; exact hR2.has.cell 0 rfl
  have d6 : w2.cell? ⟨g, 6, none⟩ = some (.int .i64 hd) := by rw [hhd]; exact hR2.has.cell 6 rfl
  clear hR2 hhd hlm
  go_wp2
  go_ret
  exact ⟨rfl, hb2⟩
set_option maxRecDepth 100000 in
set_option maxHeartbeats 1000000 in
theorem check_13a (w : World) {g : Nat} {R : Rd} {ba : Option Addr} {bc : Nat} (hR : RB w g R ba bc) (s : Int) (hq : R.req = false) (hst : R.settled = true) (hs : ¬ 1024 < s) :
    Calls Try.prog 30 #[.pointer (some ⟨g, 0, none⟩), .int .i64 13, .int .i64 s] w (IntOf w 0) := by
  obtain ⟨hd, hhd⟩ : ∃ hd, hd = R.heads := ⟨_, rfl⟩
  obtain ⟨lm, hlm⟩ : ∃ lm, lm = R.limit := ⟨_, rfl⟩
  have HB := Lib.hid (barred_any w 13)
  have c0 : w.cell? ⟨g, 0, none⟩ = some (.bool false) := by rw [← hq]; exact hR.has.cell 0 rfl
  have c7 : w.cell? ⟨g, 7, none⟩ = some (.bool true) := by rw [← hst]; exact hR.has.cell 7 rfl
  have HR := Lib.hid hR
  have HQ := Lib.hid hq
  have HST := Lib.hid hst
  clear hR hq
  clear hst
  go_enter Try.func30, Try.ntmps30
  go_wp2_with fail
  refine HB.out.mono ?_
  rintro e w2 ⟨rfl, hb2⟩
  have hR2 := HR.out.below hb2
  have d0 : w2.cell? ⟨g, 0, none⟩ = some (.bool false) := by rw [← HQ.out]; exact hR2.has.cell 0 rfl
  have d7 : w2.cell? ⟨g, 7, none⟩ = some (.bool true) := by rw [← HST.out]; exact hR2.has.cell 7 rfl
  have d6 : w2.cell? ⟨g, 6, none⟩ = some (.int .i64 hd) := by rw [hhd]; exact hR2.has.cell 6 rfl
  clear hR2 hhd hlm
  go_wp2
  go_ret
  exact ⟨rfl, hb2⟩
set_option maxRecDepth 100000 in
set_option maxHeartbeats 1000000 in
theorem check_13b (w : World) {g : Nat} {R : Rd} {ba : Option Addr} {bc : Nat} (hR : RB w g R ba bc) (s : Int) (hq : R.req = false) (hst : R.settled = true) (hs : 1024 < s) :
    Calls Try.prog 30 #[.pointer (some ⟨g, 0, none⟩), .int .i64 13, .int .i64 s] w (IntOf w 151) := by
  obtain ⟨hd, hhd⟩ : ∃ hd, hd = R.heads := ⟨_, rfl⟩
  obtain ⟨lm, hlm⟩ : ∃ lm, lm = R.limit := ⟨_, rfl⟩
  have HB := Lib.hid (barred_any w 13)
  have c0 : w.cell? ⟨g, 0, none⟩ = some (.bool false) := by rw [← hq]; exact hR.has.cell 0 rfl
  have c7 : w.cell? ⟨g, 7, none⟩ = some (.bool true) := by rw [← hst]; exact hR.has.cell 7 rfl
  have HR := Lib.hid hR
  have HQ := Lib.hid hq
  have HST := Lib.hid hst
  clear hR hq
  clear hst
  go_enter Try.func30, Try.ntmps30
  go_wp2_with fail
  refine HB.out.mono ?_
  rintro e w2 ⟨rfl, hb2⟩
  have hR2 := HR.out.below hb2
  have d0 : w2.cell? ⟨g, 0, none⟩ = some (.bool false) := by rw [← HQ.out]; exact hR2.has.cell 0 rfl
  have d7 : w2.cell? ⟨g, 7, none⟩ = some (.bool true) := by rw [← HST.out]; exact hR2.has.cell 7 rfl
  have d6 : w2.cell? ⟨g, 6, none⟩ = some (.int .i64 hd) := by rw [hhd]; exact hR2.has.cell 6 rfl
  clear hR2 hhd hlm
  go_wp2
  go_ret
  exact ⟨rfl, hb2⟩
set_option maxRecDepth 100000 in
set_option maxHeartbeats 1000000 in
theorem check_13d (w : World) {g : Nat} {R : Rd} {ba : Option Addr} {bc : Nat} (hR : RB w g R ba bc) (s : Int) (hq : R.req = true)  :
    Calls Try.prog 30 #[.pointer (some ⟨g, 0, none⟩), .int .i64 13, .int .i64 s] w (IntOf w 170) := by
  obtain ⟨hd, hhd⟩ : ∃ hd, hd = R.heads := ⟨_, rfl⟩
  obtain ⟨lm, hlm⟩ : ∃ lm, lm = R.limit := ⟨_, rfl⟩
  have HB := Lib.hid (barred_any w 13)
  have c0 : w.cell? ⟨g, 0, none⟩ = some (.bool true) := by rw [← hq]; exact hR.has.cell 0 rfl
  have HR := Lib.hid hR
  have HQ := Lib.hid hq
  clear hR hq
  go_enter Try.func30, Try.ntmps30
  go_wp2_with fail
  refine HB.out.mono ?_
  rintro e w2 ⟨rfl, hb2⟩
  have hR2 := HR.out.below hb2
  have d0 : w2.cell? ⟨g, 0, none⟩ = some (.bool true) := by rw [← HQ.out]; exact hR2.has.cell 0 rfl
  have d6 : w2.cell? ⟨g, 6, none⟩ = some (.int .i64 hd) := by rw [hhd]; exact hR2.has.cell 6 rfl
  clear hR2 hhd hlm
  go_wp2
  go_ret
  exact ⟨rfl, hb2⟩
set_option maxRecDepth 100000 in
set_option maxHeartbeats 1000000 in
theorem check_bT (w : World) {g : Nat} {R : Rd} {ba : Option Addr} {bc : Nat} (hR : RB w g R ba bc) (k : Int) (s : Int) (hq : R.req = true) (hk4 : k ≠ 4) (hb : barB k = true) :
    Calls Try.prog 30 #[.pointer (some ⟨g, 0, none⟩), .int .i64 k, .int .i64 s] w (IntOf w 170) := by
  obtain ⟨hd, hhd⟩ : ∃ hd, hd = R.heads := ⟨_, rfl⟩
  obtain ⟨lm, hlm⟩ : ∃ lm, lm = R.limit := ⟨_, rfl⟩
  have HB := Lib.hid (barred_any w k)
  have c0 : w.cell? ⟨g, 0, none⟩ = some (.bool true) := by rw [← hq]; exact hR.has.cell 0 rfl
  have HR := Lib.hid hR
  have HQ := Lib.hid hq
  clear hR hq
  have k4 : ((k : Int) == 4) = false := by simpa using hk4
  clear hk4
  rw [hb] at HB
  clear hb
  go_enter Try.func30, Try.ntmps30
  go_wp2_with fail
  refine HB.out.mono ?_
  rintro e w2 ⟨rfl, hb2⟩
  have hR2 := HR.out.below hb2
  have d0 : w2.cell? ⟨g, 0, none⟩ = some (.bool true) := by rw [← HQ.out]; exact hR2.has.cell 0 rfl
  have d6 : w2.cell? ⟨g, 6, none⟩ = some (.int .i64 hd) := by rw [hhd]; exact hR2.has.cell 6 rfl
  clear hR2 hhd hlm
  go_wp2
  go_ret
  exact ⟨rfl, hb2⟩
set_option maxRecDepth 100000 in
set_option maxHeartbeats 1000000 in
theorem check_nT (w : World) {g : Nat} {R : Rd} {ba : Option Addr} {bc : Nat} (hR : RB w g R ba bc) (k : Int) (s : Int) (hq : R.req = true) (hk : ¬ (k = 0 ∨ k = 1 ∨ k = 4 ∨ k = 7 ∨ k = 13)) (hb : barB k = false) (hs : ¬ 4611686018427387903 < s) :
    Calls Try.prog 30 #[.pointer (some ⟨g, 0, none⟩), .int .i64 k, .int .i64 s] w (IntOf w 0) := by
  obtain ⟨hd, hhd⟩ : ∃ hd, hd = R.heads := ⟨_, rfl⟩
  obtain ⟨lm, hlm⟩ : ∃ lm, lm = R.limit := ⟨_, rfl⟩
  have HB := Lib.hid (barred_any w k)
  have c0 : w.cell? ⟨g, 0, none⟩ = some (.bool true) := by rw [← hq]; exact hR.has.cell 0 rfl
  have HR := Lib.hid hR
  have HQ := Lib.hid hq
  clear hR hq
  have k0 : ((k : Int) == 0) = false := by simp; omega
  have k1 : ((k : Int) == 1) = false := by simp; omega
  have k4 : ((k : Int) == 4) = false := by simp; omega
  have k7 : ((k : Int) == 7) = false := by simp; omega
  have k13 : ((k : Int) == 13) = false := by simp; omega
  clear hk
  rw [hb] at HB
  clear hb
  go_enter Try.func30, Try.ntmps30
  go_wp2_with fail
  refine HB.out.mono ?_
  rintro e w2 ⟨rfl, hb2⟩
  have hR2 := HR.out.below hb2
  have d0 : w2.cell? ⟨g, 0, none⟩ = some (.bool true) := by rw [← HQ.out]; exact hR2.has.cell 0 rfl
  have d6 : w2.cell? ⟨g, 6, none⟩ = some (.int .i64 hd) := by rw [hhd]; exact hR2.has.cell 6 rfl
  clear hR2 hhd hlm
  go_wp2
  go_ret
  exact ⟨rfl, hb2⟩
set_option maxRecDepth 100000 in
set_option maxHeartbeats 1000000 in
theorem check_mT (w : World) {g : Nat} {R : Rd} {ba : Option Addr} {bc : Nat} (hR : RB w g R ba bc) (k : Int) (s : Int) (hq : R.req = true) (hk : ¬ (k = 0 ∨ k = 1 ∨ k = 4 ∨ k = 7 ∨ k = 13)) (hb : barB k = false) (hs : 4611686018427387903 < s) :
    Calls Try.prog 30 #[.pointer (some ⟨g, 0, none⟩), .int .i64 k, .int .i64 s] w (IntOf w 151) := by
  obtain ⟨hd, hhd⟩ : ∃ hd, hd = R.heads := ⟨_, rfl⟩
  obtain ⟨lm, hlm⟩ : ∃ lm, lm = R.limit := ⟨_, rfl⟩
  have HB := Lib.hid (barred_any w k)
  have c0 : w.cell? ⟨g, 0, none⟩ = some (.bool true) := by rw [← hq]; exact hR.has.cell 0 rfl
  have HR := Lib.hid hR
  have HQ := Lib.hid hq
  clear hR hq
  have k0 : ((k : Int) == 0) = false := by simp; omega
  have k1 : ((k : Int) == 1) = false := by simp; omega
  have k4 : ((k : Int) == 4) = false := by simp; omega
  have k7 : ((k : Int) == 7) = false := by simp; omega
  have k13 : ((k : Int) == 13) = false := by simp; omega
  clear hk
  rw [hb] at HB
  clear hb
  go_enter Try.func30, Try.ntmps30
  go_wp2_with fail
  refine HB.out.mono ?_
  rintro e w2 ⟨rfl, hb2⟩
  have hR2 := HR.out.below hb2
  have d0 : w2.cell? ⟨g, 0, none⟩ = some (.bool true) := by rw [← HQ.out]; exact hR2.has.cell 0 rfl
  have d6 : w2.cell? ⟨g, 6, none⟩ = some (.int .i64 hd) := by rw [hhd]; exact hR2.has.cell 6 rfl
  clear hR2 hhd hlm
  go_wp2
  go_ret
  exact ⟨rfl, hb2⟩
set_option maxRecDepth 100000 in
set_option maxHeartbeats 1000000 in
theorem check_bF (w : World) {g : Nat} {R : Rd} {ba : Option Addr} {bc : Nat} (hR : RB w g R ba bc) (k : Int) (s : Int) (hq : R.req = false) (hst : R.settled = true) (hk4 : k ≠ 4) (hb : barB k = true) :
    Calls Try.prog 30 #[.pointer (some ⟨g, 0, none⟩), .int .i64 k, .int .i64 s] w (IntOf w 170) := by
  obtain ⟨hd, hhd⟩ : ∃ hd, hd = R.heads := ⟨_, rfl⟩
  obtain ⟨lm, hlm⟩ : ∃ lm, lm = R.limit := ⟨_, rfl⟩
  have HB := Lib.hid (barred_any w k)
  have c0 : w.cell? ⟨g, 0, none⟩ = some (.bool false) := by rw [← hq]; exact hR.has.cell 0 rfl
  have c7 : w.cell? ⟨g, 7, none⟩ = some (.bool true) := by rw [← hst]; exact hR.has.cell 7 rfl
  have HR := Lib.hid hR
  have HQ := Lib.hid hq
  have HST := Lib.hid hst
  clear hR hq
  clear hst
  have k4 : ((k : Int) == 4) = false := by simpa using hk4
  clear hk4
  rw [hb] at HB
  clear hb
  go_enter Try.func30, Try.ntmps30
  go_wp2_with fail
  refine HB.out.mono ?_
  rintro e w2 ⟨rfl, hb2⟩
  have hR2 := HR.out.below hb2
  have d0 : w2.cell? ⟨g, 0, none⟩ = some (.bool false) := by rw [← HQ.out]; exact hR2.has.cell 0 rfl
  have d7 : w2.cell? ⟨g, 7, none⟩ = some (.bool true) := by rw [← HST.out]; exact hR2.has.cell 7 rfl
  have d6 : w2.cell? ⟨g, 6, none⟩ = some (.int .i64 hd) := by rw [hhd]; exact hR2.has.cell 6 rfl
  clear hR2 hhd hlm
  go_wp2
  go_ret
  exact ⟨rfl, hb2⟩
set_option maxRecDepth 100000 in
set_option maxHeartbeats 1000000 in
theorem check_nF (w : World) {g : Nat} {R : Rd} {ba : Option Addr} {bc : Nat} (hR : RB w g R ba bc) (k : Int) (s : Int) (hq : R.req = false) (hst : R.settled = true) (hk : ¬ (k = 0 ∨ k = 1 ∨ k = 4 ∨ k = 7 ∨ k = 13)) (hb : barB k = false) (hs : ¬ 4611686018427387903 < s) :
    Calls Try.prog 30 #[.pointer (some ⟨g, 0, none⟩), .int .i64 k, .int .i64 s] w (IntOf w 0) := by
  obtain ⟨hd, hhd⟩ : ∃ hd, hd = R.heads := ⟨_, rfl⟩
  obtain ⟨lm, hlm⟩ : ∃ lm, lm = R.limit := ⟨_, rfl⟩
  have HB := Lib.hid (barred_any w k)
  have c0 : w.cell? ⟨g, 0, none⟩ = some (.bool false) := by rw [← hq]; exact hR.has.cell 0 rfl
  have c7 : w.cell? ⟨g, 7, none⟩ = some (.bool true) := by rw [← hst]; exact hR.has.cell 7 rfl
  have HR := Lib.hid hR
  have HQ := Lib.hid hq
  have HST := Lib.hid hst
  clear hR hq
  clear hst
  have k0 : ((k : Int) == 0) = false := by simp; omega
  have k1 : ((k : Int) == 1) = false := by simp; omega
  have k4 : ((k : Int) == 4) = false := by simp; omega
  have k7 : ((k : Int) == 7) = false := by simp; omega
  have k13 : ((k : Int) == 13) = false := by simp; omega
  clear hk
  rw [hb] at HB
  clear hb
  go_enter Try.func30, Try.ntmps30
  go_wp2_with fail
  refine HB.out.mono ?_
  rintro e w2 ⟨rfl, hb2⟩
  have hR2 := HR.out.below hb2
  have d0 : w2.cell? ⟨g, 0, none⟩ = some (.bool false) := by rw [← HQ.out]; exact hR2.has.cell 0 rfl
  have d7 : w2.cell? ⟨g, 7, none⟩ = some (.bool true) := by rw [← HST.out]; exact hR2.has.cell 7 rfl
  have d6 : w2.cell? ⟨g, 6, none⟩ = some (.int .i64 hd) := by rw [hhd]; exact hR2.has.cell 6 rfl
  clear hR2 hhd hlm
  go_wp2
  go_ret
  exact ⟨rfl, hb2⟩
set_option maxRecDepth 100000 in
set_option maxHeartbeats 1000000 in
theorem check_mF (w : World) {g : Nat} {R : Rd} {ba : Option Addr} {bc : Nat} (hR : RB w g R ba bc) (k : Int) (s : Int) (hq : R.req = false) (hst : R.settled = true) (hk : ¬ (k = 0 ∨ k = 1 ∨ k = 4 ∨ k = 7 ∨ k = 13)) (hb : barB k = false) (hs : 4611686018427387903 < s) :
    Calls Try.prog 30 #[.pointer (some ⟨g, 0, none⟩), .int .i64 k, .int .i64 s] w (IntOf w 151) := by
  obtain ⟨hd, hhd⟩ : ∃ hd, hd = R.heads := ⟨_, rfl⟩
  obtain ⟨lm, hlm⟩ : ∃ lm, lm = R.limit := ⟨_, rfl⟩
  have HB := Lib.hid (barred_any w k)
  have c0 : w.cell? ⟨g, 0, none⟩ = some (.bool false) := by rw [← hq]; exact hR.has.cell 0 rfl
  have c7 : w.cell? ⟨g, 7, none⟩ = some (.bool true) := by rw [← hst]; exact hR.has.cell 7 rfl
  have HR := Lib.hid hR
  have HQ := Lib.hid hq
  have HST := Lib.hid hst
  clear hR hq
  clear hst
  have k0 : ((k : Int) == 0) = false := by simp; omega
  have k1 : ((k : Int) == 1) = false := by simp; omega
  have k4 : ((k : Int) == 4) = false := by simp; omega
  have k7 : ((k : Int) == 7) = false := by simp; omega
  have k13 : ((k : Int) == 13) = false := by simp; omega
  clear hk
  rw [hb] at HB
  clear hb
  go_enter Try.func30, Try.ntmps30
  go_wp2_with fail
  refine HB.out.mono ?_
  rintro e w2 ⟨rfl, hb2⟩
  have hR2 := HR.out.below hb2
  have d0 : w2.cell? ⟨g, 0, none⟩ = some (.bool false) := by rw [← HQ.out]; exact hR2.has.cell 0 rfl
  have d7 : w2.cell? ⟨g, 7, none⟩ = some (.bool true) := by rw [← HST.out]; exact hR2.has.cell 7 rfl
  have d6 : w2.cell? ⟨g, 6, none⟩ = some (.int .i64 hd) := by rw [hhd]; exact hR2.has.cell 6 rfl
  clear hR2 hhd hlm
  go_wp2
  go_ret
  exact ⟨rfl, hb2⟩

theorem check_any (w : World) {g : Nat} {R : Rd} {ba : Option Addr} {bc : Nat} (hR : RB w g R ba bc) (k s : Int) :
    Calls Try.prog 30 #[.pointer (some ⟨g, 0, none⟩), .int .i64 k, .int .i64 s] w (IntOf w (chk R k s)) := by
  by_cases hx : R.req = false ∧ R.settled = false ∧ k ≠ 4
  · have e : chk R k s = 171 := by unfold chk; rw [if_pos hx]
    rw [e]; exact check_x w hR k s hx.1 hx.2.1 hx.2.2
  by_cases hb : barB k = true
  · have e : chk R k s = 170 := by unfold chk; rw [if_neg hx, if_pos hb]
    rw [e]
    have hk4 : k ≠ 4 := fun h => by rw [h] at hb; exact absurd hb (by decide)
    cases hq : R.req with
    | true => exact check_bT w hR k s hq hk4 hb
    | false =>
      cases hst : R.settled with
      | true => exact check_bF w hR k s hq hst hk4 hb
      | false => exact absurd ⟨hq, hst, hk4⟩ hx
  have e : chk R k s = if (okMost R k).1 = false then 170 else if (okMost R k).2 < s then 151 else 0 := by unfold chk; rw [if_neg hx, if_neg hb]
  rw [e]
  clear e
  by_cases k0 : k = 0
  · subst k0
    cases hq : R.req with
    | true =>
      by_cases h1 : R.heads = 1
      · have e1 : okMost R 0 = (true, 4611686018427387903) := by unfold okMost; rw [if_pos rfl, hq, h1]; rfl
        rw [e1]
        by_cases hs : 4611686018427387903 < s
        · simp only [if_pos hs]; exact check_0b w hR s hq h1 hs
        · simp only [if_neg hs]; exact check_0a w hR s hq h1 hs
      · have e1 : okMost R 0 = (false, 4611686018427387903) := by unfold okMost; rw [if_pos rfl, hq]; simp [h1]
        rw [e1]; exact check_0c w hR s hq h1
    | false =>
      have hst : R.settled = true := by cases hst : R.settled with
        | true => rfl
        | false => exact absurd ⟨hq, hst, by decide⟩ hx
      have e1 : okMost R 0 = (false, 4611686018427387903) := by unfold okMost; rw [if_pos rfl, hq]; rfl
      rw [e1]; exact check_0d w hR s hq hst
  by_cases k1 : k = 1
  · subst k1
    cases hq : R.req with
    | true =>
      by_cases h1 : R.heads < 2
      · have e1 : okMost R 1 = (true, R.limit) := by unfold okMost; rw [if_neg (by decide), if_pos rfl, hq, decide_eq_true h1]; rfl
        rw [e1]
        by_cases hs : R.limit < s
        · simp only [if_pos hs]; exact check_1b w hR s hq h1 hs
        · simp only [if_neg hs]; exact check_1a w hR s hq h1 hs
      · have e1 : okMost R 1 = (false, R.limit) := by unfold okMost; rw [if_neg (by decide), if_pos rfl, hq, decide_eq_false h1]; rfl
        rw [e1]; exact check_1c w hR s hq h1
    | false =>
      have hst : R.settled = true := by cases hst : R.settled with
        | true => rfl
        | false => exact absurd ⟨hq, hst, by decide⟩ hx
      have e1 : okMost R 1 = (false, R.limit) := by unfold okMost; rw [if_neg (by decide), if_pos rfl, hq]; rfl
      rw [e1]; exact check_1d w hR s hq hst
  by_cases k4 : k = 4
  · subst k4
    have e0 : okMost R 4 = (!R.req && !R.settled, 1024) := by unfold okMost; rw [if_neg (by decide), if_neg (by decide), if_pos rfl]
    rw [e0]
    cases hq : R.req with
    | true => exact check_4d w hR s hq
    | false =>
      cases hst : R.settled with
      | true => exact check_4c w hR s hq hst
      | false =>
        by_cases hs : 1024 < s
        · simp only [if_pos hs]; exact check_4b w hR s hq hst hs
        · simp only [if_neg hs]; exact check_4a w hR s hq hst hs
  by_cases k7 : k = 7
  · subst k7
    have e0 : okMost R 7 = (!R.req, 1024) := by unfold okMost; rw [if_neg (by decide), if_neg (by decide), if_neg (by decide), if_pos (.inl rfl)]
    rw [e0]
    cases hq : R.req with
    | true => exact check_7d w hR s hq
    | false =>
      have hst : R.settled = true := by cases hst : R.settled with
        | true => rfl
        | false => exact absurd ⟨hq, hst, by decide⟩ hx
      by_cases hs : 1024 < s
      · simp only [if_pos hs]; exact check_7b w hR s hq hst hs
      · simp only [if_neg hs]; exact check_7a w hR s hq hst hs
  by_cases k13 : k = 13
  · subst k13
    have e0 : okMost R 13 = (!R.req, 1024) := by unfold okMost; rw [if_neg (by decide), if_neg (by decide), if_neg (by decide), if_pos (.inr rfl)]
    rw [e0]
    cases hq : R.req with
    | true => exact check_13d w hR s hq
    | false =>
      have hst : R.settled = true := by cases hst : R.settled with
        | true => rfl
        | false => exact absurd ⟨hq, hst, by decide⟩ hx
      by_cases hs : 1024 < s
      · simp only [if_pos hs]; exact check_13b w hR s hq hst hs
      · simp only [if_neg hs]; exact check_13a w hR s hq hst hs
  have e0 : okMost R k = (true, 4611686018427387903) := by unfold okMost; rw [if_neg k0, if_neg k1, if_neg k4, if_neg (by omega)]
  rw [e0]
  have hkk : ¬ (k = 0 ∨ k = 1 ∨ k = 4 ∨ k = 7 ∨ k = 13) := by omega
  have hbf : barB k = false := by simpa using hb
  cases hq : R.req with
  | true =>
    by_cases hs : 4611686018427387903 < s
    · simp only [if_pos hs]; exact check_mT w hR k s hq hkk hbf hs
    · simp only [if_neg hs]; exact check_nT w hR k s hq hkk hbf hs
  | false =>
    have hst : R.settled = true := by cases hst : R.settled with
      | true => rfl
      | false => exact absurd ⟨hq, hst, k4⟩ hx
    by_cases hs : 4611686018427387903 < s
    · simp only [if_pos hs]; exact check_mF w hR k s hq hst hkk hbf hs
    · simp only [if_neg hs]; exact check_nF w hR k s hq hst hkk hbf hs
end Go.Proofs.Ytbplmnmkgkgkhaa

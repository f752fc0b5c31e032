/- Loss detection: contracts of Ack, where it is refused. -/
import Derived.Test.YtkpeegcpicckjaaLsDrop
import Derived.Test.YtkpeegcpicckjaaLsRight
namespace Go.Proofs.Ytkpeegcpicckjaa
open Go.RowKit

def AckErr (w : World) (z : Int) (e : Ending) (w' : World) : Prop := e = .returned (.tuple #[.slice none 0 0, .slice none 0 0, .int .i64 z]) ∧ Below w.heap.size w w'
theorem ack_space (w : World) {g : Nat} (s delay now : Int) (a : Option Addr) (n c : Nat) (h : ¬ (0 ≤ s ∧ s ≤ 2)) :
    Calls Try.prog 15 #[.pointer (some ⟨g, 0, none⟩), .int .i64 s, .slice a n c, .int .i64 delay, .int .i64 now] w (AckErr w 110) := by
  have halw : Below w.heap.size w (w.alloc (.cells #[.slice a n c] 40)) := (Below.refl _ _).alloc (Nat.le_refl _) _
  have HS : Hid (∀ w', Calls Try.prog 21 #[.int .i64 s] w' fun e w'' => e = .returned (.bool false) ∧ w' = w'') := Lib.hid (fun w' => by have := rightSpace_any w' s; rwa [decide_eq_false h] at this)
  clear h
  go_enter Try.func15, Try.ntmps15
  go_wp2_with fail
  refine (HS.out _).mono ?_
  rintro e w2 ⟨rfl, rfl⟩
  go_wp2
  go_ret3
  exact ⟨rfl, halw⟩
theorem ack_time (w : World) {F : Nat → Prop} {g : Nat} {L : Lo} (hL : LAt F w g L) (s delay now : Int) (a : Option Addr) (n c : Nat) (h : 0 ≤ s ∧ s ≤ 2) (ht : ¬ (L.now ≤ now ∧ now ≤ 1099511627776)) :
    Calls Try.prog 15 #[.pointer (some ⟨g, 0, none⟩), .int .i64 s, .slice a n c, .int .i64 delay, .int .i64 now] w (AckErr w 112) := by
  have halw : Below w.heap.size w (w.alloc (.cells #[.slice a n c] 40)) := (Below.refl _ _).alloc (Nat.le_refl _) _
  have HS : Hid (∀ w', Calls Try.prog 21 #[.int .i64 s] w' fun e w'' => e = .returned (.bool true) ∧ w' = w'') := Lib.hid (fun w' => by have := rightSpace_any w' s; rwa [decide_eq_true h] at this)
  have HT := Lib.hid (rightTime_any _ (hL.below halw) now)
  rw [decide_eq_false ht] at HT
  clear h ht hL
  go_enter Try.func15, Try.ntmps15
  go_wp2_with fail
  refine (HS.out _).mono ?_
  rintro e w2 ⟨rfl, rfl⟩
  go_wp2_with fail
  refine HT.out.mono ?_
  rintro e w3 ⟨rfl, rfl⟩
  go_wp2
  go_ret3
  exact ⟨rfl, halw⟩

set_option maxRecDepth 100000 in
set_option maxHeartbeats 4000000 in
theorem ack_spans0 (w : World) {F : Nat → Prop} {g : Nat} {L : Lo} (hL : LAt F w g L) (hh : 0 ≤ L.s0.high ∧ L.s0.high ≤ 4611686018427387903) {B : Nat} {a : Option Addr} {c : Nat} {l : List Sn} (hS : Sps w B a c l) (hl : l.length ≤ 1152921504606846976) (delay now : Int) (ht : L.now ≤ now ∧ now ≤ 1099511627776) (hr : rightS l L.s0.high = false) :
    Calls Try.prog 15 #[.pointer (some ⟨g, 0, none⟩), .int .i64 0, .slice a l.length c, .int .i64 delay, .int .i64 now] w (AckErr w 111) := by
  have HSpc : Hid (∀ w', Calls Try.prog 21 #[.int .i64 0] w' fun e w'' => e = .returned (.bool true) ∧ w' = w'') := Lib.hid (fun w' => rightSpace_any w' 0)
  have halw : Below w.heap.size w (w.alloc (.cells #[.slice a l.length c] 40)) := (Below.refl _ _).alloc (Nat.le_refl _) _
  have Hbx : Has (w.alloc (.cells #[.slice a l.length c] 40)) w.heap.size 40 [.slice a l.length c] := Has.new _ _ _
  obtain ⟨wa, hwa⟩ : ∃ wa, wa = w.alloc (.cells #[.slice a l.length c] 40) := ⟨_, rfl⟩
  rw [← hwa] at halw Hbx
  have La := hL.below halw
  have Sa : Sps wa B a c l := own_below hS halw
  have HT := Lib.hid (rightTime_any wa La now)
  rw [decide_eq_true ht] at HT
  have HRs := Lib.hid (fun w' (hb : Below wa.heap.size wa w') => rightSpans_any w' (own_below Sa hb : Sps w' B a c l) hl L.s0.high hh)
  rw [hr] at HRs
  have bx := Hbx.cell 0 rfl
  have hhigh : wa.cell? ⟨g, 2, none⟩ = some (.int .i64 L.s0.high) := (La.cell 2 (fun _ _ _ _ _ _ => rfl)).1
  have hcs : True ∨ False := .inl trivial
  clear hL ht hr La Sa Hbx hS hh
  rcases hcs with _ | hno
  rotate_left
  · exact hno.elim
  all_goals
    go_enter Try.func15, Try.ntmps15
    go_wp2_with fail
    rw [← hwa]
    clear hwa
    refine (HSpc.out wa).mono ?_
    rintro e w2 ⟨rfl, rfl⟩
    go_wp2_with fail
    refine HT.out.mono ?_
    rintro e w3 ⟨rfl, rfl⟩
    go_wp2_with fail
    have bxd : wa.drew.cell? ⟨w.heap.size, 0, none⟩ = some (.slice a l.length c) := bx
    have hid : wa.drew.cell? ⟨g, 2, none⟩ = some (.int .i64 L.s0.high) := hhigh
    have hd1 : Below wa.heap.size wa wa.drew := below_drewN (Below.refl _ wa) 1
    refine Mx.region [] (fun w' => w'.cell? ⟨w.heap.size, 0, none⟩ = some (.slice a l.length c) ∧ w'.cell? ⟨g, 2, none⟩ = some (.int .i64 L.s0.high)) (by kernel_rfl) (by kernel_rfl) ⟨bxd, hid⟩ ?_
    repeat ((first | (refine Mx.skips (by kernel_rfl) ?_; go_big_quiet_skip) | (refine Mx.quietly rfl ?_; go_big_quiet_want; go_big_quiet_op; go_big_quiet_on)); refine Mx.done ?_)
    refine Mx.cell ⟨w.heap.size, 0, none⟩ (.slice a l.length c) (by kernel_rfl) (by kernel_rfl) (by kernel_rfl) Try.isAgg40 (fun w' h => h.1) ?_
    go_big_quiet_want; go_big_quiet_op; go_big_quiet_on; refine Mx.done ?_
    repeat ((first | (refine Mx.skips (by kernel_rfl) ?_; go_big_quiet_skip) | (refine Mx.quietly rfl ?_; go_big_quiet_want; go_big_quiet_op; go_big_quiet_on)); refine Mx.done ?_)
    refine Mx.cell ⟨g, 2, none⟩ (.int .i64 L.s0.high) (by kernel_rfl) (by kernel_rfl) (by kernel_rfl) Try.isAgg3 (fun w' h => h.2) ?_
    go_big_quiet_want; go_big_quiet_op; go_big_quiet_on; refine Mx.done ?_
    repeat ((first | (refine Mx.skips (by kernel_rfl) ?_; go_big_quiet_skip) | (refine Mx.quietly rfl ?_; go_big_quiet_want; go_big_quiet_op; go_big_quiet_on)); refine Mx.done ?_)
    refine Mx.loudly (by kernel_rfl) (by kernel_rfl) ?_
    go_wp2_with fail
    refine (HRs.out _ hd1).mono ?_
    rintro e w4 ⟨rfl, hb4⟩
    have b4 := hd1.trans hb4
    have bx4 : w4.cell? ⟨w.heap.size, 0, none⟩ = some (.slice a l.length c) := (b4.cell (World.block_lt_of_cell? _ _ bx)).trans bx
    have hi4 : w4.cell? ⟨g, 2, none⟩ = some (.int .i64 L.s0.high) := (b4.cell (World.block_lt_of_cell? _ _ hhigh)).trans hhigh
    go_wp2_with fail
    repeat ((first | (refine Mx.skips (by kernel_rfl) ?_; go_big_quiet_skip) | (refine Mx.quietly rfl ?_; go_big_quiet_want; go_big_quiet_op; go_big_quiet_on)); refine Mx.done ?_)
    refine Mx.nil ?_
    go_wp2
    go_ret3
    exact ⟨rfl, halw.trans (b4.mono halw.size)⟩

set_option maxRecDepth 100000 in
set_option maxHeartbeats 4000000 in
theorem ack_range0 (w : World) {F : Nat → Prop} {g : Nat} {L : Lo} (hL : LAt F w g L) (hh : 0 ≤ L.s0.high ∧ L.s0.high ≤ 4611686018427387903) {B : Nat} {a : Option Addr} {c : Nat} {l : List Sn} (hS : Sps w B a c l) (hl : l.length ≤ 1152921504606846976) (delay now : Int) (ht : L.now ≤ now ∧ now ≤ 1099511627776) (hr : rightS l L.s0.high = true) (hd : delay < 0 ∨ 4611686018427387903 < delay) :
    Calls Try.prog 15 #[.pointer (some ⟨g, 0, none⟩), .int .i64 0, .slice a l.length c, .int .i64 delay, .int .i64 now] w (AckErr w 30) := by
  have HSpc : Hid (∀ w', Calls Try.prog 21 #[.int .i64 0] w' fun e w'' => e = .returned (.bool true) ∧ w' = w'') := Lib.hid (fun w' => rightSpace_any w' 0)
  have halw : Below w.heap.size w (w.alloc (.cells #[.slice a l.length c] 40)) := (Below.refl _ _).alloc (Nat.le_refl _) _
  have Hbx : Has (w.alloc (.cells #[.slice a l.length c] 40)) w.heap.size 40 [.slice a l.length c] := Has.new _ _ _
  obtain ⟨wa, hwa⟩ : ∃ wa, wa = w.alloc (.cells #[.slice a l.length c] 40) := ⟨_, rfl⟩
  rw [← hwa] at halw Hbx
  have La := hL.below halw
  have Sa : Sps wa B a c l := own_below hS halw
  have HT := Lib.hid (rightTime_any wa La now)
  rw [decide_eq_true ht] at HT
  have HRs := Lib.hid (fun w' (hb : Below wa.heap.size wa w') => rightSpans_any w' (own_below Sa hb : Sps w' B a c l) hl L.s0.high hh)
  rw [hr] at HRs
  have bx := Hbx.cell 0 rfl
  have hhigh : wa.cell? ⟨g, 2, none⟩ = some (.int .i64 L.s0.high) := (La.cell 2 (fun _ _ _ _ _ _ => rfl)).1
  have hcs : delay < 0 ∨ (¬ delay < 0 ∧ 4611686018427387903 < delay) := by omega
  clear hL ht hr La Sa Hbx hS hh
  rcases hcs with d1 | ⟨d1, d2⟩
  all_goals
    go_enter Try.func15, Try.ntmps15
    go_wp2_with fail
    rw [← hwa]
    clear hwa
    refine (HSpc.out wa).mono ?_
    rintro e w2 ⟨rfl, rfl⟩
    go_wp2_with fail
    refine HT.out.mono ?_
    rintro e w3 ⟨rfl, rfl⟩
    go_wp2_with fail
    have bxd : wa.drew.cell? ⟨w.heap.size, 0, none⟩ = some (.slice a l.length c) := bx
    have hid : wa.drew.cell? ⟨g, 2, none⟩ = some (.int .i64 L.s0.high) := hhigh
    have hd1 : Below wa.heap.size wa wa.drew := below_drewN (Below.refl _ wa) 1
    refine Mx.region [] (fun w' => w'.cell? ⟨w.heap.size, 0, none⟩ = some (.slice a l.length c) ∧ w'.cell? ⟨g, 2, none⟩ = some (.int .i64 L.s0.high)) (by kernel_rfl) (by kernel_rfl) ⟨bxd, hid⟩ ?_
    repeat ((first | (refine Mx.skips (by kernel_rfl) ?_; go_big_quiet_skip) | (refine Mx.quietly rfl ?_; go_big_quiet_want; go_big_quiet_op; go_big_quiet_on)); refine Mx.done ?_)
    refine Mx.cell ⟨w.heap.size, 0, none⟩ (.slice a l.length c) (by kernel_rfl) (by kernel_rfl) (by kernel_rfl) Try.isAgg40 (fun w' h => h.1) ?_
    go_big_quiet_want; go_big_quiet_op; go_big_quiet_on; refine Mx.done ?_
    repeat ((first | (refine Mx.skips (by kernel_rfl) ?_; go_big_quiet_skip) | (refine Mx.quietly rfl ?_; go_big_quiet_want; go_big_quiet_op; go_big_quiet_on)); refine Mx.done ?_)
    refine Mx.cell ⟨g, 2, none⟩ (.int .i64 L.s0.high) (by kernel_rfl) (by kernel_rfl) (by kernel_rfl) Try.isAgg3 (fun w' h => h.2) ?_
    go_big_quiet_want; go_big_quiet_op; go_big_quiet_on; refine Mx.done ?_
    repeat ((first | (refine Mx.skips (by kernel_rfl) ?_; go_big_quiet_skip) | (refine Mx.quietly rfl ?_; go_big_quiet_want; go_big_quiet_op; go_big_quiet_on)); refine Mx.done ?_)
    refine Mx.loudly (by kernel_rfl) (by kernel_rfl) ?_
    go_wp2_with fail
    refine (HRs.out _ hd1).mono ?_
    rintro e w4 ⟨rfl, hb4⟩
    have b4 := hd1.trans hb4
    have bx4 : w4.cell? ⟨w.heap.size, 0, none⟩ = some (.slice a l.length c) := (b4.cell (World.block_lt_of_cell? _ _ bx)).trans bx
    have hi4 : w4.cell? ⟨g, 2, none⟩ = some (.int .i64 L.s0.high) := (b4.cell (World.block_lt_of_cell? _ _ hhigh)).trans hhigh
    go_wp2_with fail
    repeat ((first | (refine Mx.skips (by kernel_rfl) ?_; go_big_quiet_skip) | (refine Mx.quietly rfl ?_; go_big_quiet_want; go_big_quiet_op; go_big_quiet_on)); refine Mx.done ?_)
    refine Mx.nil ?_
    go_wp2
    go_ret3
    exact ⟨rfl, halw.trans (b4.mono halw.size)⟩

set_option maxRecDepth 100000 in
set_option maxHeartbeats 4000000 in
theorem ack_spans1 (w : World) {F : Nat → Prop} {g : Nat} {L : Lo} (hL : LAt F w g L) (hh : 0 ≤ L.s1.high ∧ L.s1.high ≤ 4611686018427387903) {B : Nat} {a : Option Addr} {c : Nat} {l : List Sn} (hS : Sps w B a c l) (hl : l.length ≤ 1152921504606846976) (delay now : Int) (ht : L.now ≤ now ∧ now ≤ 1099511627776) (hr : rightS l L.s1.high = false) :
    Calls Try.prog 15 #[.pointer (some ⟨g, 0, none⟩), .int .i64 1, .slice a l.length c, .int .i64 delay, .int .i64 now] w (AckErr w 111) := by
  have HSpc : Hid (∀ w', Calls Try.prog 21 #[.int .i64 1] w' fun e w'' => e = .returned (.bool true) ∧ w' = w'') := Lib.hid (fun w' => rightSpace_any w' 1)
  have halw : Below w.heap.size w (w.alloc (.cells #[.slice a l.length c] 40)) := (Below.refl _ _).alloc (Nat.le_refl _) _
  have Hbx : Has (w.alloc (.cells #[.slice a l.length c] 40)) w.heap.size 40 [.slice a l.length c] := Has.new _ _ _
  obtain ⟨wa, hwa⟩ : ∃ wa, wa = w.alloc (.cells #[.slice a l.length c] 40) := ⟨_, rfl⟩
  rw [← hwa] at halw Hbx
  have La := hL.below halw
  have Sa : Sps wa B a c l := own_below hS halw
  have HT := Lib.hid (rightTime_any wa La now)
  rw [decide_eq_true ht] at HT
  have HRs := Lib.hid (fun w' (hb : Below wa.heap.size wa w') => rightSpans_any w' (own_below Sa hb : Sps w' B a c l) hl L.s1.high hh)
  rw [hr] at HRs
  have bx := Hbx.cell 0 rfl
  have hhigh : wa.cell? ⟨g, 7, none⟩ = some (.int .i64 L.s1.high) := (La.cell 7 (fun _ _ _ _ _ _ => rfl)).1
  have hcs : True ∨ False := .inl trivial
  clear hL ht hr La Sa Hbx hS hh
  rcases hcs with _ | hno
  rotate_left
  · exact hno.elim
  all_goals
    go_enter Try.func15, Try.ntmps15
    go_wp2_with fail
    rw [← hwa]
    clear hwa
    refine (HSpc.out wa).mono ?_
    rintro e w2 ⟨rfl, rfl⟩
    go_wp2_with fail
    refine HT.out.mono ?_
    rintro e w3 ⟨rfl, rfl⟩
    go_wp2_with fail
    have bxd : wa.drew.cell? ⟨w.heap.size, 0, none⟩ = some (.slice a l.length c) := bx
    have hid : wa.drew.cell? ⟨g, 7, none⟩ = some (.int .i64 L.s1.high) := hhigh
    have hd1 : Below wa.heap.size wa wa.drew := below_drewN (Below.refl _ wa) 1
    refine Mx.region [] (fun w' => w'.cell? ⟨w.heap.size, 0, none⟩ = some (.slice a l.length c) ∧ w'.cell? ⟨g, 7, none⟩ = some (.int .i64 L.s1.high)) (by kernel_rfl) (by kernel_rfl) ⟨bxd, hid⟩ ?_
    repeat ((first | (refine Mx.skips (by kernel_rfl) ?_; go_big_quiet_skip) | (refine Mx.quietly rfl ?_; go_big_quiet_want; go_big_quiet_op; go_big_quiet_on)); refine Mx.done ?_)
    refine Mx.cell ⟨w.heap.size, 0, none⟩ (.slice a l.length c) (by kernel_rfl) (by kernel_rfl) (by kernel_rfl) Try.isAgg40 (fun w' h => h.1) ?_
    go_big_quiet_want; go_big_quiet_op; go_big_quiet_on; refine Mx.done ?_
    repeat ((first | (refine Mx.skips (by kernel_rfl) ?_; go_big_quiet_skip) | (refine Mx.quietly rfl ?_; go_big_quiet_want; go_big_quiet_op; go_big_quiet_on)); refine Mx.done ?_)
    refine Mx.cell ⟨g, 7, none⟩ (.int .i64 L.s1.high) (by kernel_rfl) (by kernel_rfl) (by kernel_rfl) Try.isAgg3 (fun w' h => h.2) ?_
    go_big_quiet_want; go_big_quiet_op; go_big_quiet_on; refine Mx.done ?_
    repeat ((first | (refine Mx.skips (by kernel_rfl) ?_; go_big_quiet_skip) | (refine Mx.quietly rfl ?_; go_big_quiet_want; go_big_quiet_op; go_big_quiet_on)); refine Mx.done ?_)
    refine Mx.loudly (by kernel_rfl) (by kernel_rfl) ?_
    go_wp2_with fail
    refine (HRs.out _ hd1).mono ?_
    rintro e w4 ⟨rfl, hb4⟩
    have b4 := hd1.trans hb4
    have bx4 : w4.cell? ⟨w.heap.size, 0, none⟩ = some (.slice a l.length c) := (b4.cell (World.block_lt_of_cell? _ _ bx)).trans bx
    have hi4 : w4.cell? ⟨g, 7, none⟩ = some (.int .i64 L.s1.high) := (b4.cell (World.block_lt_of_cell? _ _ hhigh)).trans hhigh
    go_wp2_with fail
    repeat ((first | (refine Mx.skips (by kernel_rfl) ?_; go_big_quiet_skip) | (refine Mx.quietly rfl ?_; go_big_quiet_want; go_big_quiet_op; go_big_quiet_on)); refine Mx.done ?_)
    refine Mx.nil ?_
    go_wp2
    go_ret3
    exact ⟨rfl, halw.trans (b4.mono halw.size)⟩

set_option maxRecDepth 100000 in
set_option maxHeartbeats 4000000 in
theorem ack_range1 (w : World) {F : Nat → Prop} {g : Nat} {L : Lo} (hL : LAt F w g L) (hh : 0 ≤ L.s1.high ∧ L.s1.high ≤ 4611686018427387903) {B : Nat} {a : Option Addr} {c : Nat} {l : List Sn} (hS : Sps w B a c l) (hl : l.length ≤ 1152921504606846976) (delay now : Int) (ht : L.now ≤ now ∧ now ≤ 1099511627776) (hr : rightS l L.s1.high = true) (hd : delay < 0 ∨ 4611686018427387903 < delay) :
    Calls Try.prog 15 #[.pointer (some ⟨g, 0, none⟩), .int .i64 1, .slice a l.length c, .int .i64 delay, .int .i64 now] w (AckErr w 30) := by
  have HSpc : Hid (∀ w', Calls Try.prog 21 #[.int .i64 1] w' fun e w'' => e = .returned (.bool true) ∧ w' = w'') := Lib.hid (fun w' => rightSpace_any w' 1)
  have halw : Below w.heap.size w (w.alloc (.cells #[.slice a l.length c] 40)) := (Below.refl _ _).alloc (Nat.le_refl _) _
  have Hbx : Has (w.alloc (.cells #[.slice a l.length c] 40)) w.heap.size 40 [.slice a l.length c] := Has.new _ _ _
  obtain ⟨wa, hwa⟩ : ∃ wa, wa = w.alloc (.cells #[.slice a l.length c] 40) := ⟨_, rfl⟩
  rw [← hwa] at halw Hbx
  have La := hL.below halw
  have Sa : Sps wa B a c l := own_below hS halw
  have HT := Lib.hid (rightTime_any wa La now)
  rw [decide_eq_true ht] at HT
  have HRs := Lib.hid (fun w' (hb : Below wa.heap.size wa w') => rightSpans_any w' (own_below Sa hb : Sps w' B a c l) hl L.s1.high hh)
  rw [hr] at HRs
  have bx := Hbx.cell 0 rfl
  have hhigh : wa.cell? ⟨g, 7, none⟩ = some (.int .i64 L.s1.high) := (La.cell 7 (fun _ _ _ _ _ _ => rfl)).1
  have hcs : delay < 0 ∨ (¬ delay < 0 ∧ 4611686018427387903 < delay) := by omega
  clear hL ht hr La Sa Hbx hS hh
  rcases hcs with d1 | ⟨d1, d2⟩
  all_goals
    go_enter Try.func15, Try.ntmps15
    go_wp2_with fail
    rw [← hwa]
    clear hwa
    refine (HSpc.out wa).mono ?_
    rintro e w2 ⟨rfl, rfl⟩
    go_wp2_with fail
    refine HT.out.mono ?_
    rintro e w3 ⟨rfl, rfl⟩
    go_wp2_with fail
    have bxd : wa.drew.cell? ⟨w.heap.size, 0, none⟩ = some (.slice a l.length c) := bx
    have hid : wa.drew.cell? ⟨g, 7, none⟩ = some (.int .i64 L.s1.high) := hhigh
    have hd1 : Below wa.heap.size wa wa.drew := below_drewN (Below.refl _ wa) 1
    refine Mx.region [] (fun w' => w'.cell? ⟨w.heap.size, 0, none⟩ = some (.slice a l.length c) ∧ w'.cell? ⟨g, 7, none⟩ = some (.int .i64 L.s1.high)) (by kernel_rfl) (by kernel_rfl) ⟨bxd, hid⟩ ?_
    repeat ((first | (refine Mx.skips (by kernel_rfl) ?_; go_big_quiet_skip) | (refine Mx.quietly rfl ?_; go_big_quiet_want; go_big_quiet_op; go_big_quiet_on)); refine Mx.done ?_)
    refine Mx.cell ⟨w.heap.size, 0, none⟩ (.slice a l.length c) (by kernel_rfl) (by kernel_rfl) (by kernel_rfl) Try.isAgg40 (fun w' h => h.1) ?_
    go_big_quiet_want; go_big_quiet_op; go_big_quiet_on; refine Mx.done ?_
    repeat ((first | (refine Mx.skips (by kernel_rfl) ?_; go_big_quiet_skip) | (refine Mx.quietly rfl ?_; go_big_quiet_want; go_big_quiet_op; go_big_quiet_on)); refine Mx.done ?_)
    refine Mx.cell ⟨g, 7, none⟩ (.int .i64 L.s1.high) (by kernel_rfl) (by kernel_rfl) (by kernel_rfl) Try.isAgg3 (fun w' h => h.2) ?_
    go_big_quiet_want; go_big_quiet_op; go_big_quiet_on; refine Mx.done ?_
    repeat ((first | (refine Mx.skips (by kernel_rfl) ?_; go_big_quiet_skip) | (refine Mx.quietly rfl ?_; go_big_quiet_want; go_big_quiet_op; go_big_quiet_on)); refine Mx.done ?_)
    refine Mx.loudly (by kernel_rfl) (by kernel_rfl) ?_
    go_wp2_with fail
    refine (HRs.out _ hd1).mono ?_
    rintro e w4 ⟨rfl, hb4⟩
    have b4 := hd1.trans hb4
    have bx4 : w4.cell? ⟨w.heap.size, 0, none⟩ = some (.slice a l.length c) := (b4.cell (World.block_lt_of_cell? _ _ bx)).trans bx
    have hi4 : w4.cell? ⟨g, 7, none⟩ = some (.int .i64 L.s1.high) := (b4.cell (World.block_lt_of_cell? _ _ hhigh)).trans hhigh
    go_wp2_with fail
    repeat ((first | (refine Mx.skips (by kernel_rfl) ?_; go_big_quiet_skip) | (refine Mx.quietly rfl ?_; go_big_quiet_want; go_big_quiet_op; go_big_quiet_on)); refine Mx.done ?_)
    refine Mx.nil ?_
    go_wp2
    go_ret3
    exact ⟨rfl, halw.trans (b4.mono halw.size)⟩

set_option maxRecDepth 100000 in
set_option maxHeartbeats 4000000 in
theorem ack_spans2 (w : World) {F : Nat → Prop} {g : Nat} {L : Lo} (hL : LAt F w g L) (hh : 0 ≤ L.s2.high ∧ L.s2.high ≤ 4611686018427387903) {B : Nat} {a : Option Addr} {c : Nat} {l : List Sn} (hS : Sps w B a c l) (hl : l.length ≤ 1152921504606846976) (delay now : Int) (ht : L.now ≤ now ∧ now ≤ 1099511627776) (hr : rightS l L.s2.high = false) :
    Calls Try.prog 15 #[.pointer (some ⟨g, 0, none⟩), .int .i64 2, .slice a l.length c, .int .i64 delay, .int .i64 now] w (AckErr w 111) := by
  have HSpc : Hid (∀ w', Calls Try.prog 21 #[.int .i64 2] w' fun e w'' => e = .returned (.bool true) ∧ w' = w'') := Lib.hid (fun w' => rightSpace_any w' 2)
  have halw : Below w.heap.size w (w.alloc (.cells #[.slice a l.length c] 40)) := (Below.refl _ _).alloc (Nat.le_refl _) _
  have Hbx : Has (w.alloc (.cells #[.slice a l.length c] 40)) w.heap.size 40 [.slice a l.length c] := Has.new _ _ _
  obtain ⟨wa, hwa⟩ : ∃ wa, wa = w.alloc (.cells #[.slice a l.length c] 40) := ⟨_, rfl⟩
  rw [← hwa] at halw Hbx
  have La := hL.below halw
  have Sa : Sps wa B a c l := own_below hS halw
  have HT := Lib.hid (rightTime_any wa La now)
  rw [decide_eq_true ht] at HT
  have HRs := Lib.hid (fun w' (hb : Below wa.heap.size wa w') => rightSpans_any w' (own_below Sa hb : Sps w' B a c l) hl L.s2.high hh)
  rw [hr] at HRs
  have bx := Hbx.cell 0 rfl
  have hhigh : wa.cell? ⟨g, 12, none⟩ = some (.int .i64 L.s2.high) := (La.cell 12 (fun _ _ _ _ _ _ => rfl)).1
  have hcs : True ∨ False := .inl trivial
  clear hL ht hr La Sa Hbx hS hh
  rcases hcs with _ | hno
  rotate_left
  · exact hno.elim
  all_goals
    go_enter Try.func15, Try.ntmps15
    go_wp2_with fail
    rw [← hwa]
    clear hwa
    refine (HSpc.out wa).mono ?_
    rintro e w2 ⟨rfl, rfl⟩
    go_wp2_with fail
    refine HT.out.mono ?_
    rintro e w3 ⟨rfl, rfl⟩
    go_wp2_with fail
    have bxd : wa.drew.cell? ⟨w.heap.size, 0, none⟩ = some (.slice a l.length c) := bx
    have hid : wa.drew.cell? ⟨g, 12, none⟩ = some (.int .i64 L.s2.high) := hhigh
    have hd1 : Below wa.heap.size wa wa.drew := below_drewN (Below.refl _ wa) 1
    refine Mx.region [] (fun w' => w'.cell? ⟨w.heap.size, 0, none⟩ = some (.slice a l.length c) ∧ w'.cell? ⟨g, 12, none⟩ = some (.int .i64 L.s2.high)) (by kernel_rfl) (by kernel_rfl) ⟨bxd, hid⟩ ?_
    repeat ((first | (refine Mx.skips (by kernel_rfl) ?_; go_big_quiet_skip) | (refine Mx.quietly rfl ?_; go_big_quiet_want; go_big_quiet_op; go_big_quiet_on)); refine Mx.done ?_)
    refine Mx.cell ⟨w.heap.size, 0, none⟩ (.slice a l.length c) (by kernel_rfl) (by kernel_rfl) (by kernel_rfl) Try.isAgg40 (fun w' h => h.1) ?_
    go_big_quiet_want; go_big_quiet_op; go_big_quiet_on; refine Mx.done ?_
    repeat ((first | (refine Mx.skips (by kernel_rfl) ?_; go_big_quiet_skip) | (refine Mx.quietly rfl ?_; go_big_quiet_want; go_big_quiet_op; go_big_quiet_on)); refine Mx.done ?_)
    refine Mx.cell ⟨g, 12, none⟩ (.int .i64 L.s2.high) (by kernel_rfl) (by kernel_rfl) (by kernel_rfl) Try.isAgg3 (fun w' h => h.2) ?_
    go_big_quiet_want; go_big_quiet_op; go_big_quiet_on; refine Mx.done ?_
    repeat ((first | (refine Mx.skips (by kernel_rfl) ?_; go_big_quiet_skip) | (refine Mx.quietly rfl ?_; go_big_quiet_want; go_big_quiet_op; go_big_quiet_on)); refine Mx.done ?_)
    refine Mx.loudly (by kernel_rfl) (by kernel_rfl) ?_
    go_wp2_with fail
    refine (HRs.out _ hd1).mono ?_
    rintro e w4 ⟨rfl, hb4⟩
    have b4 := hd1.trans hb4
    have bx4 : w4.cell? ⟨w.heap.size, 0, none⟩ = some (.slice a l.length c) := (b4.cell (World.block_lt_of_cell? _ _ bx)).trans bx
    have hi4 : w4.cell? ⟨g, 12, none⟩ = some (.int .i64 L.s2.high) := (b4.cell (World.block_lt_of_cell? _ _ hhigh)).trans hhigh
    go_wp2_with fail
    repeat ((first | (refine Mx.skips (by kernel_rfl) ?_; go_big_quiet_skip) | (refine Mx.quietly rfl ?_; go_big_quiet_want; go_big_quiet_op; go_big_quiet_on)); refine Mx.done ?_)
    refine Mx.nil ?_
    go_wp2
    go_ret3
    exact ⟨rfl, halw.trans (b4.mono halw.size)⟩

set_option maxRecDepth 100000 in
set_option maxHeartbeats 4000000 in
theorem ack_range2 (w : World) {F : Nat → Prop} {g : Nat} {L : Lo} (hL : LAt F w g L) (hh : 0 ≤ L.s2.high ∧ L.s2.high ≤ 4611686018427387903) {B : Nat} {a : Option Addr} {c : Nat} {l : List Sn} (hS : Sps w B a c l) (hl : l.length ≤ 1152921504606846976) (delay now : Int) (ht : L.now ≤ now ∧ now ≤ 1099511627776) (hr : rightS l L.s2.high = true) (hd : delay < 0 ∨ 4611686018427387903 < delay) :
    Calls Try.prog 15 #[.pointer (some ⟨g, 0, none⟩), .int .i64 2, .slice a l.length c, .int .i64 delay, .int .i64 now] w (AckErr w 30) := by
  have HSpc : Hid (∀ w', Calls Try.prog 21 #[.int .i64 2] w' fun e w'' => e = .returned (.bool true) ∧ w' = w'') := Lib.hid (fun w' => rightSpace_any w' 2)
  have halw : Below w.heap.size w (w.alloc (.cells #[.slice a l.length c] 40)) := (Below.refl _ _).alloc (Nat.le_refl _) _
  have Hbx : Has (w.alloc (.cells #[.slice a l.length c] 40)) w.heap.size 40 [.slice a l.length c] := Has.new _ _ _
  obtain ⟨wa, hwa⟩ : ∃ wa, wa = w.alloc (.cells #[.slice a l.length c] 40) := ⟨_, rfl⟩
  rw [← hwa] at halw Hbx
  have La := hL.below halw
  have Sa : Sps wa B a c l := own_below hS halw
  have HT := Lib.hid (rightTime_any wa La now)
  rw [decide_eq_true ht] at HT
  have HRs := Lib.hid (fun w' (hb : Below wa.heap.size wa w') => rightSpans_any w' (own_below Sa hb : Sps w' B a c l) hl L.s2.high hh)
  rw [hr] at HRs
  have bx := Hbx.cell 0 rfl
  have hhigh : wa.cell? ⟨g, 12, none⟩ = some (.int .i64 L.s2.high) := (La.cell 12 (fun _ _ _ _ _ _ => rfl)).1
  have hcs : delay < 0 ∨ (¬ delay < 0 ∧ 4611686018427387903 < delay) := by omega
  clear hL ht hr La Sa Hbx hS hh
  rcases hcs with d1 | ⟨d1, d2⟩
  all_goals
    go_enter Try.func15, Try.ntmps15
    go_wp2_with fail
    rw [← hwa]
    clear hwa
    refine (HSpc.out wa).mono ?_
    rintro e w2 ⟨rfl, rfl⟩
    go_wp2_with fail
    refine HT.out.mono ?_
    rintro e w3 ⟨rfl, rfl⟩
    go_wp2_with fail
    have bxd : wa.drew.cell? ⟨w.heap.size, 0, none⟩ = some (.slice a l.length c) := bx
    have hid : wa.drew.cell? ⟨g, 12, none⟩ = some (.int .i64 L.s2.high) := hhigh
    have hd1 : Below wa.heap.size wa wa.drew := below_drewN (Below.refl _ wa) 1
    refine Mx.region [] (fun w' => w'.cell? ⟨w.heap.size, 0, none⟩ = some (.slice a l.length c) ∧ w'.cell? ⟨g, 12, none⟩ = some (.int .i64 L.s2.high)) (by kernel_rfl) (by kernel_rfl) ⟨bxd, hid⟩ ?_
    repeat ((first | (refine Mx.skips (by kernel_rfl) ?_; go_big_quiet_skip) | (refine Mx.quietly rfl ?_; go_big_quiet_want; go_big_quiet_op; go_big_quiet_on)); refine Mx.done ?_)
    refine Mx.cell ⟨w.heap.size, 0, none⟩ (.slice a l.length c) (by kernel_rfl) (by kernel_rfl) (by kernel_rfl) Try.isAgg40 (fun w' h => h.1) ?_
    go_big_quiet_want; go_big_quiet_op; go_big_quiet_on; refine Mx.done ?_
    repeat ((first | (refine Mx.skips (by kernel_rfl) ?_; go_big_quiet_skip) | (refine Mx.quietly rfl ?_; go_big_quiet_want; go_big_quiet_op; go_big_quiet_on)); refine Mx.done ?_)
    refine Mx.cell ⟨g, 12, none⟩ (.int .i64 L.s2.high) (by kernel_rfl) (by kernel_rfl) (by kernel_rfl) Try.isAgg3 (fun w' h => h.2) ?_
    go_big_quiet_want; go_big_quiet_op; go_big_quiet_on; refine Mx.done ?_
    repeat ((first | (refine Mx.skips (by kernel_rfl) ?_; go_big_quiet_skip) | (refine Mx.quietly rfl ?_; go_big_quiet_want; go_big_quiet_op; go_big_quiet_on)); refine Mx.done ?_)
    refine Mx.loudly (by kernel_rfl) (by kernel_rfl) ?_
    go_wp2_with fail
    refine (HRs.out _ hd1).mono ?_
    rintro e w4 ⟨rfl, hb4⟩
    have b4 := hd1.trans hb4
    have bx4 : w4.cell? ⟨w.heap.size, 0, none⟩ = some (.slice a l.length c) := (b4.cell (World.block_lt_of_cell? _ _ bx)).trans bx
    have hi4 : w4.cell? ⟨g, 12, none⟩ = some (.int .i64 L.s2.high) := (b4.cell (World.block_lt_of_cell? _ _ hhigh)).trans hhigh
    go_wp2_with fail
    repeat ((first | (refine Mx.skips (by kernel_rfl) ?_; go_big_quiet_skip) | (refine Mx.quietly rfl ?_; go_big_quiet_want; go_big_quiet_op; go_big_quiet_on)); refine Mx.done ?_)
    refine Mx.nil ?_
    go_wp2
    go_ret3
    exact ⟨rfl, halw.trans (b4.mono halw.size)⟩

end Go.Proofs.Ytkpeegcpicckjaa

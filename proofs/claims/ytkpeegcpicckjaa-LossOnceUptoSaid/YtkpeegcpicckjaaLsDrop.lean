/- Loss detection: contracts of Fire, where packets are lost, and of Drop. -/
import Derived.Test.YtkpeegcpicckjaaLsFind
namespace Go.Proofs.Ytkpeegcpicckjaa
open Go.RowKit

theorem LoB.at' {L : Lo} (h : LoB L) (now : Int) (hn : L.now ≤ now ∧ now ≤ 1099511627776) : LoB (L.at' now) := by
  have up : ∀ s : Sp, SpB s L.now → SpB s now := fun s hs => ⟨hs.len, hs.high, hs.acked, hs.loss, hs.last, fun p hp => by have := hs.pk p hp; omega⟩
  have h0 := h.now
  exact ⟨h.most, ⟨by show 0 ≤ now; omega, hn.2⟩, h.latest, h.least, h.smooth, h.vary, h.window, h.threshold, h.recovery, h.probes, up _ h.b0, up _ h.b1, up _ h.b2⟩

theorem fire_time (w : World) {F : Nat → Prop} {g : Nat} {L : Lo} (hL : LAt F w g L) (now : Int) (ht : ¬ (L.now ≤ now ∧ now ≤ 1099511627776)) :
    Calls Try.prog 14 #[.pointer (some ⟨g, 0, none⟩), .int .i64 now] w fun e w' => e = .returned (.tuple #[.int .i64 0, .slice none 0 0, .bool false, .int .i64 112]) ∧ w = w' := by
  have HT := Lib.hid (rightTime_any w hL now)
  rw [decide_eq_false ht] at HT
  clear hL ht
  go_enter Try.func14, Try.ntmps14
  go_wp2_with fail
  refine HT.out.mono ?_
  rintro e w2 ⟨rfl, rfl⟩
  go_wp2
  refine bodyPost_ret (results_tmp4 rfl _ _ _) rfl ?_
  exact ⟨rfl, rfl⟩
theorem drop_space (w : World) {g : Nat} (s : Int) (h : ¬ (0 ≤ s ∧ s ≤ 2)) :
    Calls Try.prog 19 #[.pointer (some ⟨g, 0, none⟩), .int .i64 s] w fun e w' => e = .returned (.tuple #[.slice none 0 0, .int .i64 110]) ∧ w = w' := by
  have HS := Lib.hid (rightSpace_any w s)
  rw [decide_eq_false h] at HS
  clear h
  go_enter Try.func19, Try.ntmps19
  go_wp2_with fail
  refine HS.out.mono ?_
  rintro e w2 ⟨rfl, rfl⟩
  go_wp2
  go_ret2
  exact ⟨rfl, rfl⟩

set_option maxRecDepth 100000 in
set_option maxHeartbeats 2000000 in
theorem fire_lost0 (w : World) {F : Nat → Prop} {g : Nat} {L : Lo} (hL : LAt F w g L) (hq : LoB L) (now : Int) (ht : L.now ≤ now ∧ now ≤ 1099511627776) (hd1 : L.dead.1 = 0) (hd2 : L.dead.2.1 ≤ now) (hd3 : L.dead.2.2 = true) :
    Calls Try.prog 14 #[.pointer (some ⟨g, 0, none⟩), .int .i64 now] w fun e w' => ∃ a c, e = .returned (.tuple #[.int .i64 0, .slice a ((L.at' now).s0.out.filter (L.at' now).ask0).length c, .bool false, .int .i64 0]) ∧
      w'.ownsRow w.heap.size 3 1 (.slice a ((L.at' now).s0.out.filter (L.at' now).ask0).length c) ((L.at' now).s0.out.filter (L.at' now).ask0).length (nums (((L.at' now).s0.out.filter (L.at' now).ask0).map (·.num))) ∧ Kept F w w' ∧ LAt (Fat F w w') w' g (L.at' now).found0 := by
  have HT := Lib.hid (rightTime_any w hL now)
  rw [decide_eq_true ht] at HT
  have hFg := hL.fg
  obtain ⟨d2, f2⟩ := hL.cell 16 (v := .int .i64 L.now) (fun _ _ _ _ _ _ => rfl)
  obtain ⟨k1, h1⟩ := hL.set (L' := L.at' now) 16 (.int .i64 now) rfl rfl rfl (fun _ _ _ _ _ _ => rfl)
  have hq1 := hq.at' now ht
  have HD := Lib.hid (deadline_any _ h1 hq1.time)
  rw [at_dead] at HD
  obtain ⟨dd, hdd⟩ : ∃ dd, dd = L.dead := ⟨_, rfl⟩
  rw [← hdd] at HD hd1 hd2 hd3
  obtain ⟨sp, at_, lo⟩ := dd
  simp only [] at HD hd1 hd2 hd3
  subst hd3
  subst hd1
  have H1 := Lib.hid (And.intro k1 h1)
  have c2 : ¬ now < at_ := by omega
  have zs : (w.setCell ⟨g, 16, none⟩ (.int .i64 now)).heap.size = w.heap.size := by simp [World.setCell]
  have hbK := hq1.b0
  have hfl : ((L.at' now).s0.out.filter (L.at' now).ask0).length ≤ 4096 := Nat.le_trans (List.length_filter_le _ _) hbK.len
  have HFd := Lib.hid (fun w' (hb : Below (w.setCell ⟨g, 16, none⟩ (.int .i64 now)).heap.size (w.setCell ⟨g, 16, none⟩ (.int .i64 now)) w') => find_0 w' (h1.below hb) hq1)
  obtain ⟨lost, hlo⟩ : ∃ lost, lost = (L.at' now).s0.out.filter (L.at' now).ask0 := ⟨_, rfl⟩
  rw [← hlo] at HFd hfl
  rw [← hlo]
  have hlm : (lost.map (·.num)).length = lost.length := by simp
  have HLM := Lib.hid hlm
  clear hdd hL hq ht k1 h1 hd2 hlo hlm hq1 hbK
  go_enter Try.func14, Try.ntmps14
  go_wp2_with fail
  refine HT.out.mono ?_
  rintro e w2 ⟨rfl, rfl⟩
  go_wp2_with fail
  refine HD.out.mono ?_
  rintro e w3 ⟨rfl, hb3⟩
  have HF3 := Lib.hid (HFd.out w3 hb3)
  have z3 := hb3.size
  go_wp2_with fail
  refine HF3.out.mono ?_
  rintro e w4 ⟨a4, c4, rfl, hY4, hk4, hL4⟩
  have HN := Lib.hid (numbers_any w4 hY4 hfl)
  have z4 := hk4.size
  clear hY4 HF3
  go_wp2_with fail
  refine HN.out.mono ?_
  rintro e w5 ⟨a5, c5, rfl, ho5, hb5⟩
  go_wp2
  refine bodyPost_ret (results_tmp4 rfl _ _ _) rfl ?_
  rw [HLM.out] at ho5
  have z5 := hb5.size
  refine ⟨a5, c5, rfl, own_mono ho5 (by omega), ((H1.out.1.trans (Kept.of_below (X := none') hb3) (fun _ _ h => h.elim)).trans hk4 (fun _ _ e => by rw [e]; exact hFg)).trans (Kept.of_below (X := none') hb5) (fun _ _ h => h.elim), (hL4.below hb5).more (fun k h _ => h.elim .inl (fun h => .inr ⟨by omega, by omega⟩))⟩

def Lo.drop0 (L : Lo) : Lo := { L with s0 := { L.s0 with out := [], loss := -1, last := -1 } }
set_option maxRecDepth 100000 in
set_option maxHeartbeats 2000000 in
theorem drop_0 (w : World) {F : Nat → Prop} {g : Nat} {L : Lo} (hL : LAt F w g L) (hlen : L.s0.out.length ≤ 4096) :
    Calls Try.prog 19 #[.pointer (some ⟨g, 0, none⟩), .int .i64 0] w fun e w' => ∃ a c, e = .returned (.tuple #[.slice a L.s0.out.length c, .int .i64 0]) ∧
      w'.ownsRow w.heap.size 3 1 (.slice a L.s0.out.length c) L.s0.out.length (nums (L.s0.out.map (·.num))) ∧ Kept F w w' ∧ LAt F w' g L.drop0 := by
  have HS := Lib.hid (rightSpace_any w 0)
  rw [decide_eq_true (by decide)] at HS
  obtain ⟨a0, c0, a1, c1, a2, c2, hb, f, f0, f1, f2⟩ := hL
  have d0 := hb.has.cell 1 rfl
  have HN := Lib.hid (numbers_any w hb.r0 hlen)
  have hlm : (L.s0.out.map (·.num)).length = L.s0.out.length := by simp
  have HB := Lib.hid hb
  have HL0 := Lib.hid hlm
  clear hb hlm
  go_enter Try.func19, Try.ntmps19
  go_wp2_with fail
  refine HS.out.mono ?_
  rintro e w2 ⟨rfl, rfl⟩
  go_wp2_with fail
  refine HN.out.mono ?_
  rintro e w3 ⟨a3, c3, rfl, ho3, hb3⟩
  rw [HL0.out] at ho3
  have B := HB.out.below hb3
  have e0 := B.has.cell 1 rfl
  have e0f := B.has.free 1
  have k1 := Kept.set w3 g 1 (.slice none 0 0)
  have H1 := B.has.set 1 (.slice none 0 0)
  have e1 := H1.cell 4 rfl
  have e1f := H1.free 4
  have k2 := k1.trans (Kept.set (w3.setCell ⟨g, 1, none⟩ (.slice none 0 0)) g 4 (.int .i64 (-1))) (fun _ _ h => h)
  have H2 := H1.set 4 (.int .i64 (-1))
  have e2 := H2.cell 5 rfl
  have e2f := H2.free 5
  have k3 := k2.trans (Kept.set ((w3.setCell ⟨g, 1, none⟩ (.slice none 0 0)).setCell ⟨g, 4, none⟩ (.int .i64 (-1))) g 5 (.int .i64 (-1))) (fun _ _ h => h)
  have H3 := H2.set 5 (.int .i64 (-1))
  have hgz := HB.out.has.lt
  have o3 := own_kept' ho3 k3 (fun ad ha e => by have := ownblk ho3 ha; omega)
  have HRES : Hid (LB (((w3.setCell ⟨g, 1, none⟩ (.slice none 0 0)).setCell ⟨g, 4, none⟩ (.int .i64 (-1))).setCell ⟨g, 5, none⟩ (.int .i64 (-1))) g L.drop0 none 0 a1 c1 a2 c2 ∧ Kept F w (((w3.setCell ⟨g, 1, none⟩ (.slice none 0 0)).setCell ⟨g, 4, none⟩ (.int .i64 (-1))).setCell ⟨g, 5, none⟩ (.int .i64 (-1)))) := Lib.hid (by
    refine ⟨⟨H3, World.ownsRow_nil _ _ _ _, own_kept' B.r1 k3 (fun ad ha e => B.g1 ad ha e), own_kept' B.r2 k3 (fun ad ha e => B.g2 ad ha e), (by simp), B.g1, B.g2, (by simp), (by simp), B.d12⟩, (Kept.of_below hb3).trans k3 (fun _ _ e => by rw [e]; exact f)⟩)
  have HO3 := Lib.hid o3
  clear B k1 H1 k2 H2 k3 H3 o3 ho3
  go_wp2
  go_ret2
  exact ⟨a3, c3, rfl, HO3.out, HRES.out.2, none, 0, a1, c1, a2, c2, HRES.out.1, f, (by simp), f1, f2⟩

set_option maxRecDepth 100000 in
set_option maxHeartbeats 2000000 in
theorem fire_lost1 (w : World) {F : Nat → Prop} {g : Nat} {L : Lo} (hL : LAt F w g L) (hq : LoB L) (now : Int) (ht : L.now ≤ now ∧ now ≤ 1099511627776) (hd1 : L.dead.1 = 1) (hd2 : L.dead.2.1 ≤ now) (hd3 : L.dead.2.2 = true) :
    Calls Try.prog 14 #[.pointer (some ⟨g, 0, none⟩), .int .i64 now] w fun e w' => ∃ a c, e = .returned (.tuple #[.int .i64 1, .slice a ((L.at' now).s1.out.filter (L.at' now).ask1).length c, .bool false, .int .i64 0]) ∧
      w'.ownsRow w.heap.size 3 1 (.slice a ((L.at' now).s1.out.filter (L.at' now).ask1).length c) ((L.at' now).s1.out.filter (L.at' now).ask1).length (nums (((L.at' now).s1.out.filter (L.at' now).ask1).map (·.num))) ∧ Kept F w w' ∧ LAt (Fat F w w') w' g (L.at' now).found1 := by
  have HT := Lib.hid (rightTime_any w hL now)
  rw [decide_eq_true ht] at HT
  have hFg := hL.fg
  obtain ⟨d2, f2⟩ := hL.cell 16 (v := .int .i64 L.now) (fun _ _ _ _ _ _ => rfl)
  obtain ⟨k1, h1⟩ := hL.set (L' := L.at' now) 16 (.int .i64 now) rfl rfl rfl (fun _ _ _ _ _ _ => rfl)
  have hq1 := hq.at' now ht
  have HD := Lib.hid (deadline_any _ h1 hq1.time)
  rw [at_dead] at HD
  obtain ⟨dd, hdd⟩ : ∃ dd, dd = L.dead := ⟨_, rfl⟩
  rw [← hdd] at HD hd1 hd2 hd3
  obtain ⟨sp, at_, lo⟩ := dd
  simp only [] at HD hd1 hd2 hd3
  subst hd3
  subst hd1
  have H1 := Lib.hid (And.intro k1 h1)
  have c2 : ¬ now < at_ := by omega
  have zs : (w.setCell ⟨g, 16, none⟩ (.int .i64 now)).heap.size = w.heap.size := by simp [World.setCell]
  have hbK := hq1.b1
  have hfl : ((L.at' now).s1.out.filter (L.at' now).ask1).length ≤ 4096 := Nat.le_trans (List.length_filter_le _ _) hbK.len
  have HFd := Lib.hid (fun w' (hb : Below (w.setCell ⟨g, 16, none⟩ (.int .i64 now)).heap.size (w.setCell ⟨g, 16, none⟩ (.int .i64 now)) w') => find_1 w' (h1.below hb) hq1)
  obtain ⟨lost, hlo⟩ : ∃ lost, lost = (L.at' now).s1.out.filter (L.at' now).ask1 := ⟨_, rfl⟩
  rw [← hlo] at HFd hfl
  rw [← hlo]
  have hlm : (lost.map (·.num)).length = lost.length := by simp
  have HLM := Lib.hid hlm
  clear hdd hL hq ht k1 h1 hd2 hlo hlm hq1 hbK
  go_enter Try.func14, Try.ntmps14
  go_wp2_with fail
  refine HT.out.mono ?_
  rintro e w2 ⟨rfl, rfl⟩
  go_wp2_with fail
  refine HD.out.mono ?_
  rintro e w3 ⟨rfl, hb3⟩
  have HF3 := Lib.hid (HFd.out w3 hb3)
  have z3 := hb3.size
  go_wp2_with fail
  refine HF3.out.mono ?_
  rintro e w4 ⟨a4, c4, rfl, hY4, hk4, hL4⟩
  have HN := Lib.hid (numbers_any w4 hY4 hfl)
  have z4 := hk4.size
  clear hY4 HF3
  go_wp2_with fail
  refine HN.out.mono ?_
  rintro e w5 ⟨a5, c5, rfl, ho5, hb5⟩
  go_wp2
  refine bodyPost_ret (results_tmp4 rfl _ _ _) rfl ?_
  rw [HLM.out] at ho5
  have z5 := hb5.size
  refine ⟨a5, c5, rfl, own_mono ho5 (by omega), ((H1.out.1.trans (Kept.of_below (X := none') hb3) (fun _ _ h => h.elim)).trans hk4 (fun _ _ e => by rw [e]; exact hFg)).trans (Kept.of_below (X := none') hb5) (fun _ _ h => h.elim), (hL4.below hb5).more (fun k h _ => h.elim .inl (fun h => .inr ⟨by omega, by omega⟩))⟩

def Lo.drop1 (L : Lo) : Lo := { L with s1 := { L.s1 with out := [], loss := -1, last := -1 } }
set_option maxRecDepth 100000 in
set_option maxHeartbeats 2000000 in
theorem drop_1 (w : World) {F : Nat → Prop} {g : Nat} {L : Lo} (hL : LAt F w g L) (hlen : L.s1.out.length ≤ 4096) :
    Calls Try.prog 19 #[.pointer (some ⟨g, 0, none⟩), .int .i64 1] w fun e w' => ∃ a c, e = .returned (.tuple #[.slice a L.s1.out.length c, .int .i64 0]) ∧
      w'.ownsRow w.heap.size 3 1 (.slice a L.s1.out.length c) L.s1.out.length (nums (L.s1.out.map (·.num))) ∧ Kept F w w' ∧ LAt F w' g L.drop1 := by
  have HS := Lib.hid (rightSpace_any w 1)
  rw [decide_eq_true (by decide)] at HS
  obtain ⟨a0, c0, a1, c1, a2, c2, hb, f, f0, f1, f2⟩ := hL
  have d0 := hb.has.cell 6 rfl
  have HN := Lib.hid (numbers_any w hb.r1 hlen)
  have hlm : (L.s1.out.map (·.num)).length = L.s1.out.length := by simp
  have HB := Lib.hid hb
  have HL0 := Lib.hid hlm
  clear hb hlm
  go_enter Try.func19, Try.ntmps19
  go_wp2_with fail
  refine HS.out.mono ?_
  rintro e w2 ⟨rfl, rfl⟩
  go_wp2_with fail
  refine HN.out.mono ?_
  rintro e w3 ⟨a3, c3, rfl, ho3, hb3⟩
  rw [HL0.out] at ho3
  have B := HB.out.below hb3
  have e0 := B.has.cell 6 rfl
  have e0f := B.has.free 6
  have k1 := Kept.set w3 g 6 (.slice none 0 0)
  have H1 := B.has.set 6 (.slice none 0 0)
  have e1 := H1.cell 9 rfl
  have e1f := H1.free 9
  have k2 := k1.trans (Kept.set (w3.setCell ⟨g, 6, none⟩ (.slice none 0 0)) g 9 (.int .i64 (-1))) (fun _ _ h => h)
  have H2 := H1.set 9 (.int .i64 (-1))
  have e2 := H2.cell 10 rfl
  have e2f := H2.free 10
  have k3 := k2.trans (Kept.set ((w3.setCell ⟨g, 6, none⟩ (.slice none 0 0)).setCell ⟨g, 9, none⟩ (.int .i64 (-1))) g 10 (.int .i64 (-1))) (fun _ _ h => h)
  have H3 := H2.set 10 (.int .i64 (-1))
  have hgz := HB.out.has.lt
  have o3 := own_kept' ho3 k3 (fun ad ha e => by have := ownblk ho3 ha; omega)
  have HRES : Hid (LB (((w3.setCell ⟨g, 6, none⟩ (.slice none 0 0)).setCell ⟨g, 9, none⟩ (.int .i64 (-1))).setCell ⟨g, 10, none⟩ (.int .i64 (-1))) g L.drop1 a0 c0 none 0 a2 c2 ∧ Kept F w (((w3.setCell ⟨g, 6, none⟩ (.slice none 0 0)).setCell ⟨g, 9, none⟩ (.int .i64 (-1))).setCell ⟨g, 10, none⟩ (.int .i64 (-1)))) := Lib.hid (by
    refine ⟨⟨H3, own_kept' B.r0 k3 (fun ad ha e => B.g0 ad ha e), World.ownsRow_nil _ _ _ _, own_kept' B.r2 k3 (fun ad ha e => B.g2 ad ha e), B.g0, (by simp), B.g2, (by simp), B.d02, (by simp)⟩, (Kept.of_below hb3).trans k3 (fun _ _ e => by rw [e]; exact f)⟩)
  have HO3 := Lib.hid o3
  clear B k1 H1 k2 H2 k3 H3 o3 ho3
  go_wp2
  go_ret2
  exact ⟨a3, c3, rfl, HO3.out, HRES.out.2, a0, c0, none, 0, a2, c2, HRES.out.1, f, f0, (by simp), f2⟩

set_option maxRecDepth 100000 in
set_option maxHeartbeats 2000000 in
theorem fire_lost2 (w : World) {F : Nat → Prop} {g : Nat} {L : Lo} (hL : LAt F w g L) (hq : LoB L) (now : Int) (ht : L.now ≤ now ∧ now ≤ 1099511627776) (hd1 : L.dead.1 = 2) (hd2 : L.dead.2.1 ≤ now) (hd3 : L.dead.2.2 = true) :
    Calls Try.prog 14 #[.pointer (some ⟨g, 0, none⟩), .int .i64 now] w fun e w' => ∃ a c, e = .returned (.tuple #[.int .i64 2, .slice a ((L.at' now).s2.out.filter (L.at' now).ask2).length c, .bool false, .int .i64 0]) ∧
      w'.ownsRow w.heap.size 3 1 (.slice a ((L.at' now).s2.out.filter (L.at' now).ask2).length c) ((L.at' now).s2.out.filter (L.at' now).ask2).length (nums (((L.at' now).s2.out.filter (L.at' now).ask2).map (·.num))) ∧ Kept F w w' ∧ LAt (Fat F w w') w' g (L.at' now).found2 := by
  have HT := Lib.hid (rightTime_any w hL now)
  rw [decide_eq_true ht] at HT
  have hFg := hL.fg
  obtain ⟨d2, f2⟩ := hL.cell 16 (v := .int .i64 L.now) (fun _ _ _ _ _ _ => rfl)
  obtain ⟨k1, h1⟩ := hL.set (L' := L.at' now) 16 (.int .i64 now) rfl rfl rfl (fun _ _ _ _ _ _ => rfl)
  have hq1 := hq.at' now ht
  have HD := Lib.hid (deadline_any _ h1 hq1.time)
  rw [at_dead] at HD
  obtain ⟨dd, hdd⟩ : ∃ dd, dd = L.dead := ⟨_, rfl⟩
  rw [← hdd] at HD hd1 hd2 hd3
  obtain ⟨sp, at_, lo⟩ := dd
  simp only [] at HD hd1 hd2 hd3
  subst hd3
  subst hd1
  have H1 := Lib.hid (And.intro k1 h1)
  have c2 : ¬ now < at_ := by omega
  have zs : (w.setCell ⟨g, 16, none⟩ (.int .i64 now)).heap.size = w.heap.size := by simp [World.setCell]
  have hbK := hq1.b2
  have hfl : ((L.at' now).s2.out.filter (L.at' now).ask2).length ≤ 4096 := Nat.le_trans (List.length_filter_le _ _) hbK.len
  have HFd := Lib.hid (fun w' (hb : Below (w.setCell ⟨g, 16, none⟩ (.int .i64 now)).heap.size (w.setCell ⟨g, 16, none⟩ (.int .i64 now)) w') => find_2 w' (h1.below hb) hq1)
  obtain ⟨lost, hlo⟩ : ∃ lost, lost = (L.at' now).s2.out.filter (L.at' now).ask2 := ⟨_, rfl⟩
  rw [← hlo] at HFd hfl
  rw [← hlo]
  have hlm : (lost.map (·.num)).length = lost.length := by simp
  have HLM := Lib.hid hlm
  clear hdd hL hq ht k1 h1 hd2 hlo hlm hq1 hbK
  go_enter Try.func14, Try.ntmps14
  go_wp2_with fail
  refine HT.out.mono ?_
  rintro e w2 ⟨rfl, rfl⟩
  go_wp2_with fail
  refine HD.out.mono ?_
  rintro e w3 ⟨rfl, hb3⟩
  have HF3 := Lib.hid (HFd.out w3 hb3)
  have z3 := hb3.size
  go_wp2_with fail
  refine HF3.out.mono ?_
  rintro e w4 ⟨a4, c4, rfl, hY4, hk4, hL4⟩
  have HN := Lib.hid (numbers_any w4 hY4 hfl)
  have z4 := hk4.size
  clear hY4 HF3
  go_wp2_with fail
  refine HN.out.mono ?_
  rintro e w5 ⟨a5, c5, rfl, ho5, hb5⟩
  go_wp2
  refine bodyPost_ret (results_tmp4 rfl _ _ _) rfl ?_
  rw [HLM.out] at ho5
  have z5 := hb5.size
  refine ⟨a5, c5, rfl, own_mono ho5 (by omega), ((H1.out.1.trans (Kept.of_below (X := none') hb3) (fun _ _ h => h.elim)).trans hk4 (fun _ _ e => by rw [e]; exact hFg)).trans (Kept.of_below (X := none') hb5) (fun _ _ h => h.elim), (hL4.below hb5).more (fun k h _ => h.elim .inl (fun h => .inr ⟨by omega, by omega⟩))⟩

def Lo.drop2 (L : Lo) : Lo := { L with s2 := { L.s2 with out := [], loss := -1, last := -1 } }
set_option maxRecDepth 100000 in
set_option maxHeartbeats 2000000 in
theorem drop_2 (w : World) {F : Nat → Prop} {g : Nat} {L : Lo} (hL : LAt F w g L) (hlen : L.s2.out.length ≤ 4096) :
    Calls Try.prog 19 #[.pointer (some ⟨g, 0, none⟩), .int .i64 2] w fun e w' => ∃ a c, e = .returned (.tuple #[.slice a L.s2.out.length c, .int .i64 0]) ∧
      w'.ownsRow w.heap.size 3 1 (.slice a L.s2.out.length c) L.s2.out.length (nums (L.s2.out.map (·.num))) ∧ Kept F w w' ∧ LAt F w' g L.drop2 := by
  have HS := Lib.hid (rightSpace_any w 2)
  rw [decide_eq_true (by decide)] at HS
  obtain ⟨a0, c0, a1, c1, a2, c2, hb, f, f0, f1, f2⟩ := hL
  have d0 := hb.has.cell 11 rfl
  have HN := Lib.hid (numbers_any w hb.r2 hlen)
  have hlm : (L.s2.out.map (·.num)).length = L.s2.out.length := by simp
  have HB := Lib.hid hb
  have HL0 := Lib.hid hlm
  clear hb hlm
  go_enter Try.func19, Try.ntmps19
  go_wp2_with fail
  refine HS.out.mono ?_
  rintro e w2 ⟨rfl, rfl⟩
  go_wp2_with fail
  refine HN.out.mono ?_
  rintro e w3 ⟨a3, c3, rfl, ho3, hb3⟩
  rw [HL0.out] at ho3
  have B := HB.out.below hb3
  have e0 := B.has.cell 11 rfl
  have e0f := B.has.free 11
  have k1 := Kept.set w3 g 11 (.slice none 0 0)
  have H1 := B.has.set 11 (.slice none 0 0)
  have e1 := H1.cell 14 rfl
  have e1f := H1.free 14
  have k2 := k1.trans (Kept.set (w3.setCell ⟨g, 11, none⟩ (.slice none 0 0)) g 14 (.int .i64 (-1))) (fun _ _ h => h)
  have H2 := H1.set 14 (.int .i64 (-1))
  have e2 := H2.cell 15 rfl
  have e2f := H2.free 15
  have k3 := k2.trans (Kept.set ((w3.setCell ⟨g, 11, none⟩ (.slice none 0 0)).setCell ⟨g, 14, none⟩ (.int .i64 (-1))) g 15 (.int .i64 (-1))) (fun _ _ h => h)
  have H3 := H2.set 15 (.int .i64 (-1))
  have hgz := HB.out.has.lt
  have o3 := own_kept' ho3 k3 (fun ad ha e => by have := ownblk ho3 ha; omega)
  have HRES : Hid (LB (((w3.setCell ⟨g, 11, none⟩ (.slice none 0 0)).setCell ⟨g, 14, none⟩ (.int .i64 (-1))).setCell ⟨g, 15, none⟩ (.int .i64 (-1))) g L.drop2 a0 c0 a1 c1 none 0 ∧ Kept F w (((w3.setCell ⟨g, 11, none⟩ (.slice none 0 0)).setCell ⟨g, 14, none⟩ (.int .i64 (-1))).setCell ⟨g, 15, none⟩ (.int .i64 (-1)))) := Lib.hid (by
    refine ⟨⟨H3, own_kept' B.r0 k3 (fun ad ha e => B.g0 ad ha e), own_kept' B.r1 k3 (fun ad ha e => B.g1 ad ha e), World.ownsRow_nil _ _ _ _, B.g0, B.g1, (by simp), B.d01, (by simp), (by simp)⟩, (Kept.of_below hb3).trans k3 (fun _ _ e => by rw [e]; exact f)⟩)
  have HO3 := Lib.hid o3
  clear B k1 H1 k2 H2 k3 H3 o3 ho3
  go_wp2
  go_ret2
  exact ⟨a3, c3, rfl, HO3.out, HRES.out.2, a0, c0, a1, c1, none, 0, HRES.out.1, f, f0, f1, (by simp)⟩

end Go.Proofs.Ytkpeegcpicckjaa

/- Contract of the queue's Next where the end alone goes out; and Next at whatever arguments. -/
import Derived.Test.YtkjclgpecppokaaSqNext2
namespace Go.Proofs.Ytkjclgpecppokaa
open Go.RowKit

theorem sl_zero (w : World) (ad : Addr) (c : Nat) (h : c ≤ maxLen) : Sl w (some ad) 0 c (bv []) := ⟨rfl, Nat.zero_le _, h, by simp, fun h => absurd h (Nat.lt_irrefl _)⟩

set_option maxRecDepth 100000 in
set_option maxHeartbeats 2000000 in
theorem next_end (w : World) {F : Nat → Prop} {g : Nat} {q : Qu} (h : QAt F w g q) (hq : q.Ok) (most limit : Int) (hl : limit ≤ 9223372036854775807) (hN : (q.pick most limit).2 = 0) (hop : q.opens = true) (hse : q.sent = q.base + q.data.length) :
    Calls Try.prog 10 #[.pointer (some ⟨g, 0, none⟩), .int .i64 most, .int .i64 limit] w (Nexted F w g q most limit) := by
  have hP := pick_any w h hq most limit hl
  have hW := fun w' (hb : Below w.heap.size w w') => written_any w' (h.below hb) hq
  have hno : ¬ q.none most limit := fun h => h.2.elim (fun h => by rw [hop] at h; cases h) (fun h => h hse)
  have hlen := hq.len
  have hm := hq.most
  have hroom := hq.room2
  have hfit := hq.fit
  obtain ⟨da, dc, sa, sc, hb, F1, F2, F3⟩ := h
  have hst : q.start most limit = q.data.length := by unfold Qu.start; rw [if_pos hN]
  have hends : q.ends most limit = true := by unfold Qu.ends; rw [hst, hN, hop]; simp
  have hout : q.out most limit = ⟨q.base + q.data.length, [], true, true⟩ := by unfold Qu.out; rw [if_neg hno, hst, hN, hends]; simp
  have hnext : q.next most limit = { q with e := 1 } := by
    unfold Qu.next; rw [if_neg hno, hst, hN, hends, turned_zero]
    simp [hse]
  rw [hN] at hP
  generalize (q.pick most limit).1 = i0 at hP
  have HP := Lib.hid hP
  have HW := Lib.hid hW
  have HO := Lib.hid hout
  have HNx := Lib.hid hnext
  have hmax : max (q.sent : Int) ((q.base : Int) + (q.data.length : Int)) = (q.sent : Int) := by omega
  have heq : ((q.sent : Int) == (q.base : Int) + (q.data.length : Int)) = true := by rw [hse]; simp
  have f1 : IntKind.i64.wrap ((q.base : Int) + (q.data.length : Int)) = (q.base : Int) + q.data.length := by rw [IntKind.wrap_i64]; omega
  have f3 : IntKind.i64.wrap (q.data.length : Int) = (q.data.length : Int) := by rw [IntKind.wrap_i64]; omega
  have HB := Lib.hid hb
  have c2 := fun w' (hb' : Below w.heap.size w w') => (hb.below hb').has.cell 2 rfl
  have c3 := fun w' (hb' : Below w.heap.size w w') => (hb.below hb').has.cell 3 rfl
  have c5 := fun w' (hb' : Below w.heap.size w w') => (hb.below hb').has.cell 5 rfl
  have c6 := fun w' (hb' : Below w.heap.size w w') => (hb.below hb').has.cell 6 rfl
  have bd1 : q.data.length ≤ 65536 := by omega
  have step : (q.fin = true ∧ ((q.e.toNat : Int) == 0) = true) ∨ (q.fin = true ∧ ((q.e.toNat : Int) == 0) = false ∧ ((q.e.toNat : Int) == 2) = true) := by
    rcases opens_cases q with ⟨e1, e4⟩ | ⟨e1, e2, e4⟩ | ⟨e1, e2, e3, e4⟩ | ⟨e1, e2, e3, e4⟩
    · rw [hop] at e4; cases e4
    · exact .inl ⟨e1, e2⟩
    · exact .inr ⟨e1, e2, e3⟩
    · rw [hop] at e4; cases e4
  have hd0 : da = none → dc = 0 ∧ q.data.length = 0 := fun h => by
    subst h
    rcases hb.d.2 with ⟨hv, h0⟩ | ⟨_, _, _, hv, _⟩
    · simp only [Value.slice.injEq] at hv; exact ⟨hv.2.2, h0⟩
    · simp at hv
  have hd1 : q.data.length ≤ dc ∧ dc ≤ maxLen := by
    have h1 := own_sl hb.d
    exact ⟨h1.cap_le, h1.cap_max⟩
  have lenD2 : (q.data.length : Int) ≤ (dc : Int) := by omega
  have lenD3 : (dc : Int) ≤ 9223372036854775807 := by have := hd1.2; unfold maxLen at this; omega
  clear hP hW hout hnext hlen hb hends hno hN hst hq hfit hroom hop hse
  have hfinish : ∀ (W w5 : World) (a' : Option Addr) (c' : Nat), Kept F w W → Has W g 52 (((qcells q da dc sa sc).set 2 (.int .i64 (q.sent : Int))).set 6 (.int .u8 1)) → W.ownsRow 0 5 1 (.slice da q.data.length dc) q.data.length (bv q.data) →
      W.ownsRow 0 5 1 (.slice sa q.st.length sc) q.st.length (bv q.st) → Below W.heap.size W w5 → w5.ownsRow W.heap.size 5 1 (.slice a' 0 c') 0 (bv []) →
      Nexted F w g q most limit (.returned (.tuple #[.int .i64 ((q.base : Int) + (q.data.length : Int)), .slice a' 0 c', .bool true, .bool true])) w5 := by
    intro W w5 a' c' hK hH hD hS hb5 ho5
    have hk := Kept.of_below (X := none') hb5
    unfold Nexted
    rw [HO.out, HNx.out]
    refine ⟨a', c', by push_cast; rfl, own_mono ho5 hK.size, hK.trans hk (fun _ _ h => h.elim), da, dc, sa, sc, ⟨hH.kept hk (fun h => h), own_kept' hD hk (fun _ _ h => h), own_kept' hS hk (fun _ _ h => h), HB.out.dg, HB.out.sg, HB.out.ds⟩, F1, F2, F3⟩
  have HFi := Lib.hid hfinish
  clear hfinish
  rcases step with ⟨e1, e2⟩ | ⟨e1, e2, e3⟩
  all_goals
    rw [e1] at c5
    clear e1
    go_enter Try.func10, Try.ntmps10
    go_wp2_with fail
    refine HP.out.mono ?_
    rintro e w1 ⟨rfl, hb1⟩
    have d5 := c5 w1 hb1
    have d6 := c6 w1 hb1
    go_wp2_with fail
    have hdr : Below w.heap.size w w1.drew := hb1.trans ⟨rfl, rfl, rfl, Nat.le_refl _, fun _ _ => rfl⟩
    have HWr := Lib.hid (HW.out w1.drew hdr)
    refine Mx.region [] (fun w' => w'.cell? ⟨g, 2, none⟩ = some (.int .i64 (q.sent : Int))) (by kernel_rfl) (by kernel_rfl) (c2 _ hdr) ?_
    repeat ((first | (refine Mx.skips (by kernel_rfl) ?_; go_big_quiet_skip) | (refine Mx.quietly rfl ?_; go_big_quiet_want; go_big_quiet_op; go_big_quiet_on)); refine Mx.done ?_)
    refine Mx.cell ⟨g, 2, none⟩ (.int .i64 (q.sent : Int)) (by kernel_rfl) (by kernel_rfl) (by kernel_rfl) Try.isAgg3 (fun w' h => h) ?_
    go_big_quiet_want; go_big_quiet_op; go_big_quiet_on; refine Mx.done ?_
    repeat ((first | (refine Mx.skips (by kernel_rfl) ?_; go_big_quiet_skip) | (refine Mx.quietly rfl ?_; go_big_quiet_want; go_big_quiet_op; go_big_quiet_on)); refine Mx.done ?_)
    refine Mx.loudly (by kernel_rfl) (by kernel_rfl) ?_
    go_wp2_with fail
    refine HWr.out.mono ?_
    rintro e w2 ⟨rfl, hb2⟩
    have B2 : Below w.heap.size w w2 := hdr.trans (hb2.mono hdr.size)
    have d2 := c2 w2 B2
    have d3 := c3 w2 B2
    go_wp2_with fail
    repeat ((first | (refine Mx.skips (by kernel_rfl) ?_; go_big_quiet_skip) | (refine Mx.quietly rfl ?_; go_big_quiet_want; go_big_quiet_op; go_big_quiet_on)); refine Mx.done ?_)
    refine Mx.nil ?_
    go_wp2_with fail
    refine wp_loop_once ?_
    go_wp2_with fail
    have B := HB.out.below B2
    have hH := B.has
    have r1 : w2.drew.cell? ⟨g, 1, none⟩ = some (.int .i64 (q.base : Int)) := (hH.kept (Kept.drew none' w2) (fun h => h)).cell 1 rfl
    have r1w := hH.cell 1 rfl
    have r2f := hH.free 2
    have k2 := Kept.set w2 g 2 (.int .i64 (q.sent : Int))
    have kd : Kept none' (w2.setCell ⟨g, 2, none⟩ (.int .i64 (q.sent : Int))) (w2.setCell ⟨g, 2, none⟩ (.int .i64 (q.sent : Int))).drew := Kept.drew _ _
    have H2 := (hH.set 2 (.int .i64 (q.sent : Int))).kept kd (fun h => h)
    have K2 : Kept F w _ := ((Kept.of_below (X := F) B2).trans k2 (fun j _ e => by rw [e]; exact F1)).trans kd (fun _ _ h => h.elim)
    have D2 := own_kept' (own_kept' B.d k2 (fun ad ha e => B.dg ad ha e)) kd (fun _ _ h => h)
    have S2 := own_kept' (own_kept' B.s k2 (fun ad ha e => B.sg ad ha e)) kd (fun _ _ h => h)
    clear hH k2 kd d5 d6
    refine Mx.region [74] (fun w' => w'.cell? ⟨g, 1, none⟩ = some (.int .i64 (q.base : Int))) (by kernel_rfl) (by kernel_rfl) r1 ?_
    repeat ((first | (refine Mx.skips (by kernel_rfl) ?_; go_big_quiet_skip) | (refine Mx.quietly rfl ?_; go_big_quiet_want; go_big_quiet_op; go_big_quiet_on)); refine Mx.done ?_)
    refine Mx.loudly (by kernel_rfl) (by kernel_rfl) ?_
    go_wp2_with fail
    repeat ((first | (refine Mx.skips (by kernel_rfl) ?_; go_big_quiet_skip) | (refine Mx.quietly rfl ?_; go_big_quiet_want; go_big_quiet_op; go_big_quiet_on)); refine Mx.done ?_)
    refine Mx.cell ⟨g, 1, none⟩ (.int .i64 (q.base : Int)) (by kernel_rfl) (by kernel_rfl) (by kernel_rfl) Try.isAgg3 (fun w' h => h) ?_
    go_big_quiet_want; go_big_quiet_op; go_big_quiet_on; refine Mx.done ?_
    repeat ((first | (refine Mx.skips (by kernel_rfl) ?_; go_big_quiet_skip) | (refine Mx.quietly rfl ?_; go_big_quiet_want; go_big_quiet_op; go_big_quiet_on)); refine Mx.done ?_)
    refine Mx.loudly (by kernel_rfl) (by kernel_rfl) ?_
    go_wp2_with fail
    repeat ((first | (refine Mx.skips (by kernel_rfl) ?_; go_big_quiet_skip) | (refine Mx.quietly rfl ?_; go_big_quiet_want; go_big_quiet_op; go_big_quiet_on)); refine Mx.done ?_)
    refine Mx.nil ?_
    clear r1 r1w r2f d2 d3
    have t3 := H2.cell 3 rfl
    have t6 := H2.cell 6 rfl
    have t6f := H2.free 6
    generalize (w2.setCell ⟨g, 2, none⟩ (.int .i64 (q.sent : Int))).drew = wB at *
    go_wp2_with fail
    have k3 := Kept.set wB g 6 (.int .u8 1)
    have K3 := K2.trans k3 (fun j _ e => by rw [e]; exact F1)
    have D3 := own_kept' D2 k3 (fun ad ha e => B.dg ad ha e)
    have S3 := own_kept' S2 k3 (fun ad ha e => B.sg ad ha e)
    have H3 := H2.set 6 (.int .u8 1)
    clear t3 t6 t6f K2 D2 S2 H2 k3
    generalize wB.setCell ⟨g, 6, none⟩ (.int .u8 1) = wC at *
    have kd := Kept.drew none' wC
    have H4 := H3.kept kd (fun h => h)
    have r1 : wC.drew.cell? ⟨g, 1, none⟩ = some (.int .i64 (q.base : Int)) := H4.cell 1 rfl
    have r3 : wC.drew.cell? ⟨g, 3, none⟩ = some (.slice da q.data.length dc) := H4.cell 3 rfl
    have D4 := own_kept' D3 kd (fun _ _ h => h)
    have S4 := own_kept' S3 kd (fun _ _ h => h)
    have K4 := K3.trans kd (fun _ _ h => h.elim)
    clear B
    refine Mx.region [] (fun w' => w'.cell? ⟨g, 1, none⟩ = some (.int .i64 (q.base : Int)) ∧ w'.cell? ⟨g, 3, none⟩ = some (.slice da q.data.length dc)) (by kernel_rfl) (by kernel_rfl) ⟨r1, r3⟩ ?_
    repeat ((first | (refine Mx.skips (by kernel_rfl) ?_; go_big_quiet_skip) | (refine Mx.quietly rfl ?_; go_big_quiet_want; go_big_quiet_op; go_big_quiet_on)); refine Mx.done ?_)
    refine Mx.cell ⟨g, 1, none⟩ (.int .i64 (q.base : Int)) (by kernel_rfl) (by kernel_rfl) (by kernel_rfl) Try.isAgg3 (fun w' h => h.1) ?_
    go_big_quiet_want; go_big_quiet_op; go_big_quiet_on; refine Mx.done ?_
    repeat ((first | (refine Mx.skips (by kernel_rfl) ?_; go_big_quiet_skip) | (refine Mx.quietly rfl ?_; go_big_quiet_want; go_big_quiet_op; go_big_quiet_on)); refine Mx.done ?_)
    refine Mx.cell ⟨g, 3, none⟩ (.slice da q.data.length dc) (by kernel_rfl) (by kernel_rfl) (by kernel_rfl) Try.isAgg27 (fun w' h => h.2) ?_
    go_big_quiet_want; go_big_quiet_op; go_big_quiet_on; refine Mx.done ?_
    cases da with
    | none =>
      obtain ⟨rfl, hl0⟩ := hd0 rfl
      simp only [hl0, Int.ofNat_zero] at H4 D4 r1 r3 ⊢
      repeat ((first | (refine Mx.skips (by kernel_rfl) ?_; go_big_quiet_skip) | (refine Mx.quietly rfl ?_; go_big_quiet_want; go_big_quiet_op; go_big_quiet_on)); refine Mx.done ?_)
      refine Mx.loudly (by kernel_rfl) (by kernel_rfl) ?_
      go_wp2_with fail
      refine (clone_any wC.drew (l := []) (Sl.empty _) (by omega)).mono ?_
      rintro e w5 ⟨a5, c5', rfl, ho5, hb5⟩
      go_wp2_with fail
      refine ⟨⟨by rw [hb5.cell (World.block_lt_of_cell? _ _ r1)]; exact r1, by rw [hb5.cell (World.block_lt_of_cell? _ _ r3)]; exact r3⟩, ?_⟩
      repeat ((first | (refine Mx.skips (by kernel_rfl) ?_; go_big_quiet_skip) | (refine Mx.quietly rfl ?_; go_big_quiet_want; go_big_quiet_op; go_big_quiet_on)); refine Mx.done ?_)
      refine Mx.nil ?_
      go_wp2
      refine bodyPost_ret (results_tmp4 rfl _ _ _) rfl ?_
      have := HFi.out wC.drew w5 a5 c5' K4; simp only [hl0, Int.ofNat_zero] at this; exact this H4 D4 S4 hb5 ho5
    | some ad =>
      by_cases hcap : dc = q.data.length
      · subst hcap
        repeat ((first | (refine Mx.skips (by kernel_rfl) ?_; go_big_quiet_skip) | (refine Mx.quietly rfl ?_; go_big_quiet_want; go_big_quiet_op; go_big_quiet_on)); refine Mx.done ?_)
        refine Mx.loudly (by kernel_rfl) (by kernel_rfl) ?_
        go_wp2_with fail
        refine (clone_any wC.drew (l := []) (sl_zero _ _ _ (by decide)) (by omega)).mono ?_
        rintro e w5 ⟨a5, c5', rfl, ho5, hb5⟩
        go_wp2_with fail
        refine ⟨⟨by rw [hb5.cell (World.block_lt_of_cell? _ _ r1)]; exact r1, by rw [hb5.cell (World.block_lt_of_cell? _ _ r3)]; exact r3⟩, ?_⟩
        repeat ((first | (refine Mx.skips (by kernel_rfl) ?_; go_big_quiet_skip) | (refine Mx.quietly rfl ?_; go_big_quiet_want; go_big_quiet_op; go_big_quiet_on)); refine Mx.done ?_)
        refine Mx.nil ?_
        go_wp2
        refine bodyPost_ret (results_tmp4 rfl _ _ _) rfl ?_
        exact HFi.out wC.drew w5 a5 c5' K4 H4 D4 S4 hb5 ho5
      · have hlc : (q.data.length : Int) < (dc : Int) := by omega
        repeat ((first | (refine Mx.skips (by kernel_rfl) ?_; go_big_quiet_skip) | (refine Mx.quietly rfl ?_; go_big_quiet_want; go_big_quiet_op; go_big_quiet_on)); refine Mx.done ?_)
        refine Mx.loudly (by kernel_rfl) (by kernel_rfl) ?_
        go_wp2_with fail
        refine (clone_any wC.drew (l := []) (sl_zero _ _ _ (by have := hd1.2; omega)) (by omega)).mono ?_
        rintro e w5 ⟨a5, c5', rfl, ho5, hb5⟩
        go_wp2_with fail
        refine ⟨⟨by rw [hb5.cell (World.block_lt_of_cell? _ _ r1)]; exact r1, by rw [hb5.cell (World.block_lt_of_cell? _ _ r3)]; exact r3⟩, ?_⟩
        repeat ((first | (refine Mx.skips (by kernel_rfl) ?_; go_big_quiet_skip) | (refine Mx.quietly rfl ?_; go_big_quiet_want; go_big_quiet_op; go_big_quiet_on)); refine Mx.done ?_)
        refine Mx.nil ?_
        go_wp2
        refine bodyPost_ret (results_tmp4 rfl _ _ _) rfl ?_
        exact HFi.out wC.drew w5 a5 c5' K4 H4 D4 S4 hb5 ho5

/-- Next, at whatever arguments -/
theorem next_any (w : World) {F : Nat → Prop} {g : Nat} {q : Qu} (h : QAt F w g q) (hq : q.Ok) (most limit : Int) (hl : limit ≤ 9223372036854775807) :
    Calls Try.prog 10 #[.pointer (some ⟨g, 0, none⟩), .int .i64 most, .int .i64 limit] w (Nexted F w g q most limit) := by
  by_cases hn : (q.pick most limit).2 = 0
  · by_cases hno : q.none most limit
    · exact next_none w h hq most limit hl hno
    · unfold Qu.none at hno
      simp only [hn, true_and, not_or, Bool.not_eq_false, ne_eq, Decidable.not_not] at hno
      exact next_end w h hq most limit hl hn hno.1 hno.2
  · exact next_some w h hq most limit hl hn
end Go.Proofs.Ytkjclgpecppokaa

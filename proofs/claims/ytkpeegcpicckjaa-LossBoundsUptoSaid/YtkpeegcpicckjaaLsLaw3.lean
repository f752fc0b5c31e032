/- LossBounds answers true. -/
import Derived.Test.YtkpeegcpicckjaaLsLaw1
import Derived.Test.YtkpeegcpicckjaaLsCopy
import Derived.Deep.DeepCutAuto
import Derived.Deep.CutBlock
namespace Go.Proofs.Ytkpeegcpicckjaa
open Go.RowKit

theorem SlS.below {w w' : World} {a : Option Addr} {n c : Nat} {l : List Sn} (h : SlS w a n c l) (hb : Below w.heap.size w w') : SlS w' a n c l := by
  refine ⟨h.len, h.cap, h.max, fun hn => ?_⟩
  obtain ⟨b, off, ha, hc⟩ := h.cells hn
  refine ⟨b, off, ha, fun i hi => ?_⟩
  obtain ⟨c0, c1⟩ := hc i hi
  exact ⟨(hb.cell (World.block_lt_of_cell? w _ c0)).trans c0, (hb.cell (World.block_lt_of_cell? w _ c1)).trans c1⟩
/-- what is new since B, but for the block ab -/
def BF (B ab : Nat) (k : Nat) : Prop := B ≤ k ∧ k ≠ ab
/-- the calls so far: L lies at g, three numbers at ab -/
structure BT (W : World) (g ab : Nat) (L : Lo) (lim : Int) (x0 x1 x2 : Int) (w : World) : Prop where
  lies : LAt (BF W.heap.size ab) w g L
  ok : LoB L
  win : L.window ≤ lim
  has : Has w ab 39 [.int .i64 x0, .int .i64 x1, .int .i64 x2]
  new : Below W.heap.size W w
/-- a number of three -/
def pick3 (x0 x1 x2 : Int) (k : Int) : Int := if k = 0 then x0 else if k = 1 then x1 else x2
theorem pick3_0 (x0 x1 x2 : Int) : pick3 x0 x1 x2 0 = x0 := rfl
theorem pick3_1 (x0 x1 x2 : Int) : pick3 x0 x1 x2 1 = x1 := rfl
theorem pick3_2 (x0 x1 x2 : Int) : pick3 x0 x1 x2 2 = x2 := rfl
/-- the three numbers are no less than what was acknowledged -/
def Acks (L : Lo) (x0 x1 x2 : Int) : Prop := ∀ j, 0 ≤ j → j ≤ 2 → (L.sp j).acked ≤ pick3 x0 x1 x2 j
theorem BT.below {W : World} {g ab : Nat} {L : Lo} {lim x0 x1 x2 : Int} {w w' : World} (h : BT W g ab L lim x0 x1 x2 w) (hb : Below w.heap.size w w') : BT W g ab L lim x0 x1 x2 w' :=
  ⟨h.lies.below hb, h.ok, h.win, h.has.kept (Kept.of_below (X := none') hb) (fun h => h), h.new.trans (hb.mono h.new.size)⟩
theorem BT.more {W : World} {g ab : Nat} {L : Lo} {lim lim' x0 x1 x2 : Int} {w : World} (h : BT W g ab L lim x0 x1 x2 w) (hl : lim ≤ lim') : BT W g ab L lim' x0 x1 x2 w :=
  ⟨h.lies, h.ok, Int.le_trans h.win hl, h.has, h.new⟩
/-- a call of the loss layer -/
theorem BT.step {W : World} {g ab : Nat} {L L' : Lo} {lim lim' x0 x1 x2 : Int} {w w' : World} {F : Nat → Prop} (h : BT W g ab L lim x0 x1 x2 w) (hF : ∀ k, F k → BF W.heap.size ab k) (hk : Kept F w w') (hL : LAt (Fat F w w') w' g L') (hq : LoB L') (hw : L'.window ≤ lim') :
    BT W g ab L' lim' x0 x1 x2 w' := by
  have hs := h.new.size
  have hl := h.has.lt
  exact ⟨hL.more (fun k hk' _ => hk'.elim (fun h => hF k h) (fun h => ⟨by omega, by omega⟩)), hq, hw, h.has.kept hk (fun h => (hF _ h).2 rfl), Kept.fresh h.new hk (fun k h => (hF k h).1)⟩
/-- L lies in what is older than ob -/
theorem BT.old {W : World} {g ab : Nat} {L : Lo} {lim x0 x1 x2 : Int} {w : World} (h : BT W g ab L lim x0 x1 x2 w) {ob : Nat} (hob : ob = w.heap.size) {w' : World} (hb : Below w.heap.size w w') : LAt (fun k => BF W.heap.size ab k ∧ k < ob) w' g L :=
  (h.lies.more (fun k hk hlt => ⟨hk, by rw [hob]; exact hlt⟩)).below hb
theorem BT.put {W : World} {g ab : Nat} {L : Lo} {lim x0 x1 x2 : Int} {w : World} (h : BT W g ab L lim x0 x1 x2 w) (hab : W.heap.size ≤ ab) (i : Nat) (v : Value) {y0 y1 y2 : Int} (he : [Value.int .i64 x0, .int .i64 x1, .int .i64 x2].set i v = [.int .i64 y0, .int .i64 y1, .int .i64 y2]) :
    BT W g ab L lim y0 y1 y2 (w.setCell ⟨ab, i, none⟩ v) := by
  have hk := Kept.set w ab i v
  refine ⟨h.lies.kept hk (fun k hF _ e => hF.2 e), h.ok, h.win, ?_, Kept.fresh h.new hk (fun k e => by rw [e]; exact hab)⟩
  rw [← he]
  exact h.has.set i v
theorem SpB.new0 : SpB Sp.new 0 := ⟨by decide, by decide, by decide, by decide, by decide, by simp [Sp.new]⟩
theorem LoB.new25 : LoB (Lo.new 25) := ⟨by decide, by decide, by decide, by decide, by decide, by decide, by decide, by decide, by decide, by decide, SpB.new0, SpB.new0, SpB.new0⟩
theorem acks_rest {L L' : Lo} {x0 x1 x2 : Int} (h : Acks L x0 x1 x2) {k : Int} (hr : ∀ j, 0 ≤ j → j ≤ 2 → j ≠ k → (L'.sp j).out = (L.sp j).out ∧ (L'.sp j).acked = (L.sp j).acked) (hk : (L'.sp k).acked ≤ pick3 x0 x1 x2 k) : Acks L' x0 x1 x2 := by
  intro j h0 h2
  by_cases hj : j = k
  · rw [hj]; exact hk
  · rw [(hr j h0 h2 hj).2]; exact h j h0 h2
theorem acks_sent {L L' : Lo} {x0 x1 x2 : Int} (h : Acks L x0 x1 x2) {z s number size now : Int} {el : Bool} (hc : (z ≠ 0 ∧ L' = L) ∨ (z = 0 ∧ SentOk L L' s number size el now)) : Acks L' x0 x1 x2 := by
  rcases hc with ⟨_, rfl⟩ | ⟨_, hs, _, _, ha, _, _, hr⟩
  · exact h
  · exact acks_rest h hr (by rw [ha]; exact h s hs.1 hs.2)
theorem acks_put {L L' : Lo} {x0 x1 x2 y0 y1 y2 : Int} (h : Acks L x0 x1 x2) {k : Int} (hr : ∀ j, 0 ≤ j → j ≤ 2 → j ≠ k → (L'.sp j).out = (L.sp j).out ∧ (L'.sp j).acked = (L.sp j).acked) (hy : ∀ j, 0 ≤ j → j ≤ 2 → j ≠ k → pick3 x0 x1 x2 j = pick3 y0 y1 y2 j) (hk : (L'.sp k).acked ≤ pick3 y0 y1 y2 k) : Acks L' y0 y1 y2 := by
  intro j h0 h2
  by_cases hj : j = k
  · rw [hj]; exact hk
  · rw [(hr j h0 h2 hj).2, ← hy j h0 h2 hj]; exact h j h0 h2

theorem sizes_of {s : Sp} {now : Int} (h : SpB s now) : SizesOk s.out := ⟨h.len, fun p hp => by have := h.pk p hp; exact ⟨this.2.2.1, this.2.2.2.1⟩⟩
theorem nums_get (l : List Int) (i : Nat) (h : i < l.length) : (nums l)[i]? = some (.int .i64 l[i]) := by simp [nums, h]
/-- behind the switch: what is gone, and where -/
def Gone (W : World) (g ab i : Nat) (gv sv : Value) (wc : World) : Prop :=
  ∃ (ga : Option Addr) (gn gc : Nat) (zs : List Int) (s : Int) (L' : Lo) (x0 x1 x2 : Int), gv = .slice ga gn gc ∧ gn = zs.length ∧ sv = .int .i64 s ∧ BT W g ab L' (12000 + ((i : Int) + 1) * 268435456) x0 x1 x2 wc ∧ Acks L' x0 x1 x2 ∧
    wc.ownsRow W.heap.size 3 1 (.slice ga gn gc) gn (nums zs) ∧ ∀ z ∈ zs, (0 ≤ s ∧ s ≤ 2) ∧ z < pick3 x0 x1 x2 s
theorem Gone.none {W : World} {g ab i : Nat} {L : Lo} {x0 x1 x2 : Int} {wc : World} (h : BT W g ab L (12000 + ((i : Int) + 1) * 268435456) x0 x1 x2 wc) (ha : Acks L x0 x1 x2) (s : Int) : Gone W g ab i (.slice none 0 0) (.int .i64 s) wc :=
  ⟨Option.none, 0, 0, [], s, L, x0, x1, x2, rfl, rfl, rfl, h, ha, World.ownsRow_nil _ _ _ _, by simp⟩
theorem lost_lt {L L' : Lo} {k : Int} {f1 f2 : Pk → Bool} {l : List Pk} {x0 x1 x2 : Int} (hM : Moves L L' k f1 f2) (ha : Acks L' x0 x1 x2) : ∀ z ∈ (l.filter f2).map (·.num), (0 ≤ k ∧ k ≤ 2) ∧ z < pick3 x0 x1 x2 k := by
  intro z hz
  obtain ⟨p, hp, rfl⟩ := List.mem_map.1 hz
  have := hM.less p (List.mem_filter.1 hp).2
  have := ha k hM.hk.1 hM.hk.2
  exact ⟨hM.hk, by omega⟩

set_option maxRecDepth 100000 in
set_option maxHeartbeats 20000000 in
theorem lbounds_any (W : World) (a : Option Addr) (n c : Nat) (h : OpsAt W a n c) :
    Calls Try.prog 5 #[.slice a n c] W fun e w' => e = .returned (.bool true) ∧ Below W.heap.size W w' := by
  have HAw := Lib.hid awake11_any
  obtain ⟨hn20, hnc, hcm, hops⟩ := h
  have HO := Lib.hid hops
  have hcm' : (c : Int) ≤ 9223372036854775807 := by unfold maxLen at hcm; omega
  clear hops hcm
  go_enter Try.func5, Try.ntmps5
  go_wp2_with fail
  refine (new_any W 25).mono ?_
  rintro e w1 (⟨h, _⟩ | ⟨_, _, g, rfl, hL, hb1⟩)
  · exfalso; omega
  obtain ⟨ab, hab⟩ : ∃ ab, ab = w1.heap.size := ⟨_, rfl⟩
  obtain ⟨w2, hw2⟩ : ∃ w2, w2 = w1.alloc (.cells #[.int .i64 0, .int .i64 0, .int .i64 0] 39) := ⟨_, rfl⟩
  have habW : Hid (W.heap.size ≤ ab) := Lib.hid (by rw [hab]; exact hb1.size)
  have B0 : BT W g ab (Lo.new 25) 12000 0 0 0 w2 := by
    have hal : Below w1.heap.size w1 w2 := by rw [hw2]; exact (Below.refl _ _).alloc (Nat.le_refl _) _
    have hL1 : LAt (BF W.heap.size ab) w1 g (Lo.new 25) := hL.more (fun k h _ => ⟨h.1, by have := h.2; omega⟩)
    have hT : Has w2 ab 39 [.int .i64 0, .int .i64 0, .int .i64 0] := by rw [hw2, hab]; exact Has.new _ _ _
    exact ⟨hL1.below hal, LoB.new25, by decide, hT, hb1.trans (hal.mono hb1.size)⟩
  have A0 : Acks (Lo.new 25) 0 0 0 := by
    intro j h0 h2
    have : j = 0 ∨ j = 1 ∨ j = 2 := by omega
    rcases this with rfl | rfl | rfl <;> decide
  clear hL hb1
  go_wp2_with fail
  rw [← hw2, ← hab]
  clear hw2 hab
  go_loopw [31] (fun iv wr => ∃ (i : Nat) (L : Lo) (x0 x1 x2 : Int), iv = .int .i64 (i : Int) ∧ i ≤ n ∧ BT W g ab L (12000 + (i : Int) * 268435456) x0 x1 x2 wr ∧ Acks L x0 x1 x2) (fun iv _ => n - (intOf iv).toNat)
  case atStart => exact ⟨0, _, 0, 0, 0, rfl, Nat.zero_le _, B0, A0⟩
  case round =>
    clear B0 A0
    obtain ⟨i, L, x0, x1, x2, rfl, hi, hS, hA⟩ := hrel
    by_cases hin : i < n
    · have hin' : (i : Int) < (n : Int) := by omega
      have g2 : IntKind.i64.wrap ((i : Int) + 1) = (i : Int) + 1 := by rw [IntKind.wrap_i64]; omega
      obtain ⟨b, off, rfl, hop⟩ := HO.out (by omega)
      obtain ⟨kind, space, number, size, now, el, sa, sn, sc, sl, c0, c1, c2, c3, c4, c5, c6, hSl, hsn, hr1, hr2, hr3, hr4, hrs⟩ := hop i hin
      clear hop
      have hB := hS.new
      have cellB : ∀ {ad : Addr} {u : Value}, W.cell? ad = some u → wr.cell? ad = some u := fun {ad u} hc => by rw [hB.cell (World.block_lt_of_cell? W _ hc)]; exact hc
      have c0 := cellB c0
      have c1 := cellB c1
      have c2 := cellB c2
      have c3 := cellB c3
      have c4 := cellB c4
      have c5 := cellB c5
      have c6 := cellB c6
      clear cellB
      obtain ⟨ob, hob⟩ : ∃ ob, ob = wr.heap.size := ⟨_, rfl⟩
      obtain ⟨w1', hw1⟩ : ∃ w1', w1' = wr.alloc (.cells #[.int .i64 kind, .int .i64 space, .int .i64 number, .int .i64 size, .int .i64 now, .bool el, .slice sa sn sc] 42) := ⟨_, rfl⟩
      have hal : Below wr.heap.size wr w1' := by rw [hw1]; exact (Below.refl _ _).alloc (Nat.le_refl _) _
      have hT : Has w1' ob 42 [.int .i64 kind, .int .i64 space, .int .i64 number, .int .i64 size, .int .i64 now, .bool el, .slice sa sn sc] := by rw [hw1, hob]; exact Has.new _ _ _
      have hS1 := hS.below hal
      have hobW : Hid (W.heap.size ≤ ob ∧ ab < ob ∧ g < ob) := Lib.hid (by
        have := hB.size
        have := hS.has.lt
        have := hS.lies.lt
        rw [hob]; omega)
      have HL1 : Hid (LAt (fun k => BF W.heap.size ab k ∧ k < ob) w1' g L) := Lib.hid (hS.old hob hal)
      have HT := Lib.hid hT
      have HS1 := Lib.hid hS1
      have HM1 : Hid (BT W g ab L (12000 + ((i : Int) + 1) * 268435456) x0 x1 x2 w1') := Lib.hid (hS1.more (by omega))
      have HA := Lib.hid hA
      have HSl := Lib.hid hSl
      have HRs := Lib.hid hrs
      clear hal hT hS1 hS hA hB hSl hrs
      go_upto_block 2 with fail
      rw [← hw1, ← hob]
      clear hw1 hob c0 c1 c2 c3 c4 c5 c6
      go_cut [8, 9] (fun gv sv wc => Gone W g ab i gv sv wc)
      case first =>
        have t0 := HT.out.cell 0 rfl
        have t1 := HT.out.cell 1 rfl
        have t2 := HT.out.cell 2 rfl
        have t3 := HT.out.cell 3 rfl
        have t4 := HT.out.cell 4 rfl
        have t5 := HT.out.cell 5 rfl
        have t6 := HT.out.cell 6 rfl
        by_cases k1 : kind = 1
        · subst k1
          have HSn := Lib.hid (sent_all w1' HL1.out HS1.out.ok space number size el now)
          go_wp2_with fail
          refine HSn.out.mono ?_
          rintro e w3 ⟨z, L', rfl, hk3, hL3, hB3, hwin, hcs⟩
          have G3 : Hid (Gone W g ab i (.slice none 0 0) (.int .i64 space) w3) := Lib.hid (Gone.none (HS1.out.step (fun k h => h.1) hk3 hL3 hB3 (by have := HM1.out.win; omega)) (acks_sent HA.out hcs) space)
          clear hk3 hL3 hB3 hwin hcs HSn
          go_wp2_with fail
          go_meet
          case rel => exact G3.out
        · have j1 : (kind == 1) = false := by rw [beq_eq_false_iff_ne]; exact k1
          by_cases k2 : kind = 2
          · subst k2
            clear k1
            have HT1d : Has w1'.drew ob 42 [.int .i64 2, .int .i64 space, .int .i64 number, .int .i64 size, .int .i64 now, .bool el, .slice sa sn sc] := HT.out.kept (Kept.drew none' _) (fun h => h)
            have HS1d : BT W g ab L (12000 + (i : Int) * 268435456) x0 x1 x2 w1'.drew := HS1.out.below (below_drewN (Below.refl _ w1') 1)
            have d1 := HT1d.cell 1 rfl
            have d2 := HT1d.cell 2 rfl
            have d4 := HT1d.cell 4 rfl
            have d6 := HT1d.cell 6 rfl
            have HL1d : Hid (LAt (fun k => BF W.heap.size ab k ∧ k < ob) w1'.drew g L) := Lib.hid (HL1.out.below (below_drewN (Below.refl _ w1') 1))
            have hSd : SlS w1'.drew sa sn sc sl := HSl.out.below HS1d.new
            have HCp := Lib.hid (copy_any w1'.drew hSd hsn)
            have HS1d := Lib.hid HS1d
            have HT1d := Lib.hid HT1d
            clear hSd t1 t2 t3 t4 t5 t6
            go_wp2_with fail
            refine Mx.region [] (fun w' => w'.cell? ⟨ob, 1, none⟩ = some (.int .i64 space) ∧ w'.cell? ⟨ob, 2, none⟩ = some (.int .i64 number) ∧ w'.cell? ⟨ob, 4, none⟩ = some (.int .i64 now) ∧ w'.cell? ⟨ob, 6, none⟩ = some (.slice sa sn sc)) (by kernel_rfl) (by kernel_rfl) ⟨d1, d2, d4, d6⟩ ?_
            repeat ((first | (refine Mx.skips (by kernel_rfl) ?_; go_big_quiet_skip) | (refine Mx.quietly rfl ?_; go_big_quiet_want; go_big_quiet_op; go_big_quiet_on)); refine Mx.done ?_)
            refine Mx.cell ⟨ob, 1, none⟩ (.int .i64 space) (by kernel_rfl) (by kernel_rfl) (by kernel_rfl) Try.isAgg3 (fun w' h => h.1) ?_
            go_big_quiet_want; go_big_quiet_op; go_big_quiet_on; refine Mx.done ?_
            repeat ((first | (refine Mx.skips (by kernel_rfl) ?_; go_big_quiet_skip) | (refine Mx.quietly rfl ?_; go_big_quiet_want; go_big_quiet_op; go_big_quiet_on)); refine Mx.done ?_)
            refine Mx.cell ⟨ob, 6, none⟩ (.slice sa sn sc) (by kernel_rfl) (by kernel_rfl) (by kernel_rfl) Try.isAgg40 (fun w' h => h.2.2.2) ?_
            go_big_quiet_want; go_big_quiet_op; go_big_quiet_on; refine Mx.done ?_
            repeat ((first | (refine Mx.skips (by kernel_rfl) ?_; go_big_quiet_skip) | (refine Mx.quietly rfl ?_; go_big_quiet_want; go_big_quiet_op; go_big_quiet_on)); refine Mx.done ?_)
            refine Mx.loudly (by kernel_rfl) (by kernel_rfl) ?_
            go_wp2_with fail
            refine HCp.out.mono ?_
            rintro e w2 ⟨ca, cc, rfl, hrow, hb2⟩
            have hS2 := HS1d.out.below hb2
            have hT2 := HT1d.out.kept (Kept.of_below (X := none') hb2) (fun h => h)
            have d1 := hT2.cell 1 rfl
            have d2 := hT2.cell 2 rfl
            have d4 := hT2.cell 4 rfl
            have d6 := hT2.cell 6 rfl
            have HAk := Lib.hid (ack_all w2 (HL1d.out.below hb2) hS2.ok (by have := hS2.win; omega) hrow (by have := HSl.out.len; omega) (fun ad ha e => by have := ownblk hrow ha; have := HS1d.out.lies.lt; omega) space number now)
            have HT2 := Lib.hid hT2
            have HS2 := Lib.hid hS2
            clear hT2 hS2 hrow hb2 HCp HS1d HT1d
            go_wp2_with fail
            repeat ((first | (refine Mx.skips (by kernel_rfl) ?_; go_big_quiet_skip) | (refine Mx.quietly rfl ?_; go_big_quiet_want; go_big_quiet_op; go_big_quiet_on)); refine Mx.done ?_)
            refine Mx.cell ⟨ob, 2, none⟩ (.int .i64 number) (by kernel_rfl) (by kernel_rfl) (by kernel_rfl) Try.isAgg3 (fun w' h => h.2.1) ?_
            go_big_quiet_want; go_big_quiet_op; go_big_quiet_on; refine Mx.done ?_
            repeat ((first | (refine Mx.skips (by kernel_rfl) ?_; go_big_quiet_skip) | (refine Mx.quietly rfl ?_; go_big_quiet_want; go_big_quiet_op; go_big_quiet_on)); refine Mx.done ?_)
            refine Mx.cell ⟨ob, 4, none⟩ (.int .i64 now) (by kernel_rfl) (by kernel_rfl) (by kernel_rfl) Try.isAgg3 (fun w' h => h.2.2.1) ?_
            go_big_quiet_want; go_big_quiet_op; go_big_quiet_on; refine Mx.done ?_
            repeat ((first | (refine Mx.skips (by kernel_rfl) ?_; go_big_quiet_skip) | (refine Mx.quietly rfl ?_; go_big_quiet_want; go_big_quiet_op; go_big_quiet_on)); refine Mx.done ?_)
            refine Mx.loudly (by kernel_rfl) (by kernel_rfl) ?_
            go_wp2_with fail
            refine HAk.out.mono ?_
            rintro e w3 ⟨z, L', a1, n1, c1, a2, n2, c2, told, lost, rfl, ⟨hn1, hr1'⟩, ⟨hn2, hr2'⟩, hk3, hL3, hB3, hwin, hcs⟩
            have hT3 : BT W g ab L' (12000 + ((i : Int) + 1) * 268435456) x0 x1 x2 w3 := HS2.out.step (fun k h => h.1) hk3 hL3 hB3 (by have := HS2.out.win; omega)
            have hO3 := HT2.out.kept hk3 (fun h => Nat.lt_irrefl _ h.2)
            have hR2 := Lib.hid hr2'
            have HN1 := Lib.hid hn1
            have HN2 := Lib.hid hn2
            clear hn1 hn2 hk3 hL3 hwin HAk HT2 hr1' hr2' HS1 HM1
            have d1 := hO3.cell 1 rfl
            have d2 := hO3.cell 2 rfl
            have d4 := hO3.cell 4 rfl
            have d6 := hO3.cell 6 rfl
            go_wp2_with fail
            repeat ((first | (refine Mx.skips (by kernel_rfl) ?_; go_big_quiet_skip) | (refine Mx.quietly rfl ?_; go_big_quiet_want; go_big_quiet_op; go_big_quiet_on)); refine Mx.done ?_)
            refine Mx.nil ?_
            have hO3 := Lib.hid hO3
            have hT3 := Lib.hid hT3
            clear d1 d2 d4 d6
            rcases hcs with ⟨hz, rfl, rfl, rfl⟩ | ⟨rfl, hsl0, f2, hk⟩
            · have zf : (z == 0) = false := by rw [beq_eq_false_iff_ne]; exact hz
              have G3 : Hid (Gone W g ab i (.slice a2 n2 c2) (.int .i64 space) w3) := Lib.hid ⟨a2, n2, c2, [], space, L', x0, x1, x2, rfl, HN2.out, rfl, hT3.out, HA.out, own_mono hR2.out (by have := HS2.out.new.size; omega), by simp⟩
              clear hz
              go_wp2_with fail
              go_meet
              case rel => exact G3.out
            · rcases hk.hA with ⟨htold, hac⟩ | ⟨htold, en, hen, hac⟩
              · have G3 : Hid (Gone W g ab i (.slice a2 n2 c2) (.int .i64 space) w3) := Lib.hid (by
                  have hA3 : Acks L' x0 x1 x2 := acks_rest HA.out hk.mv.rest (by rw [hac]; exact HA.out space hk.mv.hk.1 hk.mv.hk.2)
                  refine ⟨a2, n2, c2, lost, space, L', x0, x1, x2, rfl, HN2.out, rfl, hT3.out, hA3, own_mono hR2.out (by have := HS2.out.new.size; omega), ?_⟩
                  rw [hk.hO]; exact lost_lt hk.mv hA3)
                obtain rfl : n1 = 0 := by rw [HN1.out, htold]; rfl
                clear hac hk hsl0
                go_wp2_with fail
                go_meet
                case rel => exact G3.out
              · have hn1p : 0 < (n1 : Int) := by
                  have : told.length ≠ 0 := fun h => htold (List.eq_nil_of_length_eq_zero h)
                  have := HN1.out
                  omega
                have hsp := hk.mv.hk
                have hcs3 : space = 0 ∨ space = 1 ∨ space = 2 := by omega
                clear hsp htold
                go_wp2_with fail
                rcases hcs3 with rfl | rfl | rfl
                · have hT3d : BT W g ab L' (12000 + ((i : Int) + 1) * 268435456) x0 x1 x2 w3.drew := hT3.out.below (below_drewN (Below.refl _ w3) 1)
                  have hO3d := hO3.out.kept (Kept.drew none' _) (fun h => h)
                  have d1 := hO3d.cell 1 rfl
                  have d6 := hO3d.cell 6 rfl
                  have x_s := hT3d.has.cell 0 rfl
                  have x_f := hT3d.has.free 0
                  have ex := (HSl.out.below hT3d.new).cells (by have := HSl.out.len; omega)
                  obtain ⟨sb, so, hsa, hsc⟩ := ex
                  subst hsa
                  obtain ⟨ce0, ce1⟩ := hsc (sl.length - 1) (by omega)
                  clear hsc ce0
                  have e_en : sl[sl.length - 1].to_ = en := by
                    rw [List.getElem?_eq_getElem (by omega)] at hen
                    simpa using hen
                  rw [e_en] at ce1
                  have hlen := HSl.out.len
                  have hcap := HSl.out.cap
                  rw [hlen] at ce1
                  have hsn0 : 0 < sn := by omega
                  have hK1 : Hid (∀ y0 y1 y2 : Int, [Value.int .i64 x0, .int .i64 x1, .int .i64 x2].set 0 (.int .i64 (max x0 en)) = [.int .i64 y0, .int .i64 y1, .int .i64 y2] → Acks L' y0 y1 y2 → Gone W g ab i (.slice a2 n2 c2) (.int .i64 0) (w3.drew.setCell ⟨ab, 0, none⟩ (.int .i64 (max x0 en)))) := Lib.hid (by
                    intro y0 y1 y2 he hac
                    have hp := hT3d.put habW.out 0 _ he
                    refine ⟨a2, n2, c2, lost, 0, L', y0, y1, y2, rfl, HN2.out, rfl, hp, hac, ?_, ?_⟩
                    · have h1 : w3.drew.ownsRow W.heap.size 3 1 (.slice a2 n2 c2) n2 (nums lost) := own_mono (own_below hR2.out (below_drewN (Below.refl _ w3) 1)) (by have := HS2.out.new.size; omega)
                      exact own_kept' h1 (Kept.set _ ab 0 _) (fun ad ha e => by have := ownblk hR2.out ha; have := HS2.out.has.lt; omega)
                    · rw [hk.hO]; exact lost_lt hk.mv hac)
                  have fw : IntKind.i64.wrap ((sn : Int) - 1) = ((sn - 1 : Nat) : Int) := by rw [IntKind.wrap_i64]; omega
                  have f1 : ((sn - 1 : Nat) : Int) < (sn : Int) := by omega
                  have f2 : ¬ ((sn - 1 : Nat) : Int) < 0 := by omega
                  have f3 : (sn : Int) ≤ (sc : Int) := by omega
                  obtain ⟨mx, hmx⟩ : ∃ mx, mx = max x0 en := ⟨_, rfl⟩
                  have hmc : (x0 < en ∧ mx = en) ∨ (¬ x0 < en ∧ mx = x0) := by omega
                  rw [← hmx] at hK1
                  have hmx2 : Hid (x0 ≤ mx ∧ en ≤ mx) := Lib.hid (by omega)
                  have HKey := Lib.hid hk
                  have HAc := Lib.hid hac
                  clear hT3d hO3d hk hcap hmx hac hsl0 e_en HSl
                  rcases hmc with ⟨hm, hx⟩ | ⟨hm, hx⟩
                  all_goals
                    rw [hx] at hK1 hmx2
                    clear hx
                    refine Mx.regionZ [] (fun w' => w'.cell? ⟨ob, 1, none⟩ = some (.int .i64 0) ∧ w'.cell? ⟨ob, 6, none⟩ = some (.slice (some ⟨sb, so, none⟩) sn sc) ∧ w'.cell? ⟨ab, 0, none⟩ = some (.int .i64 x0) ∧ w'.cell? ⟨sb, so + (sn - 1) * 2 + 1, none⟩ = some (.int .i64 en)) (by kernel_rfl) (by kernel_rfl) ⟨d1, d6, x_s, ce1⟩ ?_
                    repeat ((first | (refine Mx.skips (by kernel_rfl) ?_; go_big_quiet_skip) | (refine Mx.quietly rfl ?_; go_big_quiet_want; go_big_quiet_op; go_big_quiet_on)); refine Mx.done ?_)
                    refine Mx.cell ⟨ob, 1, none⟩ (.int .i64 0) (by kernel_rfl) (by kernel_rfl) (by kernel_rfl) Try.isAgg3 (fun w' h => h.1) ?_
                    go_big_quiet_want; go_big_quiet_op; go_big_quiet_on; refine Mx.done ?_
                    repeat ((first | (refine Mx.skips (by kernel_rfl) ?_; go_big_quiet_skip) | (refine Mx.quietly rfl ?_; go_big_quiet_want; go_big_quiet_op; go_big_quiet_on)); refine Mx.done ?_)
                    refine Mx.cell ⟨ob, 1, none⟩ (.int .i64 0) (by kernel_rfl) (by kernel_rfl) (by kernel_rfl) Try.isAgg3 (fun w' h => h.1) ?_
                    go_big_quiet_want; go_big_quiet_op; go_big_quiet_on; refine Mx.done ?_
                    repeat ((first | (refine Mx.skips (by kernel_rfl) ?_; go_big_quiet_skip) | (refine Mx.quietly rfl ?_; go_big_quiet_want; go_big_quiet_op; go_big_quiet_on)); refine Mx.done ?_)
                    refine Mx.cell ⟨ab, 0, none⟩ (.int .i64 x0) (by kernel_rfl) (by kernel_rfl) (by kernel_rfl) Try.isAgg3 (fun w' h => h.2.2.1) ?_
                    go_big_quiet_want; go_big_quiet_op; go_big_quiet_on; refine Mx.done ?_
                    repeat ((first | (refine Mx.skips (by kernel_rfl) ?_; go_big_quiet_skip) | (refine Mx.quietly rfl ?_; go_big_quiet_want; go_big_quiet_op; go_big_quiet_on)); refine Mx.done ?_)
                    refine Mx.cell ⟨ob, 6, none⟩ (.slice (some ⟨sb, so, none⟩) sn sc) (by kernel_rfl) (by kernel_rfl) (by kernel_rfl) Try.isAgg40 (fun w' h => h.2.1) ?_
                    go_big_quiet_want; go_big_quiet_op; go_big_quiet_on; refine Mx.done ?_
                    repeat ((first | (refine Mx.skips (by kernel_rfl) ?_; go_big_quiet_skip) | (refine Mx.quietly rfl ?_; go_big_quiet_want; go_big_quiet_op; go_big_quiet_on)); refine Mx.done ?_)
                    refine Mx.cell ⟨ob, 6, none⟩ (.slice (some ⟨sb, so, none⟩) sn sc) (by kernel_rfl) (by kernel_rfl) (by kernel_rfl) Try.isAgg40 (fun w' h => h.2.1) ?_
                    go_big_quiet_want; go_big_quiet_op; go_big_quiet_on; refine Mx.done ?_
                    repeat ((first | (refine Mx.skips (by kernel_rfl) ?_; go_big_quiet_skip) | (refine Mx.quietly rfl ?_; go_big_quiet_want; go_big_quiet_op; go_big_quiet_on)); refine Mx.done ?_)
                    refine Mx.cell ⟨sb, so + (sn - 1) * 2 + 1, none⟩ (.int .i64 en) (by kernel_rfl) (by kernel_rfl) (by kernel_rfl) Try.isAgg3 (fun w' h => h.2.2.2) ?_
                    go_big_quiet_want; go_big_quiet_op; go_big_quiet_on; refine Mx.done ?_
                    repeat ((first | (refine Mx.skips (by kernel_rfl) ?_; go_big_quiet_skip) | (refine Mx.quietly rfl ?_; go_big_quiet_want; go_big_quiet_op; go_big_quiet_on)); refine Mx.done ?_)
                    refine Mx.atLast (by kernel_rfl) (by kernel_rfl) ?_
                    go_wp2_with fail
                    go_meet
                    case rel =>
                      refine hK1.out _ _ _ rfl (acks_put HA.out HKey.out.mv.rest (fun j h0 h2 hj => ?_) ?_)
                      · have : j = 1 ∨ j = 2 := by omega
                        rcases this with rfl | rfl <;> rfl
                      · have hle := HA.out 0 (by decide) (by decide)
                        rw [pick3_0] at hle
                        have hm2 := hmx2.out
                        rw [HAc.out, pick3_0]
                        split <;> omega
                · have hT3d : BT W g ab L' (12000 + ((i : Int) + 1) * 268435456) x0 x1 x2 w3.drew := hT3.out.below (below_drewN (Below.refl _ w3) 1)
                  have hO3d := hO3.out.kept (Kept.drew none' _) (fun h => h)
                  have d1 := hO3d.cell 1 rfl
                  have d6 := hO3d.cell 6 rfl
                  have x_s := hT3d.has.cell 1 rfl
                  have x_f := hT3d.has.free 1
                  have ex := (HSl.out.below hT3d.new).cells (by have := HSl.out.len; omega)
                  obtain ⟨sb, so, hsa, hsc⟩ := ex
                  subst hsa
                  obtain ⟨ce0, ce1⟩ := hsc (sl.length - 1) (by omega)
                  clear hsc ce0
                  have e_en : sl[sl.length - 1].to_ = en := by
                    rw [List.getElem?_eq_getElem (by omega)] at hen
                    simpa using hen
                  rw [e_en] at ce1
                  have hlen := HSl.out.len
                  have hcap := HSl.out.cap
                  rw [hlen] at ce1
                  have hsn0 : 0 < sn := by omega
                  have hK1 : Hid (∀ y0 y1 y2 : Int, [Value.int .i64 x0, .int .i64 x1, .int .i64 x2].set 1 (.int .i64 (max x1 en)) = [.int .i64 y0, .int .i64 y1, .int .i64 y2] → Acks L' y0 y1 y2 → Gone W g ab i (.slice a2 n2 c2) (.int .i64 1) (w3.drew.setCell ⟨ab, 1, none⟩ (.int .i64 (max x1 en)))) := Lib.hid (by
                    intro y0 y1 y2 he hac
                    have hp := hT3d.put habW.out 1 _ he
                    refine ⟨a2, n2, c2, lost, 1, L', y0, y1, y2, rfl, HN2.out, rfl, hp, hac, ?_, ?_⟩
                    · have h1 : w3.drew.ownsRow W.heap.size 3 1 (.slice a2 n2 c2) n2 (nums lost) := own_mono (own_below hR2.out (below_drewN (Below.refl _ w3) 1)) (by have := HS2.out.new.size; omega)
                      exact own_kept' h1 (Kept.set _ ab 1 _) (fun ad ha e => by have := ownblk hR2.out ha; have := HS2.out.has.lt; omega)
                    · rw [hk.hO]; exact lost_lt hk.mv hac)
                  have fw : IntKind.i64.wrap ((sn : Int) - 1) = ((sn - 1 : Nat) : Int) := by rw [IntKind.wrap_i64]; omega
                  have f1 : ((sn - 1 : Nat) : Int) < (sn : Int) := by omega
                  have f2 : ¬ ((sn - 1 : Nat) : Int) < 0 := by omega
                  have f3 : (sn : Int) ≤ (sc : Int) := by omega
                  obtain ⟨mx, hmx⟩ : ∃ mx, mx = max x1 en := ⟨_, rfl⟩
                  have hmc : (x1 < en ∧ mx = en) ∨ (¬ x1 < en ∧ mx = x1) := by omega
                  rw [← hmx] at hK1
                  have hmx2 : Hid (x1 ≤ mx ∧ en ≤ mx) := Lib.hid (by omega)
                  have HKey := Lib.hid hk
                  have HAc := Lib.hid hac
                  clear hT3d hO3d hk hcap hmx hac hsl0 e_en HSl
                  rcases hmc with ⟨hm, hx⟩ | ⟨hm, hx⟩
                  all_goals
                    rw [hx] at hK1 hmx2
                    clear hx
                    refine Mx.regionZ [] (fun w' => w'.cell? ⟨ob, 1, none⟩ = some (.int .i64 1) ∧ w'.cell? ⟨ob, 6, none⟩ = some (.slice (some ⟨sb, so, none⟩) sn sc) ∧ w'.cell? ⟨ab, 1, none⟩ = some (.int .i64 x1) ∧ w'.cell? ⟨sb, so + (sn - 1) * 2 + 1, none⟩ = some (.int .i64 en)) (by kernel_rfl) (by kernel_rfl) ⟨d1, d6, x_s, ce1⟩ ?_
                    repeat ((first | (refine Mx.skips (by kernel_rfl) ?_; go_big_quiet_skip) | (refine Mx.quietly rfl ?_; go_big_quiet_want; go_big_quiet_op; go_big_quiet_on)); refine Mx.done ?_)
                    refine Mx.cell ⟨ob, 1, none⟩ (.int .i64 1) (by kernel_rfl) (by kernel_rfl) (by kernel_rfl) Try.isAgg3 (fun w' h => h.1) ?_
                    go_big_quiet_want; go_big_quiet_op; go_big_quiet_on; refine Mx.done ?_
                    repeat ((first | (refine Mx.skips (by kernel_rfl) ?_; go_big_quiet_skip) | (refine Mx.quietly rfl ?_; go_big_quiet_want; go_big_quiet_op; go_big_quiet_on)); refine Mx.done ?_)
                    refine Mx.cell ⟨ob, 1, none⟩ (.int .i64 1) (by kernel_rfl) (by kernel_rfl) (by kernel_rfl) Try.isAgg3 (fun w' h => h.1) ?_
                    go_big_quiet_want; go_big_quiet_op; go_big_quiet_on; refine Mx.done ?_
                    repeat ((first | (refine Mx.skips (by kernel_rfl) ?_; go_big_quiet_skip) | (refine Mx.quietly rfl ?_; go_big_quiet_want; go_big_quiet_op; go_big_quiet_on)); refine Mx.done ?_)
                    refine Mx.cell ⟨ab, 1, none⟩ (.int .i64 x1) (by kernel_rfl) (by kernel_rfl) (by kernel_rfl) Try.isAgg3 (fun w' h => h.2.2.1) ?_
                    go_big_quiet_want; go_big_quiet_op; go_big_quiet_on; refine Mx.done ?_
                    repeat ((first | (refine Mx.skips (by kernel_rfl) ?_; go_big_quiet_skip) | (refine Mx.quietly rfl ?_; go_big_quiet_want; go_big_quiet_op; go_big_quiet_on)); refine Mx.done ?_)
                    refine Mx.cell ⟨ob, 6, none⟩ (.slice (some ⟨sb, so, none⟩) sn sc) (by kernel_rfl) (by kernel_rfl) (by kernel_rfl) Try.isAgg40 (fun w' h => h.2.1) ?_
                    go_big_quiet_want; go_big_quiet_op; go_big_quiet_on; refine Mx.done ?_
                    repeat ((first | (refine Mx.skips (by kernel_rfl) ?_; go_big_quiet_skip) | (refine Mx.quietly rfl ?_; go_big_quiet_want; go_big_quiet_op; go_big_quiet_on)); refine Mx.done ?_)
                    refine Mx.cell ⟨ob, 6, none⟩ (.slice (some ⟨sb, so, none⟩) sn sc) (by kernel_rfl) (by kernel_rfl) (by kernel_rfl) Try.isAgg40 (fun w' h => h.2.1) ?_
                    go_big_quiet_want; go_big_quiet_op; go_big_quiet_on; refine Mx.done ?_
                    repeat ((first | (refine Mx.skips (by kernel_rfl) ?_; go_big_quiet_skip) | (refine Mx.quietly rfl ?_; go_big_quiet_want; go_big_quiet_op; go_big_quiet_on)); refine Mx.done ?_)
                    refine Mx.cell ⟨sb, so + (sn - 1) * 2 + 1, none⟩ (.int .i64 en) (by kernel_rfl) (by kernel_rfl) (by kernel_rfl) Try.isAgg3 (fun w' h => h.2.2.2) ?_
                    go_big_quiet_want; go_big_quiet_op; go_big_quiet_on; refine Mx.done ?_
                    repeat ((first | (refine Mx.skips (by kernel_rfl) ?_; go_big_quiet_skip) | (refine Mx.quietly rfl ?_; go_big_quiet_want; go_big_quiet_op; go_big_quiet_on)); refine Mx.done ?_)
                    refine Mx.atLast (by kernel_rfl) (by kernel_rfl) ?_
                    go_wp2_with fail
                    go_meet
                    case rel =>
                      refine hK1.out _ _ _ rfl (acks_put HA.out HKey.out.mv.rest (fun j h0 h2 hj => ?_) ?_)
                      · have : j = 0 ∨ j = 2 := by omega
                        rcases this with rfl | rfl <;> rfl
                      · have hle := HA.out 1 (by decide) (by decide)
                        rw [pick3_1] at hle
                        have hm2 := hmx2.out
                        rw [HAc.out, pick3_1]
                        split <;> omega
                · have hT3d : BT W g ab L' (12000 + ((i : Int) + 1) * 268435456) x0 x1 x2 w3.drew := hT3.out.below (below_drewN (Below.refl _ w3) 1)
                  have hO3d := hO3.out.kept (Kept.drew none' _) (fun h => h)
                  have d1 := hO3d.cell 1 rfl
                  have d6 := hO3d.cell 6 rfl
                  have x_s := hT3d.has.cell 2 rfl
                  have x_f := hT3d.has.free 2
                  have ex := (HSl.out.below hT3d.new).cells (by have := HSl.out.len; omega)
                  obtain ⟨sb, so, hsa, hsc⟩ := ex
                  subst hsa
                  obtain ⟨ce0, ce1⟩ := hsc (sl.length - 1) (by omega)
                  clear hsc ce0
                  have e_en : sl[sl.length - 1].to_ = en := by
                    rw [List.getElem?_eq_getElem (by omega)] at hen
                    simpa using hen
                  rw [e_en] at ce1
                  have hlen := HSl.out.len
                  have hcap := HSl.out.cap
                  rw [hlen] at ce1
                  have hsn0 : 0 < sn := by omega
                  have hK1 : Hid (∀ y0 y1 y2 : Int, [Value.int .i64 x0, .int .i64 x1, .int .i64 x2].set 2 (.int .i64 (max x2 en)) = [.int .i64 y0, .int .i64 y1, .int .i64 y2] → Acks L' y0 y1 y2 → Gone W g ab i (.slice a2 n2 c2) (.int .i64 2) (w3.drew.setCell ⟨ab, 2, none⟩ (.int .i64 (max x2 en)))) := Lib.hid (by
                    intro y0 y1 y2 he hac
                    have hp := hT3d.put habW.out 2 _ he
                    refine ⟨a2, n2, c2, lost, 2, L', y0, y1, y2, rfl, HN2.out, rfl, hp, hac, ?_, ?_⟩
                    · have h1 : w3.drew.ownsRow W.heap.size 3 1 (.slice a2 n2 c2) n2 (nums lost) := own_mono (own_below hR2.out (below_drewN (Below.refl _ w3) 1)) (by have := HS2.out.new.size; omega)
                      exact own_kept' h1 (Kept.set _ ab 2 _) (fun ad ha e => by have := ownblk hR2.out ha; have := HS2.out.has.lt; omega)
                    · rw [hk.hO]; exact lost_lt hk.mv hac)
                  have fw : IntKind.i64.wrap ((sn : Int) - 1) = ((sn - 1 : Nat) : Int) := by rw [IntKind.wrap_i64]; omega
                  have f1 : ((sn - 1 : Nat) : Int) < (sn : Int) := by omega
                  have f2 : ¬ ((sn - 1 : Nat) : Int) < 0 := by omega
                  have f3 : (sn : Int) ≤ (sc : Int) := by omega
                  obtain ⟨mx, hmx⟩ : ∃ mx, mx = max x2 en := ⟨_, rfl⟩
                  have hmc : (x2 < en ∧ mx = en) ∨ (¬ x2 < en ∧ mx = x2) := by omega
                  rw [← hmx] at hK1
                  have hmx2 : Hid (x2 ≤ mx ∧ en ≤ mx) := Lib.hid (by omega)
                  have HKey := Lib.hid hk
                  have HAc := Lib.hid hac
                  clear hT3d hO3d hk hcap hmx hac hsl0 e_en HSl
                  rcases hmc with ⟨hm, hx⟩ | ⟨hm, hx⟩
                  all_goals
                    rw [hx] at hK1 hmx2
                    clear hx
                    refine Mx.regionZ [] (fun w' => w'.cell? ⟨ob, 1, none⟩ = some (.int .i64 2) ∧ w'.cell? ⟨ob, 6, none⟩ = some (.slice (some ⟨sb, so, none⟩) sn sc) ∧ w'.cell? ⟨ab, 2, none⟩ = some (.int .i64 x2) ∧ w'.cell? ⟨sb, so + (sn - 1) * 2 + 1, none⟩ = some (.int .i64 en)) (by kernel_rfl) (by kernel_rfl) ⟨d1, d6, x_s, ce1⟩ ?_
                    repeat ((first | (refine Mx.skips (by kernel_rfl) ?_; go_big_quiet_skip) | (refine Mx.quietly rfl ?_; go_big_quiet_want; go_big_quiet_op; go_big_quiet_on)); refine Mx.done ?_)
                    refine Mx.cell ⟨ob, 1, none⟩ (.int .i64 2) (by kernel_rfl) (by kernel_rfl) (by kernel_rfl) Try.isAgg3 (fun w' h => h.1) ?_
                    go_big_quiet_want; go_big_quiet_op; go_big_quiet_on; refine Mx.done ?_
                    repeat ((first | (refine Mx.skips (by kernel_rfl) ?_; go_big_quiet_skip) | (refine Mx.quietly rfl ?_; go_big_quiet_want; go_big_quiet_op; go_big_quiet_on)); refine Mx.done ?_)
                    refine Mx.cell ⟨ob, 1, none⟩ (.int .i64 2) (by kernel_rfl) (by kernel_rfl) (by kernel_rfl) Try.isAgg3 (fun w' h => h.1) ?_
                    go_big_quiet_want; go_big_quiet_op; go_big_quiet_on; refine Mx.done ?_
                    repeat ((first | (refine Mx.skips (by kernel_rfl) ?_; go_big_quiet_skip) | (refine Mx.quietly rfl ?_; go_big_quiet_want; go_big_quiet_op; go_big_quiet_on)); refine Mx.done ?_)
                    refine Mx.cell ⟨ab, 2, none⟩ (.int .i64 x2) (by kernel_rfl) (by kernel_rfl) (by kernel_rfl) Try.isAgg3 (fun w' h => h.2.2.1) ?_
                    go_big_quiet_want; go_big_quiet_op; go_big_quiet_on; refine Mx.done ?_
                    repeat ((first | (refine Mx.skips (by kernel_rfl) ?_; go_big_quiet_skip) | (refine Mx.quietly rfl ?_; go_big_quiet_want; go_big_quiet_op; go_big_quiet_on)); refine Mx.done ?_)
                    refine Mx.cell ⟨ob, 6, none⟩ (.slice (some ⟨sb, so, none⟩) sn sc) (by kernel_rfl) (by kernel_rfl) (by kernel_rfl) Try.isAgg40 (fun w' h => h.2.1) ?_
                    go_big_quiet_want; go_big_quiet_op; go_big_quiet_on; refine Mx.done ?_
                    repeat ((first | (refine Mx.skips (by kernel_rfl) ?_; go_big_quiet_skip) | (refine Mx.quietly rfl ?_; go_big_quiet_want; go_big_quiet_op; go_big_quiet_on)); refine Mx.done ?_)
                    refine Mx.cell ⟨ob, 6, none⟩ (.slice (some ⟨sb, so, none⟩) sn sc) (by kernel_rfl) (by kernel_rfl) (by kernel_rfl) Try.isAgg40 (fun w' h => h.2.1) ?_
                    go_big_quiet_want; go_big_quiet_op; go_big_quiet_on; refine Mx.done ?_
                    repeat ((first | (refine Mx.skips (by kernel_rfl) ?_; go_big_quiet_skip) | (refine Mx.quietly rfl ?_; go_big_quiet_want; go_big_quiet_op; go_big_quiet_on)); refine Mx.done ?_)
                    refine Mx.cell ⟨sb, so + (sn - 1) * 2 + 1, none⟩ (.int .i64 en) (by kernel_rfl) (by kernel_rfl) (by kernel_rfl) Try.isAgg3 (fun w' h => h.2.2.2) ?_
                    go_big_quiet_want; go_big_quiet_op; go_big_quiet_on; refine Mx.done ?_
                    repeat ((first | (refine Mx.skips (by kernel_rfl) ?_; go_big_quiet_skip) | (refine Mx.quietly rfl ?_; go_big_quiet_want; go_big_quiet_op; go_big_quiet_on)); refine Mx.done ?_)
                    refine Mx.atLast (by kernel_rfl) (by kernel_rfl) ?_
                    go_wp2_with fail
                    go_meet
                    case rel =>
                      refine hK1.out _ _ _ rfl (acks_put HA.out HKey.out.mv.rest (fun j h0 h2 hj => ?_) ?_)
                      · have : j = 0 ∨ j = 1 := by omega
                        rcases this with rfl | rfl <;> rfl
                      · have hle := HA.out 2 (by decide) (by decide)
                        rw [pick3_2] at hle
                        have hm2 := hmx2.out
                        rw [HAc.out, pick3_2]
                        split <;> omega
          · have j2 : (kind == 2) = false := by rw [beq_eq_false_iff_ne]; exact k2
            by_cases k3 : kind = 3
            · subst k3
              clear k1 k2
              have HF := Lib.hid (fire_all w1' HL1.out HS1.out.ok now)
              go_wp2_with fail
              refine HF.out.mono ?_
              rintro e w3 ⟨s, p, z, L', ga, gn, gc, zs, rfl, ⟨hgn, hrow⟩, hk3, hL3, hB3, hwin, hcs⟩
              have G3 : Hid (Gone W g ab i (.slice ga gn gc) (.int .i64 s) w3) := Lib.hid (by
                have hT3 := HS1.out.step (fun k h => h.1) hk3 hL3 hB3 (lim' := 12000 + ((i : Int) + 1) * 268435456) (by have := HM1.out.win; omega)
                have hA3 : Acks L' x0 x1 x2 := by
                  rcases hcs with ⟨_, hs⟩ | ⟨_, ha, f2, hM, _⟩
                  · intro j h0 h2; rw [hs j]; exact HA.out j h0 h2
                  · exact acks_rest HA.out hM.rest (by rw [ha]; exact HA.out s hM.hk.1 hM.hk.2)
                refine ⟨ga, gn, gc, zs, s, L', x0, x1, x2, rfl, hgn, rfl, hT3, hA3, own_mono hrow (by have := HS1.out.new.size; omega), ?_⟩
                rcases hcs with ⟨h, _⟩ | ⟨_, _, f2, hM, h⟩
                · rw [h]; simp
                · rw [h]; exact lost_lt hM hA3)
              clear hk3 hL3 hB3 hwin hcs HF hrow hgn
              go_wp2_with fail
              go_meet
              case rel => exact G3.out
            · have j3 : (kind == 3) = false := by rw [beq_eq_false_iff_ne]; exact k3
              clear k1 k2 k3
              have G3 : Hid (Gone W g ab i (.slice none 0 0) (.int .i64 space) w1') := Lib.hid (Gone.none HM1.out HA.out space)
              go_wp2_with fail
              go_meet
              case rel => exact G3.out
      case rest =>
        clear HT HS1 HM1 HA HSl HRs HL1
        obtain ⟨ga, gn, gc, zs, s, L', y0, y1, y2, rfl, hgn, rfl, hT, hA, hrow, hz⟩ := hcut
        have HGn := Lib.hid hgn
        have HTc := Lib.hid hT
        have HAc := Lib.hid hA
        have HRow := Lib.hid hrow
        have HZ := Lib.hid hz
        clear hgn hT hA hrow hz
        go_wp2_with fail
        go_loopw [108] (fun v wr2 => ∃ k : Nat, v = .int .i64 (k : Int) ∧ k ≤ gn ∧ Below wc.heap.size wc wr2) (fun v _ => gn - (intOf v).toNat)
        case atStart => exact ⟨0, rfl, Nat.zero_le _, Below.refl _ _⟩
        case round =>
          obtain ⟨k, rfl, hk, hB⟩ := hrel
          by_cases hkg : k < gn
          · have hkg' : (k : Int) < (gn : Int) := by omega
            have hkz : k < zs.length := by rw [← HGn.out]; exact hkg
            obtain ⟨sb, rfl, hcell, _, s1, s2⟩ := own_cell (own_below HRow.out hB) hkg
            have g3 : IntKind.i64.wrap ((k : Int) + 1) = (k : Int) + 1 := by rw [IntKind.wrap_i64]; unfold maxLen at s2; omega
            have s1' : (gn : Int) ≤ (gc : Int) := by omega
            rw [nums_get zs k hkz] at hcell
            obtain ⟨hsp, hlt⟩ := HZ.out _ (List.getElem_mem hkz)
            generalize hzk : zs[k] = z at hcell hlt
            clear hzk s2
            have hT := (HTc.out.below hB).has
            have hs3 : s = 0 ∨ s = 1 ∨ s = 2 := by omega
            clear hsp
            rcases hs3 with rfl | rfl | rfl
            · rw [pick3_0] at hlt
              have xc := hT.cell 0 rfl
              have hlt' : ¬ y0 ≤ z := by omega
              clear hlt hT
              go_wp2
              go_roundw
              case rel => exact ⟨k + 1, by push_cast; rfl, by omega, hB⟩
              case measure => simp [intOf]; omega
            · rw [pick3_1] at hlt
              have xc := hT.cell 1 rfl
              have hlt' : ¬ y1 ≤ z := by omega
              clear hlt hT
              go_wp2
              go_roundw
              case rel => exact ⟨k + 1, by push_cast; rfl, by omega, hB⟩
              case measure => simp [intOf]; omega
            · rw [pick3_2] at hlt
              have xc := hT.cell 2 rfl
              have hlt' : ¬ y2 ≤ z := by omega
              clear hlt hT
              go_wp2
              go_roundw
              case rel => exact ⟨k + 1, by push_cast; rfl, by omega, hB⟩
              case measure => simp [intOf]; omega
          · have hkg' : ¬ (k : Int) < (gn : Int) := by omega
            have hTr := HTc.out.below hB
            have hq := hTr.ok
            have e1 : ¬ L'.window < 2400 := by have := hq.window; omega
            have e2 : ¬ L'.latest < L'.least := by have := hq.least; omega
            have e3 : ¬ L'.smooth < 0 := by have := hq.smooth; omega
            have e4 : ¬ L'.vary < 0 := by have := hq.vary; omega
            have e5 : ¬ L'.under < 0 := by
              have h0 := (psum_bounds _ (sizes_of hq.b0).2).1
              have h1 := (psum_bounds _ (sizes_of hq.b1).2).1
              have h2 := (psum_bounds _ (sizes_of hq.b2).2).1
              unfold Lo.under; omega
            have HR := Lib.hid (rtt_any wr hTr.lies)
            have HW : Hid (∀ w', Below wr.heap.size wr w' → Calls Try.prog 12 #[.pointer (some ⟨g, 0, none⟩)] w' (IntOf w' L'.window)) := Lib.hid (fun w' hb => window_any w' (hTr.lies.below hb))
            have HU : Hid (∀ w', Below wr.heap.size wr w' → Calls Try.prog 11 #[.pointer (some ⟨g, 0, none⟩)] w' (IntOf w' L'.under)) := Lib.hid (fun w' hb => under_any w' (hTr.lies.below hb) (sizes_of hq.b0) (sizes_of hq.b1) (sizes_of hq.b2))
            have HTr := Lib.hid hTr
            clear hTr hq
            go_wp2_with fail
            refine HR.out.mono ?_
            rintro e w5 ⟨rfl, hb5⟩
            go_wp2_with fail
            refine (HW.out w5 hb5).mono ?_
            rintro e w6 ⟨rfl, hb6⟩
            have b6 := hb5.trans (hb6.mono hb5.size)
            go_wp2_with fail
            refine (HU.out w6 b6).mono ?_
            rintro e w7 ⟨rfl, hb7⟩
            have b7 := b6.trans (hb7.mono b6.size)
            go_wp2
            go_roundw
            case rel => exact ⟨i + 1, L', y0, y1, y2, by push_cast; rfl, by omega, by push_cast; exact HTr.out.below b7, HAc.out⟩
            case measure => simp [intOf]; omega
    · obtain rfl : i = n := by omega
      clear hin
      have HS := Lib.hid hS
      clear hS
      go_wp2_with fail
      refine (HAw.out wr).mono ?_
      rintro e w3 ⟨rfl, hb3⟩
      go_wp2
      go_ret
      exact ⟨rfl, HS.out.new.trans (hb3.mono HS.out.new.size)⟩
end Go.Proofs.Ytkpeegcpicckjaa

/- Contract of the queue's Next where it tells a chunk. -/
import Derived.Test.YtkjclgpecppokaaSqNext
namespace Go.Proofs.Ytkjclgpecppokaa
open Go.RowKit

/-- the queue behind a chunk of n bytes from i on -/
def Qu.sentOff (q : Qu) (i n : Nat) (b : Bool) : Qu := { q with st := turned q.st i n 1, sent := max q.sent (q.base + i + n), e := if b then 1 else q.e }

theorem sentOff_cells (q : Qu) (i n : Nat) (b : Bool) (h : i + n ≤ q.st.length) (da : Option Addr) (dc : Nat) (sa : Option Addr) (sc : Nat) (s' : Nat) (hs : s' = max q.sent (q.base + i + n)) :
    qcells (q.sentOff i n b) da dc sa sc = if b then ((qcells q da dc sa sc).set 2 (.int .i64 (s' : Int))).set 6 (.int .u8 1) else (qcells q da dc sa sc).set 2 (.int .i64 (s' : Int)) := by
  subst hs
  unfold qcells Qu.sentOff
  simp only [turned_len q.st i n 1 h]
  cases b <;> rfl
theorem next_fin {F : Nat → Prop} {w W w5 : World} {g bd bs dc sc : Nat} {q : Qu} {most limit : Int} {i n : Nat} {b : Bool} {a' : Option Addr} {c' : Nat} (hin : i + n ≤ q.data.length) (hlen : q.st.length = q.data.length) (hK : Kept F w W)
    (hH : Has W g 52 (qcells (q.sentOff i n b) (some ⟨bd, 0, none⟩) dc (some ⟨bs, 0, none⟩) sc)) (hD : W.ownsRow 0 5 1 (.slice (some ⟨bd, 0, none⟩) q.data.length dc) q.data.length (bv q.data))
    (hS : W.ownsRow 0 5 1 (.slice (some ⟨bs, 0, none⟩) q.st.length sc) q.st.length (bv (turned q.st i n 1))) (F1 : F g) (Fd : F bd) (Fs : F bs) (nbd : bd ≠ g) (nbs : bs ≠ g) (nds : bd ≠ bs)
    (hb5 : Below W.heap.size W w5) (ho : w5.ownsRow w.heap.size 5 1 (.slice a' n c') n (bv ((q.data.drop i).take n)))
    (hout : q.out most limit = ⟨q.base + i, (q.data.drop i).take n, b, true⟩) (hnext : q.next most limit = q.sentOff i n b) :
    Nexted F w g q most limit (.returned (.tuple #[.int .i64 ((q.base : Int) + (i : Int)), .slice a' n c', .bool b, .bool true])) w5 := by
  have hl : ((q.data.drop i).take n).length = n := by simp; omega
  unfold Nexted
  rw [hout, hnext]
  refine ⟨a', c', ?_, ?_, hK.trans (Kept.of_below (X := none') hb5) (fun _ _ h => h.elim), some ⟨bd, 0, none⟩, dc, some ⟨bs, 0, none⟩, sc, ?_, F1, fun ad h => by cases h; exact Fd, fun ad h => by cases h; exact Fs⟩
  · simp only [hl]; push_cast; rfl
  · simp only [hl]; exact ho
  · have hk := Kept.of_below (X := none') hb5
    have hst : (q.sentOff i n b).st = turned q.st i n 1 := rfl
    have hll : (turned q.st i n 1).length = q.st.length := turned_len _ _ _ _ (by omega)
    refine ⟨hH.kept hk (fun h => h), own_kept' hD hk (fun _ _ h => h), ?_, fun ad h => by cases h; exact nbd, fun ad h => by cases h; exact nbs, fun ad ad' h h' => by cases h; cases h'; exact nds⟩
    rw [hst, hll]
    exact own_kept' hS hk (fun _ _ h => h)

set_option maxRecDepth 100000 in
set_option maxHeartbeats 2000000 in
theorem next_some (w : World) {F : Nat → Prop} {g : Nat} {q : Qu} (h : QAt F w g q) (hq : q.Ok) (most limit : Int) (hl : limit ≤ 9223372036854775807) (hN : (q.pick most limit).2 ≠ 0) :
    Calls Try.prog 10 #[.pointer (some ⟨g, 0, none⟩), .int .i64 most, .int .i64 limit] w (Nexted F w g q most limit) := by
  have hP := pick_any w h hq most limit hl
  have hle := q.pick_le most limit
  have hno : ¬ q.none most limit := fun h => hN h.1
  have hlen := hq.len
  have hm := hq.most
  have hroom := hq.room2
  have hfit := hq.fit
  have hsent := hq.sent
  obtain ⟨da, dc, sa, sc, hb, F1, F2, F3⟩ := h
  have hst : q.start most limit = (q.pick most limit).1 := by unfold Qu.start; rw [if_neg hN]
  have hout : q.out most limit = ⟨q.base + (q.pick most limit).1, (q.data.drop (q.pick most limit).1).take (q.pick most limit).2, q.ends most limit, true⟩ := by unfold Qu.out; rw [if_neg hno, hst]
  have hnext : q.next most limit = q.sentOff (q.pick most limit).1 (q.pick most limit).2 (q.ends most limit) := by unfold Qu.next Qu.sentOff; rw [if_neg hno, hst]
  have hends : q.ends most limit = (q.opens && decide ((q.pick most limit).1 + (q.pick most limit).2 = q.data.length)) := by unfold Qu.ends; rw [hst]
  generalize q.ends most limit = fb at hout hnext hends
  generalize (q.pick most limit).1 = i at hP hle hout hnext hends
  generalize (q.pick most limit).2 = n at hP hle hout hnext hends hN
  have HP := Lib.hid hP
  have HO := Lib.hid hout
  have HNx := Lib.hid hnext
  have HL := Lib.hid hlen
  have hin : i + n ≤ q.data.length := by omega
  have hz : ((n : Int) == 0) = false := by rw [beq_eq_false_iff_ne]; omega
  obtain ⟨s', hs'⟩ : ∃ s' : Nat, s' = max q.sent (q.base + i + n) := ⟨_, rfl⟩
  have hmax : max (q.sent : Int) ((q.base : Int) + (i : Int) + (n : Int)) = (s' : Int) := by omega
  have HS := Lib.hid hs'
  have f1 : IntKind.i64.wrap ((q.base : Int) + (i : Int)) = (q.base : Int) + i := by rw [IntKind.wrap_i64]; omega
  have f2 : IntKind.i64.wrap ((q.base : Int) + (i : Int) + (n : Int)) = (q.base : Int) + i + n := by rw [IntKind.wrap_i64]; omega
  have f3 : IntKind.i64.wrap ((i : Int) + (n : Int)) = (i : Int) + n := by rw [IntKind.wrap_i64]; omega
  have hn0 : 0 < n := by omega
  obtain ⟨bd, hda, _, _, hdc1, hdc2⟩ := own_cell hb.d (i := 0) (by omega)
  obtain ⟨bs, hsa, _, _, hsc1, hsc2⟩ := own_cell hb.s (i := 0) (by omega)
  subst hda
  subst hsa
  have HB := Lib.hid hb
  have hg1 := hb.has.lt
  have c2 := fun w' (hb' : Below w.heap.size w w') => (hb.below hb').has.cell 2 rfl
  have c5 := fun w' (hb' : Below w.heap.size w w') => (hb.below hb').has.cell 5 rfl
  have c6 := fun w' (hb' : Below w.heap.size w w') => (hb.below hb').has.cell 6 rfl
  have lenS : (i : Int) + (n : Int) ≤ (q.st.length : Int) := by omega
  have lenS2 : (q.st.length : Int) ≤ (sc : Int) := by omega
  have lenD : (i : Int) + (n : Int) ≤ (q.data.length : Int) := by omega
  have lenD2 : (q.data.length : Int) ≤ (dc : Int) := by omega
  have lenD3 : (dc : Int) ≤ 9223372036854775807 := by unfold maxLen at hdc2; omega
  have bs1 : q.st.length ≤ 65536 := by omega
  have bd1 : q.data.length ≤ 65536 := by omega
  have Fd : F bd := F2 _ rfl
  have Fs : F bs := F3 _ rfl
  have nbd : bd ≠ g := hb.dg _ rfl
  have nbs : bs ≠ g := hb.sg _ rfl
  have nds : bd ≠ bs := hb.ds _ _ rfl rfl
  have hfb : fb = true → i + n = q.data.length := fun h => by rw [hends] at h; simp at h; exact h.2
  have hdec : ∀ (b : Bool), q.opens = true → fb = b → (((i : Int) + (n : Int)) == (q.data.length : Int)) = b := by
    intro b ho hb
    rw [← hb, hends, ho]
    by_cases h : i + n = q.data.length
    · rw [show ((i : Int) + (n : Int)) = (q.data.length : Int) by omega]; simp [h]
    · rw [beq_eq_false_iff_ne.2 (by omega)]; simp [h]
  have hop : q.opens = false → fb = false := fun h => by rw [hends, h]; rfl
  clear hP hout hnext hlen hb hends hs' hno hN hst hq F2 F3 hfit hroom
  have HD := Lib.hid hdec
  clear hdec
  have step : ∀ (b : Bool), fb = b → ((q.fin = false ∧ b = false) ∨ (q.fin = true ∧ ((q.e.toNat : Int) == 0) = true ∧ (((i : Int) + (n : Int)) == (q.data.length : Int)) = b) ∨
    (q.fin = true ∧ ((q.e.toNat : Int) == 0) = false ∧ ((q.e.toNat : Int) == 2) = true ∧ (((i : Int) + (n : Int)) == (q.data.length : Int)) = b) ∨ (q.fin = true ∧ ((q.e.toNat : Int) == 0) = false ∧ ((q.e.toNat : Int) == 2) = false ∧ b = false)) := by
    intro b hb
    rcases opens_cases q with ⟨e1, e4⟩ | ⟨e1, e2, e4⟩ | ⟨e1, e2, e3, e4⟩ | ⟨e1, e2, e3, e4⟩
    · exact .inl ⟨e1, by rw [← hb]; exact hop e4⟩
    · exact .inr (.inl ⟨e1, e2, HD.out b e4 hb⟩)
    · exact .inr (.inr (.inl ⟨e1, e2, e3, HD.out b e4 hb⟩))
    · exact .inr (.inr (.inr ⟨e1, e2, e3, by rw [← hb]; exact hop e4⟩))
  clear hop HD hfb
  cases hfb : fb
  case false =>
    have HF := Lib.hid hfb
    rcases step _ hfb with ⟨e1, e4⟩ | ⟨e1, e2, e4⟩ | ⟨e1, e2, e3, e4⟩ | ⟨e1, e2, e3, e4⟩
    all_goals try (exfalso; exact absurd e4 (by decide))
    all_goals
      clear step hfb
      rw [e1] at c5
      clear e1
      first | (have e4' : ((i : Int) + (n : Int) == (q.data.length : Int)) = _ := e4; clear e4) | clear e4
      go_enter Try.func10, Try.ntmps10
      go_wp2_with fail
      refine HP.out.mono ?_
      rintro e w1 ⟨rfl, hb1⟩
      have d5 := c5 w1 hb1
      have d6 := c6 w1 hb1
      go_wp2_with fail
      go_loopw [58] (fun v wr => ∃ k : Nat, v = .int .i64 (k : Int) ∧ k ≤ n ∧ Has wr g 52 (qcells q (some ⟨bd, 0, none⟩) dc (some ⟨bs, 0, none⟩) sc) ∧
        wr.ownsRow 0 5 1 (.slice (some ⟨bd, 0, none⟩) q.data.length dc) q.data.length (bv q.data) ∧ wr.ownsRow 0 5 1 (.slice (some ⟨bs, 0, none⟩) q.st.length sc) q.st.length (bv (turned q.st i k 1)) ∧ Kept F w wr) (fun v _ => n - (intOf v).toNat)
      case atStart =>
        have B := HB.out.below hb1
        exact ⟨0, rfl, Nat.zero_le _, B.has, B.d, by rw [turned_zero]; exact B.s, Kept.of_below hb1⟩
      case round =>
        obtain ⟨k, rfl, hkn, hH, hD, hS, hK⟩ := hrel
        clear d5 d6
        by_cases hk : k < n
        · have hk' : (k : Int) < (n : Int) := by omega
          have g1 : IntKind.i64.wrap ((i : Int) + (k : Int)) = (i : Int) + k := by rw [IntKind.wrap_i64]; omega
          have g2 : IntKind.i64.wrap ((k : Int) + 1) = (k : Int) + 1 := by rw [IntKind.wrap_i64]; omega
          obtain ⟨b', hb', hc, hf, _, _⟩ := own_cell hS (i := i + k) (by omega)
          cases hb'
          have hlt : i + k < (turned q.st i k 1).length := by rw [turned_len _ _ _ _ (by omega)]; omega
          rw [bv_get _ _ hlt] at hc
          have d4 := hH.cell 4 rfl
          have hik : (i : Int) + (k : Int) < (q.st.length : Int) := by omega
          have HT := Lib.hid (turned_succ q.st i k 1 (by omega))
          generalize ((turned q.st i k 1)[i + k]'hlt).toNat = y at hc
          clear hlt
          have g3 : ((i : Int) + (k : Int)).toNat = i + k := by omega
          go_wp2
          go_roundw
          case rel =>
            refine ⟨k + 1, by push_cast; rfl, by omega, hH.other (by exact Ne.symm nbs) _ _, own_kept' hD (Kept.set _ bs (i + k) _) (fun ad ha e => by cases ha; exact nds e), ?_, hK.trans (Kept.set _ bs (i + k) _) (fun j _ e => by rw [e]; exact Fs)⟩
            rw [HT.out]
            have := own_set hS (i + k) (.int .u8 1)
            have e : bv ((turned q.st i k 1).set (i + k) 1) = (bv (turned q.st i k 1)).set (i + k) (.int .u8 1) := by simp [bv, List.map_set]
            rw [e]
            exact this
          case measure => simp [intOf]; omega
        · obtain rfl : k = n := by omega
          have k2 := Kept.set wr g 2 (.int .i64 (s' : Int))
          have kd : Kept none' (wr.setCell ⟨g, 2, none⟩ (.int .i64 (s' : Int))) (wr.setCell ⟨g, 2, none⟩ (.int .i64 (s' : Int))).drew := Kept.drew _ _
          have H2 := (hH.set 2 (.int .i64 (s' : Int))).kept kd (fun h => h)
          have K2 := (hK.trans k2 (fun j _ e => by rw [e]; exact F1)).trans kd (fun _ _ h => h.elim)
          have D2 := own_kept' (own_kept' hD k2 (fun ad ha e => by cases ha; exact nbd e)) kd (fun _ _ h => h)
          have S2 := own_kept' (own_kept' hS k2 (fun ad ha e => by cases ha; exact nbs e)) kd (fun _ _ h => h)
          have r1 : wr.drew.cell? ⟨g, 1, none⟩ = some (.int .i64 (q.base : Int)) := (hH.kept (Kept.drew none' wr) (fun h => h)).cell 1 rfl
          have r1w := hH.cell 1 rfl
          have r2 := hH.cell 2 rfl
          have r2f := hH.free 2
          clear hH hD hS hK k2 kd
          go_wp2_with fail
          refine Mx.region [74] (fun w' => w'.cell? ⟨g, 1, none⟩ = some (.int .i64 (q.base : Int))) (by kernel_rfl) (by kernel_rfl) r1 ?_
          repeat ((first | (refine Mx.skips (by kernel_rfl) ?_; go_big_quiet_skip) | (refine Mx.quietly rfl ?_; go_big_quiet_want; go_big_quiet_op; go_big_quiet_on)); refine Mx.done ?_)
          refine Mx.loudly (by kernel_rfl) (by kernel_rfl) ?_
          go_wp2_with fail
          repeat ((first | (refine Mx.skips (by kernel_rfl) ?_; go_big_quiet_skip) | (refine Mx.quietly rfl ?_; go_big_quiet_want; go_big_quiet_op; go_big_quiet_on)); refine Mx.done ?_)
          refine Mx.cell ⟨g, 1, none⟩ (.int .i64 (q.base : Int)) (by kernel_rfl) (by kernel_rfl) (by kernel_rfl) Try.isAgg3 (fun w' h => h) ?_
          go_big_quiet_want; go_big_quiet_op; go_big_quiet_on; refine Mx.done ?_
          repeat ((first | (refine Mx.skips (by kernel_rfl) ?_; go_big_quiet_skip) | (refine Mx.quietly rfl ?_; go_big_quiet_want; go_big_quiet_op; go_big_quiet_on)); refine Mx.done ?_)
          refine Mx.loudly (by kernel_rfl) (by kernel_rfl) ?_
          go_wp2_with fail
          repeat ((first | (refine Mx.skips (by kernel_rfl) ?_; go_big_quiet_skip) | (refine Mx.quietly rfl ?_; go_big_quiet_want; go_big_quiet_op; go_big_quiet_on)); refine Mx.done ?_)
          refine Mx.nil ?_
          clear r1 r1w r2 r2f
          have t3 := H2.cell 3 rfl
          have t6 := H2.cell 6 rfl
          have t6f := H2.free 6
          generalize (wr.setCell ⟨g, 2, none⟩ (.int .i64 (s' : Int))).drew = wB at *
          go_wp2_with fail
          have K3 := K2
          have D3 := D2
          have S3 := S2
          have H3 := H2
          have hHF : Has wB g 52 (qcells (q.sentOff i k false) (some ⟨bd, 0, none⟩) dc (some ⟨bs, 0, none⟩) sc) := by rw [sentOff_cells q i k false hle (some ⟨bd, 0, none⟩) dc (some ⟨bs, 0, none⟩) sc s' HS.out]; exact H3
          clear t3 t6 t6f K2 D2 S2 H2
          generalize wB = wC at *
          have kd := Kept.drew none' wC
          have H4 := H3.kept kd (fun h => h)
          have r1 : wC.drew.cell? ⟨g, 1, none⟩ = some (.int .i64 (q.base : Int)) := H4.cell 1 rfl
          have r3 : wC.drew.cell? ⟨g, 3, none⟩ = some (.slice (some ⟨bd, 0, none⟩) q.data.length dc) := H4.cell 3 rfl
          have hsl := own_sl (own_kept' D3 kd (fun _ _ h => h))
          refine Mx.region [] (fun w' => w'.cell? ⟨g, 1, none⟩ = some (.int .i64 (q.base : Int)) ∧ w'.cell? ⟨g, 3, none⟩ = some (.slice (some ⟨bd, 0, none⟩) q.data.length dc)) (by kernel_rfl) (by kernel_rfl) ⟨r1, r3⟩ ?_
          repeat ((first | (refine Mx.skips (by kernel_rfl) ?_; go_big_quiet_skip) | (refine Mx.quietly rfl ?_; go_big_quiet_want; go_big_quiet_op; go_big_quiet_on)); refine Mx.done ?_)
          refine Mx.cell ⟨g, 1, none⟩ (.int .i64 (q.base : Int)) (by kernel_rfl) (by kernel_rfl) (by kernel_rfl) Try.isAgg3 (fun w' h => h.1) ?_
          go_big_quiet_want; go_big_quiet_op; go_big_quiet_on; refine Mx.done ?_
          repeat ((first | (refine Mx.skips (by kernel_rfl) ?_; go_big_quiet_skip) | (refine Mx.quietly rfl ?_; go_big_quiet_want; go_big_quiet_op; go_big_quiet_on)); refine Mx.done ?_)
          refine Mx.cell ⟨g, 3, none⟩ (.slice (some ⟨bd, 0, none⟩) q.data.length dc) (by kernel_rfl) (by kernel_rfl) (by kernel_rfl) Try.isAgg27 (fun w' h => h.2) ?_
          go_big_quiet_want; go_big_quiet_op; go_big_quiet_on; refine Mx.done ?_
          repeat ((first | (refine Mx.skips (by kernel_rfl) ?_; go_big_quiet_skip) | (refine Mx.quietly rfl ?_; go_big_quiet_want; go_big_quiet_op; go_big_quiet_on)); refine Mx.done ?_)
          refine Mx.loudly (by kernel_rfl) (by kernel_rfl) ?_
          have hs2 : Sl wC.drew (some ⟨bd, i, none⟩) k (dc - i) (bv ((q.data.drop i).take k)) := by
            have := sl_take (sl_drop hsl (k := i) (by omega)) (k := k) (by omega)
            rw [← bv_drop, ← bv_take, Nat.zero_add] at this
            exact this
          go_wp2_with fail
          refine (clone_any wC.drew hs2 (by omega)).mono ?_
          rintro e w5 ⟨a5, c5', rfl, ho5, hb5⟩
          go_wp2_with fail
          refine ⟨⟨by rw [hb5.cell (World.block_lt_of_cell? _ _ r1)]; exact r1, by rw [hb5.cell (World.block_lt_of_cell? _ _ r3)]; exact r3⟩, ?_⟩
          repeat ((first | (refine Mx.skips (by kernel_rfl) ?_; go_big_quiet_skip) | (refine Mx.quietly rfl ?_; go_big_quiet_want; go_big_quiet_op; go_big_quiet_on)); refine Mx.done ?_)
          refine Mx.nil ?_
          go_wp2
          refine bodyPost_ret (results_tmp4 rfl _ _ _) rfl ?_
          have zC := K3.size
          exact next_fin hin HL.out (K3.trans kd (fun _ _ h => h.elim)) (hHF.kept kd (fun h => h)) (own_kept' D3 kd (fun _ _ h => h)) (own_kept' S3 kd (fun _ _ h => h)) F1 Fd Fs nbd nbs nds hb5 (own_mono ho5 (by have : wC.drew.heap.size = wC.heap.size := rfl; omega)) (by rw [HO.out, HF.out]) (by rw [HNx.out, HF.out])
  case true =>
    have HF := Lib.hid hfb
    rcases step _ hfb with ⟨e1, e4⟩ | ⟨e1, e2, e4⟩ | ⟨e1, e2, e3, e4⟩ | ⟨e1, e2, e3, e4⟩
    all_goals try (exfalso; exact absurd e4 (by decide))
    all_goals
      clear step hfb
      rw [e1] at c5
      clear e1
      first | (have e4' : ((i : Int) + (n : Int) == (q.data.length : Int)) = _ := e4; clear e4) | clear e4
      go_enter Try.func10, Try.ntmps10
      go_wp2_with fail
      refine HP.out.mono ?_
      rintro e w1 ⟨rfl, hb1⟩
      have d5 := c5 w1 hb1
      have d6 := c6 w1 hb1
      go_wp2_with fail
      go_loopw [58] (fun v wr => ∃ k : Nat, v = .int .i64 (k : Int) ∧ k ≤ n ∧ Has wr g 52 (qcells q (some ⟨bd, 0, none⟩) dc (some ⟨bs, 0, none⟩) sc) ∧
        wr.ownsRow 0 5 1 (.slice (some ⟨bd, 0, none⟩) q.data.length dc) q.data.length (bv q.data) ∧ wr.ownsRow 0 5 1 (.slice (some ⟨bs, 0, none⟩) q.st.length sc) q.st.length (bv (turned q.st i k 1)) ∧ Kept F w wr) (fun v _ => n - (intOf v).toNat)
      case atStart =>
        have B := HB.out.below hb1
        exact ⟨0, rfl, Nat.zero_le _, B.has, B.d, by rw [turned_zero]; exact B.s, Kept.of_below hb1⟩
      case round =>
        obtain ⟨k, rfl, hkn, hH, hD, hS, hK⟩ := hrel
        clear d5 d6
        by_cases hk : k < n
        · have hk' : (k : Int) < (n : Int) := by omega
          have g1 : IntKind.i64.wrap ((i : Int) + (k : Int)) = (i : Int) + k := by rw [IntKind.wrap_i64]; omega
          have g2 : IntKind.i64.wrap ((k : Int) + 1) = (k : Int) + 1 := by rw [IntKind.wrap_i64]; omega
          obtain ⟨b', hb', hc, hf, _, _⟩ := own_cell hS (i := i + k) (by omega)
          cases hb'
          have hlt : i + k < (turned q.st i k 1).length := by rw [turned_len _ _ _ _ (by omega)]; omega
          rw [bv_get _ _ hlt] at hc
          have d4 := hH.cell 4 rfl
          have hik : (i : Int) + (k : Int) < (q.st.length : Int) := by omega
          have HT := Lib.hid (turned_succ q.st i k 1 (by omega))
          generalize ((turned q.st i k 1)[i + k]'hlt).toNat = y at hc
          clear hlt
          have g3 : ((i : Int) + (k : Int)).toNat = i + k := by omega
          go_wp2
          go_roundw
          case rel =>
            refine ⟨k + 1, by push_cast; rfl, by omega, hH.other (by exact Ne.symm nbs) _ _, own_kept' hD (Kept.set _ bs (i + k) _) (fun ad ha e => by cases ha; exact nds e), ?_, hK.trans (Kept.set _ bs (i + k) _) (fun j _ e => by rw [e]; exact Fs)⟩
            rw [HT.out]
            have := own_set hS (i + k) (.int .u8 1)
            have e : bv ((turned q.st i k 1).set (i + k) 1) = (bv (turned q.st i k 1)).set (i + k) (.int .u8 1) := by simp [bv, List.map_set]
            rw [e]
            exact this
          case measure => simp [intOf]; omega
        · obtain rfl : k = n := by omega
          have k2 := Kept.set wr g 2 (.int .i64 (s' : Int))
          have kd : Kept none' (wr.setCell ⟨g, 2, none⟩ (.int .i64 (s' : Int))) (wr.setCell ⟨g, 2, none⟩ (.int .i64 (s' : Int))).drew := Kept.drew _ _
          have H2 := (hH.set 2 (.int .i64 (s' : Int))).kept kd (fun h => h)
          have K2 := (hK.trans k2 (fun j _ e => by rw [e]; exact F1)).trans kd (fun _ _ h => h.elim)
          have D2 := own_kept' (own_kept' hD k2 (fun ad ha e => by cases ha; exact nbd e)) kd (fun _ _ h => h)
          have S2 := own_kept' (own_kept' hS k2 (fun ad ha e => by cases ha; exact nbs e)) kd (fun _ _ h => h)
          have r1 : wr.drew.cell? ⟨g, 1, none⟩ = some (.int .i64 (q.base : Int)) := (hH.kept (Kept.drew none' wr) (fun h => h)).cell 1 rfl
          have r1w := hH.cell 1 rfl
          have r2 := hH.cell 2 rfl
          have r2f := hH.free 2
          clear hH hD hS hK k2 kd
          go_wp2_with fail
          refine Mx.region [74] (fun w' => w'.cell? ⟨g, 1, none⟩ = some (.int .i64 (q.base : Int))) (by kernel_rfl) (by kernel_rfl) r1 ?_
          repeat ((first | (refine Mx.skips (by kernel_rfl) ?_; go_big_quiet_skip) | (refine Mx.quietly rfl ?_; go_big_quiet_want; go_big_quiet_op; go_big_quiet_on)); refine Mx.done ?_)
          refine Mx.loudly (by kernel_rfl) (by kernel_rfl) ?_
          go_wp2_with fail
          repeat ((first | (refine Mx.skips (by kernel_rfl) ?_; go_big_quiet_skip) | (refine Mx.quietly rfl ?_; go_big_quiet_want; go_big_quiet_op; go_big_quiet_on)); refine Mx.done ?_)
          refine Mx.cell ⟨g, 1, none⟩ (.int .i64 (q.base : Int)) (by kernel_rfl) (by kernel_rfl) (by kernel_rfl) Try.isAgg3 (fun w' h => h) ?_
          go_big_quiet_want; go_big_quiet_op; go_big_quiet_on; refine Mx.done ?_
          repeat ((first | (refine Mx.skips (by kernel_rfl) ?_; go_big_quiet_skip) | (refine Mx.quietly rfl ?_; go_big_quiet_want; go_big_quiet_op; go_big_quiet_on)); refine Mx.done ?_)
          refine Mx.loudly (by kernel_rfl) (by kernel_rfl) ?_
          go_wp2_with fail
          repeat ((first | (refine Mx.skips (by kernel_rfl) ?_; go_big_quiet_skip) | (refine Mx.quietly rfl ?_; go_big_quiet_want; go_big_quiet_op; go_big_quiet_on)); refine Mx.done ?_)
          refine Mx.nil ?_
          clear r1 r1w r2 r2f
          have t3 := H2.cell 3 rfl
          have t6 := H2.cell 6 rfl
          have t6f := H2.free 6
          generalize (wr.setCell ⟨g, 2, none⟩ (.int .i64 (s' : Int))).drew = wB at *
          go_wp2_with fail
          have k3 := Kept.set wB g 6 (.int .u8 1)
          have K3 := K2.trans k3 (fun j _ e => by rw [e]; exact F1)
          have D3 := own_kept' D2 k3 (fun ad ha e => by cases ha; exact nbd e)
          have S3 := own_kept' S2 k3 (fun ad ha e => by cases ha; exact nbs e)
          have H3 := H2.set 6 (.int .u8 1)
          have hHF : Has (wB.setCell ⟨g, 6, none⟩ (.int .u8 1)) g 52 (qcells (q.sentOff i k true) (some ⟨bd, 0, none⟩) dc (some ⟨bs, 0, none⟩) sc) := by rw [sentOff_cells q i k true hle (some ⟨bd, 0, none⟩) dc (some ⟨bs, 0, none⟩) sc s' HS.out]; exact H3
          clear t3 t6 t6f K2 D2 S2 H2 k3
          generalize wB.setCell ⟨g, 6, none⟩ (.int .u8 1) = wC at *
          have kd := Kept.drew none' wC
          have H4 := H3.kept kd (fun h => h)
          have r1 : wC.drew.cell? ⟨g, 1, none⟩ = some (.int .i64 (q.base : Int)) := H4.cell 1 rfl
          have r3 : wC.drew.cell? ⟨g, 3, none⟩ = some (.slice (some ⟨bd, 0, none⟩) q.data.length dc) := H4.cell 3 rfl
          have hsl := own_sl (own_kept' D3 kd (fun _ _ h => h))
          refine Mx.region [] (fun w' => w'.cell? ⟨g, 1, none⟩ = some (.int .i64 (q.base : Int)) ∧ w'.cell? ⟨g, 3, none⟩ = some (.slice (some ⟨bd, 0, none⟩) q.data.length dc)) (by kernel_rfl) (by kernel_rfl) ⟨r1, r3⟩ ?_
          repeat ((first | (refine Mx.skips (by kernel_rfl) ?_; go_big_quiet_skip) | (refine Mx.quietly rfl ?_; go_big_quiet_want; go_big_quiet_op; go_big_quiet_on)); refine Mx.done ?_)
          refine Mx.cell ⟨g, 1, none⟩ (.int .i64 (q.base : Int)) (by kernel_rfl) (by kernel_rfl) (by kernel_rfl) Try.isAgg3 (fun w' h => h.1) ?_
          go_big_quiet_want; go_big_quiet_op; go_big_quiet_on; refine Mx.done ?_
          repeat ((first | (refine Mx.skips (by kernel_rfl) ?_; go_big_quiet_skip) | (refine Mx.quietly rfl ?_; go_big_quiet_want; go_big_quiet_op; go_big_quiet_on)); refine Mx.done ?_)
          refine Mx.cell ⟨g, 3, none⟩ (.slice (some ⟨bd, 0, none⟩) q.data.length dc) (by kernel_rfl) (by kernel_rfl) (by kernel_rfl) Try.isAgg27 (fun w' h => h.2) ?_
          go_big_quiet_want; go_big_quiet_op; go_big_quiet_on; refine Mx.done ?_
          repeat ((first | (refine Mx.skips (by kernel_rfl) ?_; go_big_quiet_skip) | (refine Mx.quietly rfl ?_; go_big_quiet_want; go_big_quiet_op; go_big_quiet_on)); refine Mx.done ?_)
          refine Mx.loudly (by kernel_rfl) (by kernel_rfl) ?_
          have hs2 : Sl wC.drew (some ⟨bd, i, none⟩) k (dc - i) (bv ((q.data.drop i).take k)) := by
            have := sl_take (sl_drop hsl (k := i) (by omega)) (k := k) (by omega)
            rw [← bv_drop, ← bv_take, Nat.zero_add] at this
            exact this
          go_wp2_with fail
          refine (clone_any wC.drew hs2 (by omega)).mono ?_
          rintro e w5 ⟨a5, c5', rfl, ho5, hb5⟩
          go_wp2_with fail
          refine ⟨⟨by rw [hb5.cell (World.block_lt_of_cell? _ _ r1)]; exact r1, by rw [hb5.cell (World.block_lt_of_cell? _ _ r3)]; exact r3⟩, ?_⟩
          repeat ((first | (refine Mx.skips (by kernel_rfl) ?_; go_big_quiet_skip) | (refine Mx.quietly rfl ?_; go_big_quiet_want; go_big_quiet_op; go_big_quiet_on)); refine Mx.done ?_)
          refine Mx.nil ?_
          go_wp2
          refine bodyPost_ret (results_tmp4 rfl _ _ _) rfl ?_
          have zC := K3.size
          exact next_fin hin HL.out (K3.trans kd (fun _ _ h => h.elim)) (hHF.kept kd (fun h => h)) (own_kept' D3 kd (fun _ _ h => h)) (own_kept' S3 kd (fun _ _ h => h)) F1 Fd Fs nbd nbs nds hb5 (own_mono ho5 (by have : wC.drew.heap.size = wC.heap.size := rfl; omega)) (by rw [HO.out, HF.out]) (by rw [HNx.out, HF.out])
end Go.Proofs.Ytkjclgpecppokaa

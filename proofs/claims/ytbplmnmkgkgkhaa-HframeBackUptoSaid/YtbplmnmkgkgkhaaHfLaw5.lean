/- HframeBack answers true (printed by gen_hflaw5.py). -/
import Derived.Test.YtbplmnmkgkgkhaaHfLaw4
import Derived.Test.YtbplmnmkgkgkhaaHfFramed
import Derived.Test.YtbplmnmkgkgkhaaHfOpen2
import Derived.Test.YtbplmnmkgkgkhaaSat
namespace Go.Proofs.Ytbplmnmkgkgkhaa
open Go.RowKit

/-- what all answers where one event was told -/
theorem AllE.one {w w' : World} {r : Res} {e : Ending} {x : Ev} {bd : List UInt8} {z : Int} {d : Bool} (h : AllE w r e w') (h1 : r.out = [x]) (h2 : r.body = bd) (h3 : r.z = z) (h4 : r.R.done = d) :
    ∃ s oc ya yc a1 c1, e = .returned (.tuple #[.slice (some ⟨s, 0, none⟩) 1 oc, .slice ya bd.length yc, .int .i64 z, .bool d]) ∧
      w'.cell? ⟨s, 1, none⟩ = some (.slice a1 x.data.length c1) ∧ Sl w' a1 x.data.length c1 (bv x.data) ∧ Sl w' ya bd.length yc (bv bd) ∧ 1 ≤ oc ∧ oc ≤ maxLen ∧ Below w.heap.size w w' := by
  obtain ⟨oa, oc, ya, yc, cs, he, ho, hv, hy, hb⟩ := h
  rw [h1] at he ho hv
  rw [h2] at he hy
  rw [h3, h4] at he
  obtain ⟨s, a1, c1, hs, _, p1, _, _, _, _, ps, pn, pm⟩ := out_at ho hv rfl (i := 0) (by show 0 < 1; decide)
  rw [hs] at he
  exact ⟨s, oc, ya, yc, a1, c1, he, p1, ps, own_sl hy, pn, pm, hb⟩
/-- the junk that is laid between the frames -/
def junkB (odd : Int) (p : List UInt8) : List UInt8 := if 13 < odd ∧ odd ≤ 4611686018427387903 then fr odd.toNat p else []
theorem junk_junk {odd : Int} {p : List UInt8} (hp : p.length ≤ 1048576) : Junk (junkB odd p) := by
  unfold junkB
  split
  · rename_i h
    exact .inr ⟨odd.toNat, p, by omega, by omega, hp, rfl⟩
  · exact .inl rfl
theorem junk_len (odd : Int) (p : List UInt8) : (junkB odd p).length ≤ p.length + 16 := by
  unfold junkB
  split
  · exact fr_len _ _
  · simp
/-- the pieces up to here -/
def pcs (j : List UInt8) (ps : List Piece) (i : Nat) : List UInt8 := (ps.take i).flatMap (fun p => j ++ fr 0 p.l)
def wants (ps : List Piece) (i : Nat) : List UInt8 := (ps.take i).flatMap Piece.l
theorem pcs_next {j : List UInt8} {ps : List Piece} {i : Nat} (h : i < ps.length) : pcs j ps (i + 1) = pcs j ps i ++ (j ++ fr 0 ps[i].l) := by
  unfold pcs
  rw [List.take_succ_eq_append_getElem h, List.flatMap_append]
  simp
theorem wants_next {ps : List Piece} {i : Nat} (h : i < ps.length) : wants ps (i + 1) = wants ps i ++ ps[i].l := by
  unfold wants
  rw [List.take_succ_eq_append_getElem h, List.flatMap_append]
  simp
theorem sum_mem {ps : List Piece} {p : Piece} (h : p ∈ ps) : p.n ≤ (ps.map Piece.n).sum := by
  induction ps with
  | nil => exact absurd h List.not_mem_nil
  | cons q r ih =>
    simp only [List.map_cons, List.sum_cons]
    rcases List.mem_cons.1 h with rfl | h
    · omega
    · have := ih h; omega
theorem meas_next2 {i n : Nat} (hi : i < n) : n - (intOf (Value.int .i64 ((i : Int) + 1))).toNat < n - (intOf (Value.int .i64 (i : Int))).toNat := by
  simp only [intOf]
  omega
/-- the loop over the pieces: what was joined, and what is wanted -/
structure BS (W w0 : World) (j hd : List UInt8) (ps : List Piece) (xa : Option Addr) (xn xc : Nat) (ya : Option Addr) (yn yc i : Nat) (wr : World) : Prop where
  b : wr.ownsRow w0.heap.size 5 1 (.slice xa xn xc) xn (bv (j ++ fr 1 hd ++ pcs j ps i))
  want : wr.ownsRow w0.heap.size 5 1 (.slice ya yn yc) yn (bv (wants ps i))
  apart : ∀ k, blk xa k → ¬ blk ya k
  below : Below w0.heap.size w0 wr
  xl : xn ≤ (i + 1) * 1048608
  yl : yn ≤ i * 1048576
def BRel (W w0 : World) (j hd : List UInt8) (ps : List Piece) (bv' wv iv' : Value) (wr : World) : Prop :=
  ∃ (i : Nat) (xa : Option Addr) (xn xc : Nat) (ya : Option Addr) (yn yc : Nat), iv' = .int .i64 (i : Int) ∧ i ≤ ps.length ∧ bv' = .slice xa xn xc ∧ wv = .slice ya yn yc ∧ BS W w0 j hd ps xa xn xc ya yn yc i wr
theorem BS.on {W w0 wr w1 w2 w3 : World} {j hd : List UInt8} {ps : List Piece} {xa xa' ya ya' fa : Option Addr} {xn xc xc' yn yc yc' fc i xn' yn' : Nat} (h : BS W w0 j hd ps xa xn xc ya yn yc i wr) (hi : i < ps.length) (hsz : (j ++ fr 0 ps[i].l).length ≤ 1048608) (hpn : ps[i].n ≤ 1048576) (hpl : ps[i].l.length = ps[i].n)
    (hb1 : Below wr.heap.size wr w1)
    (ho2 : w2.ownsRow w0.heap.size 5 1 (.slice xa' xn' xc') xn' (bv (j ++ fr 1 hd ++ pcs j ps i) ++ bv (j ++ fr 0 ps[i].l))) (hx' : xn' = xn + (j ++ fr 0 ps[i].l).length) (hg2 : w1.grownBy w2 (Value.ownBlock (.slice xa xn xc))) (hw2 : NewOr w1 (.slice xa xn xc) (.slice xa' xn' xc'))
    (ho3 : w3.ownsRow w0.heap.size 5 1 (.slice ya' yn' yc') yn' (bv (wants ps i) ++ bv ps[i].l)) (hy' : yn' = yn + ps[i].n) (hg3 : w2.grownBy w3 (Value.ownBlock (.slice ya yn yc))) (hw3 : NewOr w2 (.slice ya yn yc) (.slice ya' yn' yc')) :
    BS W w0 j hd ps xa' xn' xc' ya' yn' yc' (i + 1) w3 := by
  subst hx' hy'
  have hz0 := h.below.size
  have hz1 := hb1.size
  have hk2 := Kept.of_grown hg2
  have hk3 := Kept.of_grown hg3
  have hz2 := hk2.size
  have blt : ∀ {v : World} {a : Option Addr} {n c : Nat} {xs : List Value}, v.ownsRow w0.heap.size 5 1 (.slice a n c) n xs → ∀ k, blk a k → w0.heap.size ≤ k ∧ k < v.heap.size := fun ho k ⟨ad, ha, e⟩ => by
    rcases ho.2 with ⟨hv, _⟩ | ⟨g, cap, cur, hv, hB, hg', _⟩
    · simp only [Value.slice.injEq] at hv; rw [hv.1] at ha; cases ha
    · simp only [Value.slice.injEq] at hv
      rw [hv.1] at ha; cases ha
      subst e
      exact ⟨hB, (Array.getElem?_eq_some_iff.1 hg').1⟩
  have ax : ∀ k, blk xa' k → ¬ blk ya k := fun k h1 h2 => by
    rcases hw2 k (own_blk h1) with h3 | h3
    · exact h.apart k (blk_own h3) h2
    · have := blt h.want k h2; omega
  refine ⟨?_, ?_, fun k h1 h2 => ?_, ?_, ?_, ?_⟩
  · rw [pcs_next hi, ← List.append_assoc (j ++ fr 1 hd), bv_append]
    exact own_kept ho2 hk3 (fun k e1 e2 => ax k (blk_own e1) (blk_own e2))
  · rw [wants_next hi, bv_append]
    exact ho3
  · rcases hw3 k (own_blk h2) with h3 | h3
    · exact ax k h1 (blk_own h3)
    · have := blt ho2 k h1; omega
  · refine ((h.below.trans (hb1.mono hz0)).trans (hk2.below (by omega) (fun k e => (blt h.b k (blk_own e)).1))).trans (hk3.below (by omega) (fun k e => (blt h.want k (blk_own e)).1))
  · have := h.xl; rw [show i + 1 + 1 = (i + 1) + 1 from rfl, Nat.add_mul (i + 1) 1]; omega
  · have := h.yl; rw [Nat.add_mul i 1]; omega

set_option maxRecDepth 100000 in
set_option maxHeartbeats 8000000 in
theorem back_any (W : World) (head : Piece) (ba : Option Addr) (bn bc : Nat) (ps : List Piece) (tr : Piece) (has : Bool) (odd : Int) (junk : Piece) (hM : MsgAt W head ba bn bc ps tr odd junk) :
    Calls Try.prog 4 #[.agg #[head.val, .slice ba bn bc, tr.val, .bool has, .int .i64 odd, junk.val]] W fun e w' => e = .returned (.bool true) ∧ Below W.heap.size W w' := by
  obtain ⟨w0, hw0⟩ : ∃ w0, w0 = W.alloc (.cells #[head.val, .slice ba bn bc, tr.val, .bool has, .int .i64 odd, junk.val] 36) := ⟨_, rfl⟩
  have HB0 : Hid (Below W.heap.size W w0) := Lib.hid (by rw [hw0]; exact (Below.refl _ _).alloc (Nat.le_refl _) _)
  have hB0' : Below W.heap.size W w0 := HB0.out
  obtain ⟨mb, hmb⟩ : ∃ mb, mb = W.heap.size := ⟨_, rfl⟩
  have HT : Hid (Has w0 mb 36 [head.val, .slice ba bn bc, tr.val, .bool has, .int .i64 odd, junk.val]) := Lib.hid (by rw [hw0, hmb]; exact Has.new _ _ _)
  obtain ⟨ha, hn, hc, hl⟩ := head
  obtain ⟨ta, tn, tc, tl⟩ := tr
  obtain ⟨ja, jn, jc, jl⟩ := junk
  have HT : Hid (Has w0 mb 36 [.slice ha hn hc, .slice ba bn bc, .slice ta tn tc, .bool has, .int .i64 odd, .slice ja jn jc]) := HT
  have HMs := Lib.hid (show hn + bn + (ps.map Piece.n).sum + tn + jn ≤ 1048576 from hM.size)
  have HAw := Lib.hid awake17_any
  have HH : Hid (Sl w0 ha hn hc (bv hl)) := Lib.hid (hM.shead.below hB0')
  have HTr : Hid (Sl w0 ta tn tc (bv tl)) := Lib.hid (hM.str.below hB0')
  have HJ : Hid (Sl w0 ja jn jc (bv jl)) := Lib.hid (hM.sjunk.below hB0')
  have HBd := Lib.hid (hM.sbody.below hB0')
  have HEa : Hid (∀ p ∈ ps, Sl w0 p.a p.n p.c (bv p.l)) := Lib.hid (fun p hp => (hM.each p hp).below hB0')
  have HO := Lib.hid (And.intro hM.odd1 hM.odd2)
  clear hM hB0'
  have HCp := Lib.hid (copy_any w0.drew (HJ.out.below (below_drewN (Below.refl _ w0) 1)) (by have := HMs.out; omega))
  have HJl : Hid (jl.length = jn) := Lib.hid HJ.out.byte
  have d4 : w0.drew.cell? ⟨mb, 4, none⟩ = some (.int .i64 odd) := HT.out.cell 4 rfl
  have d5 : w0.drew.cell? ⟨mb, 5, none⟩ = some (.slice ja jn jc) := HT.out.cell 5 rfl
  go_enter Try.func4, Try.ntmps4
  go_upto_region 1 with fail
  simp only [Piece.val]
  simp only [Piece.val] at hw0
  rw [← hw0, ← hmb]
  clear hw0 hmb
  refine Mx.region [] (fun w' => w'.cell? ⟨mb, 4, none⟩ = some (.int .i64 odd) ∧ w'.cell? ⟨mb, 5, none⟩ = some (.slice ja jn jc)) (by kernel_rfl) (by kernel_rfl) ⟨d4, d5⟩ ?_
  repeat ((first | (refine Mx.skips (by kernel_rfl) ?_; go_big_quiet_skip) | (refine Mx.quietly rfl ?_; go_big_quiet_want; go_big_quiet_op; go_big_quiet_on)); refine Mx.done ?_)
  refine Mx.cell ⟨mb, 4, none⟩ (.int .i64 odd) (by kernel_rfl) (by kernel_rfl) (by kernel_rfl) Try.isAgg3 (fun w' h => h.1) ?_
  go_big_quiet_want; go_big_quiet_op; go_big_quiet_on; refine Mx.done ?_
  repeat ((first | (refine Mx.skips (by kernel_rfl) ?_; go_big_quiet_skip) | (refine Mx.quietly rfl ?_; go_big_quiet_want; go_big_quiet_op; go_big_quiet_on)); refine Mx.done ?_)
  refine Mx.cell ⟨mb, 5, none⟩ (.slice ja jn jc) (by kernel_rfl) (by kernel_rfl) (by kernel_rfl) Try.isAgg22 (fun w' h => h.2) ?_
  go_big_quiet_want; go_big_quiet_op; go_big_quiet_on; refine Mx.done ?_
  repeat ((first | (refine Mx.skips (by kernel_rfl) ?_; go_big_quiet_skip) | (refine Mx.quietly rfl ?_; go_big_quiet_want; go_big_quiet_op; go_big_quiet_on)); refine Mx.done ?_)
  refine Mx.loudly (by kernel_rfl) (by kernel_rfl) ?_
  go_wp2_with fail
  refine HCp.out.mono ?_
  rintro e w1 ⟨ca, cc, rfl, ho1, hb1⟩
  have hb1 : Below w0.heap.size w0 w1 := (below_drewN (Below.refl w0.heap.size w0) 1).trans hb1
  have HF := Lib.hid (frame_any w1 odd (own_sl ho1))
  obtain ⟨fl, fz, hfr⟩ : ∃ fl fz, frB odd jl = (fl, fz) := ⟨_, _, rfl⟩
  rw [hfr] at HF
  have HFr0 := Lib.hid hfr
  clear hfr
  have HB1 := Lib.hid hb1
  have c4 := below_cell hb1 (HT.out.cell 4 rfl)
  have c5 := below_cell hb1 (HT.out.cell 5 rfl)
  clear hb1 ho1 d4 d5
  go_wp2_with fail
  repeat ((first | (refine Mx.skips (by kernel_rfl) ?_; go_big_quiet_skip) | (refine Mx.quietly rfl ?_; go_big_quiet_want; go_big_quiet_op; go_big_quiet_on)); refine Mx.done ?_)
  refine Mx.loudly (by kernel_rfl) (by kernel_rfl) ?_
  go_wp2_with fail
  refine HF.out.mono ?_
  rintro e w2 ⟨fa, fc, rfl, ho2, hb2⟩
  have HB2 := Lib.hid (HB1.out.trans (hb2.mono HB1.out.size))
  have HO2 : Hid (Sl w2 fa fl.length fc (bv fl)) := Lib.hid (own_sl ho2)
  have e4 := below_cell hb2 c4
  have e5 := below_cell hb2 c5
  clear hb2 ho2 c4 c5
  go_wp2_with fail
  repeat ((first | (refine Mx.skips (by kernel_rfl) ?_; go_big_quiet_skip) | (refine Mx.quietly rfl ?_; go_big_quiet_want; go_big_quiet_op; go_big_quiet_on)); refine Mx.done ?_)
  refine Mx.nil ?_
  clear e4 e5
  have HT2 := Lib.hid (HT.out.kept (Kept.of_below (X := none') HB2.out) (fun h => h))
  obtain ⟨j, hj⟩ : ∃ j, j = junkB odd jl := ⟨_, rfl⟩
  obtain ⟨good, hgood⟩ : ∃ good : Bool, good = decide (13 < odd ∧ odd ≤ 4611686018427387903) := ⟨_, rfl⟩
  go_upto_region 2 with fail
  go_cut [4, 29] (fun _ v wc => v = .bool (!good) ∧ wc = w2)
  case first =>
    have t4 := HT2.out.cell 4 rfl
    by_cases h1 : 13 < odd
    · by_cases h2 : odd ≤ 4611686018427387903
      · have HG : Hid (good = true) := Lib.hid (by rw [hgood]; simp [h1, h2])
        have e : frB odd jl = (fr odd.toNat jl, 0) := by
          unfold frB
          rw [if_neg (by omega), if_neg (by have := HJl.out; have := HMs.out; omega)]
          rfl
        have hz : (fz != 0) = false := by have := HFr0.out; rw [e] at this; cases this; rfl
        have h3 : ¬ odd ≤ 13 := by omega
        clear hgood e h1 h2
        go_wp2
        go_meet
        case rel => exact ⟨by rw [HG.out]; rfl, rfl⟩
      · have HG : Hid (good = false) := Lib.hid (by rw [hgood]; simp; omega)
        have e : frB odd jl = ([], 10) := by
          unfold frB
          rw [if_pos (by omega)]
        have hz : (fz != 0) = true := by have := HFr0.out; rw [e] at this; cases this; rfl
        clear hgood e h1 h2
        go_wp2
        go_meet
        case rel => exact ⟨by rw [HG.out]; rfl, rfl⟩
    · have HG : Hid (good = false) := Lib.hid (by rw [hgood]; simp; omega)
      have h3 : odd ≤ 13 := by omega
      have h3d : decide (odd ≤ 13) = true := by simpa using h3
      by_cases h4 : odd < 0
      · have e : frB odd jl = ([], 10) := by
          unfold frB
          rw [if_pos (by omega)]
        have hz : (fz != 0) = true := by have := HFr0.out; rw [e] at this; cases this; rfl
        clear hgood e h1 h4
        go_wp2
        go_meet
        case rel => exact ⟨by rw [HG.out]; rfl, rfl⟩
      · have e : frB odd jl = (fr odd.toNat jl, 0) := by
          unfold frB
          rw [if_neg (by omega), if_neg (by have := HJl.out; have := HMs.out; omega)]
          rfl
        have hz : (fz != 0) = false := by have := HFr0.out; rw [e] at this; cases this; rfl
        clear hgood e h1 h4
        go_wp2
        go_meet
        case rel => exact ⟨by rw [HG.out]; first | rfl | rw [h3d]; rfl, rfl⟩
  case rest =>
    obtain ⟨rfl, hwc⟩ := hcut
    rw [hwc]
    clear hwc wc
    have HJu : Hid (Junk j) := Lib.hid (by rw [hj]; exact junk_junk (by have := HJl.out; have := HMs.out; omega))
    have HJn : Hid (j.length ≤ jn + 16) := Lib.hid (by rw [hj]; have := junk_len odd jl; have := HJl.out; omega)
    have HGj : Hid (good = true → fr odd.toNat jl = j ∧ frB odd jl = (j, 0)) := Lib.hid (fun h => by
      rw [h] at hgood
      have h5 := of_decide_eq_true hgood.symm
      have e : fr odd.toNat jl = j := by rw [hj]; unfold junkB; rw [if_pos h5]
      refine ⟨e, ?_⟩
      unfold frB
      rw [if_neg (by omega), if_neg (by have := HJl.out; have := HMs.out; omega)]
      rw [← e]
      rfl)
    have HGn : Hid (good = false → j = []) := Lib.hid (fun h => by
      rw [h] at hgood
      have h5 := of_decide_eq_false hgood.symm
      rw [hj]; unfold junkB; rw [if_neg h5])
    clear hj hgood
    go_upto_if 29 with fail
    go_cut [3] (fun v wc => ∃ (a : Option Addr) (n c : Nat), v = .slice a n c ∧ Sl w2 a n c (bv j) ∧ wc = w2)
    case first =>
      cases good with
      | true =>
        have HS := HO2
        have HE : Hid (fl = j) := Lib.hid (by have h1 := HFr0.out; have h2 := (HGj.out rfl).2; rw [h2] at h1; cases h1; rfl)
        go_wp2
        go_meet
        case rel => exact ⟨fa, fl.length, fc, rfl, by rw [← HE.out]; exact HS.out, rfl⟩
      | false =>
        have HN := Lib.hid (HGn.out rfl)
        go_wp2
        go_meet
        case rel => exact ⟨none, 0, 0, rfl, by rw [HN.out]; exact Sl.empty _, rfl⟩
    case rest =>
      obtain ⟨ka, kn, kc, rfl, hsj, hwc⟩ := hcut
      rw [hwc]
      clear hwc wc
      have HSj := Lib.hid hsj
      have HSj0 := HSj
      have HKn : Hid (j.length = kn) := Lib.hid hsj.byte
      clear hsj HO2 HF HGj HGn
      have t0 := HT2.out.cell 0 rfl
      have t2 := HT2.out.cell 2 rfl
      have q1 : ¬ (1048576 : Int) < (hn : Int) := by have := HMs.out; omega
      have q2 : ¬ (1048576 : Int) < (tn : Int) := by have := HMs.out; omega
      have HH2 : Hid (Sl w2 ha hn hc (bv hl)) := Lib.hid (HH.out.below HB2.out)
      have HTr2 : Hid (Sl w2 ta tn tc (bv tl)) := Lib.hid (HTr.out.below HB2.out)
      have HBd2 := Lib.hid (HBd.out.below HB2.out)
      have HEa2 : Hid (∀ p ∈ ps, Sl w2 p.a p.n p.c (bv p.l)) := Lib.hid (fun p hp => (HEa.out p hp).below HB2.out)
      clear HH HTr HBd HEa HJ
      have HFr := Lib.hid (framed_any w2 HSj.out (by have := HKn.out; have := HJn.out; have := HMs.out; omega) (k := 1) (by decide) HH2.out (by have := HMs.out; omega))
      go_wp2_with fail
      refine HFr.out.mono ?_
      rintro e w3 ⟨xa, xc, rfl, ho3, hb3⟩
      clear t0 t2
      have HT3 := Lib.hid (HT2.out.kept (Kept.of_below (X := none') hb3) (fun h => h))
      have HBS : Hid (BS W w2 j hl ps xa (j ++ fr 1 hl).length xc none 0 0 0 w3) := Lib.hid ⟨by simpa [pcs] using ho3, World.ownsRow_nil _ _ _ _, fun k _ ⟨_, h, _⟩ => (by cases h), hb3, by
        have h1 := fr_len 1 hl
        have h2 := HH2.out.byte
        have h3 := HJn.out
        have h4 := HMs.out
        rw [List.length_append]; omega, by omega⟩
      clear hb3 ho3 HFr
      obtain ⟨xn, hxn⟩ : ∃ xn, xn = (j ++ fr 1 hl).length := ⟨_, rfl⟩
      rw [← hxn] at HBS ⊢
      clear hxn
      have t1 := HT3.out.cell 1 rfl
      have HPl : Hid (ps.length = bn) := Lib.hid (by have := HBd2.out.len; simpa using this)
      go_wp2_with fail
      go_loopw [5, 6, 48] (fun bv' wv iv' wr => BRel W w2 j hl ps bv' wv iv' wr) (fun _ _ iv' _ => ps.length - (intOf iv').toNat)
      case atStart => exact ⟨0, xa, xn, xc, none, 0, 0, rfl, Nat.zero_le _, rfl, rfl, HBS.out⟩
      case round =>
        obtain ⟨i, xa, xn, xc, ya, yn, yc, rfl, hin, rfl, rfl, hBS⟩ := hrel
        have HBS := Lib.hid hBS
        clear hBS t1
        have HTw : Hid (Has wr mb 36 [.slice ha hn hc, .slice ba bn bc, .slice ta tn tc, .bool has, .int .i64 odd, .slice ja jn jc]) := Lib.hid (HT2.out.kept (Kept.of_below (X := none') HBS.out.below) (fun h => h))
        have HSw : Hid (Sl wr ka kn kc (bv j)) := Lib.hid (HSj0.out.below HBS.out.below)
        by_cases hi : i < ps.length
        · have hil : (i : Int) < (bn : Int) := by have := HPl.out; omega
          obtain ⟨pb, po, rfl, hcs⟩ := HBd2.out.cells (by have := HPl.out; omega)
          have hci : wr.cell? ⟨pb, po + i, none⟩ = some (.slice (ps[i]).a (ps[i]).n (ps[i]).c) := by
            have h0 := hcs i (by have := HPl.out; omega)
            rw [List.getElem?_map, List.getElem?_eq_getElem hi] at h0
            rw [HBS.out.below.cell (World.block_lt_of_cell? w2 _ h0)]; exact h0
          have hbc : bn ≤ bc := HBd2.out.cap_le
          have hbm : bc ≤ maxLen := HBd2.out.cap_max
          have hps2 := HEa2.out (ps[i]) (List.getElem_mem hi)
          have hps := hps2.below HBS.out.below
          have hpn : (ps[i]).n + jn ≤ 1048576 := by have := sum_mem (List.getElem_mem hi); have := HMs.out; omega
          obtain ⟨p, hp⟩ : ∃ p, p = ps[i] := ⟨_, rfl⟩
          rw [← hp] at hci hps hps2 hpn
          have hpl := hps.byte
          have HOn := Lib.hid (fun (w1 v2 v3 : World) (xa' ya' : Option Addr) (xc' yc' xn' yn' : Nat) => BS.on (w1 := w1) (w2 := v2) (w3 := v3) (xa' := xa') (ya' := ya') (xc' := xc') (yc' := yc') (xn' := xn') (yn' := yn') (fa := none) (fc := 0) HBS.out hi (by rw [← hp]; have h1 := fr_len 0 p.l; have := HJn.out; rw [List.length_append]; omega) (by rw [← hp]; omega) (by rw [← hp]; exact hpl))
          rw [← hp] at HOn
          obtain ⟨pa, pn, pc, pl⟩ := p
          simp only at hci hps hps2 hpn hpl HOn
          have hqn : ¬ (1048576 : Int) < (pn : Int) := by omega
          have hiw : RowKit.wrap64 ((i : Int) + 1) = (i : Int) + 1 := by
            have h1 := HPl.out
            have h2 := HMs.out
            unfold RowKit.wrap64
            omega
          have HI := Lib.hid hi
          have HIw := Lib.hid hiw
          have HPs2 := Lib.hid hps2
          have HPn := Lib.hid hpn
          have HPl2 := Lib.hid hpl
          obtain ⟨q, hq⟩ : ∃ q, q = j ++ fr 0 pl := ⟨_, rfl⟩
          have HQl : Hid (q.length ≤ 1048608) := Lib.hid (by rw [hq, List.length_append]; have h1 := fr_len 0 pl; have := HJn.out; omega)
          have HFr : Hid (Calls Try.prog 12 #[.slice ka kn kc, .int .i64 0, .slice pa pn pc] wr (RetB wr q)) := Lib.hid (by rw [hq]; exact framed_any wr HSw.out (by have := HKn.out; have := HJn.out; have := HMs.out; omega) (k := 0) (by decide) hps (by omega))
          rw [← hq] at HOn
          clear hps hps2 hpn hpl hi hp hcs hq hin
          go_wp2_with fail
          refine HFr.out.mono ?_
          rintro e w4 ⟨fa2, fc2, rfl, ho4, hb4⟩
          have hxl := HBS.out.xl
          have hyl := HBS.out.yl
          have hbn : i ≤ 1048576 := by have := HI.out; have := HPl.out; have := HMs.out; omega
          have hql := HQl.out
          have hpn := HPn.out
          have hz2 := HBS.out.below.size
          have hz4 := hb4.size
          obtain ⟨xa', xc', w5, hr5, ho5, hg5, hw5⟩ := run_app_own (tyo := 22) tyU8 (own_below HBS.out.b hb4) (own_sl ho4) (bv_one _) (by omega) (by unfold maxLen; omega) (by omega)
          have hk5 := Kept.of_grown hg5
          have hwant := own_kept (own_below HBS.out.want hb4) hk5 (fun k e1 e2 => HBS.out.apart k (blk_own e2) (blk_own e1))
          have hB5 : Below w2.heap.size w2 w5 := (HBS.out.below.trans (hb4.mono hz2)).trans (hk5.below (by omega) (fun k e => by
            obtain ⟨ad, h1, h2⟩ := blk_own e
            have := ownsRow_ge HBS.out.b ad h1
            omega))
          have hz5 := hk5.size
          obtain ⟨ya', yc', w6, hr6, ho6, hg6, hw6⟩ := run_app_own (tyo := 22) tyU8 hwant (HPs2.out.below hB5) (bv_one _) (by omega) (by unfold maxLen; omega) (by omega)
          have hBS2 := HOn.out w4 w5 w6 xa' ya' xc' yc' _ _ hb4 ho5 rfl hg5 hw5 ho6 rfl hg6 hw6
          have HBS2 := Lib.hid hBS2
          clear hxl hyl hbn hql hpn hz2 hz4 hz5 ho4 hb4 ho5 hg5 hw5 hk5 hwant hB5 ho6 hg6 hw6 hBS2
          go_wp2_with (at_builtin; first | (refine Lib.wpList_append_run _ rfl _ _ _ _ rfl (.slice xa xn xc) (.slice fa2 q.length fc2) rfl rfl _ _ hr5 ?_) | (refine Lib.wpList_append_run _ rfl _ _ _ _ rfl (.slice ya yn yc) (.slice pa pn pc) rfl rfl _ _ hr6 ?_))
          go_roundw
          case rel => exact ⟨i + 1, xa', _, xc', ya', _, yc', by rw [HIw.out]; push_cast; rfl, by have := HI.out; omega, rfl, rfl, HBS2.out⟩
          case measure => exact meas_next HIw.out HI.out
        · obtain rfl : i = ps.length := by omega
          have hil : ¬ (ps.length : Int) < (bn : Int) := by have := HPl.out; omega
          have t3 := HTw.out.cell 3 rfl
          have t2 := HTw.out.cell 2 rfl
          have hps : ∀ p ∈ ps.map Piece.l, p.length ≤ 1048576 := by
            intro l hm
            obtain ⟨p, hp, rfl⟩ := List.mem_map.1 hm
            have h1 := sum_mem hp
            have h2 := (HEa2.out p hp).byte
            have h3 := HMs.out
            omega
          have HRun := Lib.hid (run_msg (j := j) HJu.out (head := hl) (body := ps.map Piece.l) (has := has) (tr := tl) (by have := HH2.out.byte; have := HMs.out; omega) (by have := HTr2.out.byte; have := HMs.out; omega) hps)
          have HWn : Hid ((ps.map Piece.l).flatten = wants ps ps.length) := Lib.hid (by unfold wants; rw [List.take_length, List.flatMap_def])
          have HMb : Hid (msgB j hl (ps.map Piece.l) has tl = (j ++ fr 1 hl ++ pcs j ps ps.length) ++ ((if has = true then j ++ fr 1 tl else []) ++ j)) := Lib.hid (by
            unfold msgB pcs
            rw [List.take_length, List.flatMap_map, List.append_assoc, List.append_assoc])
          rw [HWn.out, HMb.out] at HRun
          obtain ⟨X, hX⟩ : ∃ X, X = j ++ fr 1 hl ++ pcs j ps ps.length := ⟨_, rfl⟩
          obtain ⟨Y, hY⟩ : ∃ Y, Y = wants ps ps.length := ⟨_, rfl⟩
          rw [← hX, ← hY] at HRun
          have hXo := HBS.out.b
          have hYo := HBS.out.want
          rw [← hX] at hXo
          rw [← hY] at hYo
          have HXo := Lib.hid hXo
          have HYo := Lib.hid (own_sl hYo)
          have HXl : Hid (xn ≤ 1099546230816) := Lib.hid (by
            have h1 := HBS.out.xl
            have h2 : ps.length ≤ 1048576 := by have := HPl.out; have := HMs.out; omega
            omega)
          have HXb : Hid (X.length = xn) := Lib.hid (own_sl hXo).byte
          have HYb : Hid (Y.length = yn) := Lib.hid (own_sl hYo).byte
          have HBw : Hid (Below W.heap.size W wr) := Lib.hid (HB0.out.trans ((HB2.out.trans (HBS.out.below.mono HB2.out.size)).mono HB0.out.size))
          have HHw : Hid (Sl wr ha hn hc (bv hl)) := Lib.hid (HH2.out.below HBS.out.below)
          have HTrw : Hid (Sl wr ta tn tc (bv tl)) := Lib.hid (HTr2.out.below HBS.out.below)
          have HZ : Hid (w2.heap.size ≤ wr.heap.size) := Lib.hid HBS.out.below.size
          clear hps hX hY hXo hYo hi hin
          cases has with
          | false =>
            have HRun2 := HRun.out
            rw [if_neg (by decide), if_neg (by decide), List.nil_append] at HRun2
            have HRn := Lib.hid HRun2
            clear HRun2
            have HBv := HBw
            have HXs : Hid (Sl wr xa xn xc (bv X)) := Lib.hid (own_sl HXo.out)
            have HKs := HSw
            have HHs := HHw
            have HYs := HYo
            have HTc := HTw
            have HXq : Hid (X.length + kn ≤ 1999999999999) := Lib.hid (by have := HXb.out; have := HXl.out; have := HKn.out; have := HJn.out; have := HMs.out; omega)
            go_upto_region 18 with fail
            have hal : Below wr.heap.size wr (wr.alloc (.cells #[.slice xa xn xc, .slice ka kn kc] 22)) := (Below.refl _ _).alloc (Nat.le_refl _) _
            have HJo := Lib.hid (join_any (wr.alloc (.cells #[.slice xa xn xc, .slice ka kn kc] 22)) (ps := [⟨xa, xn, xc, X⟩, ⟨ka, kn, kc, j⟩]) (n := 2) sl_two (by
              intro x hx
              simp only [List.mem_cons, List.not_mem_nil, or_false] at hx
              rcases hx with rfl | rfl
              · exact HXs.out.below hal
              · exact HKs.out.below hal) (by have := HXq.out; have := HKn.out; simp [joined]; omega))
            obtain ⟨J, hJ⟩ : ∃ J, J = X ++ j := ⟨_, rfl⟩
            have HJJ : Hid (joined [⟨xa, xn, xc, X⟩, ⟨ka, kn, kc, j⟩] = J) := Lib.hid (by rw [hJ]; simp [joined])
            have HJl2 : Hid (J.length ≤ 2000000000000) := Lib.hid (by rw [hJ, List.length_append]; have := HXq.out; have := HKn.out; omega)
            rw [← hJ] at HRn
            have HAl := Lib.hid hal
            clear hJ hal
            go_wp2_with fail
            rw [HJJ.out] at HJo
            refine HJo.out.mono ?_
            rintro e w7 ⟨xj, xjc, rfl, ho7, hb7⟩
            have hb7 := HAl.out.trans (hb7.mono HAl.out.size)
            obtain ⟨r, hr, r1, r2, r3, r4⟩ := HRn.out
            have HA := Lib.hid (all_runs w7 1 (.inl rfl) (own_sl ho7) HJl2.out (ca := none) (cn := 0) (cc := 0) (cuts := []) (Sl.empty _) (by decide) hr)
            have HRr := Lib.hid (And.intro r1 (And.intro r2 (And.intro r3 r4)))
            have HB7 := Lib.hid hb7
            clear ho7 hb7 hr r1 r2 r3 r4
            go_wp2_with fail
            refine HA.out.mono ?_
            intro e w8 hE
            obtain ⟨s, oc, za, zc, a1, c1, rfl, p1, hs1, hsb, hoc, hom, hb8⟩ := hE.one HRr.out.1 HRr.out.2.1 HRr.out.2.2.1 HRr.out.2.2.2
            have hb8 := HB7.out.trans (hb8.mono HB7.out.size)
            simp only at p1 hs1 
            have hT8 := HTc.out.kept (Kept.of_below (X := none') hb8) (fun h => h)
            have HSat : Hid (Sat [(⟨s, 1, none⟩, .slice a1 hl.length c1), (⟨mb, 0, none⟩, .slice ha hn hc), (⟨mb, 3, none⟩, .bool false)] w8.drew) := Lib.hid (.cons p1 (.cons (hT8.cell 0 rfl) (.cons (hT8.cell 3 rfl) (.nil _))))
            have HS1 := Lib.hid hs1

            have HSb := Lib.hid hsb
            have HH8 := Lib.hid (HHs.out.below hb8)

            have HY8 := Lib.hid (HYs.out.below hb8)
            have HBz := Lib.hid (HBv.out.trans (hb8.mono HBv.out.size))
            have t3 := hT8.cell 3 rfl
            clear hE hs1 hsb hb8 p1 hT8 
            go_upto_region 22 with fail
            clear t3
            refine Mx.region [] (Sat [(⟨s, 1, none⟩, .slice a1 hl.length c1), (⟨mb, 0, none⟩, .slice ha hn hc), (⟨mb, 3, none⟩, .bool false)]) (by kernel_rfl) (by kernel_rfl) HSat.out ?_
            repeat ((first | (refine Mx.skips (by kernel_rfl) ?_; go_big_quiet_skip) | (refine Mx.quietly rfl ?_; go_big_quiet_want; go_big_quiet_op; go_big_quiet_on)); refine Mx.done ?_)
            refine Mx.cell ⟨s, 1, none⟩ (.slice a1 hl.length c1) (by kernel_rfl) (by kernel_rfl) (by kernel_rfl) Try.isAgg22 (fun w' h => h 0 _ _ rfl) ?_
            go_big_quiet_want; go_big_quiet_op; go_big_quiet_on; refine Mx.done ?_
            repeat ((first | (refine Mx.skips (by kernel_rfl) ?_; go_big_quiet_skip) | (refine Mx.quietly rfl ?_; go_big_quiet_want; go_big_quiet_op; go_big_quiet_on)); refine Mx.done ?_)
            refine Mx.cell ⟨mb, 0, none⟩ (.slice ha hn hc) (by kernel_rfl) (by kernel_rfl) (by kernel_rfl) Try.isAgg22 (fun w' h => h 1 _ _ rfl) ?_
            go_big_quiet_want; go_big_quiet_op; go_big_quiet_on; refine Mx.done ?_
            repeat ((first | (refine Mx.skips (by kernel_rfl) ?_; go_big_quiet_skip) | (refine Mx.quietly rfl ?_; go_big_quiet_want; go_big_quiet_op; go_big_quiet_on)); refine Mx.done ?_)
            have HC1 := Lib.hid (same_any w8.drew (HS1.out.below (below_drewN (Below.refl w8.heap.size w8) 1)) (HH8.out.below (below_drewN (Below.refl w8.heap.size w8) 1)))
            rw [show decide (hl = hl) = true by simp] at HC1
            refine Mx.loudly (by kernel_rfl) (by kernel_rfl) ?_
            go_wp2_with fail
            refine HC1.out.mono ?_
            rintro e w9 ⟨rfl, hb9⟩
            have HSat9 := Lib.hid (HSat.out.below hb9)
            have HB9 : Hid (Below w8.heap.size w8 w9) := Lib.hid ((below_drewN (Below.refl w8.heap.size w8) 1).trans hb9)
            clear hb9
            go_wp2_with fail
            refine ⟨HSat9.out, ?_⟩
            repeat ((first | (refine Mx.skips (by kernel_rfl) ?_; go_big_quiet_skip) | (refine Mx.quietly rfl ?_; go_big_quiet_want; go_big_quiet_op; go_big_quiet_on)); refine Mx.done ?_)
            have HC2 := Lib.hid (same_any w9 (HSb.out.below HB9.out) (HY8.out.below HB9.out))
            rw [show decide (Y = Y) = true by simp] at HC2
            refine Mx.loudly (by kernel_rfl) (by kernel_rfl) ?_
            go_wp2_with fail
            refine HC2.out.mono ?_
            rintro e w10 ⟨rfl, hb10⟩
            have HSat10 := Lib.hid (HSat9.out.below hb10)
            have HB10 := Lib.hid (HB9.out.trans (hb10.mono HB9.out.size))
            clear hb10
            go_wp2_with fail
            refine ⟨HSat10.out, ?_⟩
            repeat ((first | (refine Mx.skips (by kernel_rfl) ?_; go_big_quiet_skip) | (refine Mx.quietly rfl ?_; go_big_quiet_want; go_big_quiet_op; go_big_quiet_on)); refine Mx.done ?_)
            refine Mx.cell ⟨mb, 3, none⟩ (.bool false) (by kernel_rfl) (by kernel_rfl) (by kernel_rfl) Try.isAgg4 (fun w' h => h 2 _ _ rfl) ?_
            go_big_quiet_want; go_big_quiet_op; go_big_quiet_on; refine Mx.done ?_
            repeat ((first | (refine Mx.skips (by kernel_rfl) ?_; go_big_quiet_skip) | (refine Mx.quietly rfl ?_; go_big_quiet_want; go_big_quiet_op; go_big_quiet_on)); refine Mx.done ?_)
            have HC4 := Lib.hid (HAw.out w10)
            refine Mx.loudly (by kernel_rfl) (by kernel_rfl) ?_
            go_wp2_with fail
            refine HC4.out.mono ?_
            rintro e w12 ⟨rfl, hb12⟩
            have HSat12 := Lib.hid (HSat10.out.below hb12)
            have HB12 := Lib.hid (HB10.out.trans (hb12.mono HB10.out.size))
            clear hb12
            go_wp2_with fail
            refine ⟨HSat12.out, ?_⟩
            repeat ((first | (refine Mx.skips (by kernel_rfl) ?_; go_big_quiet_skip) | (refine Mx.quietly rfl ?_; go_big_quiet_want; go_big_quiet_op; go_big_quiet_on)); refine Mx.done ?_)
            refine Mx.nil ?_
            go_wp2
            go_ret
            exact ⟨rfl, HBz.out.trans (HB12.out.mono HBz.out.size)⟩
          | true =>
            have HRun2 := HRun.out
            rw [if_pos rfl, if_pos rfl, ← List.append_assoc X] at HRun2
            obtain ⟨q, hq⟩ : ∃ q, q = j ++ fr 1 tl := ⟨_, rfl⟩
            have HQl : Hid (q.length ≤ 1048608) := Lib.hid (by rw [hq, List.length_append]; have h1 := fr_len 1 tl; have := HJn.out; have := HTrw.out.byte; have := HMs.out; omega)
            have HFr2 : Hid (Calls Try.prog 12 #[.slice ka kn kc, .int .i64 1, .slice ta tn tc] wr (RetB wr q)) := Lib.hid (by rw [hq]; exact framed_any wr HSw.out (by have := HKn.out; have := HJn.out; have := HMs.out; omega) (k := 1) (by decide) HTrw.out (by have := HMs.out; omega))
            rw [← hq] at HRun2
            have HRn := Lib.hid HRun2
            clear hq HRun2
            go_wp2_with fail
            refine HFr2.out.mono ?_
            rintro e w4 ⟨fa2, fc2, rfl, ho4, hb4⟩
            have hql := HQl.out
            have hxl := HXl.out
            have hz4 := hb4.size
            have hz2 := HZ.out
            obtain ⟨xa', xc', w5, hr5, ho5, hg5, hw5⟩ := run_app_own (tyo := 22) tyU8 (own_below HXo.out hb4) (own_sl ho4) (bv_one _) (by omega) (by unfold maxLen; omega) (by omega)
            have hk5 := Kept.of_grown hg5
            have hlow : ∀ k, Value.ownBlock (.slice xa xn xc) = some k → w2.heap.size ≤ k := fun k e => by
              obtain ⟨ad, h1, h2⟩ := blk_own e
              have := ownsRow_ge HXo.out ad h1
              omega
            have hB5 : Below w2.heap.size w2 w5 := (HBS.out.below.trans (hb4.mono hz2)).trans (hk5.below (by omega) hlow)
            have HBv : Hid (Below W.heap.size W w5) := Lib.hid (HB0.out.trans ((HB2.out.trans (hB5.mono HB2.out.size)).mono HB0.out.size))
            have HXs : Hid (Sl w5 xa' (xn + q.length) xc' (bv (X ++ q))) := Lib.hid (by rw [bv_append]; exact own_sl ho5)
            have HKs : Hid (Sl w5 ka kn kc (bv j)) := Lib.hid (HSj0.out.below hB5)
            have HHs : Hid (Sl w5 ha hn hc (bv hl)) := Lib.hid (HH2.out.below hB5)
            have HTs : Hid (Sl w5 ta tn tc (bv tl)) := Lib.hid (HTr2.out.below hB5)
            have HYs : Hid (Sl w5 ya yn yc (bv Y)) := Lib.hid ((HYo.out.below hb4).kept hk5 (fun ad ha e => HBS.out.apart ad.block (blk_own e) ⟨ad, ha, rfl⟩))
            have HTc : Hid (Has w5 mb 36 [.slice ha hn hc, .slice ba bn bc, .slice ta tn tc, .bool true, .int .i64 odd, .slice ja jn jc]) := Lib.hid (HT2.out.kept (Kept.of_below (X := none') hB5) (fun h => h))
            have HXq : Hid ((X ++ q).length + kn ≤ 1999999999999) := Lib.hid (by have := HXb.out; have := HKn.out; have := HJn.out; have := HMs.out; rw [List.length_append]; omega)
            clear hql hxl hz4 hz2 ho4 hb4 ho5 hg5 hw5 hk5 hlow hB5 t2 t3
            obtain ⟨Z, hZ⟩ : ∃ Z, Z = X ++ q := ⟨_, rfl⟩
            rw [← hZ] at HXs HRn HXq
            obtain ⟨zn, hzn⟩ : ∃ zn, zn = xn + q.length := ⟨_, rfl⟩
            have t3 := HTc.out.cell 3 rfl
            have t2 := HTc.out.cell 2 rfl
            go_upto_region 18 with (at_builtin; refine Lib.wpList_append_run _ rfl _ _ _ _ rfl (.slice xa xn xc) (.slice fa2 q.length fc2) rfl rfl _ _ hr5 ?_)
            rw [← hzn] at HXs ⊢
            clear hZ hzn hr5
            have hal : Below w5.heap.size w5 (w5.alloc (.cells #[.slice xa' zn xc', .slice ka kn kc] 22)) := (Below.refl _ _).alloc (Nat.le_refl _) _
            have HJo := Lib.hid (join_any (w5.alloc (.cells #[.slice xa' zn xc', .slice ka kn kc] 22)) (ps := [⟨xa', zn, xc', Z⟩, ⟨ka, kn, kc, j⟩]) (n := 2) sl_two (by
              intro x hx
              simp only [List.mem_cons, List.not_mem_nil, or_false] at hx
              rcases hx with rfl | rfl
              · exact HXs.out.below hal
              · exact HKs.out.below hal) (by have := HXq.out; have := HKn.out; simp [joined]; omega))
            obtain ⟨J, hJ⟩ : ∃ J, J = Z ++ j := ⟨_, rfl⟩
            have HJJ : Hid (joined [⟨xa', zn, xc', Z⟩, ⟨ka, kn, kc, j⟩] = J) := Lib.hid (by rw [hJ]; simp [joined])
            have HJl2 : Hid (J.length ≤ 2000000000000) := Lib.hid (by rw [hJ, List.length_append]; have := HXq.out; have := HKn.out; omega)
            rw [← hJ] at HRn
            have HAl := Lib.hid hal
            clear hJ hal
            go_wp2_with fail
            rw [HJJ.out] at HJo
            refine HJo.out.mono ?_
            rintro e w7 ⟨xj, xjc, rfl, ho7, hb7⟩
            have hb7 := HAl.out.trans (hb7.mono HAl.out.size)
            obtain ⟨r, hr, r1, r2, r3, r4⟩ := HRn.out
            have HA := Lib.hid (all_runs w7 1 (.inl rfl) (own_sl ho7) HJl2.out (ca := none) (cn := 0) (cc := 0) (cuts := []) (Sl.empty _) (by decide) hr)
            have HRr := Lib.hid (And.intro r1 (And.intro r2 (And.intro r3 r4)))
            have HB7 := Lib.hid hb7
            clear ho7 hb7 hr r1 r2 r3 r4
            go_wp2_with fail
            refine HA.out.mono ?_
            intro e w8 hE
            obtain ⟨s, oc, za, zc, a1, c1, a2, c2, rfl, ⟨_, p1, _⟩, ⟨_, q1, _⟩, hs1, hs2, hsb, hoc, hom, hb8⟩ := hE.two HRr.out.1 HRr.out.2.1 HRr.out.2.2.1 HRr.out.2.2.2
            have hb8 := HB7.out.trans (hb8.mono HB7.out.size)
            simp only at p1 hs1 q1 hs2
            have hT8 := HTc.out.kept (Kept.of_below (X := none') hb8) (fun h => h)
            have HSat : Hid (Sat [(⟨s, 1, none⟩, .slice a1 hl.length c1), (⟨mb, 0, none⟩, .slice ha hn hc), (⟨mb, 3, none⟩, .bool true), (⟨s, 7, none⟩, .slice a2 tl.length c2), (⟨mb, 2, none⟩, .slice ta tn tc)] w8.drew) := Lib.hid (.cons p1 (.cons (hT8.cell 0 rfl) (.cons (hT8.cell 3 rfl) (.cons q1 (.cons (hT8.cell 2 rfl) (.nil _))))))
            have HS1 := Lib.hid hs1
            have HS2 := Lib.hid hs2
            have HSb := Lib.hid hsb
            have HH8 := Lib.hid (HHs.out.below hb8)
            have HT8 := Lib.hid (HTs.out.below hb8)
            have HY8 := Lib.hid (HYs.out.below hb8)
            have HBz := Lib.hid (HBv.out.trans (hb8.mono HBv.out.size))
            have t3 := hT8.cell 3 rfl
            clear hE hs1 hsb hb8 p1 hT8 hs2 q1
            go_upto_region 22 with fail
            clear t3
            refine Mx.region [] (Sat [(⟨s, 1, none⟩, .slice a1 hl.length c1), (⟨mb, 0, none⟩, .slice ha hn hc), (⟨mb, 3, none⟩, .bool true), (⟨s, 7, none⟩, .slice a2 tl.length c2), (⟨mb, 2, none⟩, .slice ta tn tc)]) (by kernel_rfl) (by kernel_rfl) HSat.out ?_
            repeat ((first | (refine Mx.skips (by kernel_rfl) ?_; go_big_quiet_skip) | (refine Mx.quietly rfl ?_; go_big_quiet_want; go_big_quiet_op; go_big_quiet_on)); refine Mx.done ?_)
            refine Mx.cell ⟨s, 1, none⟩ (.slice a1 hl.length c1) (by kernel_rfl) (by kernel_rfl) (by kernel_rfl) Try.isAgg22 (fun w' h => h 0 _ _ rfl) ?_
            go_big_quiet_want; go_big_quiet_op; go_big_quiet_on; refine Mx.done ?_
            repeat ((first | (refine Mx.skips (by kernel_rfl) ?_; go_big_quiet_skip) | (refine Mx.quietly rfl ?_; go_big_quiet_want; go_big_quiet_op; go_big_quiet_on)); refine Mx.done ?_)
            refine Mx.cell ⟨mb, 0, none⟩ (.slice ha hn hc) (by kernel_rfl) (by kernel_rfl) (by kernel_rfl) Try.isAgg22 (fun w' h => h 1 _ _ rfl) ?_
            go_big_quiet_want; go_big_quiet_op; go_big_quiet_on; refine Mx.done ?_
            repeat ((first | (refine Mx.skips (by kernel_rfl) ?_; go_big_quiet_skip) | (refine Mx.quietly rfl ?_; go_big_quiet_want; go_big_quiet_op; go_big_quiet_on)); refine Mx.done ?_)
            have HC1 := Lib.hid (same_any w8.drew (HS1.out.below (below_drewN (Below.refl w8.heap.size w8) 1)) (HH8.out.below (below_drewN (Below.refl w8.heap.size w8) 1)))
            rw [show decide (hl = hl) = true by simp] at HC1
            refine Mx.loudly (by kernel_rfl) (by kernel_rfl) ?_
            go_wp2_with fail
            refine HC1.out.mono ?_
            rintro e w9 ⟨rfl, hb9⟩
            have HSat9 := Lib.hid (HSat.out.below hb9)
            have HB9 : Hid (Below w8.heap.size w8 w9) := Lib.hid ((below_drewN (Below.refl w8.heap.size w8) 1).trans hb9)
            clear hb9
            go_wp2_with fail
            refine ⟨HSat9.out, ?_⟩
            repeat ((first | (refine Mx.skips (by kernel_rfl) ?_; go_big_quiet_skip) | (refine Mx.quietly rfl ?_; go_big_quiet_want; go_big_quiet_op; go_big_quiet_on)); refine Mx.done ?_)
            have HC2 := Lib.hid (same_any w9 (HSb.out.below HB9.out) (HY8.out.below HB9.out))
            rw [show decide (Y = Y) = true by simp] at HC2
            refine Mx.loudly (by kernel_rfl) (by kernel_rfl) ?_
            go_wp2_with fail
            refine HC2.out.mono ?_
            rintro e w10 ⟨rfl, hb10⟩
            have HSat10 := Lib.hid (HSat9.out.below hb10)
            have HB10 := Lib.hid (HB9.out.trans (hb10.mono HB9.out.size))
            clear hb10
            go_wp2_with fail
            refine ⟨HSat10.out, ?_⟩
            repeat ((first | (refine Mx.skips (by kernel_rfl) ?_; go_big_quiet_skip) | (refine Mx.quietly rfl ?_; go_big_quiet_want; go_big_quiet_op; go_big_quiet_on)); refine Mx.done ?_)
            refine Mx.cell ⟨mb, 3, none⟩ (.bool true) (by kernel_rfl) (by kernel_rfl) (by kernel_rfl) Try.isAgg4 (fun w' h => h 2 _ _ rfl) ?_
            go_big_quiet_want; go_big_quiet_op; go_big_quiet_on; refine Mx.done ?_
            repeat ((first | (refine Mx.skips (by kernel_rfl) ?_; go_big_quiet_skip) | (refine Mx.quietly rfl ?_; go_big_quiet_want; go_big_quiet_op; go_big_quiet_on)); refine Mx.done ?_)
            refine Mx.cell ⟨s, 7, none⟩ (.slice a2 tl.length c2) (by kernel_rfl) (by kernel_rfl) (by kernel_rfl) Try.isAgg22 (fun w' h => h 3 _ _ rfl) ?_
            go_big_quiet_want; go_big_quiet_op; go_big_quiet_on; refine Mx.done ?_
            repeat ((first | (refine Mx.skips (by kernel_rfl) ?_; go_big_quiet_skip) | (refine Mx.quietly rfl ?_; go_big_quiet_want; go_big_quiet_op; go_big_quiet_on)); refine Mx.done ?_)
            refine Mx.cell ⟨mb, 2, none⟩ (.slice ta tn tc) (by kernel_rfl) (by kernel_rfl) (by kernel_rfl) Try.isAgg22 (fun w' h => h 4 _ _ rfl) ?_
            go_big_quiet_want; go_big_quiet_op; go_big_quiet_on; refine Mx.done ?_
            repeat ((first | (refine Mx.skips (by kernel_rfl) ?_; go_big_quiet_skip) | (refine Mx.quietly rfl ?_; go_big_quiet_want; go_big_quiet_op; go_big_quiet_on)); refine Mx.done ?_)
            have HC3 := Lib.hid (same_any w10 (HS2.out.below HB10.out) (HT8.out.below HB10.out))
            rw [show decide (tl = tl) = true by simp] at HC3
            refine Mx.loudly (by kernel_rfl) (by kernel_rfl) ?_
            go_wp2_with fail
            refine HC3.out.mono ?_
            rintro e w11 ⟨rfl, hb11⟩
            have HSat10 := Lib.hid (HSat10.out.below hb11)
            have HB10 := Lib.hid (HB10.out.trans (hb11.mono HB10.out.size))
            clear hb11
            go_wp2_with fail
            refine ⟨HSat10.out, ?_⟩
            repeat ((first | (refine Mx.skips (by kernel_rfl) ?_; go_big_quiet_skip) | (refine Mx.quietly rfl ?_; go_big_quiet_want; go_big_quiet_op; go_big_quiet_on)); refine Mx.done ?_)
            have HC4 := Lib.hid (HAw.out w11)
            refine Mx.loudly (by kernel_rfl) (by kernel_rfl) ?_
            go_wp2_with fail
            refine HC4.out.mono ?_
            rintro e w12 ⟨rfl, hb12⟩
            have HSat12 := Lib.hid (HSat10.out.below hb12)
            have HB12 := Lib.hid (HB10.out.trans (hb12.mono HB10.out.size))
            clear hb12
            go_wp2_with fail
            refine ⟨HSat12.out, ?_⟩
            repeat ((first | (refine Mx.skips (by kernel_rfl) ?_; go_big_quiet_skip) | (refine Mx.quietly rfl ?_; go_big_quiet_want; go_big_quiet_op; go_big_quiet_on)); refine Mx.done ?_)
            refine Mx.nil ?_
            go_wp2
            go_ret
            exact ⟨rfl, HBz.out.trans (HB12.out.mono HBz.out.size)⟩
end Go.Proofs.Ytbplmnmkgkgkhaa

/- The walk of the reader's Next (printed by gen_hfnext.py). -/
import Derived.Test.YtbplmnmkgkgkhaaHfRound
namespace Go.Proofs.Ytbplmnmkgkgkhaa
open Go.RowKit

/-- what Next leaves: the answer, the reader, its bytes still in the same block -/
def NextP (w : World) (g : Nat) (ba : Option Addr) (o : NOut × Rd) (e : Ending) (w' : World) : Prop :=
  ∃ vs a c, e = .returned (.tuple #[.agg vs.toArray, .bool o.1.ok, .int .i64 o.1.z]) ∧ vs.length = 6 ∧ EvAt w.heap.size w' o.1.ev vs ∧ Kept (fun k => k = g) w w' ∧ RB w' g o.2 a c ∧ ∀ ad, a = some ad → ∃ ad0, ba = some ad0 ∧ ad.block = ad0.block
structure NR (w wr : World) (g : Nat) (ba : Option Addr) (N : NOut × Rd) (R : Rd) (k : Nat) (a : Option Addr) (c : Nat) : Prop where
  rb : RB wr g R a c
  same : ∀ ad, a = some ad → ∃ ad0, ba = some ad0 ∧ ad.block = ad0.block
  ev : Has wr w.heap.size 32 evz
  kept : Kept (fun k => k = g) w wr
  eq : nextV k R = N
  lt : R.b.length < k
  len : R.b.length ≤ 140737488351232
  heads : 0 ≤ R.heads
  left : R.left < 4611686018427387904
  low : ∀ ad, ba = some ad → ad.block < w.heap.size
  glt : g < w.heap.size
def NRel (w wr : World) (g : Nat) (ba : Option Addr) (N : NOut × Rd) : Prop := ∃ R k a c, NR w wr g ba N R k a c
def lenW (w : World) (g : Nat) : Nat := match w.cell? ⟨g, 2, none⟩ with
  | some (.slice _ n _) => n
  | _ => 0
theorem RB.lenW {w : World} {g : Nat} {R : Rd} {a : Option Addr} {c : Nat} (h : RB w g R a c) : lenW w g = R.b.length := by
  unfold Go.Proofs.Ytbplmnmkgkgkhaa.lenW; rw [h.has.cell 2 rfl]
theorem NR.some {w wr : World} {g : Nat} {ba : Option Addr} {N : NOut × Rd} {R : Rd} {k : Nat} {a : Option Addr} {c : Nat} (h : NR w wr g ba N R k a c) {o : NOut} {R' : Rd} (hs : stepV R = (some o, R')) : N = (o, R') := by
  have := h.lt
  rw [← h.eq]
  cases k with
  | zero => omega
  | succ k => rw [nextV, hs]
theorem NR.none {w wr : World} {g : Nat} {ba : Option Addr} {N : NOut × Rd} {R : Rd} {k : Nat} {a : Option Addr} {c : Nat} (h : NR w wr g ba N R k a c) {R' : Rd} (hs : stepV R = (Option.none, R')) : ∃ k', nextV k' R' = N ∧ R'.b.length < k' ∧ R'.b.length < R.b.length := by
  have h1 := h.lt
  have h2 := stepV_less R (by rw [hs])
  rw [hs] at h2
  have h3 := h.eq
  cases k with
  | zero => omega
  | succ k =>
    rw [nextV, hs] at h3
    have h2' : R'.b.length < R.b.length := h2
    exact ⟨k, h3, by omega, h2'⟩
theorem add_block (ad : Addr) (k : Nat) : (ad.add k).block = ad.block := by
  unfold Addr.add; split <;> rfl
/-- the round is over: the next one -/
theorem NR.next {w wr w9 : World} {g : Nat} {ba : Option Addr} {N : NOut × Rd} {R R' : Rd} {k : Nat} {a a9 : Option Addr} {c c9 : Nat} (h : NR w wr g ba N R k a c) (hs : stepV R = (Option.none, R')) (hR : RB w9 g R' a9 c9) (hK : Kept (fun k => k = g) wr w9) (ha : ∀ ad, a9 = Option.some ad → ∃ ad0, a = Option.some ad0 ∧ ad.block = ad0.block) (hh : 0 ≤ R'.heads) (hl : R'.left < 4611686018427387904) : NRel w w9 g ba N ∧ Go.Proofs.Ytbplmnmkgkgkhaa.lenW w9 g < Go.Proofs.Ytbplmnmkgkgkhaa.lenW wr g := by
  obtain ⟨k', h1, h2, h3⟩ := h.none hs
  have hlen := h.len
  have hg := h.glt
  refine ⟨⟨R', k', a9, c9, hR, fun ad h0 => ?_, h.ev.kept hK (by omega), h.kept.trans hK (fun _ _ h => h), h1, h2, by omega, hh, hl, h.low, hg⟩, by rw [hR.lenW, h.rb.lenW]; exact h3⟩
  obtain ⟨ad1, h4, h5⟩ := ha ad h0
  obtain ⟨ad2, h6, h7⟩ := h.same ad1 h4
  exact ⟨ad2, h6, by omega⟩
/-- the bytes behind the first k, stored -/
theorem RB.cut {w : World} {g : Nat} {R R' : Rd} {a : Option Addr} {c : Nat} (h : RB w g R a c) {n k : Nat} (hn : n = R.b.length) (hk : k ≤ n) (a' : Option Addr) (ha' : a' = if c = k then a else Option.map (fun x => x.add k) a) (hR' : R' = { R with b := R.b.drop k }) : RB (w.setCell ⟨g, 2, Option.none⟩ (.slice a' (n - k) (c - k))) g R' a' (c - k) := by
  subst hn; subst hR'
  have hl : (R.b.drop k).length = R.b.length - k := List.length_drop
  have hcn : R.b.length ≤ c := h.row.sl.cap_le
  refine ⟨?_, ?_, ?_⟩
  · have e : rcells { R with b := R.b.drop k } a' (c - k) = (rcells R a c).set 2 (.slice a' (R.b.length - k) (c - k)) := by
      simp only [rcells]; rw [hl]; rfl
    rw [e]; exact h.has.set 2 _
  · have hT : Tl w a' (R.b.length - k) (c - k) (bv (R.b.drop k)) := by
      rw [ha']
      by_cases hc : c = k
      · rw [if_pos hc]
        obtain rfl : k = R.b.length := by omega
        have := h.row.drop_end (m := R.b.length - R.b.length) (by omega)
        rw [hc] at this ⊢
        rw [show bv (R.b.drop R.b.length) = (bv R.b).drop R.b.length from by simp [bv]]
        exact this
      · rw [if_neg hc]
        rw [show bv (R.b.drop k) = (bv R.b).drop k from by simp [bv, List.map_drop]]
        exact h.row.drop hk
    show Tl _ a' (R.b.drop k).length (c - k) (bv (R.b.drop k))
    rw [hl]
    exact hT.kept (Kept.set w g 2 _) (fun ad h0 e => by
      rw [ha'] at h0
      by_cases hc : c = k
      · rw [if_pos hc] at h0; exact h.ne ad h0 e
      · rw [if_neg hc] at h0
        cases a with
        | none => cases h0
        | some ad1 =>
          cases h0
          exact h.ne ad1 rfl ((add_block ad1 k).symm.trans e))
  · intro ad h0
    rw [ha'] at h0
    by_cases hc : c = k
    · rw [if_pos hc] at h0; exact h.ne ad h0
    · rw [if_neg hc] at h0
      cases a with
      | none => cases h0
      | some ad1 =>
        cases h0
        exact fun e => h.ne ad1 rfl ((add_block ad1 k).symm.trans e)
theorem cut_same {a a' : Option Addr} {c k : Nat} (ha' : a' = if c = k then a else Option.map (fun x => x.add k) a) : ∀ ad, a' = some ad → ∃ ad0, a = some ad0 ∧ ad.block = ad0.block := by
  intro ad h0
  rw [ha'] at h0
  by_cases hc : c = k
  · rw [if_pos hc] at h0; exact ⟨ad, h0, rfl⟩
  · rw [if_neg hc] at h0
    cases a with
    | none => cases h0
    | some ad1 =>
      cases h0
      exact ⟨ad1, rfl, add_block ad1 k⟩
theorem ownsRow_ge {w : World} {B e s : Nat} {a : Option Addr} {n c : Nat} {xs : List Value} (h : w.ownsRow B e s (.slice a n c) n xs) : ∀ ad, a = some ad → B ≤ ad.block := by
  intro ad ha
  rcases h.2 with ⟨h0, _⟩ | ⟨g, cap, cur, hv, hB, _⟩
  · simp only [Value.slice.injEq] at h0
    rw [h0.1] at ha; cases ha
  · simp only [Value.slice.injEq] at hv
    rw [hv.1] at ha; cases ha
    exact hB
theorem wholeV_ev (R : Rd) (k : Int) (pl : List UInt8) (pa : Option Addr) (pc : Nat) : ∃ i0 pa' pn' pc' i2 i3 i4 i5 ok z R', wholeV R k pl pa pc = ⟨[.int .i64 i0, .slice pa' pn' pc', .int .i64 i2, .int .i64 i3, .int .i64 i4, .int .i64 i5], ok, z, R'⟩ ∧ wholeE R k pl = (⟨(wholeE R k pl).1.ev, ok, z⟩, R') ∧
    ∀ B w, Sl w pa pl.length pc (bv pl) → (∀ ad, pa = some ad → B ≤ ad.block) → EvAt B w (wholeE R k pl).1.ev [.int .i64 i0, .slice pa' pn' pc', .int .i64 i2, .int .i64 i3, .int .i64 i4, .int .i64 i5] := by
  unfold wholeV wholeE
  split
  · exact ⟨_, _, _, _, _, _, _, _, _, _, _, rfl, rfl, fun B w h hb => ⟨pa, pc, rfl, h, hb⟩⟩
  · split
    · split
      · exact ⟨_, _, _, _, _, _, _, _, _, _, _, rfl, rfl, fun B w h hb => EvAt.none rfl⟩
      · exact ⟨_, _, _, _, _, _, _, _, _, _, _, rfl, rfl, fun B w h hb => EvAt.none (e := Go.Proofs.Ytbplmnmkgkgkhaa.ev0) rfl⟩
    · split
      · exact ⟨_, _, _, _, _, _, _, _, _, _, _, rfl, rfl, fun B w h hb => EvAt.none rfl⟩
      · exact ⟨_, _, _, _, _, _, _, _, _, _, _, rfl, rfl, fun B w h hb => EvAt.none (e := Go.Proofs.Ytbplmnmkgkgkhaa.ev0) rfl⟩
theorem wrapS2 {m n k : Nat} (h : k = m + n) (hk : k ≤ 140737488351232) : RowKit.wrap64 ((m : Int) + (n : Int)) = (k : Int) := by unfold RowKit.wrap64; omega
theorem wrapS3 {m n k : Nat} (h : k = m + n) (hk : k ≤ 140737488351232) : IntKind.i64.wrap ((m : Int) + (n : Int)) = (k : Int) := by rw [IntKind.wrap_i64]; omega
theorem wrapD2 {m n : Nat} (hk : m ≤ 140737488351232) (h : n ≤ m) : RowKit.wrap64 ((m : Int) - (n : Int)) = (m : Int) - (n : Int) := by unfold RowKit.wrap64; omega
theorem wrapD3 {m n : Nat} (hk : m ≤ 140737488351232) (h : n ≤ m) : IntKind.i64.wrap ((m : Int) - (n : Int)) = (m : Int) - (n : Int) := by rw [IntKind.wrap_i64]; omega
theorem chk_heads {R : Rd} {s : Int} (h : chk R 1 s = 0) : R.heads < 2 := by
  by_cases h2 : R.heads < 2
  · exact h2
  · exfalso
    have e : (okMost R 1).1 = false := by
      unfold okMost
      rw [if_neg (by decide), if_pos rfl]
      simp [h2]
    unfold chk at h
    rw [if_pos e] at h
    split at h
    · cases h
    · split at h <;> cases h
theorem drew_set1 (w : World) (ad : Addr) (v : Value) : (w.setCell ad v).drew = w.drew.setCell ad v := by unfold World.drew World.setCell; rfl
theorem drew_set6 (w : World) (eb : Nat) (v0 v1 v2 v3 v4 v5 : Value) : ((((((w.setCell ⟨eb, 0, none⟩ v0).setCell ⟨eb, 1, none⟩ v1).setCell ⟨eb, 2, none⟩ v2).setCell ⟨eb, 3, none⟩ v3).setCell ⟨eb, 4, none⟩ v4).setCell ⟨eb, 5, none⟩ v5).drew = ((((((w.drew.setCell ⟨eb, 0, none⟩ v0).setCell ⟨eb, 1, none⟩ v1).setCell ⟨eb, 2, none⟩ v2).setCell ⟨eb, 3, none⟩ v3).setCell ⟨eb, 4, none⟩ v4).setCell ⟨eb, 5, none⟩ v5) := by rw [drew_set1, drew_set1, drew_set1, drew_set1, drew_set1, drew_set1]
/-- an event that tells nothing, in the variable -/
theorem EvAt.ev0 {B : Nat} {w : World} : EvAt B w Go.Proofs.Ytbplmnmkgkgkhaa.ev0 [.int .i64 0, .slice Option.none 0 0, .int .i64 0, .int .i64 0, .int .i64 0, .int .i64 0] := EvAt.none (e := Go.Proofs.Ytbplmnmkgkgkhaa.ev0) rfl

set_option maxRecDepth 100000 in
set_option maxHeartbeats 20000000 in
theorem next_any (w : World) {g : Nat} {R0 : Rd} {ba : Option Addr} {bc : Nat} (hR : RB w g R0 ba bc) (hlen : R0.b.length ≤ 140737488351232) (hheads : 0 ≤ R0.heads) (hleft : R0.left < 4611686018427387904) :
    Calls Try.prog 21 #[.pointer (some ⟨g, 0, none⟩)] w (NextP w g ba (nextV (R0.b.length + 1) R0)) := by
  obtain ⟨N, hN⟩ : ∃ N, N = nextV (R0.b.length + 1) R0 := ⟨_, rfl⟩
  rw [← hN]
  obtain ⟨w1, hw1⟩ : ∃ w1, w1 = w.alloc (.cells #[.int .i64 0, .slice none 0 0, .int .i64 0, .int .i64 0, .int .i64 0, .int .i64 0] 32) := ⟨_, rfl⟩
  have hal : Below w.heap.size w w1 := by rw [hw1]; exact (Below.refl _ _).alloc (Nat.le_refl _) _
  have Hst : Hid (NRel w w1 g ba N) := Lib.hid ⟨R0, _, ba, bc, ⟨hR.below hal, fun ad ha => ⟨ad, ha, rfl⟩, by rw [hw1]; exact Has.new _ _ _, Kept.of_below hal, hN.symm, Nat.lt_succ_self _, hlen, hheads, hleft, fun ad ha => hR.row.lt ad ha, hR.has.lt⟩⟩
  obtain ⟨eb, heb⟩ : ∃ eb, eb = w.heap.size := ⟨_, rfl⟩
  have HEb := Lib.hid heb
  clear hal hR hlen hheads hleft hN heb
  go_enter Try.func21, Try.ntmps21
  go_wp2_with fail
  rw [← hw1, ← HEb.out]
  clear hw1
  go_loopw [3] (fun v wr => v = .bool false ∧ NRel w wr g ba N) (fun _ wr => lenW wr g)
  case atStart => exact ⟨rfl, Hst.out⟩
  case round =>
    obtain ⟨rfl, R, k, a, c, hNR⟩ := hrel
    have HNR := Lib.hid hNR
    have c5 := hNR.rb.has.cell 5 rfl
    have c8 := hNR.rb.has.cell 8 rfl
    have c2 := hNR.rb.has.cell 2 rfl
    have hgeb : g < eb := by have := hNR.glt; have := HEb.out; omega
    have hne : ∀ ad, a = some ad → ad.block < eb := fun ad ha => by
      obtain ⟨ad0, h0, h1⟩ := hNR.same ad ha
      have := hNR.low ad0 h0
      have := HEb.out
      omega
    have HE : Hid (Has wr eb 32 evz) := Lib.hid (by rw [HEb.out]; exact hNR.ev)
    clear hNR Hst
    obtain ⟨f, hf⟩ : ∃ f, f = R.fault := ⟨_, rfl⟩
    rw [← hf] at c5
    by_cases hf0 : f = 0
    · subst hf0
      obtain ⟨lf, hlf⟩ : ∃ lf, lf = R.left := ⟨_, rfl⟩
      rw [← hlf] at c8
      obtain ⟨n, hn⟩ : ∃ n, n = R.b.length := ⟨_, rfl⟩
      rw [← hn] at c2
      by_cases hl0 : 0 < lf
      · have lfb : (0 : Int) < (lf : Int) := by omega
        have HSame := Lib.hid HNR.out.same
        by_cases hn0 : n = 0
        · subst hn0
          have hs : stepV R = (some (say (waitR R).1), (waitR R).2) := by
            unfold stepV
            rw [if_neg (by rw [← hf]; simp), if_pos (by rw [← hlf]; exact hl0), if_pos (List.eq_nil_of_length_eq_zero hn.symm)]
          have HNN := Lib.hid (HNR.out.some hs)
          have hbd : Below wr.heap.size wr wr.drew := below_drewN (Below.refl wr.heap.size wr) 1
          have HV := Lib.hid (wait_any wr.drew (HNR.out.rb.below hbd))
          have HK7 := Lib.hid (HNR.out.kept.trans (Kept.of_below (X := fun k => k = g) hbd) (fun _ _ h => h))
          have HE7 := Lib.hid (HE.out.kept (Kept.of_below (X := none') hbd) (fun h => h))
          have d8 : wr.drew.cell? ⟨g, 8, none⟩ = some (.int .i64 (lf : Int)) := c8
          have d2 : wr.drew.cell? ⟨g, 2, none⟩ = some (.slice a 0 c) := c2
          have lfn : ¬ (lf : Int) ≤ 0 := by omega
          clear hs hf hlf hn hl0 hbd
          go_wp2_with fail
          refine Mx.region [] (fun w' => w'.cell? ⟨g, 8, none⟩ = some (.int .i64 (lf : Int)) ∧ w'.cell? ⟨g, 2, none⟩ = some (.slice a 0 c)) (by kernel_rfl) (by kernel_rfl) ⟨d8, d2⟩ ?_
          repeat ((first | (refine Mx.skips (by kernel_rfl) ?_; go_big_quiet_skip) | (refine Mx.quietly rfl ?_; go_big_quiet_want; go_big_quiet_op; go_big_quiet_on)); refine Mx.done ?_)
          refine Mx.cell ⟨g, 8, none⟩ (.int .i64 (lf : Int)) (by kernel_rfl) (by kernel_rfl) (by kernel_rfl) Try.isAgg3 (fun w' h => h.1) ?_
          go_big_quiet_want; go_big_quiet_op; go_big_quiet_on; refine Mx.done ?_
          repeat ((first | (refine Mx.skips (by kernel_rfl) ?_; go_big_quiet_skip) | (refine Mx.quietly rfl ?_; go_big_quiet_want; go_big_quiet_op; go_big_quiet_on)); refine Mx.done ?_)
          refine Mx.cell ⟨g, 2, none⟩ (.slice a 0 c) (by kernel_rfl) (by kernel_rfl) (by kernel_rfl) Try.isAgg22 (fun w' h => h.2) ?_
          go_big_quiet_want; go_big_quiet_op; go_big_quiet_on; refine Mx.done ?_
          repeat ((first | (refine Mx.skips (by kernel_rfl) ?_; go_big_quiet_skip) | (refine Mx.quietly rfl ?_; go_big_quiet_want; go_big_quiet_op; go_big_quiet_on)); refine Mx.done ?_)
          refine Mx.nil ?_
          go_wp2_with fail
          refine HV.out.mono ?_
          rintro e w8 ⟨rfl, hk8, hR8⟩
          have hE8 := HE7.out.kept hk8 (by omega)
          have x0 := hE8.free 0
          have x1 := hE8.free 1
          have x2 := hE8.free 2
          have x3 := hE8.free 3
          have x4 := hE8.free 4
          have x5 := hE8.free 5
          have e0 := hE8.cell 0 rfl
          have e1 := hE8.cell 1 rfl
          have e2 := hE8.cell 2 rfl
          have e3 := hE8.cell 3 rfl
          have e4 := hE8.cell 4 rfl
          have e5 := hE8.cell 5 rfl
          have HK8 := Lib.hid (HK7.out.trans hk8 (fun _ _ h => h))
          have HR8 := Lib.hid hR8
          have HE8 := Lib.hid hE8
          clear hk8 hR8 hE8
          go_wp2
          refine bodyPost_ret (results_ev rfl _ rfl (HE8.out.ev0 _ _ _ _ _ _) rfl) rfl ?_
          rw [HNN.out]
          have hEb := HEb.out
          refine ⟨_, _, _, rfl, rfl, EvAt.ev0, HK8.out.trans (Kept.ev0 _ _ _ _ _ _ _ _) (fun k hk e => by omega), HR8.out.kept (Kept.ev0 _ _ _ _ _ _ _ _) (by omega) (fun ad ha => by have := hne ad ha; omega), HSame.out⟩
        · have hb0 : ¬ R.b = [] := fun h => hn0 (by rw [hn, h]; rfl)
          have nn1 : 0 < n := by omega
          have HLf := Lib.hid (show R.left = lf from hlf.symm)
          by_cases hA : lf ≤ n
          · have hA : lf ≤ n := hA
            have hdr : R.b.drop R.left = R.b.drop lf := by
              rw [← hlf]
            have htk : R.b.take R.left = R.b.take lf := by
              rw [← hlf]
            have hle : R.left - R.b.length = 0 := by omega
            have hmn : lf ≤ n := by omega
            have hnc : n ≤ c := by rw [hn]; exact HNR.out.rb.row.sl.cap_le
            have hcx : c ≤ maxLen := HNR.out.rb.row.sl.cap_max
            obtain ⟨a', ha'⟩ : ∃ a', a' = if c = lf then a else Option.map (fun x => x.add lf) a := ⟨_, rfl⟩
            have hbd : Below wr.heap.size wr wr.drew := below_drewN (Below.refl wr.heap.size wr) 1
            have HSl := Lib.hid (HNR.out.rb.below hbd).row.sl
            have HCl : Hid (Calls Try.prog 27 #[.slice a lf c] wr.drew fun e w' => ∃ a' c', e = .returned (.slice a' lf c') ∧ w'.ownsRow wr.drew.heap.size 5 1 (.slice a' lf c') lf (bv (R.b.take lf)) ∧ Below wr.drew.heap.size wr.drew w') := Lib.hid (clone_any wr.drew (by
              have := sl_take HSl.out (k := lf) (by omega)
              rw [show bv (R.b.take lf) = (bv R.b).take lf from by simp [bv, List.map_take]]; exact this) (by have := HNR.out.len; omega))
            have hlq : lf = (R.b.take R.left).length := by rw [htk, List.length_take]; omega
            have lfn : (lf : Int) ≤ (n : Int) := by omega
            have nz : ((lf : Int) == 0) = false := by simp; omega
            have nz2 : ¬ (lf : Int) = 0 := by omega
            have HMin := Lib.hid (show min (lf : Int) (n : Int) = (lf : Int) from by omega)
            have HN0 := Lib.hid hn
            have HDr := Lib.hid hdr
            have HTk := Lib.hid htk
            have HLe := Lib.hid hle
            have HLq := Lib.hid hlq
            have HA' := Lib.hid ha'
            have d8 : wr.drew.cell? ⟨g, 8, none⟩ = some (.int .i64 (lf : Int)) := c8
            have d2 : wr.drew.cell? ⟨g, 2, none⟩ = some (.slice a n c) := c2
            cases hpass : R.passing with
            | true =>
              have hs : stepV R = (none, { R with b := R.b.drop R.left, left := R.left - R.b.length }) := by
                unfold stepV
                rw [if_neg (by rw [← hf]; simp), if_pos (by rw [← hlf]; exact hl0), if_neg hb0, if_pos hpass]
              have HP := Lib.hid hpass
              have HS := Lib.hid hs
              have HNZ := Lib.hid (show 0 < lf from by omega)
              have HAA := Lib.hid hA
              clear hs hpass hf hlf hn hl0 hbd hdr htk hle ha' hlq hb0 hn0 lfb nn1
              go_wp2_with fail
              refine Mx.region [] (fun w' => w'.cell? ⟨g, 8, none⟩ = some (.int .i64 (lf : Int)) ∧ w'.cell? ⟨g, 2, none⟩ = some (.slice a n c)) (by kernel_rfl) (by kernel_rfl) ⟨d8, d2⟩ ?_
              repeat ((first | (refine Mx.skips (by kernel_rfl) ?_; go_big_quiet_skip) | (refine Mx.quietly rfl ?_; go_big_quiet_want; go_big_quiet_op; go_big_quiet_on)); refine Mx.done ?_)
              refine Mx.cell ⟨g, 8, none⟩ (.int .i64 (lf : Int)) (by kernel_rfl) (by kernel_rfl) (by kernel_rfl) Try.isAgg3 (fun w' h => h.1) ?_
              go_big_quiet_want; go_big_quiet_op; go_big_quiet_on; refine Mx.done ?_
              repeat ((first | (refine Mx.skips (by kernel_rfl) ?_; go_big_quiet_skip) | (refine Mx.quietly rfl ?_; go_big_quiet_want; go_big_quiet_op; go_big_quiet_on)); refine Mx.done ?_)
              refine Mx.cell ⟨g, 2, none⟩ (.slice a n c) (by kernel_rfl) (by kernel_rfl) (by kernel_rfl) Try.isAgg22 (fun w' h => h.2) ?_
              go_big_quiet_want; go_big_quiet_op; go_big_quiet_on; refine Mx.done ?_
              repeat ((first | (refine Mx.skips (by kernel_rfl) ?_; go_big_quiet_skip) | (refine Mx.quietly rfl ?_; go_big_quiet_want; go_big_quiet_op; go_big_quiet_on)); refine Mx.done ?_)
              refine Mx.nil ?_
              rw [HMin.out]
              go_wp2_with fail
              refine HCl.out.mono ?_
              rintro e w6 ⟨a6, c6, rfl, ho6, hb6⟩
              have hbw : Below wr.heap.size wr w6 := (below_drewN (Below.refl wr.heap.size wr) 1).trans hb6
              have hR6 := HNR.out.rb.below hbw
              have hE6 : Has w6 eb 32 evz := HE.out.kept (Kept.of_below (X := none') hbw) (fun h => h)
              have q1 := hR6.cut HN0.out hmn a' HA'.out rfl
              skip
              have q2 := q1.set 8 (.int .i64 0) (R' := { R with b := R.b.drop R.left, left := R.left - R.b.length }) (by rw [HLe.out, HDr.out]; rfl) HDr.out
              have kk : Kept (fun k => k = g) w6 ((w6.setCell ⟨g, 2, none⟩ (.slice a' (n - lf) (c - lf))).setCell ⟨g, 8, none⟩ (.int .i64 0)).drew := ((Kept.set _ g 2 _).trans (Kept.set _ g 8 _) (fun _ _ h => h)).trans (Kept.drew none' _) (fun _ _ h => h.elim)
              have q3 := q2.kept (Kept.drew none' _) (fun h => h) (fun _ _ h => h)
              have hE7 := hE6.kept kk (by omega)
              have hS6 := (own_sl ho6).kept kk (fun ad ha e => by
                have h1 := ownsRow_ge ho6 ad ha
                have h2 := HNR.out.rb.has.lt
                have h3 : wr.drew.heap.size = wr.heap.size := rfl
                omega)
              have hge : ∀ ad, a6 = some ad → eb < ad.block := fun ad ha => by
                have h1 := ownsRow_ge ho6 ad ha
                have h2 := HE.out.lt
                have h3 : wr.drew.heap.size = wr.heap.size := rfl
                omega
              have HK7 := Lib.hid ((Kept.of_below (X := fun k => k = g) hbw).trans kk (fun _ _ h => h))
              have HR7 := Lib.hid q3
              have HE7 := Lib.hid hE7
              have HS7 := Lib.hid hS6
              have HGe := Lib.hid hge
              have s8 : w6.drew.cell? ⟨g, 8, none⟩ = some (.int .i64 (lf : Int)) := by rw [← HLf.out]; exact hR6.has.cell 8 rfl
              have s2 : w6.cell? ⟨g, 2, none⟩ = some (.slice a n c) := by rw [HN0.out]; exact hR6.has.cell 2 rfl
              have s2d : w6.drew.cell? ⟨g, 2, none⟩ = some (.slice a n c) := s2
              have HR6 := Lib.hid hR6
              have HQ1 := Lib.hid q1
              clear q1 q2 q3 kk hE6 hE7 hS6 hge hbw hb6 ho6 hR6
              go_upto_region 7 with fail
              refine Mx.regionZ [54] (fun w' => w'.cell? ⟨g, 8, none⟩ = some (.int .i64 (lf : Int))) (by kernel_rfl) (by kernel_rfl) s8 ?_
              repeat ((first | (refine Mx.skips (by kernel_rfl) ?_; go_big_quiet_skip) | (refine Mx.quietly rfl ?_; go_big_quiet_want; go_big_quiet_op; go_big_quiet_on)); refine Mx.done ?_)
              refine Mx.loudly (by kernel_rfl) (by kernel_rfl) ?_
              go_wp2_with fail
              repeat ((first | (refine Mx.skips (by kernel_rfl) ?_; go_big_quiet_skip) | (refine Mx.quietly rfl ?_; go_big_quiet_want; go_big_quiet_op; go_big_quiet_on)); refine Mx.done ?_)
              refine Mx.cell ⟨g, 8, none⟩ (.int .i64 (lf : Int)) (by kernel_rfl) (by kernel_rfl) (by kernel_rfl) Try.isAgg3 (fun w' h => h) ?_
              go_big_quiet_want; go_big_quiet_op; go_big_quiet_on; refine Mx.done ?_
              repeat ((first | (refine Mx.skips (by kernel_rfl) ?_; go_big_quiet_skip) | (refine Mx.quietly rfl ?_; go_big_quiet_want; go_big_quiet_op; go_big_quiet_on)); refine Mx.done ?_)

              try rw [← HA'.out]
              have f2 := HR6.out.has.free 2
              have s8n : ((w6.setCell ⟨g, 2, none⟩ (.slice a' (n - lf) (c - lf))).drew).cell? ⟨g, 8, none⟩ = some (.int .i64 (lf : Int)) := by
                have e : (w6.setCell ⟨g, 2, none⟩ (.slice a' (n - lf) (c - lf))).cell? ⟨g, 8, none⟩ = some (.int .i64 (R.left : Int)) := HQ1.out.has.cell 8 rfl
                rw [HLf.out] at e; exact e
              refine Mx.loudly (by kernel_rfl) (by kernel_rfl) ?_
              go_wp2_with fail
              try rw [← HA'.out]
              clear f2 s2 s2d s8
              have f8 := HQ1.out.has.free 8
              repeat ((first | (refine Mx.skips (by kernel_rfl) ?_; go_big_quiet_skip) | (refine Mx.quietly rfl ?_; go_big_quiet_want; go_big_quiet_op; go_big_quiet_on)); refine Mx.done ?_)

              refine Mx.atLast (by kernel_rfl) (by kernel_rfl) ?_
              go_upto_region 8 with fail
              clear s8n f8
              generalize ((w6.setCell ⟨g, 2, none⟩ (.slice a' (n - lf) (c - lf))).setCell ⟨g, 8, none⟩ (.int .i64 0)).drew = w7 at *
              have c9 := HR7.out.has.cell 9 rfl
              try simp only [HP.out] at c9
              have HF := Lib.hid (HNR.out.next HS.out HR7.out HK7.out (cut_same HA'.out) HNR.out.heads (by have := HNR.out.left; have := HLe.out; show R.left - R.b.length < _; omega))
              go_wp2_with fail
              go_roundw
              case rel => exact ⟨rfl, HF.out.1⟩
              case measure => exact HF.out.2
            | false =>
              have hs : stepV R = (some ⟨{ ev0 with kind := 2, data := R.b.take R.left }, true, 0⟩, { R with b := R.b.drop R.left, left := R.left - R.b.length }) := by
                unfold stepV
                rw [if_neg (by rw [← hf]; simp), if_pos (by rw [← hlf]; exact hl0), if_neg hb0, if_neg (by rw [hpass]; simp)]
              have HNN := Lib.hid (HNR.out.some hs)
              have HP := Lib.hid hpass
              have HS := Lib.hid hs
              have HNZ := Lib.hid (show 0 < lf from by omega)
              have HAA := Lib.hid hA
              clear hs hpass hf hlf hn hl0 hbd hdr htk hle ha' hlq hb0 hn0 lfb nn1
              go_wp2_with fail
              refine Mx.region [] (fun w' => w'.cell? ⟨g, 8, none⟩ = some (.int .i64 (lf : Int)) ∧ w'.cell? ⟨g, 2, none⟩ = some (.slice a n c)) (by kernel_rfl) (by kernel_rfl) ⟨d8, d2⟩ ?_
              repeat ((first | (refine Mx.skips (by kernel_rfl) ?_; go_big_quiet_skip) | (refine Mx.quietly rfl ?_; go_big_quiet_want; go_big_quiet_op; go_big_quiet_on)); refine Mx.done ?_)
              refine Mx.cell ⟨g, 8, none⟩ (.int .i64 (lf : Int)) (by kernel_rfl) (by kernel_rfl) (by kernel_rfl) Try.isAgg3 (fun w' h => h.1) ?_
              go_big_quiet_want; go_big_quiet_op; go_big_quiet_on; refine Mx.done ?_
              repeat ((first | (refine Mx.skips (by kernel_rfl) ?_; go_big_quiet_skip) | (refine Mx.quietly rfl ?_; go_big_quiet_want; go_big_quiet_op; go_big_quiet_on)); refine Mx.done ?_)
              refine Mx.cell ⟨g, 2, none⟩ (.slice a n c) (by kernel_rfl) (by kernel_rfl) (by kernel_rfl) Try.isAgg22 (fun w' h => h.2) ?_
              go_big_quiet_want; go_big_quiet_op; go_big_quiet_on; refine Mx.done ?_
              repeat ((first | (refine Mx.skips (by kernel_rfl) ?_; go_big_quiet_skip) | (refine Mx.quietly rfl ?_; go_big_quiet_want; go_big_quiet_op; go_big_quiet_on)); refine Mx.done ?_)
              refine Mx.nil ?_
              rw [HMin.out]
              go_wp2_with fail
              refine HCl.out.mono ?_
              rintro e w6 ⟨a6, c6, rfl, ho6, hb6⟩
              have hbw : Below wr.heap.size wr w6 := (below_drewN (Below.refl wr.heap.size wr) 1).trans hb6
              have hR6 := HNR.out.rb.below hbw
              have hE6 : Has w6 eb 32 evz := HE.out.kept (Kept.of_below (X := none') hbw) (fun h => h)
              have q1 := hR6.cut HN0.out hmn a' HA'.out rfl
              skip
              have q2 := q1.set 8 (.int .i64 0) (R' := { R with b := R.b.drop R.left, left := R.left - R.b.length }) (by rw [HLe.out, HDr.out]; rfl) HDr.out
              have kk : Kept (fun k => k = g) w6 ((w6.setCell ⟨g, 2, none⟩ (.slice a' (n - lf) (c - lf))).setCell ⟨g, 8, none⟩ (.int .i64 0)).drew := ((Kept.set _ g 2 _).trans (Kept.set _ g 8 _) (fun _ _ h => h)).trans (Kept.drew none' _) (fun _ _ h => h.elim)
              have q3 := q2.kept (Kept.drew none' _) (fun h => h) (fun _ _ h => h)
              have hE7 := hE6.kept kk (by omega)
              have hS6 := (own_sl ho6).kept kk (fun ad ha e => by
                have h1 := ownsRow_ge ho6 ad ha
                have h2 := HNR.out.rb.has.lt
                have h3 : wr.drew.heap.size = wr.heap.size := rfl
                omega)
              have hge : ∀ ad, a6 = some ad → eb < ad.block := fun ad ha => by
                have h1 := ownsRow_ge ho6 ad ha
                have h2 := HE.out.lt
                have h3 : wr.drew.heap.size = wr.heap.size := rfl
                omega
              have HK7 := Lib.hid ((Kept.of_below (X := fun k => k = g) hbw).trans kk (fun _ _ h => h))
              have HR7 := Lib.hid q3
              have HE7 := Lib.hid hE7
              have HS7 := Lib.hid hS6
              have HGe := Lib.hid hge
              have s8 : w6.drew.cell? ⟨g, 8, none⟩ = some (.int .i64 (lf : Int)) := by rw [← HLf.out]; exact hR6.has.cell 8 rfl
              have s2 : w6.cell? ⟨g, 2, none⟩ = some (.slice a n c) := by rw [HN0.out]; exact hR6.has.cell 2 rfl
              have s2d : w6.drew.cell? ⟨g, 2, none⟩ = some (.slice a n c) := s2
              have HR6 := Lib.hid hR6
              have HQ1 := Lib.hid q1
              clear q1 q2 q3 kk hE6 hE7 hS6 hge hbw hb6 ho6 hR6
              go_upto_region 7 with fail
              refine Mx.regionZ [54] (fun w' => w'.cell? ⟨g, 8, none⟩ = some (.int .i64 (lf : Int))) (by kernel_rfl) (by kernel_rfl) s8 ?_
              repeat ((first | (refine Mx.skips (by kernel_rfl) ?_; go_big_quiet_skip) | (refine Mx.quietly rfl ?_; go_big_quiet_want; go_big_quiet_op; go_big_quiet_on)); refine Mx.done ?_)
              refine Mx.loudly (by kernel_rfl) (by kernel_rfl) ?_
              go_wp2_with fail
              repeat ((first | (refine Mx.skips (by kernel_rfl) ?_; go_big_quiet_skip) | (refine Mx.quietly rfl ?_; go_big_quiet_want; go_big_quiet_op; go_big_quiet_on)); refine Mx.done ?_)
              refine Mx.cell ⟨g, 8, none⟩ (.int .i64 (lf : Int)) (by kernel_rfl) (by kernel_rfl) (by kernel_rfl) Try.isAgg3 (fun w' h => h) ?_
              go_big_quiet_want; go_big_quiet_op; go_big_quiet_on; refine Mx.done ?_
              repeat ((first | (refine Mx.skips (by kernel_rfl) ?_; go_big_quiet_skip) | (refine Mx.quietly rfl ?_; go_big_quiet_want; go_big_quiet_op; go_big_quiet_on)); refine Mx.done ?_)

              try rw [← HA'.out]
              have f2 := HR6.out.has.free 2
              have s8n : ((w6.setCell ⟨g, 2, none⟩ (.slice a' (n - lf) (c - lf))).drew).cell? ⟨g, 8, none⟩ = some (.int .i64 (lf : Int)) := by
                have e : (w6.setCell ⟨g, 2, none⟩ (.slice a' (n - lf) (c - lf))).cell? ⟨g, 8, none⟩ = some (.int .i64 (R.left : Int)) := HQ1.out.has.cell 8 rfl
                rw [HLf.out] at e; exact e
              refine Mx.loudly (by kernel_rfl) (by kernel_rfl) ?_
              go_wp2_with fail
              try rw [← HA'.out]
              clear f2 s2 s2d s8
              have f8 := HQ1.out.has.free 8
              repeat ((first | (refine Mx.skips (by kernel_rfl) ?_; go_big_quiet_skip) | (refine Mx.quietly rfl ?_; go_big_quiet_want; go_big_quiet_op; go_big_quiet_on)); refine Mx.done ?_)

              refine Mx.atLast (by kernel_rfl) (by kernel_rfl) ?_
              go_upto_region 8 with fail
              clear s8n f8
              generalize ((w6.setCell ⟨g, 2, none⟩ (.slice a' (n - lf) (c - lf))).setCell ⟨g, 8, none⟩ (.int .i64 0)).drew = w7 at *
              have c9 := HR7.out.has.cell 9 rfl
              try simp only [HP.out] at c9
              have x0 := HE7.out.free 0
              have x1 := HE7.out.free 1
              have x2 := HE7.out.free 2
              have x3 := HE7.out.free 3
              have x4 := HE7.out.free 4
              have x5 := HE7.out.free 5
              have e0 := HE7.out.cell 0 rfl
              have e1 := HE7.out.cell 1 rfl
              have e2 := HE7.out.cell 2 rfl
              have e3 := HE7.out.cell 3 rfl
              have e4 := HE7.out.cell 4 rfl
              have e5 := HE7.out.cell 5 rfl
              go_wp2
              refine bodyPost_ret (results_ev rfl _ rfl (HE7.out.ev0 _ _ _ _ _ _) rfl) rfl ?_
              rw [HNN.out]
              have hEb := HEb.out
              refine ⟨_, _, _, rfl, rfl, ?_, (HNR.out.kept.trans HK7.out (fun _ _ h => h)).trans (Kept.ev0 _ _ _ _ _ _ _ _) (fun k hk e => by omega), HR7.out.kept (Kept.ev0 _ _ _ _ _ _ _ _) (by omega) (fun ad ha => by
                obtain ⟨ad1, h1, h2⟩ := cut_same HA'.out ad ha
                have := hne ad1 h1; omega), fun ad ha => by
                obtain ⟨ad1, h1, h2⟩ := cut_same HA'.out ad ha
                obtain ⟨ad2, h3, h4⟩ := HSame.out ad1 h1
                exact ⟨ad2, h3, by omega⟩⟩
              refine ⟨a6, c6, ?_, ?_, fun ad ha => by have := HGe.out ad ha; omega⟩
              · show _ = [_, Value.slice a6 (R.b.take R.left).length c6, _, _, _, _]
                rw [← HLq.out]; rfl
              · show Sl _ a6 (R.b.take R.left).length c6 (bv (R.b.take R.left))
                rw [← HLq.out, HTk.out]
                exact HS7.out.kept (Kept.ev0 _ _ _ _ _ _ _ _) (fun ad ha e => by have := HGe.out ad ha; omega)
          · have hA : n < lf := by omega
            have hdr : R.b.drop R.left = R.b.drop n := by
              rw [List.drop_of_length_le (by omega), List.drop_of_length_le (by omega)]
            have htk : R.b.take R.left = R.b.take n := by
              rw [List.take_of_length_le (by omega), List.take_of_length_le (by omega)]
            have hle : R.left - R.b.length = lf - n := by rw [← hlf, ← hn]
            have hmn : n ≤ n := by omega
            have hnc : n ≤ c := by rw [hn]; exact HNR.out.rb.row.sl.cap_le
            have hcx : c ≤ maxLen := HNR.out.rb.row.sl.cap_max
            obtain ⟨a', ha'⟩ : ∃ a', a' = if c = n then a else Option.map (fun x => x.add n) a := ⟨_, rfl⟩
            have hbd : Below wr.heap.size wr wr.drew := below_drewN (Below.refl wr.heap.size wr) 1
            have HSl := Lib.hid (HNR.out.rb.below hbd).row.sl
            have HCl : Hid (Calls Try.prog 27 #[.slice a n c] wr.drew fun e w' => ∃ a' c', e = .returned (.slice a' n c') ∧ w'.ownsRow wr.drew.heap.size 5 1 (.slice a' n c') n (bv (R.b.take n)) ∧ Below wr.drew.heap.size wr.drew w') := Lib.hid (clone_any wr.drew (by
              have := sl_take HSl.out (k := n) (by omega)
              rw [show bv (R.b.take n) = (bv R.b).take n from by simp [bv, List.map_take]]; exact this) (by have := HNR.out.len; omega))
            have hlq : n = (R.b.take R.left).length := by rw [htk, List.length_take]; omega
            have lfn : ¬ (lf : Int) ≤ (n : Int) := by omega
            have lfw : IntKind.i64.wrap ((lf : Int) - (n : Int)) = ((lf - n : Nat) : Int) := by rw [IntKind.wrap_i64]; have := HNR.out.left; omega
            have lfv : RowKit.wrap64 ((lf : Int) - (n : Int)) = ((lf - n : Nat) : Int) := by unfold RowKit.wrap64; have := HNR.out.left; omega
            have nz : ((n : Int) == 0) = false := by simp; omega
            have nz2 : ¬ (n : Int) = 0 := by omega
            have HMin := Lib.hid (show min (lf : Int) (n : Int) = (n : Int) from by omega)
            have HN0 := Lib.hid hn
            have HDr := Lib.hid hdr
            have HTk := Lib.hid htk
            have HLe := Lib.hid hle
            have HLq := Lib.hid hlq
            have HA' := Lib.hid ha'
            have d8 : wr.drew.cell? ⟨g, 8, none⟩ = some (.int .i64 (lf : Int)) := c8
            have d2 : wr.drew.cell? ⟨g, 2, none⟩ = some (.slice a n c) := c2
            cases hpass : R.passing with
            | true =>
              have hs : stepV R = (none, { R with b := R.b.drop R.left, left := R.left - R.b.length }) := by
                unfold stepV
                rw [if_neg (by rw [← hf]; simp), if_pos (by rw [← hlf]; exact hl0), if_neg hb0, if_pos hpass]
              have HP := Lib.hid hpass
              have HS := Lib.hid hs
              have HNZ := Lib.hid (show 0 < n from by omega)
              have HAA := Lib.hid hA
              clear hs hpass hf hlf hn hl0 hbd hdr htk hle ha' hlq hb0 hn0 lfb nn1
              go_wp2_with fail
              refine Mx.region [] (fun w' => w'.cell? ⟨g, 8, none⟩ = some (.int .i64 (lf : Int)) ∧ w'.cell? ⟨g, 2, none⟩ = some (.slice a n c)) (by kernel_rfl) (by kernel_rfl) ⟨d8, d2⟩ ?_
              repeat ((first | (refine Mx.skips (by kernel_rfl) ?_; go_big_quiet_skip) | (refine Mx.quietly rfl ?_; go_big_quiet_want; go_big_quiet_op; go_big_quiet_on)); refine Mx.done ?_)
              refine Mx.cell ⟨g, 8, none⟩ (.int .i64 (lf : Int)) (by kernel_rfl) (by kernel_rfl) (by kernel_rfl) Try.isAgg3 (fun w' h => h.1) ?_
              go_big_quiet_want; go_big_quiet_op; go_big_quiet_on; refine Mx.done ?_
              repeat ((first | (refine Mx.skips (by kernel_rfl) ?_; go_big_quiet_skip) | (refine Mx.quietly rfl ?_; go_big_quiet_want; go_big_quiet_op; go_big_quiet_on)); refine Mx.done ?_)
              refine Mx.cell ⟨g, 2, none⟩ (.slice a n c) (by kernel_rfl) (by kernel_rfl) (by kernel_rfl) Try.isAgg22 (fun w' h => h.2) ?_
              go_big_quiet_want; go_big_quiet_op; go_big_quiet_on; refine Mx.done ?_
              repeat ((first | (refine Mx.skips (by kernel_rfl) ?_; go_big_quiet_skip) | (refine Mx.quietly rfl ?_; go_big_quiet_want; go_big_quiet_op; go_big_quiet_on)); refine Mx.done ?_)
              refine Mx.nil ?_
              rw [HMin.out]
              go_wp2_with fail
              refine HCl.out.mono ?_
              rintro e w6 ⟨a6, c6, rfl, ho6, hb6⟩
              have hbw : Below wr.heap.size wr w6 := (below_drewN (Below.refl wr.heap.size wr) 1).trans hb6
              have hR6 := HNR.out.rb.below hbw
              have hE6 : Has w6 eb 32 evz := HE.out.kept (Kept.of_below (X := none') hbw) (fun h => h)
              have q1 := hR6.cut HN0.out hmn a' HA'.out rfl
              simp only [Nat.sub_self] at q1
              have q2 := q1.set 8 (.int .i64 ((lf - n : Nat) : Int)) (R' := { R with b := R.b.drop R.left, left := R.left - R.b.length }) (by rw [HLe.out, HDr.out]; rfl) HDr.out
              have kk : Kept (fun k => k = g) w6 ((w6.setCell ⟨g, 2, none⟩ (.slice a' 0 (c - n))).setCell ⟨g, 8, none⟩ (.int .i64 ((lf - n : Nat) : Int))).drew := ((Kept.set _ g 2 _).trans (Kept.set _ g 8 _) (fun _ _ h => h)).trans (Kept.drew none' _) (fun _ _ h => h.elim)
              have q3 := q2.kept (Kept.drew none' _) (fun h => h) (fun _ _ h => h)
              have hE7 := hE6.kept kk (by omega)
              have hS6 := (own_sl ho6).kept kk (fun ad ha e => by
                have h1 := ownsRow_ge ho6 ad ha
                have h2 := HNR.out.rb.has.lt
                have h3 : wr.drew.heap.size = wr.heap.size := rfl
                omega)
              have hge : ∀ ad, a6 = some ad → eb < ad.block := fun ad ha => by
                have h1 := ownsRow_ge ho6 ad ha
                have h2 := HE.out.lt
                have h3 : wr.drew.heap.size = wr.heap.size := rfl
                omega
              have HK7 := Lib.hid ((Kept.of_below (X := fun k => k = g) hbw).trans kk (fun _ _ h => h))
              have HR7 := Lib.hid q3
              have HE7 := Lib.hid hE7
              have HS7 := Lib.hid hS6
              have HGe := Lib.hid hge
              have s8 : w6.drew.cell? ⟨g, 8, none⟩ = some (.int .i64 (lf : Int)) := by rw [← HLf.out]; exact hR6.has.cell 8 rfl
              have s2 : w6.cell? ⟨g, 2, none⟩ = some (.slice a n c) := by rw [HN0.out]; exact hR6.has.cell 2 rfl
              have s2d : w6.drew.cell? ⟨g, 2, none⟩ = some (.slice a n c) := s2
              have HR6 := Lib.hid hR6
              have HQ1 := Lib.hid q1
              clear q1 q2 q3 kk hE6 hE7 hS6 hge hbw hb6 ho6 hR6
              go_upto_region 7 with fail
              refine Mx.regionZ [54] (fun w' => w'.cell? ⟨g, 8, none⟩ = some (.int .i64 (lf : Int))) (by kernel_rfl) (by kernel_rfl) s8 ?_
              repeat ((first | (refine Mx.skips (by kernel_rfl) ?_; go_big_quiet_skip) | (refine Mx.quietly rfl ?_; go_big_quiet_want; go_big_quiet_op; go_big_quiet_on)); refine Mx.done ?_)
              refine Mx.loudly (by kernel_rfl) (by kernel_rfl) ?_
              go_wp2_with fail
              repeat ((first | (refine Mx.skips (by kernel_rfl) ?_; go_big_quiet_skip) | (refine Mx.quietly rfl ?_; go_big_quiet_want; go_big_quiet_op; go_big_quiet_on)); refine Mx.done ?_)
              refine Mx.cell ⟨g, 8, none⟩ (.int .i64 (lf : Int)) (by kernel_rfl) (by kernel_rfl) (by kernel_rfl) Try.isAgg3 (fun w' h => h) ?_
              go_big_quiet_want; go_big_quiet_op; go_big_quiet_on; refine Mx.done ?_
              repeat ((first | (refine Mx.skips (by kernel_rfl) ?_; go_big_quiet_skip) | (refine Mx.quietly rfl ?_; go_big_quiet_want; go_big_quiet_op; go_big_quiet_on)); refine Mx.done ?_)

              try rw [← HA'.out]
              have f2 := HR6.out.has.free 2
              have s8n : ((w6.setCell ⟨g, 2, none⟩ (.slice a' 0 (c - n))).drew).cell? ⟨g, 8, none⟩ = some (.int .i64 (lf : Int)) := by
                have e : (w6.setCell ⟨g, 2, none⟩ (.slice a' 0 (c - n))).cell? ⟨g, 8, none⟩ = some (.int .i64 (R.left : Int)) := HQ1.out.has.cell 8 rfl
                rw [HLf.out] at e; exact e
              refine Mx.loudly (by kernel_rfl) (by kernel_rfl) ?_
              go_wp2_with fail
              try rw [← HA'.out]
              clear f2 s2 s2d s8
              have f8 := HQ1.out.has.free 8
              repeat ((first | (refine Mx.skips (by kernel_rfl) ?_; go_big_quiet_skip) | (refine Mx.quietly rfl ?_; go_big_quiet_want; go_big_quiet_op; go_big_quiet_on)); refine Mx.done ?_)

              refine Mx.atLast (by kernel_rfl) (by kernel_rfl) ?_
              go_upto_region 8 with fail
              clear s8n f8
              generalize ((w6.setCell ⟨g, 2, none⟩ (.slice a' 0 (c - n))).setCell ⟨g, 8, none⟩ (.int .i64 ((lf - n : Nat) : Int))).drew = w7 at *
              have c9 := HR7.out.has.cell 9 rfl
              try simp only [HP.out] at c9
              have HF := Lib.hid (HNR.out.next HS.out HR7.out HK7.out (cut_same HA'.out) HNR.out.heads (by have := HNR.out.left; have := HLe.out; show R.left - R.b.length < _; omega))
              go_wp2_with fail
              go_roundw
              case rel => exact ⟨rfl, HF.out.1⟩
              case measure => exact HF.out.2
            | false =>
              have hs : stepV R = (some ⟨{ ev0 with kind := 2, data := R.b.take R.left }, true, 0⟩, { R with b := R.b.drop R.left, left := R.left - R.b.length }) := by
                unfold stepV
                rw [if_neg (by rw [← hf]; simp), if_pos (by rw [← hlf]; exact hl0), if_neg hb0, if_neg (by rw [hpass]; simp)]
              have HNN := Lib.hid (HNR.out.some hs)
              have HP := Lib.hid hpass
              have HS := Lib.hid hs
              have HNZ := Lib.hid (show 0 < n from by omega)
              have HAA := Lib.hid hA
              clear hs hpass hf hlf hn hl0 hbd hdr htk hle ha' hlq hb0 hn0 lfb nn1
              go_wp2_with fail
              refine Mx.region [] (fun w' => w'.cell? ⟨g, 8, none⟩ = some (.int .i64 (lf : Int)) ∧ w'.cell? ⟨g, 2, none⟩ = some (.slice a n c)) (by kernel_rfl) (by kernel_rfl) ⟨d8, d2⟩ ?_
              repeat ((first | (refine Mx.skips (by kernel_rfl) ?_; go_big_quiet_skip) | (refine Mx.quietly rfl ?_; go_big_quiet_want; go_big_quiet_op; go_big_quiet_on)); refine Mx.done ?_)
              refine Mx.cell ⟨g, 8, none⟩ (.int .i64 (lf : Int)) (by kernel_rfl) (by kernel_rfl) (by kernel_rfl) Try.isAgg3 (fun w' h => h.1) ?_
              go_big_quiet_want; go_big_quiet_op; go_big_quiet_on; refine Mx.done ?_
              repeat ((first | (refine Mx.skips (by kernel_rfl) ?_; go_big_quiet_skip) | (refine Mx.quietly rfl ?_; go_big_quiet_want; go_big_quiet_op; go_big_quiet_on)); refine Mx.done ?_)
              refine Mx.cell ⟨g, 2, none⟩ (.slice a n c) (by kernel_rfl) (by kernel_rfl) (by kernel_rfl) Try.isAgg22 (fun w' h => h.2) ?_
              go_big_quiet_want; go_big_quiet_op; go_big_quiet_on; refine Mx.done ?_
              repeat ((first | (refine Mx.skips (by kernel_rfl) ?_; go_big_quiet_skip) | (refine Mx.quietly rfl ?_; go_big_quiet_want; go_big_quiet_op; go_big_quiet_on)); refine Mx.done ?_)
              refine Mx.nil ?_
              rw [HMin.out]
              go_wp2_with fail
              refine HCl.out.mono ?_
              rintro e w6 ⟨a6, c6, rfl, ho6, hb6⟩
              have hbw : Below wr.heap.size wr w6 := (below_drewN (Below.refl wr.heap.size wr) 1).trans hb6
              have hR6 := HNR.out.rb.below hbw
              have hE6 : Has w6 eb 32 evz := HE.out.kept (Kept.of_below (X := none') hbw) (fun h => h)
              have q1 := hR6.cut HN0.out hmn a' HA'.out rfl
              simp only [Nat.sub_self] at q1
              have q2 := q1.set 8 (.int .i64 ((lf - n : Nat) : Int)) (R' := { R with b := R.b.drop R.left, left := R.left - R.b.length }) (by rw [HLe.out, HDr.out]; rfl) HDr.out
              have kk : Kept (fun k => k = g) w6 ((w6.setCell ⟨g, 2, none⟩ (.slice a' 0 (c - n))).setCell ⟨g, 8, none⟩ (.int .i64 ((lf - n : Nat) : Int))).drew := ((Kept.set _ g 2 _).trans (Kept.set _ g 8 _) (fun _ _ h => h)).trans (Kept.drew none' _) (fun _ _ h => h.elim)
              have q3 := q2.kept (Kept.drew none' _) (fun h => h) (fun _ _ h => h)
              have hE7 := hE6.kept kk (by omega)
              have hS6 := (own_sl ho6).kept kk (fun ad ha e => by
                have h1 := ownsRow_ge ho6 ad ha
                have h2 := HNR.out.rb.has.lt
                have h3 : wr.drew.heap.size = wr.heap.size := rfl
                omega)
              have hge : ∀ ad, a6 = some ad → eb < ad.block := fun ad ha => by
                have h1 := ownsRow_ge ho6 ad ha
                have h2 := HE.out.lt
                have h3 : wr.drew.heap.size = wr.heap.size := rfl
                omega
              have HK7 := Lib.hid ((Kept.of_below (X := fun k => k = g) hbw).trans kk (fun _ _ h => h))
              have HR7 := Lib.hid q3
              have HE7 := Lib.hid hE7
              have HS7 := Lib.hid hS6
              have HGe := Lib.hid hge
              have s8 : w6.drew.cell? ⟨g, 8, none⟩ = some (.int .i64 (lf : Int)) := by rw [← HLf.out]; exact hR6.has.cell 8 rfl
              have s2 : w6.cell? ⟨g, 2, none⟩ = some (.slice a n c) := by rw [HN0.out]; exact hR6.has.cell 2 rfl
              have s2d : w6.drew.cell? ⟨g, 2, none⟩ = some (.slice a n c) := s2
              have HR6 := Lib.hid hR6
              have HQ1 := Lib.hid q1
              clear q1 q2 q3 kk hE6 hE7 hS6 hge hbw hb6 ho6 hR6
              go_upto_region 7 with fail
              refine Mx.regionZ [54] (fun w' => w'.cell? ⟨g, 8, none⟩ = some (.int .i64 (lf : Int))) (by kernel_rfl) (by kernel_rfl) s8 ?_
              repeat ((first | (refine Mx.skips (by kernel_rfl) ?_; go_big_quiet_skip) | (refine Mx.quietly rfl ?_; go_big_quiet_want; go_big_quiet_op; go_big_quiet_on)); refine Mx.done ?_)
              refine Mx.loudly (by kernel_rfl) (by kernel_rfl) ?_
              go_wp2_with fail
              repeat ((first | (refine Mx.skips (by kernel_rfl) ?_; go_big_quiet_skip) | (refine Mx.quietly rfl ?_; go_big_quiet_want; go_big_quiet_op; go_big_quiet_on)); refine Mx.done ?_)
              refine Mx.cell ⟨g, 8, none⟩ (.int .i64 (lf : Int)) (by kernel_rfl) (by kernel_rfl) (by kernel_rfl) Try.isAgg3 (fun w' h => h) ?_
              go_big_quiet_want; go_big_quiet_op; go_big_quiet_on; refine Mx.done ?_
              repeat ((first | (refine Mx.skips (by kernel_rfl) ?_; go_big_quiet_skip) | (refine Mx.quietly rfl ?_; go_big_quiet_want; go_big_quiet_op; go_big_quiet_on)); refine Mx.done ?_)

              try rw [← HA'.out]
              have f2 := HR6.out.has.free 2
              have s8n : ((w6.setCell ⟨g, 2, none⟩ (.slice a' 0 (c - n))).drew).cell? ⟨g, 8, none⟩ = some (.int .i64 (lf : Int)) := by
                have e : (w6.setCell ⟨g, 2, none⟩ (.slice a' 0 (c - n))).cell? ⟨g, 8, none⟩ = some (.int .i64 (R.left : Int)) := HQ1.out.has.cell 8 rfl
                rw [HLf.out] at e; exact e
              refine Mx.loudly (by kernel_rfl) (by kernel_rfl) ?_
              go_wp2_with fail
              try rw [← HA'.out]
              clear f2 s2 s2d s8
              have f8 := HQ1.out.has.free 8
              repeat ((first | (refine Mx.skips (by kernel_rfl) ?_; go_big_quiet_skip) | (refine Mx.quietly rfl ?_; go_big_quiet_want; go_big_quiet_op; go_big_quiet_on)); refine Mx.done ?_)

              refine Mx.atLast (by kernel_rfl) (by kernel_rfl) ?_
              go_upto_region 8 with fail
              clear s8n f8
              generalize ((w6.setCell ⟨g, 2, none⟩ (.slice a' 0 (c - n))).setCell ⟨g, 8, none⟩ (.int .i64 ((lf - n : Nat) : Int))).drew = w7 at *
              have c9 := HR7.out.has.cell 9 rfl
              try simp only [HP.out] at c9
              have x0 := HE7.out.free 0
              have x1 := HE7.out.free 1
              have x2 := HE7.out.free 2
              have x3 := HE7.out.free 3
              have x4 := HE7.out.free 4
              have x5 := HE7.out.free 5
              have e0 := HE7.out.cell 0 rfl
              have e1 := HE7.out.cell 1 rfl
              have e2 := HE7.out.cell 2 rfl
              have e3 := HE7.out.cell 3 rfl
              have e4 := HE7.out.cell 4 rfl
              have e5 := HE7.out.cell 5 rfl
              go_wp2
              refine bodyPost_ret (results_ev rfl _ rfl (HE7.out.ev0 _ _ _ _ _ _) rfl) rfl ?_
              rw [HNN.out]
              have hEb := HEb.out
              refine ⟨_, _, _, rfl, rfl, ?_, (HNR.out.kept.trans HK7.out (fun _ _ h => h)).trans (Kept.ev0 _ _ _ _ _ _ _ _) (fun k hk e => by omega), HR7.out.kept (Kept.ev0 _ _ _ _ _ _ _ _) (by omega) (fun ad ha => by
                obtain ⟨ad1, h1, h2⟩ := cut_same HA'.out ad ha
                have := hne ad1 h1; omega), fun ad ha => by
                obtain ⟨ad1, h1, h2⟩ := cut_same HA'.out ad ha
                obtain ⟨ad2, h3, h4⟩ := HSame.out ad1 h1
                exact ⟨ad2, h3, by omega⟩⟩
              refine ⟨a6, c6, ?_, ?_, fun ad ha => by have := HGe.out ad ha; omega⟩
              · show _ = [_, Value.slice a6 (R.b.take R.left).length c6, _, _, _, _]
                rw [← HLq.out]; rfl
              · show Sl _ a6 (R.b.take R.left).length c6 (bv (R.b.take R.left))
                rw [← HLq.out, HTk.out]
                exact HS7.out.kept (Kept.ev0 _ _ _ _ _ _ _ _) (fun ad ha e => by have := HGe.out ad ha; omega)
      · obtain rfl : lf = 0 := by omega
        by_cases hn0 : n = 0
        · subst hn0
          have hs : stepV R = (some (say (overR R).1), (overR R).2) := by
            unfold stepV
            rw [if_neg (by rw [← hf]; simp), if_neg (by rw [← hlf]; simp), if_pos (List.eq_nil_of_length_eq_zero hn.symm)]
          have HNN := Lib.hid (HNR.out.some hs)
          have HV := Lib.hid (over_any wr HNR.out.rb)
          have HK7 := Lib.hid HNR.out.kept
          have HE7 := Lib.hid HE.out
          have HSame := Lib.hid HNR.out.same
          clear hs hf hlf hn hl0
          go_wp2_with fail
          refine HV.out.mono ?_
          rintro e w8 ⟨rfl, hk8, hR8⟩
          have hE8 := HE7.out.kept hk8 (by omega)
          have x0 := hE8.free 0
          have x1 := hE8.free 1
          have x2 := hE8.free 2
          have x3 := hE8.free 3
          have x4 := hE8.free 4
          have x5 := hE8.free 5
          have e0 := hE8.cell 0 rfl
          have e1 := hE8.cell 1 rfl
          have e2 := hE8.cell 2 rfl
          have e3 := hE8.cell 3 rfl
          have e4 := hE8.cell 4 rfl
          have e5 := hE8.cell 5 rfl
          have HK8 := Lib.hid (HK7.out.trans hk8 (fun _ _ h => h))
          have HR8 := Lib.hid hR8
          have HE8 := Lib.hid hE8
          clear hk8 hR8 hE8
          go_wp2
          refine bodyPost_ret (results_ev rfl _ rfl (HE8.out.ev0 _ _ _ _ _ _) rfl) rfl ?_
          rw [HNN.out]
          have hEb := HEb.out
          refine ⟨_, _, _, rfl, rfl, EvAt.ev0, HK8.out.trans (Kept.ev0 _ _ _ _ _ _ _ _) (fun k hk e => by omega), HR8.out.kept (Kept.ev0 _ _ _ _ _ _ _ _) (by omega) (fun ad ha => by have := hne ad ha; omega), HSame.out⟩
        · have hn1 : ¬ R.b = [] := fun h => hn0 (by rw [hn, h]; rfl)
          have nb : ((n : Int) == 0) = false := by simp; omega
          have nb2 : ¬ (n : Int) = 0 := by omega
          have hs0 : stepV R = if (getV R.b 0).2.2 ≠ 0 then (some (say (waitR R).1), (waitR R).2) else if (getV R.b (getV R.b 0).2.1).2.2 ≠ 0 then (some (say (waitR R).1), (waitR R).2) else frameV R (getV R.b 0).1 (getV R.b (getV R.b 0).2.1).1 (getV R.b (getV R.b 0).2.1).2.1 := by
            unfold stepV
            rw [if_neg (by rw [← hf]; simp), if_neg (by rw [← hlf]; simp), if_neg hn1]
          obtain ⟨g1, hg1⟩ : ∃ g1, g1 = getV R.b 0 := ⟨_, rfl⟩
          rw [← hg1] at hs0
          have HG : Hid (Calls Try.prog 29 #[.slice a n c, .int .i64 0] wr (Ret3N wr g1)) := Lib.hid (by rw [hg1, hn]; exact get_any wr HNR.out.rb.row.sl 0 (by decide))
          obtain ⟨k1, t1, z1⟩ := g1
          have HSame := Lib.hid HNR.out.same
          by_cases hz1 : z1 = 0
          · subst hz1
            rw [if_neg (by simp)] at hs0
            obtain ⟨g2, hg2⟩ : ∃ g2, g2 = getV R.b t1 := ⟨_, rfl⟩
            simp only [← hg2] at hs0
            have ht1 : t1 < 9223372036854775808 := by
              have h1 := getV_le R.b 0 (by rw [← hg1]) (Nat.zero_le _)
              rw [← hg1] at h1
              have h2 : t1 ≤ R.b.length := h1
              have := HNR.out.len
              omega
            have HG2 : Hid (∀ u, Below wr.heap.size wr u → Calls Try.prog 29 #[.slice a n c, .int .i64 (t1 : Int)] u (Ret3N u g2)) := Lib.hid (fun u hu => by rw [hg2, hn]; exact get_any u (HNR.out.rb.below hu).row.sl t1 ht1)
            obtain ⟨s1, t2, z2⟩ := g2
            have HN0 := Lib.hid hn
            by_cases hz2 : z2 = 0
            · subst hz2
              rw [if_neg (by simp)] at hs0
              have hs1 : stepV R = frameV R k1 s1 t2 := hs0
              obtain ⟨ck, hck⟩ : ∃ ck, ck = chk R (k1 : Int) (s1 : Int) := ⟨_, rfl⟩
              have HCk : Hid (∀ u, Below wr.heap.size wr u → Calls Try.prog 30 #[.pointer (some ⟨g, 0, none⟩), .int .i64 (k1 : Int), .int .i64 (s1 : Int)] u (IntOf u ck)) := Lib.hid (fun u hu => by rw [hck]; exact check_any u (HNR.out.rb.below hu) k1 s1)
              by_cases hck0 : ck = 0
              · subst hck0
                have ht2 : t2 ≤ n := by
                  have h1 := getV_le R.b t1 (by rw [← hg2]) (by
                    have h3 := getV_le R.b 0 (by rw [← hg1]) (Nat.zero_le _)
                    rw [← hg1] at h3
                    exact h3)
                  rw [← hg2] at h1
                  rw [hn]; exact h1
                by_cases hkd : k1 = 0 ∨ knoB (k1 : Int) = false
                · have hs1b : s1 < 4611686018427387904 := by have := getV_lt R.b t1; rw [← hg2] at this; exact this
                  have hnc : n ≤ c := by rw [HN0.out]; exact HNR.out.rb.row.sl.cap_le
                  have hcx : c ≤ maxLen := HNR.out.rb.row.sl.cap_max
                  obtain ⟨a', ha'⟩ : ∃ a', a' = if c = t2 then a else Option.map (fun x => x.add t2) a := ⟨_, rfl⟩
                  by_cases hk0 : k1 = 0
                  · as_aux_lemma =>
                      subst hk0
                      have hs : stepV R = (none, { R with b := R.b.drop t2, left := s1, passing := false }) := by
                        rw [hs1]; unfold frameV; rw [if_neg (by rw [← hck]; simp), if_pos hkd]; rfl
                      have HF : Hid (∀ u, Below wr.heap.size wr u → NRel w (((u.setCell ⟨g, 2, none⟩ (.slice a' (n - t2) (c - t2))).setCell ⟨g, 8, none⟩ (.int .i64 (s1 : Int))).setCell ⟨g, 9, none⟩ (.bool false)) g ba N ∧ lenW (((u.setCell ⟨g, 2, none⟩ (.slice a' (n - t2) (c - t2))).setCell ⟨g, 8, none⟩ (.int .i64 (s1 : Int))).setCell ⟨g, 9, none⟩ (.bool false)) g < lenW wr g) := Lib.hid (fun u hu => by
                        have h1 := (HNR.out.rb.below hu).cut HN0.out ht2 a' ha' rfl
                        have h2 := (h1.set 8 (.int .i64 (s1 : Int)) (R' := { R with b := R.b.drop t2, left := s1 }) rfl rfl).set 9 (.bool false) (R' := { R with b := R.b.drop t2, left := s1, passing := false }) rfl rfl
                        exact HNR.out.next hs h2 (((Kept.of_below (X := fun k => k = g) hu).trans (Kept.set _ g 2 _) (fun _ _ h => h)).trans (Kept.set _ g 8 _) (fun _ _ h => h) |>.trans (Kept.set _ g 9 _) (fun _ _ h => h)) (cut_same ha') HNR.out.heads hs1b)
                      clear hs hs0 hs1 hf hlf hn hl0 hn0 hn1 hg1 hg2 hck ht1 hkd
                      have ht2' := ht2
                      go_wp2_with fail
                      refine HG.out.mono ?_
                      rintro e w5 ⟨rfl, hb5⟩
                      have c2 : w5.cell? ⟨g, 2, none⟩ = some (.slice a n c) := by rw [HN0.out]; exact (HNR.out.rb.below hb5).has.cell 2 rfl
                      have HGG := Lib.hid (HG2.out w5 hb5)
                      have HB5 := Lib.hid hb5
                      clear hb5
                      go_wp2_with fail
                      refine HGG.out.mono ?_
                      rintro e w6 ⟨rfl, hb6⟩
                      have hb6 := HB5.out.trans (hb6.mono HB5.out.size)
                      have HCC := Lib.hid (HCk.out w6 hb6)
                      have HB6 := Lib.hid hb6
                      clear hb6
                      go_wp2_with fail
                      refine HCC.out.mono ?_
                      rintro e w7 ⟨rfl, hb7⟩
                      have hb7 := HB6.out.trans (hb7.mono HB6.out.size)
                      have HB8 := Lib.hid hb7
                      have HR8 := Lib.hid (HNR.out.rb.below hb7)
                      have HF8 := Lib.hid (HF.out w7 hb7)
                      clear hb7
                      go_upto_region 22 with fail
                      have f2 := (HR8.out.has.free 2)
                      have f8 := (HR8.out.has.free 8)
                      have f9 := (HR8.out.has.free 9)
                      have c2 := HR8.out.has.cell 2 rfl
                      have c8 := HR8.out.has.cell 8 rfl
                      have c9 := HR8.out.has.cell 9 rfl
                      rw [← HN0.out] at c2
                      go_wp2_with fail
                      go_roundw
                      case rel => refine ⟨rfl, ?_⟩; try rw [← ha']
                                  exact HF8.out.1
                      case measure => try rw [← ha']
                                      exact HF8.out.2
                  · as_aux_lemma =>
                      have hkn : knoB (k1 : Int) = false := by
                        cases hkd with
                        | inl h => exact absurd h hk0
                        | inr h => exact h
                      have k0b : ((k1 : Int) == 0) = false := by simp; omega
                      have kb : ((k1 : Int) != 0) = true := by simp; omega
                      have HKn : Hid (∀ u, Calls Try.prog 32 #[.int .i64 (k1 : Int)] u (BoolOf u false)) := Lib.hid (fun u => by rw [← hkn]; exact known_any u k1)
                      have hs : stepV R = (none, { R with b := R.b.drop t2, left := s1, passing := true }) := by
                        rw [hs1]; unfold frameV; rw [if_neg (by rw [← hck]; simp), if_pos hkd]
                        have : decide (k1 ≠ 0) = true := by simpa using hk0
                        rw [this]
                      have HF : Hid (∀ u, Below wr.heap.size wr u → NRel w (((u.setCell ⟨g, 2, none⟩ (.slice a' (n - t2) (c - t2))).setCell ⟨g, 8, none⟩ (.int .i64 (s1 : Int))).setCell ⟨g, 9, none⟩ (.bool true)) g ba N ∧ lenW (((u.setCell ⟨g, 2, none⟩ (.slice a' (n - t2) (c - t2))).setCell ⟨g, 8, none⟩ (.int .i64 (s1 : Int))).setCell ⟨g, 9, none⟩ (.bool true)) g < lenW wr g) := Lib.hid (fun u hu => by
                        have h1 := (HNR.out.rb.below hu).cut HN0.out ht2 a' ha' rfl
                        have h2 := (h1.set 8 (.int .i64 (s1 : Int)) (R' := { R with b := R.b.drop t2, left := s1 }) rfl rfl).set 9 (.bool true) (R' := { R with b := R.b.drop t2, left := s1, passing := true }) rfl rfl
                        exact HNR.out.next hs h2 (((Kept.of_below (X := fun k => k = g) hu).trans (Kept.set _ g 2 _) (fun _ _ h => h)).trans (Kept.set _ g 8 _) (fun _ _ h => h) |>.trans (Kept.set _ g 9 _) (fun _ _ h => h)) (cut_same ha') HNR.out.heads hs1b)
                      clear hs hs0 hs1 hf hlf hn hl0 hn0 hn1 hg1 hg2 hck ht1 hkd
                      have ht2' := ht2
                      go_wp2_with fail
                      refine HG.out.mono ?_
                      rintro e w5 ⟨rfl, hb5⟩
                      have c2 : w5.cell? ⟨g, 2, none⟩ = some (.slice a n c) := by rw [HN0.out]; exact (HNR.out.rb.below hb5).has.cell 2 rfl
                      have HGG := Lib.hid (HG2.out w5 hb5)
                      have HB5 := Lib.hid hb5
                      clear hb5
                      go_wp2_with fail
                      refine HGG.out.mono ?_
                      rintro e w6 ⟨rfl, hb6⟩
                      have hb6 := HB5.out.trans (hb6.mono HB5.out.size)
                      have HCC := Lib.hid (HCk.out w6 hb6)
                      have HB6 := Lib.hid hb6
                      clear hb6
                      go_wp2_with fail
                      refine HCC.out.mono ?_
                      rintro e w7 ⟨rfl, hb7⟩
                      have hb7 := HB6.out.trans (hb7.mono HB6.out.size)
                      have HB7 := Lib.hid hb7
                      clear hb7
                      go_wp2_with fail
                      refine (HKn.out w7).mono ?_
                      rintro e w8 ⟨rfl, hb8⟩
                      have hb8 := HB7.out.trans (hb8.mono HB7.out.size)
                      have HR8 := Lib.hid (HNR.out.rb.below hb8)
                      have HF8 := Lib.hid (HF.out w8 hb8)
                      clear hb8
                      go_upto_region 22 with fail
                      have f2 := (HR8.out.has.free 2)
                      have f8 := (HR8.out.has.free 8)
                      have f9 := (HR8.out.has.free 9)
                      have c2 := HR8.out.has.cell 2 rfl
                      have c8 := HR8.out.has.cell 8 rfl
                      have c9 := HR8.out.has.cell 9 rfl
                      rw [← HN0.out] at c2
                      go_wp2_with fail
                      go_roundw
                      case rel => refine ⟨rfl, ?_⟩; try rw [← ha']
                                  exact HF8.out.1
                      case measure => try rw [← ha']
                                      exact HF8.out.2
                · have hkn : knoB (k1 : Int) = true := by
                    cases h : knoB (k1 : Int) with
                    | true => rfl
                    | false => exact absurd (.inr h) hkd
                  have k0b : ((k1 : Int) == 0) = false := by
                    have : k1 ≠ 0 := fun h => hkd (.inl h)
                    simp; omega
                  have HKn : Hid (∀ u, Calls Try.prog 32 #[.int .i64 (k1 : Int)] u (BoolOf u true)) := Lib.hid (fun u => by rw [← hkn]; exact known_any u k1)
                  have hs2 : stepV R = if R.b.length < t2 + s1 then (some (say (waitR R).1), (waitR R).2) else if k1 = 13 then (if (oneV ((R.b.drop t2).take s1)).2 = 0 then (none, { R with b := R.b.drop (t2 + s1) }) else (some (say (oneV ((R.b.drop t2).take s1)).2), { R with b := R.b.drop (t2 + s1), fault := (oneV ((R.b.drop t2).take s1)).2 })) else (some (wholeE { R with b := R.b.drop (t2 + s1) } k1 ((R.b.drop t2).take s1)).1, (wholeE { R with b := R.b.drop (t2 + s1) } k1 ((R.b.drop t2).take s1)).2) := by
                    rw [hs1]
                    unfold frameV
                    rw [if_neg (by rw [← hck]; simp), if_neg hkd]
                  by_cases hsh : n < t2 + s1
                  · have hs : stepV R = (some (say (waitR R).1), (waitR R).2) := by rw [hs2, if_pos (by rw [← hn]; exact hsh)]
                    have HNN := Lib.hid (HNR.out.some hs)
                    have HW := Lib.hid (fun (u : World) (hu : Below wr.heap.size wr u) => wait_any u (HNR.out.rb.below hu))
                    have hl1 : (n : Int) - (t2 : Int) < (s1 : Int) := by omega
                    have hl2 : RowKit.wrap64 ((n : Int) - (t2 : Int)) = (n : Int) - (t2 : Int) := by
                      have := HNR.out.len
                      unfold RowKit.wrap64; omega
                    have hl3 : IntKind.i64.wrap ((n : Int) - (t2 : Int)) = (n : Int) - (t2 : Int) := by
                      have := HNR.out.len
                      rw [IntKind.wrap_i64]; omega
                    clear hs hs0 hs1 hs2 hf hlf hn hl0 hn0 hn1 hg1 hg2 hck ht1 ht2 hkd hkn hsh
                    go_wp2_with fail
                    refine HG.out.mono ?_
                    rintro e w5 ⟨rfl, hb5⟩
                    have c2 : w5.cell? ⟨g, 2, none⟩ = some (.slice a n c) := by rw [HN0.out]; exact (HNR.out.rb.below hb5).has.cell 2 rfl
                    have HGG := Lib.hid (HG2.out w5 hb5)
                    have HB5 := Lib.hid hb5
                    clear hb5
                    go_wp2_with fail
                    refine HGG.out.mono ?_
                    rintro e w6 ⟨rfl, hb6⟩
                    have hb6 := HB5.out.trans (hb6.mono HB5.out.size)
                    have HCC := Lib.hid (HCk.out w6 hb6)
                    have HB6 := Lib.hid hb6
                    clear hb6
                    go_wp2_with fail
                    refine HCC.out.mono ?_
                    rintro e w7 ⟨rfl, hb7⟩
                    have hb7 := HB6.out.trans (hb7.mono HB6.out.size)
                    have HB7 := Lib.hid hb7
                    clear hb7
                    go_wp2_with fail
                    refine (HKn.out w7).mono ?_
                    rintro e w8 ⟨rfl, hb8⟩
                    have hb8 := HB7.out.trans (hb8.mono HB7.out.size)
                    have c2 : w8.cell? ⟨g, 2, none⟩ = some (.slice a n c) := by rw [HN0.out]; exact (HNR.out.rb.below hb8).has.cell 2 rfl
                    have HV := Lib.hid (HW.out w8 hb8)
                    have HK7 := Lib.hid (HNR.out.kept.trans (Kept.of_below (X := fun k => k = g) hb8) (fun _ _ h => h))
                    have HE7 := Lib.hid (HE.out.kept (Kept.of_below (X := none') hb8) (fun h => h))
                    clear hb8
                    go_wp2_with fail
                    refine HV.out.mono ?_
                    rintro e w8 ⟨rfl, hk8, hR8⟩
                    have hE8 := HE7.out.kept hk8 (by omega)
                    have x0 := hE8.free 0
                    have x1 := hE8.free 1
                    have x2 := hE8.free 2
                    have x3 := hE8.free 3
                    have x4 := hE8.free 4
                    have x5 := hE8.free 5
                    have e0 := hE8.cell 0 rfl
                    have e1 := hE8.cell 1 rfl
                    have e2 := hE8.cell 2 rfl
                    have e3 := hE8.cell 3 rfl
                    have e4 := hE8.cell 4 rfl
                    have e5 := hE8.cell 5 rfl
                    have HK8 := Lib.hid (HK7.out.trans hk8 (fun _ _ h => h))
                    have HR8 := Lib.hid hR8
                    have HE8 := Lib.hid hE8
                    clear hk8 hR8 hE8
                    go_wp2
                    refine bodyPost_ret (results_ev rfl _ rfl (HE8.out.ev0 _ _ _ _ _ _) rfl) rfl ?_
                    rw [HNN.out]
                    have hEb := HEb.out
                    refine ⟨_, _, _, rfl, rfl, EvAt.ev0, HK8.out.trans (Kept.ev0 _ _ _ _ _ _ _ _) (fun k hk e => by omega), HR8.out.kept (Kept.ev0 _ _ _ _ _ _ _ _) (by omega) (fun ad ha => by have := hne ad ha; omega), HSame.out⟩
                  · have hts : t2 + s1 ≤ n := by omega
                    have hnc : n ≤ c := by rw [HN0.out]; exact HNR.out.rb.row.sl.cap_le
                    have hcx : c ≤ maxLen := HNR.out.rb.row.sl.cap_max
                    obtain ⟨pl, hpl⟩ : ∃ pl, pl = (R.b.drop t2).take s1 := ⟨_, rfl⟩
                    have hpln : pl.length = s1 := by rw [hpl, List.length_take, List.length_drop, ← HN0.out]; omega
                    obtain ⟨ap, hap⟩ : ∃ ap, ap = if c = t2 then a else Option.map (fun x => x.add t2) a := ⟨_, rfl⟩
                    have HCl : Hid (∀ u, Below wr.heap.size wr u → Calls Try.prog 27 #[.slice ap s1 (c - t2)] u fun e w' => ∃ a' c', e = .returned (.slice a' s1 c') ∧ w'.ownsRow u.heap.size 5 1 (.slice a' s1 c') s1 (bv pl) ∧ Below u.heap.size u w') := Lib.hid (fun u hu => clone_any u (by
                      have h0 := (HNR.out.rb.below hu).row.sl
                      rw [← HN0.out] at h0
                      have h1 : Sl u ap (n - t2) (c - t2) ((bv R.b).drop t2) := by
                        rw [hap]
                        by_cases hc : c = t2
                        · rw [if_pos hc]
                          exact sl_end h0 (k := t2) (m := n - t2) (by omega) (by omega)
                        · rw [if_neg hc]; exact sl_in h0 ht2
                      have h2 := sl_take h1 (k := s1) (by omega)
                      rw [hpl, show bv ((R.b.drop t2).take s1) = ((bv R.b).drop t2).take s1 from by simp [bv, List.map_take, List.map_drop]]
                      exact h2) (by have := HNR.out.len; omega))
                    obtain ⟨m2, hm2⟩ : ∃ m2, m2 = t2 + s1 := ⟨_, rfl⟩
                    rw [← hm2] at hts hs2
                    obtain ⟨a', ha'⟩ : ∃ a', a' = if c = m2 then a else Option.map (fun x => x.add m2) a := ⟨_, rfl⟩
                    have HQ : Hid (∀ u, Below wr.heap.size wr u → RB (u.setCell ⟨g, 2, none⟩ (.slice a' (n - m2) (c - m2))) g { R with b := R.b.drop m2 } a' (c - m2)) := Lib.hid (fun u hu => (HNR.out.rb.below hu).cut HN0.out hts a' ha' rfl)
                    have hl1 : ¬ (n : Int) - (t2 : Int) < (s1 : Int) := by omega
                    have hn47 : n ≤ 140737488351232 := by have := HNR.out.len; have := HN0.out; omega
                    have HL2 := Lib.hid (wrapD2 (m := n) (n := t2) hn47 ht2)
                    have HL3 := Lib.hid (wrapD3 (m := n) (n := t2) hn47 ht2)
                    have HA2 := Lib.hid (wrapS2 hm2 (Nat.le_trans hts hn47))
                    have HA3 := Lib.hid (wrapS3 hm2 (Nat.le_trans hts hn47))
                    have hne' : ∀ ad, a' = some ad → ad.block < eb := fun ad h0 => by
                      obtain ⟨ad1, h1, h2⟩ := cut_same ha' ad h0
                      have := hne ad1 h1
                      omega
                    have HSm : Hid (∀ ad, a' = some ad → ∃ ad0, ba = some ad0 ∧ ad.block = ad0.block) := Lib.hid (fun ad h0 => by
                      obtain ⟨ad1, h1, h2⟩ := cut_same ha' ad h0
                      obtain ⟨ad2, h3, h4⟩ := HSame.out ad1 h1
                      exact ⟨ad2, h3, by omega⟩)
                    have HMs := Lib.hid (show m2 - t2 = s1 from by omega)
                    have hm2t : t2 ≤ m2 := by omega
                    have hm2c : m2 ≤ c := by omega
                    have HCase : Hid ((t2 = c ∧ ap = a) ∨ (¬ c = t2 ∧ ap = Option.map (fun x => x.add t2) a)) := Lib.hid (by
                      by_cases hc : c = t2
                      · exact .inl ⟨hc.symm, by rw [hap, if_pos hc]⟩
                      · exact .inr ⟨hc, by rw [hap, if_neg hc]⟩)
                    have HA' := Lib.hid ha'
                    have HCS : Hid (∀ ad, a' = some ad → ∃ ad0, a = some ad0 ∧ ad.block = ad0.block) := Lib.hid (cut_same ha')
                    have hs3 : stepV R = if k1 = 13 then (if (oneV pl).2 = 0 then (none, { R with b := R.b.drop m2 }) else (some (say (oneV pl).2), { R with b := R.b.drop m2, fault := (oneV pl).2 })) else (some (wholeE { R with b := R.b.drop m2 } k1 pl).1, (wholeE { R with b := R.b.drop m2 } k1 pl).2) := by
                      rw [hs2, if_neg (by rw [← HN0.out]; omega), ← hpl]
                    have HPl := Lib.hid hpln
                    have HCh : Hid ((k1 : Int) = 1 → 0 ≤ R.heads ∧ R.heads < 2) := Lib.hid (fun h => ⟨HNR.out.heads, chk_heads (s := (s1 : Int)) (by rw [← h]; exact hck.symm)⟩)
                    have HTS := Lib.hid (show s1 ≤ n from by omega)
                    have HLf := Lib.hid hlf
                    clear hs0 hs1 hs2 hf hlf hn hl0 hn0 hn1 hg1 hg2 hck ht1 hkd hkn hpl hpln hap ha' hm2
                    by_cases hk13 : k1 = 13
                    · subst hk13
                      rw [if_pos rfl] at hs3
                      have HO : Hid (∀ u a9 c9, Sl u a9 s1 c9 (bv pl) → Calls Try.prog 33 #[.slice a9 s1 c9] u (One2 u (oneV pl))) := Lib.hid (fun u a9 c9 h => one_any u h)
                      obtain ⟨q, hq⟩ : ∃ q, q = oneV pl := ⟨_, rfl⟩
                      rw [← hq] at HO hs3
                      obtain ⟨qn, qz⟩ := q
                      by_cases hz : qz = 0
                      · subst hz
                        have hs : stepV R = (none, { R with b := R.b.drop m2 }) := by rw [hs3]; rfl
                        have HS := Lib.hid hs
                        clear hs3 hq hs
                        rcases HCase.out with ⟨hct, hapv⟩ | ⟨hct, hapv⟩
                        · as_aux_lemma =>
                            rw [hapv, show c - t2 = 0 from by omega] at HCl
                            have HCT := Lib.hid (show c = t2 from hct.symm)
                            clear hct
                            go_wp2_with fail
                            refine HG.out.mono ?_
                            rintro e w5 ⟨rfl, hb5⟩
                            have c2 : w5.cell? ⟨g, 2, none⟩ = some (.slice a n c) := by rw [HN0.out]; exact (HNR.out.rb.below hb5).has.cell 2 rfl
                            have HGG := Lib.hid (HG2.out w5 hb5)
                            have HB5 := Lib.hid hb5
                            clear hb5
                            go_wp2_with fail
                            refine HGG.out.mono ?_
                            rintro e w6 ⟨rfl, hb6⟩
                            have hb6 := HB5.out.trans (hb6.mono HB5.out.size)
                            have HCC := Lib.hid (HCk.out w6 hb6)
                            have HB6 := Lib.hid hb6
                            clear hb6
                            go_wp2_with fail
                            refine HCC.out.mono ?_
                            rintro e w7 ⟨rfl, hb7⟩
                            have hb7 := HB6.out.trans (hb7.mono HB6.out.size)
                            have HB7 := Lib.hid hb7
                            clear hb7
                            go_wp2_with fail
                            refine (HKn.out w7).mono ?_
                            rintro e w8 ⟨rfl, hb8⟩
                            have hb8 := HB7.out.trans (hb8.mono HB7.out.size)
                            have c2 : w8.cell? ⟨g, 2, none⟩ = some (.slice a n c) := by rw [HN0.out]; exact (HNR.out.rb.below hb8).has.cell 2 rfl
                            have HC8 := Lib.hid (HCl.out w8 hb8)
                            have HB8 := Lib.hid hb8
                            clear hb8
                            have hl2 := HL2.out
                            have hl3 := HL3.out
                            go_upto_region 25 with fail
                            clear hl2 hl3
                            have ha2 := HA2.out
                            have ha3 := HA3.out
                            have hct := HCT.out
                            go_wp2_with fail
                            clear hct
                            try simp only [HMs.out]
                            refine HC8.out.mono ?_
                            rintro e w9 ⟨a9, c9, rfl, ho9, hb9⟩
                            have hb9 := HB8.out.trans (hb9.mono HB8.out.size)
                            have hR9 := HNR.out.rb.below hb9
                            have c2 : w9.cell? ⟨g, 2, none⟩ = some (.slice a n c) := by rw [HN0.out]; exact hR9.has.cell 2 rfl
                            have f2 := hR9.has.free 2
                            have hge9 : ∀ ad, a9 = some ad → eb < ad.block := fun ad ha => by
                              have h1 := ownsRow_ge ho9 ad ha
                              have h2 := HE.out.lt
                              have h3 := HB8.out.size
                              omega
                            have HS10 := Lib.hid ((own_sl ho9).kept (Kept.set w9 g 2 (.slice a' (n - m2) (c - m2))) (fun ad ha e => by have := hge9 ad ha; omega))
                            have HR10 := Lib.hid (HQ.out w9 hb9)
                            have hk10 : Kept (fun k => k = g) wr (w9.setCell ⟨g, 2, none⟩ (.slice a' (n - m2) (c - m2))) := (Kept.of_below (X := fun k => k = g) hb9).trans (Kept.set w9 g 2 _) (fun _ _ h => h)
                            have HE10 := Lib.hid (HE.out.kept hk10 (by omega))
                            have HK10 := Lib.hid hk10
                            have HGe := Lib.hid hge9
                            clear hb9 hR9 ho9 hge9 hk10
                            go_upto_region 27 with fail
                            rw [← HA'.out]
                            go_wp2_with fail
                            refine (HO.out _ _ _ HS10.out).mono ?_
                            rintro e w11 ⟨rfl, hb11⟩
                            have HK11 := Lib.hid (HK10.out.trans (Kept.of_below (X := fun k => k = g) hb11) (fun _ _ h => h))
                            have HR11 := Lib.hid (HR10.out.below hb11)
                            have HF := Lib.hid (HNR.out.next HS.out HR11.out HK11.out HCS.out HNR.out.heads (by show R.left < _; rw [← HLf.out]; omega))
                            clear hb11
                            go_wp2_with fail
                            go_roundw
                            case rel => exact ⟨rfl, HF.out.1⟩
                            case measure => exact HF.out.2
                        · as_aux_lemma =>
                            rw [hapv] at HCl
                            go_wp2_with fail
                            refine HG.out.mono ?_
                            rintro e w5 ⟨rfl, hb5⟩
                            have c2 : w5.cell? ⟨g, 2, none⟩ = some (.slice a n c) := by rw [HN0.out]; exact (HNR.out.rb.below hb5).has.cell 2 rfl
                            have HGG := Lib.hid (HG2.out w5 hb5)
                            have HB5 := Lib.hid hb5
                            clear hb5
                            go_wp2_with fail
                            refine HGG.out.mono ?_
                            rintro e w6 ⟨rfl, hb6⟩
                            have hb6 := HB5.out.trans (hb6.mono HB5.out.size)
                            have HCC := Lib.hid (HCk.out w6 hb6)
                            have HB6 := Lib.hid hb6
                            clear hb6
                            go_wp2_with fail
                            refine HCC.out.mono ?_
                            rintro e w7 ⟨rfl, hb7⟩
                            have hb7 := HB6.out.trans (hb7.mono HB6.out.size)
                            have HB7 := Lib.hid hb7
                            clear hb7
                            go_wp2_with fail
                            refine (HKn.out w7).mono ?_
                            rintro e w8 ⟨rfl, hb8⟩
                            have hb8 := HB7.out.trans (hb8.mono HB7.out.size)
                            have c2 : w8.cell? ⟨g, 2, none⟩ = some (.slice a n c) := by rw [HN0.out]; exact (HNR.out.rb.below hb8).has.cell 2 rfl
                            have HC8 := Lib.hid (HCl.out w8 hb8)
                            have HB8 := Lib.hid hb8
                            clear hb8
                            have hl2 := HL2.out
                            have hl3 := HL3.out
                            go_upto_region 25 with fail
                            clear hl2 hl3
                            have ha2 := HA2.out
                            have ha3 := HA3.out
                            skip
                            go_wp2_with fail
                            skip
                            try simp only [HMs.out]
                            refine HC8.out.mono ?_
                            rintro e w9 ⟨a9, c9, rfl, ho9, hb9⟩
                            have hb9 := HB8.out.trans (hb9.mono HB8.out.size)
                            have hR9 := HNR.out.rb.below hb9
                            have c2 : w9.cell? ⟨g, 2, none⟩ = some (.slice a n c) := by rw [HN0.out]; exact hR9.has.cell 2 rfl
                            have f2 := hR9.has.free 2
                            have hge9 : ∀ ad, a9 = some ad → eb < ad.block := fun ad ha => by
                              have h1 := ownsRow_ge ho9 ad ha
                              have h2 := HE.out.lt
                              have h3 := HB8.out.size
                              omega
                            have HS10 := Lib.hid ((own_sl ho9).kept (Kept.set w9 g 2 (.slice a' (n - m2) (c - m2))) (fun ad ha e => by have := hge9 ad ha; omega))
                            have HR10 := Lib.hid (HQ.out w9 hb9)
                            have hk10 : Kept (fun k => k = g) wr (w9.setCell ⟨g, 2, none⟩ (.slice a' (n - m2) (c - m2))) := (Kept.of_below (X := fun k => k = g) hb9).trans (Kept.set w9 g 2 _) (fun _ _ h => h)
                            have HE10 := Lib.hid (HE.out.kept hk10 (by omega))
                            have HK10 := Lib.hid hk10
                            have HGe := Lib.hid hge9
                            clear hb9 hR9 ho9 hge9 hk10
                            go_upto_region 27 with fail
                            rw [← HA'.out]
                            go_wp2_with fail
                            refine (HO.out _ _ _ HS10.out).mono ?_
                            rintro e w11 ⟨rfl, hb11⟩
                            have HK11 := Lib.hid (HK10.out.trans (Kept.of_below (X := fun k => k = g) hb11) (fun _ _ h => h))
                            have HR11 := Lib.hid (HR10.out.below hb11)
                            have HF := Lib.hid (HNR.out.next HS.out HR11.out HK11.out HCS.out HNR.out.heads (by show R.left < _; rw [← HLf.out]; omega))
                            clear hb11
                            go_wp2_with fail
                            go_roundw
                            case rel => exact ⟨rfl, HF.out.1⟩
                            case measure => exact HF.out.2
                      · have hs : stepV R = (some (say qz), { R with b := R.b.drop m2, fault := qz }) := by rw [hs3, if_neg hz]
                        have HNN := Lib.hid (HNR.out.some hs)
                        have zb : (qz == 0) = false := by simpa using hz
                        clear hs3 hq hs hz
                        rcases HCase.out with ⟨hct, hapv⟩ | ⟨hct, hapv⟩
                        · as_aux_lemma =>
                            rw [hapv, show c - t2 = 0 from by omega] at HCl
                            have HCT := Lib.hid (show c = t2 from hct.symm)
                            clear hct
                            go_wp2_with fail
                            refine HG.out.mono ?_
                            rintro e w5 ⟨rfl, hb5⟩
                            have c2 : w5.cell? ⟨g, 2, none⟩ = some (.slice a n c) := by rw [HN0.out]; exact (HNR.out.rb.below hb5).has.cell 2 rfl
                            have HGG := Lib.hid (HG2.out w5 hb5)
                            have HB5 := Lib.hid hb5
                            clear hb5
                            go_wp2_with fail
                            refine HGG.out.mono ?_
                            rintro e w6 ⟨rfl, hb6⟩
                            have hb6 := HB5.out.trans (hb6.mono HB5.out.size)
                            have HCC := Lib.hid (HCk.out w6 hb6)
                            have HB6 := Lib.hid hb6
                            clear hb6
                            go_wp2_with fail
                            refine HCC.out.mono ?_
                            rintro e w7 ⟨rfl, hb7⟩
                            have hb7 := HB6.out.trans (hb7.mono HB6.out.size)
                            have HB7 := Lib.hid hb7
                            clear hb7
                            go_wp2_with fail
                            refine (HKn.out w7).mono ?_
                            rintro e w8 ⟨rfl, hb8⟩
                            have hb8 := HB7.out.trans (hb8.mono HB7.out.size)
                            have c2 : w8.cell? ⟨g, 2, none⟩ = some (.slice a n c) := by rw [HN0.out]; exact (HNR.out.rb.below hb8).has.cell 2 rfl
                            have HC8 := Lib.hid (HCl.out w8 hb8)
                            have HB8 := Lib.hid hb8
                            clear hb8
                            have hl2 := HL2.out
                            have hl3 := HL3.out
                            go_upto_region 25 with fail
                            clear hl2 hl3
                            have ha2 := HA2.out
                            have ha3 := HA3.out
                            have hct := HCT.out
                            go_wp2_with fail
                            clear hct
                            try simp only [HMs.out]
                            refine HC8.out.mono ?_
                            rintro e w9 ⟨a9, c9, rfl, ho9, hb9⟩
                            have hb9 := HB8.out.trans (hb9.mono HB8.out.size)
                            have hR9 := HNR.out.rb.below hb9
                            have c2 : w9.cell? ⟨g, 2, none⟩ = some (.slice a n c) := by rw [HN0.out]; exact hR9.has.cell 2 rfl
                            have f2 := hR9.has.free 2
                            have hge9 : ∀ ad, a9 = some ad → eb < ad.block := fun ad ha => by
                              have h1 := ownsRow_ge ho9 ad ha
                              have h2 := HE.out.lt
                              have h3 := HB8.out.size
                              omega
                            have HS10 := Lib.hid ((own_sl ho9).kept (Kept.set w9 g 2 (.slice a' (n - m2) (c - m2))) (fun ad ha e => by have := hge9 ad ha; omega))
                            have HR10 := Lib.hid (HQ.out w9 hb9)
                            have hk10 : Kept (fun k => k = g) wr (w9.setCell ⟨g, 2, none⟩ (.slice a' (n - m2) (c - m2))) := (Kept.of_below (X := fun k => k = g) hb9).trans (Kept.set w9 g 2 _) (fun _ _ h => h)
                            have HE10 := Lib.hid (HE.out.kept hk10 (by omega))
                            have HK10 := Lib.hid hk10
                            have HGe := Lib.hid hge9
                            clear hb9 hR9 ho9 hge9 hk10
                            go_upto_region 27 with fail
                            rw [← HA'.out]
                            go_wp2_with fail
                            refine (HO.out _ _ _ HS10.out).mono ?_
                            rintro e w11 ⟨rfl, hb11⟩
                            have HV := Lib.hid (fail_any w11 (HR10.out.below hb11) qz)
                            have HK7 := Lib.hid (HNR.out.kept.trans (HK10.out.trans (Kept.of_below (X := fun k => k = g) hb11) (fun _ _ h => h)) (fun _ _ h => h))
                            have HE7 := Lib.hid (HE10.out.kept (Kept.of_below (X := none') hb11) (fun h => h))
                            clear hb11
                            go_wp2_with fail
                            refine HV.out.mono ?_
                            rintro e w8 ⟨rfl, hk8, hR8⟩
                            have hE8 := HE7.out.kept hk8 (by omega)
                            have x0 := hE8.free 0
                            have x1 := hE8.free 1
                            have x2 := hE8.free 2
                            have x3 := hE8.free 3
                            have x4 := hE8.free 4
                            have x5 := hE8.free 5
                            have e0 := hE8.cell 0 rfl
                            have e1 := hE8.cell 1 rfl
                            have e2 := hE8.cell 2 rfl
                            have e3 := hE8.cell 3 rfl
                            have e4 := hE8.cell 4 rfl
                            have e5 := hE8.cell 5 rfl
                            have HK8 := Lib.hid (HK7.out.trans hk8 (fun _ _ h => h))
                            have HR8 := Lib.hid hR8
                            have HE8 := Lib.hid hE8
                            clear hk8 hR8 hE8
                            go_wp2
                            refine bodyPost_ret (results_ev rfl _ rfl (HE8.out.ev0 _ _ _ _ _ _) rfl) rfl ?_
                            rw [HNN.out]
                            have hEb := HEb.out
                            refine ⟨_, _, _, rfl, rfl, EvAt.ev0, HK8.out.trans (Kept.ev0 _ _ _ _ _ _ _ _) (fun k hk e => by omega), HR8.out.kept (Kept.ev0 _ _ _ _ _ _ _ _) (by omega) (fun ad ha => by have := hne' ad ha; omega), HSm.out⟩
                        · as_aux_lemma =>
                            rw [hapv] at HCl
                            go_wp2_with fail
                            refine HG.out.mono ?_
                            rintro e w5 ⟨rfl, hb5⟩
                            have c2 : w5.cell? ⟨g, 2, none⟩ = some (.slice a n c) := by rw [HN0.out]; exact (HNR.out.rb.below hb5).has.cell 2 rfl
                            have HGG := Lib.hid (HG2.out w5 hb5)
                            have HB5 := Lib.hid hb5
                            clear hb5
                            go_wp2_with fail
                            refine HGG.out.mono ?_
                            rintro e w6 ⟨rfl, hb6⟩
                            have hb6 := HB5.out.trans (hb6.mono HB5.out.size)
                            have HCC := Lib.hid (HCk.out w6 hb6)
                            have HB6 := Lib.hid hb6
                            clear hb6
                            go_wp2_with fail
                            refine HCC.out.mono ?_
                            rintro e w7 ⟨rfl, hb7⟩
                            have hb7 := HB6.out.trans (hb7.mono HB6.out.size)
                            have HB7 := Lib.hid hb7
                            clear hb7
                            go_wp2_with fail
                            refine (HKn.out w7).mono ?_
                            rintro e w8 ⟨rfl, hb8⟩
                            have hb8 := HB7.out.trans (hb8.mono HB7.out.size)
                            have c2 : w8.cell? ⟨g, 2, none⟩ = some (.slice a n c) := by rw [HN0.out]; exact (HNR.out.rb.below hb8).has.cell 2 rfl
                            have HC8 := Lib.hid (HCl.out w8 hb8)
                            have HB8 := Lib.hid hb8
                            clear hb8
                            have hl2 := HL2.out
                            have hl3 := HL3.out
                            go_upto_region 25 with fail
                            clear hl2 hl3
                            have ha2 := HA2.out
                            have ha3 := HA3.out
                            skip
                            go_wp2_with fail
                            skip
                            try simp only [HMs.out]
                            refine HC8.out.mono ?_
                            rintro e w9 ⟨a9, c9, rfl, ho9, hb9⟩
                            have hb9 := HB8.out.trans (hb9.mono HB8.out.size)
                            have hR9 := HNR.out.rb.below hb9
                            have c2 : w9.cell? ⟨g, 2, none⟩ = some (.slice a n c) := by rw [HN0.out]; exact hR9.has.cell 2 rfl
                            have f2 := hR9.has.free 2
                            have hge9 : ∀ ad, a9 = some ad → eb < ad.block := fun ad ha => by
                              have h1 := ownsRow_ge ho9 ad ha
                              have h2 := HE.out.lt
                              have h3 := HB8.out.size
                              omega
                            have HS10 := Lib.hid ((own_sl ho9).kept (Kept.set w9 g 2 (.slice a' (n - m2) (c - m2))) (fun ad ha e => by have := hge9 ad ha; omega))
                            have HR10 := Lib.hid (HQ.out w9 hb9)
                            have hk10 : Kept (fun k => k = g) wr (w9.setCell ⟨g, 2, none⟩ (.slice a' (n - m2) (c - m2))) := (Kept.of_below (X := fun k => k = g) hb9).trans (Kept.set w9 g 2 _) (fun _ _ h => h)
                            have HE10 := Lib.hid (HE.out.kept hk10 (by omega))
                            have HK10 := Lib.hid hk10
                            have HGe := Lib.hid hge9
                            clear hb9 hR9 ho9 hge9 hk10
                            go_upto_region 27 with fail
                            rw [← HA'.out]
                            go_wp2_with fail
                            refine (HO.out _ _ _ HS10.out).mono ?_
                            rintro e w11 ⟨rfl, hb11⟩
                            have HV := Lib.hid (fail_any w11 (HR10.out.below hb11) qz)
                            have HK7 := Lib.hid (HNR.out.kept.trans (HK10.out.trans (Kept.of_below (X := fun k => k = g) hb11) (fun _ _ h => h)) (fun _ _ h => h))
                            have HE7 := Lib.hid (HE10.out.kept (Kept.of_below (X := none') hb11) (fun h => h))
                            clear hb11
                            go_wp2_with fail
                            refine HV.out.mono ?_
                            rintro e w8 ⟨rfl, hk8, hR8⟩
                            have hE8 := HE7.out.kept hk8 (by omega)
                            have x0 := hE8.free 0
                            have x1 := hE8.free 1
                            have x2 := hE8.free 2
                            have x3 := hE8.free 3
                            have x4 := hE8.free 4
                            have x5 := hE8.free 5
                            have e0 := hE8.cell 0 rfl
                            have e1 := hE8.cell 1 rfl
                            have e2 := hE8.cell 2 rfl
                            have e3 := hE8.cell 3 rfl
                            have e4 := hE8.cell 4 rfl
                            have e5 := hE8.cell 5 rfl
                            have HK8 := Lib.hid (HK7.out.trans hk8 (fun _ _ h => h))
                            have HR8 := Lib.hid hR8
                            have HE8 := Lib.hid hE8
                            clear hk8 hR8 hE8
                            go_wp2
                            refine bodyPost_ret (results_ev rfl _ rfl (HE8.out.ev0 _ _ _ _ _ _) rfl) rfl ?_
                            rw [HNN.out]
                            have hEb := HEb.out
                            refine ⟨_, _, _, rfl, rfl, EvAt.ev0, HK8.out.trans (Kept.ev0 _ _ _ _ _ _ _ _) (fun k hk e => by omega), HR8.out.kept (Kept.ev0 _ _ _ _ _ _ _ _) (by omega) (fun ad ha => by have := hne' ad ha; omega), HSm.out⟩
                    · rw [if_neg hk13] at hs3
                      have hk13b : ((k1 : Int) == 13) = false := by simp; omega
                      have HW : Hid (∀ u a9 c9, RB u g { R with b := R.b.drop m2 } a' (c - m2) → Sl u a9 s1 c9 (bv pl) → Calls Try.prog 34 #[.pointer (some ⟨g, 0, none⟩), .int .i64 (k1 : Int), .slice a9 s1 c9] u (Tells u g a' (c - m2) (wholeV { R with b := R.b.drop m2 } k1 pl a9 c9))) := Lib.hid (fun u a9 c9 h1 h2 => whole_any u h1 h2 (by have := HNR.out.len; have := HTS.out; have := HN0.out; omega) k1 HCh.out)
                      have HS3 := Lib.hid hs3
                      clear hs3 hk13
                      rcases HCase.out with ⟨hct, hapv⟩ | ⟨hct, hapv⟩
                      · as_aux_lemma =>
                          rw [hapv, show c - t2 = 0 from by omega] at HCl
                          have HCT := Lib.hid (show c = t2 from hct.symm)
                          clear hct
                          go_wp2_with fail
                          refine HG.out.mono ?_
                          rintro e w5 ⟨rfl, hb5⟩
                          have c2 : w5.cell? ⟨g, 2, none⟩ = some (.slice a n c) := by rw [HN0.out]; exact (HNR.out.rb.below hb5).has.cell 2 rfl
                          have HGG := Lib.hid (HG2.out w5 hb5)
                          have HB5 := Lib.hid hb5
                          clear hb5
                          go_wp2_with fail
                          refine HGG.out.mono ?_
                          rintro e w6 ⟨rfl, hb6⟩
                          have hb6 := HB5.out.trans (hb6.mono HB5.out.size)
                          have HCC := Lib.hid (HCk.out w6 hb6)
                          have HB6 := Lib.hid hb6
                          clear hb6
                          go_wp2_with fail
                          refine HCC.out.mono ?_
                          rintro e w7 ⟨rfl, hb7⟩
                          have hb7 := HB6.out.trans (hb7.mono HB6.out.size)
                          have HB7 := Lib.hid hb7
                          clear hb7
                          go_wp2_with fail
                          refine (HKn.out w7).mono ?_
                          rintro e w8 ⟨rfl, hb8⟩
                          have hb8 := HB7.out.trans (hb8.mono HB7.out.size)
                          have c2 : w8.cell? ⟨g, 2, none⟩ = some (.slice a n c) := by rw [HN0.out]; exact (HNR.out.rb.below hb8).has.cell 2 rfl
                          have HC8 := Lib.hid (HCl.out w8 hb8)
                          have HB8 := Lib.hid hb8
                          clear hb8
                          have hl2 := HL2.out
                          have hl3 := HL3.out
                          go_upto_region 25 with fail
                          clear hl2 hl3
                          have ha2 := HA2.out
                          have ha3 := HA3.out
                          have hct := HCT.out
                          go_wp2_with fail
                          clear hct
                          try simp only [HMs.out]
                          refine HC8.out.mono ?_
                          rintro e w9 ⟨a9, c9, rfl, ho9, hb9⟩
                          have hb9 := HB8.out.trans (hb9.mono HB8.out.size)
                          have hR9 := HNR.out.rb.below hb9
                          have c2 : w9.cell? ⟨g, 2, none⟩ = some (.slice a n c) := by rw [HN0.out]; exact hR9.has.cell 2 rfl
                          have f2 := hR9.has.free 2
                          have hge9 : ∀ ad, a9 = some ad → eb < ad.block := fun ad ha => by
                            have h1 := ownsRow_ge ho9 ad ha
                            have h2 := HE.out.lt
                            have h3 := HB8.out.size
                            omega
                          have HS10 := Lib.hid ((own_sl ho9).kept (Kept.set w9 g 2 (.slice a' (n - m2) (c - m2))) (fun ad ha e => by have := hge9 ad ha; omega))
                          have HR10 := Lib.hid (HQ.out w9 hb9)
                          have hk10 : Kept (fun k => k = g) wr (w9.setCell ⟨g, 2, none⟩ (.slice a' (n - m2) (c - m2))) := (Kept.of_below (X := fun k => k = g) hb9).trans (Kept.set w9 g 2 _) (fun _ _ h => h)
                          have HE10 := Lib.hid (HE.out.kept hk10 (by omega))
                          have HK10 := Lib.hid hk10
                          have HGe := Lib.hid hge9
                          clear hb9 hR9 ho9 hge9 hk10
                          obtain ⟨i0, pa', pn', pc', i2, i3, i4, i5, ok, z, R', hwv, hwe, hev⟩ := wholeV_ev { R with b := R.b.drop m2 } k1 pl a9 c9
                          have HV := Lib.hid (HW.out _ a9 c9 HR10.out HS10.out)
                          rw [hwv] at HV
                          have hs : stepV R = (some ⟨(wholeE { R with b := R.b.drop m2 } k1 pl).1.ev, ok, z⟩, R') := by rw [HS3.out, hwe]
                          have HNN := Lib.hid (HNR.out.some hs)
                          obtain ⟨E, hE⟩ : ∃ E, E = (wholeE { R with b := R.b.drop m2 } k1 pl).1.ev := ⟨_, rfl⟩
                          rw [← hE] at HNN hev
                          have HEv := Lib.hid hev
                          clear hs hev hwe hwv hE
                          go_upto_region 27 with fail
                          rw [← HA'.out]
                          go_wp2_with fail
                          refine HV.out.mono ?_
                          rintro e w8 ⟨rfl, hk8, hR8⟩
                          have hE8 := HE10.out.kept hk8 (by omega)
                          have x0 := hE8.free 0
                          have x1 := hE8.free 1
                          have x2 := hE8.free 2
                          have x3 := hE8.free 3
                          have x4 := hE8.free 4
                          have x5 := hE8.free 5
                          have e0 := hE8.cell 0 rfl
                          have e1 := hE8.cell 1 rfl
                          have e2 := hE8.cell 2 rfl
                          have e3 := hE8.cell 3 rfl
                          have e4 := hE8.cell 4 rfl
                          have e5 := hE8.cell 5 rfl
                          have HK8 := Lib.hid ((HNR.out.kept.trans HK10.out (fun _ _ h => h)).trans hk8 (fun _ _ h => h))
                          have HS8 := Lib.hid (HS10.out.kept hk8 (fun ad ha e => by have := HGe.out ad ha; omega))
                          have HR8 := Lib.hid hR8
                          have HE8 := Lib.hid hE8
                          clear hk8 hR8 hE8
                          go_wp2
                          refine bodyPost_ret (results_ev rfl _ rfl (HE8.out.ev0 _ _ _ _ _ _) rfl) rfl ?_
                          rw [HNN.out]
                          have hEb := HEb.out
                          refine ⟨_, _, _, rfl, rfl, HEv.out _ _ (by rw [HPl.out]; exact HS8.out.kept (Kept.ev0 _ _ _ _ _ _ _ _) (fun ad ha e => by have := HGe.out ad ha; omega)) (fun ad ha => by have := HGe.out ad ha; omega), HK8.out.trans (Kept.ev0 _ _ _ _ _ _ _ _) (fun k hk e => by omega), HR8.out.kept (Kept.ev0 _ _ _ _ _ _ _ _) (by omega) (fun ad ha => by have := hne' ad ha; omega), HSm.out⟩
                      · as_aux_lemma =>
                          rw [hapv] at HCl
                          go_wp2_with fail
                          refine HG.out.mono ?_
                          rintro e w5 ⟨rfl, hb5⟩
                          have c2 : w5.cell? ⟨g, 2, none⟩ = some (.slice a n c) := by rw [HN0.out]; exact (HNR.out.rb.below hb5).has.cell 2 rfl
                          have HGG := Lib.hid (HG2.out w5 hb5)
                          have HB5 := Lib.hid hb5
                          clear hb5
                          go_wp2_with fail
                          refine HGG.out.mono ?_
                          rintro e w6 ⟨rfl, hb6⟩
                          have hb6 := HB5.out.trans (hb6.mono HB5.out.size)
                          have HCC := Lib.hid (HCk.out w6 hb6)
                          have HB6 := Lib.hid hb6
                          clear hb6
                          go_wp2_with fail
                          refine HCC.out.mono ?_
                          rintro e w7 ⟨rfl, hb7⟩
                          have hb7 := HB6.out.trans (hb7.mono HB6.out.size)
                          have HB7 := Lib.hid hb7
                          clear hb7
                          go_wp2_with fail
                          refine (HKn.out w7).mono ?_
                          rintro e w8 ⟨rfl, hb8⟩
                          have hb8 := HB7.out.trans (hb8.mono HB7.out.size)
                          have c2 : w8.cell? ⟨g, 2, none⟩ = some (.slice a n c) := by rw [HN0.out]; exact (HNR.out.rb.below hb8).has.cell 2 rfl
                          have HC8 := Lib.hid (HCl.out w8 hb8)
                          have HB8 := Lib.hid hb8
                          clear hb8
                          have hl2 := HL2.out
                          have hl3 := HL3.out
                          go_upto_region 25 with fail
                          clear hl2 hl3
                          have ha2 := HA2.out
                          have ha3 := HA3.out
                          skip
                          go_wp2_with fail
                          skip
                          try simp only [HMs.out]
                          refine HC8.out.mono ?_
                          rintro e w9 ⟨a9, c9, rfl, ho9, hb9⟩
                          have hb9 := HB8.out.trans (hb9.mono HB8.out.size)
                          have hR9 := HNR.out.rb.below hb9
                          have c2 : w9.cell? ⟨g, 2, none⟩ = some (.slice a n c) := by rw [HN0.out]; exact hR9.has.cell 2 rfl
                          have f2 := hR9.has.free 2
                          have hge9 : ∀ ad, a9 = some ad → eb < ad.block := fun ad ha => by
                            have h1 := ownsRow_ge ho9 ad ha
                            have h2 := HE.out.lt
                            have h3 := HB8.out.size
                            omega
                          have HS10 := Lib.hid ((own_sl ho9).kept (Kept.set w9 g 2 (.slice a' (n - m2) (c - m2))) (fun ad ha e => by have := hge9 ad ha; omega))
                          have HR10 := Lib.hid (HQ.out w9 hb9)
                          have hk10 : Kept (fun k => k = g) wr (w9.setCell ⟨g, 2, none⟩ (.slice a' (n - m2) (c - m2))) := (Kept.of_below (X := fun k => k = g) hb9).trans (Kept.set w9 g 2 _) (fun _ _ h => h)
                          have HE10 := Lib.hid (HE.out.kept hk10 (by omega))
                          have HK10 := Lib.hid hk10
                          have HGe := Lib.hid hge9
                          clear hb9 hR9 ho9 hge9 hk10
                          obtain ⟨i0, pa', pn', pc', i2, i3, i4, i5, ok, z, R', hwv, hwe, hev⟩ := wholeV_ev { R with b := R.b.drop m2 } k1 pl a9 c9
                          have HV := Lib.hid (HW.out _ a9 c9 HR10.out HS10.out)
                          rw [hwv] at HV
                          have hs : stepV R = (some ⟨(wholeE { R with b := R.b.drop m2 } k1 pl).1.ev, ok, z⟩, R') := by rw [HS3.out, hwe]
                          have HNN := Lib.hid (HNR.out.some hs)
                          obtain ⟨E, hE⟩ : ∃ E, E = (wholeE { R with b := R.b.drop m2 } k1 pl).1.ev := ⟨_, rfl⟩
                          rw [← hE] at HNN hev
                          have HEv := Lib.hid hev
                          clear hs hev hwe hwv hE
                          go_upto_region 27 with fail
                          rw [← HA'.out]
                          go_wp2_with fail
                          refine HV.out.mono ?_
                          rintro e w8 ⟨rfl, hk8, hR8⟩
                          have hE8 := HE10.out.kept hk8 (by omega)
                          have x0 := hE8.free 0
                          have x1 := hE8.free 1
                          have x2 := hE8.free 2
                          have x3 := hE8.free 3
                          have x4 := hE8.free 4
                          have x5 := hE8.free 5
                          have e0 := hE8.cell 0 rfl
                          have e1 := hE8.cell 1 rfl
                          have e2 := hE8.cell 2 rfl
                          have e3 := hE8.cell 3 rfl
                          have e4 := hE8.cell 4 rfl
                          have e5 := hE8.cell 5 rfl
                          have HK8 := Lib.hid ((HNR.out.kept.trans HK10.out (fun _ _ h => h)).trans hk8 (fun _ _ h => h))
                          have HS8 := Lib.hid (HS10.out.kept hk8 (fun ad ha e => by have := HGe.out ad ha; omega))
                          have HR8 := Lib.hid hR8
                          have HE8 := Lib.hid hE8
                          clear hk8 hR8 hE8
                          go_wp2
                          refine bodyPost_ret (results_ev rfl _ rfl (HE8.out.ev0 _ _ _ _ _ _) rfl) rfl ?_
                          rw [HNN.out]
                          have hEb := HEb.out
                          refine ⟨_, _, _, rfl, rfl, HEv.out _ _ (by rw [HPl.out]; exact HS8.out.kept (Kept.ev0 _ _ _ _ _ _ _ _) (fun ad ha e => by have := HGe.out ad ha; omega)) (fun ad ha => by have := HGe.out ad ha; omega), HK8.out.trans (Kept.ev0 _ _ _ _ _ _ _ _) (fun k hk e => by omega), HR8.out.kept (Kept.ev0 _ _ _ _ _ _ _ _) (by omega) (fun ad ha => by have := hne' ad ha; omega), HSm.out⟩
              · have hs : stepV R = (some (say ck), { R with fault := ck }) := by
                  rw [hs1]
                  unfold frameV
                  rw [if_pos (by rw [← hck]; exact hck0), ← hck]
                have HNN := Lib.hid (HNR.out.some hs)
                have HW := Lib.hid (fun (u : World) (hu : Below wr.heap.size wr u) => fail_any u (HNR.out.rb.below hu) ck)
                have zb : (ck == 0) = false := by simpa using hck0
                clear hs hs0 hs1 hf hlf hn hl0 hn0 hn1 hg1 hg2 hck0 hck ht1
                go_wp2_with fail
                refine HG.out.mono ?_
                rintro e w5 ⟨rfl, hb5⟩
                have c2 : w5.cell? ⟨g, 2, none⟩ = some (.slice a n c) := by rw [HN0.out]; exact (HNR.out.rb.below hb5).has.cell 2 rfl
                have HGG := Lib.hid (HG2.out w5 hb5)
                have HB5 := Lib.hid hb5
                clear hb5
                go_wp2_with fail
                refine HGG.out.mono ?_
                rintro e w6 ⟨rfl, hb6⟩
                have hb6 := HB5.out.trans (hb6.mono HB5.out.size)
                have HCC := Lib.hid (HCk.out w6 hb6)
                have HB6 := Lib.hid hb6
                clear hb6
                go_wp2_with fail
                refine HCC.out.mono ?_
                rintro e w7 ⟨rfl, hb7⟩
                have hb7 := HB6.out.trans (hb7.mono HB6.out.size)
                have HV := Lib.hid (HW.out w7 hb7)
                have HK7 := Lib.hid (HNR.out.kept.trans (Kept.of_below (X := fun k => k = g) hb7) (fun _ _ h => h))
                have HE7 := Lib.hid (HE.out.kept (Kept.of_below (X := none') hb7) (fun h => h))
                clear hb7
                go_wp2_with fail
                refine HV.out.mono ?_
                rintro e w8 ⟨rfl, hk8, hR8⟩
                have hE8 := HE7.out.kept hk8 (by omega)
                have x0 := hE8.free 0
                have x1 := hE8.free 1
                have x2 := hE8.free 2
                have x3 := hE8.free 3
                have x4 := hE8.free 4
                have x5 := hE8.free 5
                have e0 := hE8.cell 0 rfl
                have e1 := hE8.cell 1 rfl
                have e2 := hE8.cell 2 rfl
                have e3 := hE8.cell 3 rfl
                have e4 := hE8.cell 4 rfl
                have e5 := hE8.cell 5 rfl
                have HK8 := Lib.hid (HK7.out.trans hk8 (fun _ _ h => h))
                have HR8 := Lib.hid hR8
                have HE8 := Lib.hid hE8
                clear hk8 hR8 hE8
                go_wp2
                refine bodyPost_ret (results_ev rfl _ rfl (HE8.out.ev0 _ _ _ _ _ _) rfl) rfl ?_
                rw [HNN.out]
                have hEb := HEb.out
                refine ⟨_, _, _, rfl, rfl, EvAt.ev0, HK8.out.trans (Kept.ev0 _ _ _ _ _ _ _ _) (fun k hk e => by omega), HR8.out.kept (Kept.ev0 _ _ _ _ _ _ _ _) (by omega) (fun ad ha => by have := hne ad ha; omega), HSame.out⟩
            · have hs : stepV R = (some (say (waitR R).1), (waitR R).2) := by rw [hs0, if_pos hz2]
              have HNN := Lib.hid (HNR.out.some hs)
              have HW := Lib.hid (fun (u : World) (hu : Below wr.heap.size wr u) => wait_any u (HNR.out.rb.below hu))
              have zb : (z2 == 0) = false := by simpa using hz2
              clear hs hs0 hf hlf hn hl0 hn0 hn1 hg1 hg2 hz2 ht1
              go_wp2_with fail
              refine HG.out.mono ?_
              rintro e w6 ⟨rfl, hb6⟩
              have c2 : w6.cell? ⟨g, 2, none⟩ = some (.slice a n c) := by rw [HN0.out]; exact (HNR.out.rb.below hb6).has.cell 2 rfl
              have HGG := Lib.hid (HG2.out w6 hb6)
              have HB6 := Lib.hid hb6
              clear hb6
              go_wp2_with fail
              refine HGG.out.mono ?_
              rintro e w7 ⟨rfl, hb7⟩
              have hb7 := HB6.out.trans (hb7.mono HB6.out.size)
              have HV := Lib.hid (HW.out w7 hb7)
              have HK7 := Lib.hid (HNR.out.kept.trans (Kept.of_below (X := fun k => k = g) hb7) (fun _ _ h => h))
              have HE7 := Lib.hid (HE.out.kept (Kept.of_below (X := none') hb7) (fun h => h))
              clear hb7
              go_wp2_with fail
              refine HV.out.mono ?_
              rintro e w8 ⟨rfl, hk8, hR8⟩
              have hE8 := HE7.out.kept hk8 (by omega)
              have x0 := hE8.free 0
              have x1 := hE8.free 1
              have x2 := hE8.free 2
              have x3 := hE8.free 3
              have x4 := hE8.free 4
              have x5 := hE8.free 5
              have e0 := hE8.cell 0 rfl
              have e1 := hE8.cell 1 rfl
              have e2 := hE8.cell 2 rfl
              have e3 := hE8.cell 3 rfl
              have e4 := hE8.cell 4 rfl
              have e5 := hE8.cell 5 rfl
              have HK8 := Lib.hid (HK7.out.trans hk8 (fun _ _ h => h))
              have HR8 := Lib.hid hR8
              have HE8 := Lib.hid hE8
              clear hk8 hR8 hE8
              go_wp2
              refine bodyPost_ret (results_ev rfl _ rfl (HE8.out.ev0 _ _ _ _ _ _) rfl) rfl ?_
              rw [HNN.out]
              have hEb := HEb.out
              refine ⟨_, _, _, rfl, rfl, EvAt.ev0, HK8.out.trans (Kept.ev0 _ _ _ _ _ _ _ _) (fun k hk e => by omega), HR8.out.kept (Kept.ev0 _ _ _ _ _ _ _ _) (by omega) (fun ad ha => by have := hne ad ha; omega), HSame.out⟩
          · have hs : stepV R = (some (say (waitR R).1), (waitR R).2) := by rw [hs0, if_pos hz1]
            have HNN := Lib.hid (HNR.out.some hs)
            have HW := Lib.hid (fun (u : World) (hu : Below wr.heap.size wr u) => wait_any u (HNR.out.rb.below hu))
            have zb : (z1 == 0) = false := by simpa using hz1
            clear hs hs0 hf hlf hn hl0 hn0 hn1 hg1 hz1
            go_wp2_with fail
            refine HG.out.mono ?_
            rintro e w7 ⟨rfl, hb7⟩
            have HV := Lib.hid (HW.out w7 hb7)
            have HK7 := Lib.hid (HNR.out.kept.trans (Kept.of_below (X := fun k => k = g) hb7) (fun _ _ h => h))
            have HE7 := Lib.hid (HE.out.kept (Kept.of_below (X := none') hb7) (fun h => h))
            clear hb7
            go_wp2_with fail
            refine HV.out.mono ?_
            rintro e w8 ⟨rfl, hk8, hR8⟩
            have hE8 := HE7.out.kept hk8 (by omega)
            have x0 := hE8.free 0
            have x1 := hE8.free 1
            have x2 := hE8.free 2
            have x3 := hE8.free 3
            have x4 := hE8.free 4
            have x5 := hE8.free 5
            have e0 := hE8.cell 0 rfl
            have e1 := hE8.cell 1 rfl
            have e2 := hE8.cell 2 rfl
            have e3 := hE8.cell 3 rfl
            have e4 := hE8.cell 4 rfl
            have e5 := hE8.cell 5 rfl
            have HK8 := Lib.hid (HK7.out.trans hk8 (fun _ _ h => h))
            have HR8 := Lib.hid hR8
            have HE8 := Lib.hid hE8
            clear hk8 hR8 hE8
            go_wp2
            refine bodyPost_ret (results_ev rfl _ rfl (HE8.out.ev0 _ _ _ _ _ _) rfl) rfl ?_
            rw [HNN.out]
            have hEb := HEb.out
            refine ⟨_, _, _, rfl, rfl, EvAt.ev0, HK8.out.trans (Kept.ev0 _ _ _ _ _ _ _ _) (fun k hk e => by omega), HR8.out.kept (Kept.ev0 _ _ _ _ _ _ _ _) (by omega) (fun ad ha => by have := hne ad ha; omega), HSame.out⟩
    · have hff : (f == 0) = false := by simpa using hf0
      have hs : stepV R = (some (say f), R) := by
        unfold stepV
        rw [if_pos (by rw [← hf]; exact hf0), ← hf]
      have HNN := Lib.hid (HNR.out.some hs)
      have HK7 := Lib.hid HNR.out.kept
      have d5 : wr.drew.cell? ⟨g, 5, none⟩ = some (.int .i64 f) := c5
      have HSame := Lib.hid HNR.out.same
      have HF := Lib.hid hf
      clear hs hf hf0
      have hE3 : Has wr.drew eb 32 evz := HE.out.kept (Kept.drew none' wr) (fun h => h)
      have hk9 := Kept.ev0 wr.drew eb (.int .i64 0) (.slice none 0 0) (.int .i64 0) (.int .i64 0) (.int .i64 0) (.int .i64 0)
      have hR9 := (HNR.out.rb.kept (Kept.drew none' wr) (fun h => h) (fun _ _ h => h)).kept hk9 (by omega) (fun ad ha => by have := hne ad ha; omega)
      have d9 := hR9.has.cell 5 rfl
      rw [← HF.out] at d9
      have D9 := Lib.hid d9
      clear d9
      have HE3 := Lib.hid hE3
      have HE9 := Lib.hid (hE3.ev0 (.int .i64 0) (.slice none 0 0) (.int .i64 0) (.int .i64 0) (.int .i64 0) (.int .i64 0))
      have HK9 := Lib.hid ((HK7.out.trans (Kept.drew none' wr) (fun _ _ h => h.elim)).trans hk9 (fun k hk e => by have := HEb.out; omega))
      have HR9 := Lib.hid hR9
      clear hE3 hk9 hR9
      go_wp2_with fail
      refine Mx.region [] (fun w' => w'.cell? ⟨g, 5, none⟩ = some (.int .i64 f)) (by kernel_rfl) (by kernel_rfl) d5 ?_
      repeat ((first | (refine Mx.skips (by kernel_rfl) ?_; go_big_quiet_skip) | (refine Mx.quietly rfl ?_; go_big_quiet_want; go_big_quiet_op; go_big_quiet_on)); refine Mx.done ?_)
      refine Mx.cell ⟨g, 5, none⟩ (.int .i64 f) (by kernel_rfl) (by kernel_rfl) (by kernel_rfl) Try.isAgg37 (fun w' h => h) ?_
      go_big_quiet_want; go_big_quiet_op; go_big_quiet_on; refine Mx.done ?_
      repeat ((first | (refine Mx.skips (by kernel_rfl) ?_; go_big_quiet_skip) | (refine Mx.quietly rfl ?_; go_big_quiet_want; go_big_quiet_op; go_big_quiet_on)); refine Mx.done ?_)
      have xx0 := HE3.out.free 0
      have xx1 := HE3.out.free 1
      have xx2 := HE3.out.free 2
      have xx3 := HE3.out.free 3
      have xx4 := HE3.out.free 4
      have xx5 := HE3.out.free 5
      have e0 := HE3.out.cell 0 rfl
      have e1 := HE3.out.cell 1 rfl
      have e2 := HE3.out.cell 2 rfl
      have e3 := HE3.out.cell 3 rfl
      have e4 := HE3.out.cell 4 rfl
      have e5 := HE3.out.cell 5 rfl
      have x0 := HE.out.free 0
      have x1 := HE.out.free 1
      have x2 := HE.out.free 2
      have x3 := HE.out.free 3
      have x4 := HE.out.free 4
      have x5 := HE.out.free 5
      have ee0 := HE.out.cell 0 rfl
      have ee1 := HE.out.cell 1 rfl
      have ee2 := HE.out.cell 2 rfl
      have ee3 := HE.out.cell 3 rfl
      have ee4 := HE.out.cell 4 rfl
      have ee5 := HE.out.cell 5 rfl
      refine Mx.loudly (by kernel_rfl) (by kernel_rfl) ?_
      have d9 := D9.out
      go_wp2_with fail
      repeat ((first | (refine Mx.skips (by kernel_rfl) ?_; go_big_quiet_skip) | (refine Mx.quietly rfl ?_; go_big_quiet_want; go_big_quiet_op; go_big_quiet_on)); refine Mx.done ?_)
      refine Mx.nil ?_
      go_wp2
      rw [drew_set6]
      refine bodyPost_ret (results_ev rfl _ rfl HE9.out rfl) rfl ?_
      rw [HNN.out]
      exact ⟨_, _, _, rfl, rfl, EvAt.ev0, HK9.out, HR9.out, HSame.out⟩
end Go.Proofs.Ytbplmnmkgkgkhaa

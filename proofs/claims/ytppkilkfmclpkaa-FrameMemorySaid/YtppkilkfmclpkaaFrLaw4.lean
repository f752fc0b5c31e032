/- FrameMemory answers true. -/
import Derived.Test.YtppkilkfmclpkaaFrAwk
import Derived.Test.YtppkilkfmclpkaaFrSm
import Derived.Test.YtppkilkfmclpkaaRdC
namespace Go.Proofs.Ytppkilkfmclpkaa
open Go.RowKit

/-- frames' row whose own rows may be written over -/
structure FSh (w : World) (B M : Nat) (a : Option Addr) (c : Nat) (L : List (Fm × FA)) : Prop where
  row : w.ownsRow B 26 13 (.slice a L.length c) L.length (fsv L)
  own : ∀ p ∈ L, ∃ f', FOwn w B f' p.2 ∧ f'.data.length = p.1.data.length ∧ f'.cid.length = p.1.cid.length ∧ f'.spans.length = p.1.spans.length
  lt : ∀ p ∈ L, ∀ k, (blk p.2.da k ∨ blk p.2.ca k ∨ blk p.2.sa k) → k < M
theorem FSh.of {w : World} {B : Nat} {a : Option Addr} {c : Nat} {L : List (Fm × FA)} (h : FRow 26 w B a c L) : FSh w B w.heap.size a c L :=
  ⟨h.row, fun p hp => ⟨p.1, h.own p hp, rfl, rfl, rfl⟩, fun p hp k hk => by
    rcases hk with hk | hk | hk
    · exact (ownsRow_ge (h.own p hp).data k hk).2
    · exact (ownsRow_ge (h.own p hp).cid k hk).2
    · exact (ownsRow_ge (h.own p hp).spans k hk).2⟩
theorem FSh.below {w w' : World} {B M : Nat} {a : Option Addr} {c : Nat} {L : List (Fm × FA)} (h : FSh w B M a c L) (hb : Below w.heap.size w w') : FSh w' B M a c L :=
  ⟨own_below h.row hb, fun p hp => by obtain ⟨f', ho, e⟩ := h.own p hp; exact ⟨f', ho.below hb, e⟩, h.lt⟩
/-- a row's place is at its block's begin -/
theorem own_at {w : World} {B e s n c k : Nat} {a : Option Addr} {xs : List Value} (h : w.ownsRow B e s (.slice a n c) n xs) (hk : Value.ownBlock (.slice a n c) = some k) : a = some ⟨k, 0, none⟩ := by
  rcases h.2 with ⟨hv, _⟩ | ⟨g, cap, cur, hv, _⟩
  · rw [hv] at hk; cases hk
  · rw [hv] at hk
    simp only [Value.ownBlock, Option.some.injEq] at hk
    simp only [Value.slice.injEq] at hv
    rw [hv.1, hk]
theorem own_byte {w : World} {B B' s n c n' c' : Nat} {a : Option Addr} {ys : List UInt8} {xs' : List Value} (h : w.ownsRow B 5 1 (.slice a n c) n (bv ys)) (_ : w.ownsRow B' 5 1 (.slice (some ⟨s, 0, none⟩) n' c') n' xs') (j : Nat) (z : UInt8) :
    ∃ ys', ys'.length = ys.length ∧ (w.setCell ⟨s, j, none⟩ (.int .u8 (z.toNat : Int))).ownsRow B 5 1 (.slice a n c) n (bv ys') := by
  by_cases ha : a = some ⟨s, 0, none⟩
  · subst ha
    have h1 := own_sets h j (.int .u8 (z.toNat : Int))
    refine ⟨ys.set j z, by simp, ?_⟩
    have e : bv (ys.set j z) = (bv ys).set j (.int .u8 (z.toNat : Int)) := by simp [bv, List.map_set]
    rw [e]; exact h1
  · refine ⟨ys, rfl, own_kept h (Kept.set w s j _) (fun k hk e => ha ?_)⟩
    rw [own_at h hk, e]
theorem sv_set : ∀ (l : List Sn) (j : Nat) (z : Int), ∃ l', l'.length = l.length ∧ (sv l).set (j * 2) (.int .i64 z) = sv l'
  | [], j, z => ⟨[], rfl, by simp [sv]⟩
  | x :: r, 0, z => ⟨⟨z, x.to_⟩ :: r, by simp, by simp [sv, scells]⟩
  | x :: r, j + 1, z => by
    obtain ⟨l', h1, h2⟩ := sv_set r j z
    refine ⟨x :: l', by simp [h1], ?_⟩
    rw [show (j + 1) * 2 = j * 2 + 1 + 1 by omega]
    simp only [sv, scells, List.cons_append, List.nil_append, List.set_cons_succ, h2]
theorem own_span {w : World} {B B' s n c n' c' : Nat} {a : Option Addr} {ys : List Sn} {xs' : List Value} (h : w.ownsRow B 53 2 (.slice a n c) n (sv ys)) (_ : w.ownsRow B' 53 2 (.slice (some ⟨s, 0, none⟩) n' c') n' xs') (j : Nat) (z : Int) :
    ∃ ys', ys'.length = ys.length ∧ (w.setCell ⟨s, j * 2, none⟩ (.int .i64 z)).ownsRow B 53 2 (.slice a n c) n (sv ys') := by
  by_cases ha : a = some ⟨s, 0, none⟩
  · subst ha
    have h1 := own_sets h (j * 2) (.int .i64 z)
    obtain ⟨l', e1, e2⟩ := sv_set ys j z
    rw [e2] at h1
    exact ⟨l', e1, h1⟩
  · refine ⟨ys, rfl, own_kept h (Kept.set w s (j * 2) _) (fun k hk e => ha ?_)⟩
    rw [own_at h hk, e]
theorem FSh.byte {w : World} {B B' M : Nat} {a : Option Addr} {c : Nat} {L : List (Fm × FA)} (h : FSh w B M a c L) {s n' c' : Nat} {xs' : List Value} (hs : w.ownsRow B' 5 1 (.slice (some ⟨s, 0, none⟩) n' c') n' xs') (j : Nat) (z : UInt8) :
    FSh (w.setCell ⟨s, j, none⟩ (.int .u8 (z.toNat : Int))) B M a c L :=
  ⟨own_rows h.row hs (by decide) j _, fun p hp => by
    obtain ⟨f', ⟨d, ci, sp⟩, e1, e2, e3⟩ := h.own p hp
    obtain ⟨d', l1, o1⟩ := own_byte d hs j z
    obtain ⟨c', l2, o2⟩ := own_byte ci hs j z
    rw [← l1] at o1
    rw [← l2] at o2
    refine ⟨{ f' with data := d', cid := c' }, ⟨o1, o2, own_rows sp hs (by decide) j _⟩, l1.trans e1, l2.trans e2, e3⟩, h.lt⟩
theorem FSh.span {w : World} {B B' M : Nat} {a : Option Addr} {c : Nat} {L : List (Fm × FA)} (h : FSh w B M a c L) {s n' c' : Nat} {xs' : List Value} (hs : w.ownsRow B' 53 2 (.slice (some ⟨s, 0, none⟩) n' c') n' xs') (j : Nat) (z : Int) :
    FSh (w.setCell ⟨s, j * 2, none⟩ (.int .i64 z)) B M a c L :=
  ⟨own_rows h.row hs (by decide) (j * 2) _, fun p hp => by
    obtain ⟨f', ⟨d, ci, sp⟩, e1, e2, e3⟩ := h.own p hp
    obtain ⟨l', l1, o1⟩ := own_span sp hs j z
    rw [← l1] at o1
    refine ⟨{ f' with spans := l' }, ⟨own_rows d hs (by decide) (j * 2) _, own_rows ci hs (by decide) (j * 2) _, o1⟩, e1, e2, l1.trans e3⟩, h.lt⟩
/-- what holds while the told frames are written over -/
def WRel (w5 : World) (B M : Nat) (a : Option Addr) (c : Nat) (L : List (Fm × FA)) (v : Value) (wr : World) : Prop :=
  ∃ i : Nat, v = .int .i64 (i : Int) ∧ FSh wr B M a c L ∧ Kept (fun k => B ≤ k ∧ k < M) w5 wr
/-- the frame at place i: where its row of bytes lies -/
structure AtD (wr : World) (sd j : Nat) (y : UInt8) : Prop where
  cell : wr.cell? ⟨sd, j, none⟩ = some (.int .u8 (y.toNat : Int))
  free : wr.frozen? ⟨sd, j, none⟩ = false
theorem bytes_at {w : World} {B n c : Nat} {a : Option Addr} {ys : List UInt8} (h : w.ownsRow B 5 1 (.slice a n c) n (bv ys)) (hl : ys.length = n) {j : Nat} (hj : j < n) :
    ∃ sd y, a = some ⟨sd, 0, none⟩ ∧ AtD w sd j y ∧ n ≤ c ∧ c ≤ maxLen := by
  obtain ⟨s, hs, hc, hf, h1, h2⟩ := own_cell h hj
  have hj' : j < ys.length := by omega
  rw [bv_get ys j hj'] at hc
  exact ⟨s, _, hs, ⟨hc, hf⟩, h1, h2⟩
theorem spans_at {w : World} {B n c : Nat} {a : Option Addr} {ys : List Sn} (h : w.ownsRow B 53 2 (.slice a n c) n (sv ys)) (hl : ys.length = n) {j : Nat} (hj : j < n) :
    ∃ sd y, a = some ⟨sd, 0, none⟩ ∧ w.cell? ⟨sd, j * 2, none⟩ = some (.int .i64 y) ∧ w.frozen? ⟨sd, j * 2, none⟩ = false ∧ n ≤ c ∧ c ≤ maxLen := by
  rcases h.2 with ⟨hv, h0⟩ | ⟨g, cap, cur, hv, hB, hg, hnc, hcm, hcs, ht⟩
  · simp only [Value.slice.injEq] at hv; omega
  · simp only [Value.slice.injEq, true_and] at hv
    obtain ⟨rfl, rfl⟩ := hv
    have hj' : j < ys.length := by omega
    have h1 := sv_get ys j 0 hj' (by decide)
    rw [Nat.add_zero] at h1
    have h2 := h.cells (show Value.ownBlock (.slice (some ⟨g, 0, none⟩) n c) = some g from rfl) (j * 2) (.int .i64 ys[j].from_) (by rw [h1]; rfl)
    rw [addr_add, Nat.zero_add] at h2
    exact ⟨g, _, rfl, h2, by simp [World.frozen?, hg], hnc, hcm⟩
theorem xor8k : ∀ k : Nat, k < 256 → Go.bits .xor .u8 (if IntKind.u8.signed = true then -1 else IntKind.u8.max) (k : Int) = ((255 - k : Nat) : Int) := by decide +kernel
theorem xor8 (y : UInt8) : ∃ z : UInt8, Go.bits .xor .u8 (if IntKind.u8.signed = true then -1 else IntKind.u8.max) (y.toNat : Int) = (z.toNat : Int) := by
  refine ⟨UInt8.ofNat (255 - y.toNat), ?_⟩
  rw [xor8k y.toNat y.toNat_lt]
  simp only [UInt8.toNat_ofNat']
  omega
theorem fmj1 {k n : Nat} (h : k < n) (hn : n ≤ maxLen) : (k : Int) < (n : Int) ∧ IntKind.i64.wrap ((k : Int) + 1) = ((k + 1 : Nat) : Int) ∧ RowKit.wrap64 ((k : Int) + 1) = ((k + 1 : Nat) : Int) := by
  unfold maxLen at hn
  rw [IntKind.wrap_i64]; unfold RowKit.wrap64; omega
theorem FRow.keptB {X : Nat → Prop} {T : TypeId} {w w' : World} {B : Nat} {a : Option Addr} {c : Nat} {l : List (Fm × FA)} (h : FRow T w B a c l) (hk : Kept X w w') (hx : ∀ k, B ≤ k → ¬ X k) : FRow T w' B a c l :=
  ⟨own_kept h.row hk (fun k e => hx k (ownsRow_ge h.row k (blk_own e)).1), fun p hp => (h.own p hp).kept hk (fun k e => hx k (by
    rcases e with e | e | e
    · exact (ownsRow_ge (h.own p hp).data k e).1
    · exact (ownsRow_ge (h.own p hp).cid k e).1
    · exact (ownsRow_ge (h.own p hp).spans k e).1))⟩
set_option maxRecDepth 100000 in
set_option maxHeartbeats 4000000 in
/-- FrameMemory -/
theorem memory_any (w : World) {a : Option Addr} {n c : Nat} {l : List UInt8} (h : Sl w a n c (bv l)) (hn : n * 1 ≤ 140737488351232) : Calls Try.prog 8 #[.slice a n c] w (BoolOf w true) := by
  have HCo := Lib.hid (copy_any w h (by omega))
  have HS := Lib.hid h
  have HNl := Lib.hid h.byte
  clear h hn
  go_enter Try.func8, Try.ntmps8
  go_wp2_with fail
  refine HCo.out.mono ?_
  rintro e w2 ⟨a2, c2, he, ho2, hb2⟩
  obtain rfl : e = .returned (.slice a2 n c2) := by rw [he, HNl.out]
  rw [HNl.out] at ho2
  have HO2 := Lib.hid ho2
  have HD := Lib.hid (decode_any w2 (own_sl ho2))
  have HB2 := Lib.hid hb2
  clear ho2 hb2 he
  obtain ⟨r, hr⟩ : ∃ r, r = decV l := ⟨_, rfl⟩
  rw [← hr] at HD
  have HR := Lib.hid hr
  clear hr
  obtain ⟨fs, t, er⟩ := r
  go_wp2_with fail
  refine HD.out.mono ?_
  rintro e w3 ⟨a3, c3, L3, he, hrow3, hL3, hb3⟩
  have HB3 := Lib.hid hb3
  have HO3 := Lib.hid (own_below HO2.out hb3)
  have HD3 := Lib.hid (decode_any w3 (own_sl HO3.out))
  rw [← HR.out] at HD3
  have HRow3 := Lib.hid hrow3
  obtain ⟨n3, hn3⟩ : ∃ n3, n3 = L3.length := ⟨_, rfl⟩
  obtain rfl : e = .returned (.tuple #[.slice a3 n3 c3, .int .i64 (t : Int), .int .i64 er]) := by rw [hn3]; exact he
  have HN3 := Lib.hid hn3
  clear hrow3 hL3 hb3 he hn3
  go_wp2_with fail
  refine HD3.out.mono ?_
  rintro e w4 ⟨a4, c4, L4, he, hrow4, hL4, hb4⟩
  have HB4 := Lib.hid (HB3.out.trans (hb4.mono HB3.out.size))
  have HB4' := Lib.hid hb4
  have HO4 := Lib.hid (own_below HO3.out hb4)
  have HRd := Lib.hid (rdecode_any w4 (HS.out.below (HB2.out.trans (HB4.out.mono HB2.out.size))))
  rw [← HR.out] at HRd
  have HRow4 := Lib.hid hrow4
  have HL4 := Lib.hid hL4
  obtain ⟨n4, hn4⟩ : ∃ n4, n4 = L4.length := ⟨_, rfl⟩
  obtain rfl : e = .returned (.tuple #[.slice a4 n4 c4, .int .i64 (t : Int), .int .i64 er]) := by rw [hn4]; exact he
  have HN4 := Lib.hid hn4
  clear hrow4 hL4 hb4 he hn4
  go_wp2_with fail
  refine HRd.out.mono ?_
  rintro e w5 ⟨a5, c5, L5, he, hrow5, hL5, hb5⟩
  have HB5 := Lib.hid (HB4.out.trans (hb5.mono HB4.out.size))
  have HO5 := Lib.hid (own_below HO4.out hb5)
  have HRow45 := Lib.hid (HRow4.out.below hb5)
  have HRow5 := Lib.hid hrow5
  have HSt5 := Lib.hid (Nat.le_trans HB4'.out.size hb5.size)
  have HM4 := Lib.hid HB4'.out.size
  have HL5 := Lib.hid (HL4.out.trans hL5.symm)
  obtain ⟨n5, hn5⟩ : ∃ n5, n5 = L5.length := ⟨_, rfl⟩
  obtain rfl : e = .returned (.tuple #[.slice a5 n5 c5, .int .i64 (t : Int), .int .i64 er]) := by rw [hn5]; exact he
  have HN5 := Lib.hid hn5
  have HSh0 : Hid (FSh w5 w2.heap.size w3.heap.size a3 c3 L3) := Lib.hid (((FSh.of HRow3.out).below HB4'.out).below hb5)
  clear hrow5 hL5 hb5 he hn5
  go_wp2_with fail
  go_loopw [40] (fun v wr => WRel w5 w2.heap.size w3.heap.size a3 c3 L3 v wr) (fun v _ => n3 - (intOf v).toNat)
  case atStart => exact ⟨0, rfl, HSh0.out, Kept.refl _ _⟩
  case round =>
    obtain ⟨i, rfl, hsh, hkp⟩ := hrel
    have HSh := Lib.hid hsh
    have HKp := Lib.hid hkp
    clear hsh hkp
    by_cases hi : i < n3
    · have HI := Lib.hid hi
      have HIl : Hid (i < L3.length) := Lib.hid (by rw [← HN3.out]; exact hi)
      obtain ⟨s3, hs3, -, -, hn1, hn2⟩ := own_fr HSh.out.row rfl HIl.out
      obtain ⟨z1, z2, z3⟩ := fmj1 hi (by rw [HN3.out]; exact Nat.le_trans hn1 hn2)
      obtain ⟨p, hp⟩ : ∃ p, p = L3[i]'HIl.out := ⟨_, rfl⟩
      have HP := Lib.hid hp
      have HPm : Hid (p ∈ L3) := Lib.hid (by rw [hp]; exact List.getElem_mem HIl.out)
      clear hi hp hn1 hn2
      subst hs3
      obtain ⟨s3', hs3, hc3, -⟩ := own_fr HSh.out.row rfl HIl.out
      cases hs3
      have hcl := hc3 6 (by decide)
      rw [← HP.out] at hcl
      replace hcl : wr.cell? ⟨s3, i * 13 + 6, none⟩ = some (.slice p.2.da p.1.data.length p.2.dc) := hcl
      obtain ⟨dn, hdn⟩ : ∃ dn, dn = p.1.data.length := ⟨_, rfl⟩
      rw [← hdn] at hcl
      have Hdn := Lib.hid hdn
      clear hdn hc3
      go_wp2_with fail
      clear hcl
      go_loopw [49] (fun v wr => WRel w5 w2.heap.size w3.heap.size (some ⟨s3, 0, none⟩) c3 L3 v wr) (fun v _ => dn - (intOf v).toNat)
      case atStart => exact ⟨0, rfl, HSh.out, HKp.out⟩
      case round =>
        obtain ⟨j, rfl, hsh2, hkp2⟩ := hrel
        have HSh := Lib.hid hsh2
        have HKp := Lib.hid hkp2
        clear hsh2 hkp2
        by_cases hj : j < dn
        · have HJ := Lib.hid hj
          obtain ⟨f', ho, q1, q2, q3⟩ := HSh.out.own p HPm.out
          have hl : f'.data.length = dn := (q1).trans Hdn.out.symm
          have hrow := ho.data
          rw [hl] at hrow
          obtain ⟨sd, y, hsd, hat, hn1, hn2⟩ := bytes_at hrow hl hj
          obtain ⟨z1, z2, z3⟩ := fmj1 hj (Nat.le_trans hn1 hn2)
          obtain ⟨z, hz⟩ := xor8 y
          rw [hsd] at hrow
          have HSh2 := Lib.hid (HSh.out.byte hrow j z)
          have HKp2 : Hid (Kept (fun k => w2.heap.size ≤ k ∧ k < w3.heap.size) w5 (wr.setCell ⟨sd, j, none⟩ (.int .u8 (z.toNat : Int)))) := Lib.hid (HKp.out.trans (Kept.set wr sd j _) (fun k _ e => by
            rw [e]
            have hb : blk p.2.da sd := ⟨_, hsd, rfl⟩
            exact ⟨(ownsRow_ge ho.data sd hb).1, HSh.out.lt p HPm.out sd (.inl hb)⟩))
          obtain ⟨s3', hs3, hc3, -⟩ := own_fr HSh.out.row rfl HIl.out
          cases hs3
          have hcl := hc3 6 (by decide)
          rw [← HP.out] at hcl
          replace hcl : wr.cell? ⟨s3, i * 13 + 6, none⟩ = some (.slice p.2.da p.1.data.length p.2.dc) := hcl
          rw [hsd, ← Hdn.out] at hcl
          have HSat : Hid (Sat [(⟨s3, i * 13 + 6, none⟩, .slice (some ⟨sd, 0, none⟩) dn p.2.dc), (⟨sd, j, none⟩, .int .u8 (y.toNat : Int))] wr.drew) := Lib.hid (Sat.cons (w := wr.drew) hcl (Sat.cons (w := wr.drew) hat.cell (Sat.nil _)))
          have hfr := hat.free
          have hcy : wr.cell? ⟨sd, j, none⟩ = some (.int .u8 (y.toNat : Int)) := hat.cell
          clear hj ho q1 q2 q3 hl hrow hsd hat hn1 hc3 hcl
          go_upto_region 11 with fail
          refine Mx.regionZ [] (Sat [(⟨s3, i * 13 + 6, none⟩, .slice (some ⟨sd, 0, none⟩) dn p.2.dc), (⟨sd, j, none⟩, .int .u8 (y.toNat : Int))]) (by kernel_rfl) (by kernel_rfl) HSat.out ?_
          repeat ((first | (refine Mx.skips (by kernel_rfl) ?_; go_big_quiet_skip) | (refine Mx.quietly rfl ?_; go_big_quiet_want; go_big_quiet_op; go_big_quiet_on)); refine Mx.done ?_)
          refine Mx.cell ⟨s3, i * 13 + 6, none⟩ (.slice (some ⟨sd, 0, none⟩) dn p.2.dc) (by kernel_rfl) (by kernel_rfl) (by kernel_rfl) Try.isAgg22 (fun w' h => h 0 _ _ rfl) ?_
          go_big_quiet_want; go_big_quiet_op; go_big_quiet_on; refine Mx.done ?_
          repeat ((first | (refine Mx.skips (by kernel_rfl) ?_; go_big_quiet_skip) | (refine Mx.quietly rfl ?_; go_big_quiet_want; go_big_quiet_op; go_big_quiet_on)); refine Mx.done ?_)
          refine Mx.cell ⟨s3, i * 13 + 6, none⟩ (.slice (some ⟨sd, 0, none⟩) dn p.2.dc) (by kernel_rfl) (by kernel_rfl) (by kernel_rfl) Try.isAgg22 (fun w' h => h 0 _ _ rfl) ?_
          go_big_quiet_want; go_big_quiet_op; go_big_quiet_on; refine Mx.done ?_
          repeat ((first | (refine Mx.skips (by kernel_rfl) ?_; go_big_quiet_skip) | (refine Mx.quietly rfl ?_; go_big_quiet_want; go_big_quiet_op; go_big_quiet_on)); refine Mx.done ?_)
          refine Mx.cell ⟨sd, j, none⟩ (.int .u8 (y.toNat : Int)) (by kernel_rfl) (by kernel_rfl) (by kernel_rfl) Try.isAgg5 (fun w' h => h 1 _ _ rfl) ?_
          go_big_quiet_want; go_big_quiet_op; go_big_quiet_on; refine Mx.done ?_
          repeat ((first | (refine Mx.skips (by kernel_rfl) ?_; go_big_quiet_skip) | (refine Mx.quietly rfl ?_; go_big_quiet_want; go_big_quiet_op; go_big_quiet_on)); refine Mx.done ?_)
          refine Mx.atLast (by kernel_rfl) (by kernel_rfl) ?_
          go_wp2_with fail
          go_roundw
          case rel => exact ⟨j + 1, by first | rfl | (push_cast; rfl), HSh2.out.below (below_drewN (Below.refl _ _) 1), HKp2.out.trans (Kept.drew (fun k => w2.heap.size ≤ k ∧ k < w3.heap.size) _) (fun _ _ h => h)⟩
          case measure => exact ssj3 HJ.out
        · have z4 := ssj2 hj
          clear hj
          obtain ⟨s3', hs3, hc3, -⟩ := own_fr HSh.out.row rfl HIl.out
          cases hs3
          have hcl := hc3 7 (by decide)
          rw [← HP.out] at hcl
          replace hcl : wr.cell? ⟨s3, i * 13 + 7, none⟩ = some (.slice p.2.ca p.1.cid.length p.2.cc) := hcl
          obtain ⟨cn, hcn⟩ : ∃ cn, cn = p.1.cid.length := ⟨_, rfl⟩
          rw [← hcn] at hcl
          have Hcn := Lib.hid hcn
          clear hcn hc3
          go_wp2_with fail
          clear hcl
          go_loopw [75] (fun v wr => WRel w5 w2.heap.size w3.heap.size (some ⟨s3, 0, none⟩) c3 L3 v wr) (fun v _ => cn - (intOf v).toNat)
          case atStart => exact ⟨0, rfl, HSh.out, HKp.out⟩
          case round =>
            obtain ⟨j, rfl, hsh2, hkp2⟩ := hrel
            have HSh := Lib.hid hsh2
            have HKp := Lib.hid hkp2
            clear hsh2 hkp2
            by_cases hj : j < cn
            · have HJ := Lib.hid hj
              obtain ⟨f', ho, q1, q2, q3⟩ := HSh.out.own p HPm.out
              have hl : f'.cid.length = cn := (q2).trans Hcn.out.symm
              have hrow := ho.cid
              rw [hl] at hrow
              obtain ⟨sd, y, hsd, hat, hn1, hn2⟩ := bytes_at hrow hl hj
              obtain ⟨z1, z2, z3⟩ := fmj1 hj (Nat.le_trans hn1 hn2)
              obtain ⟨z, hz⟩ := xor8 y
              rw [hsd] at hrow
              have HSh2 := Lib.hid (HSh.out.byte hrow j z)
              have HKp2 : Hid (Kept (fun k => w2.heap.size ≤ k ∧ k < w3.heap.size) w5 (wr.setCell ⟨sd, j, none⟩ (.int .u8 (z.toNat : Int)))) := Lib.hid (HKp.out.trans (Kept.set wr sd j _) (fun k _ e => by
                rw [e]
                have hb : blk p.2.ca sd := ⟨_, hsd, rfl⟩
                exact ⟨(ownsRow_ge ho.cid sd hb).1, HSh.out.lt p HPm.out sd (.inr <| .inl hb)⟩))
              obtain ⟨s3', hs3, hc3, -⟩ := own_fr HSh.out.row rfl HIl.out
              cases hs3
              have hcl := hc3 7 (by decide)
              rw [← HP.out] at hcl
              replace hcl : wr.cell? ⟨s3, i * 13 + 7, none⟩ = some (.slice p.2.ca p.1.cid.length p.2.cc) := hcl
              rw [hsd, ← Hcn.out] at hcl
              have HSat : Hid (Sat [(⟨s3, i * 13 + 7, none⟩, .slice (some ⟨sd, 0, none⟩) cn p.2.cc), (⟨sd, j, none⟩, .int .u8 (y.toNat : Int))] wr.drew) := Lib.hid (Sat.cons (w := wr.drew) hcl (Sat.cons (w := wr.drew) hat.cell (Sat.nil _)))
              have hfr := hat.free
              have hcy : wr.cell? ⟨sd, j, none⟩ = some (.int .u8 (y.toNat : Int)) := hat.cell
              clear hj ho q1 q2 q3 hl hrow hsd hat hn1 hc3 hcl
              go_upto_region 16 with fail
              refine Mx.regionZ [] (Sat [(⟨s3, i * 13 + 7, none⟩, .slice (some ⟨sd, 0, none⟩) cn p.2.cc), (⟨sd, j, none⟩, .int .u8 (y.toNat : Int))]) (by kernel_rfl) (by kernel_rfl) HSat.out ?_
              repeat ((first | (refine Mx.skips (by kernel_rfl) ?_; go_big_quiet_skip) | (refine Mx.quietly rfl ?_; go_big_quiet_want; go_big_quiet_op; go_big_quiet_on)); refine Mx.done ?_)
              refine Mx.cell ⟨s3, i * 13 + 7, none⟩ (.slice (some ⟨sd, 0, none⟩) cn p.2.cc) (by kernel_rfl) (by kernel_rfl) (by kernel_rfl) Try.isAgg22 (fun w' h => h 0 _ _ rfl) ?_
              go_big_quiet_want; go_big_quiet_op; go_big_quiet_on; refine Mx.done ?_
              repeat ((first | (refine Mx.skips (by kernel_rfl) ?_; go_big_quiet_skip) | (refine Mx.quietly rfl ?_; go_big_quiet_want; go_big_quiet_op; go_big_quiet_on)); refine Mx.done ?_)
              refine Mx.cell ⟨s3, i * 13 + 7, none⟩ (.slice (some ⟨sd, 0, none⟩) cn p.2.cc) (by kernel_rfl) (by kernel_rfl) (by kernel_rfl) Try.isAgg22 (fun w' h => h 0 _ _ rfl) ?_
              go_big_quiet_want; go_big_quiet_op; go_big_quiet_on; refine Mx.done ?_
              repeat ((first | (refine Mx.skips (by kernel_rfl) ?_; go_big_quiet_skip) | (refine Mx.quietly rfl ?_; go_big_quiet_want; go_big_quiet_op; go_big_quiet_on)); refine Mx.done ?_)
              refine Mx.cell ⟨sd, j, none⟩ (.int .u8 (y.toNat : Int)) (by kernel_rfl) (by kernel_rfl) (by kernel_rfl) Try.isAgg5 (fun w' h => h 1 _ _ rfl) ?_
              go_big_quiet_want; go_big_quiet_op; go_big_quiet_on; refine Mx.done ?_
              repeat ((first | (refine Mx.skips (by kernel_rfl) ?_; go_big_quiet_skip) | (refine Mx.quietly rfl ?_; go_big_quiet_want; go_big_quiet_op; go_big_quiet_on)); refine Mx.done ?_)
              refine Mx.atLast (by kernel_rfl) (by kernel_rfl) ?_
              go_wp2_with fail
              go_roundw
              case rel => exact ⟨j + 1, by first | rfl | (push_cast; rfl), HSh2.out.below (below_drewN (Below.refl _ _) 1), HKp2.out.trans (Kept.drew (fun k => w2.heap.size ≤ k ∧ k < w3.heap.size) _) (fun _ _ h => h)⟩
              case measure => exact ssj3 HJ.out
            · have z4 := ssj2 hj
              clear hj
              obtain ⟨s3', hs3, hc3, -⟩ := own_fr HSh.out.row rfl HIl.out
              cases hs3
              have hcl := hc3 8 (by decide)
              rw [← HP.out] at hcl
              replace hcl : wr.cell? ⟨s3, i * 13 + 8, none⟩ = some (.slice p.2.sa p.1.spans.length p.2.sc) := hcl
              obtain ⟨sn, hsn⟩ : ∃ sn, sn = p.1.spans.length := ⟨_, rfl⟩
              rw [← hsn] at hcl
              have Hsn := Lib.hid hsn
              clear hsn hc3
              go_wp2_with fail
              clear hcl
              go_loopw [101] (fun v wr => WRel w5 w2.heap.size w3.heap.size (some ⟨s3, 0, none⟩) c3 L3 v wr) (fun v _ => sn - (intOf v).toNat)
              case atStart => exact ⟨0, rfl, HSh.out, HKp.out⟩
              case round =>
                obtain ⟨j, rfl, hsh2, hkp2⟩ := hrel
                have HSh := Lib.hid hsh2
                have HKp := Lib.hid hkp2
                clear hsh2 hkp2
                by_cases hj : j < sn
                · have HJ := Lib.hid hj
                  obtain ⟨f', ho, q1, q2, q3⟩ := HSh.out.own p HPm.out
                  have hl : f'.spans.length = sn := (q3).trans Hsn.out.symm
                  have hrow := ho.spans
                  unfold Sps at hrow
                  rw [hl] at hrow
                  obtain ⟨sd, y, hsd, hcy, hfr, hn1, hn2⟩ := spans_at hrow hl hj
                  obtain ⟨z1, z2, z3⟩ := fmj1 hj (Nat.le_trans hn1 hn2)
                  rw [hsd] at hrow
                  have HSh2 := Lib.hid (HSh.out.span hrow j (-5))
                  have HKp2 : Hid (Kept (fun k => w2.heap.size ≤ k ∧ k < w3.heap.size) w5 (wr.setCell ⟨sd, j * 2, none⟩ (.int .i64 (-5)))) := Lib.hid (HKp.out.trans (Kept.set wr sd (j * 2) _) (fun k _ e => by
                    rw [e]
                    have hb : blk p.2.sa sd := ⟨_, hsd, rfl⟩
                    exact ⟨(ownsRow_ge ho.spans sd hb).1, HSh.out.lt p HPm.out sd (.inr <| .inr hb)⟩))
                  obtain ⟨s3', hs3, hc3, -⟩ := own_fr HSh.out.row rfl HIl.out
                  cases hs3
                  have hcl := hc3 8 (by decide)
                  rw [← HP.out] at hcl
                  replace hcl : wr.cell? ⟨s3, i * 13 + 8, none⟩ = some (.slice p.2.sa p.1.spans.length p.2.sc) := hcl
                  rw [hsd, ← Hsn.out] at hcl
                  clear hj ho q1 q2 q3 hl hrow hsd hn1 hc3
                  go_wp2_with fail
                  go_roundw
                  case rel => exact ⟨j + 1, by first | rfl | (push_cast; rfl), HSh2.out, HKp2.out⟩
                  case measure => exact ssj3 HJ.out
                · have z4 := ssj2 hj
                  clear hj
                  go_wp2_with fail
                  go_roundw
                  case rel => exact ⟨i + 1, by first | rfl | (push_cast; rfl), HSh.out, HKp.out⟩
                  case measure => exact ssj3 HI.out
    · have z1 := ssj2 hi
      clear hi
      have hbr : Below w2.heap.size w5 wr := HKp.out.below (Nat.le_trans HB3.out.size HSt5.out) (fun k h => h.1)
      have HBr := Lib.hid (HB5.out.trans hbr)
      have HSb := Lib.hid (HS.out.below (HB2.out.trans (HBr.out.mono HB2.out.size)))
      have HSi := Lib.hid (own_below HO2.out HBr.out)
      have HRow4r := Lib.hid (HRow45.out.keptB HKp.out (fun k h1 h2 => by omega))
      have HRow5r := Lib.hid (HRow5.out.keptB HKp.out (fun k h1 h2 => by have := HM4.out; omega))
      have hss := same_any wr (own_sl HSi.out) HSb.out
      simp only [decide_true] at hss
      have HSs := Lib.hid hss
      clear hbr hss
      go_wp2_with fail
      refine HSs.out.mono ?_
      rintro e w6 ⟨rfl, hb6⟩
      have HSi6 := Lib.hid (own_below HSi.out hb6)
      have HRow46 := Lib.hid (HRow4r.out.below hb6)
      have HRow56 := Lib.hid (HRow5r.out.below hb6)
      have HB6 := Lib.hid (HBr.out.trans (hb6.mono (Nat.le_trans (Nat.le_trans HB3.out.size HSt5.out) HKp.out.size)))
      have hsm := lsame_eq w6 HRow46.out HRow56.out HL5.out
      rw [← HN4.out, ← HN5.out] at hsm
      have HSm := Lib.hid hsm
      clear hb6 hsm
      go_wp2_with fail
      refine HSm.out.mono ?_
      rintro e w7 ⟨rfl, hb7⟩
      have HSi7 := Lib.hid (own_below HSi6.out hb7)
      have HRow47 := Lib.hid (HRow46.out.below hb7)
      have HRow57 := Lib.hid (HRow56.out.below hb7)
      have HB7 := Lib.hid (HB6.out.trans (hb7.mono HB6.out.size))
      have HA2 : Hid (∀ k, blk a2 k → w.heap.size ≤ k ∧ k < w2.heap.size) := Lib.hid (ownsRow_ge HO2.out)
      clear hb7 z1
      go_wp2_with fail
      go_loopw [126] (fun v wr => ∃ (i : Nat) (ys : List UInt8), v = .int .i64 (i : Int) ∧ ys.length = n ∧ wr.ownsRow w.heap.size 5 1 (.slice a2 n c2) n (bv ys) ∧ Kept (fun k => blk a2 k) w7 wr) (fun v _ => n - (intOf v).toNat)
      case atStart => exact ⟨0, l, rfl, HNl.out, HSi7.out, Kept.refl _ _⟩
      case round =>
        obtain ⟨j, ys, rfl, hys, hrow, hkp⟩ := hrel
        have HRow := Lib.hid hrow
        have HKq := Lib.hid hkp
        have HYs := Lib.hid hys
        by_cases hj : j < n
        · have HJ := Lib.hid hj
          obtain ⟨sd, y, hsd, hat, hn1, hn2⟩ := bytes_at hrow hys hj
          obtain ⟨z1, z2, z3⟩ := fmj1 hj (Nat.le_trans hn1 hn2)
          obtain ⟨z, hz⟩ := xor8 y
          subst hsd
          obtain ⟨ys', hl', hrow'⟩ := own_byte hrow hrow j z
          have HRel : Hid (∃ (i : Nat) (ys : List UInt8), Value.int .i64 ((j + 1 : Nat) : Int) = .int .i64 (i : Int) ∧ ys.length = n ∧ (wr.setCell ⟨sd, j, none⟩ (.int .u8 (z.toNat : Int))).ownsRow w.heap.size 5 1 (.slice (some ⟨sd, 0, none⟩) n c2) n (bv ys) ∧ Kept (fun k => blk (some ⟨sd, 0, none⟩) k) w7 (wr.setCell ⟨sd, j, none⟩ (.int .u8 (z.toNat : Int)))) :=
            Lib.hid ⟨j + 1, ys', rfl, hl'.trans hys, hrow', hkp.trans (Kept.set wr sd j _) (fun k _ e => ⟨_, rfl, e.symm⟩)⟩
          have hfr := hat.free
          have hcy : wr.cell? ⟨sd, j, none⟩ = some (.int .u8 (y.toNat : Int)) := hat.cell
          clear hj hys hrow hkp hat hn1 hrow' hl'
          go_wp2_with fail
          go_roundw
          case rel => exact HRel.out
          case measure => exact ssj3 HJ.out
        · have z1 := ssj2 hj
          clear hj hys hrow hkp
          have HRow48 := Lib.hid (HRow47.out.keptB HKq.out (fun k h1 h2 => by have := (HA2.out k h2).2; have := HB3.out.size; omega))
          have HRow58 := Lib.hid (HRow57.out.keptB HKq.out (fun k h1 h2 => by have := (HA2.out k h2).2; have := HB4.out.size; omega))
          have HB8 : Hid (Below w.heap.size w wr) := Lib.hid ((HB2.out.trans (HB7.out.mono HB2.out.size)).trans (HKq.out.below (Nat.le_trans HB2.out.size HB7.out.size) (fun k h => (HA2.out k h).1)))
          have hsm := lsame_eq wr HRow48.out HRow58.out HL5.out
          rw [← HN4.out, ← HN5.out] at hsm
          have HSm := Lib.hid hsm
          clear hsm
          go_wp2_with fail
          refine HSm.out.mono ?_
          rintro e w9 ⟨rfl, hb9⟩
          have HB9 := Lib.hid (HB8.out.trans (hb9.mono HB8.out.size))
          have HAw := Lib.hid (awake5_any w9)
          clear hb9
          go_wp2_with fail
          refine HAw.out.mono ?_
          rintro e wa ⟨rfl, hba⟩
          have HBa := Lib.hid (HB9.out.trans (hba.mono HB9.out.size))
          clear hba
          go_wp2
          go_ret
          exact ⟨rfl, HBa.out⟩
end Go.Proofs.Ytppkilkfmclpkaa

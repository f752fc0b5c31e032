/- Loss detection: contracts of find. -/
import Derived.Test.YtkpeegcpicckjaaLsSplit
import Derived.Test.YtkpeegcpicckjaaLsNum
namespace Go.Proofs.Ytkpeegcpicckjaa
open Go.RowKit

/-- what keeps all reckoning within bounds -/
structure SpB (s : Sp) (now : Int) : Prop where
  len : s.out.length ≤ 4096
  high : 0 ≤ s.high ∧ s.high ≤ 4611686018427387903
  acked : -1 ≤ s.acked ∧ s.acked ≤ 4611686018427387903
  loss : -1 ≤ s.loss ∧ s.loss ≤ 6597069766656
  last : -1 ≤ s.last ∧ s.last ≤ 1099511627776
  pk : ∀ p ∈ s.out, 1 ≤ p.num ∧ p.num ≤ s.high ∧ 0 ≤ p.size ∧ p.size ≤ 65535 ∧ 0 ≤ p.at_ ∧ p.at_ ≤ now
structure LoB (L : Lo) : Prop where
  most : 0 ≤ L.most ∧ L.most ≤ 16383
  now : 0 ≤ L.now ∧ L.now ≤ 1099511627776
  latest : 0 ≤ L.latest ∧ L.latest ≤ 1099511627776
  least : 0 ≤ L.least ∧ L.least ≤ L.latest
  smooth : 0 ≤ L.smooth ∧ L.smooth ≤ 1099511627776
  vary : 0 ≤ L.vary ∧ L.vary ≤ 1099511627776
  window : 2400 ≤ L.window ∧ L.window ≤ 1152921504606846976
  threshold : 0 ≤ L.threshold ∧ L.threshold ≤ 4611686018427387904
  recovery : -1 ≤ L.recovery ∧ L.recovery ≤ 1099511627776
  probes : 0 ≤ L.probes ∧ L.probes ≤ 20
  b0 : SpB L.s0 L.now
  b1 : SpB L.s1 L.now
  b2 : SpB L.s2 L.now
theorem LoB.time {L : Lo} (h : LoB L) : L.TimeOk := ⟨h.most, h.smooth, h.vary, h.probes, h.b0.last, h.b1.last, h.b2.last, h.b0.len, h.b1.len, h.b2.len⟩
theorem LAt.fg {F : Nat → Prop} {w : World} {g : Nat} {L : Lo} (h : LAt F w g L) : F g := by
  obtain ⟨a0, c0, a1, c1, a2, c2, hb, f, _⟩ := h; exact f

/-- when the last one that elicits was sent -/
def newest : List Pk → Int → Int
  | [], m => m
  | p :: r, m => newest r (if p.el then max m p.at_ else m)
theorem newest_snoc (l : List Pk) (p : Pk) (m : Int) : newest (l ++ [p]) m = if p.el then max (newest l m) p.at_ else newest l m := by
  induction l generalizing m with
  | nil => rfl
  | cons x r ih => exact ih _
def Lo.crash (L : Lo) (n : Int) : Lo := if L.recovery < n then { L with recovery := L.now, threshold := L.window / 2, window := max (L.window / 2) 2400 } else L
/-- the next loss time -/
def lossAt (acked d : Int) : List Pk → Int → Int
  | [], m => m
  | p :: r, m => lossAt acked d r (if p.num < acked ∧ (m < 0 ∨ p.at_ + d < m) then p.at_ + d else m)
theorem lossAt_snoc (acked d : Int) (l : List Pk) (p : Pk) (m : Int) : lossAt acked d (l ++ [p]) m = if p.num < acked ∧ (lossAt acked d l m < 0 ∨ p.at_ + d < lossAt acked d l m) then p.at_ + d else lossAt acked d l m := by
  induction l generalizing m with
  | nil => rfl
  | cons x r ih => exact ih _
theorem lossAt_bounds (acked d : Int) (hd : 1 ≤ d ∧ d ≤ 4398046511104) : ∀ (l : List Pk) (m : Int), (∀ p ∈ l, 0 ≤ p.at_ ∧ p.at_ ≤ 1099511627776) → -1 ≤ m → m ≤ 6597069766656 → -1 ≤ lossAt acked d l m ∧ lossAt acked d l m ≤ 6597069766656
  | [], m, _, h1, h2 => ⟨h1, h2⟩
  | p :: r, m, h, h1, h2 => by
    have hp := h p (by simp)
    refine lossAt_bounds acked d hd r _ (fun q hq => h q (by simp [hq])) ?_ ?_
    · split <;> omega
    · split <;> omega
theorem LB.set {w : World} {g : Nat} {L L' : Lo} {a0 : Option Addr} {c0 : Nat} {a1 : Option Addr} {c1 : Nat} {a2 : Option Addr} {c2 : Nat} (hb : LB w g L a0 c0 a1 c1 a2 c2) (i : Nat) (v : Value) (h0 : L'.s0.out = L.s0.out) (h1 : L'.s1.out = L.s1.out) (h2 : L'.s2.out = L.s2.out)
    (hc : lcells L' a0 c0 a1 c1 a2 c2 = (lcells L a0 c0 a1 c1 a2 c2).set i v) : LB (w.setCell ⟨g, i, none⟩ v) g L' a0 c0 a1 c1 a2 c2 := by
  have ks := Kept.set w g i v
  refine ⟨?_, ?_, ?_, ?_, hb.g0, hb.g1, hb.g2, hb.d01, hb.d02, hb.d12⟩
  · rw [hc]; exact hb.has.set i v
  · rw [h0]; exact own_kept' hb.r0 ks (fun ad ha e => hb.g0 ad ha e)
  · rw [h1]; exact own_kept' hb.r1 ks (fun ad ha e => hb.g1 ad ha e)
  · rw [h2]; exact own_kept' hb.r2 ks (fun ad ha e => hb.g2 ad ha e)

/-- what stands while find works: the record, its boxes, the losses -/
structure FB (w2 v : World) (g b2 b3 b5 O : Nat) (d : Int) (Lx : Lo) (a0 : Option Addr) (c0 : Nat) (a1 : Option Addr) (c1 : Nat) (a2 : Option Addr) (c2 : Nat) (B : Nat) (a : Option Addr) (c : Nat) (lost : List Pk) : Prop where
  l : LB v g Lx a0 c0 a1 c1 a2 c2
  h2 : Has v b2 22 [.pointer (some ⟨g, 0, none⟩)]
  h3 : Has v b3 69 [.pointer (some ⟨g, O, none⟩)]
  h5 : Has v b5 3 [.int .i64 d]
  y : Yes v B a c lost
  k : Kept (fun k => k = g) w2 v
  n2 : ¬ b2 = g
  n3 : ¬ b3 = g
  n5 : ¬ b5 = g
  yg : ∀ ad, a = some ad → ad.block ≠ g
theorem FB.below {w2 v v' : World} {g b2 b3 b5 O : Nat} {d : Int} {Lx : Lo} {a0 : Option Addr} {c0 : Nat} {a1 : Option Addr} {c1 : Nat} {a2 : Option Addr} {c2 : Nat} {B : Nat} {a : Option Addr} {c : Nat} {lost : List Pk} (h : FB w2 v g b2 b3 b5 O d Lx a0 c0 a1 c1 a2 c2 B a c lost) (hb : Below v.heap.size v v') :
    FB w2 v' g b2 b3 b5 O d Lx a0 c0 a1 c1 a2 c2 B a c lost :=
  ⟨h.l.below hb, h.h2.kept (Kept.of_below (X := none') hb) (fun h => h), h.h3.kept (Kept.of_below (X := none') hb) (fun h => h), h.h5.kept (Kept.of_below (X := none') hb) (fun h => h), own_below h.y hb, h.k.trans (Kept.of_below (X := none') hb) (fun _ _ h => h.elim), h.n2, h.n3, h.n5, h.yg⟩
theorem FB.set {w2 v : World} {g b2 b3 b5 O : Nat} {d : Int} {Lx L' : Lo} {a0 : Option Addr} {c0 : Nat} {a1 : Option Addr} {c1 : Nat} {a2 : Option Addr} {c2 : Nat} {B : Nat} {a : Option Addr} {c : Nat} {lost : List Pk} (h : FB w2 v g b2 b3 b5 O d Lx a0 c0 a1 c1 a2 c2 B a c lost) (i : Nat) (x : Value)
    (h0 : L'.s0.out = Lx.s0.out) (h1 : L'.s1.out = Lx.s1.out) (h2 : L'.s2.out = Lx.s2.out) (hc : lcells L' a0 c0 a1 c1 a2 c2 = (lcells Lx a0 c0 a1 c1 a2 c2).set i x) : FB w2 (v.setCell ⟨g, i, none⟩ x) g b2 b3 b5 O d L' a0 c0 a1 c1 a2 c2 B a c lost := by
  have ks := Kept.set v g i x
  exact ⟨h.l.set i x h0 h1 h2 hc, h.h2.kept ks h.n2, h.h3.kept ks h.n3, h.h5.kept ks h.n5, own_kept' h.y ks (fun ad ha e => h.yg ad ha e), h.k.trans ks (fun _ _ e => e), h.n2, h.n3, h.n5, h.yg⟩
theorem FB.drew {w2 v : World} {g b2 b3 b5 O : Nat} {d : Int} {Lx : Lo} {a0 : Option Addr} {c0 : Nat} {a1 : Option Addr} {c1 : Nat} {a2 : Option Addr} {c2 : Nat} {B : Nat} {a : Option Addr} {c : Nat} {lost : List Pk} (h : FB w2 v g b2 b3 b5 O d Lx a0 c0 a1 c1 a2 c2 B a c lost) :
    FB w2 v.drew g b2 b3 b5 O d Lx a0 c0 a1 c1 a2 c2 B a c lost := h.below (below_drewN (Below.refl _ v) 1)
def Lo.ask0 (L : Lo) : Pk → Bool := lostB L.s0.acked L.now L.late
def Lo.loss0 (L : Lo) (t : Int) : Lo := { L with s0 := { L.s0 with loss := t } }
def Lo.found0 (L : Lo) : Lo := ((L.cut0 L.ask0).crash (newest (L.s0.out.filter L.ask0) (-1))).loss0 (lossAt L.s0.acked L.late (L.s0.out.filter fun p => !L.ask0 p) (-1))

def Lo.ask1 (L : Lo) : Pk → Bool := lostB L.s1.acked L.now L.late
def Lo.loss1 (L : Lo) (t : Int) : Lo := { L with s1 := { L.s1 with loss := t } }
def Lo.found1 (L : Lo) : Lo := ((L.cut1 L.ask1).crash (newest (L.s1.out.filter L.ask1) (-1))).loss1 (lossAt L.s1.acked L.late (L.s1.out.filter fun p => !L.ask1 p) (-1))

def Lo.ask2 (L : Lo) : Pk → Bool := lostB L.s2.acked L.now L.late
def Lo.loss2 (L : Lo) (t : Int) : Lo := { L with s2 := { L.s2 with loss := t } }
def Lo.found2 (L : Lo) : Lo := ((L.cut2 L.ask2).crash (newest (L.s2.out.filter L.ask2) (-1))).loss2 (lossAt L.s2.acked L.late (L.s2.out.filter fun p => !L.ask2 p) (-1))

set_option maxRecDepth 100000 in
set_option maxHeartbeats 8000000 in
theorem find_0 (w : World) {F : Nat → Prop} {g : Nat} {L : Lo} (hL : LAt F w g L) (hq : LoB L) :
    Calls Try.prog 24 #[.pointer (some ⟨g, 0, none⟩), .pointer (some ⟨g, 1, none⟩)] w fun e w' => ∃ a c, e = .returned (.slice a (L.s0.out.filter L.ask0).length c) ∧ Yes w' w.heap.size a c (L.s0.out.filter L.ask0) ∧ Kept (fun k => k = g) w w' ∧ LAt (Fat F w w') w' g L.found0 := by
  have hg0 := hL.lt
  have hFg := hL.fg
  obtain ⟨hd1, hd2⟩ := Lo.late_bounds hq.latest hq.smooth
  -- the boxes of l and s
  obtain ⟨wa, hwa⟩ : ∃ wa, wa = (w.alloc (.cells #[.pointer (some ⟨g, 0, none⟩)] 22)).alloc (.cells #[.pointer (some ⟨g, 1, none⟩)] 69) := ⟨_, rfl⟩
  have hal0 : Below w.heap.size w (w.alloc (.cells #[.pointer (some ⟨g, 0, none⟩)] 22)) := (Below.refl _ _).alloc (Nat.le_refl _) _
  have sz0 : (w.alloc (.cells #[.pointer (some ⟨g, 0, none⟩)] 22)).heap.size = w.heap.size + 1 := by simp
  have hala : Below w.heap.size w wa := by rw [hwa]; exact hal0.alloc (by omega) _
  have Hb2 : Has wa w.heap.size 22 [.pointer (some ⟨g, 0, none⟩)] := by
    rw [hwa]
    exact (Has.new w 22 #[.pointer (some ⟨g, 0, none⟩)]).kept (Kept.alloc none' _ _) (fun h => h)
  have Hb3 : Has wa (w.heap.size + 1) 69 [.pointer (some ⟨g, 1, none⟩)] := by
    have := Has.new (w.alloc (.cells #[.pointer (some ⟨g, 0, none⟩)] 22)) 69 #[.pointer (some ⟨g, 1, none⟩)]
    rw [sz0] at this
    rw [hwa]
    exact this
  have sza : wa.heap.size = w.heap.size + 2 := by rw [hwa]; simp
  have La := hL.below hala
  have HLt := Lib.hid (late_any wa La hq.latest hq.smooth)
  obtain ⟨d, hd⟩ : ∃ d, d = L.late := ⟨_, rfl⟩
  rw [← hd] at HLt hd1 hd2
  have HQ := Lib.hid hq
  have HD := Lib.hid hd
  have HWA := Lib.hid hwa
  have p2 := Hb2.cell 0 rfl
  have p3 := Hb3.cell 0 rfl
  have HHb2 := Lib.hid Hb2
  have HHb3 := Lib.hid Hb3
  clear hL hq hd hal0 Hb2 Hb3
  go_enter Try.func24, Try.ntmps24
  go_wp2_with fail
  rw [← hwa]
  clear hwa
  refine HLt.out.mono ?_
  rintro e w1 ⟨rfl, hb1⟩
  have z1 := hb1.size
  have s2 := (HHb2.out.kept (Kept.of_below (X := none') hb1) (fun h => h)).cell 0 rfl
  have s3 := (HHb3.out.kept (Kept.of_below (X := none') hb1) (fun h => h)).cell 0 rfl
  have lt3 : w.heap.size + 1 < w1.heap.size := by omega
  have lt2 : w.heap.size < w1.heap.size := by omega
  -- the box of d
  obtain ⟨wd, hwd⟩ : ∃ wd, wd = w1.alloc (.cells #[.int .i64 d] 3) := ⟨_, rfl⟩
  have hald : Below w1.heap.size w1 wd := by rw [hwd]; exact (Below.refl _ _).alloc (Nat.le_refl _) _
  have Hb5 : Has wd w1.heap.size 3 [.int .i64 d] := by rw [hwd]; exact Has.new w1 3 #[.int .i64 d]
  have szd : wd.heap.size = w1.heap.size + 1 := by rw [hwd]; simp
  have hbd : Below wa.heap.size wa wd := hb1.trans (hald.mono z1)
  have hBd : Below w.heap.size w wd := hala.trans (hbd.mono (by omega))
  have Ld := La.below hbd
  have Hb2d := HHb2.out.kept (Kept.of_below (X := none') hbd) (fun h => h)
  have Hb3d := HHb3.out.kept (Kept.of_below (X := none') hbd) (fun h => h)
  have r2 := Hb2d.cell 0 rfl
  have r3 := Hb3d.cell 0 rfl
  have r5 := Hb5.cell 0 rfl
  have hacked := (Ld.cell (3) (v := .int .i64 L.s0.acked) (fun _ _ _ _ _ _ => rfl)).1
  have hnow := (Ld.cell 16 (v := .int .i64 L.now) (fun _ _ _ _ _ _ => rfl)).1
  have HSp := Lib.hid (split_F0 wd Ld HQ.out.b0.len L.ask0 (w.heap.size + 1) w.heap.size w1.heap.size (fun w' p hb hp => by
    have e1 := (hb.cell (World.block_lt_of_cell? _ _ r3)).trans r3
    have e2 := (hb.cell (World.block_lt_of_cell? _ _ r2)).trans r2
    have e3 := (hb.cell (World.block_lt_of_cell? _ _ r5)).trans r5
    have e4 := (hb.cell (World.block_lt_of_cell? _ _ hacked)).trans hacked
    have e5 := (hb.cell (World.block_lt_of_cell? _ _ hnow)).trans hnow
    have := lost_any w' p _ _ _ g 1 L.s0.acked L.now d e1 e2 e3 e4 e5 HQ.out.b0.acked HQ.out.now ⟨hd1, hd2⟩
    unfold Lo.ask0
    rw [← HD.out]
    exact this))
  have HWD := Lib.hid hwd
  have HLd := Lib.hid Ld
  have HHb2d := Lib.hid Hb2d
  have HHb3d := Lib.hid Hb3d
  have HHb5 := Lib.hid Hb5
  clear p2 p3 hacked hnow La Hb2d Hb3d Hb5 Ld HLt HHb2 HHb3 r2 r3 r5
  go_wp2_with fail
  rw [← hwd]
  clear hwd
  refine HSp.out.mono ?_
  rintro e w2 ⟨a, c, rfl, hY, hk2, hL2, hab⟩
  have z2 := hk2.size
  have hgw : g < w.heap.size := hg0
  have hY0 : Yes w2 w.heap.size a c (L.s0.out.filter L.ask0) := own_mono hY (by omega)
  have hK2 : Kept (fun k => k = g) w w2 := (Kept.of_below hBd).trans hk2 (fun _ _ h => h)
  have L2 : LAt (Fat F w w2) w2 g (L.cut0 L.ask0) := hL2.more (fun k h _ => h.elim .inl (fun h => .inr ⟨by omega, h.2⟩))
  have hlost : (L.s0.out.filter L.ask0).length ≤ 4096 := Nat.le_trans (List.length_filter_le _ _) HQ.out.b0.len
  have hkeptlen : (L.s0.out.filter fun p => !L.ask0 p).length ≤ 4096 := Nat.le_trans (List.length_filter_le _ _) HQ.out.b0.len
  obtain ⟨lost, hlo⟩ : ∃ lost, lost = L.s0.out.filter L.ask0 := ⟨_, rfl⟩
  rw [← hlo] at hY hY0 hlost ⊢
  have HLO := Lib.hid hlo
  clear hlo
  have hlI : (lost.length : Int) ≤ 4096 := by omega
  have n2 : ¬ w.heap.size = g := by omega
  have n3 : ¬ w.heap.size + 1 = g := by omega
  have n5 : ¬ w1.heap.size = g := by omega
  have B2 := HHb2d.out.kept hk2 n2
  have B3 := HHb3d.out.kept hk2 n3
  have B5 := HHb5.out.kept hk2 n5
  have hYg : ∀ ad, a = some ad → ad.block ≠ g := fun ad ha e => by have := ownblk hY ha; omega
  clear HSp HHb2d HHb3d HHb5 HLd hL2 hk2 hY hab s2 s3
  go_wp2_with fail
  go_loopw [7, 20] (fun nv iv wr => ∃ j : Nat, iv = .int .i64 (j : Int) ∧ nv = .int .i64 (newest (lost.take j) (-1)) ∧ j ≤ lost.length ∧ Below w2.heap.size w2 wr) (fun _ iv _ => lost.length - (intOf iv).toNat)
  case atStart => exact ⟨0, rfl, rfl, Nat.zero_le _, Below.refl _ _⟩
  case round =>
    obtain ⟨j, rfl, rfl, hj, hB⟩ := hrel
    by_cases hjl : j < lost.length
    · have hjl' : (j : Int) < (lost.length : Int) := by omega
      have g2 : IntKind.i64.wrap ((j : Int) + 1) = (j : Int) + 1 := by rw [IntKind.wrap_i64]; omega
      obtain ⟨sb, rfl, e0, e1, e2, e3, s1, s2⟩ := own_pk (own_below hY0 hB) rfl hjl
      have s1' : (lost.length : Int) ≤ (c : Int) := by omega
      have HS : Hid (newest (lost.take (j + 1)) (-1) = if lost[j].el then max (newest (lost.take j) (-1)) lost[j].at_ else newest (lost.take j) (-1)) := Lib.hid (by
        rw [List.take_succ_eq_append_getElem hjl, newest_snoc])
      generalize newest (lost.take j) (-1) = nv at HS ⊢
      generalize lost[j] = p at HS e0 e1 e2 e3
      have hBa : Below w2.heap.size w2 (wr.alloc (.cells #[.int .i64 p.num, .int .i64 p.size, .int .i64 p.at_, .bool p.el] 68)) := hB.alloc hB.size _
      cases hel : p.el
      · rw [hel] at e3 hBa
        have HS2 : Hid (newest (lost.take (j + 1)) (-1) = nv) := Lib.hid (by rw [HS.out, hel]; rfl)
        clear hel
        go_wp2
        go_roundw
        case rel => exact ⟨j + 1, by push_cast; rfl, by rw [HS2.out], by omega, hBa⟩
        case measure => simp [intOf]; omega
      · rw [hel] at e3 hBa
        have HS2 : Hid (newest (lost.take (j + 1)) (-1) = max nv p.at_) := Lib.hid (by rw [HS.out, hel]; rfl)
        clear hel
        go_wp2
        go_roundw
        case rel => exact ⟨j + 1, by push_cast; rfl, by rw [HS2.out]; congr 1; split <;> omega, by omega, hBa⟩
        case measure => simp [intOf]; omega
    · obtain rfl : j = lost.length := by omega
      rw [List.take_length]
      obtain ⟨nw, hnw⟩ : ∃ nw, nw = newest lost (-1) := ⟨_, rfl⟩
      rw [← hnw]
      have HNW := Lib.hid hnw
      clear hnw
      obtain ⟨a0, c0, a1, c1, a2, c2, LBx, f, f0, f1, f2⟩ := L2
      have FB0 : FB w2 wr g w.heap.size (w.heap.size + 1) w1.heap.size 1 d (L.cut0 L.ask0) a0 c0 a1 c1 a2 c2 w.heap.size a c lost := (FB.mk LBx B2 B3 B5 hY0 (Kept.refl _ _) n2 n3 n5 hYg).below hB
      have HLast : Hid (∀ (w' : World) (Lz : Lo), FB w2 w' g w.heap.size (w.heap.size + 1) w1.heap.size 1 d Lz a0 c0 a1 c1 a2 c2 w.heap.size a c lost → Lz = L.found0 →
          (∃ a' c', Ending.returned (.slice a lost.length c) = .returned (.slice a' lost.length c') ∧ Yes w' w.heap.size a' c' lost ∧ Kept (fun k => k = g) w w' ∧ LAt (Fat F w w') w' g L.found0)) := Lib.hid (fun w' Lz hFB hz => by
        subst hz
        have zz := hFB.k.size
        have up : ∀ k, Fat F w w2 k → Fat F w w' k := fun k hk => hk.elim .inl (fun h => .inr ⟨h.1, by omega⟩)
        exact ⟨a, c, rfl, hFB.y, hK2.trans hFB.k (fun _ _ e => e), a0, c0, a1, c1, a2, c2, hFB.l, up _ f, fun ad ha => up _ (f0 ad ha), fun ad ha => up _ (f1 ad ha), fun ad ha => up _ (f2 ad ha)⟩)
      have HFound : Hid (L.found0 = ((L.cut0 L.ask0).crash nw).loss0 (lossAt L.s0.acked d (L.s0.out.filter fun p => !L.ask0 p) (-1))) := Lib.hid (by rw [HNW.out, HLO.out, HD.out]; rfl)
      have HKp := Lib.hid (fun p (hp : p ∈ L.s0.out.filter fun p => !L.ask0 p) => HQ.out.b0.pk p (List.mem_filter.1 hp).1)
      obtain ⟨kept, hkept⟩ : ∃ kept, kept = L.s0.out.filter fun p => !L.ask0 p := ⟨_, rfl⟩
      rw [← hkept] at HFound HKp hkeptlen
      have HKE := Lib.hid hkept
      clear hkept hB B2 B3 B5 hY0 hYg LBx f f0 f1 f2
      have hwin := HQ.out.window
      have hqnow := HQ.out.now
      have hqa := HQ.out.b0.acked
      have e2 := FB0.h2.cell 0 rfl
      have e3 := FB0.h3.cell 0 rfl
      have e24 : wr.cell? ⟨g, 24, none⟩ = some (.int .i64 L.recovery) := FB0.l.has.cell 24 rfl
      by_cases hcr : L.recovery < nw
      · have FBd := FB0.drew
        have x2 := FBd.h2.cell 0 rfl
        have x16 : wr.drew.cell? ⟨g, 16, none⟩ = some (.int .i64 L.now) := FBd.l.has.cell 16 rfl
        have x24 : wr.drew.cell? ⟨g, 24, none⟩ = some (.int .i64 L.recovery) := FBd.l.has.cell 24 rfl
        have x24f := FBd.l.has.free 24
        have FB1 : FB w2 (wr.setCell ⟨g, 24, none⟩ (.int .i64 L.now)).drew g w.heap.size (w.heap.size + 1) w1.heap.size 1 d { L.cut0 L.ask0 with recovery := L.now } a0 c0 a1 c1 a2 c2 w.heap.size a c lost := FBd.set 24 (.int .i64 L.now) rfl rfl rfl rfl
        go_wp2_with fail
        refine Mx.regionZ [] (fun w' => w'.cell? ⟨w.heap.size, 0, none⟩ = some (.pointer (some ⟨g, 0, none⟩)) ∧ w'.cell? ⟨g, 16, none⟩ = some (.int .i64 L.now)) (by kernel_rfl) (by kernel_rfl) ⟨x2, x16⟩ ?_
        repeat ((first | (refine Mx.skips (by kernel_rfl) ?_; go_big_quiet_skip) | (refine Mx.quietly rfl ?_; go_big_quiet_want; go_big_quiet_op; go_big_quiet_on)); refine Mx.done ?_)
        refine Mx.cell ⟨w.heap.size, 0, none⟩ (.pointer (some ⟨g, 0, none⟩)) (by kernel_rfl) (by kernel_rfl) (by kernel_rfl) Try.isAgg22 (fun w' h => h.1) ?_
        go_big_quiet_want; go_big_quiet_op; go_big_quiet_on; refine Mx.done ?_
        repeat ((first | (refine Mx.skips (by kernel_rfl) ?_; go_big_quiet_skip) | (refine Mx.quietly rfl ?_; go_big_quiet_want; go_big_quiet_op; go_big_quiet_on)); refine Mx.done ?_)
        refine Mx.cell ⟨w.heap.size, 0, none⟩ (.pointer (some ⟨g, 0, none⟩)) (by kernel_rfl) (by kernel_rfl) (by kernel_rfl) Try.isAgg22 (fun w' h => h.1) ?_
        go_big_quiet_want; go_big_quiet_op; go_big_quiet_on; refine Mx.done ?_
        repeat ((first | (refine Mx.skips (by kernel_rfl) ?_; go_big_quiet_skip) | (refine Mx.quietly rfl ?_; go_big_quiet_want; go_big_quiet_op; go_big_quiet_on)); refine Mx.done ?_)
        refine Mx.cell ⟨g, 16, none⟩ (.int .i64 L.now) (by kernel_rfl) (by kernel_rfl) (by kernel_rfl) Try.isAgg3 (fun w' h => h.2) ?_
        go_big_quiet_want; go_big_quiet_op; go_big_quiet_on; refine Mx.done ?_
        repeat ((first | (refine Mx.skips (by kernel_rfl) ?_; go_big_quiet_skip) | (refine Mx.quietly rfl ?_; go_big_quiet_want; go_big_quiet_op; go_big_quiet_on)); refine Mx.done ?_)
        refine Mx.atLast (by kernel_rfl) (by kernel_rfl) ?_
        go_wp2_with fail
        generalize (wr.setCell ⟨g, 24, none⟩ (.int .i64 L.now)).drew = v1 at *
        have FB1d := FB1.drew
        have y2 := FB1d.h2.cell 0 rfl
        have y22 : v1.drew.cell? ⟨g, 22, none⟩ = some (Value.int .i64 L.window) := FB1d.l.has.cell 22 rfl
        have y23 : v1.drew.cell? ⟨g, 23, none⟩ = some (Value.int .i64 L.threshold) := FB1d.l.has.cell 23 rfl
        have y23f := FB1d.l.has.free 23
        have FB2 : FB w2 (v1.setCell ⟨g, 23, none⟩ (.int .i64 (L.window / 2))).drew g w.heap.size (w.heap.size + 1) w1.heap.size 1 d { L.cut0 L.ask0 with recovery := L.now, threshold := L.window / 2 } a0 c0 a1 c1 a2 c2 w.heap.size a c lost := FB1d.set 23 (.int .i64 (L.window / 2)) rfl rfl rfl rfl
        refine Mx.regionZ [] (fun w' => w'.cell? ⟨w.heap.size, 0, none⟩ = some (.pointer (some ⟨g, 0, none⟩)) ∧ w'.cell? ⟨g, 22, none⟩ = some (.int .i64 L.window)) (by kernel_rfl) (by kernel_rfl) ⟨y2, y22⟩ ?_
        repeat ((first | (refine Mx.skips (by kernel_rfl) ?_; go_big_quiet_skip) | (refine Mx.quietly rfl ?_; go_big_quiet_want; go_big_quiet_op; go_big_quiet_on)); refine Mx.done ?_)
        refine Mx.cell ⟨w.heap.size, 0, none⟩ (.pointer (some ⟨g, 0, none⟩)) (by kernel_rfl) (by kernel_rfl) (by kernel_rfl) Try.isAgg22 (fun w' h => h.1) ?_
        go_big_quiet_want; go_big_quiet_op; go_big_quiet_on; refine Mx.done ?_
        repeat ((first | (refine Mx.skips (by kernel_rfl) ?_; go_big_quiet_skip) | (refine Mx.quietly rfl ?_; go_big_quiet_want; go_big_quiet_op; go_big_quiet_on)); refine Mx.done ?_)
        refine Mx.cell ⟨w.heap.size, 0, none⟩ (.pointer (some ⟨g, 0, none⟩)) (by kernel_rfl) (by kernel_rfl) (by kernel_rfl) Try.isAgg22 (fun w' h => h.1) ?_
        go_big_quiet_want; go_big_quiet_op; go_big_quiet_on; refine Mx.done ?_
        repeat ((first | (refine Mx.skips (by kernel_rfl) ?_; go_big_quiet_skip) | (refine Mx.quietly rfl ?_; go_big_quiet_want; go_big_quiet_op; go_big_quiet_on)); refine Mx.done ?_)
        refine Mx.cell ⟨g, 22, none⟩ (.int .i64 L.window) (by kernel_rfl) (by kernel_rfl) (by kernel_rfl) Try.isAgg3 (fun w' h => h.2) ?_
        go_big_quiet_want; go_big_quiet_op; go_big_quiet_on; refine Mx.done ?_
        repeat ((first | (refine Mx.skips (by kernel_rfl) ?_; go_big_quiet_skip) | (refine Mx.quietly rfl ?_; go_big_quiet_want; go_big_quiet_op; go_big_quiet_on)); refine Mx.done ?_)
        refine Mx.atLast (by kernel_rfl) (by kernel_rfl) ?_
        go_wp2_with fail
        generalize (v1.setCell ⟨g, 23, none⟩ (.int .i64 (L.window / 2))).drew = v2 at *
        have FB2d := FB2.drew
        have u2 := FB2d.h2.cell 0 rfl
        have u23 : v2.drew.cell? ⟨g, 23, none⟩ = some (Value.int .i64 (L.window / 2)) := FB2d.l.has.cell 23 rfl
        have u22 : v2.drew.cell? ⟨g, 22, none⟩ = some (Value.int .i64 L.window) := FB2d.l.has.cell 22 rfl
        have u22f := FB2d.l.has.free 22
        obtain ⟨mw, hmw⟩ : ∃ mw, mw = max (L.window / 2) 2400 := ⟨_, rfl⟩
        have hcs : (L.window / 2 < 2400 ∧ mw = 2400) ∨ (¬ L.window / 2 < 2400 ∧ mw = L.window / 2) := by omega
        obtain ⟨Lz, hLz⟩ : ∃ Lz : Lo, Lz = { L.cut0 L.ask0 with recovery := L.now, threshold := L.window / 2, window := mw } := ⟨_, rfl⟩
        have HLz : Hid ((L.cut0 L.ask0).crash nw = { L.cut0 L.ask0 with recovery := L.now, threshold := L.window / 2, window := mw }) := Lib.hid (by
          unfold Lo.crash
          rw [if_pos (by exact hcr), hmw]
          rfl)
        clear hLz
        have FB3 : FB w2 (v2.setCell ⟨g, 22, none⟩ (.int .i64 mw)).drew g w.heap.size (w.heap.size + 1) w1.heap.size 1 d { L.cut0 L.ask0 with recovery := L.now, threshold := L.window / 2, window := mw } a0 c0 a1 c1 a2 c2 w.heap.size a c lost := FB2d.set 22 (.int .i64 mw) rfl rfl rfl rfl
        have FB4 : FB w2 ((v2.setCell ⟨g, 22, none⟩ (.int .i64 mw)).setCell ⟨g, 4, none⟩ (.int .i64 (-1))).drew g w.heap.size (w.heap.size + 1) w1.heap.size 1 d (Lo.loss0 { L.cut0 L.ask0 with recovery := L.now, threshold := L.window / 2, window := mw } (-1)) a0 c0 a1 c1 a2 c2 w.heap.size a c lost := FB3.set 4 (.int .i64 (-1)) rfl rfl rfl rfl
        have x3 := FB3.h3.cell 0 rfl
        have xT : (v2.setCell ⟨g, 22, none⟩ (.int .i64 mw)).drew.cell? ⟨g, 4, none⟩ = some (Value.int .i64 L.s0.loss) := FB3.l.has.cell 4 rfl
        have xTf := FB3.l.has.free 4
        have y3 := FB4.h3.cell 0 rfl
        have yO : ((v2.setCell ⟨g, 22, none⟩ (.int .i64 mw)).setCell ⟨g, 4, none⟩ (.int .i64 (-1))).drew.cell? ⟨g, 1, none⟩ = some (Value.slice a0 kept.length c0) := by rw [HKE.out]; exact FB4.l.has.cell 1 rfl
        have HMW := Lib.hid hmw
        clear hmw
        rcases hcs with ⟨hx, rfl⟩ | ⟨hx, rfl⟩
        · refine Mx.regionZ [] (fun w' => w'.cell? ⟨w.heap.size, 0, none⟩ = some (.pointer (some ⟨g, 0, none⟩)) ∧ w'.cell? ⟨g, 23, none⟩ = some (.int .i64 (L.window / 2))) (by kernel_rfl) (by kernel_rfl) ⟨u2, u23⟩ ?_
          repeat ((first | (refine Mx.skips (by kernel_rfl) ?_; go_big_quiet_skip) | (refine Mx.quietly rfl ?_; go_big_quiet_want; go_big_quiet_op; go_big_quiet_on)); refine Mx.done ?_)
          refine Mx.cell ⟨w.heap.size, 0, none⟩ (.pointer (some ⟨g, 0, none⟩)) (by kernel_rfl) (by kernel_rfl) (by kernel_rfl) Try.isAgg22 (fun w' h => h.1) ?_
          go_big_quiet_want; go_big_quiet_op; go_big_quiet_on; refine Mx.done ?_
          repeat ((first | (refine Mx.skips (by kernel_rfl) ?_; go_big_quiet_skip) | (refine Mx.quietly rfl ?_; go_big_quiet_want; go_big_quiet_op; go_big_quiet_on)); refine Mx.done ?_)
          refine Mx.cell ⟨w.heap.size, 0, none⟩ (.pointer (some ⟨g, 0, none⟩)) (by kernel_rfl) (by kernel_rfl) (by kernel_rfl) Try.isAgg22 (fun w' h => h.1) ?_
          go_big_quiet_want; go_big_quiet_op; go_big_quiet_on; refine Mx.done ?_
          repeat ((first | (refine Mx.skips (by kernel_rfl) ?_; go_big_quiet_skip) | (refine Mx.quietly rfl ?_; go_big_quiet_want; go_big_quiet_op; go_big_quiet_on)); refine Mx.done ?_)
          refine Mx.cell ⟨g, 23, none⟩ (.int .i64 (L.window / 2)) (by kernel_rfl) (by kernel_rfl) (by kernel_rfl) Try.isAgg3 (fun w' h => h.2) ?_
          go_big_quiet_want; go_big_quiet_op; go_big_quiet_on; refine Mx.done ?_
          repeat ((first | (refine Mx.skips (by kernel_rfl) ?_; go_big_quiet_skip) | (refine Mx.quietly rfl ?_; go_big_quiet_want; go_big_quiet_op; go_big_quiet_on)); refine Mx.done ?_)
          refine Mx.atLast (by kernel_rfl) (by kernel_rfl) ?_
          go_wp2_with fail
          clear FB3 x3 xT xTf y3 yO FB2 FB2d u2 u23 u22 u22f
          go_loopw [68] (fun iv wv => ∃ j : Nat, iv = .int .i64 (j : Int) ∧ j ≤ kept.length ∧ FB w2 wv g w.heap.size (w.heap.size + 1) w1.heap.size 1 d (Lo.loss0 { L.cut0 L.ask0 with recovery := L.now, threshold := L.window / 2, window := 2400 } (lossAt L.s0.acked d (kept.take j) (-1))) a0 c0 a1 c1 a2 c2 w.heap.size a c lost) (fun iv _ => kept.length - (intOf iv).toNat)
          case atStart => exact ⟨0, rfl, Nat.zero_le _, FB4⟩
          case round =>
            obtain ⟨j, rfl, hj, FBj⟩ := hrel
            clear FB4
            by_cases hjl : j < kept.length
            · have hjl' : (j : Int) < (kept.length : Int) := by omega
              have hkI : (kept.length : Int) ≤ 4096 := by omega
              have g2 : IntKind.i64.wrap ((j : Int) + 1) = (j : Int) + 1 := by rw [IntKind.wrap_i64]; omega
              have rk : wr.ownsRow 0 68 4 (.slice a0 kept.length c0) kept.length (pv kept) := by rw [HKE.out]; exact FBj.l.r0
              obtain ⟨sb, hsb, e0, e1, e2, e3, s1, s2⟩ := own_pk rk rfl hjl
              have s1' : (kept.length : Int) ≤ (c0 : Int) := by omega
              have hpk := HKp.out _ (List.getElem_mem hjl)
              have HS : Hid (lossAt L.s0.acked d (kept.take (j + 1)) (-1) = if kept[j].num < L.s0.acked ∧ (lossAt L.s0.acked d (kept.take j) (-1) < 0 ∨ kept[j].at_ + d < lossAt L.s0.acked d (kept.take j) (-1)) then kept[j].at_ + d else lossAt L.s0.acked d (kept.take j) (-1)) := Lib.hid (by
                rw [List.take_succ_eq_append_getElem hjl, lossAt_snoc])
              generalize lossAt L.s0.acked d (kept.take j) (-1) = cur at HS FBj
              generalize kept[j] = p at HS e0 e1 e2 e3 hpk
              clear rk
              have hal : Below wr.heap.size wr (wr.alloc (.cells #[.int .i64 p.num, .int .i64 p.size, .int .i64 p.at_, .bool p.el] 68)) := (Below.refl _ _).alloc (Nat.le_refl _) _
              have hPk : Has (wr.alloc (.cells #[.int .i64 p.num, .int .i64 p.size, .int .i64 p.at_, .bool p.el] 68)) wr.heap.size 68 [.int .i64 p.num, .int .i64 p.size, .int .i64 p.at_, .bool p.el] := Has.new _ _ _
              have FBa := FBj.below hal
              have q0 := hPk.cell 0 rfl
              have q2 := hPk.cell 2 rfl
              have b3 := FBa.h3.cell 0 rfl
              have b5 := FBa.h5.cell 0 rfl
              have bA : (wr.alloc (.cells #[.int .i64 p.num, .int .i64 p.size, .int .i64 p.at_, .bool p.el] 68)).cell? ⟨g, 3, none⟩ = some (Value.int .i64 L.s0.acked) := FBa.l.has.cell 3 rfl
              have bT : (wr.alloc (.cells #[.int .i64 p.num, .int .i64 p.size, .int .i64 p.at_, .bool p.el] 68)).cell? ⟨g, 4, none⟩ = some (Value.int .i64 cur) := FBa.l.has.cell 4 rfl
              have bTf := FBa.l.has.free 4
              have gt : IntKind.i64.wrap (p.at_ + d) = p.at_ + d := by rw [IntKind.wrap_i64]; omega
              subst hsb
              by_cases m1 : p.num < L.s0.acked
              · have dd1 : decide (p.num < L.s0.acked) = true := by simp [m1]
                by_cases m2 : cur < 0
                · have dd2 : decide (cur < 0) = true := by simp [m2]
                  have HS2 : Hid (lossAt L.s0.acked d (kept.take (j + 1)) (-1) = p.at_ + d) := Lib.hid (by rw [HS.out, if_pos ⟨m1, .inl m2⟩])
                  clear HS m1 m2
                  go_wp2_with fail
                  go_quiet (fail)
                  go_wp2
                  go_roundw
                  case rel => exact ⟨j + 1, by push_cast; rfl, by omega, by rw [HS2.out]; exact (FBa.below (below_drewN (Below.refl _ _) _)).set 4 (.int .i64 (p.at_ + d)) rfl rfl rfl rfl⟩
                  case measure => simp [intOf]; omega
                · have dd2 : decide (cur < 0) = false := by simp [m2]
                  by_cases m3 : p.at_ + d < cur
                  · have dd3 : decide (p.at_ + d < cur) = true := by simp [m3]
                    have HS2 : Hid (lossAt L.s0.acked d (kept.take (j + 1)) (-1) = p.at_ + d) := Lib.hid (by rw [HS.out, if_pos ⟨m1, .inr m3⟩])
                    clear HS m1 m2
                    go_wp2_with fail
                    go_quiet (fail)
                    go_wp2
                    go_roundw
                    case rel => exact ⟨j + 1, by push_cast; rfl, by omega, by rw [HS2.out]; exact (FBa.below (below_drewN (Below.refl _ _) _)).set 4 (.int .i64 (p.at_ + d)) rfl rfl rfl rfl⟩
                    case measure => simp [intOf]; omega
                  · have dd3 : decide (p.at_ + d < cur) = false := by simp [m3]
                    have HS2 : Hid (lossAt L.s0.acked d (kept.take (j + 1)) (-1) = cur) := Lib.hid (by rw [HS.out, if_neg (by omega)])
                    clear HS
                    go_wp2_with fail
                    go_quiet (fail)
                    go_wp2
                    go_roundw
                    case rel => exact ⟨j + 1, by push_cast; rfl, by omega, by rw [HS2.out]; exact FBa.below (below_drewN (Below.refl _ _) _)⟩
                    case measure => simp [intOf]; omega
              · have dd1 : decide (p.num < L.s0.acked) = false := by simp [m1]
                have HS2 : Hid (lossAt L.s0.acked d (kept.take (j + 1)) (-1) = cur) := Lib.hid (by rw [HS.out, if_neg (by omega)])
                clear HS
                go_wp2_with fail
                go_quiet (fail)
                go_wp2
                go_roundw
                case rel => exact ⟨j + 1, by push_cast; rfl, by omega, by rw [HS2.out]; exact FBa.below (below_drewN (Below.refl _ _) _)⟩
                case measure => simp [intOf]; omega
            · obtain rfl : j = kept.length := by omega
              rw [List.take_length] at FBj
              have HL2 := Lib.hid (HLast.out wr _ FBj (by rw [HFound.out, HLz.out]))
              clear FBj
              go_wp2
              go_ret
              rw [← HLO.out]
              exact HL2.out
        · refine Mx.regionZ [] (fun w' => w'.cell? ⟨w.heap.size, 0, none⟩ = some (.pointer (some ⟨g, 0, none⟩)) ∧ w'.cell? ⟨g, 23, none⟩ = some (.int .i64 (L.window / 2))) (by kernel_rfl) (by kernel_rfl) ⟨u2, u23⟩ ?_
          repeat ((first | (refine Mx.skips (by kernel_rfl) ?_; go_big_quiet_skip) | (refine Mx.quietly rfl ?_; go_big_quiet_want; go_big_quiet_op; go_big_quiet_on)); refine Mx.done ?_)
          refine Mx.cell ⟨w.heap.size, 0, none⟩ (.pointer (some ⟨g, 0, none⟩)) (by kernel_rfl) (by kernel_rfl) (by kernel_rfl) Try.isAgg22 (fun w' h => h.1) ?_
          go_big_quiet_want; go_big_quiet_op; go_big_quiet_on; refine Mx.done ?_
          repeat ((first | (refine Mx.skips (by kernel_rfl) ?_; go_big_quiet_skip) | (refine Mx.quietly rfl ?_; go_big_quiet_want; go_big_quiet_op; go_big_quiet_on)); refine Mx.done ?_)
          refine Mx.cell ⟨w.heap.size, 0, none⟩ (.pointer (some ⟨g, 0, none⟩)) (by kernel_rfl) (by kernel_rfl) (by kernel_rfl) Try.isAgg22 (fun w' h => h.1) ?_
          go_big_quiet_want; go_big_quiet_op; go_big_quiet_on; refine Mx.done ?_
          repeat ((first | (refine Mx.skips (by kernel_rfl) ?_; go_big_quiet_skip) | (refine Mx.quietly rfl ?_; go_big_quiet_want; go_big_quiet_op; go_big_quiet_on)); refine Mx.done ?_)
          refine Mx.cell ⟨g, 23, none⟩ (.int .i64 (L.window / 2)) (by kernel_rfl) (by kernel_rfl) (by kernel_rfl) Try.isAgg3 (fun w' h => h.2) ?_
          go_big_quiet_want; go_big_quiet_op; go_big_quiet_on; refine Mx.done ?_
          repeat ((first | (refine Mx.skips (by kernel_rfl) ?_; go_big_quiet_skip) | (refine Mx.quietly rfl ?_; go_big_quiet_want; go_big_quiet_op; go_big_quiet_on)); refine Mx.done ?_)
          refine Mx.atLast (by kernel_rfl) (by kernel_rfl) ?_
          go_wp2_with fail
          clear FB3 x3 xT xTf y3 yO FB2 FB2d u2 u23 u22 u22f
          go_loopw [68] (fun iv wv => ∃ j : Nat, iv = .int .i64 (j : Int) ∧ j ≤ kept.length ∧ FB w2 wv g w.heap.size (w.heap.size + 1) w1.heap.size 1 d (Lo.loss0 { L.cut0 L.ask0 with recovery := L.now, threshold := L.window / 2, window := L.window / 2 } (lossAt L.s0.acked d (kept.take j) (-1))) a0 c0 a1 c1 a2 c2 w.heap.size a c lost) (fun iv _ => kept.length - (intOf iv).toNat)
          case atStart => exact ⟨0, rfl, Nat.zero_le _, FB4⟩
          case round =>
            obtain ⟨j, rfl, hj, FBj⟩ := hrel
            clear FB4
            by_cases hjl : j < kept.length
            · have hjl' : (j : Int) < (kept.length : Int) := by omega
              have hkI : (kept.length : Int) ≤ 4096 := by omega
              have g2 : IntKind.i64.wrap ((j : Int) + 1) = (j : Int) + 1 := by rw [IntKind.wrap_i64]; omega
              have rk : wr.ownsRow 0 68 4 (.slice a0 kept.length c0) kept.length (pv kept) := by rw [HKE.out]; exact FBj.l.r0
              obtain ⟨sb, hsb, e0, e1, e2, e3, s1, s2⟩ := own_pk rk rfl hjl
              have s1' : (kept.length : Int) ≤ (c0 : Int) := by omega
              have hpk := HKp.out _ (List.getElem_mem hjl)
              have HS : Hid (lossAt L.s0.acked d (kept.take (j + 1)) (-1) = if kept[j].num < L.s0.acked ∧ (lossAt L.s0.acked d (kept.take j) (-1) < 0 ∨ kept[j].at_ + d < lossAt L.s0.acked d (kept.take j) (-1)) then kept[j].at_ + d else lossAt L.s0.acked d (kept.take j) (-1)) := Lib.hid (by
                rw [List.take_succ_eq_append_getElem hjl, lossAt_snoc])
              generalize lossAt L.s0.acked d (kept.take j) (-1) = cur at HS FBj
              generalize kept[j] = p at HS e0 e1 e2 e3 hpk
              clear rk
              have hal : Below wr.heap.size wr (wr.alloc (.cells #[.int .i64 p.num, .int .i64 p.size, .int .i64 p.at_, .bool p.el] 68)) := (Below.refl _ _).alloc (Nat.le_refl _) _
              have hPk : Has (wr.alloc (.cells #[.int .i64 p.num, .int .i64 p.size, .int .i64 p.at_, .bool p.el] 68)) wr.heap.size 68 [.int .i64 p.num, .int .i64 p.size, .int .i64 p.at_, .bool p.el] := Has.new _ _ _
              have FBa := FBj.below hal
              have q0 := hPk.cell 0 rfl
              have q2 := hPk.cell 2 rfl
              have b3 := FBa.h3.cell 0 rfl
              have b5 := FBa.h5.cell 0 rfl
              have bA : (wr.alloc (.cells #[.int .i64 p.num, .int .i64 p.size, .int .i64 p.at_, .bool p.el] 68)).cell? ⟨g, 3, none⟩ = some (Value.int .i64 L.s0.acked) := FBa.l.has.cell 3 rfl
              have bT : (wr.alloc (.cells #[.int .i64 p.num, .int .i64 p.size, .int .i64 p.at_, .bool p.el] 68)).cell? ⟨g, 4, none⟩ = some (Value.int .i64 cur) := FBa.l.has.cell 4 rfl
              have bTf := FBa.l.has.free 4
              have gt : IntKind.i64.wrap (p.at_ + d) = p.at_ + d := by rw [IntKind.wrap_i64]; omega
              subst hsb
              by_cases m1 : p.num < L.s0.acked
              · have dd1 : decide (p.num < L.s0.acked) = true := by simp [m1]
                by_cases m2 : cur < 0
                · have dd2 : decide (cur < 0) = true := by simp [m2]
                  have HS2 : Hid (lossAt L.s0.acked d (kept.take (j + 1)) (-1) = p.at_ + d) := Lib.hid (by rw [HS.out, if_pos ⟨m1, .inl m2⟩])
                  clear HS m1 m2
                  go_wp2_with fail
                  go_quiet (fail)
                  go_wp2
                  go_roundw
                  case rel => exact ⟨j + 1, by push_cast; rfl, by omega, by rw [HS2.out]; exact (FBa.below (below_drewN (Below.refl _ _) _)).set 4 (.int .i64 (p.at_ + d)) rfl rfl rfl rfl⟩
                  case measure => simp [intOf]; omega
                · have dd2 : decide (cur < 0) = false := by simp [m2]
                  by_cases m3 : p.at_ + d < cur
                  · have dd3 : decide (p.at_ + d < cur) = true := by simp [m3]
                    have HS2 : Hid (lossAt L.s0.acked d (kept.take (j + 1)) (-1) = p.at_ + d) := Lib.hid (by rw [HS.out, if_pos ⟨m1, .inr m3⟩])
                    clear HS m1 m2
                    go_wp2_with fail
                    go_quiet (fail)
                    go_wp2
                    go_roundw
                    case rel => exact ⟨j + 1, by push_cast; rfl, by omega, by rw [HS2.out]; exact (FBa.below (below_drewN (Below.refl _ _) _)).set 4 (.int .i64 (p.at_ + d)) rfl rfl rfl rfl⟩
                    case measure => simp [intOf]; omega
                  · have dd3 : decide (p.at_ + d < cur) = false := by simp [m3]
                    have HS2 : Hid (lossAt L.s0.acked d (kept.take (j + 1)) (-1) = cur) := Lib.hid (by rw [HS.out, if_neg (by omega)])
                    clear HS
                    go_wp2_with fail
                    go_quiet (fail)
                    go_wp2
                    go_roundw
                    case rel => exact ⟨j + 1, by push_cast; rfl, by omega, by rw [HS2.out]; exact FBa.below (below_drewN (Below.refl _ _) _)⟩
                    case measure => simp [intOf]; omega
              · have dd1 : decide (p.num < L.s0.acked) = false := by simp [m1]
                have HS2 : Hid (lossAt L.s0.acked d (kept.take (j + 1)) (-1) = cur) := Lib.hid (by rw [HS.out, if_neg (by omega)])
                clear HS
                go_wp2_with fail
                go_quiet (fail)
                go_wp2
                go_roundw
                case rel => exact ⟨j + 1, by push_cast; rfl, by omega, by rw [HS2.out]; exact FBa.below (below_drewN (Below.refl _ _) _)⟩
                case measure => simp [intOf]; omega
            · obtain rfl : j = kept.length := by omega
              rw [List.take_length] at FBj
              have HL2 := Lib.hid (HLast.out wr _ FBj (by rw [HFound.out, HLz.out]))
              clear FBj
              go_wp2
              go_ret
              rw [← HLO.out]
              exact HL2.out
      · have HLz : Hid ((L.cut0 L.ask0).crash nw = L.cut0 L.ask0) := Lib.hid (by unfold Lo.crash; rw [if_neg (by exact hcr)])
        have FB4 : FB w2 (wr.setCell ⟨g, 4, none⟩ (.int .i64 (-1))) g w.heap.size (w.heap.size + 1) w1.heap.size 1 d (Lo.loss0 (L.cut0 L.ask0) (-1)) a0 c0 a1 c1 a2 c2 w.heap.size a c lost := FB0.set 4 (.int .i64 (-1)) rfl rfl rfl rfl
        have xT : wr.cell? ⟨g, 4, none⟩ = some (Value.int .i64 L.s0.loss) := FB0.l.has.cell 4 rfl
        have xTf := FB0.l.has.free 4
        have y3 := FB4.h3.cell 0 rfl
        have yO : (wr.setCell ⟨g, 4, none⟩ (.int .i64 (-1))).cell? ⟨g, 1, none⟩ = some (Value.slice a0 kept.length c0) := by rw [HKE.out]; exact FB4.l.has.cell 1 rfl
        go_wp2_with fail
        clear FB0 xT xTf y3 yO e2 e3 e24
        go_loopw [68] (fun iv wv => ∃ j : Nat, iv = .int .i64 (j : Int) ∧ j ≤ kept.length ∧ FB w2 wv g w.heap.size (w.heap.size + 1) w1.heap.size 1 d (Lo.loss0 (L.cut0 L.ask0) (lossAt L.s0.acked d (kept.take j) (-1))) a0 c0 a1 c1 a2 c2 w.heap.size a c lost) (fun iv _ => kept.length - (intOf iv).toNat)
        case atStart => exact ⟨0, rfl, Nat.zero_le _, FB4⟩
        case round =>
          obtain ⟨j, rfl, hj, FBj⟩ := hrel
          clear FB4
          by_cases hjl : j < kept.length
          · have hjl' : (j : Int) < (kept.length : Int) := by omega
            have hkI : (kept.length : Int) ≤ 4096 := by omega
            have g2 : IntKind.i64.wrap ((j : Int) + 1) = (j : Int) + 1 := by rw [IntKind.wrap_i64]; omega
            have rk : wr.ownsRow 0 68 4 (.slice a0 kept.length c0) kept.length (pv kept) := by rw [HKE.out]; exact FBj.l.r0
            obtain ⟨sb, hsb, e0, e1, e2, e3, s1, s2⟩ := own_pk rk rfl hjl
            have s1' : (kept.length : Int) ≤ (c0 : Int) := by omega
            have hpk := HKp.out _ (List.getElem_mem hjl)
            have HS : Hid (lossAt L.s0.acked d (kept.take (j + 1)) (-1) = if kept[j].num < L.s0.acked ∧ (lossAt L.s0.acked d (kept.take j) (-1) < 0 ∨ kept[j].at_ + d < lossAt L.s0.acked d (kept.take j) (-1)) then kept[j].at_ + d else lossAt L.s0.acked d (kept.take j) (-1)) := Lib.hid (by
              rw [List.take_succ_eq_append_getElem hjl, lossAt_snoc])
            generalize lossAt L.s0.acked d (kept.take j) (-1) = cur at HS FBj
            generalize kept[j] = p at HS e0 e1 e2 e3 hpk
            clear rk
            have hal : Below wr.heap.size wr (wr.alloc (.cells #[.int .i64 p.num, .int .i64 p.size, .int .i64 p.at_, .bool p.el] 68)) := (Below.refl _ _).alloc (Nat.le_refl _) _
            have hPk : Has (wr.alloc (.cells #[.int .i64 p.num, .int .i64 p.size, .int .i64 p.at_, .bool p.el] 68)) wr.heap.size 68 [.int .i64 p.num, .int .i64 p.size, .int .i64 p.at_, .bool p.el] := Has.new _ _ _
            have FBa := FBj.below hal
            have q0 := hPk.cell 0 rfl
            have q2 := hPk.cell 2 rfl
            have b3 := FBa.h3.cell 0 rfl
            have b5 := FBa.h5.cell 0 rfl
            have bA : (wr.alloc (.cells #[.int .i64 p.num, .int .i64 p.size, .int .i64 p.at_, .bool p.el] 68)).cell? ⟨g, 3, none⟩ = some (Value.int .i64 L.s0.acked) := FBa.l.has.cell 3 rfl
            have bT : (wr.alloc (.cells #[.int .i64 p.num, .int .i64 p.size, .int .i64 p.at_, .bool p.el] 68)).cell? ⟨g, 4, none⟩ = some (Value.int .i64 cur) := FBa.l.has.cell 4 rfl
            have bTf := FBa.l.has.free 4
            have gt : IntKind.i64.wrap (p.at_ + d) = p.at_ + d := by rw [IntKind.wrap_i64]; omega
            subst hsb
            by_cases m1 : p.num < L.s0.acked
            · have dd1 : decide (p.num < L.s0.acked) = true := by simp [m1]
              by_cases m2 : cur < 0
              · have dd2 : decide (cur < 0) = true := by simp [m2]
                have HS2 : Hid (lossAt L.s0.acked d (kept.take (j + 1)) (-1) = p.at_ + d) := Lib.hid (by rw [HS.out, if_pos ⟨m1, .inl m2⟩])
                clear HS m1 m2
                go_wp2_with fail
                go_quiet (fail)
                go_wp2
                go_roundw
                case rel => exact ⟨j + 1, by push_cast; rfl, by omega, by rw [HS2.out]; exact (FBa.below (below_drewN (Below.refl _ _) _)).set 4 (.int .i64 (p.at_ + d)) rfl rfl rfl rfl⟩
                case measure => simp [intOf]; omega
              · have dd2 : decide (cur < 0) = false := by simp [m2]
                by_cases m3 : p.at_ + d < cur
                · have dd3 : decide (p.at_ + d < cur) = true := by simp [m3]
                  have HS2 : Hid (lossAt L.s0.acked d (kept.take (j + 1)) (-1) = p.at_ + d) := Lib.hid (by rw [HS.out, if_pos ⟨m1, .inr m3⟩])
                  clear HS m1 m2
                  go_wp2_with fail
                  go_quiet (fail)
                  go_wp2
                  go_roundw
                  case rel => exact ⟨j + 1, by push_cast; rfl, by omega, by rw [HS2.out]; exact (FBa.below (below_drewN (Below.refl _ _) _)).set 4 (.int .i64 (p.at_ + d)) rfl rfl rfl rfl⟩
                  case measure => simp [intOf]; omega
                · have dd3 : decide (p.at_ + d < cur) = false := by simp [m3]
                  have HS2 : Hid (lossAt L.s0.acked d (kept.take (j + 1)) (-1) = cur) := Lib.hid (by rw [HS.out, if_neg (by omega)])
                  clear HS
                  go_wp2_with fail
                  go_quiet (fail)
                  go_wp2
                  go_roundw
                  case rel => exact ⟨j + 1, by push_cast; rfl, by omega, by rw [HS2.out]; exact FBa.below (below_drewN (Below.refl _ _) _)⟩
                  case measure => simp [intOf]; omega
            · have dd1 : decide (p.num < L.s0.acked) = false := by simp [m1]
              have HS2 : Hid (lossAt L.s0.acked d (kept.take (j + 1)) (-1) = cur) := Lib.hid (by rw [HS.out, if_neg (by omega)])
              clear HS
              go_wp2_with fail
              go_quiet (fail)
              go_wp2
              go_roundw
              case rel => exact ⟨j + 1, by push_cast; rfl, by omega, by rw [HS2.out]; exact FBa.below (below_drewN (Below.refl _ _) _)⟩
              case measure => simp [intOf]; omega
          · obtain rfl : j = kept.length := by omega
            rw [List.take_length] at FBj
            have HL2 := Lib.hid (HLast.out wr _ FBj (by rw [HFound.out, HLz.out]))
            clear FBj
            go_wp2
            go_ret
            rw [← HLO.out]
            exact HL2.out

set_option maxRecDepth 100000 in
set_option maxHeartbeats 8000000 in
theorem find_1 (w : World) {F : Nat → Prop} {g : Nat} {L : Lo} (hL : LAt F w g L) (hq : LoB L) :
    Calls Try.prog 24 #[.pointer (some ⟨g, 0, none⟩), .pointer (some ⟨g, 6, none⟩)] w fun e w' => ∃ a c, e = .returned (.slice a (L.s1.out.filter L.ask1).length c) ∧ Yes w' w.heap.size a c (L.s1.out.filter L.ask1) ∧ Kept (fun k => k = g) w w' ∧ LAt (Fat F w w') w' g L.found1 := by
  have hg0 := hL.lt
  have hFg := hL.fg
  obtain ⟨hd1, hd2⟩ := Lo.late_bounds hq.latest hq.smooth
  -- the boxes of l and s
  obtain ⟨wa, hwa⟩ : ∃ wa, wa = (w.alloc (.cells #[.pointer (some ⟨g, 0, none⟩)] 22)).alloc (.cells #[.pointer (some ⟨g, 6, none⟩)] 69) := ⟨_, rfl⟩
  have hal0 : Below w.heap.size w (w.alloc (.cells #[.pointer (some ⟨g, 0, none⟩)] 22)) := (Below.refl _ _).alloc (Nat.le_refl _) _
  have sz0 : (w.alloc (.cells #[.pointer (some ⟨g, 0, none⟩)] 22)).heap.size = w.heap.size + 1 := by simp
  have hala : Below w.heap.size w wa := by rw [hwa]; exact hal0.alloc (by omega) _
  have Hb2 : Has wa w.heap.size 22 [.pointer (some ⟨g, 0, none⟩)] := by
    rw [hwa]
    exact (Has.new w 22 #[.pointer (some ⟨g, 0, none⟩)]).kept (Kept.alloc none' _ _) (fun h => h)
  have Hb3 : Has wa (w.heap.size + 1) 69 [.pointer (some ⟨g, 6, none⟩)] := by
    have := Has.new (w.alloc (.cells #[.pointer (some ⟨g, 0, none⟩)] 22)) 69 #[.pointer (some ⟨g, 6, none⟩)]
    rw [sz0] at this
    rw [hwa]
    exact this
  have sza : wa.heap.size = w.heap.size + 2 := by rw [hwa]; simp
  have La := hL.below hala
  have HLt := Lib.hid (late_any wa La hq.latest hq.smooth)
  obtain ⟨d, hd⟩ : ∃ d, d = L.late := ⟨_, rfl⟩
  rw [← hd] at HLt hd1 hd2
  have HQ := Lib.hid hq
  have HD := Lib.hid hd
  have HWA := Lib.hid hwa
  have p2 := Hb2.cell 0 rfl
  have p3 := Hb3.cell 0 rfl
  have HHb2 := Lib.hid Hb2
  have HHb3 := Lib.hid Hb3
  clear hL hq hd hal0 Hb2 Hb3
  go_enter Try.func24, Try.ntmps24
  go_wp2_with fail
  rw [← hwa]
  clear hwa
  refine HLt.out.mono ?_
  rintro e w1 ⟨rfl, hb1⟩
  have z1 := hb1.size
  have s2 := (HHb2.out.kept (Kept.of_below (X := none') hb1) (fun h => h)).cell 0 rfl
  have s3 := (HHb3.out.kept (Kept.of_below (X := none') hb1) (fun h => h)).cell 0 rfl
  have lt3 : w.heap.size + 1 < w1.heap.size := by omega
  have lt2 : w.heap.size < w1.heap.size := by omega
  -- the box of d
  obtain ⟨wd, hwd⟩ : ∃ wd, wd = w1.alloc (.cells #[.int .i64 d] 3) := ⟨_, rfl⟩
  have hald : Below w1.heap.size w1 wd := by rw [hwd]; exact (Below.refl _ _).alloc (Nat.le_refl _) _
  have Hb5 : Has wd w1.heap.size 3 [.int .i64 d] := by rw [hwd]; exact Has.new w1 3 #[.int .i64 d]
  have szd : wd.heap.size = w1.heap.size + 1 := by rw [hwd]; simp
  have hbd : Below wa.heap.size wa wd := hb1.trans (hald.mono z1)
  have hBd : Below w.heap.size w wd := hala.trans (hbd.mono (by omega))
  have Ld := La.below hbd
  have Hb2d := HHb2.out.kept (Kept.of_below (X := none') hbd) (fun h => h)
  have Hb3d := HHb3.out.kept (Kept.of_below (X := none') hbd) (fun h => h)
  have r2 := Hb2d.cell 0 rfl
  have r3 := Hb3d.cell 0 rfl
  have r5 := Hb5.cell 0 rfl
  have hacked := (Ld.cell (8) (v := .int .i64 L.s1.acked) (fun _ _ _ _ _ _ => rfl)).1
  have hnow := (Ld.cell 16 (v := .int .i64 L.now) (fun _ _ _ _ _ _ => rfl)).1
  have HSp := Lib.hid (split_F1 wd Ld HQ.out.b1.len L.ask1 (w.heap.size + 1) w.heap.size w1.heap.size (fun w' p hb hp => by
    have e1 := (hb.cell (World.block_lt_of_cell? _ _ r3)).trans r3
    have e2 := (hb.cell (World.block_lt_of_cell? _ _ r2)).trans r2
    have e3 := (hb.cell (World.block_lt_of_cell? _ _ r5)).trans r5
    have e4 := (hb.cell (World.block_lt_of_cell? _ _ hacked)).trans hacked
    have e5 := (hb.cell (World.block_lt_of_cell? _ _ hnow)).trans hnow
    have := lost_any w' p _ _ _ g 6 L.s1.acked L.now d e1 e2 e3 e4 e5 HQ.out.b1.acked HQ.out.now ⟨hd1, hd2⟩
    unfold Lo.ask1
    rw [← HD.out]
    exact this))
  have HWD := Lib.hid hwd
  have HLd := Lib.hid Ld
  have HHb2d := Lib.hid Hb2d
  have HHb3d := Lib.hid Hb3d
  have HHb5 := Lib.hid Hb5
  clear p2 p3 hacked hnow La Hb2d Hb3d Hb5 Ld HLt HHb2 HHb3 r2 r3 r5
  go_wp2_with fail
  rw [← hwd]
  clear hwd
  refine HSp.out.mono ?_
  rintro e w2 ⟨a, c, rfl, hY, hk2, hL2, hab⟩
  have z2 := hk2.size
  have hgw : g < w.heap.size := hg0
  have hY0 : Yes w2 w.heap.size a c (L.s1.out.filter L.ask1) := own_mono hY (by omega)
  have hK2 : Kept (fun k => k = g) w w2 := (Kept.of_below hBd).trans hk2 (fun _ _ h => h)
  have L2 : LAt (Fat F w w2) w2 g (L.cut1 L.ask1) := hL2.more (fun k h _ => h.elim .inl (fun h => .inr ⟨by omega, h.2⟩))
  have hlost : (L.s1.out.filter L.ask1).length ≤ 4096 := Nat.le_trans (List.length_filter_le _ _) HQ.out.b1.len
  have hkeptlen : (L.s1.out.filter fun p => !L.ask1 p).length ≤ 4096 := Nat.le_trans (List.length_filter_le _ _) HQ.out.b1.len
  obtain ⟨lost, hlo⟩ : ∃ lost, lost = L.s1.out.filter L.ask1 := ⟨_, rfl⟩
  rw [← hlo] at hY hY0 hlost ⊢
  have HLO := Lib.hid hlo
  clear hlo
  have hlI : (lost.length : Int) ≤ 4096 := by omega
  have n2 : ¬ w.heap.size = g := by omega
  have n3 : ¬ w.heap.size + 1 = g := by omega
  have n5 : ¬ w1.heap.size = g := by omega
  have B2 := HHb2d.out.kept hk2 n2
  have B3 := HHb3d.out.kept hk2 n3
  have B5 := HHb5.out.kept hk2 n5
  have hYg : ∀ ad, a = some ad → ad.block ≠ g := fun ad ha e => by have := ownblk hY ha; omega
  clear HSp HHb2d HHb3d HHb5 HLd hL2 hk2 hY hab s2 s3
  go_wp2_with fail
  go_loopw [7, 20] (fun nv iv wr => ∃ j : Nat, iv = .int .i64 (j : Int) ∧ nv = .int .i64 (newest (lost.take j) (-1)) ∧ j ≤ lost.length ∧ Below w2.heap.size w2 wr) (fun _ iv _ => lost.length - (intOf iv).toNat)
  case atStart => exact ⟨0, rfl, rfl, Nat.zero_le _, Below.refl _ _⟩
  case round =>
    obtain ⟨j, rfl, rfl, hj, hB⟩ := hrel
    by_cases hjl : j < lost.length
    · have hjl' : (j : Int) < (lost.length : Int) := by omega
      have g2 : IntKind.i64.wrap ((j : Int) + 1) = (j : Int) + 1 := by rw [IntKind.wrap_i64]; omega
      obtain ⟨sb, rfl, e0, e1, e2, e3, s1, s2⟩ := own_pk (own_below hY0 hB) rfl hjl
      have s1' : (lost.length : Int) ≤ (c : Int) := by omega
      have HS : Hid (newest (lost.take (j + 1)) (-1) = if lost[j].el then max (newest (lost.take j) (-1)) lost[j].at_ else newest (lost.take j) (-1)) := Lib.hid (by
        rw [List.take_succ_eq_append_getElem hjl, newest_snoc])
      generalize newest (lost.take j) (-1) = nv at HS ⊢
      generalize lost[j] = p at HS e0 e1 e2 e3
      have hBa : Below w2.heap.size w2 (wr.alloc (.cells #[.int .i64 p.num, .int .i64 p.size, .int .i64 p.at_, .bool p.el] 68)) := hB.alloc hB.size _
      cases hel : p.el
      · rw [hel] at e3 hBa
        have HS2 : Hid (newest (lost.take (j + 1)) (-1) = nv) := Lib.hid (by rw [HS.out, hel]; rfl)
        clear hel
        go_wp2
        go_roundw
        case rel => exact ⟨j + 1, by push_cast; rfl, by rw [HS2.out], by omega, hBa⟩
        case measure => simp [intOf]; omega
      · rw [hel] at e3 hBa
        have HS2 : Hid (newest (lost.take (j + 1)) (-1) = max nv p.at_) := Lib.hid (by rw [HS.out, hel]; rfl)
        clear hel
        go_wp2
        go_roundw
        case rel => exact ⟨j + 1, by push_cast; rfl, by rw [HS2.out]; congr 1; split <;> omega, by omega, hBa⟩
        case measure => simp [intOf]; omega
    · obtain rfl : j = lost.length := by omega
      rw [List.take_length]
      obtain ⟨nw, hnw⟩ : ∃ nw, nw = newest lost (-1) := ⟨_, rfl⟩
      rw [← hnw]
      have HNW := Lib.hid hnw
      clear hnw
      obtain ⟨a0, c0, a1, c1, a2, c2, LBx, f, f0, f1, f2⟩ := L2
      have FB0 : FB w2 wr g w.heap.size (w.heap.size + 1) w1.heap.size 6 d (L.cut1 L.ask1) a0 c0 a1 c1 a2 c2 w.heap.size a c lost := (FB.mk LBx B2 B3 B5 hY0 (Kept.refl _ _) n2 n3 n5 hYg).below hB
      have HLast : Hid (∀ (w' : World) (Lz : Lo), FB w2 w' g w.heap.size (w.heap.size + 1) w1.heap.size 6 d Lz a0 c0 a1 c1 a2 c2 w.heap.size a c lost → Lz = L.found1 →
          (∃ a' c', Ending.returned (.slice a lost.length c) = .returned (.slice a' lost.length c') ∧ Yes w' w.heap.size a' c' lost ∧ Kept (fun k => k = g) w w' ∧ LAt (Fat F w w') w' g L.found1)) := Lib.hid (fun w' Lz hFB hz => by
        subst hz
        have zz := hFB.k.size
        have up : ∀ k, Fat F w w2 k → Fat F w w' k := fun k hk => hk.elim .inl (fun h => .inr ⟨h.1, by omega⟩)
        exact ⟨a, c, rfl, hFB.y, hK2.trans hFB.k (fun _ _ e => e), a0, c0, a1, c1, a2, c2, hFB.l, up _ f, fun ad ha => up _ (f0 ad ha), fun ad ha => up _ (f1 ad ha), fun ad ha => up _ (f2 ad ha)⟩)
      have HFound : Hid (L.found1 = ((L.cut1 L.ask1).crash nw).loss1 (lossAt L.s1.acked d (L.s1.out.filter fun p => !L.ask1 p) (-1))) := Lib.hid (by rw [HNW.out, HLO.out, HD.out]; rfl)
      have HKp := Lib.hid (fun p (hp : p ∈ L.s1.out.filter fun p => !L.ask1 p) => HQ.out.b1.pk p (List.mem_filter.1 hp).1)
      obtain ⟨kept, hkept⟩ : ∃ kept, kept = L.s1.out.filter fun p => !L.ask1 p := ⟨_, rfl⟩
      rw [← hkept] at HFound HKp hkeptlen
      have HKE := Lib.hid hkept
      clear hkept hB B2 B3 B5 hY0 hYg LBx f f0 f1 f2
      have hwin := HQ.out.window
      have hqnow := HQ.out.now
      have hqa := HQ.out.b1.acked
      have e2 := FB0.h2.cell 0 rfl
      have e3 := FB0.h3.cell 0 rfl
      have e24 : wr.cell? ⟨g, 24, none⟩ = some (.int .i64 L.recovery) := FB0.l.has.cell 24 rfl
      by_cases hcr : L.recovery < nw
      · have FBd := FB0.drew
        have x2 := FBd.h2.cell 0 rfl
        have x16 : wr.drew.cell? ⟨g, 16, none⟩ = some (.int .i64 L.now) := FBd.l.has.cell 16 rfl
        have x24 : wr.drew.cell? ⟨g, 24, none⟩ = some (.int .i64 L.recovery) := FBd.l.has.cell 24 rfl
        have x24f := FBd.l.has.free 24
        have FB1 : FB w2 (wr.setCell ⟨g, 24, none⟩ (.int .i64 L.now)).drew g w.heap.size (w.heap.size + 1) w1.heap.size 6 d { L.cut1 L.ask1 with recovery := L.now } a0 c0 a1 c1 a2 c2 w.heap.size a c lost := FBd.set 24 (.int .i64 L.now) rfl rfl rfl rfl
        go_wp2_with fail
        refine Mx.regionZ [] (fun w' => w'.cell? ⟨w.heap.size, 0, none⟩ = some (.pointer (some ⟨g, 0, none⟩)) ∧ w'.cell? ⟨g, 16, none⟩ = some (.int .i64 L.now)) (by kernel_rfl) (by kernel_rfl) ⟨x2, x16⟩ ?_
        repeat ((first | (refine Mx.skips (by kernel_rfl) ?_; go_big_quiet_skip) | (refine Mx.quietly rfl ?_; go_big_quiet_want; go_big_quiet_op; go_big_quiet_on)); refine Mx.done ?_)
        refine Mx.cell ⟨w.heap.size, 0, none⟩ (.pointer (some ⟨g, 0, none⟩)) (by kernel_rfl) (by kernel_rfl) (by kernel_rfl) Try.isAgg22 (fun w' h => h.1) ?_
        go_big_quiet_want; go_big_quiet_op; go_big_quiet_on; refine Mx.done ?_
        repeat ((first | (refine Mx.skips (by kernel_rfl) ?_; go_big_quiet_skip) | (refine Mx.quietly rfl ?_; go_big_quiet_want; go_big_quiet_op; go_big_quiet_on)); refine Mx.done ?_)
        refine Mx.cell ⟨w.heap.size, 0, none⟩ (.pointer (some ⟨g, 0, none⟩)) (by kernel_rfl) (by kernel_rfl) (by kernel_rfl) Try.isAgg22 (fun w' h => h.1) ?_
        go_big_quiet_want; go_big_quiet_op; go_big_quiet_on; refine Mx.done ?_
        repeat ((first | (refine Mx.skips (by kernel_rfl) ?_; go_big_quiet_skip) | (refine Mx.quietly rfl ?_; go_big_quiet_want; go_big_quiet_op; go_big_quiet_on)); refine Mx.done ?_)
        refine Mx.cell ⟨g, 16, none⟩ (.int .i64 L.now) (by kernel_rfl) (by kernel_rfl) (by kernel_rfl) Try.isAgg3 (fun w' h => h.2) ?_
        go_big_quiet_want; go_big_quiet_op; go_big_quiet_on; refine Mx.done ?_
        repeat ((first | (refine Mx.skips (by kernel_rfl) ?_; go_big_quiet_skip) | (refine Mx.quietly rfl ?_; go_big_quiet_want; go_big_quiet_op; go_big_quiet_on)); refine Mx.done ?_)
        refine Mx.atLast (by kernel_rfl) (by kernel_rfl) ?_
        go_wp2_with fail
        generalize (wr.setCell ⟨g, 24, none⟩ (.int .i64 L.now)).drew = v1 at *
        have FB1d := FB1.drew
        have y2 := FB1d.h2.cell 0 rfl
        have y22 : v1.drew.cell? ⟨g, 22, none⟩ = some (Value.int .i64 L.window) := FB1d.l.has.cell 22 rfl
        have y23 : v1.drew.cell? ⟨g, 23, none⟩ = some (Value.int .i64 L.threshold) := FB1d.l.has.cell 23 rfl
        have y23f := FB1d.l.has.free 23
        have FB2 : FB w2 (v1.setCell ⟨g, 23, none⟩ (.int .i64 (L.window / 2))).drew g w.heap.size (w.heap.size + 1) w1.heap.size 6 d { L.cut1 L.ask1 with recovery := L.now, threshold := L.window / 2 } a0 c0 a1 c1 a2 c2 w.heap.size a c lost := FB1d.set 23 (.int .i64 (L.window / 2)) rfl rfl rfl rfl
        refine Mx.regionZ [] (fun w' => w'.cell? ⟨w.heap.size, 0, none⟩ = some (.pointer (some ⟨g, 0, none⟩)) ∧ w'.cell? ⟨g, 22, none⟩ = some (.int .i64 L.window)) (by kernel_rfl) (by kernel_rfl) ⟨y2, y22⟩ ?_
        repeat ((first | (refine Mx.skips (by kernel_rfl) ?_; go_big_quiet_skip) | (refine Mx.quietly rfl ?_; go_big_quiet_want; go_big_quiet_op; go_big_quiet_on)); refine Mx.done ?_)
        refine Mx.cell ⟨w.heap.size, 0, none⟩ (.pointer (some ⟨g, 0, none⟩)) (by kernel_rfl) (by kernel_rfl) (by kernel_rfl) Try.isAgg22 (fun w' h => h.1) ?_
        go_big_quiet_want; go_big_quiet_op; go_big_quiet_on; refine Mx.done ?_
        repeat ((first | (refine Mx.skips (by kernel_rfl) ?_; go_big_quiet_skip) | (refine Mx.quietly rfl ?_; go_big_quiet_want; go_big_quiet_op; go_big_quiet_on)); refine Mx.done ?_)
        refine Mx.cell ⟨w.heap.size, 0, none⟩ (.pointer (some ⟨g, 0, none⟩)) (by kernel_rfl) (by kernel_rfl) (by kernel_rfl) Try.isAgg22 (fun w' h => h.1) ?_
        go_big_quiet_want; go_big_quiet_op; go_big_quiet_on; refine Mx.done ?_
        repeat ((first | (refine Mx.skips (by kernel_rfl) ?_; go_big_quiet_skip) | (refine Mx.quietly rfl ?_; go_big_quiet_want; go_big_quiet_op; go_big_quiet_on)); refine Mx.done ?_)
        refine Mx.cell ⟨g, 22, none⟩ (.int .i64 L.window) (by kernel_rfl) (by kernel_rfl) (by kernel_rfl) Try.isAgg3 (fun w' h => h.2) ?_
        go_big_quiet_want; go_big_quiet_op; go_big_quiet_on; refine Mx.done ?_
        repeat ((first | (refine Mx.skips (by kernel_rfl) ?_; go_big_quiet_skip) | (refine Mx.quietly rfl ?_; go_big_quiet_want; go_big_quiet_op; go_big_quiet_on)); refine Mx.done ?_)
        refine Mx.atLast (by kernel_rfl) (by kernel_rfl) ?_
        go_wp2_with fail
        generalize (v1.setCell ⟨g, 23, none⟩ (.int .i64 (L.window / 2))).drew = v2 at *
        have FB2d := FB2.drew
        have u2 := FB2d.h2.cell 0 rfl
        have u23 : v2.drew.cell? ⟨g, 23, none⟩ = some (Value.int .i64 (L.window / 2)) := FB2d.l.has.cell 23 rfl
        have u22 : v2.drew.cell? ⟨g, 22, none⟩ = some (Value.int .i64 L.window) := FB2d.l.has.cell 22 rfl
        have u22f := FB2d.l.has.free 22
        obtain ⟨mw, hmw⟩ : ∃ mw, mw = max (L.window / 2) 2400 := ⟨_, rfl⟩
        have hcs : (L.window / 2 < 2400 ∧ mw = 2400) ∨ (¬ L.window / 2 < 2400 ∧ mw = L.window / 2) := by omega
        obtain ⟨Lz, hLz⟩ : ∃ Lz : Lo, Lz = { L.cut1 L.ask1 with recovery := L.now, threshold := L.window / 2, window := mw } := ⟨_, rfl⟩
        have HLz : Hid ((L.cut1 L.ask1).crash nw = { L.cut1 L.ask1 with recovery := L.now, threshold := L.window / 2, window := mw }) := Lib.hid (by
          unfold Lo.crash
          rw [if_pos (by exact hcr), hmw]
          rfl)
        clear hLz
        have FB3 : FB w2 (v2.setCell ⟨g, 22, none⟩ (.int .i64 mw)).drew g w.heap.size (w.heap.size + 1) w1.heap.size 6 d { L.cut1 L.ask1 with recovery := L.now, threshold := L.window / 2, window := mw } a0 c0 a1 c1 a2 c2 w.heap.size a c lost := FB2d.set 22 (.int .i64 mw) rfl rfl rfl rfl
        have FB4 : FB w2 ((v2.setCell ⟨g, 22, none⟩ (.int .i64 mw)).setCell ⟨g, 9, none⟩ (.int .i64 (-1))).drew g w.heap.size (w.heap.size + 1) w1.heap.size 6 d (Lo.loss1 { L.cut1 L.ask1 with recovery := L.now, threshold := L.window / 2, window := mw } (-1)) a0 c0 a1 c1 a2 c2 w.heap.size a c lost := FB3.set 9 (.int .i64 (-1)) rfl rfl rfl rfl
        have x3 := FB3.h3.cell 0 rfl
        have xT : (v2.setCell ⟨g, 22, none⟩ (.int .i64 mw)).drew.cell? ⟨g, 9, none⟩ = some (Value.int .i64 L.s1.loss) := FB3.l.has.cell 9 rfl
        have xTf := FB3.l.has.free 9
        have y3 := FB4.h3.cell 0 rfl
        have yO : ((v2.setCell ⟨g, 22, none⟩ (.int .i64 mw)).setCell ⟨g, 9, none⟩ (.int .i64 (-1))).drew.cell? ⟨g, 6, none⟩ = some (Value.slice a1 kept.length c1) := by rw [HKE.out]; exact FB4.l.has.cell 6 rfl
        have HMW := Lib.hid hmw
        clear hmw
        rcases hcs with ⟨hx, rfl⟩ | ⟨hx, rfl⟩
        · refine Mx.regionZ [] (fun w' => w'.cell? ⟨w.heap.size, 0, none⟩ = some (.pointer (some ⟨g, 0, none⟩)) ∧ w'.cell? ⟨g, 23, none⟩ = some (.int .i64 (L.window / 2))) (by kernel_rfl) (by kernel_rfl) ⟨u2, u23⟩ ?_
          repeat ((first | (refine Mx.skips (by kernel_rfl) ?_; go_big_quiet_skip) | (refine Mx.quietly rfl ?_; go_big_quiet_want; go_big_quiet_op; go_big_quiet_on)); refine Mx.done ?_)
          refine Mx.cell ⟨w.heap.size, 0, none⟩ (.pointer (some ⟨g, 0, none⟩)) (by kernel_rfl) (by kernel_rfl) (by kernel_rfl) Try.isAgg22 (fun w' h => h.1) ?_
          go_big_quiet_want; go_big_quiet_op; go_big_quiet_on; refine Mx.done ?_
          repeat ((first | (refine Mx.skips (by kernel_rfl) ?_; go_big_quiet_skip) | (refine Mx.quietly rfl ?_; go_big_quiet_want; go_big_quiet_op; go_big_quiet_on)); refine Mx.done ?_)
          refine Mx.cell ⟨w.heap.size, 0, none⟩ (.pointer (some ⟨g, 0, none⟩)) (by kernel_rfl) (by kernel_rfl) (by kernel_rfl) Try.isAgg22 (fun w' h => h.1) ?_
          go_big_quiet_want; go_big_quiet_op; go_big_quiet_on; refine Mx.done ?_
          repeat ((first | (refine Mx.skips (by kernel_rfl) ?_; go_big_quiet_skip) | (refine Mx.quietly rfl ?_; go_big_quiet_want; go_big_quiet_op; go_big_quiet_on)); refine Mx.done ?_)
          refine Mx.cell ⟨g, 23, none⟩ (.int .i64 (L.window / 2)) (by kernel_rfl) (by kernel_rfl) (by kernel_rfl) Try.isAgg3 (fun w' h => h.2) ?_
          go_big_quiet_want; go_big_quiet_op; go_big_quiet_on; refine Mx.done ?_
          repeat ((first | (refine Mx.skips (by kernel_rfl) ?_; go_big_quiet_skip) | (refine Mx.quietly rfl ?_; go_big_quiet_want; go_big_quiet_op; go_big_quiet_on)); refine Mx.done ?_)
          refine Mx.atLast (by kernel_rfl) (by kernel_rfl) ?_
          go_wp2_with fail
          clear FB3 x3 xT xTf y3 yO FB2 FB2d u2 u23 u22 u22f
          go_loopw [68] (fun iv wv => ∃ j : Nat, iv = .int .i64 (j : Int) ∧ j ≤ kept.length ∧ FB w2 wv g w.heap.size (w.heap.size + 1) w1.heap.size 6 d (Lo.loss1 { L.cut1 L.ask1 with recovery := L.now, threshold := L.window / 2, window := 2400 } (lossAt L.s1.acked d (kept.take j) (-1))) a0 c0 a1 c1 a2 c2 w.heap.size a c lost) (fun iv _ => kept.length - (intOf iv).toNat)
          case atStart => exact ⟨0, rfl, Nat.zero_le _, FB4⟩
          case round =>
            obtain ⟨j, rfl, hj, FBj⟩ := hrel
            clear FB4
            by_cases hjl : j < kept.length
            · have hjl' : (j : Int) < (kept.length : Int) := by omega
              have hkI : (kept.length : Int) ≤ 4096 := by omega
              have g2 : IntKind.i64.wrap ((j : Int) + 1) = (j : Int) + 1 := by rw [IntKind.wrap_i64]; omega
              have rk : wr.ownsRow 0 68 4 (.slice a1 kept.length c1) kept.length (pv kept) := by rw [HKE.out]; exact FBj.l.r1
              obtain ⟨sb, hsb, e0, e1, e2, e3, s1, s2⟩ := own_pk rk rfl hjl
              have s1' : (kept.length : Int) ≤ (c1 : Int) := by omega
              have hpk := HKp.out _ (List.getElem_mem hjl)
              have HS : Hid (lossAt L.s1.acked d (kept.take (j + 1)) (-1) = if kept[j].num < L.s1.acked ∧ (lossAt L.s1.acked d (kept.take j) (-1) < 0 ∨ kept[j].at_ + d < lossAt L.s1.acked d (kept.take j) (-1)) then kept[j].at_ + d else lossAt L.s1.acked d (kept.take j) (-1)) := Lib.hid (by
                rw [List.take_succ_eq_append_getElem hjl, lossAt_snoc])
              generalize lossAt L.s1.acked d (kept.take j) (-1) = cur at HS FBj
              generalize kept[j] = p at HS e0 e1 e2 e3 hpk
              clear rk
              have hal : Below wr.heap.size wr (wr.alloc (.cells #[.int .i64 p.num, .int .i64 p.size, .int .i64 p.at_, .bool p.el] 68)) := (Below.refl _ _).alloc (Nat.le_refl _) _
              have hPk : Has (wr.alloc (.cells #[.int .i64 p.num, .int .i64 p.size, .int .i64 p.at_, .bool p.el] 68)) wr.heap.size 68 [.int .i64 p.num, .int .i64 p.size, .int .i64 p.at_, .bool p.el] := Has.new _ _ _
              have FBa := FBj.below hal
              have q0 := hPk.cell 0 rfl
              have q2 := hPk.cell 2 rfl
              have b3 := FBa.h3.cell 0 rfl
              have b5 := FBa.h5.cell 0 rfl
              have bA : (wr.alloc (.cells #[.int .i64 p.num, .int .i64 p.size, .int .i64 p.at_, .bool p.el] 68)).cell? ⟨g, 8, none⟩ = some (Value.int .i64 L.s1.acked) := FBa.l.has.cell 8 rfl
              have bT : (wr.alloc (.cells #[.int .i64 p.num, .int .i64 p.size, .int .i64 p.at_, .bool p.el] 68)).cell? ⟨g, 9, none⟩ = some (Value.int .i64 cur) := FBa.l.has.cell 9 rfl
              have bTf := FBa.l.has.free 9
              have gt : IntKind.i64.wrap (p.at_ + d) = p.at_ + d := by rw [IntKind.wrap_i64]; omega
              subst hsb
              by_cases m1 : p.num < L.s1.acked
              · have dd1 : decide (p.num < L.s1.acked) = true := by simp [m1]
                by_cases m2 : cur < 0
                · have dd2 : decide (cur < 0) = true := by simp [m2]
                  have HS2 : Hid (lossAt L.s1.acked d (kept.take (j + 1)) (-1) = p.at_ + d) := Lib.hid (by rw [HS.out, if_pos ⟨m1, .inl m2⟩])
                  clear HS m1 m2
                  go_wp2_with fail
                  go_quiet (fail)
                  go_wp2
                  go_roundw
                  case rel => exact ⟨j + 1, by push_cast; rfl, by omega, by rw [HS2.out]; exact (FBa.below (below_drewN (Below.refl _ _) _)).set 9 (.int .i64 (p.at_ + d)) rfl rfl rfl rfl⟩
                  case measure => simp [intOf]; omega
                · have dd2 : decide (cur < 0) = false := by simp [m2]
                  by_cases m3 : p.at_ + d < cur
                  · have dd3 : decide (p.at_ + d < cur) = true := by simp [m3]
                    have HS2 : Hid (lossAt L.s1.acked d (kept.take (j + 1)) (-1) = p.at_ + d) := Lib.hid (by rw [HS.out, if_pos ⟨m1, .inr m3⟩])
                    clear HS m1 m2
                    go_wp2_with fail
                    go_quiet (fail)
                    go_wp2
                    go_roundw
                    case rel => exact ⟨j + 1, by push_cast; rfl, by omega, by rw [HS2.out]; exact (FBa.below (below_drewN (Below.refl _ _) _)).set 9 (.int .i64 (p.at_ + d)) rfl rfl rfl rfl⟩
                    case measure => simp [intOf]; omega
                  · have dd3 : decide (p.at_ + d < cur) = false := by simp [m3]
                    have HS2 : Hid (lossAt L.s1.acked d (kept.take (j + 1)) (-1) = cur) := Lib.hid (by rw [HS.out, if_neg (by omega)])
                    clear HS
                    go_wp2_with fail
                    go_quiet (fail)
                    go_wp2
                    go_roundw
                    case rel => exact ⟨j + 1, by push_cast; rfl, by omega, by rw [HS2.out]; exact FBa.below (below_drewN (Below.refl _ _) _)⟩
                    case measure => simp [intOf]; omega
              · have dd1 : decide (p.num < L.s1.acked) = false := by simp [m1]
                have HS2 : Hid (lossAt L.s1.acked d (kept.take (j + 1)) (-1) = cur) := Lib.hid (by rw [HS.out, if_neg (by omega)])
                clear HS
                go_wp2_with fail
                go_quiet (fail)
                go_wp2
                go_roundw
                case rel => exact ⟨j + 1, by push_cast; rfl, by omega, by rw [HS2.out]; exact FBa.below (below_drewN (Below.refl _ _) _)⟩
                case measure => simp [intOf]; omega
            · obtain rfl : j = kept.length := by omega
              rw [List.take_length] at FBj
              have HL2 := Lib.hid (HLast.out wr _ FBj (by rw [HFound.out, HLz.out]))
              clear FBj
              go_wp2
              go_ret
              rw [← HLO.out]
              exact HL2.out
        · refine Mx.regionZ [] (fun w' => w'.cell? ⟨w.heap.size, 0, none⟩ = some (.pointer (some ⟨g, 0, none⟩)) ∧ w'.cell? ⟨g, 23, none⟩ = some (.int .i64 (L.window / 2))) (by kernel_rfl) (by kernel_rfl) ⟨u2, u23⟩ ?_
          repeat ((first | (refine Mx.skips (by kernel_rfl) ?_; go_big_quiet_skip) | (refine Mx.quietly rfl ?_; go_big_quiet_want; go_big_quiet_op; go_big_quiet_on)); refine Mx.done ?_)
          refine Mx.cell ⟨w.heap.size, 0, none⟩ (.pointer (some ⟨g, 0, none⟩)) (by kernel_rfl) (by kernel_rfl) (by kernel_rfl) Try.isAgg22 (fun w' h => h.1) ?_
          go_big_quiet_want; go_big_quiet_op; go_big_quiet_on; refine Mx.done ?_
          repeat ((first | (refine Mx.skips (by kernel_rfl) ?_; go_big_quiet_skip) | (refine Mx.quietly rfl ?_; go_big_quiet_want; go_big_quiet_op; go_big_quiet_on)); refine Mx.done ?_)
          refine Mx.cell ⟨w.heap.size, 0, none⟩ (.pointer (some ⟨g, 0, none⟩)) (by kernel_rfl) (by kernel_rfl) (by kernel_rfl) Try.isAgg22 (fun w' h => h.1) ?_
          go_big_quiet_want; go_big_quiet_op; go_big_quiet_on; refine Mx.done ?_
          repeat ((first | (refine Mx.skips (by kernel_rfl) ?_; go_big_quiet_skip) | (refine Mx.quietly rfl ?_; go_big_quiet_want; go_big_quiet_op; go_big_quiet_on)); refine Mx.done ?_)
          refine Mx.cell ⟨g, 23, none⟩ (.int .i64 (L.window / 2)) (by kernel_rfl) (by kernel_rfl) (by kernel_rfl) Try.isAgg3 (fun w' h => h.2) ?_
          go_big_quiet_want; go_big_quiet_op; go_big_quiet_on; refine Mx.done ?_
          repeat ((first | (refine Mx.skips (by kernel_rfl) ?_; go_big_quiet_skip) | (refine Mx.quietly rfl ?_; go_big_quiet_want; go_big_quiet_op; go_big_quiet_on)); refine Mx.done ?_)
          refine Mx.atLast (by kernel_rfl) (by kernel_rfl) ?_
          go_wp2_with fail
          clear FB3 x3 xT xTf y3 yO FB2 FB2d u2 u23 u22 u22f
          go_loopw [68] (fun iv wv => ∃ j : Nat, iv = .int .i64 (j : Int) ∧ j ≤ kept.length ∧ FB w2 wv g w.heap.size (w.heap.size + 1) w1.heap.size 6 d (Lo.loss1 { L.cut1 L.ask1 with recovery := L.now, threshold := L.window / 2, window := L.window / 2 } (lossAt L.s1.acked d (kept.take j) (-1))) a0 c0 a1 c1 a2 c2 w.heap.size a c lost) (fun iv _ => kept.length - (intOf iv).toNat)
          case atStart => exact ⟨0, rfl, Nat.zero_le _, FB4⟩
          case round =>
            obtain ⟨j, rfl, hj, FBj⟩ := hrel
            clear FB4
            by_cases hjl : j < kept.length
            · have hjl' : (j : Int) < (kept.length : Int) := by omega
              have hkI : (kept.length : Int) ≤ 4096 := by omega
              have g2 : IntKind.i64.wrap ((j : Int) + 1) = (j : Int) + 1 := by rw [IntKind.wrap_i64]; omega
              have rk : wr.ownsRow 0 68 4 (.slice a1 kept.length c1) kept.length (pv kept) := by rw [HKE.out]; exact FBj.l.r1
              obtain ⟨sb, hsb, e0, e1, e2, e3, s1, s2⟩ := own_pk rk rfl hjl
              have s1' : (kept.length : Int) ≤ (c1 : Int) := by omega
              have hpk := HKp.out _ (List.getElem_mem hjl)
              have HS : Hid (lossAt L.s1.acked d (kept.take (j + 1)) (-1) = if kept[j].num < L.s1.acked ∧ (lossAt L.s1.acked d (kept.take j) (-1) < 0 ∨ kept[j].at_ + d < lossAt L.s1.acked d (kept.take j) (-1)) then kept[j].at_ + d else lossAt L.s1.acked d (kept.take j) (-1)) := Lib.hid (by
                rw [List.take_succ_eq_append_getElem hjl, lossAt_snoc])
              generalize lossAt L.s1.acked d (kept.take j) (-1) = cur at HS FBj
              generalize kept[j] = p at HS e0 e1 e2 e3 hpk
              clear rk
              have hal : Below wr.heap.size wr (wr.alloc (.cells #[.int .i64 p.num, .int .i64 p.size, .int .i64 p.at_, .bool p.el] 68)) := (Below.refl _ _).alloc (Nat.le_refl _) _
              have hPk : Has (wr.alloc (.cells #[.int .i64 p.num, .int .i64 p.size, .int .i64 p.at_, .bool p.el] 68)) wr.heap.size 68 [.int .i64 p.num, .int .i64 p.size, .int .i64 p.at_, .bool p.el] := Has.new _ _ _
              have FBa := FBj.below hal
              have q0 := hPk.cell 0 rfl
              have q2 := hPk.cell 2 rfl
              have b3 := FBa.h3.cell 0 rfl
              have b5 := FBa.h5.cell 0 rfl
              have bA : (wr.alloc (.cells #[.int .i64 p.num, .int .i64 p.size, .int .i64 p.at_, .bool p.el] 68)).cell? ⟨g, 8, none⟩ = some (Value.int .i64 L.s1.acked) := FBa.l.has.cell 8 rfl
              have bT : (wr.alloc (.cells #[.int .i64 p.num, .int .i64 p.size, .int .i64 p.at_, .bool p.el] 68)).cell? ⟨g, 9, none⟩ = some (Value.int .i64 cur) := FBa.l.has.cell 9 rfl
              have bTf := FBa.l.has.free 9
              have gt : IntKind.i64.wrap (p.at_ + d) = p.at_ + d := by rw [IntKind.wrap_i64]; omega
              subst hsb
              by_cases m1 : p.num < L.s1.acked
              · have dd1 : decide (p.num < L.s1.acked) = true := by simp [m1]
                by_cases m2 : cur < 0
                · have dd2 : decide (cur < 0) = true := by simp [m2]
                  have HS2 : Hid (lossAt L.s1.acked d (kept.take (j + 1)) (-1) = p.at_ + d) := Lib.hid (by rw [HS.out, if_pos ⟨m1, .inl m2⟩])
                  clear HS m1 m2
                  go_wp2_with fail
                  go_quiet (fail)
                  go_wp2
                  go_roundw
                  case rel => exact ⟨j + 1, by push_cast; rfl, by omega, by rw [HS2.out]; exact (FBa.below (below_drewN (Below.refl _ _) _)).set 9 (.int .i64 (p.at_ + d)) rfl rfl rfl rfl⟩
                  case measure => simp [intOf]; omega
                · have dd2 : decide (cur < 0) = false := by simp [m2]
                  by_cases m3 : p.at_ + d < cur
                  · have dd3 : decide (p.at_ + d < cur) = true := by simp [m3]
                    have HS2 : Hid (lossAt L.s1.acked d (kept.take (j + 1)) (-1) = p.at_ + d) := Lib.hid (by rw [HS.out, if_pos ⟨m1, .inr m3⟩])
                    clear HS m1 m2
                    go_wp2_with fail
                    go_quiet (fail)
                    go_wp2
                    go_roundw
                    case rel => exact ⟨j + 1, by push_cast; rfl, by omega, by rw [HS2.out]; exact (FBa.below (below_drewN (Below.refl _ _) _)).set 9 (.int .i64 (p.at_ + d)) rfl rfl rfl rfl⟩
                    case measure => simp [intOf]; omega
                  · have dd3 : decide (p.at_ + d < cur) = false := by simp [m3]
                    have HS2 : Hid (lossAt L.s1.acked d (kept.take (j + 1)) (-1) = cur) := Lib.hid (by rw [HS.out, if_neg (by omega)])
                    clear HS
                    go_wp2_with fail
                    go_quiet (fail)
                    go_wp2
                    go_roundw
                    case rel => exact ⟨j + 1, by push_cast; rfl, by omega, by rw [HS2.out]; exact FBa.below (below_drewN (Below.refl _ _) _)⟩
                    case measure => simp [intOf]; omega
              · have dd1 : decide (p.num < L.s1.acked) = false := by simp [m1]
                have HS2 : Hid (lossAt L.s1.acked d (kept.take (j + 1)) (-1) = cur) := Lib.hid (by rw [HS.out, if_neg (by omega)])
                clear HS
                go_wp2_with fail
                go_quiet (fail)
                go_wp2
                go_roundw
                case rel => exact ⟨j + 1, by push_cast; rfl, by omega, by rw [HS2.out]; exact FBa.below (below_drewN (Below.refl _ _) _)⟩
                case measure => simp [intOf]; omega
            · obtain rfl : j = kept.length := by omega
              rw [List.take_length] at FBj
              have HL2 := Lib.hid (HLast.out wr _ FBj (by rw [HFound.out, HLz.out]))
              clear FBj
              go_wp2
              go_ret
              rw [← HLO.out]
              exact HL2.out
      · have HLz : Hid ((L.cut1 L.ask1).crash nw = L.cut1 L.ask1) := Lib.hid (by unfold Lo.crash; rw [if_neg (by exact hcr)])
        have FB4 : FB w2 (wr.setCell ⟨g, 9, none⟩ (.int .i64 (-1))) g w.heap.size (w.heap.size + 1) w1.heap.size 6 d (Lo.loss1 (L.cut1 L.ask1) (-1)) a0 c0 a1 c1 a2 c2 w.heap.size a c lost := FB0.set 9 (.int .i64 (-1)) rfl rfl rfl rfl
        have xT : wr.cell? ⟨g, 9, none⟩ = some (Value.int .i64 L.s1.loss) := FB0.l.has.cell 9 rfl
        have xTf := FB0.l.has.free 9
        have y3 := FB4.h3.cell 0 rfl
        have yO : (wr.setCell ⟨g, 9, none⟩ (.int .i64 (-1))).cell? ⟨g, 6, none⟩ = some (Value.slice a1 kept.length c1) := by rw [HKE.out]; exact FB4.l.has.cell 6 rfl
        go_wp2_with fail
        clear FB0 xT xTf y3 yO e2 e3 e24
        go_loopw [68] (fun iv wv => ∃ j : Nat, iv = .int .i64 (j : Int) ∧ j ≤ kept.length ∧ FB w2 wv g w.heap.size (w.heap.size + 1) w1.heap.size 6 d (Lo.loss1 (L.cut1 L.ask1) (lossAt L.s1.acked d (kept.take j) (-1))) a0 c0 a1 c1 a2 c2 w.heap.size a c lost) (fun iv _ => kept.length - (intOf iv).toNat)
        case atStart => exact ⟨0, rfl, Nat.zero_le _, FB4⟩
        case round =>
          obtain ⟨j, rfl, hj, FBj⟩ := hrel
          clear FB4
          by_cases hjl : j < kept.length
          · have hjl' : (j : Int) < (kept.length : Int) := by omega
            have hkI : (kept.length : Int) ≤ 4096 := by omega
            have g2 : IntKind.i64.wrap ((j : Int) + 1) = (j : Int) + 1 := by rw [IntKind.wrap_i64]; omega
            have rk : wr.ownsRow 0 68 4 (.slice a1 kept.length c1) kept.length (pv kept) := by rw [HKE.out]; exact FBj.l.r1
            obtain ⟨sb, hsb, e0, e1, e2, e3, s1, s2⟩ := own_pk rk rfl hjl
            have s1' : (kept.length : Int) ≤ (c1 : Int) := by omega
            have hpk := HKp.out _ (List.getElem_mem hjl)
            have HS : Hid (lossAt L.s1.acked d (kept.take (j + 1)) (-1) = if kept[j].num < L.s1.acked ∧ (lossAt L.s1.acked d (kept.take j) (-1) < 0 ∨ kept[j].at_ + d < lossAt L.s1.acked d (kept.take j) (-1)) then kept[j].at_ + d else lossAt L.s1.acked d (kept.take j) (-1)) := Lib.hid (by
              rw [List.take_succ_eq_append_getElem hjl, lossAt_snoc])
            generalize lossAt L.s1.acked d (kept.take j) (-1) = cur at HS FBj
            generalize kept[j] = p at HS e0 e1 e2 e3 hpk
            clear rk
            have hal : Below wr.heap.size wr (wr.alloc (.cells #[.int .i64 p.num, .int .i64 p.size, .int .i64 p.at_, .bool p.el] 68)) := (Below.refl _ _).alloc (Nat.le_refl _) _
            have hPk : Has (wr.alloc (.cells #[.int .i64 p.num, .int .i64 p.size, .int .i64 p.at_, .bool p.el] 68)) wr.heap.size 68 [.int .i64 p.num, .int .i64 p.size, .int .i64 p.at_, .bool p.el] := Has.new _ _ _
            have FBa := FBj.below hal
            have q0 := hPk.cell 0 rfl
            have q2 := hPk.cell 2 rfl
            have b3 := FBa.h3.cell 0 rfl
            have b5 := FBa.h5.cell 0 rfl
            have bA : (wr.alloc (.cells #[.int .i64 p.num, .int .i64 p.size, .int .i64 p.at_, .bool p.el] 68)).cell? ⟨g, 8, none⟩ = some (Value.int .i64 L.s1.acked) := FBa.l.has.cell 8 rfl
            have bT : (wr.alloc (.cells #[.int .i64 p.num, .int .i64 p.size, .int .i64 p.at_, .bool p.el] 68)).cell? ⟨g, 9, none⟩ = some (Value.int .i64 cur) := FBa.l.has.cell 9 rfl
            have bTf := FBa.l.has.free 9
            have gt : IntKind.i64.wrap (p.at_ + d) = p.at_ + d := by rw [IntKind.wrap_i64]; omega
            subst hsb
            by_cases m1 : p.num < L.s1.acked
            · have dd1 : decide (p.num < L.s1.acked) = true := by simp [m1]
              by_cases m2 : cur < 0
              · have dd2 : decide (cur < 0) = true := by simp [m2]
                have HS2 : Hid (lossAt L.s1.acked d (kept.take (j + 1)) (-1) = p.at_ + d) := Lib.hid (by rw [HS.out, if_pos ⟨m1, .inl m2⟩])
                clear HS m1 m2
                go_wp2_with fail
                go_quiet (fail)
                go_wp2
                go_roundw
                case rel => exact ⟨j + 1, by push_cast; rfl, by omega, by rw [HS2.out]; exact (FBa.below (below_drewN (Below.refl _ _) _)).set 9 (.int .i64 (p.at_ + d)) rfl rfl rfl rfl⟩
                case measure => simp [intOf]; omega
              · have dd2 : decide (cur < 0) = false := by simp [m2]
                by_cases m3 : p.at_ + d < cur
                · have dd3 : decide (p.at_ + d < cur) = true := by simp [m3]
                  have HS2 : Hid (lossAt L.s1.acked d (kept.take (j + 1)) (-1) = p.at_ + d) := Lib.hid (by rw [HS.out, if_pos ⟨m1, .inr m3⟩])
                  clear HS m1 m2
                  go_wp2_with fail
                  go_quiet (fail)
                  go_wp2
                  go_roundw
                  case rel => exact ⟨j + 1, by push_cast; rfl, by omega, by rw [HS2.out]; exact (FBa.below (below_drewN (Below.refl _ _) _)).set 9 (.int .i64 (p.at_ + d)) rfl rfl rfl rfl⟩
                  case measure => simp [intOf]; omega
                · have dd3 : decide (p.at_ + d < cur) = false := by simp [m3]
                  have HS2 : Hid (lossAt L.s1.acked d (kept.take (j + 1)) (-1) = cur) := Lib.hid (by rw [HS.out, if_neg (by omega)])
                  clear HS
                  go_wp2_with fail
                  go_quiet (fail)
                  go_wp2
                  go_roundw
                  case rel => exact ⟨j + 1, by push_cast; rfl, by omega, by rw [HS2.out]; exact FBa.below (below_drewN (Below.refl _ _) _)⟩
                  case measure => simp [intOf]; omega
            · have dd1 : decide (p.num < L.s1.acked) = false := by simp [m1]
              have HS2 : Hid (lossAt L.s1.acked d (kept.take (j + 1)) (-1) = cur) := Lib.hid (by rw [HS.out, if_neg (by omega)])
              clear HS
              go_wp2_with fail
              go_quiet (fail)
              go_wp2
              go_roundw
              case rel => exact ⟨j + 1, by push_cast; rfl, by omega, by rw [HS2.out]; exact FBa.below (below_drewN (Below.refl _ _) _)⟩
              case measure => simp [intOf]; omega
          · obtain rfl : j = kept.length := by omega
            rw [List.take_length] at FBj
            have HL2 := Lib.hid (HLast.out wr _ FBj (by rw [HFound.out, HLz.out]))
            clear FBj
            go_wp2
            go_ret
            rw [← HLO.out]
            exact HL2.out

set_option maxRecDepth 100000 in
set_option maxHeartbeats 8000000 in
theorem find_2 (w : World) {F : Nat → Prop} {g : Nat} {L : Lo} (hL : LAt F w g L) (hq : LoB L) :
    Calls Try.prog 24 #[.pointer (some ⟨g, 0, none⟩), .pointer (some ⟨g, 11, none⟩)] w fun e w' => ∃ a c, e = .returned (.slice a (L.s2.out.filter L.ask2).length c) ∧ Yes w' w.heap.size a c (L.s2.out.filter L.ask2) ∧ Kept (fun k => k = g) w w' ∧ LAt (Fat F w w') w' g L.found2 := by
  have hg0 := hL.lt
  have hFg := hL.fg
  obtain ⟨hd1, hd2⟩ := Lo.late_bounds hq.latest hq.smooth
  -- the boxes of l and s
  obtain ⟨wa, hwa⟩ : ∃ wa, wa = (w.alloc (.cells #[.pointer (some ⟨g, 0, none⟩)] 22)).alloc (.cells #[.pointer (some ⟨g, 11, none⟩)] 69) := ⟨_, rfl⟩
  have hal0 : Below w.heap.size w (w.alloc (.cells #[.pointer (some ⟨g, 0, none⟩)] 22)) := (Below.refl _ _).alloc (Nat.le_refl _) _
  have sz0 : (w.alloc (.cells #[.pointer (some ⟨g, 0, none⟩)] 22)).heap.size = w.heap.size + 1 := by simp
  have hala : Below w.heap.size w wa := by rw [hwa]; exact hal0.alloc (by omega) _
  have Hb2 : Has wa w.heap.size 22 [.pointer (some ⟨g, 0, none⟩)] := by
    rw [hwa]
    exact (Has.new w 22 #[.pointer (some ⟨g, 0, none⟩)]).kept (Kept.alloc none' _ _) (fun h => h)
  have Hb3 : Has wa (w.heap.size + 1) 69 [.pointer (some ⟨g, 11, none⟩)] := by
    have := Has.new (w.alloc (.cells #[.pointer (some ⟨g, 0, none⟩)] 22)) 69 #[.pointer (some ⟨g, 11, none⟩)]
    rw [sz0] at this
    rw [hwa]
    exact this
  have sza : wa.heap.size = w.heap.size + 2 := by rw [hwa]; simp
  have La := hL.below hala
  have HLt := Lib.hid (late_any wa La hq.latest hq.smooth)
  obtain ⟨d, hd⟩ : ∃ d, d = L.late := ⟨_, rfl⟩
  rw [← hd] at HLt hd1 hd2
  have HQ := Lib.hid hq
  have HD := Lib.hid hd
  have HWA := Lib.hid hwa
  have p2 := Hb2.cell 0 rfl
  have p3 := Hb3.cell 0 rfl
  have HHb2 := Lib.hid Hb2
  have HHb3 := Lib.hid Hb3
  clear hL hq hd hal0 Hb2 Hb3
  go_enter Try.func24, Try.ntmps24
  go_wp2_with fail
  rw [← hwa]
  clear hwa
  refine HLt.out.mono ?_
  rintro e w1 ⟨rfl, hb1⟩
  have z1 := hb1.size
  have s2 := (HHb2.out.kept (Kept.of_below (X := none') hb1) (fun h => h)).cell 0 rfl
  have s3 := (HHb3.out.kept (Kept.of_below (X := none') hb1) (fun h => h)).cell 0 rfl
  have lt3 : w.heap.size + 1 < w1.heap.size := by omega
  have lt2 : w.heap.size < w1.heap.size := by omega
  -- the box of d
  obtain ⟨wd, hwd⟩ : ∃ wd, wd = w1.alloc (.cells #[.int .i64 d] 3) := ⟨_, rfl⟩
  have hald : Below w1.heap.size w1 wd := by rw [hwd]; exact (Below.refl _ _).alloc (Nat.le_refl _) _
  have Hb5 : Has wd w1.heap.size 3 [.int .i64 d] := by rw [hwd]; exact Has.new w1 3 #[.int .i64 d]
  have szd : wd.heap.size = w1.heap.size + 1 := by rw [hwd]; simp
  have hbd : Below wa.heap.size wa wd := hb1.trans (hald.mono z1)
  have hBd : Below w.heap.size w wd := hala.trans (hbd.mono (by omega))
  have Ld := La.below hbd
  have Hb2d := HHb2.out.kept (Kept.of_below (X := none') hbd) (fun h => h)
  have Hb3d := HHb3.out.kept (Kept.of_below (X := none') hbd) (fun h => h)
  have r2 := Hb2d.cell 0 rfl
  have r3 := Hb3d.cell 0 rfl
  have r5 := Hb5.cell 0 rfl
  have hacked := (Ld.cell (13) (v := .int .i64 L.s2.acked) (fun _ _ _ _ _ _ => rfl)).1
  have hnow := (Ld.cell 16 (v := .int .i64 L.now) (fun _ _ _ _ _ _ => rfl)).1
  have HSp := Lib.hid (split_F2 wd Ld HQ.out.b2.len L.ask2 (w.heap.size + 1) w.heap.size w1.heap.size (fun w' p hb hp => by
    have e1 := (hb.cell (World.block_lt_of_cell? _ _ r3)).trans r3
    have e2 := (hb.cell (World.block_lt_of_cell? _ _ r2)).trans r2
    have e3 := (hb.cell (World.block_lt_of_cell? _ _ r5)).trans r5
    have e4 := (hb.cell (World.block_lt_of_cell? _ _ hacked)).trans hacked
    have e5 := (hb.cell (World.block_lt_of_cell? _ _ hnow)).trans hnow
    have := lost_any w' p _ _ _ g 11 L.s2.acked L.now d e1 e2 e3 e4 e5 HQ.out.b2.acked HQ.out.now ⟨hd1, hd2⟩
    unfold Lo.ask2
    rw [← HD.out]
    exact this))
  have HWD := Lib.hid hwd
  have HLd := Lib.hid Ld
  have HHb2d := Lib.hid Hb2d
  have HHb3d := Lib.hid Hb3d
  have HHb5 := Lib.hid Hb5
  clear p2 p3 hacked hnow La Hb2d Hb3d Hb5 Ld HLt HHb2 HHb3 r2 r3 r5
  go_wp2_with fail
  rw [← hwd]
  clear hwd
  refine HSp.out.mono ?_
  rintro e w2 ⟨a, c, rfl, hY, hk2, hL2, hab⟩
  have z2 := hk2.size
  have hgw : g < w.heap.size := hg0
  have hY0 : Yes w2 w.heap.size a c (L.s2.out.filter L.ask2) := own_mono hY (by omega)
  have hK2 : Kept (fun k => k = g) w w2 := (Kept.of_below hBd).trans hk2 (fun _ _ h => h)
  have L2 : LAt (Fat F w w2) w2 g (L.cut2 L.ask2) := hL2.more (fun k h _ => h.elim .inl (fun h => .inr ⟨by omega, h.2⟩))
  have hlost : (L.s2.out.filter L.ask2).length ≤ 4096 := Nat.le_trans (List.length_filter_le _ _) HQ.out.b2.len
  have hkeptlen : (L.s2.out.filter fun p => !L.ask2 p).length ≤ 4096 := Nat.le_trans (List.length_filter_le _ _) HQ.out.b2.len
  obtain ⟨lost, hlo⟩ : ∃ lost, lost = L.s2.out.filter L.ask2 := ⟨_, rfl⟩
  rw [← hlo] at hY hY0 hlost ⊢
  have HLO := Lib.hid hlo
  clear hlo
  have hlI : (lost.length : Int) ≤ 4096 := by omega
  have n2 : ¬ w.heap.size = g := by omega
  have n3 : ¬ w.heap.size + 1 = g := by omega
  have n5 : ¬ w1.heap.size = g := by omega
  have B2 := HHb2d.out.kept hk2 n2
  have B3 := HHb3d.out.kept hk2 n3
  have B5 := HHb5.out.kept hk2 n5
  have hYg : ∀ ad, a = some ad → ad.block ≠ g := fun ad ha e => by have := ownblk hY ha; omega
  clear HSp HHb2d HHb3d HHb5 HLd hL2 hk2 hY hab s2 s3
  go_wp2_with fail
  go_loopw [7, 20] (fun nv iv wr => ∃ j : Nat, iv = .int .i64 (j : Int) ∧ nv = .int .i64 (newest (lost.take j) (-1)) ∧ j ≤ lost.length ∧ Below w2.heap.size w2 wr) (fun _ iv _ => lost.length - (intOf iv).toNat)
  case atStart => exact ⟨0, rfl, rfl, Nat.zero_le _, Below.refl _ _⟩
  case round =>
    obtain ⟨j, rfl, rfl, hj, hB⟩ := hrel
    by_cases hjl : j < lost.length
    · have hjl' : (j : Int) < (lost.length : Int) := by omega
      have g2 : IntKind.i64.wrap ((j : Int) + 1) = (j : Int) + 1 := by rw [IntKind.wrap_i64]; omega
      obtain ⟨sb, rfl, e0, e1, e2, e3, s1, s2⟩ := own_pk (own_below hY0 hB) rfl hjl
      have s1' : (lost.length : Int) ≤ (c : Int) := by omega
      have HS : Hid (newest (lost.take (j + 1)) (-1) = if lost[j].el then max (newest (lost.take j) (-1)) lost[j].at_ else newest (lost.take j) (-1)) := Lib.hid (by
        rw [List.take_succ_eq_append_getElem hjl, newest_snoc])
      generalize newest (lost.take j) (-1) = nv at HS ⊢
      generalize lost[j] = p at HS e0 e1 e2 e3
      have hBa : Below w2.heap.size w2 (wr.alloc (.cells #[.int .i64 p.num, .int .i64 p.size, .int .i64 p.at_, .bool p.el] 68)) := hB.alloc hB.size _
      cases hel : p.el
      · rw [hel] at e3 hBa
        have HS2 : Hid (newest (lost.take (j + 1)) (-1) = nv) := Lib.hid (by rw [HS.out, hel]; rfl)
        clear hel
        go_wp2
        go_roundw
        case rel => exact ⟨j + 1, by push_cast; rfl, by rw [HS2.out], by omega, hBa⟩
        case measure => simp [intOf]; omega
      · rw [hel] at e3 hBa
        have HS2 : Hid (newest (lost.take (j + 1)) (-1) = max nv p.at_) := Lib.hid (by rw [HS.out, hel]; rfl)
        clear hel
        go_wp2
        go_roundw
        case rel => exact ⟨j + 1, by push_cast; rfl, by rw [HS2.out]; congr 1; split <;> omega, by omega, hBa⟩
        case measure => simp [intOf]; omega
    · obtain rfl : j = lost.length := by omega
      rw [List.take_length]
      obtain ⟨nw, hnw⟩ : ∃ nw, nw = newest lost (-1) := ⟨_, rfl⟩
      rw [← hnw]
      have HNW := Lib.hid hnw
      clear hnw
      obtain ⟨a0, c0, a1, c1, a2, c2, LBx, f, f0, f1, f2⟩ := L2
      have FB0 : FB w2 wr g w.heap.size (w.heap.size + 1) w1.heap.size 11 d (L.cut2 L.ask2) a0 c0 a1 c1 a2 c2 w.heap.size a c lost := (FB.mk LBx B2 B3 B5 hY0 (Kept.refl _ _) n2 n3 n5 hYg).below hB
      have HLast : Hid (∀ (w' : World) (Lz : Lo), FB w2 w' g w.heap.size (w.heap.size + 1) w1.heap.size 11 d Lz a0 c0 a1 c1 a2 c2 w.heap.size a c lost → Lz = L.found2 →
          (∃ a' c', Ending.returned (.slice a lost.length c) = .returned (.slice a' lost.length c') ∧ Yes w' w.heap.size a' c' lost ∧ Kept (fun k => k = g) w w' ∧ LAt (Fat F w w') w' g L.found2)) := Lib.hid (fun w' Lz hFB hz => by
        subst hz
        have zz := hFB.k.size
        have up : ∀ k, Fat F w w2 k → Fat F w w' k := fun k hk => hk.elim .inl (fun h => .inr ⟨h.1, by omega⟩)
        exact ⟨a, c, rfl, hFB.y, hK2.trans hFB.k (fun _ _ e => e), a0, c0, a1, c1, a2, c2, hFB.l, up _ f, fun ad ha => up _ (f0 ad ha), fun ad ha => up _ (f1 ad ha), fun ad ha => up _ (f2 ad ha)⟩)
      have HFound : Hid (L.found2 = ((L.cut2 L.ask2).crash nw).loss2 (lossAt L.s2.acked d (L.s2.out.filter fun p => !L.ask2 p) (-1))) := Lib.hid (by rw [HNW.out, HLO.out, HD.out]; rfl)
      have HKp := Lib.hid (fun p (hp : p ∈ L.s2.out.filter fun p => !L.ask2 p) => HQ.out.b2.pk p (List.mem_filter.1 hp).1)
      obtain ⟨kept, hkept⟩ : ∃ kept, kept = L.s2.out.filter fun p => !L.ask2 p := ⟨_, rfl⟩
      rw [← hkept] at HFound HKp hkeptlen
      have HKE := Lib.hid hkept
      clear hkept hB B2 B3 B5 hY0 hYg LBx f f0 f1 f2
      have hwin := HQ.out.window
      have hqnow := HQ.out.now
      have hqa := HQ.out.b2.acked
      have e2 := FB0.h2.cell 0 rfl
      have e3 := FB0.h3.cell 0 rfl
      have e24 : wr.cell? ⟨g, 24, none⟩ = some (.int .i64 L.recovery) := FB0.l.has.cell 24 rfl
      by_cases hcr : L.recovery < nw
      · have FBd := FB0.drew
        have x2 := FBd.h2.cell 0 rfl
        have x16 : wr.drew.cell? ⟨g, 16, none⟩ = some (.int .i64 L.now) := FBd.l.has.cell 16 rfl
        have x24 : wr.drew.cell? ⟨g, 24, none⟩ = some (.int .i64 L.recovery) := FBd.l.has.cell 24 rfl
        have x24f := FBd.l.has.free 24
        have FB1 : FB w2 (wr.setCell ⟨g, 24, none⟩ (.int .i64 L.now)).drew g w.heap.size (w.heap.size + 1) w1.heap.size 11 d { L.cut2 L.ask2 with recovery := L.now } a0 c0 a1 c1 a2 c2 w.heap.size a c lost := FBd.set 24 (.int .i64 L.now) rfl rfl rfl rfl
        go_wp2_with fail
        refine Mx.regionZ [] (fun w' => w'.cell? ⟨w.heap.size, 0, none⟩ = some (.pointer (some ⟨g, 0, none⟩)) ∧ w'.cell? ⟨g, 16, none⟩ = some (.int .i64 L.now)) (by kernel_rfl) (by kernel_rfl) ⟨x2, x16⟩ ?_
        repeat ((first | (refine Mx.skips (by kernel_rfl) ?_; go_big_quiet_skip) | (refine Mx.quietly rfl ?_; go_big_quiet_want; go_big_quiet_op; go_big_quiet_on)); refine Mx.done ?_)
        refine Mx.cell ⟨w.heap.size, 0, none⟩ (.pointer (some ⟨g, 0, none⟩)) (by kernel_rfl) (by kernel_rfl) (by kernel_rfl) Try.isAgg22 (fun w' h => h.1) ?_
        go_big_quiet_want; go_big_quiet_op; go_big_quiet_on; refine Mx.done ?_
        repeat ((first | (refine Mx.skips (by kernel_rfl) ?_; go_big_quiet_skip) | (refine Mx.quietly rfl ?_; go_big_quiet_want; go_big_quiet_op; go_big_quiet_on)); refine Mx.done ?_)
        refine Mx.cell ⟨w.heap.size, 0, none⟩ (.pointer (some ⟨g, 0, none⟩)) (by kernel_rfl) (by kernel_rfl) (by kernel_rfl) Try.isAgg22 (fun w' h => h.1) ?_
        go_big_quiet_want; go_big_quiet_op; go_big_quiet_on; refine Mx.done ?_
        repeat ((first | (refine Mx.skips (by kernel_rfl) ?_; go_big_quiet_skip) | (refine Mx.quietly rfl ?_; go_big_quiet_want; go_big_quiet_op; go_big_quiet_on)); refine Mx.done ?_)
        refine Mx.cell ⟨g, 16, none⟩ (.int .i64 L.now) (by kernel_rfl) (by kernel_rfl) (by kernel_rfl) Try.isAgg3 (fun w' h => h.2) ?_
        go_big_quiet_want; go_big_quiet_op; go_big_quiet_on; refine Mx.done ?_
        repeat ((first | (refine Mx.skips (by kernel_rfl) ?_; go_big_quiet_skip) | (refine Mx.quietly rfl ?_; go_big_quiet_want; go_big_quiet_op; go_big_quiet_on)); refine Mx.done ?_)
        refine Mx.atLast (by kernel_rfl) (by kernel_rfl) ?_
        go_wp2_with fail
        generalize (wr.setCell ⟨g, 24, none⟩ (.int .i64 L.now)).drew = v1 at *
        have FB1d := FB1.drew
        have y2 := FB1d.h2.cell 0 rfl
        have y22 : v1.drew.cell? ⟨g, 22, none⟩ = some (Value.int .i64 L.window) := FB1d.l.has.cell 22 rfl
        have y23 : v1.drew.cell? ⟨g, 23, none⟩ = some (Value.int .i64 L.threshold) := FB1d.l.has.cell 23 rfl
        have y23f := FB1d.l.has.free 23
        have FB2 : FB w2 (v1.setCell ⟨g, 23, none⟩ (.int .i64 (L.window / 2))).drew g w.heap.size (w.heap.size + 1) w1.heap.size 11 d { L.cut2 L.ask2 with recovery := L.now, threshold := L.window / 2 } a0 c0 a1 c1 a2 c2 w.heap.size a c lost := FB1d.set 23 (.int .i64 (L.window / 2)) rfl rfl rfl rfl
        refine Mx.regionZ [] (fun w' => w'.cell? ⟨w.heap.size, 0, none⟩ = some (.pointer (some ⟨g, 0, none⟩)) ∧ w'.cell? ⟨g, 22, none⟩ = some (.int .i64 L.window)) (by kernel_rfl) (by kernel_rfl) ⟨y2, y22⟩ ?_
        repeat ((first | (refine Mx.skips (by kernel_rfl) ?_; go_big_quiet_skip) | (refine Mx.quietly rfl ?_; go_big_quiet_want; go_big_quiet_op; go_big_quiet_on)); refine Mx.done ?_)
        refine Mx.cell ⟨w.heap.size, 0, none⟩ (.pointer (some ⟨g, 0, none⟩)) (by kernel_rfl) (by kernel_rfl) (by kernel_rfl) Try.isAgg22 (fun w' h => h.1) ?_
        go_big_quiet_want; go_big_quiet_op; go_big_quiet_on; refine Mx.done ?_
        repeat ((first | (refine Mx.skips (by kernel_rfl) ?_; go_big_quiet_skip) | (refine Mx.quietly rfl ?_; go_big_quiet_want; go_big_quiet_op; go_big_quiet_on)); refine Mx.done ?_)
        refine Mx.cell ⟨w.heap.size, 0, none⟩ (.pointer (some ⟨g, 0, none⟩)) (by kernel_rfl) (by kernel_rfl) (by kernel_rfl) Try.isAgg22 (fun w' h => h.1) ?_
        go_big_quiet_want; go_big_quiet_op; go_big_quiet_on; refine Mx.done ?_
        repeat ((first | (refine Mx.skips (by kernel_rfl) ?_; go_big_quiet_skip) | (refine Mx.quietly rfl ?_; go_big_quiet_want; go_big_quiet_op; go_big_quiet_on)); refine Mx.done ?_)
        refine Mx.cell ⟨g, 22, none⟩ (.int .i64 L.window) (by kernel_rfl) (by kernel_rfl) (by kernel_rfl) Try.isAgg3 (fun w' h => h.2) ?_
        go_big_quiet_want; go_big_quiet_op; go_big_quiet_on; refine Mx.done ?_
        repeat ((first | (refine Mx.skips (by kernel_rfl) ?_; go_big_quiet_skip) | (refine Mx.quietly rfl ?_; go_big_quiet_want; go_big_quiet_op; go_big_quiet_on)); refine Mx.done ?_)
        refine Mx.atLast (by kernel_rfl) (by kernel_rfl) ?_
        go_wp2_with fail
        generalize (v1.setCell ⟨g, 23, none⟩ (.int .i64 (L.window / 2))).drew = v2 at *
        have FB2d := FB2.drew
        have u2 := FB2d.h2.cell 0 rfl
        have u23 : v2.drew.cell? ⟨g, 23, none⟩ = some (Value.int .i64 (L.window / 2)) := FB2d.l.has.cell 23 rfl
        have u22 : v2.drew.cell? ⟨g, 22, none⟩ = some (Value.int .i64 L.window) := FB2d.l.has.cell 22 rfl
        have u22f := FB2d.l.has.free 22
        obtain ⟨mw, hmw⟩ : ∃ mw, mw = max (L.window / 2) 2400 := ⟨_, rfl⟩
        have hcs : (L.window / 2 < 2400 ∧ mw = 2400) ∨ (¬ L.window / 2 < 2400 ∧ mw = L.window / 2) := by omega
        obtain ⟨Lz, hLz⟩ : ∃ Lz : Lo, Lz = { L.cut2 L.ask2 with recovery := L.now, threshold := L.window / 2, window := mw } := ⟨_, rfl⟩
        have HLz : Hid ((L.cut2 L.ask2).crash nw = { L.cut2 L.ask2 with recovery := L.now, threshold := L.window / 2, window := mw }) := Lib.hid (by
          unfold Lo.crash
          rw [if_pos (by exact hcr), hmw]
          rfl)
        clear hLz
        have FB3 : FB w2 (v2.setCell ⟨g, 22, none⟩ (.int .i64 mw)).drew g w.heap.size (w.heap.size + 1) w1.heap.size 11 d { L.cut2 L.ask2 with recovery := L.now, threshold := L.window / 2, window := mw } a0 c0 a1 c1 a2 c2 w.heap.size a c lost := FB2d.set 22 (.int .i64 mw) rfl rfl rfl rfl
        have FB4 : FB w2 ((v2.setCell ⟨g, 22, none⟩ (.int .i64 mw)).setCell ⟨g, 14, none⟩ (.int .i64 (-1))).drew g w.heap.size (w.heap.size + 1) w1.heap.size 11 d (Lo.loss2 { L.cut2 L.ask2 with recovery := L.now, threshold := L.window / 2, window := mw } (-1)) a0 c0 a1 c1 a2 c2 w.heap.size a c lost := FB3.set 14 (.int .i64 (-1)) rfl rfl rfl rfl
        have x3 := FB3.h3.cell 0 rfl
        have xT : (v2.setCell ⟨g, 22, none⟩ (.int .i64 mw)).drew.cell? ⟨g, 14, none⟩ = some (Value.int .i64 L.s2.loss) := FB3.l.has.cell 14 rfl
        have xTf := FB3.l.has.free 14
        have y3 := FB4.h3.cell 0 rfl
        have yO : ((v2.setCell ⟨g, 22, none⟩ (.int .i64 mw)).setCell ⟨g, 14, none⟩ (.int .i64 (-1))).drew.cell? ⟨g, 11, none⟩ = some (Value.slice a2 kept.length c2) := by rw [HKE.out]; exact FB4.l.has.cell 11 rfl
        have HMW := Lib.hid hmw
        clear hmw
        rcases hcs with ⟨hx, rfl⟩ | ⟨hx, rfl⟩
        · refine Mx.regionZ [] (fun w' => w'.cell? ⟨w.heap.size, 0, none⟩ = some (.pointer (some ⟨g, 0, none⟩)) ∧ w'.cell? ⟨g, 23, none⟩ = some (.int .i64 (L.window / 2))) (by kernel_rfl) (by kernel_rfl) ⟨u2, u23⟩ ?_
          repeat ((first | (refine Mx.skips (by kernel_rfl) ?_; go_big_quiet_skip) | (refine Mx.quietly rfl ?_; go_big_quiet_want; go_big_quiet_op; go_big_quiet_on)); refine Mx.done ?_)
          refine Mx.cell ⟨w.heap.size, 0, none⟩ (.pointer (some ⟨g, 0, none⟩)) (by kernel_rfl) (by kernel_rfl) (by kernel_rfl) Try.isAgg22 (fun w' h => h.1) ?_
          go_big_quiet_want; go_big_quiet_op; go_big_quiet_on; refine Mx.done ?_
          repeat ((first | (refine Mx.skips (by kernel_rfl) ?_; go_big_quiet_skip) | (refine Mx.quietly rfl ?_; go_big_quiet_want; go_big_quiet_op; go_big_quiet_on)); refine Mx.done ?_)
          refine Mx.cell ⟨w.heap.size, 0, none⟩ (.pointer (some ⟨g, 0, none⟩)) (by kernel_rfl) (by kernel_rfl) (by kernel_rfl) Try.isAgg22 (fun w' h => h.1) ?_
          go_big_quiet_want; go_big_quiet_op; go_big_quiet_on; refine Mx.done ?_
          repeat ((first | (refine Mx.skips (by kernel_rfl) ?_; go_big_quiet_skip) | (refine Mx.quietly rfl ?_; go_big_quiet_want; go_big_quiet_op; go_big_quiet_on)); refine Mx.done ?_)
          refine Mx.cell ⟨g, 23, none⟩ (.int .i64 (L.window / 2)) (by kernel_rfl) (by kernel_rfl) (by kernel_rfl) Try.isAgg3 (fun w' h => h.2) ?_
          go_big_quiet_want; go_big_quiet_op; go_big_quiet_on; refine Mx.done ?_
          repeat ((first | (refine Mx.skips (by kernel_rfl) ?_; go_big_quiet_skip) | (refine Mx.quietly rfl ?_; go_big_quiet_want; go_big_quiet_op; go_big_quiet_on)); refine Mx.done ?_)
          refine Mx.atLast (by kernel_rfl) (by kernel_rfl) ?_
          go_wp2_with fail
          clear FB3 x3 xT xTf y3 yO FB2 FB2d u2 u23 u22 u22f
          go_loopw [68] (fun iv wv => ∃ j : Nat, iv = .int .i64 (j : Int) ∧ j ≤ kept.length ∧ FB w2 wv g w.heap.size (w.heap.size + 1) w1.heap.size 11 d (Lo.loss2 { L.cut2 L.ask2 with recovery := L.now, threshold := L.window / 2, window := 2400 } (lossAt L.s2.acked d (kept.take j) (-1))) a0 c0 a1 c1 a2 c2 w.heap.size a c lost) (fun iv _ => kept.length - (intOf iv).toNat)
          case atStart => exact ⟨0, rfl, Nat.zero_le _, FB4⟩
          case round =>
            obtain ⟨j, rfl, hj, FBj⟩ := hrel
            clear FB4
            by_cases hjl : j < kept.length
            · have hjl' : (j : Int) < (kept.length : Int) := by omega
              have hkI : (kept.length : Int) ≤ 4096 := by omega
              have g2 : IntKind.i64.wrap ((j : Int) + 1) = (j : Int) + 1 := by rw [IntKind.wrap_i64]; omega
              have rk : wr.ownsRow 0 68 4 (.slice a2 kept.length c2) kept.length (pv kept) := by rw [HKE.out]; exact FBj.l.r2
              obtain ⟨sb, hsb, e0, e1, e2, e3, s1, s2⟩ := own_pk rk rfl hjl
              have s1' : (kept.length : Int) ≤ (c2 : Int) := by omega
              have hpk := HKp.out _ (List.getElem_mem hjl)
              have HS : Hid (lossAt L.s2.acked d (kept.take (j + 1)) (-1) = if kept[j].num < L.s2.acked ∧ (lossAt L.s2.acked d (kept.take j) (-1) < 0 ∨ kept[j].at_ + d < lossAt L.s2.acked d (kept.take j) (-1)) then kept[j].at_ + d else lossAt L.s2.acked d (kept.take j) (-1)) := Lib.hid (by
                rw [List.take_succ_eq_append_getElem hjl, lossAt_snoc])
              generalize lossAt L.s2.acked d (kept.take j) (-1) = cur at HS FBj
              generalize kept[j] = p at HS e0 e1 e2 e3 hpk
              clear rk
              have hal : Below wr.heap.size wr (wr.alloc (.cells #[.int .i64 p.num, .int .i64 p.size, .int .i64 p.at_, .bool p.el] 68)) := (Below.refl _ _).alloc (Nat.le_refl _) _
              have hPk : Has (wr.alloc (.cells #[.int .i64 p.num, .int .i64 p.size, .int .i64 p.at_, .bool p.el] 68)) wr.heap.size 68 [.int .i64 p.num, .int .i64 p.size, .int .i64 p.at_, .bool p.el] := Has.new _ _ _
              have FBa := FBj.below hal
              have q0 := hPk.cell 0 rfl
              have q2 := hPk.cell 2 rfl
              have b3 := FBa.h3.cell 0 rfl
              have b5 := FBa.h5.cell 0 rfl
              have bA : (wr.alloc (.cells #[.int .i64 p.num, .int .i64 p.size, .int .i64 p.at_, .bool p.el] 68)).cell? ⟨g, 13, none⟩ = some (Value.int .i64 L.s2.acked) := FBa.l.has.cell 13 rfl
              have bT : (wr.alloc (.cells #[.int .i64 p.num, .int .i64 p.size, .int .i64 p.at_, .bool p.el] 68)).cell? ⟨g, 14, none⟩ = some (Value.int .i64 cur) := FBa.l.has.cell 14 rfl
              have bTf := FBa.l.has.free 14
              have gt : IntKind.i64.wrap (p.at_ + d) = p.at_ + d := by rw [IntKind.wrap_i64]; omega
              subst hsb
              by_cases m1 : p.num < L.s2.acked
              · have dd1 : decide (p.num < L.s2.acked) = true := by simp [m1]
                by_cases m2 : cur < 0
                · have dd2 : decide (cur < 0) = true := by simp [m2]
                  have HS2 : Hid (lossAt L.s2.acked d (kept.take (j + 1)) (-1) = p.at_ + d) := Lib.hid (by rw [HS.out, if_pos ⟨m1, .inl m2⟩])
                  clear HS m1 m2
                  go_wp2_with fail
                  go_quiet (fail)
                  go_wp2
                  go_roundw
                  case rel => exact ⟨j + 1, by push_cast; rfl, by omega, by rw [HS2.out]; exact (FBa.below (below_drewN (Below.refl _ _) _)).set 14 (.int .i64 (p.at_ + d)) rfl rfl rfl rfl⟩
                  case measure => simp [intOf]; omega
                · have dd2 : decide (cur < 0) = false := by simp [m2]
                  by_cases m3 : p.at_ + d < cur
                  · have dd3 : decide (p.at_ + d < cur) = true := by simp [m3]
                    have HS2 : Hid (lossAt L.s2.acked d (kept.take (j + 1)) (-1) = p.at_ + d) := Lib.hid (by rw [HS.out, if_pos ⟨m1, .inr m3⟩])
                    clear HS m1 m2
                    go_wp2_with fail
                    go_quiet (fail)
                    go_wp2
                    go_roundw
                    case rel => exact ⟨j + 1, by push_cast; rfl, by omega, by rw [HS2.out]; exact (FBa.below (below_drewN (Below.refl _ _) _)).set 14 (.int .i64 (p.at_ + d)) rfl rfl rfl rfl⟩
                    case measure => simp [intOf]; omega
                  · have dd3 : decide (p.at_ + d < cur) = false := by simp [m3]
                    have HS2 : Hid (lossAt L.s2.acked d (kept.take (j + 1)) (-1) = cur) := Lib.hid (by rw [HS.out, if_neg (by omega)])
                    clear HS
                    go_wp2_with fail
                    go_quiet (fail)
                    go_wp2
                    go_roundw
                    case rel => exact ⟨j + 1, by push_cast; rfl, by omega, by rw [HS2.out]; exact FBa.below (below_drewN (Below.refl _ _) _)⟩
                    case measure => simp [intOf]; omega
              · have dd1 : decide (p.num < L.s2.acked) = false := by simp [m1]
                have HS2 : Hid (lossAt L.s2.acked d (kept.take (j + 1)) (-1) = cur) := Lib.hid (by rw [HS.out, if_neg (by omega)])
                clear HS
                go_wp2_with fail
                go_quiet (fail)
                go_wp2
                go_roundw
                case rel => exact ⟨j + 1, by push_cast; rfl, by omega, by rw [HS2.out]; exact FBa.below (below_drewN (Below.refl _ _) _)⟩
                case measure => simp [intOf]; omega
            · obtain rfl : j = kept.length := by omega
              rw [List.take_length] at FBj
              have HL2 := Lib.hid (HLast.out wr _ FBj (by rw [HFound.out, HLz.out]))
              clear FBj
              go_wp2
              go_ret
              rw [← HLO.out]
              exact HL2.out
        · refine Mx.regionZ [] (fun w' => w'.cell? ⟨w.heap.size, 0, none⟩ = some (.pointer (some ⟨g, 0, none⟩)) ∧ w'.cell? ⟨g, 23, none⟩ = some (.int .i64 (L.window / 2))) (by kernel_rfl) (by kernel_rfl) ⟨u2, u23⟩ ?_
          repeat ((first | (refine Mx.skips (by kernel_rfl) ?_; go_big_quiet_skip) | (refine Mx.quietly rfl ?_; go_big_quiet_want; go_big_quiet_op; go_big_quiet_on)); refine Mx.done ?_)
          refine Mx.cell ⟨w.heap.size, 0, none⟩ (.pointer (some ⟨g, 0, none⟩)) (by kernel_rfl) (by kernel_rfl) (by kernel_rfl) Try.isAgg22 (fun w' h => h.1) ?_
          go_big_quiet_want; go_big_quiet_op; go_big_quiet_on; refine Mx.done ?_
          repeat ((first | (refine Mx.skips (by kernel_rfl) ?_; go_big_quiet_skip) | (refine Mx.quietly rfl ?_; go_big_quiet_want; go_big_quiet_op; go_big_quiet_on)); refine Mx.done ?_)
          refine Mx.cell ⟨w.heap.size, 0, none⟩ (.pointer (some ⟨g, 0, none⟩)) (by kernel_rfl) (by kernel_rfl) (by kernel_rfl) Try.isAgg22 (fun w' h => h.1) ?_
          go_big_quiet_want; go_big_quiet_op; go_big_quiet_on; refine Mx.done ?_
          repeat ((first | (refine Mx.skips (by kernel_rfl) ?_; go_big_quiet_skip) | (refine Mx.quietly rfl ?_; go_big_quiet_want; go_big_quiet_op; go_big_quiet_on)); refine Mx.done ?_)
          refine Mx.cell ⟨g, 23, none⟩ (.int .i64 (L.window / 2)) (by kernel_rfl) (by kernel_rfl) (by kernel_rfl) Try.isAgg3 (fun w' h => h.2) ?_
          go_big_quiet_want; go_big_quiet_op; go_big_quiet_on; refine Mx.done ?_
          repeat ((first | (refine Mx.skips (by kernel_rfl) ?_; go_big_quiet_skip) | (refine Mx.quietly rfl ?_; go_big_quiet_want; go_big_quiet_op; go_big_quiet_on)); refine Mx.done ?_)
          refine Mx.atLast (by kernel_rfl) (by kernel_rfl) ?_
          go_wp2_with fail
          clear FB3 x3 xT xTf y3 yO FB2 FB2d u2 u23 u22 u22f
          go_loopw [68] (fun iv wv => ∃ j : Nat, iv = .int .i64 (j : Int) ∧ j ≤ kept.length ∧ FB w2 wv g w.heap.size (w.heap.size + 1) w1.heap.size 11 d (Lo.loss2 { L.cut2 L.ask2 with recovery := L.now, threshold := L.window / 2, window := L.window / 2 } (lossAt L.s2.acked d (kept.take j) (-1))) a0 c0 a1 c1 a2 c2 w.heap.size a c lost) (fun iv _ => kept.length - (intOf iv).toNat)
          case atStart => exact ⟨0, rfl, Nat.zero_le _, FB4⟩
          case round =>
            obtain ⟨j, rfl, hj, FBj⟩ := hrel
            clear FB4
            by_cases hjl : j < kept.length
            · have hjl' : (j : Int) < (kept.length : Int) := by omega
              have hkI : (kept.length : Int) ≤ 4096 := by omega
              have g2 : IntKind.i64.wrap ((j : Int) + 1) = (j : Int) + 1 := by rw [IntKind.wrap_i64]; omega
              have rk : wr.ownsRow 0 68 4 (.slice a2 kept.length c2) kept.length (pv kept) := by rw [HKE.out]; exact FBj.l.r2
              obtain ⟨sb, hsb, e0, e1, e2, e3, s1, s2⟩ := own_pk rk rfl hjl
              have s1' : (kept.length : Int) ≤ (c2 : Int) := by omega
              have hpk := HKp.out _ (List.getElem_mem hjl)
              have HS : Hid (lossAt L.s2.acked d (kept.take (j + 1)) (-1) = if kept[j].num < L.s2.acked ∧ (lossAt L.s2.acked d (kept.take j) (-1) < 0 ∨ kept[j].at_ + d < lossAt L.s2.acked d (kept.take j) (-1)) then kept[j].at_ + d else lossAt L.s2.acked d (kept.take j) (-1)) := Lib.hid (by
                rw [List.take_succ_eq_append_getElem hjl, lossAt_snoc])
              generalize lossAt L.s2.acked d (kept.take j) (-1) = cur at HS FBj
              generalize kept[j] = p at HS e0 e1 e2 e3 hpk
              clear rk
              have hal : Below wr.heap.size wr (wr.alloc (.cells #[.int .i64 p.num, .int .i64 p.size, .int .i64 p.at_, .bool p.el] 68)) := (Below.refl _ _).alloc (Nat.le_refl _) _
              have hPk : Has (wr.alloc (.cells #[.int .i64 p.num, .int .i64 p.size, .int .i64 p.at_, .bool p.el] 68)) wr.heap.size 68 [.int .i64 p.num, .int .i64 p.size, .int .i64 p.at_, .bool p.el] := Has.new _ _ _
              have FBa := FBj.below hal
              have q0 := hPk.cell 0 rfl
              have q2 := hPk.cell 2 rfl
              have b3 := FBa.h3.cell 0 rfl
              have b5 := FBa.h5.cell 0 rfl
              have bA : (wr.alloc (.cells #[.int .i64 p.num, .int .i64 p.size, .int .i64 p.at_, .bool p.el] 68)).cell? ⟨g, 13, none⟩ = some (Value.int .i64 L.s2.acked) := FBa.l.has.cell 13 rfl
              have bT : (wr.alloc (.cells #[.int .i64 p.num, .int .i64 p.size, .int .i64 p.at_, .bool p.el] 68)).cell? ⟨g, 14, none⟩ = some (Value.int .i64 cur) := FBa.l.has.cell 14 rfl
              have bTf := FBa.l.has.free 14
              have gt : IntKind.i64.wrap (p.at_ + d) = p.at_ + d := by rw [IntKind.wrap_i64]; omega
              subst hsb
              by_cases m1 : p.num < L.s2.acked
              · have dd1 : decide (p.num < L.s2.acked) = true := by simp [m1]
                by_cases m2 : cur < 0
                · have dd2 : decide (cur < 0) = true := by simp [m2]
                  have HS2 : Hid (lossAt L.s2.acked d (kept.take (j + 1)) (-1) = p.at_ + d) := Lib.hid (by rw [HS.out, if_pos ⟨m1, .inl m2⟩])
                  clear HS m1 m2
                  go_wp2_with fail
                  go_quiet (fail)
                  go_wp2
                  go_roundw
                  case rel => exact ⟨j + 1, by push_cast; rfl, by omega, by rw [HS2.out]; exact (FBa.below (below_drewN (Below.refl _ _) _)).set 14 (.int .i64 (p.at_ + d)) rfl rfl rfl rfl⟩
                  case measure => simp [intOf]; omega
                · have dd2 : decide (cur < 0) = false := by simp [m2]
                  by_cases m3 : p.at_ + d < cur
                  · have dd3 : decide (p.at_ + d < cur) = true := by simp [m3]
                    have HS2 : Hid (lossAt L.s2.acked d (kept.take (j + 1)) (-1) = p.at_ + d) := Lib.hid (by rw [HS.out, if_pos ⟨m1, .inr m3⟩])
                    clear HS m1 m2
                    go_wp2_with fail
                    go_quiet (fail)
                    go_wp2
                    go_roundw
                    case rel => exact ⟨j + 1, by push_cast; rfl, by omega, by rw [HS2.out]; exact (FBa.below (below_drewN (Below.refl _ _) _)).set 14 (.int .i64 (p.at_ + d)) rfl rfl rfl rfl⟩
                    case measure => simp [intOf]; omega
                  · have dd3 : decide (p.at_ + d < cur) = false := by simp [m3]
                    have HS2 : Hid (lossAt L.s2.acked d (kept.take (j + 1)) (-1) = cur) := Lib.hid (by rw [HS.out, if_neg (by omega)])
                    clear HS
                    go_wp2_with fail
                    go_quiet (fail)
                    go_wp2
                    go_roundw
                    case rel => exact ⟨j + 1, by push_cast; rfl, by omega, by rw [HS2.out]; exact FBa.below (below_drewN (Below.refl _ _) _)⟩
                    case measure => simp [intOf]; omega
              · have dd1 : decide (p.num < L.s2.acked) = false := by simp [m1]
                have HS2 : Hid (lossAt L.s2.acked d (kept.take (j + 1)) (-1) = cur) := Lib.hid (by rw [HS.out, if_neg (by omega)])
                clear HS
                go_wp2_with fail
                go_quiet (fail)
                go_wp2
                go_roundw
                case rel => exact ⟨j + 1, by push_cast; rfl, by omega, by rw [HS2.out]; exact FBa.below (below_drewN (Below.refl _ _) _)⟩
                case measure => simp [intOf]; omega
            · obtain rfl : j = kept.length := by omega
              rw [List.take_length] at FBj
              have HL2 := Lib.hid (HLast.out wr _ FBj (by rw [HFound.out, HLz.out]))
              clear FBj
              go_wp2
              go_ret
              rw [← HLO.out]
              exact HL2.out
      · have HLz : Hid ((L.cut2 L.ask2).crash nw = L.cut2 L.ask2) := Lib.hid (by unfold Lo.crash; rw [if_neg (by exact hcr)])
        have FB4 : FB w2 (wr.setCell ⟨g, 14, none⟩ (.int .i64 (-1))) g w.heap.size (w.heap.size + 1) w1.heap.size 11 d (Lo.loss2 (L.cut2 L.ask2) (-1)) a0 c0 a1 c1 a2 c2 w.heap.size a c lost := FB0.set 14 (.int .i64 (-1)) rfl rfl rfl rfl
        have xT : wr.cell? ⟨g, 14, none⟩ = some (Value.int .i64 L.s2.loss) := FB0.l.has.cell 14 rfl
        have xTf := FB0.l.has.free 14
        have y3 := FB4.h3.cell 0 rfl
        have yO : (wr.setCell ⟨g, 14, none⟩ (.int .i64 (-1))).cell? ⟨g, 11, none⟩ = some (Value.slice a2 kept.length c2) := by rw [HKE.out]; exact FB4.l.has.cell 11 rfl
        go_wp2_with fail
        clear FB0 xT xTf y3 yO e2 e3 e24
        go_loopw [68] (fun iv wv => ∃ j : Nat, iv = .int .i64 (j : Int) ∧ j ≤ kept.length ∧ FB w2 wv g w.heap.size (w.heap.size + 1) w1.heap.size 11 d (Lo.loss2 (L.cut2 L.ask2) (lossAt L.s2.acked d (kept.take j) (-1))) a0 c0 a1 c1 a2 c2 w.heap.size a c lost) (fun iv _ => kept.length - (intOf iv).toNat)
        case atStart => exact ⟨0, rfl, Nat.zero_le _, FB4⟩
        case round =>
          obtain ⟨j, rfl, hj, FBj⟩ := hrel
          clear FB4
          by_cases hjl : j < kept.length
          · have hjl' : (j : Int) < (kept.length : Int) := by omega
            have hkI : (kept.length : Int) ≤ 4096 := by omega
            have g2 : IntKind.i64.wrap ((j : Int) + 1) = (j : Int) + 1 := by rw [IntKind.wrap_i64]; omega
            have rk : wr.ownsRow 0 68 4 (.slice a2 kept.length c2) kept.length (pv kept) := by rw [HKE.out]; exact FBj.l.r2
            obtain ⟨sb, hsb, e0, e1, e2, e3, s1, s2⟩ := own_pk rk rfl hjl
            have s1' : (kept.length : Int) ≤ (c2 : Int) := by omega
            have hpk := HKp.out _ (List.getElem_mem hjl)
            have HS : Hid (lossAt L.s2.acked d (kept.take (j + 1)) (-1) = if kept[j].num < L.s2.acked ∧ (lossAt L.s2.acked d (kept.take j) (-1) < 0 ∨ kept[j].at_ + d < lossAt L.s2.acked d (kept.take j) (-1)) then kept[j].at_ + d else lossAt L.s2.acked d (kept.take j) (-1)) := Lib.hid (by
              rw [List.take_succ_eq_append_getElem hjl, lossAt_snoc])
            generalize lossAt L.s2.acked d (kept.take j) (-1) = cur at HS FBj
            generalize kept[j] = p at HS e0 e1 e2 e3 hpk
            clear rk
            have hal : Below wr.heap.size wr (wr.alloc (.cells #[.int .i64 p.num, .int .i64 p.size, .int .i64 p.at_, .bool p.el] 68)) := (Below.refl _ _).alloc (Nat.le_refl _) _
            have hPk : Has (wr.alloc (.cells #[.int .i64 p.num, .int .i64 p.size, .int .i64 p.at_, .bool p.el] 68)) wr.heap.size 68 [.int .i64 p.num, .int .i64 p.size, .int .i64 p.at_, .bool p.el] := Has.new _ _ _
            have FBa := FBj.below hal
            have q0 := hPk.cell 0 rfl
            have q2 := hPk.cell 2 rfl
            have b3 := FBa.h3.cell 0 rfl
            have b5 := FBa.h5.cell 0 rfl
            have bA : (wr.alloc (.cells #[.int .i64 p.num, .int .i64 p.size, .int .i64 p.at_, .bool p.el] 68)).cell? ⟨g, 13, none⟩ = some (Value.int .i64 L.s2.acked) := FBa.l.has.cell 13 rfl
            have bT : (wr.alloc (.cells #[.int .i64 p.num, .int .i64 p.size, .int .i64 p.at_, .bool p.el] 68)).cell? ⟨g, 14, none⟩ = some (Value.int .i64 cur) := FBa.l.has.cell 14 rfl
            have bTf := FBa.l.has.free 14
            have gt : IntKind.i64.wrap (p.at_ + d) = p.at_ + d := by rw [IntKind.wrap_i64]; omega
            subst hsb
            by_cases m1 : p.num < L.s2.acked
            · have dd1 : decide (p.num < L.s2.acked) = true := by simp [m1]
              by_cases m2 : cur < 0
              · have dd2 : decide (cur < 0) = true := by simp [m2]
                have HS2 : Hid (lossAt L.s2.acked d (kept.take (j + 1)) (-1) = p.at_ + d) := Lib.hid (by rw [HS.out, if_pos ⟨m1, .inl m2⟩])
                clear HS m1 m2
                go_wp2_with fail
                go_quiet (fail)
                go_wp2
                go_roundw
                case rel => exact ⟨j + 1, by push_cast; rfl, by omega, by rw [HS2.out]; exact (FBa.below (below_drewN (Below.refl _ _) _)).set 14 (.int .i64 (p.at_ + d)) rfl rfl rfl rfl⟩
                case measure => simp [intOf]; omega
              · have dd2 : decide (cur < 0) = false := by simp [m2]
                by_cases m3 : p.at_ + d < cur
                · have dd3 : decide (p.at_ + d < cur) = true := by simp [m3]
                  have HS2 : Hid (lossAt L.s2.acked d (kept.take (j + 1)) (-1) = p.at_ + d) := Lib.hid (by rw [HS.out, if_pos ⟨m1, .inr m3⟩])
                  clear HS m1 m2
                  go_wp2_with fail
                  go_quiet (fail)
                  go_wp2
                  go_roundw
                  case rel => exact ⟨j + 1, by push_cast; rfl, by omega, by rw [HS2.out]; exact (FBa.below (below_drewN (Below.refl _ _) _)).set 14 (.int .i64 (p.at_ + d)) rfl rfl rfl rfl⟩
                  case measure => simp [intOf]; omega
                · have dd3 : decide (p.at_ + d < cur) = false := by simp [m3]
                  have HS2 : Hid (lossAt L.s2.acked d (kept.take (j + 1)) (-1) = cur) := Lib.hid (by rw [HS.out, if_neg (by omega)])
                  clear HS
                  go_wp2_with fail
                  go_quiet (fail)
                  go_wp2
                  go_roundw
                  case rel => exact ⟨j + 1, by push_cast; rfl, by omega, by rw [HS2.out]; exact FBa.below (below_drewN (Below.refl _ _) _)⟩
                  case measure => simp [intOf]; omega
            · have dd1 : decide (p.num < L.s2.acked) = false := by simp [m1]
              have HS2 : Hid (lossAt L.s2.acked d (kept.take (j + 1)) (-1) = cur) := Lib.hid (by rw [HS.out, if_neg (by omega)])
              clear HS
              go_wp2_with fail
              go_quiet (fail)
              go_wp2
              go_roundw
              case rel => exact ⟨j + 1, by push_cast; rfl, by omega, by rw [HS2.out]; exact FBa.below (below_drewN (Below.refl _ _) _)⟩
              case measure => simp [intOf]; omega
          · obtain rfl : j = kept.length := by omega
            rw [List.take_length] at FBj
            have HL2 := Lib.hid (HLast.out wr _ FBj (by rw [HFound.out, HLz.out]))
            clear FBj
            go_wp2
            go_ret
            rw [← HLO.out]
            exact HL2.out

end Go.Proofs.Ytkpeegcpicckjaa

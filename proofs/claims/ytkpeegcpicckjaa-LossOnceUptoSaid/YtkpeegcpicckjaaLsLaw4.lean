/- LossOnce answers true. -/
import Derived.Test.YtkpeegcpicckjaaLsLaw1
import Derived.Test.YtkpeegcpicckjaaLsCopy
import Derived.Test.YtkpeegcpicckjaaLsTake
import Derived.Deep.DeepCutAuto
import Derived.Deep.CutBlock
namespace Go.Proofs.Ytkpeegcpicckjaa
open Go.RowKit

theorem SlS.below' {w w' : World} {a : Option Addr} {n c : Nat} {l : List Sn} (h : SlS w a n c l) (hb : Below w.heap.size w w') : SlS w' a n c l := by
  refine ⟨h.len, h.cap, h.max, fun hn => ?_⟩
  obtain ⟨b, off, ha, hc⟩ := h.cells hn
  refine ⟨b, off, ha, fun i hi => ?_⟩
  obtain ⟨c0, c1⟩ := hc i hi
  exact ⟨(hb.cell (World.block_lt_of_cell? w _ c0)).trans c0, (hb.cell (World.block_lt_of_cell? w _ c1)).trans c1⟩
theorem sizes_of' {s : Sp} {now : Int} (h : SpB s now) : SizesOk s.out := ⟨h.len, fun p hp => by have := h.pk p hp; exact ⟨this.2.2.1, this.2.2.2.1⟩⟩
theorem SpB.new0' : SpB Sp.new 0 := ⟨by decide, by decide, by decide, by decide, by decide, by simp [Sp.new]⟩
theorem LoB.new25' : LoB (Lo.new 25) := ⟨by decide, by decide, by decide, by decide, by decide, by decide, by decide, by decide, by decide, by decide, SpB.new0', SpB.new0', SpB.new0'⟩
/-- what is out, by space -/
def Lo.O (L : Lo) : Int → List Pk := fun k => (L.sp k).out
/-- what is new since B, but for the book -/
def OF (B bb : Nat) (oa : Option Addr) (k : Nat) : Prop := B ≤ k ∧ k ≠ bb ∧ ∀ ad, oa = some ad → k ≠ ad.block
/-- the calls so far: L lies at g, the book at bb -/
structure OT (W : World) (g bb : Nat) (L : Lo) (lim : Int) (out : List On) (oa : Option Addr) (oc : Nat) (w : World) : Prop where
  lies : LAt (OF W.heap.size bb oa) w g L
  ok : LoB L
  win : L.window ≤ lim
  bk : BkAt w bb out oa oc
  bkB : W.heap.size ≤ bb
  oaB : ∀ ad, oa = some ad → W.heap.size ≤ ad.block
  new : Below W.heap.size W w
theorem OT.below {W : World} {g bb : Nat} {L : Lo} {lim : Int} {out : List On} {oa : Option Addr} {oc : Nat} {w w' : World} (h : OT W g bb L lim out oa oc w) (hb : Below w.heap.size w w') : OT W g bb L lim out oa oc w' :=
  ⟨h.lies.below hb, h.ok, h.win, h.bk.below hb, h.bkB, h.oaB, h.new.trans (hb.mono h.new.size)⟩
theorem OT.more {W : World} {g bb : Nat} {L : Lo} {lim lim' : Int} {out : List On} {oa : Option Addr} {oc : Nat} {w : World} (h : OT W g bb L lim out oa oc w) (hl : lim ≤ lim') : OT W g bb L lim' out oa oc w :=
  ⟨h.lies, h.ok, Int.le_trans h.win hl, h.bk, h.bkB, h.oaB, h.new⟩
/-- L lies in what is older than ob -/
theorem OT.old {W : World} {g bb : Nat} {L : Lo} {lim : Int} {out : List On} {oa : Option Addr} {oc : Nat} {w : World} (h : OT W g bb L lim out oa oc w) {ob : Nat} (hob : ob = w.heap.size) {w' : World} (hb : Below w.heap.size w w') : LAt (fun k => OF W.heap.size bb oa k ∧ k < ob) w' g L :=
  (h.lies.more (fun k hk hlt => ⟨hk, by rw [hob]; exact hlt⟩)).below hb
/-- a call of the loss layer -/
theorem OT.step {W : World} {g bb : Nat} {L L' : Lo} {lim lim' : Int} {out : List On} {oa : Option Addr} {oc : Nat} {w w' : World} {F : Nat → Prop} (h : OT W g bb L lim out oa oc w) (hF : ∀ k, F k → OF W.heap.size bb oa k) (hk : Kept F w w') (hL : LAt (Fat F w w') w' g L') (hq : LoB L') (hw : L'.window ≤ lim') :
    OT W g bb L' lim' out oa oc w' := by
  have hs := h.new.size
  have hl := h.bk.has.lt
  exact ⟨hL.more (fun k hk' _ => hk'.elim (fun h => hF k h) (fun hh => ⟨by omega, by omega, fun ad ha => by have := own_at h.bk.row ha; omega⟩)), hq, hw, h.bk.kept hk (fun hh => (hF _ hh).2.1 rfl) (fun ad ha hh => (hF _ hh).2.2 ad ha rfl), h.bkB, h.oaB, Kept.fresh h.new hk (fun k h => (hF k h).1)⟩
/-- packets are told -/
theorem OT.take {W : World} {g bb : Nat} {L : Lo} {lim : Int} {out out' : List On} {oa : Option Addr} {oc : Nat} {w w' : World} {e : Ending} (h : OT W g bb L lim out oa oc w) (ht : TakeP w bb out' oa e w') : ∃ oa' oc', OT W g bb L lim out' oa' oc' w' := by
  obtain ⟨_, hk, oa', oc', hb, hoa⟩ := ht
  have hs := h.new.size
  refine ⟨oa', oc', ?_, h.ok, h.win, hb, h.bkB, fun ad ha => ?_, Kept.fresh h.new hk (fun k e => by have : k = bb := e; have := h.bkB; omega)⟩
  · have h1 : LAt (fun k => OF W.heap.size bb oa k ∧ k < w.heap.size) w g L := h.lies.more (fun k hk hlt => ⟨hk, hlt⟩)
    refine (h1.kept hk (fun k hF _ e => hF.1.2.1 e)).more (fun k hF _ => ⟨hF.1.1, hF.1.2.1, fun ad ha => ?_⟩)
    rcases hoa ad ha with h2 | h2
    · exact hF.1.2.2 ad h2
    · have := hF.2; omega
  · rcases hoa ad ha with h2 | h2
    · exact h.oaB ad h2
    · omega
/-- a packet is written down -/
theorem OT.push {W : World} {g bb : Nat} {L : Lo} {lim : Int} {out : List On} {oa : Option Addr} {oc : Nat} {w w6 w8 : World} {o : On} {a8 : Option Addr} {c8 : Nat} (h : OT W g bb L lim out oa oc w) (hb : Below w.heap.size w w6) (hg : w6.grownBy w8 (Value.ownBlock (.slice oa out.length oc)))
    (hrow : w8.ownsRow 0 54 3 (.slice a8 (out.length + 1) c8) (out.length + 1) (ov (out ++ [o]))) (hno : NewOr w6 (.slice oa out.length oc) (.slice a8 (out.length + 1) c8)) :
    OT W g bb L lim (out ++ [o]) a8 c8 ((w8.setCell ⟨bb, 0, none⟩ (.slice a8 (out.length + 1) c8)).setCell ⟨bb, 1, none⟩ (.int .i64 (osum out + o.size))) := by
  have h6 := h.below hb
  have hk8 : Kept (fun k => ∃ ad, oa = some ad ∧ k = ad.block) w6 w8 := (Kept.of_grown hg).more (fun k _ e => by
    cases hoa : oa with
    | none => rw [hoa] at e; cases e
    | some ad => rw [hoa] at e; simp only [Value.ownBlock, Option.some.injEq] at e; exact ⟨ad, rfl, e.symm⟩)
  have hs := h6.new.size
  have hbb : ¬ (∃ ad, oa = some ad ∧ bb = ad.block) := fun ⟨ad, ha, e⟩ => h.bk.ne ad ha e.symm
  have k1 := Kept.set w8 bb 0 (.slice a8 (out.length + 1) c8)
  have k2 := Kept.set (w8.setCell ⟨bb, 0, none⟩ (.slice a8 (out.length + 1) c8)) bb 1 (.int .i64 (osum out + o.size))
  have k12 := k1.trans k2 (fun _ _ h => h)
  have hne : ∀ ad, a8 = some ad → ad.block ≠ bb := fun ad ha e => by
    rcases newOr_at hno ha with ⟨x, hx, hxe⟩ | hx
    · exact h.bk.ne x hx (by omega)
    · have := h6.bk.has.lt; omega
  have hL8 : LAt (fun k => OF W.heap.size bb oa k ∧ k < w6.heap.size) w8 g L := (h6.lies.more (fun k hk hlt => ⟨hk, hlt⟩)).kept hk8 (fun k hF _ ⟨ad, ha, e⟩ => hF.1.2.2 ad ha e)
  have hlen : (out ++ [o]).length = out.length + 1 := by simp
  refine ⟨(hL8.kept k12 (fun k hF _ e => hF.1.2.1 e)).more (fun k hF _ => ⟨hF.1.1, hF.1.2.1, fun ad ha => ?_⟩), h.ok, h.win, ⟨?_, ?_, hne⟩, h.bkB, fun ad ha => ?_, ?_⟩
  · rcases newOr_at hno ha with ⟨x, hx, hxe⟩ | hx
    · have := hF.1.2.2 x hx; omega
    · have := hF.2; omega
  · rw [hlen, osum_append]
    have hh := (((h6.bk.has.kept hk8 hbb).set 0 (.slice a8 (out.length + 1) c8)).set 1 (.int .i64 (osum out + o.size)))
    have e : osum [o] = o.size := by simp [osum]
    rw [e]
    exact hh
  · rw [hlen]
    exact own_kept' hrow k12 (fun ad ha e => hne ad ha e)
  · rcases newOr_at hno ha with ⟨x, hx, hxe⟩ | hx
    · have := h.oaB x hx; omega
    · omega
  · refine Kept.fresh (Kept.fresh h6.new hk8 (fun k ⟨ad, ha, e⟩ => by have := h.oaB ad ha; omega)) k12 (fun k e => by have : k = bb := e; have := h.bkB; omega)

theorem bk_new : Bk (Lo.new 25).O [] := Bk.nil.eq (fun k h0 h2 => by
  have : k = 0 ∨ k = 1 ∨ k = 2 := by omega
  rcases this with rfl | rfl | rfl <;> rfl)
theorem bk_sent {L L' : Lo} {out : List On} (h : Bk L.O out) (hq : LoB L) {s number size now : Int} {el : Bool} (hc : SentOk L L' s number size el now) : Bk L'.O (out ++ [⟨s, number, if el then size else 0⟩]) := by
  obtain ⟨hs, hh, ho, _, _, _, hr⟩ := hc
  exact h.add (O' := L'.O) hs (p := ⟨number, if el then size else 0, now, el⟩) ho (fun j h0 h2 hj => (hr j h0 h2 hj).1) (fun q hqm => by
    have := (hq.sp s).pk q hqm
    show q.num < number
    omega)
/-- what a call tells of a space's packets is in the book, each once -/
structure Told (L' : Lo) (out : List On) (s : Int) (t1 t2 : List Int) : Prop where
  n1 : t1.Nodup
  n2 : t2.Nodup
  m1 : ∀ z ∈ t1, ∃ o ∈ out, isO s z o = true
  m2 : ∀ z ∈ t2, ∃ o ∈ left s t1 out, isO s z o = true
  bk : Bk L'.O (left s t2 (left s t1 out))
theorem Told.none {L' : Lo} {out : List On} {s : Int} (h : Bk L'.O out) : Told L' out s [] [] := ⟨List.nodup_nil, List.nodup_nil, by simp, by simp, by rw [left_nil, left_nil]; exact h⟩
theorem Told.of {L L' : Lo} {out : List On} (h : Bk L.O out) {k : Int} {f1 f2 : Pk → Bool} (hM : Moves L L' k f1 f2) : Told L' out k (((L.sp k).out.filter f1).map (·.num)) ((((L.sp k).out.filter fun p => !f1 p).filter f2).map (·.num)) := by
  obtain ⟨O1, hk1, hj1⟩ : ∃ O1 : Int → List Pk, O1 k = ((L.sp k).out.filter fun p => !f1 p) ∧ ∀ j, j ≠ k → O1 j = L.O j := ⟨fun j => if j = k then (L.sp k).out.filter fun p => !f1 p else L.O j, by simp, fun j hj => by simp [hj]⟩
  have h1 : Bk O1 (left k (((L.sp k).out.filter f1).map (·.num)) out) := h.cut hM.hk f1 hk1 (fun j _ _ hj => hj1 j hj)
  have h2 := h1.cut (O' := L'.O) hM.hk f2 (by rw [hk1]; exact hM.out) (fun j h0 h2 hj => by
    rw [hj1 j hj]
    exact (hM.rest j h0 h2 hj).1)
  have n2 := h1.nodup hM.hk f2
  have m2 := h1.mem hM.hk f2
  rw [hk1] at h2 n2 m2
  exact ⟨h.nodup hM.hk f1, n2, h.mem hM.hk f1, m2, h2⟩
theorem inN_askOf (l : List Sn) (p : Pk) : l.any (inN p.num) = askOf l p := by
  unfold askOf inB inN
  rfl
theorem told_in {l : List Sn} {o : List Pk} : ∀ z ∈ (o.filter (askOf l)).map (·.num), l.any (inN z) = true := by
  intro z hz
  obtain ⟨p, hp, rfl⟩ := List.mem_map.1 hz
  rw [inN_askOf]; exact (List.mem_filter.1 hp).2
theorem lost_out {l : List Sn} {o : List Pk} {f2 : Pk → Bool} : ∀ z ∈ ((o.filter fun p => !askOf l p).filter f2).map (·.num), l.any (inN z) = false := by
  intro z hz
  obtain ⟨p, hp, rfl⟩ := List.mem_map.1 hz
  rw [inN_askOf]
  have := (List.mem_filter.1 (List.mem_filter.1 hp).1).2
  simpa using this
theorem nums_get4 (l : List Int) (i : Nat) (h : i < l.length) : (nums l)[i]? = some (.int .i64 l[i]) := by simp [nums, h]
theorem bk_sizes {L : Lo} {out : List On} (h : Bk L.O out) (hq : LoB L) : ∀ o ∈ out, 0 ≤ o.size ∧ o.size ≤ 65535 := h.size (fun k _ _ p hp => by have := (hq.sp k).pk p hp; exact ⟨this.2.2.1, this.2.2.2.1⟩)
theorem bk_len {L : Lo} {out : List On} (h : Bk L.O out) (hq : LoB L) : out.length ≤ 12288 := by
  have e := h.len
  have h0 : (L.O 0).length ≤ 4096 := (hq.sp 0).len
  have h1 : (L.O 1).length ≤ 4096 := (hq.sp 1).len
  have h2 : (L.O 2).length ≤ 4096 := (hq.sp 2).len
  omega
theorem bk_under {L : Lo} {out : List On} (h : Bk L.O out) : L.under = osum out := by rw [h.sum]; rfl
/-- take, of what a call told -/
theorem take_told (w : World) {W : World} {g bb : Nat} {L : Lo} {lim : Int} {out : List On} {oa : Option Addr} {oc : Nat} (h : OT W g bb L lim out oa oc w) (hu : Uniq out) (hsz : ∀ o ∈ out, 0 ≤ o.size ∧ o.size ≤ 65535) (hlen : out.length ≤ 12288) (s : Int) {zs : List Int} {na : Option Addr} {nn nc : Nat} 
    (hnd : zs.Nodup) (hin : ∀ z ∈ zs, ∃ o ∈ out, isO s z o = true) {B e : Nat} (hrow : w.ownsRow B e 1 (.slice na nn nc) nn (nums zs)) (hB : bb < B) :
    Calls Try.prog 18 #[.pointer (some ⟨bb, 0, none⟩), .int .i64 s, .slice na nn nc] w (TakeP w bb (left s zs out) oa) :=
  take_any w h.bk hu hsz hlen s hnd hin (own_sl hrow) (fun ad ha e => by have := ownblk hrow ha; omega)

/-- behind the switch -/
def Done (W : World) (g bb i : Nat) (wc : World) : Prop :=
  ∃ (L : Lo) (out : List On) (oa : Option Addr) (oc : Nat), OT W g bb L (12000 + ((i : Int) + 1) * 268435456) out oa oc wc ∧ Bk L.O out

set_option maxRecDepth 100000 in
set_option maxHeartbeats 20000000 in
theorem lonce_any (W : World) (a : Option Addr) (n c : Nat) (h : OpsAt W a n c) :
    Calls Try.prog 6 #[.slice a n c] W fun e w' => e = .returned (.bool true) ∧ Below W.heap.size W w' := by
  have HAw := Lib.hid awake11_any
  obtain ⟨hn20, hnc, hcm, hops⟩ := h
  have HO := Lib.hid hops
  have hcm' : (c : Int) ≤ 9223372036854775807 := by unfold maxLen at hcm; omega
  clear hops hcm
  go_enter Try.func6, Try.ntmps6
  go_wp2_with fail
  refine (new_any W 25).mono ?_
  rintro e w1 (⟨h, _⟩ | ⟨_, _, g, rfl, hL, hb1⟩)
  · exfalso; omega
  obtain ⟨bb, hbb⟩ : ∃ bb, bb = w1.heap.size := ⟨_, rfl⟩
  obtain ⟨w2, hw2⟩ : ∃ w2, w2 = w1.alloc (.cells #[.slice none 0 0, .int .i64 0] 52) := ⟨_, rfl⟩
  have B0 : OT W g bb (Lo.new 25) 12000 [] none 0 w2 := by
    have hal : Below w1.heap.size w1 w2 := by rw [hw2]; exact (Below.refl _ _).alloc (Nat.le_refl _) _
    have hL1 : LAt (OF W.heap.size bb none) w1 g (Lo.new 25) := hL.more (fun k h _ => ⟨h.1, by have := h.2; omega, by simp⟩)
    have hT : Has w2 bb 52 [.slice none 0 0, .int .i64 0] := by rw [hw2, hbb]; exact Has.new _ _ _
    exact ⟨hL1.below hal, LoB.new25', by decide, ⟨hT, World.ownsRow_nil _ _ _ _, by simp⟩, by rw [hbb]; exact hb1.size, by simp, hb1.trans (hal.mono hb1.size)⟩
  clear hL hb1
  go_wp2_with fail
  rw [← hw2, ← hbb]
  clear hw2 hbb
  go_loopw [38] (fun iv wr => ∃ (i : Nat) (L : Lo) (out : List On) (oa : Option Addr) (oc : Nat), iv = .int .i64 (i : Int) ∧ i ≤ n ∧ OT W g bb L (12000 + (i : Int) * 268435456) out oa oc wr ∧ Bk L.O out) (fun iv _ => n - (intOf iv).toNat)
  case atStart => exact ⟨0, _, [], none, 0, rfl, Nat.zero_le _, B0, bk_new⟩
  case round =>
    clear B0
    obtain ⟨i, L, out, oa, oc, rfl, hi, hS, hA⟩ := hrel
    by_cases hin : i < n
    · have hin' : (i : Int) < (n : Int) := by omega
      have g2 : IntKind.i64.wrap ((i : Int) + 1) = (i : Int) + 1 := by rw [IntKind.wrap_i64]; omega
      obtain ⟨b, off, rfl, hop⟩ := HO.out (by omega)
      obtain ⟨kind, space, number, size, now, el, sa, sn, sc, sl, c0, c1, c2, c3, c4, c5, c6, hSl, hsn, hr1, hr2, hr3, hr4, hrs⟩ := hop i hin
      clear hop
      have hB := hS.new
      have cellB : ∀ {ad : Addr} {u : Value}, W.cell? ad = some u → wr.cell? ad = some u := fun {ad u} hc => by rw [hB.cell (World.block_lt_of_cell? W _ hc)]; exact hc
      have c0 := cellB c0
      have c1 := cellB c1
      have c2 := cellB c2
      have c3 := cellB c3
      have c4 := cellB c4
      have c5 := cellB c5
      have c6 := cellB c6
      clear cellB
      obtain ⟨ob, hob⟩ : ∃ ob, ob = wr.heap.size := ⟨_, rfl⟩
      obtain ⟨w1', hw1⟩ : ∃ w1', w1' = wr.alloc (.cells #[.int .i64 kind, .int .i64 space, .int .i64 number, .int .i64 size, .int .i64 now, .bool el, .slice sa sn sc] 42) := ⟨_, rfl⟩
      have hal : Below wr.heap.size wr w1' := by rw [hw1]; exact (Below.refl _ _).alloc (Nat.le_refl _) _
      have hT : Has w1' ob 42 [.int .i64 kind, .int .i64 space, .int .i64 number, .int .i64 size, .int .i64 now, .bool el, .slice sa sn sc] := by rw [hw1, hob]; exact Has.new _ _ _
      have hS1 := hS.below hal
      have hobW : Hid (W.heap.size ≤ ob ∧ bb < ob ∧ g < ob) := Lib.hid (by
        have := hB.size
        have := hS.bk.has.lt
        have := hS.lies.lt
        rw [hob]; omega)
      have hobo : Hid (∀ ad, oa = some ad → ad.block < ob) := Lib.hid (fun ad ha => by rw [hob]; exact own_at hS.bk.row ha)
      have HL1 : Hid (LAt (fun k => OF W.heap.size bb oa k ∧ k < ob) w1' g L) := Lib.hid (hS.old hob hal)
      have HT := Lib.hid hT
      have HS1 := Lib.hid hS1
      have HM1 : Hid (OT W g bb L (12000 + ((i : Int) + 1) * 268435456) out oa oc w1') := Lib.hid (hS1.more (by omega))
      have HA := Lib.hid hA
      have HSl := Lib.hid hSl
      clear hal hT hS1 hS hA hB hSl hrs
      go_upto_block 2 with fail
      rw [← hw1, ← hob]
      clear hw1 hob c0 c1 c2 c3 c4 c5 c6
      go_cut [] (fun wc => Done W g bb i wc)
      case first =>
        have t0 := HT.out.cell 0 rfl
        have t1 := HT.out.cell 1 rfl
        have t2 := HT.out.cell 2 rfl
        have t3 := HT.out.cell 3 rfl
        have t4 := HT.out.cell 4 rfl
        have t5 := HT.out.cell 5 rfl
        have t6 := HT.out.cell 6 rfl
        by_cases k1 : kind = 1
        · subst k1
          have HSn := Lib.hid (sent_all w1' HL1.out HS1.out.ok space number size el now)
          go_wp2_with fail
          refine HSn.out.mono ?_
          rintro e w3 ⟨z, L', rfl, hk3, hL3, hB3, hwin, hcs⟩
          have hT3 : OT W g bb L' (12000 + ((i : Int) + 1) * 268435456) out oa oc w3 := HS1.out.step (fun k h => h.1) hk3 hL3 hB3 (by have := HM1.out.win; omega)
          have hO3 := HT.out.kept hk3 (fun h => Nat.lt_irrefl _ h.2)
          clear hk3 hL3 hB3 hwin HSn
          rcases hcs with ⟨hz, rfl⟩ | ⟨rfl, hok⟩
          · have zf : (z == 0) = false := by rw [beq_eq_false_iff_ne]; exact hz
            have G3 : Hid (Done W g bb i w3) := Lib.hid ⟨L', out, oa, oc, hT3, HA.out⟩
            clear hz hT3 hO3
            go_wp2_with fail
            go_meet
            case rel => exact G3.out
          · have d1 := hO3.cell 1 rfl
            have d2 := hO3.cell 2 rfl
            have d3 := hO3.cell 3 rfl
            have d5 := hO3.cell 5 rfl
            have HBk := Lib.hid (bk_sent HA.out HS1.out.ok hok)
            have hz5 := hok.2.2.2.2
            have hsz5 : 0 ≤ size ∧ size ≤ 65535 := ⟨hz5.1, hz5.2.1⟩
            have HT3 := Lib.hid hT3
            have HO3 := Lib.hid hO3
            have hlen := bk_len HA.out HS1.out.ok
            have hsum := osum_bounds out (bk_sizes HA.out HS1.out.ok)
            clear hT3 hO3 hok hz5 t0 t1 t2 t3 t4 t5 t6
            cases el
            · obtain ⟨o, ho⟩ : ∃ o : On, o = ⟨space, number, 0⟩ := ⟨_, rfl⟩
              have HBk2 : Hid (Bk L'.O (out ++ [o])) := Lib.hid (by rw [ho]; exact HBk.out)
              have hal6' : Below w3.heap.size w3 (w3.alloc (.cells #[.int .i64 space, .int .i64 number, .int .i64 0] 54)) := (Below.refl _ w3).alloc (Nat.le_refl _) _
              obtain ⟨w6, hw6⟩ : ∃ w6, w6 = (w3.alloc (.cells #[.int .i64 space, .int .i64 number, .int .i64 0] 54)).drew := ⟨_, rfl⟩
              obtain ⟨eb, heb⟩ : ∃ eb, eb = w3.heap.size := ⟨_, rfl⟩
              have hal6 : Below w3.heap.size w3 w6 := by rw [hw6]; exact hal6'.trans (below_drewN (Below.refl _ _) 1 |>.mono hal6'.size)
              have hE6 : Has w6 eb 54 [.int .i64 space, .int .i64 number, .int .i64 0] := by
                rw [hw6, heb]
                exact (Has.new _ _ _ : Has (w3.alloc (.cells #[.int .i64 space, .int .i64 number, .int .i64 0] 54)) _ _ _)
              have hT6 := HT3.out.below hal6
              obtain ⟨a8, c8, w8, hr8, ho8, hg8, hno8⟩ := run_app_on (tyo := 50) (w := w6) (c2 := 1) hT6.bk.row (l2 := [o]) (n2 := 1) (n := out.length + 1) rfl rfl (ad := ⟨eb, 0, none⟩) (by
                intro x u hu
                rw [addr_add, Nat.zero_add]
                refine hE6.cell x ?_
                rw [ho] at hu
                simpa [ov, ocells] using hu) (by omega) (Nat.zero_le _)
              have hK8 : Kept (fun k => ∃ ad, oa = some ad ∧ k = ad.block) w6 w8 := (Kept.of_grown hg8).more (fun k _ e => by
                cases hoa : oa with
                | none => rw [hoa] at e; cases e
                | some ad => rw [hoa] at e; simp only [Value.ownBlock, Option.some.injEq] at e; exact ⟨ad, rfl, e.symm⟩)
              have hH8 := hT6.bk.has.kept hK8 (fun ⟨ad, ha, e⟩ => HT3.out.bk.ne ad ha e.symm)
              have f8 := hH8.cell 0 rfl
              have fz8 := hH8.free 0
              have hH9 := hH8.set 0 (.slice a8 (out.length + 1) c8)
              have f9 := hH9.cell 1 rfl
              have fz9 := hH9.free 1
              have hfin := HT3.out.push hal6 hg8 ho8 hno8
              have hos : o.size = 0 := by rw [ho]
              rw [hos] at hfin
              have G3 : Hid (Done W g bb i ((w8.setCell ⟨bb, 0, none⟩ (.slice a8 (out.length + 1) c8)).setCell ⟨bb, 1, none⟩ (.int .i64 (osum out + 0)))) := Lib.hid ⟨L', _, a8, c8, hfin, HBk2.out⟩
              have fw : IntKind.i64.wrap (osum out + 0) = osum out + 0 := by rw [IntKind.wrap_i64]; omega
              have HFw := Lib.hid fw
              have hT3d := HT3.out.below (below_drewN (Below.refl _ w3) 1)
              have dd0 := hT3d.bk.has.cell 0 rfl
              have hO3d := HO3.out.kept (Kept.drew none' _) (fun h => h)
              have dd1 := hO3d.cell 1 rfl
              have dd2 := hO3d.cell 2 rfl
              have s0 := (HT3.out.below hal6').bk.has.cell 0 rfl
              have hOa := HO3.out.kept (Kept.of_below (X := none') hal6') (fun h => h)
              have s1 := hOa.cell 1 rfl
              have s2 := hOa.cell 2 rfl
              have HW6 := Lib.hid hw6
              have HEb := Lib.hid heb
              have hO6 := HO3.out.kept (Kept.of_below (X := none') hal6) (fun h => h)
              have q0 := hT6.bk.has.cell 0 rfl
              have q1 := hO6.cell 1 rfl
              have q2 := hO6.cell 2 rfl
              have hO8 := hO6.kept hK8 (fun ⟨ad, ha, e⟩ => by have := hobo.out ad ha; omega)
              have p1 := hO8.cell 1 rfl
              have p2 := hO8.cell 2 rfl
              clear hw6 heb ho hal6 hal6' hE6 hT6 ho8 hg8 hno8 hK8 hH8 hH9 hfin hos hT3d hO3d hOa HBk HBk2 hsz5 hlen hsum hO6 hO8
              go_wp2_with fail
              refine Mx.regionZ [] (fun w' => w'.cell? ⟨bb, 0, none⟩ = some (.slice oa out.length oc) ∧ w'.cell? ⟨ob, 1, none⟩ = some (.int .i64 space) ∧ w'.cell? ⟨ob, 2, none⟩ = some (.int .i64 number)) (by kernel_rfl) (by kernel_rfl) ⟨dd0, dd1, dd2⟩ ?_
              repeat ((first | (refine Mx.skips (by kernel_rfl) ?_; go_big_quiet_skip) | (refine Mx.quietly rfl ?_; go_big_quiet_want; go_big_quiet_op; go_big_quiet_on)); refine Mx.done ?_)
              refine Mx.cell ⟨bb, 0, none⟩ (.slice oa out.length oc) (by kernel_rfl) (by kernel_rfl) (by kernel_rfl) Try.isAgg50 (fun w' h => h.1) ?_
              go_big_quiet_want; go_big_quiet_op; go_big_quiet_on; refine Mx.done ?_
              repeat ((first | (refine Mx.skips (by kernel_rfl) ?_; go_big_quiet_skip) | (refine Mx.quietly rfl ?_; go_big_quiet_want; go_big_quiet_op; go_big_quiet_on)); refine Mx.done ?_)
              refine Mx.cell ⟨ob, 1, none⟩ (.int .i64 space) (by kernel_rfl) (by kernel_rfl) (by kernel_rfl) Try.isAgg3 (fun w' h => h.2.1) ?_
              go_big_quiet_want; go_big_quiet_op; go_big_quiet_on; refine Mx.done ?_
              repeat ((first | (refine Mx.skips (by kernel_rfl) ?_; go_big_quiet_skip) | (refine Mx.quietly rfl ?_; go_big_quiet_want; go_big_quiet_op; go_big_quiet_on)); refine Mx.done ?_)
              refine Mx.cell ⟨ob, 2, none⟩ (.int .i64 number) (by kernel_rfl) (by kernel_rfl) (by kernel_rfl) Try.isAgg3 (fun w' h => h.2.2) ?_
              go_big_quiet_want; go_big_quiet_op; go_big_quiet_on; refine Mx.done ?_
              repeat ((first | (refine Mx.skips (by kernel_rfl) ?_; go_big_quiet_skip) | (refine Mx.quietly rfl ?_; go_big_quiet_want; go_big_quiet_op; go_big_quiet_on)); refine Mx.done ?_)
              refine Mx.loudly (by kernel_rfl) (by kernel_rfl) ?_
              go_wp2_with fail

              rw [← HEb.out, ← HW6.out]
              repeat ((first | (refine Mx.skips (by kernel_rfl) ?_; go_big_quiet_skip) | (refine Mx.quietly rfl ?_; go_big_quiet_want; go_big_quiet_op; go_big_quiet_on)); refine Mx.done ?_)
              refine Mx.loudly (by kernel_rfl) (by kernel_rfl) ?_
              go_wp2_with (at_builtin; refine Lib.wpList_append_run _ rfl _ _ _ _ rfl (.slice oa out.length oc) (.slice (some ⟨eb, 0, none⟩) 1 1) rfl rfl _ _ hr8 ?_)
              repeat ((first | (refine Mx.skips (by kernel_rfl) ?_; go_big_quiet_skip) | (refine Mx.quietly rfl ?_; go_big_quiet_want; go_big_quiet_op; go_big_quiet_on)); refine Mx.done ?_)
              refine Mx.atLast (by kernel_rfl) (by kernel_rfl) ?_
              go_wp2_with fail
              go_meet
              case rel => 
                have e : RowKit.wrap64 (osum out) = osum out := by have := HFw.out; rw [Int.add_zero, IntKind.wrap_i64] at this; unfold RowKit.wrap64; exact this
                rw [e]
                have := G3.out
                rwa [Int.add_zero] at this
            · obtain ⟨o, ho⟩ : ∃ o : On, o = ⟨space, number, size⟩ := ⟨_, rfl⟩
              have HBk2 : Hid (Bk L'.O (out ++ [o])) := Lib.hid (by rw [ho]; exact HBk.out)
              have hal6' : Below w3.heap.size w3 (w3.alloc (.cells #[.int .i64 space, .int .i64 number, .int .i64 size] 54)) := (Below.refl _ w3).alloc (Nat.le_refl _) _
              obtain ⟨w6, hw6⟩ : ∃ w6, w6 = (w3.alloc (.cells #[.int .i64 space, .int .i64 number, .int .i64 size] 54)).drew := ⟨_, rfl⟩
              obtain ⟨eb, heb⟩ : ∃ eb, eb = w3.heap.size := ⟨_, rfl⟩
              have hal6 : Below w3.heap.size w3 w6 := by rw [hw6]; exact hal6'.trans (below_drewN (Below.refl _ _) 1 |>.mono hal6'.size)
              have hE6 : Has w6 eb 54 [.int .i64 space, .int .i64 number, .int .i64 size] := by
                rw [hw6, heb]
                exact (Has.new _ _ _ : Has (w3.alloc (.cells #[.int .i64 space, .int .i64 number, .int .i64 size] 54)) _ _ _)
              have hT6 := HT3.out.below hal6
              obtain ⟨a8, c8, w8, hr8, ho8, hg8, hno8⟩ := run_app_on (tyo := 50) (w := w6) (c2 := 1) hT6.bk.row (l2 := [o]) (n2 := 1) (n := out.length + 1) rfl rfl (ad := ⟨eb, 0, none⟩) (by
                intro x u hu
                rw [addr_add, Nat.zero_add]
                refine hE6.cell x ?_
                rw [ho] at hu
                simpa [ov, ocells] using hu) (by omega) (Nat.zero_le _)
              have hK8 : Kept (fun k => ∃ ad, oa = some ad ∧ k = ad.block) w6 w8 := (Kept.of_grown hg8).more (fun k _ e => by
                cases hoa : oa with
                | none => rw [hoa] at e; cases e
                | some ad => rw [hoa] at e; simp only [Value.ownBlock, Option.some.injEq] at e; exact ⟨ad, rfl, e.symm⟩)
              have hH8 := hT6.bk.has.kept hK8 (fun ⟨ad, ha, e⟩ => HT3.out.bk.ne ad ha e.symm)
              have f8 := hH8.cell 0 rfl
              have fz8 := hH8.free 0
              have hH9 := hH8.set 0 (.slice a8 (out.length + 1) c8)
              have f9 := hH9.cell 1 rfl
              have fz9 := hH9.free 1
              have hfin := HT3.out.push hal6 hg8 ho8 hno8
              have hos : o.size = size := by rw [ho]
              rw [hos] at hfin
              have G3 : Hid (Done W g bb i ((w8.setCell ⟨bb, 0, none⟩ (.slice a8 (out.length + 1) c8)).setCell ⟨bb, 1, none⟩ (.int .i64 (osum out + size)))) := Lib.hid ⟨L', _, a8, c8, hfin, HBk2.out⟩
              have fw : IntKind.i64.wrap (osum out + size) = osum out + size := by rw [IntKind.wrap_i64]; omega
              have HFw := Lib.hid fw
              have hT3d := HT3.out.below (below_drewN (Below.refl _ w3) 1)
              have dd0 := hT3d.bk.has.cell 0 rfl
              have hO3d := HO3.out.kept (Kept.drew none' _) (fun h => h)
              have dd1 := hO3d.cell 1 rfl
              have dd2 := hO3d.cell 2 rfl
              have s0 := (HT3.out.below hal6').bk.has.cell 0 rfl
              have hOa := HO3.out.kept (Kept.of_below (X := none') hal6') (fun h => h)
              have s1 := hOa.cell 1 rfl
              have s2 := hOa.cell 2 rfl
              have HW6 := Lib.hid hw6
              have HEb := Lib.hid heb
              have hO6 := HO3.out.kept (Kept.of_below (X := none') hal6) (fun h => h)
              have q0 := hT6.bk.has.cell 0 rfl
              have q1 := hO6.cell 1 rfl
              have q2 := hO6.cell 2 rfl
              have hO8 := hO6.kept hK8 (fun ⟨ad, ha, e⟩ => by have := hobo.out ad ha; omega)
              have p1 := hO8.cell 1 rfl
              have p2 := hO8.cell 2 rfl
              clear hw6 heb ho hal6 hal6' hE6 hT6 ho8 hg8 hno8 hK8 hH8 hH9 hfin hos hT3d hO3d hOa HBk HBk2 hsz5 hlen hsum hO6 hO8
              go_wp2_with fail
              refine Mx.regionZ [] (fun w' => w'.cell? ⟨bb, 0, none⟩ = some (.slice oa out.length oc) ∧ w'.cell? ⟨ob, 1, none⟩ = some (.int .i64 space) ∧ w'.cell? ⟨ob, 2, none⟩ = some (.int .i64 number)) (by kernel_rfl) (by kernel_rfl) ⟨dd0, dd1, dd2⟩ ?_
              repeat ((first | (refine Mx.skips (by kernel_rfl) ?_; go_big_quiet_skip) | (refine Mx.quietly rfl ?_; go_big_quiet_want; go_big_quiet_op; go_big_quiet_on)); refine Mx.done ?_)
              refine Mx.cell ⟨bb, 0, none⟩ (.slice oa out.length oc) (by kernel_rfl) (by kernel_rfl) (by kernel_rfl) Try.isAgg50 (fun w' h => h.1) ?_
              go_big_quiet_want; go_big_quiet_op; go_big_quiet_on; refine Mx.done ?_
              repeat ((first | (refine Mx.skips (by kernel_rfl) ?_; go_big_quiet_skip) | (refine Mx.quietly rfl ?_; go_big_quiet_want; go_big_quiet_op; go_big_quiet_on)); refine Mx.done ?_)
              refine Mx.cell ⟨ob, 1, none⟩ (.int .i64 space) (by kernel_rfl) (by kernel_rfl) (by kernel_rfl) Try.isAgg3 (fun w' h => h.2.1) ?_
              go_big_quiet_want; go_big_quiet_op; go_big_quiet_on; refine Mx.done ?_
              repeat ((first | (refine Mx.skips (by kernel_rfl) ?_; go_big_quiet_skip) | (refine Mx.quietly rfl ?_; go_big_quiet_want; go_big_quiet_op; go_big_quiet_on)); refine Mx.done ?_)
              refine Mx.cell ⟨ob, 2, none⟩ (.int .i64 number) (by kernel_rfl) (by kernel_rfl) (by kernel_rfl) Try.isAgg3 (fun w' h => h.2.2) ?_
              go_big_quiet_want; go_big_quiet_op; go_big_quiet_on; refine Mx.done ?_
              repeat ((first | (refine Mx.skips (by kernel_rfl) ?_; go_big_quiet_skip) | (refine Mx.quietly rfl ?_; go_big_quiet_want; go_big_quiet_op; go_big_quiet_on)); refine Mx.done ?_)
              refine Mx.loudly (by kernel_rfl) (by kernel_rfl) ?_
              go_wp2_with fail

              rw [← HEb.out, ← HW6.out]
              repeat ((first | (refine Mx.skips (by kernel_rfl) ?_; go_big_quiet_skip) | (refine Mx.quietly rfl ?_; go_big_quiet_want; go_big_quiet_op; go_big_quiet_on)); refine Mx.done ?_)
              refine Mx.loudly (by kernel_rfl) (by kernel_rfl) ?_
              go_wp2_with (at_builtin; refine Lib.wpList_append_run _ rfl _ _ _ _ rfl (.slice oa out.length oc) (.slice (some ⟨eb, 0, none⟩) 1 1) rfl rfl _ _ hr8 ?_)
              repeat ((first | (refine Mx.skips (by kernel_rfl) ?_; go_big_quiet_skip) | (refine Mx.quietly rfl ?_; go_big_quiet_want; go_big_quiet_op; go_big_quiet_on)); refine Mx.done ?_)
              refine Mx.atLast (by kernel_rfl) (by kernel_rfl) ?_
              go_wp2_with fail
              go_meet
              case rel => exact G3.out
        · have j1 : (kind == 1) = false := by rw [beq_eq_false_iff_ne]; exact k1
          by_cases k2 : kind = 2
          · subst k2
            clear k1
            have HT1d : Has w1'.drew ob 42 [.int .i64 2, .int .i64 space, .int .i64 number, .int .i64 size, .int .i64 now, .bool el, .slice sa sn sc] := HT.out.kept (Kept.drew none' _) (fun h => h)
            have HS1d : OT W g bb L (12000 + (i : Int) * 268435456) out oa oc w1'.drew := HS1.out.below (below_drewN (Below.refl _ w1') 1)
            have d1 := HT1d.cell 1 rfl
            have d2 := HT1d.cell 2 rfl
            have d4 := HT1d.cell 4 rfl
            have d6 := HT1d.cell 6 rfl
            have HL1d : Hid (LAt (fun k => OF W.heap.size bb oa k ∧ k < ob) w1'.drew g L) := Lib.hid (HL1.out.below (below_drewN (Below.refl _ w1') 1))
            have hSd : SlS w1'.drew sa sn sc sl := HSl.out.below' HS1d.new
            have HCp := Lib.hid (copy_any w1'.drew hSd hsn)
            have HS1d := Lib.hid HS1d
            have HT1d := Lib.hid HT1d
            clear hSd t1 t2 t3 t4 t5 t6
            go_wp2_with fail
            refine Mx.region [] (fun w' => w'.cell? ⟨ob, 1, none⟩ = some (.int .i64 space) ∧ w'.cell? ⟨ob, 2, none⟩ = some (.int .i64 number) ∧ w'.cell? ⟨ob, 4, none⟩ = some (.int .i64 now) ∧ w'.cell? ⟨ob, 6, none⟩ = some (.slice sa sn sc)) (by kernel_rfl) (by kernel_rfl) ⟨d1, d2, d4, d6⟩ ?_
            repeat ((first | (refine Mx.skips (by kernel_rfl) ?_; go_big_quiet_skip) | (refine Mx.quietly rfl ?_; go_big_quiet_want; go_big_quiet_op; go_big_quiet_on)); refine Mx.done ?_)
            refine Mx.cell ⟨ob, 1, none⟩ (.int .i64 space) (by kernel_rfl) (by kernel_rfl) (by kernel_rfl) Try.isAgg3 (fun w' h => h.1) ?_
            go_big_quiet_want; go_big_quiet_op; go_big_quiet_on; refine Mx.done ?_
            repeat ((first | (refine Mx.skips (by kernel_rfl) ?_; go_big_quiet_skip) | (refine Mx.quietly rfl ?_; go_big_quiet_want; go_big_quiet_op; go_big_quiet_on)); refine Mx.done ?_)
            refine Mx.cell ⟨ob, 6, none⟩ (.slice sa sn sc) (by kernel_rfl) (by kernel_rfl) (by kernel_rfl) Try.isAgg40 (fun w' h => h.2.2.2) ?_
            go_big_quiet_want; go_big_quiet_op; go_big_quiet_on; refine Mx.done ?_
            repeat ((first | (refine Mx.skips (by kernel_rfl) ?_; go_big_quiet_skip) | (refine Mx.quietly rfl ?_; go_big_quiet_want; go_big_quiet_op; go_big_quiet_on)); refine Mx.done ?_)
            refine Mx.loudly (by kernel_rfl) (by kernel_rfl) ?_
            go_wp2_with fail
            refine HCp.out.mono ?_
            rintro e w2 ⟨ca, cc, rfl, hrow, hb2⟩
            have hS2 := HS1d.out.below hb2
            have hT2 := HT1d.out.kept (Kept.of_below (X := none') hb2) (fun h => h)
            have d1 := hT2.cell 1 rfl
            have d2 := hT2.cell 2 rfl
            have d4 := hT2.cell 4 rfl
            have d6 := hT2.cell 6 rfl
            have HAk := Lib.hid (ack_all w2 (HL1d.out.below hb2) hS2.ok (by have := hS2.win; omega) hrow (by have := HSl.out.len; omega) (fun ad ha e => by have := ownblk hrow ha; have := HS1d.out.lies.lt; omega) space number now)
            have HT2 := Lib.hid hT2
            have HS2 := Lib.hid hS2
            clear hT2 hS2 hrow hb2 HCp HS1d HT1d
            go_wp2_with fail
            repeat ((first | (refine Mx.skips (by kernel_rfl) ?_; go_big_quiet_skip) | (refine Mx.quietly rfl ?_; go_big_quiet_want; go_big_quiet_op; go_big_quiet_on)); refine Mx.done ?_)
            refine Mx.cell ⟨ob, 2, none⟩ (.int .i64 number) (by kernel_rfl) (by kernel_rfl) (by kernel_rfl) Try.isAgg3 (fun w' h => h.2.1) ?_
            go_big_quiet_want; go_big_quiet_op; go_big_quiet_on; refine Mx.done ?_
            repeat ((first | (refine Mx.skips (by kernel_rfl) ?_; go_big_quiet_skip) | (refine Mx.quietly rfl ?_; go_big_quiet_want; go_big_quiet_op; go_big_quiet_on)); refine Mx.done ?_)
            refine Mx.cell ⟨ob, 4, none⟩ (.int .i64 now) (by kernel_rfl) (by kernel_rfl) (by kernel_rfl) Try.isAgg3 (fun w' h => h.2.2.1) ?_
            go_big_quiet_want; go_big_quiet_op; go_big_quiet_on; refine Mx.done ?_
            repeat ((first | (refine Mx.skips (by kernel_rfl) ?_; go_big_quiet_skip) | (refine Mx.quietly rfl ?_; go_big_quiet_want; go_big_quiet_op; go_big_quiet_on)); refine Mx.done ?_)
            refine Mx.loudly (by kernel_rfl) (by kernel_rfl) ?_
            go_wp2_with fail
            refine HAk.out.mono ?_
            rintro e w3 ⟨z, L', a1, n1, c1, a2, n2, c2, told, lost, rfl, ⟨hn1, hr1'⟩, ⟨hn2, hr2'⟩, hk3, hL3, hB3, hwin, hcs⟩
            have hT3 : OT W g bb L' (12000 + ((i : Int) + 1) * 268435456) out oa oc w3 := HS2.out.step (fun k h => h.1) hk3 hL3 hB3 (by have := HS2.out.win; omega)
            have hO3 := HT2.out.kept hk3 (fun h => Nat.lt_irrefl _ h.2)
            have HN1 := Lib.hid hn1
            have HN2 := Lib.hid hn2
            clear hn1 hn2 hk3 hL3 hwin HAk HT2 HM1
            have d1 := hO3.cell 1 rfl
            have d2 := hO3.cell 2 rfl
            have d4 := hO3.cell 4 rfl
            have d6 := hO3.cell 6 rfl
            go_wp2_with fail
            repeat ((first | (refine Mx.skips (by kernel_rfl) ?_; go_big_quiet_skip) | (refine Mx.quietly rfl ?_; go_big_quiet_want; go_big_quiet_op; go_big_quiet_on)); refine Mx.done ?_)
            refine Mx.nil ?_
            have hTd : Told L' out space told lost ∧ (∀ x ∈ told, sl.any (inN x) = true) ∧ (∀ x ∈ lost, sl.any (inN x) = false) := by
              rcases hcs with ⟨_, rfl, rfl, rfl⟩ | ⟨_, _, f2, hk⟩
              · exact ⟨Told.none HA.out, by simp, by simp⟩
              · rw [hk.hT, hk.hO]
                exact ⟨Told.of HA.out hk.mv, told_in, lost_out⟩
            obtain ⟨hTd, hIn, hOut⟩ := hTd
            have HTd := Lib.hid hTd
            have HIn := Lib.hid hIn
            have HOut := Lib.hid hOut
            have HT3 := Lib.hid hT3
            have HO3 := Lib.hid hO3
            have HR1 := Lib.hid hr1'
            have HR2 := Lib.hid hr2'
            have z1 : bb < w2.heap.size := HS2.out.bk.has.lt
            clear hcs hTd hIn hOut hT3 hO3 hr1' hr2' d1 d2 d4 d6 HS2
            go_wp2_with fail
            go_loopw [106] (fun v wr2 => ∃ k : Nat, v = .int .i64 (k : Int) ∧ k ≤ n1 ∧ Below w3.heap.size w3 wr2) (fun v _ => n1 - (intOf v).toNat)
            case atStart => exact ⟨0, rfl, Nat.zero_le _, Below.refl _ _⟩
            case round =>
              obtain ⟨k, rfl, hk, hB⟩ := hrel
              have hOw := HO3.out.kept (Kept.of_below (X := none') hB) (fun h => h)
              have d6 := hOw.cell 6 rfl
              have d1 := hOw.cell 1 rfl
              have HOw := Lib.hid hOw
              clear hOw
              by_cases hkg : k < n1
              · have hkg' : (k : Int) < (n1 : Int) := by omega
                have hkz : k < told.length := by rw [← HN1.out]; exact hkg
                obtain ⟨sb, rfl, hcell, _, s1, s2⟩ := own_cell (own_below HR1.out hB) hkg
                have g3 : IntKind.i64.wrap ((k : Int) + 1) = (k : Int) + 1 := by rw [IntKind.wrap_i64]; unfold maxLen at s2; omega
                have s1' : (n1 : Int) ≤ (c1 : Int) := by omega
                rw [nums_get4 told k hkz] at hcell
                have hyes := HIn.out _ (List.getElem_mem hkz)
                generalize hzk : told[k] = x at hcell hyes
                have HI : Hid (Calls Try.prog 17 #[.slice sa sn sc, .int .i64 x] wr (BoolOf wr true)) := Lib.hid (by
                  have := inref_any wr ((HSl.out.below' HT3.out.new).below' (hB.mono (Nat.le_refl _))) hsn x
                  rwa [hyes] at this)
                clear hzk s2 hyes d1
                go_wp2_with fail
                refine HI.out.mono ?_
                rintro e w5 ⟨rfl, hb5⟩
                go_wp2
                go_roundw
                case rel => exact ⟨k + 1, by push_cast; rfl, by omega, hB.trans (hb5.mono hB.size)⟩
                case measure => simp [intOf]; omega
              · have hkg' : ¬ (k : Int) < (n1 : Int) := by omega
                obtain ⟨w4, hw4⟩ : ∃ w4, w4 = wr := ⟨_, rfl⟩
                rw [← hw4] at hB d1 d6 HOw
                clear d1 d6 HOw
                go_wp2_with fail
                rw [← hw4]
                clear hw4
                go_loopw [118] (fun v wr2 => ∃ k : Nat, v = .int .i64 (k : Int) ∧ k ≤ n2 ∧ Below w3.heap.size w3 wr2) (fun v _ => n2 - (intOf v).toNat)
                case atStart => exact ⟨0, rfl, Nat.zero_le _, hB⟩
                case round =>
                  clear hB hk hkg hkg'
                  obtain ⟨k, rfl, hk, hB⟩ := hrel
                  have hOw := HO3.out.kept (Kept.of_below (X := none') hB) (fun h => h)
                  have d6 := hOw.cell 6 rfl
                  have d1 := hOw.cell 1 rfl
                  have HOw := Lib.hid hOw
                  clear hOw
                  by_cases hkg : k < n2
                  · have hkg' : (k : Int) < (n2 : Int) := by omega
                    have hkz : k < lost.length := by rw [← HN2.out]; exact hkg
                    obtain ⟨sb, rfl, hcell, _, s1, s2⟩ := own_cell (own_below HR2.out hB) hkg
                    have g3 : IntKind.i64.wrap ((k : Int) + 1) = (k : Int) + 1 := by rw [IntKind.wrap_i64]; unfold maxLen at s2; omega
                    have s1' : (n2 : Int) ≤ (c2 : Int) := by omega
                    rw [nums_get4 lost k hkz] at hcell
                    have hyes := HOut.out _ (List.getElem_mem hkz)
                    generalize hzk : lost[k] = x at hcell hyes
                    have HI : Hid (Calls Try.prog 17 #[.slice sa sn sc, .int .i64 x] wr (BoolOf wr false)) := Lib.hid (by
                      have := inref_any wr ((HSl.out.below' HT3.out.new).below' (hB.mono (Nat.le_refl _))) hsn x
                      rwa [hyes] at this)
                    clear hzk s2 hyes d1
                    go_wp2_with fail
                    refine HI.out.mono ?_
                    rintro e w5 ⟨rfl, hb5⟩
                    go_wp2
                    go_roundw
                    case rel => exact ⟨k + 1, by push_cast; rfl, by omega, hB.trans (hb5.mono hB.size)⟩
                    case measure => simp [intOf]; omega
                  · have hkg' : ¬ (k : Int) < (n2 : Int) := by omega
                    have hTw := HT3.out.below hB
                    have HTk1 := Lib.hid (take_told wr hTw HA.out.uniq (bk_sizes HA.out HS1.out.ok) (bk_len HA.out HS1.out.ok) space HTd.out.n1 HTd.out.m1 (own_below HR1.out hB) z1)
                    have HTw := Lib.hid hTw
                    have HRw := Lib.hid (own_below HR2.out hB)
                    clear d6 hTw hB
                    go_wp2_with fail
                    refine HTk1.out.mono ?_
                    rintro e w5 htk
                    obtain ⟨oa5, oc5, hT5⟩ := HTw.out.take htk
                    obtain ⟨he, hk5, _⟩ := htk
                    subst he
                    have d1 := (HOw.out.kept hk5 (fun e => by have := hobW.out; omega)).cell 1 rfl
                    have hr5 := own_kept' HRw.out hk5 (fun ad ha e => by have := ownblk HRw.out ha; omega)
                    have HTk2 := Lib.hid (take_told w5 hT5 (HA.out.uniq.filter _) (fun o ho => bk_sizes HA.out HS1.out.ok o (List.mem_filter.1 ho).1) (Nat.le_trans (List.length_filter_le _ _) (bk_len HA.out HS1.out.ok)) space HTd.out.n2 HTd.out.m2 hr5 z1)
                    have HT5 := Lib.hid hT5
                    clear hk5 hr5 hT5
                    go_wp2_with fail
                    refine HTk2.out.mono ?_
                    rintro e w6 htk
                    obtain ⟨oa6, oc6, hT6⟩ := HT5.out.take htk
                    obtain ⟨he, _, _⟩ := htk
                    subst he
                    have G3 : Hid (Done W g bb i w6) := Lib.hid ⟨L', _, oa6, oc6, hT6, HTd.out.bk⟩
                    clear hT6
                    go_wp2_with fail
                    go_meet
                    case rel => exact G3.out
          · have j2 : (kind == 2) = false := by rw [beq_eq_false_iff_ne]; exact k2
            by_cases k3 : kind = 3
            · subst k3
              clear k1 k2
              have HF := Lib.hid (fire_all w1' HL1.out HS1.out.ok now)
              go_wp2_with fail
              refine HF.out.mono ?_
              rintro e w3 ⟨s, p, z, L', ga, gn, gc, zs, rfl, ⟨hgn, hrow⟩, hk3, hL3, hB3, hwin, hcs⟩
              have hT3 : OT W g bb L' (12000 + ((i : Int) + 1) * 268435456) out oa oc w3 := HS1.out.step (fun k h => h.1) hk3 hL3 hB3 (by have := HM1.out.win; omega)
              have hTd : Told L' out s zs [] := by
                rcases hcs with ⟨rfl, hs⟩ | ⟨_, _, f2, hM, rfl⟩
                · exact Told.none (HA.out.eq (fun k _ _ => by show (L'.sp k).out = _; rw [hs k]; rfl))
                · have ht := Told.of HA.out hM
                  have e1 : (L.sp s).out.filter no = [] := by simp [no]
                  rw [e1, List.map_nil] at ht
                  have e2 : ((L.sp s).out.filter fun p => !no p) = (L.sp s).out := filter_no _
                  rw [e2] at ht
                  refine ⟨ht.n2, List.nodup_nil, by have := ht.m2; rwa [left_nil] at this, by simp, ?_⟩
                  rw [left_nil]
                  have := ht.bk
                  rwa [left_nil] at this
              have hpz : p = false ∨ gn = 0 := by
                rcases hcs with ⟨h, _⟩ | ⟨h, _⟩
                · exact .inr (by rw [hgn, h]; rfl)
                · exact .inl h
              have HTk := Lib.hid (take_told w3 hT3 HA.out.uniq (bk_sizes HA.out HS1.out.ok) (bk_len HA.out HS1.out.ok) s hTd.n1 hTd.m1 hrow (by have := HS1.out.bk.has.lt; exact this))
              have HT3 := Lib.hid hT3
              have HTd := Lib.hid hTd
              have hgp : 0 < (gn : Int) ∨ gn = 0 := by omega
              clear hk3 hL3 hB3 hwin hcs HF hrow hgn hT3 hTd
              rcases hpz with rfl | rfl
              · go_wp2_with fail
                refine HTk.out.mono ?_
                rintro e w4 htk
                obtain ⟨oa', oc', hT4⟩ := HT3.out.take htk
                obtain rfl := htk.1
                have G3 : Hid (Done W g bb i w4) := Lib.hid ⟨L', _, oa', oc', hT4, by have := HTd.out.bk; rwa [left_nil] at this⟩
                clear htk hT4
                go_wp2_with fail
                go_meet
                case rel => exact G3.out
              · cases p
                all_goals
                  go_wp2_with fail
                  refine HTk.out.mono ?_
                  rintro e w4 htk
                  obtain ⟨oa', oc', hT4⟩ := HT3.out.take htk
                  obtain rfl := htk.1
                  have G3 : Hid (Done W g bb i w4) := Lib.hid ⟨L', _, oa', oc', hT4, by have := HTd.out.bk; rwa [left_nil] at this⟩
                  clear htk hT4
                  go_wp2_with fail
                  go_meet
                  case rel => exact G3.out
            · have j3 : (kind == 3) = false := by rw [beq_eq_false_iff_ne]; exact k3
              by_cases k4 : kind = 4
              · subst k4
                clear k1 k2 k3
                have HD := Lib.hid (drop_all w1' HL1.out HS1.out.ok space)
                go_wp2_with fail
                refine HD.out.mono ?_
                rintro e w3 ⟨z, L', ga, gn, gc, zs, rfl, ⟨hgn, hrow⟩, hk3, hL3, hB3, hwin, hcs⟩
                have hT3 : OT W g bb L' (12000 + ((i : Int) + 1) * 268435456) out oa oc w3 := HS1.out.step (fun k h => h.1) hk3 hL3 hB3 (by have := HM1.out.win; omega)
                have hO3 := HT.out.kept hk3 (fun h => Nat.lt_irrefl _ h.2)
                have hTd : zs.Nodup ∧ (∀ z ∈ zs, ∃ o ∈ out, isO space z o = true) ∧ Bk L'.O (left space zs out) ∧ ∀ x ∈ left space zs out, x.sp ≠ space := by
                  rcases hcs with ⟨hno, rfl, rfl⟩ | ⟨hM, rfl⟩
                  · rw [left_nil]
                    exact ⟨List.nodup_nil, by simp, HA.out, fun x hx e => hno (by rw [← e]; exact HA.out.sp x hx)⟩
                  · have ht := Told.of HA.out hM
                    have e1 : ((L.sp space).out.filter fun _ => true) = (L.sp space).out := by simp
                    have e2 : ((((L.sp space).out.filter fun p => !(fun _ => true) p).filter no).map (·.num)) = [] := by simp [no]
                    rw [e1, e2] at ht
                    have hb := ht.bk
                    rw [left_nil] at hb
                    refine ⟨ht.n1, ht.m1, hb, fun x hx e => ?_⟩
                    have hs := hb.same space hM.hk.1 hM.hk.2
                    have e3 : L'.O space = [] := by
                      show (L'.sp space).out = []
                      rw [hM.out]; simp
                    rw [e3, List.map_nil, List.filter_eq_nil_iff] at hs
                    exact hs x hx (by simp [e])
                obtain ⟨hn1, hm1, hbk, hnone⟩ := hTd
                have HTk := Lib.hid (take_told w3 hT3 HA.out.uniq (bk_sizes HA.out HS1.out.ok) (bk_len HA.out HS1.out.ok) space hn1 hm1 hrow (by have := HS1.out.bk.has.lt; exact this))
                have HT3 := Lib.hid hT3
                have HO3 := Lib.hid hO3
                have d1 := hO3.cell 1 rfl
                obtain ⟨T, hTe⟩ : ∃ T, T = left space zs out := ⟨_, rfl⟩
                rw [← hTe] at HTk hbk hnone
                have hTl : T.length ≤ 12288 := by
                  rw [hTe]; exact Nat.le_trans (List.length_filter_le _ _) (bk_len HA.out HS1.out.ok)
                have HBk := Lib.hid hbk
                have HNone := Lib.hid hnone
                clear hk3 hL3 hB3 hwin hcs HD hrow hgn hT3 hO3 hn1 hm1 hbk hnone hTe t1 t2 t3 t4 t5 t6
                go_wp2_with fail
                refine HTk.out.mono ?_
                rintro e w4 htk
                obtain ⟨oa4, oc4, hT4⟩ := HT3.out.take htk
                obtain ⟨he, hk4, _⟩ := htk
                subst he
                have hO4 := HO3.out.kept hk4 (fun e => by have := hobW.out; omega)
                have f0 := hT4.bk.has.cell 0 rfl
                have HT4 := Lib.hid hT4
                have HO4 := Lib.hid hO4
                clear hk4 hT4 hO4 d1
                go_wp2_with fail
                go_loopw [185] (fun v wr2 => ∃ k : Nat, v = .int .i64 (k : Int) ∧ k ≤ T.length ∧ Below w4.heap.size w4 wr2) (fun v _ => T.length - (intOf v).toNat)
                case atStart => exact ⟨0, rfl, Nat.zero_le _, Below.refl _ _⟩
                case round =>
                  clear f0
                  obtain ⟨k, rfl, hk, hB⟩ := hrel
                  have hT5 := HT4.out.below hB
                  by_cases hkT : k < T.length
                  · have hkT' : (k : Int) < (T.length : Int) := by omega
                    have g3 : IntKind.i64.wrap ((k : Int) + 1) = (k : Int) + 1 := by rw [IntKind.wrap_i64]; omega
                    obtain ⟨rb, rfl, e0, e1, e2, s1, s2⟩ := own_on hT5.bk.row rfl hkT
                    have s1' : (T.length : Int) ≤ (oc4 : Int) := by omega
                    have hne := HNone.out _ (List.getElem_mem hkT)
                    generalize hx : T[k] = x at e0 e1 e2 hne
                    have hneb : (x.sp == space) = false := by rw [beq_eq_false_iff_ne]; exact hne
                    have hO5 := HO4.out.kept (Kept.of_below (X := none') hB) (fun h => h)
                    have d1 := hO5.cell 1 rfl
                    have hlt := hO5.lt
                    obtain ⟨w7, hw7⟩ : ∃ w7, w7 = wr.alloc (.cells #[.int .i64 x.sp, .int .i64 x.num, .int .i64 x.size] 54) := ⟨_, rfl⟩
                    have hal7 : Below wr.heap.size wr w7 := by rw [hw7]; exact (Below.refl _ _).alloc (Nat.le_refl _) _
                    have hx7 : Has w7 wr.heap.size 54 [.int .i64 x.sp, .int .i64 x.num, .int .i64 x.size] := by rw [hw7]; exact Has.new _ _ _
                    have y0 := hx7.cell 0 rfl
                    have y1 := (hO5.kept (Kept.of_below (X := none') hal7) (fun h => h)).cell 1 rfl
                    rw [hw7] at y0 y1
                    have HB7 : Hid (Below w4.heap.size w4 (wr.alloc (.cells #[.int .i64 x.sp, .int .i64 x.num, .int .i64 x.size] 54))) := Lib.hid (by rw [← hw7]; exact hB.trans (hal7.mono hB.size))
                    clear hx s2 hne hO5 hx7 hT5 hw7 hal7
                    go_wp2
                    go_roundw
                    case rel => exact ⟨k + 1, by push_cast; rfl, by omega, HB7.out⟩
                    case measure => simp [intOf]; omega
                  · have hkT' : ¬ (k : Int) < (T.length : Int) := by omega
                    have G3 : Hid (Done W g bb i wr) := Lib.hid ⟨L', _, oa4, oc4, hT5, HBk.out⟩
                    clear hT5
                    go_wp2_with fail
                    go_meet
                    case rel => exact G3.out
              · have j4 : (kind == 4) = false := by rw [beq_eq_false_iff_ne]; exact k4
                clear k1 k2 k3 k4
                have G3 : Hid (Done W g bb i w1') := Lib.hid ⟨L, out, oa, oc, HM1.out, HA.out⟩
                go_wp2_with fail
                go_meet
                case rel => exact G3.out
      case rest =>
        clear HT HS1 HM1 HA HSl HL1
        obtain ⟨L', out', oa', oc', hT, hbk⟩ := hcut
        have hTd := hT.below (below_drewN (Below.refl _ wc) 1)
        have f1 := hTd.bk.has.cell 1 rfl
        have HU : Hid (Calls Try.prog 11 #[.pointer (some ⟨g, 0, none⟩)] wc.drew (IntOf wc.drew (osum out'))) := Lib.hid (by
          have := under_any wc.drew hTd.lies (sizes_of' hT.ok.b0) (sizes_of' hT.ok.b1) (sizes_of' hT.ok.b2)
          rwa [bk_under hbk] at this)
        have HTd := Lib.hid hTd
        have HBk := Lib.hid hbk
        clear hTd hT hbk
        go_wp2_with fail
        refine Mx.region [] (fun w' => w'.cell? ⟨bb, 1, none⟩ = some (.int .i64 (osum out'))) (by kernel_rfl) (by kernel_rfl) f1 ?_
        repeat ((first | (refine Mx.skips (by kernel_rfl) ?_; go_big_quiet_skip) | (refine Mx.quietly rfl ?_; go_big_quiet_want; go_big_quiet_op; go_big_quiet_on)); refine Mx.done ?_)
        refine Mx.loudly (by kernel_rfl) (by kernel_rfl) ?_
        go_wp2_with fail
        refine HU.out.mono ?_
        rintro e w5 ⟨rfl, hb5⟩
        have hT5 := HTd.out.below hb5
        have f1 := hT5.bk.has.cell 1 rfl
        have HT5 := Lib.hid hT5
        clear hT5
        go_wp2_with fail
        repeat ((first | (refine Mx.skips (by kernel_rfl) ?_; go_big_quiet_skip) | (refine Mx.quietly rfl ?_; go_big_quiet_want; go_big_quiet_op; go_big_quiet_on)); refine Mx.done ?_)
        refine Mx.cell ⟨bb, 1, none⟩ (.int .i64 (osum out')) (by kernel_rfl) (by kernel_rfl) (by kernel_rfl) Try.isAgg3 (fun w' h => h) ?_
        go_big_quiet_want; go_big_quiet_op; go_big_quiet_on; refine Mx.done ?_
        repeat ((first | (refine Mx.skips (by kernel_rfl) ?_; go_big_quiet_skip) | (refine Mx.quietly rfl ?_; go_big_quiet_want; go_big_quiet_op; go_big_quiet_on)); refine Mx.done ?_)
        refine Mx.nil ?_
        go_wp2_with fail
        go_roundw
        case rel => exact ⟨i + 1, L', out', oa', oc', by push_cast; rfl, by omega, by push_cast; exact HT5.out, HBk.out⟩
        case measure => simp [intOf]; omega
    · obtain rfl : i = n := by omega
      clear hin
      have HS := Lib.hid hS
      clear hS
      go_wp2_with fail
      refine (HAw.out wr).mono ?_
      rintro e w3 ⟨rfl, hb3⟩
      go_wp2
      go_ret
      exact ⟨rfl, HS.out.new.trans (hb3.mono HS.out.new.size)⟩
end Go.Proofs.Ytkpeegcpicckjaa

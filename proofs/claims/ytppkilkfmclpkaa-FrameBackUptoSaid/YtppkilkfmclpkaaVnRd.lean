/- Contracts of varint's reader: Open, Number, Left, Fault. No condition but the sizes. -/
import Derived.Test.YtppkilkfmclpkaaClone
namespace Go.Proofs.Ytppkilkfmclpkaa
open Go.RowKit

/-- a varint reader -/
structure Vr where
  l : List UInt8
  at_ : Nat
  fault : Int
def vcells (V : Vr) (a : Option Addr) (c : Nat) : List Value := [.slice a V.l.length c, .int .i64 (V.at_ : Int), .int .i64 V.fault]
structure VB (w : World) (g : Nat) (V : Vr) (a : Option Addr) (c : Nat) : Prop where
  has : Has w g 86 (vcells V a c)
  row : Sl w a V.l.length c (bv V.l)
  ne : ∀ ad, a = some ad → ad.block ≠ g
  le : V.at_ ≤ V.l.length
theorem VB.kept {X : Nat → Prop} {w w' : World} {g : Nat} {V : Vr} {a : Option Addr} {c : Nat} (h : VB w g V a c) (hk : Kept X w w') (hg : ¬ X g) (hx : ∀ ad, a = some ad → ¬ X ad.block) : VB w' g V a c := ⟨h.has.kept hk hg, h.row.kept hk hx, h.ne, h.le⟩
theorem VB.below {w w' : World} {g : Nat} {V : Vr} {a : Option Addr} {c : Nat} (h : VB w g V a c) (hb : Below w.heap.size w w') : VB w' g V a c := h.kept (X := none') (Kept.of_below hb) (fun h => h) (fun _ _ h => h)
theorem VB.big {w : World} {g : Nat} {V : Vr} {a : Option Addr} {c : Nat} (h : VB w g V a c) : V.l.length < 9223372036854775808 := by
  have h1 := h.row.cap_le
  have h2 := h.row.cap_max
  unfold maxLen at h2
  omega
def OpenR (w : World) (l : List UInt8) (e : Ending) (w' : World) : Prop :=
  ∃ g a c, e = .returned (.pointer (some ⟨g, 0, none⟩)) ∧ VB w' g ⟨l, 0, 0⟩ a c ∧ w.heap.size ≤ g ∧ (∀ ad, a = some ad → w.heap.size ≤ ad.block ∧ ad.block < g) ∧ Below w.heap.size w w'
set_option maxRecDepth 100000 in
theorem open_any (w : World) {a : Option Addr} {n c : Nat} {l : List UInt8} (h : Sl w a n c (bv l)) (hn : n ≤ 140737488351232) :
    Calls Try.prog 39 #[.slice a n c] w (OpenR w l) := by
  have hl := h.byte
  have HC := Lib.hid (clone_any w h hn)
  clear h
  go_enter Try.func39, Try.ntmps39
  go_wp2_with fail
  refine HC.out.mono ?_
  rintro e w2 ⟨a', c', rfl, ho, hb2⟩
  have hs := own_sl ho
  have hlo : ∀ ad, a' = some ad → w.heap.size ≤ ad.block ∧ ad.block < w2.heap.size := fun ad ha => ho.lt ad.block (by rw [ha]; rfl)
  have HO : Hid (OpenR w l (.returned (.pointer (some ⟨w2.heap.size, 0, none⟩))) (w2.alloc (.cells #[.slice a' n c', .int .i64 0, .int .i64 0] 86))) := Lib.hid (by
    have hal : Below w2.heap.size w2 (w2.alloc (.cells #[.slice a' n c', .int .i64 0, .int .i64 0] 86)) := (Below.refl _ _).alloc (Nat.le_refl _) _
    refine ⟨_, a', c', rfl, ⟨?_, ?_, fun ad ha => by have := (hlo ad ha).2; omega, Nat.zero_le _⟩, hb2.size, hlo, hb2.trans (hal.mono hb2.size)⟩
    · simp only [vcells]; rw [hl]; exact Has.new _ _ _
    · show Sl _ a' l.length c' (bv l)
      rw [hl]; exact hs.below hal)
  clear hs ho hlo hb2
  go_wp2
  go_ret
  exact HO.out

def leftV (V : Vr) : Nat := if V.fault = 0 then V.l.length - V.at_ else 0
set_option maxRecDepth 100000 in
set_option maxHeartbeats 1000000 in
theorem left_any (w : World) {g : Nat} {V : Vr} {a : Option Addr} {c : Nat} (hV : VB w g V a c) :
    Calls Try.prog 40 #[.pointer (some ⟨g, 0, none⟩)] w (IntOf w (leftV V : Int)) := by
  obtain ⟨n, hn⟩ : ∃ n, n = V.l.length := ⟨_, rfl⟩
  obtain ⟨t, ht⟩ : ∃ t, t = V.at_ := ⟨_, rfl⟩
  obtain ⟨f, hf⟩ : ∃ f, f = V.fault := ⟨_, rfl⟩
  have hH := hV.has
  have hle := hV.le
  have hbig := hV.big
  have ev : vcells V a c = [.slice a n c, .int .i64 (t : Int), .int .i64 f] := by unfold vcells; rw [hn, ht, hf]
  rw [ev] at hH
  have el : leftV V = if f = 0 then n - t else 0 := by unfold leftV; rw [hn, ht, hf]
  rw [el]
  rw [← hn] at hle hbig
  rw [← ht] at hle
  clear ev el hn ht hf hV
  by_cases h0 : f = 0
  · subst h0
    rw [if_pos rfl]
    have e2 : ((n - t : Nat) : Int) = (n : Int) - (t : Int) := by omega
    rw [e2]
    have c2 := hH.cell 2 rfl
    have hb3 := below_drewN (Below.refl w.heap.size w) 1
    have hH3 : Has w.drew g 86 [.slice a n c, .int .i64 (t : Int), .int .i64 0] := hH.kept (Kept.of_below (X := none') hb3) (fun h => h)
    have d0 := hH3.cell 0 rfl
    have d1 := hH3.cell 1 rfl
    have g1 : RowKit.wrap64 ((n : Int) - (t : Int)) = (n : Int) - (t : Int) := by unfold RowKit.wrap64; omega
    have HB3 := Lib.hid hb3
    clear hH hH3 hb3 e2 hle hbig
    go_enter Try.func40, Try.ntmps40
    go_wp2_with fail
    refine Mx.region [] (fun w' => w'.cell? ⟨g, 0, none⟩ = some (.slice a n c) ∧ w'.cell? ⟨g, 1, none⟩ = some (.int .i64 (t : Int))) (by kernel_rfl) (by kernel_rfl) ⟨d0, d1⟩ ?_
    repeat ((first | (refine Mx.skips (by kernel_rfl) ?_; go_big_quiet_skip) | (refine Mx.quietly rfl ?_; go_big_quiet_want; go_big_quiet_op; go_big_quiet_on)); refine Mx.done ?_)
    refine Mx.cell ⟨g, 0, none⟩ (.slice a n c) (by kernel_rfl) (by kernel_rfl) (by kernel_rfl) Try.isAgg22 (fun w' h => h.1) ?_
    go_big_quiet_want; go_big_quiet_op; go_big_quiet_on; refine Mx.done ?_
    repeat ((first | (refine Mx.skips (by kernel_rfl) ?_; go_big_quiet_skip) | (refine Mx.quietly rfl ?_; go_big_quiet_want; go_big_quiet_op; go_big_quiet_on)); refine Mx.done ?_)
    refine Mx.cell ⟨g, 1, none⟩ (.int .i64 (t : Int)) (by kernel_rfl) (by kernel_rfl) (by kernel_rfl) Try.isAgg3 (fun w' h => h.2) ?_
    go_big_quiet_want; go_big_quiet_op; go_big_quiet_on; refine Mx.done ?_
    repeat ((first | (refine Mx.skips (by kernel_rfl) ?_; go_big_quiet_skip) | (refine Mx.quietly rfl ?_; go_big_quiet_want; go_big_quiet_op; go_big_quiet_on)); refine Mx.done ?_)
    refine Mx.nil ?_
    go_wp2
    go_ret
    exact ⟨congrArg (fun z => Ending.returned (.int .i64 z)) g1, HB3.out⟩
  · rw [if_neg h0]
    have g0 : (f == 0) = false := by simpa using h0
    have c2 := hH.cell 2 rfl
    clear hH h0
    go_enter Try.func40, Try.ntmps40
    go_wp2
    go_ret
    exact ⟨rfl, Below.refl _ _⟩

set_option maxRecDepth 100000 in
theorem fault_any (w : World) {g : Nat} {V : Vr} {a : Option Addr} {c : Nat} (hV : VB w g V a c) :
    Calls Try.prog 74 #[.pointer (some ⟨g, 0, none⟩)] w (IntOf w V.fault) := by
  have c2 := hV.has.cell 2 rfl
  clear hV
  go_enter Try.func74, Try.ntmps74
  go_wp2
  go_ret
  exact ⟨rfl, Below.refl _ _⟩

/-- the next number -/
def numV (V : Vr) : Nat × Vr :=
  if V.fault = 0 then (if (getV V.l V.at_).2.2 = 0 then ((getV V.l V.at_).1, { V with at_ := (getV V.l V.at_).2.1 }) else (0, { V with fault := (getV V.l V.at_).2.2 })) else (0, V)
def NumR (w : World) (g : Nat) (a : Option Addr) (c : Nat) (r : Nat × Vr) (e : Ending) (w' : World) : Prop :=
  e = .returned (.int .i64 (r.1 : Int)) ∧ Kept (fun k => k = g) w w' ∧ VB w' g r.2 a c
theorem getV_le (l : List UInt8) (t : Nat) (h : (getV l t).2.2 = 0) (ht : t ≤ l.length) : (getV l t).2.1 ≤ l.length := by
  unfold getV at h ⊢
  by_cases h1 : l.length < t
  · omega
  · rw [if_neg h1] at h ⊢
    have hd : (l.drop t).length = l.length - t := List.length_drop
    cases hdd : l.drop t with
    | nil => rw [hdd] at h; simp at h
    | cons x r =>
      rw [hdd] at h hd
      simp only [List.length_cons] at hd
      simp only at h ⊢
      by_cases h2 : r.length + 1 < szB x
      · rw [if_pos h2] at h; simp at h
      · rw [if_neg h2]
        show t + szB x ≤ l.length
        omega
set_option maxRecDepth 100000 in
set_option maxHeartbeats 1000000 in
theorem number_any (w : World) {g : Nat} {V : Vr} {a : Option Addr} {c : Nat} (hV : VB w g V a c) :
    Calls Try.prog 61 #[.pointer (some ⟨g, 0, none⟩)] w (NumR w g a c (numV V)) := by
  obtain ⟨f, hf⟩ : ∃ f, f = V.fault := ⟨_, rfl⟩
  have c2 := hV.has.cell 2 rfl
  rw [← hf] at c2
  by_cases h0 : f = 0
  · subst h0
    obtain ⟨gv, hgv⟩ : ∃ gv, gv = getV V.l V.at_ := ⟨_, rfl⟩
    have en : numV V = if gv.2.2 = 0 then (gv.1, { V with at_ := gv.2.1 }) else (0, { V with fault := gv.2.2 }) := by unfold numV; rw [if_pos hf.symm, ← hgv]
    rw [en]
    have hgle : gv.2.2 = 0 → gv.2.1 ≤ V.l.length := fun h => by rw [hgv] at h ⊢; exact getV_le _ _ h hV.le
    have hb3 := below_drewN (Below.refl w.heap.size w) 1
    have HG : Hid (Calls Try.prog 73 #[.slice a V.l.length c, .int .i64 (V.at_ : Int)] w.drew (Ret3N w.drew gv)) := Lib.hid (by
      rw [hgv]
      exact get_any w.drew (hV.row.below hb3) V.at_ (by have := hV.big; have := hV.le; omega))
    have HV3 := Lib.hid (hV.below hb3)
    have HB3 := Lib.hid hb3
    have HGle := Lib.hid hgle
    have HV := Lib.hid hV
    have HF := Lib.hid hf
    clear hV hb3 hgle en hgv hf
    obtain ⟨n, hn⟩ : ∃ n, n = V.l.length := ⟨_, rfl⟩
    obtain ⟨t, ht⟩ : ∃ t, t = V.at_ := ⟨_, rfl⟩
    rw [← hn, ← ht] at HG
    have d0 : w.drew.cell? ⟨g, 0, none⟩ = some (.slice a n c) := by rw [hn]; exact HV3.out.has.cell 0 rfl
    have d1 : w.drew.cell? ⟨g, 1, none⟩ = some (.int .i64 (t : Int)) := by rw [ht]; exact HV3.out.has.cell 1 rfl
    have HN := Lib.hid hn
    have HT := Lib.hid ht
    clear hn ht
    obtain ⟨x, y, z⟩ := gv
    by_cases hz : z = 0
    · subst hz
      rw [if_pos rfl]
      go_enter Try.func61, Try.ntmps61
      go_wp2_with fail
      refine Mx.region [] (fun w' => w'.cell? ⟨g, 0, none⟩ = some (.slice a n c) ∧ w'.cell? ⟨g, 1, none⟩ = some (.int .i64 (t : Int))) (by kernel_rfl) (by kernel_rfl) ⟨d0, d1⟩ ?_
      repeat ((first | (refine Mx.skips (by kernel_rfl) ?_; go_big_quiet_skip) | (refine Mx.quietly rfl ?_; go_big_quiet_want; go_big_quiet_op; go_big_quiet_on)); refine Mx.done ?_)
      refine Mx.cell ⟨g, 0, none⟩ (.slice a n c) (by kernel_rfl) (by kernel_rfl) (by kernel_rfl) Try.isAgg22 (fun w' h => h.1) ?_
      go_big_quiet_want; go_big_quiet_op; go_big_quiet_on; refine Mx.done ?_
      repeat ((first | (refine Mx.skips (by kernel_rfl) ?_; go_big_quiet_skip) | (refine Mx.quietly rfl ?_; go_big_quiet_want; go_big_quiet_op; go_big_quiet_on)); refine Mx.done ?_)
      refine Mx.cell ⟨g, 1, none⟩ (.int .i64 (t : Int)) (by kernel_rfl) (by kernel_rfl) (by kernel_rfl) Try.isAgg3 (fun w' h => h.2) ?_
      go_big_quiet_want; go_big_quiet_op; go_big_quiet_on; refine Mx.done ?_
      repeat ((first | (refine Mx.skips (by kernel_rfl) ?_; go_big_quiet_skip) | (refine Mx.quietly rfl ?_; go_big_quiet_want; go_big_quiet_op; go_big_quiet_on)); refine Mx.done ?_)
      refine Mx.loudly (by kernel_rfl) (by kernel_rfl) ?_
      go_wp2_with fail
      refine HG.out.mono ?_
      rintro e w2 ⟨rfl, hb2⟩
      have hV2 := HV3.out.below hb2
      have s0 : w2.cell? ⟨g, 0, none⟩ = some (.slice a n c) := by rw [HN.out]; exact hV2.has.cell 0 rfl
      have s1 : w2.cell? ⟨g, 1, none⟩ = some (.int .i64 (t : Int)) := by rw [HT.out]; exact hV2.has.cell 1 rfl
      have HK2 := Lib.hid (Kept.of_below (X := fun k => k = g) (HB3.out.trans (hb2.mono HB3.out.size)))
      have HV2 := Lib.hid hV2
      clear hb2 hV2
      go_wp2_with fail
      repeat ((first | (refine Mx.skips (by kernel_rfl) ?_; go_big_quiet_skip) | (refine Mx.quietly rfl ?_; go_big_quiet_want; go_big_quiet_op; go_big_quiet_on)); refine Mx.done ?_)
      refine Mx.nil ?_
      have b1 := HV2.out.has.free 1
      have HN2 := Lib.hid (HV2.out.has.set 1 (.int .i64 (y : Int)))
      go_wp2
      go_ret
      refine ⟨rfl, HK2.out.trans (Kept.set w2 g 1 _) (fun _ _ h => h), HN2.out, HV2.out.row.kept (Kept.set w2 g 1 _) (fun ad ha => HV2.out.ne ad ha), HV2.out.ne, HGle.out trivial⟩
    · rw [if_neg hz]
      have gz : (z == 0) = false := by simpa using hz
      clear hz HGle
      go_enter Try.func61, Try.ntmps61
      go_wp2_with fail
      refine Mx.region [] (fun w' => w'.cell? ⟨g, 0, none⟩ = some (.slice a n c) ∧ w'.cell? ⟨g, 1, none⟩ = some (.int .i64 (t : Int))) (by kernel_rfl) (by kernel_rfl) ⟨d0, d1⟩ ?_
      repeat ((first | (refine Mx.skips (by kernel_rfl) ?_; go_big_quiet_skip) | (refine Mx.quietly rfl ?_; go_big_quiet_want; go_big_quiet_op; go_big_quiet_on)); refine Mx.done ?_)
      refine Mx.cell ⟨g, 0, none⟩ (.slice a n c) (by kernel_rfl) (by kernel_rfl) (by kernel_rfl) Try.isAgg22 (fun w' h => h.1) ?_
      go_big_quiet_want; go_big_quiet_op; go_big_quiet_on; refine Mx.done ?_
      repeat ((first | (refine Mx.skips (by kernel_rfl) ?_; go_big_quiet_skip) | (refine Mx.quietly rfl ?_; go_big_quiet_want; go_big_quiet_op; go_big_quiet_on)); refine Mx.done ?_)
      refine Mx.cell ⟨g, 1, none⟩ (.int .i64 (t : Int)) (by kernel_rfl) (by kernel_rfl) (by kernel_rfl) Try.isAgg3 (fun w' h => h.2) ?_
      go_big_quiet_want; go_big_quiet_op; go_big_quiet_on; refine Mx.done ?_
      repeat ((first | (refine Mx.skips (by kernel_rfl) ?_; go_big_quiet_skip) | (refine Mx.quietly rfl ?_; go_big_quiet_want; go_big_quiet_op; go_big_quiet_on)); refine Mx.done ?_)
      refine Mx.loudly (by kernel_rfl) (by kernel_rfl) ?_
      go_wp2_with fail
      refine HG.out.mono ?_
      rintro e w2 ⟨rfl, hb2⟩
      have hV2 := HV3.out.below hb2
      have s0 : w2.cell? ⟨g, 0, none⟩ = some (.slice a n c) := by rw [HN.out]; exact hV2.has.cell 0 rfl
      have s1 : w2.cell? ⟨g, 1, none⟩ = some (.int .i64 (t : Int)) := by rw [HT.out]; exact hV2.has.cell 1 rfl
      have HK2 := Lib.hid (Kept.of_below (X := fun k => k = g) (HB3.out.trans (hb2.mono HB3.out.size)))
      have HV2 := Lib.hid hV2
      clear hb2 hV2
      go_wp2_with fail
      repeat ((first | (refine Mx.skips (by kernel_rfl) ?_; go_big_quiet_skip) | (refine Mx.quietly rfl ?_; go_big_quiet_want; go_big_quiet_op; go_big_quiet_on)); refine Mx.done ?_)
      refine Mx.nil ?_
      have b2 := HV2.out.has.free 2
      have s2 : w2.cell? ⟨g, 2, none⟩ = some (.int .i64 0) := by rw [HF.out]; exact HV2.out.has.cell 2 rfl
      have HN2 := Lib.hid (HV2.out.has.set 2 (.int .i64 z))
      go_wp2
      go_ret
      refine ⟨rfl, HK2.out.trans (Kept.set w2 g 2 _) (fun _ _ h => h), HN2.out, HV2.out.row.kept (Kept.set w2 g 2 _) (fun ad ha => HV2.out.ne ad ha), HV2.out.ne, HV2.out.le⟩
  · have en : numV V = (0, V) := by unfold numV; rw [if_neg (by rw [← hf]; exact h0)]
    rw [en]
    have g0 : (f == 0) = false := by simpa using h0
    have HV := Lib.hid hV
    clear hV h0 hf en
    go_enter Try.func61, Try.ntmps61
    go_wp2
    go_ret
    exact ⟨rfl, Kept.refl _ _, HV.out⟩
theorem numV_le (V : Vr) : (numV V).2.l = V.l ∧ V.at_ ≤ (numV V).2.at_ ∧ ((numV V).2.fault = 0 → V.fault = 0 ∧ V.at_ < (numV V).2.at_) := by
  unfold numV
  by_cases h : V.fault = 0
  · rw [if_pos h]
    by_cases h2 : (getV V.l V.at_).2.2 = 0
    · rw [if_pos h2]
      have h3 : V.at_ < (getV V.l V.at_).2.1 := by
        unfold getV at h2 ⊢
        by_cases h1 : V.l.length < V.at_
        · rw [if_pos h1] at h2; simp at h2
        · rw [if_neg h1] at h2 ⊢
          cases hdd : V.l.drop V.at_ with
          | nil => rw [hdd] at h2; simp at h2
          | cons x r =>
            rw [hdd] at h2
            simp only at h2 ⊢
            by_cases h4 : r.length + 1 < szB x
            · rw [if_pos h4] at h2; simp at h2
            · rw [if_neg h4]
              show V.at_ < V.at_ + szB x
              have := szB_cs x
              omega
      exact ⟨rfl, Nat.le_of_lt h3, fun _ => ⟨h, h3⟩⟩
    · rw [if_neg h2]; exact ⟨rfl, Nat.le_refl _, fun e => absurd e h2⟩
  · rw [if_neg h]; exact ⟨rfl, Nat.le_refl _, fun e => absurd e h⟩
theorem leftV_ok {V : Vr} (h : V.fault = 0) : leftV V = V.l.length - V.at_ := by unfold leftV; rw [if_pos h]
theorem getV_lt (l : List UInt8) (t : Nat) : (getV l t).1 < 4611686018427387904 := by
  unfold getV
  by_cases h1 : l.length < t
  · rw [if_pos h1]; decide
  · rw [if_neg h1]
    cases l.drop t with
    | nil => show (0 : Nat) < _; decide
    | cons x r =>
      simp only
      by_cases h2 : r.length + 1 < szB x
      · rw [if_pos h2]; decide
      · rw [if_neg h2]
        show gvN _ _ < _
        have h3 := gvN_lt (r.take (szB x - 1)) (x.toNat % 64) (Nat.mod_lt _ (by decide))
        have h4 : (r.take (szB x - 1)).length ≤ 7 := by have := szB_cs x; rw [List.length_take]; omega
        have h5 : 256 ^ (r.take (szB x - 1)).length ≤ 256 ^ 7 := Nat.pow_le_pow_right (by decide) h4
        have h6 : (256 : Nat) ^ 7 = 72057594037927936 := by decide
        omega
theorem numV_lt (V : Vr) : (numV V).1 < 4611686018427387904 := by
  unfold numV
  split
  · split
    · exact getV_lt _ _
    · show (0 : Nat) < _; decide
  · show (0 : Nat) < _; decide
end Go.Proofs.Ytppkilkfmclpkaa

/- The document's number, reader, items and spans (Get, Reader, item, ackItems). No condition but the sizes. -/
import Derived.Test.YtppkilkfmclpkaaVnGet
import Derived.Test.YtppkilkfmclpkaaVnBytes
import Derived.Test.YtppkilkfmclpkaaCopy
import Derived.Test.YtppkilkfmclpkaaFrCopy
import Derived.Test.YtppkilkfmclpkaaFrRev
import Derived.Test.YtppkilkfmclpkaaFrSrcSp
namespace Go.Proofs.Ytppkilkfmclpkaa
open Go.RowKit

theorem rgj1 {t n : Nat} (h : ¬ n < t) : ¬ (n : Int) < (t : Int) := by omega
theorem rgj2 {t n : Nat} (h : n < t) : (n : Int) < (t : Int) := by omega
theorem rgj3 {t n : Nat} (h : ¬ n = t) : ((t : Int) == (n : Int)) = false := by simp; omega
theorem rgj4 {t n : Nat} (h : t ≤ n) (hn : n < 9223372036854775808) : IntKind.i64.wrap ((n : Int) - (t : Int)) = ((n - t : Nat) : Int) ∧ RowKit.wrap64 ((n : Int) - (t : Int)) = ((n - t : Nat) : Int) := by
  rw [IntKind.wrap_i64]; unfold RowKit.wrap64; omega
/-- the size's doubling -/
def RgRel (q : Nat) (sv kv : Value) (wr w : World) : Prop := ∃ k s : Nat, sv = .int .i64 (s : Int) ∧ kv = .int .u8 (k : Int) ∧ k ≤ q ∧ s = 2 ^ k ∧ wr = w
/-- the number, as far as it was read -/
def RgRel2 (f s : Nat) (r : List UInt8) (nv iv' : Value) (wr w : World) : Prop := ∃ i v : Nat, nv = .int .i64 (v : Int) ∧ iv' = .int .i64 ((i + 1 : Nat) : Int) ∧ i + 1 ≤ s ∧ v = gvN f (r.take i) ∧ wr = w
theorem rgj5 {xn : Nat} (h : xn < 256) : ∃ q : Nat, (xn : Int) / 64 % 256 = (q : Int) ∧ q ≤ 3 ∧ q = xn / 64 := ⟨xn / 64, by omega, by omega, rfl⟩
theorem rgj6 {xn : Nat} : ∃ f : Nat, (xn : Int) % 64 = (f : Int) ∧ f = xn % 64 ∧ f < 64 := ⟨xn % 64, by omega, rfl, by omega⟩
theorem rgj7 {k q s : Nat} (h : k < q) (hq : q ≤ 3) (hs : s = 2 ^ k) : (k : Int) < (q : Int) ∧ ∃ s2 : Nat, s2 = 2 ^ (k + 1) ∧ IntKind.i64.wrap ((s : Int) * 2) = (s2 : Int) ∧ RowKit.wrap64 ((s : Int) * 2) = (s2 : Int) ∧ ((k : Int) + 1) % 256 = ((k + 1 : Nat) : Int) := by
  refine ⟨by omega, 2 ^ (k + 1), rfl, ?_⟩
  have : k = 0 ∨ k = 1 ∨ k = 2 := by omega
  rw [IntKind.wrap_i64]
  unfold RowKit.wrap64
  rcases this with rfl | rfl | rfl <;> subst hs <;> decide
theorem rgj8 {k q : Nat} (h : ¬ k < q) : ¬ (k : Int) < (q : Int) := by omega
theorem rgj9 {a b : Nat} (h : a < b) : (a : Int) < (b : Int) := by omega
theorem rgj10 {a b : Nat} (h : ¬ a < b) : ¬ (a : Int) < (b : Int) := by omega
theorem rgj11 {f v i s y : Nat} {r : List UInt8} (hf : f < 64) (hv : v = gvN f (r.take i)) (hi : i + 1 < s) (hs : s ≤ 8) (hy : y < 256) : ∃ v2 : Nat, v2 = v * 256 + y ∧ ∃ m : Nat, m = v * 256 ∧ IntKind.i64.wrap ((v : Int) * 256) = (m : Int) ∧ RowKit.wrap64 ((v : Int) * 256) = (m : Int) ∧ IntKind.i64.wrap ((m : Int) + (y : Int)) = (v2 : Int) ∧ RowKit.wrap64 ((m : Int) + (y : Int)) = (v2 : Int) := by
  have h1 := gvN_lt (r.take i) f hf
  rw [← hv] at h1
  have h2 : 256 ^ (r.take i).length ≤ 256 ^ 6 := Nat.pow_le_pow_right (by decide) (by rw [List.length_take]; omega)
  have h3 : v < 64 * 256 ^ 6 := Nat.lt_of_lt_of_le h1 (Nat.mul_le_mul_left 64 h2)
  have h4 : (64 * 256 ^ 6 : Nat) = 18014398509481984 := by decide
  rw [h4] at h3
  refine ⟨_, rfl, _, rfl, ?_⟩
  rw [IntKind.wrap_i64, IntKind.wrap_i64]
  unfold RowKit.wrap64
  omega
theorem rgj12 {t i : Nat} (ht : t + i ≤ 9223372036854775807) (hi : i ≤ 8) : IntKind.i64.wrap ((t : Int) + (i : Int)) = ((t + i : Nat) : Int) ∧ RowKit.wrap64 ((t : Int) + (i : Int)) = ((t + i : Nat) : Int) ∧ IntKind.i64.wrap ((i : Int) + 1) = ((i + 1 : Nat) : Int) ∧ RowKit.wrap64 ((i : Int) + 1) = ((i + 1 : Nat) : Int) := by
  rw [IntKind.wrap_i64, IntKind.wrap_i64]; unfold RowKit.wrap64; omega
theorem rgj14 {s R i : Nat} (h : 1 ≤ s ∧ s ≤ 8 ∧ s ≤ R + 1) (hi : i + 1 < s) : i < R ∧ i + 1 ≤ 8 := by omega
theorem rgj15 {s R i t n : Nat} (h : 1 ≤ s ∧ s ≤ 8 ∧ s ≤ R + 1) (hi : i + 1 < s) (hr : R + 1 + t = n) (hn : n ≤ 9223372036854775807) : t + (i + 1) ≤ 9223372036854775807 ∧ ((t + (i + 1) : Nat) : Int) < (n : Int) ∧ t + (i + 1) < n := by omega
theorem rgj16 {s R t n : Nat} (h : 1 ≤ s ∧ s ≤ 8 ∧ s ≤ R + 1) (hr : R + 1 + t = n) (hn : n ≤ 9223372036854775807) : t + s ≤ 9223372036854775807 := by omega
theorem rgj17 {y : Nat} (h : y < 256) : IntKind.i64.wrap (y : Int) = (y : Int) ∧ RowKit.wrap64 (y : Int) = (y : Int) := by rw [IntKind.wrap_i64]; unfold RowKit.wrap64; omega
theorem rgj18 {i i1 s : Nat} (h1 : i1 = i + 1) (h2 : i + 1 < s) (h3 : s ≤ 8) : 9 - (intOf (Value.int .i64 ((i1 : Int) + 1))).toNat < 9 - (intOf (Value.int .i64 (i1 : Int))).toNat := by simp only [intOf]; omega
theorem rgj19 {i s : Nat} (h : ¬ i + 1 < s) (h2 : i + 1 ≤ s) : i + 1 = s := by omega
theorem rgj20 {k q : Nat} (h : k < q) (hq : q ≤ 3) : 3 - (intOf (Value.int .u8 ((k + 1 : Nat) : Int))).toNat < 3 - (intOf (Value.int .u8 (k : Int))).toNat := by simp only [intOf]; omega
theorem rgj21 {k q : Nat} (h : ¬ k < q) (h2 : k ≤ q) : k = q := by omega
theorem rgj22 {d s n t R : Nat} (h : d < s) (hd : d = n - t) (hr : R + 1 + t = n) : R + 1 < s := by omega
theorem rgj23 {d s n t R : Nat} (h : ¬ d < s) (hd : d = n - t) (hr : R + 1 + t = n) : ¬ R + 1 < s := by omega
theorem rgj24 {k s d n t R : Nat} (hk : k ≤ 3) (hs : s = 2 ^ k) (h : ¬ d < s) (hd : d = n - t) (hr : R + 1 + t = n) : 1 ≤ s ∧ s ≤ 8 ∧ s ≤ R + 1 := by
  have h3 : 2 ^ k ≤ 2 ^ 3 := Nat.pow_le_pow_right (by decide) hk
  have h4 : 0 < 2 ^ k := Nat.pow_pos (by decide)
  omega
theorem rgj13 {r : List UInt8} {f i : Nat} (h : i < r.length) : gvN f (r.take (i + 1)) = gvN f (r.take i) * 256 + (r[i]).toNat := by
  rw [List.take_succ_eq_append_getElem h, gvN_snoc]
set_option maxRecDepth 100000 in
set_option maxHeartbeats 1000000 in
theorem rget_any (w : World) {a : Option Addr} {n c : Nat} {l : List UInt8} (h : Sl w a n c (bv l)) (at_ : Nat) (ha : at_ < 9223372036854775808) :
    Calls Try.prog 66 #[.slice a n c, .int .i64 (at_ : Int)] w (Ret3N w (getV l at_)) := by
  have hl := h.byte
  have hcap := h.cap_le
  have hcm := h.cap_max
  have a0 : ¬ (at_ : Int) < 0 := by omega
  by_cases h1 : l.length < at_
  · have y1 := rgj2 (show n < at_ by omega)
    have HE : Hid (getV l at_ = (0, 0, 11)) := Lib.hid (by unfold getV; rw [if_pos h1])
    clear h hl h1 hcap hcm
    go_enter Try.func66, Try.ntmps66
    go_wp2
    go_ret3
    rw [HE.out]
    exact ⟨rfl, Below.refl _ _⟩
  have y1 := rgj1 (show ¬ n < at_ by omega)
  by_cases h2 : n = at_
  · subst h2
    have HE : Hid (getV l n = (0, 0, 12)) := Lib.hid (by unfold getV; rw [if_neg h1, List.drop_of_length_le (by omega)])
    clear h hl h1 hcap hcm
    go_enter Try.func66, Try.ntmps66
    go_wp2
    go_ret3
    rw [HE.out]
    exact ⟨rfl, Below.refl _ _⟩
  have y2 := rgj3 h2
  have hat : at_ < n := by omega
  obtain ⟨b, off, rfl, hc⟩ := h.cells (by omega)
  have hx := hc at_ hat
  rw [bv_get l at_ (by omega)] at hx
  obtain ⟨x, hxx⟩ : ∃ x, x = l[at_]'(by omega) := ⟨_, rfl⟩
  rw [← hxx] at hx
  have hdr : l.drop at_ = x :: l.drop (at_ + 1) := by rw [hxx]; exact List.drop_eq_getElem_cons (by omega)
  have y3 : (at_ : Int) < (n : Int) := by omega
  obtain ⟨y4, y5⟩ := rgj4 (t := at_) (n := n) (by omega) (by unfold maxLen at hcm; omega)
  obtain ⟨xn, hxn⟩ : ∃ xn, xn = x.toNat := ⟨_, rfl⟩
  rw [← hxn] at hx
  have hxl : xn < 256 := by rw [hxn]; exact x.toNat_lt
  obtain ⟨q, z1, hq3, hqx⟩ := rgj5 hxl
  obtain ⟨f, z2, hfx, hf64⟩ := rgj6 (xn := xn)
  obtain ⟨r, hr⟩ : ∃ r, r = l.drop (at_ + 1) := ⟨_, rfl⟩
  have hrl : r.length + 1 + at_ = n := by rw [hr, List.length_drop]; omega
  have hrc : ∀ i (hi : i < r.length), w.cell? ⟨b, off + (at_ + (i + 1)), none⟩ = some (.int .u8 ((r[i]).toNat : Int)) := fun i hi => by
    have h3 := hc (at_ + (i + 1)) (by omega)
    rw [bv_get l (at_ + (i + 1)) (by omega)] at h3
    rw [h3]
    subst hr
    simp only [List.getElem_drop]
    have e : at_ + 1 + i = at_ + (i + 1) := by omega
    simp only [e]
  have hsz : szB x = 2 ^ q := by unfold szB; rw [← hxn, ← hqx]
  have HG : Hid (getV l at_ = if r.length + 1 < 2 ^ q then (0, 0, 12) else (gvN f (r.take (2 ^ q - 1)), at_ + 2 ^ q, 0)) := Lib.hid (by
    unfold getV
    rw [if_neg h1, hdr]
    simp only [← hr, hsz, ← hxn, ← hfx])
  have HRc := Lib.hid hrc
  have HRl := Lib.hid hrl
  have HQ3 := Lib.hid hq3
  have HF := Lib.hid hf64
  have HCm : Hid (n ≤ 9223372036854775807) := Lib.hid (by unfold maxLen at hcm; omega)
  have hcc : (n : Int) ≤ (c : Int) := by omega
  obtain ⟨d, hd⟩ : ∃ d, d = n - at_ := ⟨_, rfl⟩
  rw [← hd] at y4 y5
  have HD := Lib.hid hd
  have HAt := Lib.hid hat
  clear h hl h1 h2 hcap hcm hc hdr hxx hxn hat hxl hqx hfx hr hrl hrc hsz hq3 hf64 hd ha
  go_enter Try.func66, Try.ntmps66
  go_wp2_with fail
  go_loopw [7, 8] (fun sv kv wr => RgRel q sv kv wr w) (fun _ kv _ => 3 - (intOf kv).toNat)
  case atStart => exact ⟨0, 1, rfl, rfl, Nat.zero_le _, rfl, rfl⟩
  case round =>
    obtain ⟨k, s, rfl, rfl, hk, hs, rfl⟩ := hrel
    by_cases hkq : k < q
    · obtain ⟨z3, s2, hs2, z4, z5, z6⟩ := rgj7 hkq HQ3.out hs
      have HS2 := Lib.hid hs2
      have HKq := Lib.hid hkq
      clear hk hs hs2 hkq
      go_wp2_with fail
      go_roundw
      case rel => exact ⟨k + 1, s2, rfl, by first | rfl | rw [z6], HKq.out, HS2.out, rfl⟩
      case measure => first | exact rgj20 HKq.out HQ3.out | (have h1 := rgj20 HKq.out HQ3.out; simp only [intOf] at h1 ⊢; omega)
    have z3 := rgj8 hkq
    have hkk : k = q := rgj21 hkq hk
    subst hkk
    have HS := Lib.hid hs
    clear hk hkq hs
    rw [← HS.out] at HG
    by_cases hds : d < s
    · have z4 := rgj9 hds
      have HE : Hid (getV l at_ = (0, 0, 12)) := Lib.hid (by rw [HG.out, if_pos (rgj22 hds HD.out HRl.out)])
      clear hds
      go_wp2
      go_ret3
      rw [HE.out]
      exact ⟨rfl, Below.refl _ _⟩
    have z4 := rgj10 hds
    have HE : Hid (getV l at_ = (gvN f (r.take (s - 1)), at_ + s, 0)) := Lib.hid (by rw [HG.out, if_neg (rgj23 hds HD.out HRl.out)])
    have HS8 : Hid (1 ≤ s ∧ s ≤ 8 ∧ s ≤ r.length + 1) := Lib.hid (rgj24 HQ3.out HS.out hds HD.out HRl.out)
    clear hds HG
    go_wp2_with fail
    go_loopw [9, 10] (fun nv iv' wr2 => RgRel2 f s r nv iv' wr2 wr) (fun _ iv' _ => 9 - (intOf iv').toNat)
    case atStart => exact ⟨0, f, by first | rfl | rw [z2], rfl, HS8.out.1, by simp [gvN], rfl⟩
    case round =>
      obtain ⟨i, v, rfl, rfl, hi, hv, rfl⟩ := hrel
      by_cases his : i + 1 < s
      · have z5 := rgj9 his
        obtain ⟨hir, hi8⟩ := rgj14 HS8.out his
        have hcell := HRc.out i hir
        obtain ⟨y, hy⟩ : ∃ y, y = (r[i]).toNat := ⟨_, rfl⟩
        rw [← hy] at hcell
        have hyl : y < 256 := by rw [hy]; exact UInt8.toNat_lt _
        obtain ⟨v2, hv2, m, hm, z6, z7, z8, z9⟩ := rgj11 HF.out hv his HS8.out.2.1 hyl
        obtain ⟨z16, z17⟩ := rgj17 hyl
        obtain ⟨zb, z14, z15⟩ := rgj15 HS8.out his HRl.out HCm.out
        obtain ⟨i1, hi1⟩ : ∃ i1, i1 = i + 1 := ⟨_, rfl⟩
        rw [← hi1] at z5 hcell z14 z15 zb hi8 ⊢
        obtain ⟨z10, z11, z12, z13⟩ := rgj12 (t := at_) (i := i1) zb hi8
        obtain ⟨p, hp⟩ : ∃ p, p = at_ + i1 := ⟨_, rfl⟩
        rw [← hp] at z10 z11 z14 z15 hcell
        have HV2 : Hid (v2 = gvN f (r.take (i + 1))) := Lib.hid (by rw [hv2, rgj13 hir, ← hv, ← hy])
        have HI1 := Lib.hid hi1
        have HIs := Lib.hid his
        clear his hir hy hyl hv2 hm hi1 hp hi hv zb hi8
        go_wp2_with fail
        go_roundw
        case rel => exact ⟨i + 1, v2, rfl, by rw [← HI1.out]; push_cast; rfl, HIs.out, HV2.out, rfl⟩
        case measure => first | exact rgj18 HI1.out HIs.out HS8.out.2.1 | (have h1 := rgj18 HI1.out HIs.out HS8.out.2.1; simp only [intOf] at h1 ⊢; omega)
      · have z5 := rgj10 his
        have hise : i + 1 = s := rgj19 his hi
        obtain ⟨z10, z11, _, _⟩ := rgj12 (t := at_) (i := s) (rgj16 HS8.out HRl.out HCm.out) HS8.out.2.1
        have HV : Hid (v = gvN f (r.take (s - 1))) := Lib.hid (by rw [← hise, Nat.add_sub_cancel]; exact hv)
        have HI : Hid (i + 1 = s) := Lib.hid hise
        clear his hi hv hise
        go_wp2
        go_ret3
        rw [HE.out]
        exact ⟨by rw [← HV.out]; rfl, Below.refl _ _⟩
end Go.Proofs.Ytppkilkfmclpkaa

namespace Go.Proofs.Ytppkilkfmclpkaa
open Go.RowKit

/-- the document's reader -/
structure RV (w : World) (g : Nat) (V : Vr) (a : Option Addr) (c : Nat) : Prop where
  has : Has w g 78 (vcells V a c)
  row : Sl w a V.l.length c (bv V.l)
  ne : ∀ ad, a = some ad → ad.block ≠ g
  le : V.at_ ≤ V.l.length
theorem RV.kept {X : Nat → Prop} {w w' : World} {g : Nat} {V : Vr} {a : Option Addr} {c : Nat} (h : RV w g V a c) (hk : Kept X w w') (hg : ¬ X g) (hx : ∀ ad, a = some ad → ¬ X ad.block) : RV w' g V a c := ⟨h.has.kept hk hg, h.row.kept hk hx, h.ne, h.le⟩
theorem RV.below {w w' : World} {g : Nat} {V : Vr} {a : Option Addr} {c : Nat} (h : RV w g V a c) (hb : Below w.heap.size w w') : RV w' g V a c := h.kept (X := none') (Kept.of_below hb) (fun h => h) (fun _ _ h => h)
theorem RV.big {w : World} {g : Nat} {V : Vr} {a : Option Addr} {c : Nat} (h : RV w g V a c) : V.l.length < 9223372036854775808 := by
  have h1 := h.row.cap_le
  have h2 := h.row.cap_max
  unfold maxLen at h2
  omega
def RNumR (w : World) (g : Nat) (a : Option Addr) (c : Nat) (r : Nat × Vr) (e : Ending) (w' : World) : Prop :=
  e = .returned (.int .i64 (r.1 : Int)) ∧ Kept (fun k => k = g) w w' ∧ RV w' g r.2 a c
set_option maxRecDepth 100000 in
set_option maxHeartbeats 1000000 in
theorem rnumber_any (w : World) {g : Nat} {V : Vr} {a : Option Addr} {c : Nat} (hV : RV w g V a c) :
    Calls Try.prog 55 #[.pointer (some ⟨g, 0, none⟩)] w (RNumR w g a c (numV V)) := by
  obtain ⟨f, hf⟩ : ∃ f, f = V.fault := ⟨_, rfl⟩
  have c2 := hV.has.cell 2 rfl
  rw [← hf] at c2
  by_cases h0 : f = 0
  · subst h0
    obtain ⟨gv, hgv⟩ : ∃ gv, gv = getV V.l V.at_ := ⟨_, rfl⟩
    have en : numV V = if gv.2.2 = 0 then (gv.1, { V with at_ := gv.2.1 }) else (0, { V with fault := gv.2.2 }) := by unfold numV; rw [if_pos hf.symm, ← hgv]
    rw [en]
    have hgle : gv.2.2 = 0 → gv.2.1 ≤ V.l.length := fun h => by rw [hgv] at h ⊢; exact getV_le _ _ h hV.le
    have hb3 := below_drewN (Below.refl w.heap.size w) 1
    have HG : Hid (Calls Try.prog 66 #[.slice a V.l.length c, .int .i64 (V.at_ : Int)] w.drew (Ret3N w.drew gv)) := Lib.hid (by
      rw [hgv]
      exact rget_any w.drew (hV.row.below hb3) V.at_ (by have := hV.big; have := hV.le; omega))
    have HV3 := Lib.hid (hV.below hb3)
    have HB3 := Lib.hid hb3
    have HGle := Lib.hid hgle
    have HV := Lib.hid hV
    have HF := Lib.hid hf
    clear hV hb3 hgle en hgv hf
    obtain ⟨n, hn⟩ : ∃ n, n = V.l.length := ⟨_, rfl⟩
    obtain ⟨t, ht⟩ : ∃ t, t = V.at_ := ⟨_, rfl⟩
    rw [← hn, ← ht] at HG
    have d0 : w.drew.cell? ⟨g, 0, none⟩ = some (.slice a n c) := by rw [hn]; exact HV3.out.has.cell 0 rfl
    have d1 : w.drew.cell? ⟨g, 1, none⟩ = some (.int .i64 (t : Int)) := by rw [ht]; exact HV3.out.has.cell 1 rfl
    have HN := Lib.hid hn
    have HT := Lib.hid ht
    clear hn ht
    obtain ⟨x, y, z⟩ := gv
    by_cases hz : z = 0
    · subst hz
      rw [if_pos rfl]
      go_enter Try.func55, Try.ntmps55
      go_wp2_with fail
      refine Mx.region [] (fun w' => w'.cell? ⟨g, 0, none⟩ = some (.slice a n c) ∧ w'.cell? ⟨g, 1, none⟩ = some (.int .i64 (t : Int))) (by kernel_rfl) (by kernel_rfl) ⟨d0, d1⟩ ?_
      repeat ((first | (refine Mx.skips (by kernel_rfl) ?_; go_big_quiet_skip) | (refine Mx.quietly rfl ?_; go_big_quiet_want; go_big_quiet_op; go_big_quiet_on)); refine Mx.done ?_)
      refine Mx.cell ⟨g, 0, none⟩ (.slice a n c) (by kernel_rfl) (by kernel_rfl) (by kernel_rfl) Try.isAgg22 (fun w' h => h.1) ?_
      go_big_quiet_want; go_big_quiet_op; go_big_quiet_on; refine Mx.done ?_
      repeat ((first | (refine Mx.skips (by kernel_rfl) ?_; go_big_quiet_skip) | (refine Mx.quietly rfl ?_; go_big_quiet_want; go_big_quiet_op; go_big_quiet_on)); refine Mx.done ?_)
      refine Mx.cell ⟨g, 1, none⟩ (.int .i64 (t : Int)) (by kernel_rfl) (by kernel_rfl) (by kernel_rfl) Try.isAgg3 (fun w' h => h.2) ?_
      go_big_quiet_want; go_big_quiet_op; go_big_quiet_on; refine Mx.done ?_
      repeat ((first | (refine Mx.skips (by kernel_rfl) ?_; go_big_quiet_skip) | (refine Mx.quietly rfl ?_; go_big_quiet_want; go_big_quiet_op; go_big_quiet_on)); refine Mx.done ?_)
      refine Mx.loudly (by kernel_rfl) (by kernel_rfl) ?_
      go_wp2_with fail
      refine HG.out.mono ?_
      rintro e w2 ⟨rfl, hb2⟩
      have hV2 := HV3.out.below hb2
      have s0 : w2.cell? ⟨g, 0, none⟩ = some (.slice a n c) := by rw [HN.out]; exact hV2.has.cell 0 rfl
      have s1 : w2.cell? ⟨g, 1, none⟩ = some (.int .i64 (t : Int)) := by rw [HT.out]; exact hV2.has.cell 1 rfl
      have HK2 := Lib.hid (Kept.of_below (X := fun k => k = g) (HB3.out.trans (hb2.mono HB3.out.size)))
      have HV2 := Lib.hid hV2
      clear hb2 hV2
      go_wp2_with fail
      repeat ((first | (refine Mx.skips (by kernel_rfl) ?_; go_big_quiet_skip) | (refine Mx.quietly rfl ?_; go_big_quiet_want; go_big_quiet_op; go_big_quiet_on)); refine Mx.done ?_)
      refine Mx.nil ?_
      have b1 := HV2.out.has.free 1
      have HN2 := Lib.hid (HV2.out.has.set 1 (.int .i64 (y : Int)))
      go_wp2
      go_ret
      refine ⟨rfl, HK2.out.trans (Kept.set w2 g 1 _) (fun _ _ h => h), HN2.out, HV2.out.row.kept (Kept.set w2 g 1 _) (fun ad ha => HV2.out.ne ad ha), HV2.out.ne, HGle.out trivial⟩
    · rw [if_neg hz]
      have gz : (z == 0) = false := by simpa using hz
      clear hz HGle
      go_enter Try.func55, Try.ntmps55
      go_wp2_with fail
      refine Mx.region [] (fun w' => w'.cell? ⟨g, 0, none⟩ = some (.slice a n c) ∧ w'.cell? ⟨g, 1, none⟩ = some (.int .i64 (t : Int))) (by kernel_rfl) (by kernel_rfl) ⟨d0, d1⟩ ?_
      repeat ((first | (refine Mx.skips (by kernel_rfl) ?_; go_big_quiet_skip) | (refine Mx.quietly rfl ?_; go_big_quiet_want; go_big_quiet_op; go_big_quiet_on)); refine Mx.done ?_)
      refine Mx.cell ⟨g, 0, none⟩ (.slice a n c) (by kernel_rfl) (by kernel_rfl) (by kernel_rfl) Try.isAgg22 (fun w' h => h.1) ?_
      go_big_quiet_want; go_big_quiet_op; go_big_quiet_on; refine Mx.done ?_
      repeat ((first | (refine Mx.skips (by kernel_rfl) ?_; go_big_quiet_skip) | (refine Mx.quietly rfl ?_; go_big_quiet_want; go_big_quiet_op; go_big_quiet_on)); refine Mx.done ?_)
      refine Mx.cell ⟨g, 1, none⟩ (.int .i64 (t : Int)) (by kernel_rfl) (by kernel_rfl) (by kernel_rfl) Try.isAgg3 (fun w' h => h.2) ?_
      go_big_quiet_want; go_big_quiet_op; go_big_quiet_on; refine Mx.done ?_
      repeat ((first | (refine Mx.skips (by kernel_rfl) ?_; go_big_quiet_skip) | (refine Mx.quietly rfl ?_; go_big_quiet_want; go_big_quiet_op; go_big_quiet_on)); refine Mx.done ?_)
      refine Mx.loudly (by kernel_rfl) (by kernel_rfl) ?_
      go_wp2_with fail
      refine HG.out.mono ?_
      rintro e w2 ⟨rfl, hb2⟩
      have hV2 := HV3.out.below hb2
      have s0 : w2.cell? ⟨g, 0, none⟩ = some (.slice a n c) := by rw [HN.out]; exact hV2.has.cell 0 rfl
      have s1 : w2.cell? ⟨g, 1, none⟩ = some (.int .i64 (t : Int)) := by rw [HT.out]; exact hV2.has.cell 1 rfl
      have HK2 := Lib.hid (Kept.of_below (X := fun k => k = g) (HB3.out.trans (hb2.mono HB3.out.size)))
      have HV2 := Lib.hid hV2
      clear hb2 hV2
      go_wp2_with fail
      repeat ((first | (refine Mx.skips (by kernel_rfl) ?_; go_big_quiet_skip) | (refine Mx.quietly rfl ?_; go_big_quiet_want; go_big_quiet_op; go_big_quiet_on)); refine Mx.done ?_)
      refine Mx.nil ?_
      have b2 := HV2.out.has.free 2
      have s2 : w2.cell? ⟨g, 2, none⟩ = some (.int .i64 0) := by rw [HF.out]; exact HV2.out.has.cell 2 rfl
      have HN2 := Lib.hid (HV2.out.has.set 2 (.int .i64 z))
      go_wp2
      go_ret
      refine ⟨rfl, HK2.out.trans (Kept.set w2 g 2 _) (fun _ _ h => h), HN2.out, HV2.out.row.kept (Kept.set w2 g 2 _) (fun ad ha => HV2.out.ne ad ha), HV2.out.ne, HV2.out.le⟩
  · have en : numV V = (0, V) := by unfold numV; rw [if_neg (by rw [← hf]; exact h0)]
    rw [en]
    have g0 : (f == 0) = false := by simpa using h0
    have HV := Lib.hid hV
    clear hV h0 hf en
    go_enter Try.func55, Try.ntmps55
    go_wp2
    go_ret
    exact ⟨rfl, Kept.refl _ _, HV.out⟩
def RBytR (w : World) (g : Nat) (a : Option Addr) (c : Nat) (r : List UInt8 × Vr) (e : Ending) (w' : World) : Prop :=
  ∃ ra rc, e = .returned (.slice ra r.1.length rc) ∧ w'.ownsRow w.heap.size 5 1 (.slice ra r.1.length rc) r.1.length (bv r.1) ∧ Kept (fun k => k = g) w w' ∧ RV w' g r.2 a c
set_option maxRecDepth 100000 in
set_option maxHeartbeats 1000000 in
theorem rbytes_any (w : World) {g : Nat} {V : Vr} {a : Option Addr} {c : Nat} (hV : RV w g V a c) (hlen : V.l.length ≤ 140737488351232) (m : Nat) :
    Calls Try.prog 67 #[.pointer (some ⟨g, 0, none⟩), .int .i64 (m : Int)] w (RBytR w g a c (bytV V m)) := by
  obtain ⟨f, hf⟩ : ∃ f, f = V.fault := ⟨_, rfl⟩
  obtain ⟨n, hn⟩ : ∃ n, n = V.l.length := ⟨_, rfl⟩
  obtain ⟨t, ht⟩ : ∃ t, t = V.at_ := ⟨_, rfl⟩
  have hle := hV.le
  have hbig := hV.big
  have hcap := hV.row.cap_le
  have hcm := hV.row.cap_max
  rw [← hn] at hcap hbig hlen
  rw [← hn, ← ht] at hle
  have HG : Hid (Has w g 78 [.slice a n c, .int .i64 (t : Int), .int .i64 f]) := Lib.hid (by rw [hn, ht, hf]; exact hV.has)
  have HV := Lib.hid hV
  have g2 := HG.out.cell 2 rfl
  have mpos : ¬ (m : Int) < 0 := by omega
  by_cases h0 : f = 0
  · subst h0
    have HGd : Hid (Has w.drew g 78 [.slice a n c, .int .i64 (t : Int), .int .i64 0]) := Lib.hid (HG.out.kept (X := none') (Kept.drew _ _) (fun h => h))
    have HSat := Lib.hid (Sat.cons (w := w.drew) (HGd.out.cell 0 rfl) (Sat.cons (w := w.drew) (HGd.out.cell 1 rfl) (Sat.nil _)))
    have hsub1 : IntKind.i64.wrap ((n : Int) - (t : Int)) = ((n - t : Nat) : Int) := by rw [IntKind.wrap_i64]; omega
    have hsub2 : RowKit.wrap64 ((n : Int) - (t : Int)) = ((n - t : Nat) : Int) := by unfold RowKit.wrap64; omega
    obtain ⟨d, hd⟩ : ∃ d, d = n - t := ⟨_, rfl⟩
    rw [← hd] at hsub1 hsub2
    by_cases hm : n - t < m
    · have hm2 : (d : Int) < (m : Int) := by omega
      have HF : Hid (RBytR w g a c (bytV V m) (.returned (.slice none 0 0)) (w.drew.setCell ⟨g, 2, none⟩ (.int .i64 12)) ∧ w.drew.cell? ⟨g, 2, none⟩ = some (.int .i64 0) ∧ w.drew.frozen? ⟨g, 2, none⟩ = false) := Lib.hid (by
        have HR : bytV V m = ([], { V with fault := 12 }) := by unfold bytV; rw [if_pos hf.symm, if_pos (by rw [← hn, ← ht]; exact hm)]
        have hV2 := hV.below (below_drewN (Below.refl w.heap.size w) 1)
        have hk := Kept.set w.drew g 2 (.int .i64 12)
        rw [HR]
        refine ⟨⟨none, 0, rfl, World.ownsRow_nil _ _ _ _, (Kept.drew (fun k => k = g) w).trans hk (fun _ _ h => h), ?_, hV2.row.kept hk (fun ad ha e => hV2.ne ad ha e), hV2.ne, hV2.le⟩, HGd.out.cell 2 rfl, HGd.out.free 2⟩
        show Has _ g _ (vcells { V with fault := 12 } a c)
        have : vcells { V with fault := 12 } a c = (vcells V a c).set 2 (.int .i64 12) := rfl
        rw [this]
        exact hV2.has.set 2 _)
      clear hV hf hn ht hm HG hd hle hbig hcap hcm hlen
      go_enter Try.func67, Try.ntmps67
      go_upto_region 6 with fail
      refine Mx.region [] (Sat [(⟨g, 0, none⟩, .slice a n c), (⟨g, 1, none⟩, .int .i64 (t : Int))]) (by kernel_rfl) (by kernel_rfl) HSat.out ?_
      repeat ((first | (refine Mx.skips (by kernel_rfl) ?_; go_big_quiet_skip) | (refine Mx.quietly rfl ?_; go_big_quiet_want; go_big_quiet_op; go_big_quiet_on)); refine Mx.done ?_)
      refine Mx.cell ⟨g, 0, none⟩ (.slice a n c) (by kernel_rfl) (by kernel_rfl) (by kernel_rfl) Try.isAgg22 (fun w' h => h 0 _ _ rfl) ?_; go_big_quiet_want; go_big_quiet_op; go_big_quiet_on; refine Mx.done ?_
      repeat ((first | (refine Mx.skips (by kernel_rfl) ?_; go_big_quiet_skip) | (refine Mx.quietly rfl ?_; go_big_quiet_want; go_big_quiet_op; go_big_quiet_on)); refine Mx.done ?_)
      refine Mx.cell ⟨g, 1, none⟩ (.int .i64 (t : Int)) (by kernel_rfl) (by kernel_rfl) (by kernel_rfl) Try.isAgg3 (fun w' h => h 1 _ _ rfl) ?_; go_big_quiet_want; go_big_quiet_op; go_big_quiet_on; refine Mx.done ?_
      repeat ((first | (refine Mx.skips (by kernel_rfl) ?_; go_big_quiet_skip) | (refine Mx.quietly rfl ?_; go_big_quiet_want; go_big_quiet_op; go_big_quiet_on)); refine Mx.done ?_)
      refine Mx.nil ?_
      obtain ⟨hF, c2, k2⟩ := HF.out
      have HFF := Lib.hid hF
      obtain ⟨wd, hwd⟩ : ∃ wd, wd = w.drew := ⟨_, rfl⟩
      rw [← hwd] at c2 k2 HFF ⊢
      clear hF hwd g2
      go_wp2
      go_ret
      exact HFF.out
    · have hm2 : ¬ (d : Int) < (m : Int) := by omega
      obtain ⟨m2, hm3⟩ : ∃ m2, m2 = t + m := ⟨_, rfl⟩
      have htm : m2 ≤ n := by rw [hm3]; exact byt_ok hm hle
      obtain ⟨w1, w2', w3, w4, w5, w6, w7⟩ := byt_w hm3 htm hbig
      have HR : Hid (bytV V m = ((V.l.drop t).take m, { V with at_ := m2 })) := Lib.hid (by unfold bytV; rw [if_pos hf.symm, if_neg (by rw [← hn, ← ht]; exact hm), ← ht, hm3])
      obtain ⟨ap, hap⟩ : ∃ ap, ap = if c = t then a else Option.map (fun x => x.add t) a := ⟨_, rfl⟩
      have HS : Hid (∀ u, Below w.heap.size w u → Sl u ap m (c - t) (bv ((V.l.drop t).take m))) := Lib.hid (fun u hb => by
        have hrow := (hV.below hb).row
        rw [← hn] at hrow
        have h1 : Sl u ap (n - t) (c - t) ((bv V.l).drop t) := by
          rw [hap]
          by_cases hc : c = t
          · rw [if_pos hc]
            exact sl_end hrow (k := t) (m := n - t) (byt_a hc hcap).1 (byt_a hc hcap).2
          · rw [if_neg hc]; exact sl_in hrow hle
        have h2 := sl_take h1 (k := m) (byt_b hm3 htm)
        rw [show bv ((V.l.drop t).take m) = ((bv V.l).drop t).take m from by simp [bv, List.map_take, List.map_drop]]
        exact h2)
      have HVn : Hid (∀ u, Below w.heap.size w u → Kept (fun k => k = g) w (u.setCell ⟨g, 1, none⟩ (.int .i64 (m2 : Int))) ∧ RV (u.setCell ⟨g, 1, none⟩ (.int .i64 (m2 : Int))) g { V with at_ := m2 } a c) := Lib.hid (fun u hb => by
        have hV2 := hV.below hb
        have hk := Kept.set u g 1 (.int .i64 (m2 : Int))
        refine ⟨(Kept.of_below (X := fun k => k = g) hb).trans hk (fun _ _ h => h), ⟨?_, hV2.row.kept hk (fun ad ha e => hV2.ne ad ha e), hV2.ne, by show m2 ≤ V.l.length; rw [← hn]; exact htm⟩⟩
        show Has _ g _ (vcells { V with at_ := m2 } a c)
        have : vcells { V with at_ := m2 } a c = (vcells V a c).set 1 (.int .i64 (m2 : Int)) := rfl
        rw [this]
        exact hV2.has.set 1 _)
      have hlm : ((V.l.drop t).take m).length = m := byt_c hn (byt_b hm3 htm)
      have HLm := Lib.hid hlm
      have HAp := Lib.hid hap
      have HW := Lib.hid (And.intro w1 (And.intro w2' (And.intro w3 (And.intro w4 (And.intro w5 (And.intro w6 w7))))))
      have HM2 : Hid (m2 - t = m) := Lib.hid (byt_d hm3)
      have HTc : Hid (t ≤ c) := Lib.hid (Nat.le_trans hle hcap)
      have HM2c : Hid (m2 ≤ c) := Lib.hid (Nat.le_trans htm hcap)
      have HM47 := Lib.hid (byt_e hm3 htm hlen)
      clear hV hf hn ht hm w1 w2' w3 w4 w5 w6 w7 hm3 htm hap hlm hlen hle hbig hcap hd hcm
      go_enter Try.func67, Try.ntmps67
      go_upto_region 6 with fail
      refine Mx.region [] (Sat [(⟨g, 0, none⟩, .slice a n c), (⟨g, 1, none⟩, .int .i64 (t : Int))]) (by kernel_rfl) (by kernel_rfl) HSat.out ?_
      repeat ((first | (refine Mx.skips (by kernel_rfl) ?_; go_big_quiet_skip) | (refine Mx.quietly rfl ?_; go_big_quiet_want; go_big_quiet_op; go_big_quiet_on)); refine Mx.done ?_)
      refine Mx.cell ⟨g, 0, none⟩ (.slice a n c) (by kernel_rfl) (by kernel_rfl) (by kernel_rfl) Try.isAgg22 (fun w' h => h 0 _ _ rfl) ?_; go_big_quiet_want; go_big_quiet_op; go_big_quiet_on; refine Mx.done ?_
      repeat ((first | (refine Mx.skips (by kernel_rfl) ?_; go_big_quiet_skip) | (refine Mx.quietly rfl ?_; go_big_quiet_want; go_big_quiet_op; go_big_quiet_on)); refine Mx.done ?_)
      refine Mx.cell ⟨g, 1, none⟩ (.int .i64 (t : Int)) (by kernel_rfl) (by kernel_rfl) (by kernel_rfl) Try.isAgg3 (fun w' h => h 1 _ _ rfl) ?_; go_big_quiet_want; go_big_quiet_op; go_big_quiet_on; refine Mx.done ?_
      repeat ((first | (refine Mx.skips (by kernel_rfl) ?_; go_big_quiet_skip) | (refine Mx.quietly rfl ?_; go_big_quiet_want; go_big_quiet_op; go_big_quiet_on)); refine Mx.done ?_)
      refine Mx.nil ?_
      go_upto_region 9 with fail
      clear hsub1 hsub2 hm2 g2
      obtain ⟨w3, hw3⟩ : ∃ w3, w3 = w.drew := ⟨_, rfl⟩
      have HB3 : Hid (Below w.heap.size w w3) := Lib.hid (by rw [hw3]; exact below_drewN (Below.refl _ _) 1)
      have HG3 : Hid (Has w3 g 78 [.slice a n c, .int .i64 (t : Int), .int .i64 0]) := Lib.hid (by rw [hw3]; exact HGd.out)
      rw [← hw3]
      clear hw3 HGd HSat
      have HSat := Lib.hid (Sat.cons (w := w3.drew) (HG3.out.cell 0 rfl) (Sat.cons (w := w3.drew) (HG3.out.cell 1 rfl) (Sat.nil _)))
      have HCl := Lib.hid (copy_any w3.drew (HS.out w3.drew (HB3.out.trans ((below_drewN (Below.refl w3.heap.size w3) 1).mono HB3.out.size))) HM47.out)
      have hq3 := HW.out.1
      have hq4 := HW.out.2.1
      have hq8 := HTc.out
      have hq9 := HM2c.out
      have hq10 : (m2 : Int) ≤ (c : Int) := Int.ofNat_le.2 HM2c.out
      have hq11 : (t : Int) ≤ (m2 : Int) := by have := HW.out; omega
      refine Mx.region [] (Sat [(⟨g, 0, none⟩, .slice a n c), (⟨g, 1, none⟩, .int .i64 (t : Int))]) (by kernel_rfl) (by kernel_rfl) HSat.out ?_
      repeat ((first | (refine Mx.skips (by kernel_rfl) ?_; go_big_quiet_skip) | (refine Mx.quietly rfl ?_; go_big_quiet_want; go_big_quiet_op; go_big_quiet_on)); refine Mx.done ?_)
      refine Mx.cell ⟨g, 0, none⟩ (.slice a n c) (by kernel_rfl) (by kernel_rfl) (by kernel_rfl) Try.isAgg22 (fun w' h => h 0 _ _ rfl) ?_; go_big_quiet_want; go_big_quiet_op; go_big_quiet_on; refine Mx.done ?_
      repeat ((first | (refine Mx.skips (by kernel_rfl) ?_; go_big_quiet_skip) | (refine Mx.quietly rfl ?_; go_big_quiet_want; go_big_quiet_op; go_big_quiet_on)); refine Mx.done ?_)
      refine Mx.cell ⟨g, 1, none⟩ (.int .i64 (t : Int)) (by kernel_rfl) (by kernel_rfl) (by kernel_rfl) Try.isAgg3 (fun w' h => h 1 _ _ rfl) ?_; go_big_quiet_want; go_big_quiet_op; go_big_quiet_on; refine Mx.done ?_
      repeat ((first | (refine Mx.skips (by kernel_rfl) ?_; go_big_quiet_skip) | (refine Mx.quietly rfl ?_; go_big_quiet_want; go_big_quiet_op; go_big_quiet_on)); refine Mx.done ?_)
      refine Mx.cell ⟨g, 1, none⟩ (.int .i64 (t : Int)) (by kernel_rfl) (by kernel_rfl) (by kernel_rfl) Try.isAgg3 (fun w' h => h 1 _ _ rfl) ?_; go_big_quiet_want; go_big_quiet_op; go_big_quiet_on; refine Mx.done ?_
      refine Mx.quietly rfl ?_; go_big_quiet_want; go_big_quiet_op; go_big_quiet_on; refine Mx.done ?_
      refine Mx.quietly rfl ?_; go_big_quiet_want; go_big_quiet_op; go_big_quiet_on; refine Mx.done ?_
      refine Mx.quietly rfl ?_
      go_big_quiet_want
      go_big_quiet_op
      rw [← HAp.out, HM2.out]
      go_big_quiet_on
      refine Mx.done ?_
      refine Mx.loudly (by kernel_rfl) (by kernel_rfl) ?_
      clear hq8 hq9 hq10 hq11 hq3 hq4
      go_wp2_with fail
      refine HCl.out.mono ?_
      rintro e w5 ⟨a5, c5, he, ho5, hb5⟩
      obtain rfl : e = .returned (.slice a5 m c5) := by rw [he, HLm.out]
      have hb35 : Below w3.heap.size w3 w5 := (below_drewN (Below.refl w3.heap.size w3) 1).trans hb5
      have HO5 := Lib.hid ho5
      have HG5 := HG3.out.kept (Kept.of_below (X := none') hb35) (fun h => h)
      have HSat5 : Hid (Sat [(⟨g, 0, none⟩, .slice a n c), (⟨g, 1, none⟩, .int .i64 (t : Int))] w5) := Lib.hid (Sat.cons (w := w5) (HG5.cell 0 rfl) (Sat.cons (w := w5) (HG5.cell 1 rfl) (Sat.nil _)))
      have HB5 := Lib.hid (HB3.out.trans (hb35.mono HB3.out.size))
      have HG5h := Lib.hid HG5
      clear hb5 ho5 HG5 hb35 he
      go_wp2_with fail
      refine ⟨HSat5.out, ?_⟩
      repeat ((first | (refine Mx.skips (by kernel_rfl) ?_; go_big_quiet_skip) | (refine Mx.quietly rfl ?_; go_big_quiet_want; go_big_quiet_op; go_big_quiet_on)); refine Mx.done ?_)
      refine Mx.nil ?_
      have g1 := HG5h.out.cell 1 rfl
      have f1 := HG5h.out.free 1
      have hq3 := HW.out.1
      have hq4 := HW.out.2.1
      go_wp2
      go_ret
      rw [HR.out]
      obtain ⟨hk6, hV6⟩ := HVn.out w5 HB5.out
      have hkk := Kept.set w5 g 1 (.int .i64 (m2 : Int))
      have ho6 : w5.ownsRow w3.drew.heap.size 5 1 (.slice a5 ((V.l.drop t).take m).length c5) ((V.l.drop t).take m).length (bv ((V.l.drop t).take m)) := HO5.out
      refine ⟨a5, c5, by show Ending.returned (.slice a5 m c5) = .returned (.slice a5 ((V.l.drop t).take m).length c5); rw [HLm.out], own_mono (own_kept ho6 hkk (own_ne ho6 (by have h1 := HG3.out.lt; exact h1) HG5h.out)) HB3.out.size, hk6, hV6⟩
  · have hz : (f == 0) = false := by simpa using h0
    have HR : Hid (bytV V m = ([], V)) := Lib.hid (by unfold bytV; rw [if_neg (by rw [← hf]; exact h0)])
    clear hV hf hn ht h0 HG
    go_enter Try.func67, Try.ntmps67
    go_wp2
    go_ret
    rw [HR.out]
    exact ⟨none, 0, rfl, World.ownsRow_nil _ _ _ _, Kept.refl _ _, HV.out⟩
theorem bytV_01 (V : Vr) : (bytV V 1).1 = [] ∨ ∃ b, (bytV V 1).1 = [b] := by
  unfold bytV
  by_cases h0 : V.fault = 0
  · rw [if_pos h0]
    by_cases h2 : V.l.length - V.at_ < 1
    · rw [if_pos h2]; exact .inl rfl
    · rw [if_neg h2]
      have h3 : ((V.l.drop V.at_).take 1).length = 1 := by rw [List.length_take, List.length_drop]; omega
      exact .inr (List.length_eq_one_iff.1 h3)
  · rw [if_neg h0]; exact .inl rfl
/-- one byte, or 0 -/
def rbyV (V : Vr) : Nat × Vr := (((bytV V 1).1.headD 0).toNat, (bytV V 1).2)
theorem rbj {y : Nat} (h : y < 256) : IntKind.i64.wrap (y : Int) = (y : Int) ∧ RowKit.wrap64 (y : Int) = (y : Int) := by rw [IntKind.wrap_i64]; unfold RowKit.wrap64; omega
set_option maxRecDepth 100000 in
theorem rbyte_any (w : World) {g : Nat} {V : Vr} {a : Option Addr} {c : Nat} (hV : RV w g V a c) (hlen : V.l.length ≤ 140737488351232) :
    Calls Try.prog 68 #[.pointer (some ⟨g, 0, none⟩)] w (RNumR w g a c (rbyV V)) := by
  have HB := Lib.hid (rbytes_any w hV hlen 1)
  unfold rbyV
  have H01 := Lib.hid (bytV_01 V)
  obtain ⟨r, hr⟩ : ∃ r, r = bytV V 1 := ⟨_, rfl⟩
  rw [← hr] at HB H01 ⊢
  clear hV hr hlen
  obtain ⟨y, V2⟩ := r
  go_enter Try.func68, Try.ntmps68
  go_wp2_with fail
  refine HB.out.mono ?_
  rintro e w2 ⟨ra, rc, he, ho, hk, hV2⟩
  have HK := Lib.hid hk
  have HV2 := Lib.hid hV2
  have h01 : y = [] ∨ ∃ b, y = [b] := H01.out
  rcases h01 with rfl | ⟨b, rfl⟩
  · obtain rfl : e = .returned (.slice ra 0 rc) := he
    clear hk hV2 ho
    go_wp2
    go_ret
    exact ⟨rfl, HK.out, HV2.out⟩
  · obtain rfl : e = .returned (.slice ra 1 rc) := he
    obtain ⟨s, rfl, hc, _, _, _⟩ := own_cell ho (i := 0) (by simp)
    have c0 : w2.cell? ⟨s, 0, none⟩ = some (.int .u8 (b.toNat : Int)) := by rw [hc]; rfl
    obtain ⟨z1, z2⟩ := rbj (UInt8.toNat_lt b)
    obtain ⟨x, hx⟩ : ∃ x, x = b.toNat := ⟨_, rfl⟩
    rw [← hx] at c0 z1 z2
    have HX := Lib.hid hx
    clear hk hV2 ho hc hx
    go_wp2
    go_ret
    exact ⟨by rw [HX.out]; rfl, HK.out, HV2.out⟩
end Go.Proofs.Ytppkilkfmclpkaa

namespace Go.Proofs.Ytppkilkfmclpkaa
open Go.RowKit

/-- the document's reader at g, the frame's variable at gf -/
structure SR (w : World) (B g gf : Nat) (a : Option Addr) (c : Nat) (V : Vr) (f : Fm) (fa : FA) : Prop where
  rv : RV w g V a c
  box : Has w gf 34 (fcells f fa)
  own : FOwn w B f fa
  ne : ∀ ad, a = some ad → ad.block ≠ gf
section
variable {w w' : World} {B g gf : Nat} {a : Option Addr} {c : Nat} {V V' : Vr} {f f' : Fm} {fa fa' : FA}
theorem SR.ne_g (h : SR w B g gf a c V f fa) : gf ≠ g := has_ne h.box h.rv.has (by decide)
theorem SR.below (h : SR w B g gf a c V f fa) (hb : Below w.heap.size w w') : SR w' B g gf a c V f fa :=
  ⟨h.rv.below hb, h.box.kept (X := none') (Kept.of_below hb) (fun h => h), h.own.below hb, h.ne⟩
theorem SR.drew (h : SR w B g gf a c V f fa) : SR w.drew B g gf a c V f fa := h.below (below_drewN (Below.refl _ _) 1)
theorem SR.call (h : SR w B g gf a c V f fa) (hk : Kept (fun k => k = g) w w') (hV : RV w' g V' a c) : SR w' B g gf a c V' f fa :=
  ⟨hV, h.box.kept hk h.ne_g, h.own.kept hk (h.own.nty h.rv.has (by decide) (by decide)), h.ne⟩
theorem SR.put (h : SR w B g gf a c V f fa) (i : Nat) (v : Value) (he : (fcells f fa).set i v = fcells f' fa') (ho : FOwn w B f' fa') : SR (w.setCell ⟨gf, i, none⟩ v) B g gf a c V f' fa' := by
  have hk := Kept.set w gf i v
  refine ⟨h.rv.kept hk (fun e => h.ne_g e.symm) h.ne, ?_, ho.kept hk (ho.nty h.box (by decide) (by decide)), h.ne⟩
  rw [← he]
  exact h.box.set i v
theorem SR.int (h : SR w B g gf a c V f fa) (i : Nat) (v : Value) (he : (fcells f fa).set i v = fcells f' fa) (h1 : f'.data = f.data) (h2 : f'.cid = f.cid) (h3 : f'.spans = f.spans) : SR (w.setCell ⟨gf, i, none⟩ v) B g gf a c V f' fa :=
  h.put i v he ⟨by rw [h1]; exact h.own.data, by rw [h2]; exact h.own.cid, by rw [h3]; exact h.own.spans⟩
end
/-- how an item's reading ends -/
def ItemR (w : World) (B g gf : Nat) (a : Option Addr) (c : Nat) (r : Rs) (e : Ending) (w' : World) : Prop :=
  e = .returned (.int .i64 r.err) ∧ Kept (fun k => k = g ∨ k = gf) w w' ∧ ∃ fa, SR w' B g gf a c r.V r.f fa
def rDat (V : Vr) (f : Fm) (m : Nat) : Rs := ⟨0, { f with data := (bytV V m).1 }, (bytV V m).2⟩
def setR (f : Fm) (i : Nat) (x : Int) : Fm := if i = 0 then { f with e0 := x } else if i = 1 then { f with e1 := x } else { f with e2 := x }
/-- r marks from number 3 - r on -/
def rMk : Nat → Vr → Fm → Rs
  | 0, V, f => ⟨0, f, V⟩
  | r + 1, V, f => rMk r (numV V).2 (setR f (2 - r) ((numV V).1 : Int))
/-- an item but the spans -/
def rItem (ch k : Nat) (V : Vr) (f : Fm) : Rs :=
  if ch = 105 then ⟨0, { f with id := ((numV V).1 : Int) }, (numV V).2⟩
  else if ch = 97 then (if ¬ f.kind = 8 ∨ k / 4 % 2 = 1 then ⟨0, { f with at_ := ((numV V).1 : Int) }, (numV V).2⟩ else ⟨0, f, V⟩)
  else if ch = 110 then ⟨0, { f with n := ((numV V).1 : Int) }, (numV V).2⟩
  else if ch = 99 then ⟨0, { f with code := ((numV V).1 : Int) }, (numV V).2⟩
  else if ch = 100 then (if ¬ f.kind = 8 ∨ k / 2 % 2 = 1 then rDat (numV V).2 f (numV V).1 else rDat V f (V.l.length - V.at_))
  else if ch = 107 then ⟨0, { f with cid := (bytV (rbyV V).2 (rbyV V).1).1 }, (bytV (rbyV V).2 (rbyV V).1).2⟩
  else if ch = 116 then rDat V f 16
  else if ch = 112 then rDat V f 8
  else if ch = 101 then rMk 3 V f
  else ⟨0, f, V⟩
theorem kept_rcall {w w1 w2 : World} {g gf : Nat} (h1 : Kept (fun k => k = g ∨ k = gf) w w1) (h2 : Kept (fun k => k = g) w1 w2) : Kept (fun k => k = g ∨ k = gf) w w2 := h1.trans h2 (fun _ _ h => .inl h)

theorem rity : ∀ k : Nat, k < 31 → k / 4 % 2 = 1 → (RowKit.wrap64 ((k : Int).tdiv 4)).tmod 2 = 1 := by decide +kernel
theorem ritz : ∀ k : Nat, k < 31 → ¬ k / 4 % 2 = 1 → (RowKit.wrap64 ((k : Int).tdiv 4)).tmod 2 = 0 := by decide +kernel
theorem rity2 : ∀ k : Nat, k < 31 → k / 2 % 2 = 1 → (RowKit.wrap64 ((k : Int).tdiv 2)).tmod 2 = 1 := by decide +kernel
theorem ritz2 : ∀ k : Nat, k < 31 → ¬ k / 2 % 2 = 1 → (RowKit.wrap64 ((k : Int).tdiv 2)).tmod 2 = 0 := by decide +kernel

theorem bytV_lr (V : Vr) (m : Nat) : (bytV V m).2.l = V.l := by
  unfold bytV
  by_cases h : V.fault = 0
  · rw [if_pos h]
    by_cases h2 : V.l.length - V.at_ < m
    · rw [if_pos h2]
    · rw [if_neg h2]
  · rw [if_neg h]
theorem ritd {t n d : Nat} (h : t ≤ n) (hn : n < 9223372036854775808) (hd : d = n - t) : IntKind.i64.wrap ((n : Int) - (t : Int)) = (d : Int) ∧ RowKit.wrap64 ((n : Int) - (t : Int)) = (d : Int) := by
  rw [IntKind.wrap_i64]; unfold RowKit.wrap64; omega

theorem ritm {i : Nat} (h : i ≤ 3) (h2 : ¬ i = 3) : i = 0 ∨ i = 1 ∨ i = 2 := by omega
def RMRel (w : World) (B g gf : Nat) (a : Option Addr) (c : Nat) (R : Rs) (v : Value) (wr : World) : Prop :=
  ∃ (i : Nat) (V : Vr) (f : Fm) (fa : FA), v = .int .i64 (i : Int) ∧ i ≤ 3 ∧ SR wr B g gf a c V f fa ∧ Kept (fun k => k = g ∨ k = gf) w wr ∧ R = rMk (3 - i) V f

set_option maxRecDepth 100000 in
set_option maxHeartbeats 4000000 in
theorem ritem_101 (w : World) {B g gf : Nat} {a : Option Addr} {c : Nat} {V : Vr} {f : Fm} {fa : FA} (h : SR w B g gf a c V f fa) (hB : B ≤ w.heap.size) (hl : V.l.length ≤ 140737488351232) (k : Nat) :
    Calls Try.prog 56 #[.pointer (some ⟨g, 0, none⟩), .pointer (some ⟨gf, 0, none⟩), .int .u8 101, .int .i64 (k : Int)] w (ItemR w B g gf a c (rItem 101 k V f)) := by
  have HG := Lib.hid h
  have HB := Lib.hid hB
  have HL := Lib.hid hl

  have HR : Hid (rItem 101 k V f = rMk 3 V f) := Lib.hid (by unfold rItem; simp)
  clear h hB hl
  go_enter Try.func56, Try.ntmps56
  go_wp2_with fail
  go_loopw [10] (fun v wr => RMRel w B g gf a c (rItem 101 k V f) v wr) (fun v _ => 3 - (intOf v).toNat)
  case atStart => exact ⟨0, V, f, fa, rfl, by decide, HG.out, Kept.refl _ _, HR.out⟩
  case round =>
    obtain ⟨i, V1, f1, fa1, rfl, hi, hG, hK, hR⟩ := hrel
    have HGr := Lib.hid hG
    have HKr := Lib.hid hK
    have HRr := Lib.hid hR
    clear hG hK hR
    by_cases hi3 : i = 3
    · subst hi3
      clear hi
      go_wp2
      go_ret
      rw [show rItem 101 k V f = ⟨0, f1, V1⟩ from HRr.out]
      exact ⟨rfl, HKr.out, fa1, HGr.out⟩
    obtain rfl | rfl | rfl : i = 0 ∨ i = 1 ∨ i = 2 := ritm hi hi3
    · clear hi hi3
      have HN := Lib.hid (rnumber_any wr.drew HGr.out.drew.rv)
      have HGd := Lib.hid HGr.out.drew
      have HKd : Hid (Kept (fun k => k = g ∨ k = gf) w wr.drew) := Lib.hid (HKr.out.trans (Kept.drew (fun k => k = g) wr) (fun _ _ h => .inl h))
      obtain ⟨r, hr⟩ : ∃ r, r = numV V1 := ⟨_, rfl⟩
      have HR2 : Hid (rItem 101 k V f = rMk 2 r.2 { f1 with e0 := (r.1 : Int) }) := Lib.hid (by rw [HRr.out, hr]; rfl)
      rw [← hr] at HN
      obtain ⟨x, V2⟩ := r
      clear hr
      go_upto_region 28 with fail
      refine Mx.region [] (fun _ => True) (by kernel_rfl) (by kernel_rfl) trivial ?_
      repeat (refine Mx.quietly rfl ?_; go_big_quiet_want; go_big_quiet_op; go_big_quiet_on; refine Mx.done ?_)
      refine Mx.loudly (by kernel_rfl) (by kernel_rfl) ?_
      go_wp2_with fail
      refine HN.out.mono ?_
      rintro e w2 ⟨rfl, hk2, hV2⟩
      have h2 := HGd.out.call hk2 hV2
      have c2 := h2.box.cell 10 rfl
      have b2 := h2.box.free 10
      have HG2 := Lib.hid (h2.int (f' := { f1 with e0 := (x : Int) }) 10 (.int .i64 (x : Int)) rfl rfl rfl rfl)
      have HK2 : Hid (Kept (fun k => k = g ∨ k = gf) w (w2.setCell ⟨gf, 10, none⟩ (.int .i64 (x : Int)))) := Lib.hid ((kept_rcall HKd.out hk2).trans (Kept.set w2 gf 10 _) (fun _ _ h => .inr h))
      clear hk2 hV2 h2
      go_wp2_with fail
      (try (refine ⟨trivial, ?_⟩))
      repeat (refine Mx.quietly rfl ?_; go_big_quiet_want; go_big_quiet_op; go_big_quiet_on; refine Mx.done ?_)
      refine Mx.loudly (by kernel_rfl) (by kernel_rfl) ?_
      go_wp2_with fail
      (try (refine ⟨trivial, ?_⟩))
      refine Mx.nil ?_
      obtain ⟨w3, hw3⟩ : ∃ w3, w3 = w2.setCell ⟨gf, 10, none⟩ (.int .i64 (x : Int)) := ⟨_, rfl⟩
      rw [← hw3] at HG2 HK2 ⊢
      clear hw3 c2 b2
      go_wp2_with fail
      go_roundw
      case rel => exact ⟨1, V2, _, fa1, rfl, by decide, HG2.out, HK2.out, HR2.out⟩
      case measure => decide
    · clear hi hi3
      have HN := Lib.hid (rnumber_any wr.drew HGr.out.drew.rv)
      have HGd := Lib.hid HGr.out.drew
      have HKd : Hid (Kept (fun k => k = g ∨ k = gf) w wr.drew) := Lib.hid (HKr.out.trans (Kept.drew (fun k => k = g) wr) (fun _ _ h => .inl h))
      obtain ⟨r, hr⟩ : ∃ r, r = numV V1 := ⟨_, rfl⟩
      have HR2 : Hid (rItem 101 k V f = rMk 1 r.2 { f1 with e1 := (r.1 : Int) }) := Lib.hid (by rw [HRr.out, hr]; rfl)
      rw [← hr] at HN
      obtain ⟨x, V2⟩ := r
      clear hr
      go_upto_region 28 with fail
      refine Mx.region [] (fun _ => True) (by kernel_rfl) (by kernel_rfl) trivial ?_
      repeat (refine Mx.quietly rfl ?_; go_big_quiet_want; go_big_quiet_op; go_big_quiet_on; refine Mx.done ?_)
      refine Mx.loudly (by kernel_rfl) (by kernel_rfl) ?_
      go_wp2_with fail
      refine HN.out.mono ?_
      rintro e w2 ⟨rfl, hk2, hV2⟩
      have h2 := HGd.out.call hk2 hV2
      have c2 := h2.box.cell 11 rfl
      have b2 := h2.box.free 11
      have HG2 := Lib.hid (h2.int (f' := { f1 with e1 := (x : Int) }) 11 (.int .i64 (x : Int)) rfl rfl rfl rfl)
      have HK2 : Hid (Kept (fun k => k = g ∨ k = gf) w (w2.setCell ⟨gf, 11, none⟩ (.int .i64 (x : Int)))) := Lib.hid ((kept_rcall HKd.out hk2).trans (Kept.set w2 gf 11 _) (fun _ _ h => .inr h))
      clear hk2 hV2 h2
      go_wp2_with fail
      (try (refine ⟨trivial, ?_⟩))
      repeat (refine Mx.quietly rfl ?_; go_big_quiet_want; go_big_quiet_op; go_big_quiet_on; refine Mx.done ?_)
      refine Mx.loudly (by kernel_rfl) (by kernel_rfl) ?_
      go_wp2_with fail
      (try (refine ⟨trivial, ?_⟩))
      refine Mx.nil ?_
      obtain ⟨w3, hw3⟩ : ∃ w3, w3 = w2.setCell ⟨gf, 11, none⟩ (.int .i64 (x : Int)) := ⟨_, rfl⟩
      rw [← hw3] at HG2 HK2 ⊢
      clear hw3 c2 b2
      go_wp2_with fail
      go_roundw
      case rel => exact ⟨2, V2, _, fa1, rfl, by decide, HG2.out, HK2.out, HR2.out⟩
      case measure => decide
    · clear hi hi3
      have HN := Lib.hid (rnumber_any wr.drew HGr.out.drew.rv)
      have HGd := Lib.hid HGr.out.drew
      have HKd : Hid (Kept (fun k => k = g ∨ k = gf) w wr.drew) := Lib.hid (HKr.out.trans (Kept.drew (fun k => k = g) wr) (fun _ _ h => .inl h))
      obtain ⟨r, hr⟩ : ∃ r, r = numV V1 := ⟨_, rfl⟩
      have HR2 : Hid (rItem 101 k V f = rMk 0 r.2 { f1 with e2 := (r.1 : Int) }) := Lib.hid (by rw [HRr.out, hr]; rfl)
      rw [← hr] at HN
      obtain ⟨x, V2⟩ := r
      clear hr
      go_upto_region 28 with fail
      refine Mx.region [] (fun _ => True) (by kernel_rfl) (by kernel_rfl) trivial ?_
      repeat (refine Mx.quietly rfl ?_; go_big_quiet_want; go_big_quiet_op; go_big_quiet_on; refine Mx.done ?_)
      refine Mx.loudly (by kernel_rfl) (by kernel_rfl) ?_
      go_wp2_with fail
      refine HN.out.mono ?_
      rintro e w2 ⟨rfl, hk2, hV2⟩
      have h2 := HGd.out.call hk2 hV2
      have c2 := h2.box.cell 12 rfl
      have b2 := h2.box.free 12
      have HG2 := Lib.hid (h2.int (f' := { f1 with e2 := (x : Int) }) 12 (.int .i64 (x : Int)) rfl rfl rfl rfl)
      have HK2 : Hid (Kept (fun k => k = g ∨ k = gf) w (w2.setCell ⟨gf, 12, none⟩ (.int .i64 (x : Int)))) := Lib.hid ((kept_rcall HKd.out hk2).trans (Kept.set w2 gf 12 _) (fun _ _ h => .inr h))
      clear hk2 hV2 h2
      go_wp2_with fail
      (try (refine ⟨trivial, ?_⟩))
      repeat (refine Mx.quietly rfl ?_; go_big_quiet_want; go_big_quiet_op; go_big_quiet_on; refine Mx.done ?_)
      refine Mx.loudly (by kernel_rfl) (by kernel_rfl) ?_
      go_wp2_with fail
      (try (refine ⟨trivial, ?_⟩))
      refine Mx.nil ?_
      obtain ⟨w3, hw3⟩ : ∃ w3, w3 = w2.setCell ⟨gf, 12, none⟩ (.int .i64 (x : Int)) := ⟨_, rfl⟩
      rw [← hw3] at HG2 HK2 ⊢
      clear hw3 c2 b2
      go_wp2_with fail
      go_roundw
      case rel => exact ⟨3, V2, _, fa1, rfl, by decide, HG2.out, HK2.out, HR2.out⟩
      case measure => decide
set_option maxRecDepth 100000 in
set_option maxHeartbeats 4000000 in
theorem ritem_116 (w : World) {B g gf : Nat} {a : Option Addr} {c : Nat} {V : Vr} {f : Fm} {fa : FA} (h : SR w B g gf a c V f fa) (hB : B ≤ w.heap.size) (hl : V.l.length ≤ 140737488351232) (k : Nat) :
    Calls Try.prog 56 #[.pointer (some ⟨g, 0, none⟩), .pointer (some ⟨gf, 0, none⟩), .int .u8 116, .int .i64 (k : Int)] w (ItemR w B g gf a c (rItem 116 k V f)) := by
  have HG := Lib.hid h
  have HB := Lib.hid hB
  have HL := Lib.hid hl

  have HN := Lib.hid (rbytes_any w h.rv hl 16)
  have HR : Hid (rItem 116 k V f = ⟨0, { f with data := (bytV V 16).1 }, (bytV V 16).2⟩) := Lib.hid (by unfold rItem; simp [rDat])
  obtain ⟨r, hr⟩ : ∃ r, r = bytV V 16 := ⟨_, rfl⟩
  rw [← hr] at HN HR
  obtain ⟨y, V2⟩ := r
  clear h hB hl hr
  go_enter Try.func56, Try.ntmps56
  go_wp2_with fail
  refine HN.out.mono ?_
  rintro e w2 ⟨ra, rc, he, ho2, hk2, hV2⟩
  have h2 := HG.out.call hk2 hV2
  obtain ⟨ln, hln⟩ : ∃ ln, ln = y.length := ⟨_, rfl⟩
  obtain rfl : e = .returned (.slice ra ln rc) := by rw [hln]; exact he
  have c2 := h2.box.cell 6 rfl
  have b2 := h2.box.free 6
  have HG2 : Hid (SR (w2.setCell ⟨gf, 6, none⟩ (.slice ra ln rc)) B g gf a c V2 { f with data := y } { fa with da := ra, dc := rc }) := Lib.hid (h2.put (f' := { f with data := y }) (fa' := { fa with da := ra, dc := rc }) 6 (.slice ra ln rc) (by rw [hln]; rfl) ⟨own_mono ho2 HB.out, h2.own.cid, h2.own.spans⟩)
  have HK3 : Hid (Kept (fun k => k = g ∨ k = gf) w (w2.setCell ⟨gf, 6, none⟩ (.slice ra ln rc))) := Lib.hid ((hk2.more (fun _ _ h => .inl h)).trans (Kept.set w2 gf 6 _) (fun _ _ h => .inr h))
  clear hk2 hV2 h2 ho2 he hln
  go_wp2
  go_ret
  rw [HR.out]
  exact ⟨rfl, HK3.out, _, HG2.out⟩
set_option maxRecDepth 100000 in
set_option maxHeartbeats 4000000 in
theorem ritem_112 (w : World) {B g gf : Nat} {a : Option Addr} {c : Nat} {V : Vr} {f : Fm} {fa : FA} (h : SR w B g gf a c V f fa) (hB : B ≤ w.heap.size) (hl : V.l.length ≤ 140737488351232) (k : Nat) :
    Calls Try.prog 56 #[.pointer (some ⟨g, 0, none⟩), .pointer (some ⟨gf, 0, none⟩), .int .u8 112, .int .i64 (k : Int)] w (ItemR w B g gf a c (rItem 112 k V f)) := by
  have HG := Lib.hid h
  have HB := Lib.hid hB
  have HL := Lib.hid hl

  have HN := Lib.hid (rbytes_any w h.rv hl 8)
  have HR : Hid (rItem 112 k V f = ⟨0, { f with data := (bytV V 8).1 }, (bytV V 8).2⟩) := Lib.hid (by unfold rItem; simp [rDat])
  obtain ⟨r, hr⟩ : ∃ r, r = bytV V 8 := ⟨_, rfl⟩
  rw [← hr] at HN HR
  obtain ⟨y, V2⟩ := r
  clear h hB hl hr
  go_enter Try.func56, Try.ntmps56
  go_wp2_with fail
  refine HN.out.mono ?_
  rintro e w2 ⟨ra, rc, he, ho2, hk2, hV2⟩
  have h2 := HG.out.call hk2 hV2
  obtain ⟨ln, hln⟩ : ∃ ln, ln = y.length := ⟨_, rfl⟩
  obtain rfl : e = .returned (.slice ra ln rc) := by rw [hln]; exact he
  have c2 := h2.box.cell 6 rfl
  have b2 := h2.box.free 6
  have HG2 : Hid (SR (w2.setCell ⟨gf, 6, none⟩ (.slice ra ln rc)) B g gf a c V2 { f with data := y } { fa with da := ra, dc := rc }) := Lib.hid (h2.put (f' := { f with data := y }) (fa' := { fa with da := ra, dc := rc }) 6 (.slice ra ln rc) (by rw [hln]; rfl) ⟨own_mono ho2 HB.out, h2.own.cid, h2.own.spans⟩)
  have HK3 : Hid (Kept (fun k => k = g ∨ k = gf) w (w2.setCell ⟨gf, 6, none⟩ (.slice ra ln rc))) := Lib.hid ((hk2.more (fun _ _ h => .inl h)).trans (Kept.set w2 gf 6 _) (fun _ _ h => .inr h))
  clear hk2 hV2 h2 ho2 he hln
  go_wp2
  go_ret
  rw [HR.out]
  exact ⟨rfl, HK3.out, _, HG2.out⟩
set_option maxRecDepth 100000 in
set_option maxHeartbeats 4000000 in
theorem ritem_107 (w : World) {B g gf : Nat} {a : Option Addr} {c : Nat} {V : Vr} {f : Fm} {fa : FA} (h : SR w B g gf a c V f fa) (hB : B ≤ w.heap.size) (hl : V.l.length ≤ 140737488351232) (k : Nat) :
    Calls Try.prog 56 #[.pointer (some ⟨g, 0, none⟩), .pointer (some ⟨gf, 0, none⟩), .int .u8 107, .int .i64 (k : Int)] w (ItemR w B g gf a c (rItem 107 k V f)) := by
  have HG := Lib.hid h
  have HB := Lib.hid hB
  have HL := Lib.hid hl

  have HN := Lib.hid (rbyte_any w h.rv hl)
  have HR : Hid (rItem 107 k V f = ⟨0, { f with cid := (bytV (rbyV V).2 (rbyV V).1).1 }, (bytV (rbyV V).2 (rbyV V).1).2⟩) := Lib.hid (by unfold rItem; simp)
  have HL1 : Hid ((rbyV V).2.l.length ≤ 140737488351232) := Lib.hid (by rw [show (rbyV V).2.l = V.l from bytV_lr V 1]; exact hl)
  obtain ⟨r1, hr1⟩ : ∃ r1, r1 = rbyV V := ⟨_, rfl⟩
  rw [← hr1] at HN HR HL1
  obtain ⟨m, V1⟩ := r1
  clear h hB hl hr1
  go_enter Try.func56, Try.ntmps56
  go_wp2_with fail
  refine HN.out.mono ?_
  rintro e w1 ⟨rfl, hk1, hV1⟩
  have HG1 := Lib.hid (HG.out.call hk1 hV1)
  have HK1 : Hid (Kept (fun k => k = g ∨ k = gf) w w1) := Lib.hid (hk1.more (fun _ _ h => .inl h))
  have HN2 := Lib.hid (rbytes_any w1 hV1 HL1.out m)
  have HR2 : Hid (rItem 107 k V f = ⟨0, { f with cid := (bytV V1 m).1 }, (bytV V1 m).2⟩) := Lib.hid HR.out
  clear hk1 hV1 HR
  obtain ⟨r, hr⟩ : ∃ r, r = bytV V1 m := ⟨_, rfl⟩
  rw [← hr] at HN2 HR2
  obtain ⟨y, V2⟩ := r
  have HR := Lib.hid HR2.out
  clear hr HR2
  go_wp2_with fail
  refine HN2.out.mono ?_
  rintro e w2 ⟨ra, rc, he, ho2, hk2, hV2⟩
  have ho2 := own_mono (B' := w.heap.size) ho2 HK1.out.size
  have h2 := HG1.out.call hk2 hV2
  obtain ⟨ln, hln⟩ : ∃ ln, ln = y.length := ⟨_, rfl⟩
  obtain rfl : e = .returned (.slice ra ln rc) := by rw [hln]; exact he
  have c2 := h2.box.cell 7 rfl
  have b2 := h2.box.free 7
  have HG2 : Hid (SR (w2.setCell ⟨gf, 7, none⟩ (.slice ra ln rc)) B g gf a c V2 { f with cid := y } { fa with ca := ra, cc := rc }) := Lib.hid (h2.put (f' := { f with cid := y }) (fa' := { fa with ca := ra, cc := rc }) 7 (.slice ra ln rc) (by rw [hln]; rfl) ⟨h2.own.data, own_mono ho2 HB.out, h2.own.spans⟩)
  have HK3 : Hid (Kept (fun k => k = g ∨ k = gf) w (w2.setCell ⟨gf, 7, none⟩ (.slice ra ln rc))) := Lib.hid ((kept_rcall HK1.out hk2).trans (Kept.set w2 gf 7 _) (fun _ _ h => .inr h))
  clear hk2 hV2 h2 ho2 he hln
  go_wp2
  go_ret
  rw [HR.out]
  exact ⟨rfl, HK3.out, _, HG2.out⟩
set_option maxRecDepth 100000 in
set_option maxHeartbeats 4000000 in
theorem ritem_100x (w : World) {B g gf : Nat} {a : Option Addr} {c : Nat} {V : Vr} {f : Fm} {fa : FA} (h : SR w B g gf a c V f fa) (hB : B ≤ w.heap.size) (hl : V.l.length ≤ 140737488351232) (k : Nat) (hk : ¬ f.kind = 8) :
    Calls Try.prog 56 #[.pointer (some ⟨g, 0, none⟩), .pointer (some ⟨gf, 0, none⟩), .int .u8 100, .int .i64 (k : Int)] w (ItemR w B g gf a c (rItem 100 k V f)) := by
  have HG := Lib.hid h
  have HB := Lib.hid hB
  have HL := Lib.hid hl

  have k0 := h.box.cell 0 rfl
  obtain ⟨fk, hfk⟩ : ∃ fk, fk = f.kind := ⟨_, rfl⟩
  have HKd : Hid (¬ f.kind = 8) := Lib.hid hk
  rw [← hfk] at k0 hk
  have y0 : (fk == 8) = false := by simpa using hk
  have HFk := Lib.hid hfk
  clear hfk
  have HGd := Lib.hid h.drew
  obtain ⟨n, hn⟩ : ∃ n, n = V.l.length := ⟨_, rfl⟩
  obtain ⟨t, ht⟩ : ∃ t, t = V.at_ := ⟨_, rfl⟩
  have HSat : Hid (Sat [(⟨g, 0, none⟩, .slice a n c), (⟨g, 1, none⟩, .int .i64 (t : Int))] w.drew) := Lib.hid (by
    rw [hn, ht]
    exact Sat.cons (HGd.out.rv.has.cell 0 rfl) (Sat.cons (HGd.out.rv.has.cell 1 rfl) (Sat.nil _)))
  obtain ⟨d, hd⟩ : ∃ d, d = n - t := ⟨_, rfl⟩
  obtain ⟨z1, z2⟩ := ritd (show t ≤ n by rw [hn, ht]; exact h.rv.le) (show n < 9223372036854775808 by rw [hn]; exact h.rv.big) hd
  have HDd : Hid (d = V.l.length - V.at_) := Lib.hid (by rw [hd, hn, ht])
  clear hn ht hd h hB hl hk
  go_enter Try.func56, Try.ntmps56
  go_upto_region 12 with fail
  refine Mx.region [] (Sat [(⟨g, 0, none⟩, .slice a n c), (⟨g, 1, none⟩, .int .i64 (t : Int))]) (by kernel_rfl) (by kernel_rfl) HSat.out ?_
  repeat ((first | (refine Mx.skips (by kernel_rfl) ?_; go_big_quiet_skip) | (refine Mx.quietly rfl ?_; go_big_quiet_want; go_big_quiet_op; go_big_quiet_on)); refine Mx.done ?_)
  refine Mx.cell ⟨g, 0, none⟩ (.slice a n c) (by kernel_rfl) (by kernel_rfl) (by kernel_rfl) Try.isAgg22 (fun w' h => h 0 _ _ rfl) ?_; go_big_quiet_want; go_big_quiet_op; go_big_quiet_on; refine Mx.done ?_
  repeat ((first | (refine Mx.skips (by kernel_rfl) ?_; go_big_quiet_skip) | (refine Mx.quietly rfl ?_; go_big_quiet_want; go_big_quiet_op; go_big_quiet_on)); refine Mx.done ?_)
  refine Mx.cell ⟨g, 1, none⟩ (.int .i64 (t : Int)) (by kernel_rfl) (by kernel_rfl) (by kernel_rfl) Try.isAgg3 (fun w' h => h 1 _ _ rfl) ?_; go_big_quiet_want; go_big_quiet_op; go_big_quiet_on; refine Mx.done ?_
  repeat ((first | (refine Mx.skips (by kernel_rfl) ?_; go_big_quiet_skip) | (refine Mx.quietly rfl ?_; go_big_quiet_want; go_big_quiet_op; go_big_quiet_on)); refine Mx.done ?_)
  refine Mx.nil ?_
  obtain ⟨w0, hw0⟩ : ∃ w0, w0 = w.drew := ⟨_, rfl⟩
  have HKd0 : Hid (Kept (fun k => k = g ∨ k = gf) w w0) := Lib.hid (by rw [hw0]; exact Kept.drew _ _)
  rw [← hw0] at HGd ⊢
  clear hw0 HSat z1 z2 k0
  have k0 := HGd.out.box.cell 0 rfl
  rw [show f.kind = fk from HFk.out.symm] at k0
  have HN := Lib.hid (rnumber_any w0 HGd.out.rv)
  have HR0 : Hid (rItem 100 k V f = rDat (numV V).2 f (numV V).1) := Lib.hid (by unfold rItem; simp [HKd.out])
  have HL1 : Hid ((numV V).2.l.length ≤ 140737488351232) := Lib.hid (by rw [(numV_le V).1]; exact HL.out)
  obtain ⟨r1, hr1⟩ : ∃ r1, r1 = numV V := ⟨_, rfl⟩
  rw [← hr1] at HN HR0 HL1
  obtain ⟨m, V1⟩ := r1
  clear hr1
  go_wp2_with fail
  refine HN.out.mono ?_
  rintro e w1 ⟨rfl, hk1, hV1⟩
  have HG1 := Lib.hid (HGd.out.call hk1 hV1)
  have HK1 : Hid (Kept (fun k => k = g ∨ k = gf) w w1) := Lib.hid (kept_rcall HKd0.out hk1)
  have HN2 := Lib.hid (rbytes_any w1 hV1 HL1.out m)
  clear hk1 hV1 k0
  have HR2 : Hid (rItem 100 k V f = ⟨0, { f with data := (bytV V1 m).1 }, (bytV V1 m).2⟩) := Lib.hid HR0.out
  obtain ⟨r, hr⟩ : ∃ r, r = bytV V1 m := ⟨_, rfl⟩
  rw [← hr] at HN2 HR2
  obtain ⟨y, V2⟩ := r
  have HR := Lib.hid HR2.out
  clear hr HR2 HR0
  go_wp2_with fail
  refine HN2.out.mono ?_
  rintro e w2 ⟨ra, rc, he, ho2, hk2, hV2⟩
  have ho2 := own_mono (B' := w.heap.size) ho2 HK1.out.size
  have h2 := HG1.out.call hk2 hV2
  obtain ⟨ln, hln⟩ : ∃ ln, ln = y.length := ⟨_, rfl⟩
  obtain rfl : e = .returned (.slice ra ln rc) := by rw [hln]; exact he
  have c2 := h2.box.cell 6 rfl
  have b2 := h2.box.free 6
  have HG2 : Hid (SR (w2.setCell ⟨gf, 6, none⟩ (.slice ra ln rc)) B g gf a c V2 { f with data := y } { fa with da := ra, dc := rc }) := Lib.hid (h2.put (f' := { f with data := y }) (fa' := { fa with da := ra, dc := rc }) 6 (.slice ra ln rc) (by rw [hln]; rfl) ⟨own_mono ho2 HB.out, h2.own.cid, h2.own.spans⟩)
  have HK3 : Hid (Kept (fun k => k = g ∨ k = gf) w (w2.setCell ⟨gf, 6, none⟩ (.slice ra ln rc))) := Lib.hid ((kept_rcall HK1.out hk2).trans (Kept.set w2 gf 6 _) (fun _ _ h => .inr h))
  clear hk2 hV2 h2 ho2 he hln
  go_wp2
  go_ret
  rw [HR.out]
  exact ⟨rfl, HK3.out, _, HG2.out⟩
set_option maxRecDepth 100000 in
set_option maxHeartbeats 4000000 in
theorem ritem_100y (w : World) {B g gf : Nat} {a : Option Addr} {c : Nat} {V : Vr} {f : Fm} {fa : FA} (h : SR w B g gf a c V f fa) (hB : B ≤ w.heap.size) (hl : V.l.length ≤ 140737488351232) (k : Nat) (hk : f.kind = 8) (hk2 : k / 2 % 2 = 1) (hk31 : k < 31) :
    Calls Try.prog 56 #[.pointer (some ⟨g, 0, none⟩), .pointer (some ⟨gf, 0, none⟩), .int .u8 100, .int .i64 (k : Int)] w (ItemR w B g gf a c (rItem 100 k V f)) := by
  have HG := Lib.hid h
  have HB := Lib.hid hB
  have HL := Lib.hid hl

  have k0 := h.box.cell 0 rfl
  have HKd : Hid (f.kind = 8) := Lib.hid hk
  have HK2 := Lib.hid hk2
  rw [hk] at k0
  have y0 := rity2 k hk31 hk2
  obtain ⟨kk, hkk⟩ : ∃ kk : Int, kk = (k : Int) := ⟨_, rfl⟩
  rw [← hkk] at y0 ⊢
  clear hkk hk2 hk31
  have HGd := Lib.hid h.drew
  obtain ⟨n, hn⟩ : ∃ n, n = V.l.length := ⟨_, rfl⟩
  obtain ⟨t, ht⟩ : ∃ t, t = V.at_ := ⟨_, rfl⟩
  have HSat : Hid (Sat [(⟨g, 0, none⟩, .slice a n c), (⟨g, 1, none⟩, .int .i64 (t : Int))] w.drew) := Lib.hid (by
    rw [hn, ht]
    exact Sat.cons (HGd.out.rv.has.cell 0 rfl) (Sat.cons (HGd.out.rv.has.cell 1 rfl) (Sat.nil _)))
  obtain ⟨d, hd⟩ : ∃ d, d = n - t := ⟨_, rfl⟩
  obtain ⟨z1, z2⟩ := ritd (show t ≤ n by rw [hn, ht]; exact h.rv.le) (show n < 9223372036854775808 by rw [hn]; exact h.rv.big) hd
  have HDd : Hid (d = V.l.length - V.at_) := Lib.hid (by rw [hd, hn, ht])
  clear hn ht hd h hB hl hk
  go_enter Try.func56, Try.ntmps56
  go_upto_region 12 with fail
  refine Mx.region [] (Sat [(⟨g, 0, none⟩, .slice a n c), (⟨g, 1, none⟩, .int .i64 (t : Int))]) (by kernel_rfl) (by kernel_rfl) HSat.out ?_
  repeat ((first | (refine Mx.skips (by kernel_rfl) ?_; go_big_quiet_skip) | (refine Mx.quietly rfl ?_; go_big_quiet_want; go_big_quiet_op; go_big_quiet_on)); refine Mx.done ?_)
  refine Mx.cell ⟨g, 0, none⟩ (.slice a n c) (by kernel_rfl) (by kernel_rfl) (by kernel_rfl) Try.isAgg22 (fun w' h => h 0 _ _ rfl) ?_; go_big_quiet_want; go_big_quiet_op; go_big_quiet_on; refine Mx.done ?_
  repeat ((first | (refine Mx.skips (by kernel_rfl) ?_; go_big_quiet_skip) | (refine Mx.quietly rfl ?_; go_big_quiet_want; go_big_quiet_op; go_big_quiet_on)); refine Mx.done ?_)
  refine Mx.cell ⟨g, 1, none⟩ (.int .i64 (t : Int)) (by kernel_rfl) (by kernel_rfl) (by kernel_rfl) Try.isAgg3 (fun w' h => h 1 _ _ rfl) ?_; go_big_quiet_want; go_big_quiet_op; go_big_quiet_on; refine Mx.done ?_
  repeat ((first | (refine Mx.skips (by kernel_rfl) ?_; go_big_quiet_skip) | (refine Mx.quietly rfl ?_; go_big_quiet_want; go_big_quiet_op; go_big_quiet_on)); refine Mx.done ?_)
  refine Mx.nil ?_
  obtain ⟨w0, hw0⟩ : ∃ w0, w0 = w.drew := ⟨_, rfl⟩
  have HKd0 : Hid (Kept (fun k => k = g ∨ k = gf) w w0) := Lib.hid (by rw [hw0]; exact Kept.drew _ _)
  rw [← hw0] at HGd ⊢
  clear hw0 HSat z1 z2 k0
  have k0 := HGd.out.box.cell 0 rfl
  rw [HKd.out] at k0
  have HN := Lib.hid (rnumber_any w0 HGd.out.rv)
  have HR0 : Hid (rItem 100 k V f = rDat (numV V).2 f (numV V).1) := Lib.hid (by unfold rItem; simp [HKd.out, HK2.out])
  have HL1 : Hid ((numV V).2.l.length ≤ 140737488351232) := Lib.hid (by rw [(numV_le V).1]; exact HL.out)
  obtain ⟨r1, hr1⟩ : ∃ r1, r1 = numV V := ⟨_, rfl⟩
  rw [← hr1] at HN HR0 HL1
  obtain ⟨m, V1⟩ := r1
  clear hr1
  go_wp2_with fail
  refine HN.out.mono ?_
  rintro e w1 ⟨rfl, hk1, hV1⟩
  have HG1 := Lib.hid (HGd.out.call hk1 hV1)
  have HK1 : Hid (Kept (fun k => k = g ∨ k = gf) w w1) := Lib.hid (kept_rcall HKd0.out hk1)
  have HN2 := Lib.hid (rbytes_any w1 hV1 HL1.out m)
  clear hk1 hV1 k0
  have HR2 : Hid (rItem 100 k V f = ⟨0, { f with data := (bytV V1 m).1 }, (bytV V1 m).2⟩) := Lib.hid HR0.out
  obtain ⟨r, hr⟩ : ∃ r, r = bytV V1 m := ⟨_, rfl⟩
  rw [← hr] at HN2 HR2
  obtain ⟨y, V2⟩ := r
  have HR := Lib.hid HR2.out
  clear hr HR2 HR0
  go_wp2_with fail
  refine HN2.out.mono ?_
  rintro e w2 ⟨ra, rc, he, ho2, hk2, hV2⟩
  have ho2 := own_mono (B' := w.heap.size) ho2 HK1.out.size
  have h2 := HG1.out.call hk2 hV2
  obtain ⟨ln, hln⟩ : ∃ ln, ln = y.length := ⟨_, rfl⟩
  obtain rfl : e = .returned (.slice ra ln rc) := by rw [hln]; exact he
  have c2 := h2.box.cell 6 rfl
  have b2 := h2.box.free 6
  have HG2 : Hid (SR (w2.setCell ⟨gf, 6, none⟩ (.slice ra ln rc)) B g gf a c V2 { f with data := y } { fa with da := ra, dc := rc }) := Lib.hid (h2.put (f' := { f with data := y }) (fa' := { fa with da := ra, dc := rc }) 6 (.slice ra ln rc) (by rw [hln]; rfl) ⟨own_mono ho2 HB.out, h2.own.cid, h2.own.spans⟩)
  have HK3 : Hid (Kept (fun k => k = g ∨ k = gf) w (w2.setCell ⟨gf, 6, none⟩ (.slice ra ln rc))) := Lib.hid ((kept_rcall HK1.out hk2).trans (Kept.set w2 gf 6 _) (fun _ _ h => .inr h))
  clear hk2 hV2 h2 ho2 he hln
  go_wp2
  go_ret
  rw [HR.out]
  exact ⟨rfl, HK3.out, _, HG2.out⟩
set_option maxRecDepth 100000 in
set_option maxHeartbeats 4000000 in
theorem ritem_100z (w : World) {B g gf : Nat} {a : Option Addr} {c : Nat} {V : Vr} {f : Fm} {fa : FA} (h : SR w B g gf a c V f fa) (hB : B ≤ w.heap.size) (hl : V.l.length ≤ 140737488351232) (k : Nat) (hk : f.kind = 8) (hk2 : ¬ k / 2 % 2 = 1) (hk31 : k < 31) :
    Calls Try.prog 56 #[.pointer (some ⟨g, 0, none⟩), .pointer (some ⟨gf, 0, none⟩), .int .u8 100, .int .i64 (k : Int)] w (ItemR w B g gf a c (rItem 100 k V f)) := by
  have HG := Lib.hid h
  have HB := Lib.hid hB
  have HL := Lib.hid hl

  have k0 := h.box.cell 0 rfl
  have HKd : Hid (f.kind = 8) := Lib.hid hk
  have HK2 := Lib.hid hk2
  rw [hk] at k0
  have y0 := ritz2 k hk31 hk2
  obtain ⟨kk, hkk⟩ : ∃ kk : Int, kk = (k : Int) := ⟨_, rfl⟩
  rw [← hkk] at y0 ⊢
  clear hkk hk2 hk31
  have HGd := Lib.hid h.drew
  obtain ⟨n, hn⟩ : ∃ n, n = V.l.length := ⟨_, rfl⟩
  obtain ⟨t, ht⟩ : ∃ t, t = V.at_ := ⟨_, rfl⟩
  have HSat : Hid (Sat [(⟨g, 0, none⟩, .slice a n c), (⟨g, 1, none⟩, .int .i64 (t : Int))] w.drew) := Lib.hid (by
    rw [hn, ht]
    exact Sat.cons (HGd.out.rv.has.cell 0 rfl) (Sat.cons (HGd.out.rv.has.cell 1 rfl) (Sat.nil _)))
  obtain ⟨d, hd⟩ : ∃ d, d = n - t := ⟨_, rfl⟩
  obtain ⟨z1, z2⟩ := ritd (show t ≤ n by rw [hn, ht]; exact h.rv.le) (show n < 9223372036854775808 by rw [hn]; exact h.rv.big) hd
  have HDd : Hid (d = V.l.length - V.at_) := Lib.hid (by rw [hd, hn, ht])
  clear hn ht hd h hB hl hk
  go_enter Try.func56, Try.ntmps56
  go_upto_region 12 with fail
  refine Mx.region [] (Sat [(⟨g, 0, none⟩, .slice a n c), (⟨g, 1, none⟩, .int .i64 (t : Int))]) (by kernel_rfl) (by kernel_rfl) HSat.out ?_
  repeat ((first | (refine Mx.skips (by kernel_rfl) ?_; go_big_quiet_skip) | (refine Mx.quietly rfl ?_; go_big_quiet_want; go_big_quiet_op; go_big_quiet_on)); refine Mx.done ?_)
  refine Mx.cell ⟨g, 0, none⟩ (.slice a n c) (by kernel_rfl) (by kernel_rfl) (by kernel_rfl) Try.isAgg22 (fun w' h => h 0 _ _ rfl) ?_; go_big_quiet_want; go_big_quiet_op; go_big_quiet_on; refine Mx.done ?_
  repeat ((first | (refine Mx.skips (by kernel_rfl) ?_; go_big_quiet_skip) | (refine Mx.quietly rfl ?_; go_big_quiet_want; go_big_quiet_op; go_big_quiet_on)); refine Mx.done ?_)
  refine Mx.cell ⟨g, 1, none⟩ (.int .i64 (t : Int)) (by kernel_rfl) (by kernel_rfl) (by kernel_rfl) Try.isAgg3 (fun w' h => h 1 _ _ rfl) ?_; go_big_quiet_want; go_big_quiet_op; go_big_quiet_on; refine Mx.done ?_
  repeat ((first | (refine Mx.skips (by kernel_rfl) ?_; go_big_quiet_skip) | (refine Mx.quietly rfl ?_; go_big_quiet_want; go_big_quiet_op; go_big_quiet_on)); refine Mx.done ?_)
  refine Mx.nil ?_
  obtain ⟨w0, hw0⟩ : ∃ w0, w0 = w.drew := ⟨_, rfl⟩
  have HKd0 : Hid (Kept (fun k => k = g ∨ k = gf) w w0) := Lib.hid (by rw [hw0]; exact Kept.drew _ _)
  rw [← hw0] at HGd ⊢
  clear hw0 HSat z1 z2 k0
  have k0 := HGd.out.box.cell 0 rfl
  rw [HKd.out] at k0
  have HR0 : Hid (rItem 100 k V f = rDat V f d) := Lib.hid (by unfold rItem; simp [HKd.out, HK2.out, HDd.out])
  have HG1 := Lib.hid HGd.out
  have HK1 := Lib.hid HKd0.out
  have HN2 := Lib.hid (rbytes_any w0 HGd.out.rv HL.out d)
  have HR2 : Hid (rItem 100 k V f = ⟨0, { f with data := (bytV V d).1 }, (bytV V d).2⟩) := Lib.hid HR0.out
  obtain ⟨r, hr⟩ : ∃ r, r = bytV V d := ⟨_, rfl⟩
  rw [← hr] at HN2 HR2
  obtain ⟨y, V2⟩ := r
  have HR := Lib.hid HR2.out
  clear hr HR2 HR0
  go_wp2_with fail
  refine HN2.out.mono ?_
  rintro e w2 ⟨ra, rc, he, ho2, hk2, hV2⟩
  have ho2 := own_mono (B' := w.heap.size) ho2 HK1.out.size
  have h2 := HG1.out.call hk2 hV2
  obtain ⟨ln, hln⟩ : ∃ ln, ln = y.length := ⟨_, rfl⟩
  obtain rfl : e = .returned (.slice ra ln rc) := by rw [hln]; exact he
  have c2 := h2.box.cell 6 rfl
  have b2 := h2.box.free 6
  have HG2 : Hid (SR (w2.setCell ⟨gf, 6, none⟩ (.slice ra ln rc)) B g gf a c V2 { f with data := y } { fa with da := ra, dc := rc }) := Lib.hid (h2.put (f' := { f with data := y }) (fa' := { fa with da := ra, dc := rc }) 6 (.slice ra ln rc) (by rw [hln]; rfl) ⟨own_mono ho2 HB.out, h2.own.cid, h2.own.spans⟩)
  have HK3 : Hid (Kept (fun k => k = g ∨ k = gf) w (w2.setCell ⟨gf, 6, none⟩ (.slice ra ln rc))) := Lib.hid ((kept_rcall HK1.out hk2).trans (Kept.set w2 gf 6 _) (fun _ _ h => .inr h))
  clear hk2 hV2 h2 ho2 he hln
  go_wp2
  go_ret
  rw [HR.out]
  exact ⟨rfl, HK3.out, _, HG2.out⟩
set_option maxRecDepth 100000 in
set_option maxHeartbeats 4000000 in
theorem ritem_105 (w : World) {B g gf : Nat} {a : Option Addr} {c : Nat} {V : Vr} {f : Fm} {fa : FA} (h : SR w B g gf a c V f fa) (hB : B ≤ w.heap.size) (hl : V.l.length ≤ 140737488351232) (k : Nat) :
    Calls Try.prog 56 #[.pointer (some ⟨g, 0, none⟩), .pointer (some ⟨gf, 0, none⟩), .int .u8 105, .int .i64 (k : Int)] w (ItemR w B g gf a c (rItem 105 k V f)) := by
  have HG := Lib.hid h
  have HB := Lib.hid hB
  have HL := Lib.hid hl

  have HN := Lib.hid (rnumber_any w h.rv)
  have HR : Hid (rItem 105 k V f = ⟨0, { f with id := ((numV V).1 : Int) }, (numV V).2⟩) := Lib.hid (by unfold rItem; simp)
  obtain ⟨r, hr⟩ : ∃ r, r = numV V := ⟨_, rfl⟩
  rw [← hr] at HN HR
  obtain ⟨x, V2⟩ := r
  clear h hB hl hr
  go_enter Try.func56, Try.ntmps56
  go_wp2_with fail
  refine HN.out.mono ?_
  rintro e w2 ⟨rfl, hk2, hV2⟩
  have h2 := HG.out.call hk2 hV2
  have c2 := h2.box.cell 1 rfl
  have b2 := h2.box.free 1
  have HG2 := Lib.hid (h2.int (f' := { f with id := (x : Int) }) 1 (.int .i64 (x : Int)) rfl rfl rfl rfl)
  have HK2 : Hid (Kept (fun k => k = g ∨ k = gf) w (w2.setCell ⟨gf, 1, none⟩ (.int .i64 (x : Int)))) := Lib.hid ((hk2.more (fun _ _ h => .inl h)).trans (Kept.set w2 gf 1 _) (fun _ _ h => .inr h))
  clear hk2 hV2 h2
  go_wp2
  go_ret
  rw [HR.out]
  exact ⟨rfl, HK2.out, fa, HG2.out⟩
set_option maxRecDepth 100000 in
set_option maxHeartbeats 4000000 in
theorem ritem_110 (w : World) {B g gf : Nat} {a : Option Addr} {c : Nat} {V : Vr} {f : Fm} {fa : FA} (h : SR w B g gf a c V f fa) (hB : B ≤ w.heap.size) (hl : V.l.length ≤ 140737488351232) (k : Nat) :
    Calls Try.prog 56 #[.pointer (some ⟨g, 0, none⟩), .pointer (some ⟨gf, 0, none⟩), .int .u8 110, .int .i64 (k : Int)] w (ItemR w B g gf a c (rItem 110 k V f)) := by
  have HG := Lib.hid h
  have HB := Lib.hid hB
  have HL := Lib.hid hl

  have HN := Lib.hid (rnumber_any w h.rv)
  have HR : Hid (rItem 110 k V f = ⟨0, { f with n := ((numV V).1 : Int) }, (numV V).2⟩) := Lib.hid (by unfold rItem; simp)
  obtain ⟨r, hr⟩ : ∃ r, r = numV V := ⟨_, rfl⟩
  rw [← hr] at HN HR
  obtain ⟨x, V2⟩ := r
  clear h hB hl hr
  go_enter Try.func56, Try.ntmps56
  go_wp2_with fail
  refine HN.out.mono ?_
  rintro e w2 ⟨rfl, hk2, hV2⟩
  have h2 := HG.out.call hk2 hV2
  have c2 := h2.box.cell 3 rfl
  have b2 := h2.box.free 3
  have HG2 := Lib.hid (h2.int (f' := { f with n := (x : Int) }) 3 (.int .i64 (x : Int)) rfl rfl rfl rfl)
  have HK2 : Hid (Kept (fun k => k = g ∨ k = gf) w (w2.setCell ⟨gf, 3, none⟩ (.int .i64 (x : Int)))) := Lib.hid ((hk2.more (fun _ _ h => .inl h)).trans (Kept.set w2 gf 3 _) (fun _ _ h => .inr h))
  clear hk2 hV2 h2
  go_wp2
  go_ret
  rw [HR.out]
  exact ⟨rfl, HK2.out, fa, HG2.out⟩
set_option maxRecDepth 100000 in
set_option maxHeartbeats 4000000 in
theorem ritem_99 (w : World) {B g gf : Nat} {a : Option Addr} {c : Nat} {V : Vr} {f : Fm} {fa : FA} (h : SR w B g gf a c V f fa) (hB : B ≤ w.heap.size) (hl : V.l.length ≤ 140737488351232) (k : Nat) :
    Calls Try.prog 56 #[.pointer (some ⟨g, 0, none⟩), .pointer (some ⟨gf, 0, none⟩), .int .u8 99, .int .i64 (k : Int)] w (ItemR w B g gf a c (rItem 99 k V f)) := by
  have HG := Lib.hid h
  have HB := Lib.hid hB
  have HL := Lib.hid hl

  have HN := Lib.hid (rnumber_any w h.rv)
  have HR : Hid (rItem 99 k V f = ⟨0, { f with code := ((numV V).1 : Int) }, (numV V).2⟩) := Lib.hid (by unfold rItem; simp)
  obtain ⟨r, hr⟩ : ∃ r, r = numV V := ⟨_, rfl⟩
  rw [← hr] at HN HR
  obtain ⟨x, V2⟩ := r
  clear h hB hl hr
  go_enter Try.func56, Try.ntmps56
  go_wp2_with fail
  refine HN.out.mono ?_
  rintro e w2 ⟨rfl, hk2, hV2⟩
  have h2 := HG.out.call hk2 hV2
  have c2 := h2.box.cell 4 rfl
  have b2 := h2.box.free 4
  have HG2 := Lib.hid (h2.int (f' := { f with code := (x : Int) }) 4 (.int .i64 (x : Int)) rfl rfl rfl rfl)
  have HK2 : Hid (Kept (fun k => k = g ∨ k = gf) w (w2.setCell ⟨gf, 4, none⟩ (.int .i64 (x : Int)))) := Lib.hid ((hk2.more (fun _ _ h => .inl h)).trans (Kept.set w2 gf 4 _) (fun _ _ h => .inr h))
  clear hk2 hV2 h2
  go_wp2
  go_ret
  rw [HR.out]
  exact ⟨rfl, HK2.out, fa, HG2.out⟩
set_option maxRecDepth 100000 in
set_option maxHeartbeats 4000000 in
theorem ritem_97x (w : World) {B g gf : Nat} {a : Option Addr} {c : Nat} {V : Vr} {f : Fm} {fa : FA} (h : SR w B g gf a c V f fa) (hB : B ≤ w.heap.size) (hl : V.l.length ≤ 140737488351232) (k : Nat) (hk : ¬ f.kind = 8) :
    Calls Try.prog 56 #[.pointer (some ⟨g, 0, none⟩), .pointer (some ⟨gf, 0, none⟩), .int .u8 97, .int .i64 (k : Int)] w (ItemR w B g gf a c (rItem 97 k V f)) := by
  have HG := Lib.hid h
  have HB := Lib.hid hB
  have HL := Lib.hid hl

  have HN := Lib.hid (rnumber_any w h.rv)
  have HR : Hid (rItem 97 k V f = ⟨0, { f with at_ := ((numV V).1 : Int) }, (numV V).2⟩) := Lib.hid (by unfold rItem; simp [hk])
  obtain ⟨r, hr⟩ : ∃ r, r = numV V := ⟨_, rfl⟩
  rw [← hr] at HN HR
  obtain ⟨x, V2⟩ := r
  have k0 := h.box.cell 0 rfl
  obtain ⟨fk, hfk⟩ : ∃ fk, fk = f.kind := ⟨_, rfl⟩
  rw [← hfk] at k0 hk
  have y0 : (fk == 8) = false := by simpa using hk
  clear hfk
  clear h hB hl hr hk
  go_enter Try.func56, Try.ntmps56
  go_wp2_with fail
  refine HN.out.mono ?_
  rintro e w2 ⟨rfl, hk2, hV2⟩
  have h2 := HG.out.call hk2 hV2
  have c2 := h2.box.cell 2 rfl
  have b2 := h2.box.free 2
  have HG2 := Lib.hid (h2.int (f' := { f with at_ := (x : Int) }) 2 (.int .i64 (x : Int)) rfl rfl rfl rfl)
  have HK2 : Hid (Kept (fun k => k = g ∨ k = gf) w (w2.setCell ⟨gf, 2, none⟩ (.int .i64 (x : Int)))) := Lib.hid ((hk2.more (fun _ _ h => .inl h)).trans (Kept.set w2 gf 2 _) (fun _ _ h => .inr h))
  clear hk2 hV2 h2
  go_wp2
  go_ret
  rw [HR.out]
  exact ⟨rfl, HK2.out, fa, HG2.out⟩
set_option maxRecDepth 100000 in
set_option maxHeartbeats 4000000 in
theorem ritem_97y (w : World) {B g gf : Nat} {a : Option Addr} {c : Nat} {V : Vr} {f : Fm} {fa : FA} (h : SR w B g gf a c V f fa) (hB : B ≤ w.heap.size) (hl : V.l.length ≤ 140737488351232) (k : Nat) (hk : f.kind = 8) (hk4 : k / 4 % 2 = 1) (hk31 : k < 31) :
    Calls Try.prog 56 #[.pointer (some ⟨g, 0, none⟩), .pointer (some ⟨gf, 0, none⟩), .int .u8 97, .int .i64 (k : Int)] w (ItemR w B g gf a c (rItem 97 k V f)) := by
  have HG := Lib.hid h
  have HB := Lib.hid hB
  have HL := Lib.hid hl

  have HN := Lib.hid (rnumber_any w h.rv)
  have HR : Hid (rItem 97 k V f = ⟨0, { f with at_ := ((numV V).1 : Int) }, (numV V).2⟩) := Lib.hid (by unfold rItem; simp [hk, hk4])
  obtain ⟨r, hr⟩ : ∃ r, r = numV V := ⟨_, rfl⟩
  rw [← hr] at HN HR
  obtain ⟨x, V2⟩ := r
  have k0 := h.box.cell 0 rfl
  rw [hk] at k0
  have y0 := rity k hk31 hk4
  obtain ⟨kk, hkk⟩ : ∃ kk : Int, kk = (k : Int) := ⟨_, rfl⟩
  rw [← hkk] at y0 ⊢
  clear hkk hk4 hk31
  clear h hB hl hr hk
  go_enter Try.func56, Try.ntmps56
  go_wp2_with fail
  refine HN.out.mono ?_
  rintro e w2 ⟨rfl, hk2, hV2⟩
  have h2 := HG.out.call hk2 hV2
  have c2 := h2.box.cell 2 rfl
  have b2 := h2.box.free 2
  have HG2 := Lib.hid (h2.int (f' := { f with at_ := (x : Int) }) 2 (.int .i64 (x : Int)) rfl rfl rfl rfl)
  have HK2 : Hid (Kept (fun k => k = g ∨ k = gf) w (w2.setCell ⟨gf, 2, none⟩ (.int .i64 (x : Int)))) := Lib.hid ((hk2.more (fun _ _ h => .inl h)).trans (Kept.set w2 gf 2 _) (fun _ _ h => .inr h))
  clear hk2 hV2 h2
  go_wp2
  go_ret
  rw [HR.out]
  exact ⟨rfl, HK2.out, fa, HG2.out⟩
set_option maxRecDepth 100000 in
set_option maxHeartbeats 4000000 in
theorem ritem_97z (w : World) {B g gf : Nat} {a : Option Addr} {c : Nat} {V : Vr} {f : Fm} {fa : FA} (h : SR w B g gf a c V f fa) (hB : B ≤ w.heap.size) (hl : V.l.length ≤ 140737488351232) (k : Nat) (hk : f.kind = 8) (hk4 : ¬ k / 4 % 2 = 1) (hk31 : k < 31) :
    Calls Try.prog 56 #[.pointer (some ⟨g, 0, none⟩), .pointer (some ⟨gf, 0, none⟩), .int .u8 97, .int .i64 (k : Int)] w (ItemR w B g gf a c (rItem 97 k V f)) := by
  have HG := Lib.hid h
  have HB := Lib.hid hB
  have HL := Lib.hid hl

  have HR : Hid (rItem 97 k V f = ⟨0, f, V⟩) := Lib.hid (by unfold rItem; simp [hk, hk4])
  have k0 := h.box.cell 0 rfl
  rw [hk] at k0
  have y0 := ritz k hk31 hk4
  obtain ⟨kk, hkk⟩ : ∃ kk : Int, kk = (k : Int) := ⟨_, rfl⟩
  rw [← hkk] at y0 ⊢
  clear h hB hl hk hk4 hk31 hkk
  go_enter Try.func56, Try.ntmps56
  go_wp2
  go_ret
  rw [HR.out]
  exact ⟨rfl, Kept.refl _ _, fa, HG.out⟩
end Go.Proofs.Ytppkilkfmclpkaa

namespace Go.Proofs.Ytppkilkfmclpkaa
open Go.RowKit

/-- a span in front of the frame's spans -/
theorem run_cons_sn {B : Nat} {w : World} {tyo : TypeId} {a : Option Addr} {c : Nat} {l : List Sn} {x : Sn} (hrow : w.heap[w.heap.size - 1]? = some (.cells #[.int .i64 x.from_, .int .i64 x.to_] 53 (0, 0))) (hpos : 0 < w.heap.size) (hB : B ≤ w.heap.size - 1) (h : Sps w B a c l) (h0 : (l = [] ∧ a = none) ∨ 0 < l.length) (hl : l.length ≤ 100000) :
    ∃ a' c' w', (Builtin.append_ #[23, 23] tyo #[.slice (some ⟨w.heap.size - 1, 0, none⟩) 1 1, .slice a l.length c]).run Try.prog w = .ok (.slice a' (1 + l.length) c') w' ∧
      Sps w' B a' c' (x :: l) ∧ Below (w.heap.size - 1) w w' := by
  obtain ⟨i, hi, h1, h2, h3⟩ := info_parts infoSpan
  have hown : w.ownsRow B 53 2 (.slice (some ⟨w.heap.size - 1, 0, none⟩) 1 1) 1 (sv [x]) := ⟨rfl, .inr ⟨w.heap.size - 1, 1, _, rfl, hB, hrow, Nat.le_refl _, by decide, rfl, rfl⟩⟩
  rcases h0 with ⟨rfl, rfl⟩ | h0
  · rcases h.2 with ⟨hv, _⟩ | ⟨g, cap, cur, hv, _⟩
    · simp only [Value.slice.injEq, true_and] at hv
      have hc : c = 0 := hv.2
      subst hc
      have hrun := run_append_owned_none (P := Try.prog) w B 23 tyo 53 i 2 Try.underlying23 hi _ 1 (sv [x]) hown
      exact ⟨_, _, w, hrun, hown, Below.refl _ _⟩
    · simp at hv
  · rcases h.2 with ⟨hv, hz⟩ | ⟨g, cap, cur, hv, hBg, hg, hnc, hcm, hcs, ht⟩
    · omega
    · simp only [Value.slice.injEq, true_and] at hv
      obtain ⟨rfl, rfl⟩ := hv
      have hnews : ∀ j u, (sv l)[j]? = some u → w.cell? ((⟨g, 0, none⟩ : Addr).add j) = some u := fun j u hu => h.cells rfl j u hu
      obtain ⟨a', c', w', hr, ho, hgr, hn⟩ := run_app_s (P := Try.prog) Try.underlying23 hi h1 h2 h3 rfl (by decide) (tyo := tyo) hown (sv_length l) hnews (sv_one l) h0 (c2 := c) (by omega) (by unfold maxLen; omega) (by omega)
      refine ⟨a', c', w', hr, ?_, (Below.refl _ w).grown hgr (Nat.sub_le _ _) (fun k hk => ?_)⟩
      · have e : (x :: l).length = 1 + l.length := by simp; omega
        unfold Sps
        rw [e]
        exact ho
      · simp only [Value.ownBlock, Option.some.injEq] at hk
        omega
theorem SR.cons {w w1 : World} {B g gf : Nat} {a : Option Addr} {c : Nat} {V : Vr} {f : Fm} {fa : FA} (h : SR w1 B g gf a c V f fa) (hk : Kept (fun k => k = g ∨ k = gf) w w1) (hB : B ≤ w.heap.size) (h0 : (f.spans = [] ∧ fa.sa = none) ∨ 0 < f.spans.length) (hl : f.spans.length ≤ 100000) (x : Sn) (tyo : TypeId) :
    ∃ a' c' w', (Builtin.append_ #[23, 23] tyo #[.slice (some ⟨w1.heap.size, 0, none⟩) 1 1, .slice fa.sa f.spans.length fa.sc]).run Try.prog (w1.alloc (.cells #[.int .i64 x.from_, .int .i64 x.to_] 53)) = .ok (.slice a' (1 + f.spans.length) c') w' ∧
      w'.cell? ⟨gf, 8, none⟩ = some (.slice fa.sa f.spans.length fa.sc) ∧ w'.frozen? ⟨gf, 8, none⟩ = false ∧ SR (w'.setCell ⟨gf, 8, none⟩ (.slice a' (1 + f.spans.length) c')) B g gf a c V { f with spans := x :: f.spans } { fa with sa := a', sc := c' } ∧
      Kept (fun k => k = g ∨ k = gf) w (w'.setCell ⟨gf, 8, none⟩ (.slice a' (1 + f.spans.length) c')) := by
  obtain ⟨w2, hw2⟩ : ∃ w2, w2 = w1.alloc (.cells #[.int .i64 x.from_, .int .i64 x.to_] 53) := ⟨_, rfl⟩
  have hal : Below w1.heap.size w1 w2 := by rw [hw2]; exact alB w1 _
  have hsz : w2.heap.size = w1.heap.size + 1 := by rw [hw2]; simp
  have hrow : w2.heap[w2.heap.size - 1]? = some (.cells #[.int .i64 x.from_, .int .i64 x.to_] 53 (0, 0)) := by
    rw [hsz, Nat.add_sub_cancel, hw2]; exact heap_alloc_new w1 _
  have h2 := h.below hal
  have hks := hk.size
  obtain ⟨a', c', w', hr, ho, hb⟩ := run_cons_sn (tyo := tyo) hrow (by omega) (B := B) (by omega) h2.own.spans h0 hl
  rw [hsz, Nat.add_sub_cancel] at hr hb
  rw [← hw2]
  have hb1 : Below w1.heap.size w1 w' := hal.trans hb
  have h3 := h.below hb1
  have e : fcells { f with spans := x :: f.spans } { fa with sa := a', sc := c' } = (fcells f fa).set 8 (.slice a' (1 + f.spans.length) c') := by
    simp only [fcells, List.length_cons, Nat.add_comm]
    rfl
  refine ⟨a', c', w', hr, h3.box.cell 8 rfl, h3.box.free 8, h3.put 8 _ e.symm ⟨h3.own.data, h3.own.cid, ho⟩, ?_⟩
  exact (hk.trans (Kept.of_below (X := fun k => k = g ∨ k = gf) hb1) (fun _ _ h => h)).trans (Kept.set w' gf 8 _) (fun _ _ h => .inr h)
/-- spans, the last one first; m are to come -/
def rAckL : Nat → Nat → Vr → Fm → Rs
  | m, to_, V, f =>
    if (numV V).2.fault = 0 ∧ to_ < (numV V).1 then ⟨51, f, (numV V).2⟩
    else match m with
      | 0 => ⟨0, { f with spans := sn1 to_ (numV V).1 :: f.spans }, (numV V).2⟩
      | m + 1 =>
        if ¬ (numV V).2.fault = 0 then ⟨0, { f with spans := sn1 to_ (numV V).1 :: f.spans }, (numV V).2⟩
        else if ¬ (numV (numV V).2).2.fault = 0 then ⟨0, { f with spans := sn1 to_ (numV V).1 :: f.spans }, (numV (numV V).2).2⟩
        else if to_ - (numV V).1 < (numV (numV V).2).1 + 2 then ⟨51, { f with spans := sn1 to_ (numV V).1 :: f.spans }, (numV (numV V).2).2⟩
        else rAckL m (to_ - (numV V).1 - ((numV (numV V).2).1 + 2)) (numV (numV V).2).2 { f with spans := sn1 to_ (numV V).1 :: f.spans }
def rAck (V : Vr) (f : Fm) : Rs :=
  if (numV (numV (numV V).2).2).2.fault = 0 then
    (if 63 < (numV (numV (numV V).2).2).1 then ⟨51, { f with delay := ((numV (numV V).2).1 : Int) }, (numV (numV (numV V).2).2).2⟩
     else rAckL (numV (numV (numV V).2).2).1 (numV V).1 (numV (numV (numV V).2).2).2 { f with delay := ((numV (numV V).2).1 : Int) })
  else ⟨0, { f with delay := ((numV (numV V).2).1 : Int) }, (numV (numV (numV V).2).2).2⟩
theorem rAckL_bad {m to_ : Nat} {V : Vr} {f : Fm} (h : (numV V).2.fault = 0 ∧ to_ < (numV V).1) : rAckL m to_ V f = ⟨51, f, (numV V).2⟩ := by
  unfold rAckL; rw [if_pos h]
theorem rAckL_end {m to_ : Nat} {V : Vr} {f : Fm} (h : ¬ ((numV V).2.fault = 0 ∧ to_ < (numV V).1)) (h2 : m = 0 ∨ ¬ (numV V).2.fault = 0) : rAckL m to_ V f = ⟨0, { f with spans := sn1 to_ (numV V).1 :: f.spans }, (numV V).2⟩ := by
  unfold rAckL
  rw [if_neg h]
  cases m with
  | zero => rfl
  | succ m =>
    rcases h2 with h2 | h2
    · cases h2
    · simp only; rw [if_pos h2]
theorem rAckL_next {m to_ : Nat} {V : Vr} {f : Fm} (h : ¬ ((numV V).2.fault = 0 ∧ to_ < (numV V).1)) (h2 : (numV V).2.fault = 0) : rAckL (m + 1) to_ V f =
    (if ¬ (numV (numV V).2).2.fault = 0 then ⟨0, { f with spans := sn1 to_ (numV V).1 :: f.spans }, (numV (numV V).2).2⟩
     else if to_ - (numV V).1 < (numV (numV V).2).1 + 2 then ⟨51, { f with spans := sn1 to_ (numV V).1 :: f.spans }, (numV (numV V).2).2⟩
     else rAckL m (to_ - (numV V).1 - ((numV (numV V).2).1 + 2)) (numV (numV V).2).2 { f with spans := sn1 to_ (numV V).1 :: f.spans }) := by
  rw [rAckL, if_neg h]
  (try simp only)
  rw [if_neg (not_not_intro h2)]
theorem numV_bad {V : Vr} (h : ¬ (numV V).2.fault = 0) : (numV V).1 = 0 := by
  unfold numV at h ⊢
  by_cases hf : V.fault = 0
  · rw [if_pos hf] at h ⊢
    by_cases h2 : (getV V.l V.at_).2.2 = 0
    · rw [if_pos h2] at h; exact absurd hf h
    · rw [if_neg h2]
  · rw [if_neg hf]
/-- what holds at the loop's head -/
def RaRel (w : World) (B g gf : Nat) (a : Option Addr) (c : Nat) (n : Nat) (R : Rs) (tv iv' : Value) (wr : World) : Prop :=
  ∃ (t i : Nat) (V : Vr) (f : Fm) (fa : FA), tv = .int .i64 (t : Int) ∧ iv' = .int .i64 (i : Int) ∧ t < 4611686018427387904 ∧ i ≤ n ∧ V.fault = 0 ∧ SR wr B g gf a c V f fa ∧ Kept (fun k => k = g ∨ k = gf) w wr ∧
    ((f.spans = [] ∧ fa.sa = none) ∨ 0 < f.spans.length) ∧ f.spans.length ≤ i ∧ R = rAckL (n - i) t V f
theorem onj11' {x : Int} (h : ¬ x = 0) : (x == 0) = false := by simpa using h
theorem raj1 {n : Nat} (h : ¬ 63 < n) : ¬ (63 : Int) < (n : Int) := by omega
theorem raj2 {n : Nat} (h : 63 < n) : (63 : Int) < (n : Int) := by omega
theorem raj3 {t s : Nat} (h : ¬ t < s) (ht : t < 4611686018427387904) : ¬ (t : Int) < (s : Int) ∧ ∃ d, t = s + d ∧ t - s = d ∧ d < 4611686018427387904 ∧ IntKind.i64.wrap ((t : Int) - (s : Int)) = (d : Int) ∧ RowKit.wrap64 ((t : Int) - (s : Int)) = (d : Int) := by
  refine ⟨by omega, t - s, by omega, rfl, by omega, ?_⟩
  rw [IntKind.wrap_i64]; unfold RowKit.wrap64; omega
theorem raj4 {t s : Nat} (h : t < s) : (t : Int) < (s : Int) := by omega
theorem raj5 {i n : Nat} (h : ¬ i = n) : ((i : Int) == (n : Int)) = false := by simp; omega
theorem raj6 {g : Nat} (h : g < 4611686018427387904) : ∃ m : Int, m = (g : Int) + 1 ∧ IntKind.i64.wrap ((g : Int) + 1) = m ∧ RowKit.wrap64 ((g : Int) + 1) = m := by
  refine ⟨_, rfl, ?_⟩
  rw [IntKind.wrap_i64]; unfold RowKit.wrap64; omega
theorem raj7 {d : Nat} (h : d < 4611686018427387904) : ∃ z : Int, z = (d : Int) - 1 ∧ IntKind.i64.wrap ((d : Int) - 1) = z ∧ RowKit.wrap64 ((d : Int) - 1) = z := by
  refine ⟨_, rfl, ?_⟩
  rw [IntKind.wrap_i64]; unfold RowKit.wrap64; omega
theorem raj8 {d g : Nat} {z m : Int} (hz : z = (d : Int) - 1) (hm : m = (g : Int) + 1) (h : d < g + 2) : z < m := by omega
theorem raj9 {d g : Nat} {z m : Int} (hz : z = (d : Int) - 1) (hm : m = (g : Int) + 1) (h : ¬ d < g + 2) (hd : d < 4611686018427387904) : ¬ z < m ∧ ∃ t2 : Nat, d - (g + 2) = t2 ∧ t2 < 4611686018427387904 ∧ IntKind.i64.wrap (z - m) = (t2 : Int) ∧ RowKit.wrap64 (z - m) = (t2 : Int) := by
  refine ⟨by omega, d - (g + 2), rfl, by omega, ?_⟩
  rw [IntKind.wrap_i64]; unfold RowKit.wrap64; omega
theorem raj10 {i n : Nat} (h : i ≤ n) (h2 : ¬ i = n) (hn : n ≤ 63) : ∃ m i1 : Nat, n - i = m + 1 ∧ n - i1 = m ∧ i1 ≤ n ∧ IntKind.i64.wrap ((i : Int) + 1) = (i1 : Int) ∧ RowKit.wrap64 ((i : Int) + 1) = (i1 : Int) ∧ i1 = i + 1 := by
  refine ⟨n - i - 1, i + 1, by omega, by omega, by omega, ?_⟩
  rw [IntKind.wrap_i64]; unfold RowKit.wrap64; omega
theorem raj11 {i i1 n : Nat} (h : i1 ≤ n) (h2 : i1 = i + 1) : n - (intOf (Value.int .i64 (i1 : Int))).toNat < n - (intOf (Value.int .i64 (i : Int))).toNat := by simp only [intOf]; omega
set_option maxRecDepth 100000 in
set_option maxHeartbeats 4000000 in
theorem rack_any (w : World) {B g gf : Nat} {a : Option Addr} {c : Nat} {V : Vr} {f : Fm} {fa : FA} (h : SR w B g gf a c V f fa) (hB : B ≤ w.heap.size) (hs : f.spans = []) (ha : fa.sa = none) :
    Calls Try.prog 69 #[.pointer (some ⟨g, 0, none⟩), .pointer (some ⟨gf, 0, none⟩)] w (ItemR w B g gf a c (rAck V f)) := by
  have HG := Lib.hid h
  have HB := Lib.hid hB
  have HSa := Lib.hid (And.intro hs ha)
  have HN := Lib.hid (rnumber_any w h.rv)
  have ht1 := numV_lt V
  obtain ⟨R, hR⟩ : ∃ R, R = rAck V f := ⟨_, rfl⟩
  rw [← hR]
  unfold rAck at hR
  obtain ⟨r1, hr1⟩ : ∃ r1, r1 = numV V := ⟨_, rfl⟩
  rw [← hr1] at HN hR ht1
  obtain ⟨t, V1⟩ := r1
  have HR1 := Lib.hid hR
  have HT1 : Hid (t < 4611686018427387904) := Lib.hid ht1
  clear h hB hs ha hr1 hR ht1
  go_enter Try.func69, Try.ntmps69
  go_wp2_with fail
  refine HN.out.mono ?_
  rintro e w1 ⟨rfl, hk1, hV1⟩
  have HG1 := Lib.hid (HG.out.call hk1 hV1)
  have HK1 : Hid (Kept (fun k => k = g ∨ k = gf) w w1) := Lib.hid (hk1.more (fun _ _ h => .inl h))
  have HN1 := Lib.hid (rnumber_any w1 hV1)
  obtain ⟨r2, hr2⟩ : ∃ r2, r2 = numV V1 := ⟨_, rfl⟩
  have hR1 := HR1.out
  (try simp only at hR1)
  rw [← hr2] at HN1 hR1
  obtain ⟨dl, V2⟩ := r2
  have HR2 := Lib.hid hR1
  clear hk1 hV1 hr2 hR1
  go_wp2_with fail
  refine HN1.out.mono ?_
  rintro e w2 ⟨rfl, hk2, hV2⟩
  have h2 := HG1.out.call hk2 hV2
  have c2 := h2.box.cell 9 rfl
  have b2 := h2.box.free 9
  have HG3 := Lib.hid (h2.int (f' := { f with delay := (dl : Int) }) 9 (.int .i64 (dl : Int)) rfl rfl rfl rfl)
  have HK3 : Hid (Kept (fun k => k = g ∨ k = gf) w (w2.setCell ⟨gf, 9, none⟩ (.int .i64 (dl : Int)))) := Lib.hid ((kept_rcall HK1.out hk2).trans (Kept.set w2 gf 9 _) (fun _ _ h => .inr h))
  clear hk2 hV2 h2
  go_upto_region 3 with fail
  obtain ⟨w3, hw3⟩ : ∃ w3, w3 = w2.setCell ⟨gf, 9, none⟩ (.int .i64 (dl : Int)) := ⟨_, rfl⟩
  rw [← hw3] at HG3 HK3 ⊢
  clear hw3 c2 b2
  obtain ⟨fd, hfd⟩ : ∃ fd : Fm, fd = { f with delay := (dl : Int) } := ⟨_, rfl⟩
  have HSd : Hid (fd.spans = []) := Lib.hid (by rw [hfd]; exact HSa.out.1)
  have hR2 := HR2.out
  (try simp only at hR2)
  rw [← hfd] at HG3 hR2
  have HN3 := Lib.hid (rnumber_any w3 HG3.out.rv)
  obtain ⟨r3, hr3⟩ : ∃ r3, r3 = numV V2 := ⟨_, rfl⟩
  rw [← hr3] at HN3 hR2
  obtain ⟨n, V3⟩ := r3
  have HR3 : Hid (R = if V3.fault = 0 then (if 63 < n then ⟨51, fd, V3⟩ else rAckL n t V3 fd) else ⟨0, fd, V3⟩) := Lib.hid hR2
  clear hfd hr3 hR2
  go_wp2_with fail
  refine HN3.out.mono ?_
  rintro e w4 ⟨rfl, hk4, hV4⟩
  have HG4 := Lib.hid (HG3.out.call hk4 hV4)
  have HK4 := Lib.hid (kept_rcall HK3.out hk4)
  clear hk4 hV4
  have f4 := HG4.out.rv.has.cell 2 rfl
  obtain ⟨fl, hfl⟩ : ∃ fl, fl = V3.fault := ⟨_, rfl⟩
  rw [← hfl] at f4
  have HFl := Lib.hid hfl
  by_cases h0 : fl = 0
  · subst h0
    have HR4 : Hid (R = if 63 < n then ⟨51, fd, V3⟩ else rAckL n t V3 fd) := Lib.hid (by rw [HR3.out, if_pos HFl.out.symm])
    clear hfl
    by_cases hn63 : 63 < n
    · have y1 := raj2 hn63
      have HE : Hid (R = ⟨51, fd, V3⟩) := Lib.hid (by rw [HR4.out, if_pos hn63])
      clear hn63
      go_wp2
      go_ret
      rw [HE.out]
      exact ⟨rfl, HK4.out, fa, HG4.out⟩
    have y1 := raj1 hn63
    have HR5 : Hid (R = rAckL n t V3 fd) := Lib.hid (by rw [HR4.out, if_neg hn63])
    have HN63 : Hid (n ≤ 63) := Lib.hid (Nat.le_of_not_lt hn63)
    have HStart : Hid (RaRel w B g gf a c n R (.int .i64 (t : Int)) (.int .i64 0) w4) := Lib.hid ⟨t, 0, V3, fd, fa, rfl, rfl, HT1.out, Nat.zero_le _, HFl.out.symm, HG4.out, HK4.out, .inl ⟨HSd.out, HSa.out.2⟩, by rw [HSd.out]; exact Nat.le_refl _, HR5.out⟩
    clear hn63
    go_wp2_with fail
    clear f4 y1
    go_loopw [5, 7] (fun tv iv' wr => RaRel w B g gf a c n R tv iv' wr) (fun _ iv' _ => n - (intOf iv').toNat)
    case atStart => exact HStart.out
    case round =>
      obtain ⟨tt, i, Vr_, fr, far, rfl, rfl, htl, hin, hVf, hG, hK, hsp, hsl, hRr⟩ := hrel
      have HGr := Lib.hid hG
      have HKr := Lib.hid hK
      have HSp := Lib.hid hsp
      have HSl := Lib.hid hsl
      have HRr := Lib.hid hRr
      have HIn := Lib.hid hin
      have HTl := Lib.hid htl
      have f0 := hG.rv.has.cell 2 rfl
      rw [hVf] at f0
      have HNr := Lib.hid (rnumber_any wr hG.rv)
      have hsl1 := numV_lt Vr_
      have HBad : Hid (¬ (numV Vr_).2.fault = 0 → (numV Vr_).1 = 0) := Lib.hid numV_bad
      obtain ⟨r5, hr5⟩ : ∃ r5, r5 = numV Vr_ := ⟨_, rfl⟩
      have HR5a : Hid (r5 = numV Vr_) := Lib.hid hr5
      rw [← hr5] at HNr hsl1 HBad
      obtain ⟨s, V5⟩ := r5
      simp only at HBad hsl1
      have HS1 := Lib.hid hsl1
      clear hG hK hsp hsl hRr hr5 hsl1 hVf hin htl
      go_wp2_with fail
      refine HNr.out.mono ?_
      rintro e w5 ⟨rfl, hk5, hV5⟩
      have HG5 := Lib.hid (HGr.out.call hk5 hV5)
      have HK5 := Lib.hid (kept_rcall HKr.out hk5)
      clear hk5 hV5 f0
      have f5 := HG5.out.rv.has.cell 2 rfl
      obtain ⟨fl5, hfl5⟩ : ∃ fl5, fl5 = V5.fault := ⟨_, rfl⟩
      rw [← hfl5] at f5
      have HFl5 := Lib.hid hfl5
      clear hfl5
      by_cases h5 : ¬ fl5 = 0
      · have yf := onj11' h5
        have hbad : ¬ (fl5 = 0 ∧ tt < s) := fun h => h5 h.1
        have hts : ¬ tt < s := fun hlt => hbad ⟨Decidable.byContradiction (fun hf => by
          have := HBad.out (by rw [← HFl5.out]; exact hf)
          omega), hlt⟩
        have HBd : Hid (¬ ((numV Vr_).2.fault = 0 ∧ tt < (numV Vr_).1)) := Lib.hid (by rw [← HR5a.out]; exact fun h => hbad ⟨HFl5.out.trans h.1, h.2⟩)
        obtain ⟨y2, d, htd, htd2, hdl, y3, y4⟩ := raj3 hts HTl.out
        have c8 : (w5.alloc (.cells #[.int .i64 (d : Int), .int .i64 (tt : Int)] 53)).cell? ⟨gf, 8, none⟩ = some (.slice far.sa fr.spans.length far.sc) := (HG5.out.below (alB w5 _)).box.cell 8 rfl
        obtain ⟨a', c', w6, hr6, hc6, hb6, hG7, hK7⟩ := HG5.out.cons HK5.out HB.out HSp.out (by have := HSl.out; have := HIn.out; have := HN63.out; omega) (sn1 tt s) 23
        have ex : sn1 tt s = ⟨(d : Int), (tt : Int)⟩ := by rw [← htd2]; rfl
        rw [ex] at hr6
        dsimp only at hr6
        obtain ⟨n6, hn6⟩ : ∃ n6, n6 = fr.spans.length := ⟨_, rfl⟩
        rw [← hn6] at c8 hr6 hc6 hG7 hK7
        have HG7 := Lib.hid hG7
        have HK7 := Lib.hid hK7
        have HN6 := Lib.hid hn6
        have HDl := Lib.hid hdl
        have HTd := Lib.hid htd2
        obtain ⟨sa, hsa⟩ : ∃ sa, sa = far.sa := ⟨_, rfl⟩
        obtain ⟨sc, hsc⟩ : ∃ sc, sc = far.sc := ⟨_, rfl⟩
        rw [← hsa, ← hsc] at c8 hr6 hc6
        clear hsa hsc hbad hts htd htd2 hdl hG7 hK7 ex hn6
        go_upto_region 13 with (at_builtin; refine Lib.wpList_append_run _ rfl _ _ _ _ rfl (.slice (some ⟨w5.heap.size, 0, none⟩) 1 1) (.slice sa n6 sc) rfl rfl _ _ hr6 ?_)
        obtain ⟨w7, hw7⟩ : ∃ w7, w7 = w6.setCell ⟨gf, 8, none⟩ (.slice a' (1 + n6) c') := ⟨_, rfl⟩
        rw [← hw7] at HG7 HK7 ⊢
        clear hw7 hc6 hb6 hr6 c8 f5
        obtain ⟨f7, hf7⟩ : ∃ f7 : Fm, f7 = { fr with spans := sn1 tt s :: fr.spans } := ⟨_, rfl⟩
        obtain ⟨fa7, hfa7⟩ : ∃ fa7 : FA, fa7 = { far with sa := a', sc := c' } := ⟨_, rfl⟩
        rw [← hf7, ← hfa7] at HG7
        have HF7 := Lib.hid hf7
        clear hf7 hfa7
        have HL7 : Hid (0 < f7.spans.length ∧ f7.spans.length ≤ i + 1) := Lib.hid (by rw [HF7.out]; have := HSl.out; simp; omega)
        have f7c := HG7.out.rv.has.cell 2 rfl
        rw [← HFl5.out] at f7c
        by_cases hie : i = n
        · have y5 : ((i : Int) == (n : Int)) = true := by simp [hie]
          have HE : Hid (R = ⟨0, f7, V5⟩) := Lib.hid (by
            rw [HRr.out, rAckL_end HBd.out (.inl (by rw [hie, Nat.sub_self])), ← HR5a.out, HF7.out])
          clear hie y3 y4
          go_wp2
          go_ret
          rw [HE.out]
          exact ⟨rfl, HK7.out, fa7, HG7.out⟩
        have y5 := raj5 hie
        have HE : Hid (R = ⟨0, f7, V5⟩) := Lib.hid (by
          rw [HRr.out, rAckL_end HBd.out (.inr (by rw [← HR5a.out]; show ¬ V5.fault = 0; rw [← HFl5.out]; exact h5)), ← HR5a.out, HF7.out])
        clear hie h5 y3 y4
        go_wp2
        go_ret
        rw [HE.out]
        exact ⟨rfl, HK7.out, fa7, HG7.out⟩
      replace h5 : fl5 = 0 := Decidable.not_not.1 h5
      subst h5
      by_cases hbad : (0 : Int) = 0 ∧ tt < s
      · obtain ⟨hb1, hb2⟩ := hbad
        clear hb1
        have y2 := raj4 hb2
        have HE : Hid (R = ⟨51, fr, V5⟩) := Lib.hid (by
          rw [HRr.out, rAckL_bad (by rw [← HR5a.out]; exact ⟨HFl5.out.symm, hb2⟩), ← HR5a.out])
        clear hb2
        go_wp2
        go_ret
        rw [HE.out]
        exact ⟨rfl, HK5.out, far, HG5.out⟩
      have hts : ¬ tt < s := fun hlt => hbad ⟨Decidable.byContradiction (fun hf => by
        have := HBad.out (by rw [← HFl5.out]; exact hf)
        omega), hlt⟩
      have HBd : Hid (¬ ((numV Vr_).2.fault = 0 ∧ tt < (numV Vr_).1)) := Lib.hid (by rw [← HR5a.out]; exact fun h => hbad ⟨HFl5.out.trans h.1, h.2⟩)
      obtain ⟨y2, d, htd, htd2, hdl, y3, y4⟩ := raj3 hts HTl.out
      have c8 : (w5.alloc (.cells #[.int .i64 (d : Int), .int .i64 (tt : Int)] 53)).cell? ⟨gf, 8, none⟩ = some (.slice far.sa fr.spans.length far.sc) := (HG5.out.below (alB w5 _)).box.cell 8 rfl
      obtain ⟨a', c', w6, hr6, hc6, hb6, hG7, hK7⟩ := HG5.out.cons HK5.out HB.out HSp.out (by have := HSl.out; have := HIn.out; have := HN63.out; omega) (sn1 tt s) 23
      have ex : sn1 tt s = ⟨(d : Int), (tt : Int)⟩ := by rw [← htd2]; rfl
      rw [ex] at hr6
      dsimp only at hr6
      obtain ⟨n6, hn6⟩ : ∃ n6, n6 = fr.spans.length := ⟨_, rfl⟩
      rw [← hn6] at c8 hr6 hc6 hG7 hK7
      have HG7 := Lib.hid hG7
      have HK7 := Lib.hid hK7
      have HN6 := Lib.hid hn6
      have HDl := Lib.hid hdl
      have HTd := Lib.hid htd2
      obtain ⟨sa, hsa⟩ : ∃ sa, sa = far.sa := ⟨_, rfl⟩
      obtain ⟨sc, hsc⟩ : ∃ sc, sc = far.sc := ⟨_, rfl⟩
      rw [← hsa, ← hsc] at c8 hr6 hc6
      clear hsa hsc hbad hts htd htd2 hdl hG7 hK7 ex hn6
      go_upto_region 13 with (at_builtin; refine Lib.wpList_append_run _ rfl _ _ _ _ rfl (.slice (some ⟨w5.heap.size, 0, none⟩) 1 1) (.slice sa n6 sc) rfl rfl _ _ hr6 ?_)
      obtain ⟨w7, hw7⟩ : ∃ w7, w7 = w6.setCell ⟨gf, 8, none⟩ (.slice a' (1 + n6) c') := ⟨_, rfl⟩
      rw [← hw7] at HG7 HK7 ⊢
      clear hw7 hc6 hb6 hr6 c8 f5
      obtain ⟨f7, hf7⟩ : ∃ f7 : Fm, f7 = { fr with spans := sn1 tt s :: fr.spans } := ⟨_, rfl⟩
      obtain ⟨fa7, hfa7⟩ : ∃ fa7 : FA, fa7 = { far with sa := a', sc := c' } := ⟨_, rfl⟩
      rw [← hf7, ← hfa7] at HG7
      have HF7 := Lib.hid hf7
      clear hf7 hfa7
      have HL7 : Hid (0 < f7.spans.length ∧ f7.spans.length ≤ i + 1) := Lib.hid (by rw [HF7.out]; have := HSl.out; simp; omega)
      have f7c := HG7.out.rv.has.cell 2 rfl
      rw [← HFl5.out] at f7c
      by_cases hie : i = n
      · have y5 : ((i : Int) == (n : Int)) = true := by simp [hie]
        have HE : Hid (R = ⟨0, f7, V5⟩) := Lib.hid (by
          rw [HRr.out, rAckL_end HBd.out (.inl (by rw [hie, Nat.sub_self])), ← HR5a.out, HF7.out])
        clear hie y3 y4
        go_wp2
        go_ret
        rw [HE.out]
        exact ⟨rfl, HK7.out, fa7, HG7.out⟩
      have y5 := raj5 hie
      obtain ⟨m, i1, hm1, hm2, hin1, y6, y7, hi1⟩ := raj10 HIn.out hie HN63.out
      have HI1 := Lib.hid hi1
      clear hi1
      have HM1 := Lib.hid hm1
      have HM2 := Lib.hid hm2
      have HIn1 := Lib.hid hin1
      have HN7 := Lib.hid (rnumber_any w7 HG7.out.rv)
      have hgl := numV_lt V5
      obtain ⟨r8, hr8⟩ : ∃ r8, r8 = numV V5 := ⟨_, rfl⟩
      have HR8 : Hid (R = if ¬ r8.2.fault = 0 then ⟨0, f7, r8.2⟩ else if d < r8.1 + 2 then ⟨51, f7, r8.2⟩ else rAckL m (d - (r8.1 + 2)) r8.2 f7) := Lib.hid (by
        have h1 := HRr.out
        rw [HM1.out, rAckL_next HBd.out (by rw [← HR5a.out]; exact HFl5.out.symm), ← HR5a.out] at h1
        simp only [← hr8, HTd.out, ← HF7.out] at h1
        exact h1)
      rw [← hr8] at HN7 hgl
      obtain ⟨gap, V8⟩ := r8
      have HGl := Lib.hid hgl
      obtain ⟨ms, hms, y8, y9⟩ := raj6 hgl
      have HMs := Lib.hid hms
      clear hr8 hm1 hm2 hin1 hgl hms hie
      go_wp2_with fail
      refine HN7.out.mono ?_
      rintro e w8 ⟨rfl, hk8, hV8⟩
      have HG8 := Lib.hid (HG7.out.call hk8 hV8)
      have HK8 := Lib.hid (kept_rcall HK7.out hk8)
      clear hk8 hV8 f7c
      have f8 := HG8.out.rv.has.cell 2 rfl
      obtain ⟨fl8, hfl8⟩ : ∃ fl8, fl8 = V8.fault := ⟨_, rfl⟩
      rw [← hfl8] at f8
      have HFl8 := Lib.hid hfl8
      clear hfl8
      by_cases h8 : ¬ fl8 = 0
      · have y10 := onj11' h8
        have HE : Hid (R = ⟨0, f7, V8⟩) := Lib.hid (by rw [HR8.out, if_pos (by show ¬ V8.fault = 0; rw [← HFl8.out]; exact h8)])
        clear h8 y3 y4
        go_wp2
        go_ret
        rw [HE.out]
        exact ⟨rfl, HK8.out, fa7, HG8.out⟩
      have h8' : fl8 = 0 := Decidable.not_not.1 h8
      subst h8'
      have HR9 : Hid (R = if d < gap + 2 then ⟨51, f7, V8⟩ else rAckL m (d - (gap + 2)) V8 f7) := Lib.hid (by rw [HR8.out, if_neg (not_not_intro HFl8.out.symm)])
      obtain ⟨zd, hzd, y11, y12⟩ := raj7 HDl.out
      by_cases hgp : d < gap + 2
      · have y13 := raj8 hzd HMs.out hgp
        have HE : Hid (R = ⟨51, f7, V8⟩) := Lib.hid (by rw [HR9.out, if_pos hgp])
        clear hgp hzd h8
        go_wp2
        go_ret
        rw [HE.out]
        exact ⟨rfl, HK8.out, fa7, HG8.out⟩
      obtain ⟨y13, t2, ht2, ht2l, y14, y15⟩ := raj9 hzd HMs.out hgp HDl.out
      have HRel : Hid (RaRel w B g gf a c n R (.int .i64 (t2 : Int)) (.int .i64 (i1 : Int)) w8) := Lib.hid ⟨t2, i1, V8, f7, fa7, rfl, rfl, ht2l, HIn1.out, HFl8.out.symm, HG8.out, HK8.out, .inr HL7.out.1, by rw [HI1.out]; exact HL7.out.2, by rw [HR9.out, if_neg hgp, ht2, HM2.out]⟩
      have y16 : (zd < ms) = False := eq_false y13
      clear hgp hzd h8 ht2 ht2l y13
      go_wp2_with fail
      go_roundw
      case rel => exact HRel.out
      case measure => exact raj11 HIn1.out HI1.out
  · have y1 := onj11' h0
    have HE : Hid (R = ⟨0, fd, V3⟩) := Lib.hid (by rw [HR3.out, if_neg (by rw [← HFl.out]; exact h0)])
    clear h0 hfl
    go_wp2_with fail
    go_loopw [7] (fun v wr => v = .int .i64 0 ∧ wr = w4) (fun _ _ => 0)
    case atStart => exact ⟨rfl, rfl⟩
    case round =>
      obtain ⟨rfl, rfl⟩ := hrel
      go_wp2
      go_ret
      rw [HE.out]
      exact ⟨rfl, HK4.out, fa, HG4.out⟩
end Go.Proofs.Ytppkilkfmclpkaa

/- The document's one frame and its Decode. No condition but the sizes. -/
import Derived.Test.YtppkilkfmclpkaaRdA
import Derived.Test.YtppkilkfmclpkaaRdB
import Derived.Test.YtppkilkfmclpkaaFrOne
import Derived.Test.YtppkilkfmclpkaaFrDecV
import Derived.Test.YtppkilkfmclpkaaFrDec
namespace Go.Proofs.Ytppkilkfmclpkaa
open Go.RowKit

/-- an item of any letter -/
def rItemA (ch k : Nat) (V : Vr) (f : Fm) : Rs := if ch = 115 then rAck V f else rItem ch k V f
set_option maxRecDepth 100000 in
set_option maxHeartbeats 4000000 in
theorem ritem_115 (w : World) {B g gf : Nat} {a : Option Addr} {c : Nat} {V : Vr} {f : Fm} {fa : FA} (h : SR w B g gf a c V f fa) (hB : B ≤ w.heap.size) (hs : f.spans = []) (ha : fa.sa = none) (k : Nat) :
    Calls Try.prog 56 #[.pointer (some ⟨g, 0, none⟩), .pointer (some ⟨gf, 0, none⟩), .int .u8 115, .int .i64 (k : Int)] w (ItemR w B g gf a c (rItemA 115 k V f)) := by
  have HN := Lib.hid (rack_any w h hB hs ha)
  have HR : Hid (rItemA 115 k V f = rAck V f) := Lib.hid (by unfold rItemA; simp)
  obtain ⟨r, hr⟩ : ∃ r, r = rAck V f := ⟨_, rfl⟩
  rw [← hr] at HN HR
  rw [HR.out]
  clear h hB hs ha hr HR
  go_enter Try.func56, Try.ntmps56
  go_wp2_with fail
  refine HN.out.mono ?_
  rintro e w2 ⟨rfl, hk2, fa2, h2⟩
  have HK2 := Lib.hid hk2
  have HG2 := Lib.hid h2
  clear hk2 h2
  go_wp2
  go_ret
  exact ⟨rfl, HK2.out, _, HG2.out⟩
/-- the letters an item list holds -/
def ltrs : List UInt8 := [105, 97, 110, 99, 100, 107, 116, 112, 101, 115]
theorem ritem_any (w : World) {B g gf : Nat} {a : Option Addr} {c : Nat} {V : Vr} {f : Fm} {fa : FA} (h : SR w B g gf a c V f fa) (hB : B ≤ w.heap.size) (hl : V.l.length ≤ 140737488351232) (k : Nat) (hk : k < 31) (ch : UInt8) (hc : ch ∈ ltrs) (hs : ch = 115 → f.spans = [] ∧ fa.sa = none) :
    Calls Try.prog 56 #[.pointer (some ⟨g, 0, none⟩), .pointer (some ⟨gf, 0, none⟩), .int .u8 (ch.toNat : Int), .int .i64 (k : Int)] w (ItemR w B g gf a c (rItemA ch.toNat k V f)) := by
  simp only [ltrs, List.mem_cons, List.not_mem_nil, or_false] at hc
  rcases hc with rfl | rfl | rfl | rfl | rfl | rfl | rfl | rfl | rfl | rfl
  · exact ritem_105 w h hB hl k
  · by_cases h8 : f.kind = 8
    · by_cases h4 : k / 4 % 2 = 1
      · exact ritem_97y w h hB hl k h8 h4 hk
      · exact ritem_97z w h hB hl k h8 h4 hk
    · exact ritem_97x w h hB hl k h8
  · exact ritem_110 w h hB hl k
  · exact ritem_99 w h hB hl k
  · by_cases h8 : f.kind = 8
    · by_cases h4 : k / 2 % 2 = 1
      · exact ritem_100y w h hB hl k h8 h4 hk
      · exact ritem_100z w h hB hl k h8 h4 hk
    · exact ritem_100x w h hB hl k h8
  · exact ritem_107 w h hB hl k
  · exact ritem_116 w h hB hl k
  · exact ritem_112 w h hB hl k
  · exact ritem_101 w h hB hl k
  · exact ritem_115 w h hB (hs rfl).1 (hs rfl).2 k
end Go.Proofs.Ytppkilkfmclpkaa

namespace Go.Proofs.Ytppkilkfmclpkaa
open Go.RowKit

/-- the items of a list, one after another, up to the first fault of an item -/
def rItems : List UInt8 → Nat → Vr → Fm → Rs
  | [], _, V, f => ⟨0, f, V⟩
  | ch :: cs, k, V, f => if (rItemA ch.toNat k V f).err = 0 then rItems cs k (rItemA ch.toNat k V f).V (rItemA ch.toNat k V f).f else rItemA ch.toNat k V f
theorem rItems_bad {ch : UInt8} {cs : List UInt8} {k : Nat} {V : Vr} {f : Fm} (h : ¬ (rItemA ch.toNat k V f).err = 0) : rItems (ch :: cs) k V f = rItemA ch.toNat k V f := by
  unfold rItems; rw [if_neg h]
theorem rItems_ok {ch : UInt8} {cs : List UInt8} {k : Nat} {V : Vr} {f : Fm} (h : (rItemA ch.toNat k V f).err = 0) : rItems (ch :: cs) k V f = rItems cs k (rItemA ch.toNat k V f).V (rItemA ch.toNat k V f).f := by
  rw [rItems, if_pos h]
/-- the frame's kind out of its type -/
def kd (k : Nat) : Int := if 8 ≤ k ∧ k ≤ 15 then 8 else (k : Int)
def rFin (k : Nat) (f : Fm) : Fm := if f.kind = 8 then { f with fin := decide (k % 2 = 1) } else f
def rOneN (f : Fm) : Fm := if f.kind = 0 then { f with n := 1 } else f
def rEnd (V : Vr) (f : Fm) : Rs := if ¬ V.fault = 0 then ⟨12, fzero, V⟩ else if ¬ chkF f = 0 then ⟨51, fzero, V⟩ else ⟨0, f, V⟩
def rTail (k : Nat) (r : Rs) : Rs := if ¬ r.err = 0 then ⟨r.err, fzero, r.V⟩ else rEnd r.V (rOneN (rFin k r.f))
def rBody (from_ k : Nat) (V : Vr) : Rs :=
  if ¬ V.fault = 0 then ⟨12, fzero, V⟩
  else if ¬ V.at_ - from_ = szN k then ⟨53, fzero, V⟩
  else if (itm (kd k)).2 = false then ⟨50, fzero, V⟩
  else rTail k (rItems (itm (kd k)).1 k V { fzero with kind := kd k })
/-- one frame, as the document reads it -/
def rOne (V : Vr) : Rs := rBody V.at_ (numV V).1 (numV V).2
theorem itm_kd {k : Nat} : ((itm (kd k)).2 = false ∧ 30 < k) ∨ ((itm (kd k)).2 = true ∧ k < 31 ∧ ∀ ch ∈ (itm (kd k)).1, ch ∈ ltrs) := by
  by_cases h : k < 31
  · refine .inr ?_
    have h1 : ∀ k : Nat, k < 31 → (itm (kd k)).2 = true ∧ ∀ ch ∈ (itm (kd k)).1, ch ∈ ltrs := by decide +kernel
    exact ⟨(h1 k h).1, h, (h1 k h).2⟩
  · refine .inl ⟨?_, by omega⟩
    have e1 : kd k = (k : Int) := by unfold kd; rw [if_neg (by omega)]
    rw [e1, itm_unk (by unfold knoF; simp; omega)]
/-- the spans' item stands first, if at all -/
theorem itm_first {k : Nat} (h : k < 31) : ∀ i, i < (itm (kd k)).1.length → 0 < i → (itm (kd k)).1[i]?.getD 0 ≠ 115 := by
  have h1 : ∀ k : Nat, k < 31 → ∀ i, i < (itm (kd k)).1.length → 0 < i → (itm (kd k)).1[i]?.getD 0 ≠ 115 := by decide +kernel
  exact h1 k h
theorem rMk_l : ∀ (m : Nat) (V : Vr) (f : Fm), (rMk m V f).V.l = V.l
  | 0, _, _ => rfl
  | m + 1, V, f => by rw [show rMk (m + 1) V f = rMk m (numV V).2 (setR f (2 - m) ((numV V).1 : Int)) from rfl, rMk_l m, (numV_le V).1]
theorem rAckL_l : ∀ (m to_ : Nat) (V : Vr) (f : Fm), (rAckL m to_ V f).V.l = V.l := by
  intro m
  induction m with
  | zero =>
    intro to_ V f
    unfold rAckL
    split
    · exact (numV_le V).1
    · exact (numV_le V).1
  | succ m ih =>
    intro to_ V f
    have h1 := (numV_le V).1
    have h2 := ((numV_le (numV V).2).1).trans h1
    unfold rAckL
    split
    · exact h1
    · dsimp only
      split
      · exact h1
      · split
        · exact h2
        · split
          · exact h2
          · rw [ih, h2]
theorem rAck_l (V : Vr) (f : Fm) : (rAck V f).V.l = V.l := by
  have h1 := (numV_le V).1
  have h2 := ((numV_le (numV V).2).1).trans h1
  have h3 := ((numV_le (numV (numV V).2).2).1).trans h2
  unfold rAck
  split
  · split
    · exact h3
    · rw [rAckL_l, h3]
  · exact h3
theorem rItemA_l (ch k : Nat) (V : Vr) (f : Fm) : (rItemA ch k V f).V.l = V.l := by
  have h1 := (numV_le V).1
  unfold rItemA
  split
  · exact rAck_l V f
  · unfold rItem rDat
    (repeat' split) <;> first | rfl | exact h1 | exact bytV_lr _ _ | (exact (bytV_lr _ _).trans h1) | exact rMk_l 3 V f | (exact (bytV_lr _ _).trans (bytV_lr _ _))
/-- a fault sticks -/
theorem numV_st {V : Vr} (h : ¬ V.fault = 0) : numV V = (0, V) := by unfold numV; rw [if_neg h]
theorem bytV_st {V : Vr} (h : ¬ V.fault = 0) (m : Nat) : bytV V m = ([], V) := by unfold bytV; rw [if_neg h]
theorem rItemA_bad {V : Vr} (h : ¬ V.fault = 0) (ch k : Nat) (f : Fm) : (rItemA ch k V f).err = 0 ∧ (rItemA ch k V f).V = V := by
  have h1 := numV_st h
  have h2 := bytV_st h
  have h3 : rbyV V = (0, V) := by unfold rbyV; rw [h2]; rfl
  unfold rItemA
  split
  · unfold rAck
    simp only [h1, if_neg h, and_self]
  · unfold rItem rDat
    simp only [rMk, h1, h2, h3]
    (repeat' split) <;> exact ⟨rfl, rfl⟩
theorem rItems_stick : ∀ (cs : List UInt8) {V : Vr} (_ : ¬ V.fault = 0) (k : Nat) (f : Fm), (rItems cs k V f).err = 0 ∧ (rItems cs k V f).V = V
  | [], _, _, _, _ => ⟨rfl, rfl⟩
  | ch :: cs, V, h, k, f => by
    obtain ⟨h1, h2⟩ := rItemA_bad h ch.toNat k f
    rw [rItems_ok h1, h2]
    exact rItems_stick cs h k _
theorem rTail_stick (cs : List UInt8) {V : Vr} (h : ¬ V.fault = 0) (k : Nat) (f : Fm) : (rTail k (rItems cs k V f)).err = 12 := by
  obtain ⟨h1, h2⟩ := rItems_stick cs h k f
  unfold rTail rEnd
  rw [if_neg (not_not_intro h1), if_pos (by rw [h2]; exact h)]
end Go.Proofs.Ytppkilkfmclpkaa

namespace Go.Proofs.Ytppkilkfmclpkaa
open Go.RowKit

/-- the same error, and without one the same frame at the same place -/
def Eqv (r s : Rs) : Prop := r.err = s.err ∧ (s.err = 0 → r = s)
theorem Eqv.refl (r : Rs) : Eqv r r := ⟨rfl, fun _ => rfl⟩
theorem Eqv.bad {r : Rs} {f : Fm} {V : Vr} {x : Int} (h : r.err = x) (hx : x ≠ 0) : Eqv r ⟨x, f, V⟩ := ⟨h, fun h => absurd h hx⟩
theorem nxN_pos {V : Vr} (h : (numV V).2.fault = 0) (K : Nat → Vr → Rs) : nxN V K = K (numV V).1 (numV V).2 := if_pos h
theorem nxN_neg {V : Vr} (h : ¬ (numV V).2.fault = 0) (K : Nat → Vr → Rs) : nxN V K = ⟨12, fzero, (numV V).2⟩ := if_neg h
theorem one2_nxN (V : Vr) (K : Nat → Vr → Rs) : one2 (nxN V K) = nxN V fun n V => one2 (K n V) := by
  unfold nxN
  by_cases h : (numV V).2.fault = 0
  · rw [if_pos h, if_pos h]
  · rw [if_neg h, if_neg h]; rfl
theorem one2_nxB (V : Vr) (m : Nat) (K : List UInt8 → Vr → Rs) : one2 (nxB V m K) = nxB V m fun n V => one2 (K n V) := by
  unfold nxB
  by_cases h : (bytV V m).2.fault = 0
  · rw [if_pos h, if_pos h]
  · rw [if_neg h, if_neg h]; rfl
theorem one2_bad {x : Int} {f : Fm} {V : Vr} (h : x ≠ 0) : one2 ⟨x, f, V⟩ = ⟨x, f, V⟩ := by unfold one2; rw [if_neg h]
theorem nxT_eq (V : Vr) (K : List UInt8 → Vr → Rs) : nxT V K = nxN V fun n V => nxB V n K := by
  unfold nxT nxN nxB txtV
  by_cases h : (numV V).2.fault = 0
  · rw [if_pos h, if_pos h]
  · rw [if_neg h, if_neg h, if_neg h]
/-- a number is read by both -/
theorem eqv_nxN {V : Vr} {D : Nat → Vr → Rs} {K : Nat → Vr → Rs} (hs : ∀ n V', ¬ V'.fault = 0 → (D n V').err = 12) (h : ∀ n V', V'.fault = 0 → Eqv (D n V') (K n V')) : Eqv (D (numV V).1 (numV V).2) (nxN V K) := by
  unfold nxN
  by_cases h0 : (numV V).2.fault = 0
  · rw [if_pos h0]; exact h _ _ h0
  · rw [if_neg h0]; exact Eqv.bad (hs _ _ h0) (by decide)
theorem eqv_nxB {V : Vr} {m : Nat} {D : List UInt8 → Vr → Rs} {K : List UInt8 → Vr → Rs} (hs : ∀ n V', ¬ V'.fault = 0 → (D n V').err = 12) (h : ∀ n V', V'.fault = 0 → Eqv (D n V') (K n V')) : Eqv (D (bytV V m).1 (bytV V m).2) (nxB V m K) := by
  unfold nxB
  by_cases h0 : (bytV V m).2.fault = 0
  · rw [if_pos h0]; exact h _ _ h0
  · rw [if_neg h0]; exact Eqv.bad (hs _ _ h0) (by decide)
section
variable {V : Vr} {f : Fm} {k : Nat} {cs : List UInt8}
/-- what is left of the document's frame -/
def Td (cs : List UInt8) (k : Nat) (f : Fm) (V : Vr) : Rs := rTail k (rItems cs k V f)
theorem Td_stick (h : ¬ V.fault = 0) : (Td cs k f V).err = 12 := rTail_stick cs h k f
theorem Td_cons {ch : UInt8} (h : (rItemA ch.toNat k V f).err = 0) : Td (ch :: cs) k f V = Td cs k (rItemA ch.toNat k V f).f (rItemA ch.toNat k V f).V := by
  unfold Td; rw [rItems_ok h]
theorem Td_i : Td (105 :: cs) k f V = Td cs k { f with id := ((numV V).1 : Int) } (numV V).2 := Td_cons rfl
theorem Td_n : Td (110 :: cs) k f V = Td cs k { f with n := ((numV V).1 : Int) } (numV V).2 := Td_cons rfl
theorem Td_c : Td (99 :: cs) k f V = Td cs k { f with code := ((numV V).1 : Int) } (numV V).2 := Td_cons rfl
theorem Td_t : Td (116 :: cs) k f V = Td cs k { f with data := (bytV V 16).1 } (bytV V 16).2 := Td_cons rfl
theorem Td_p : Td (112 :: cs) k f V = Td cs k { f with data := (bytV V 8).1 } (bytV V 8).2 := Td_cons rfl
theorem Td_k : Td (107 :: cs) k f V = Td cs k { f with cid := (bytV (bytV V 1).2 ((bytV V 1).1.headD 0).toNat).1 } (bytV (bytV V 1).2 ((bytV V 1).1.headD 0).toNat).2 := Td_cons rfl
theorem Td_a (h : ¬ f.kind = 8 ∨ k / 4 % 2 = 1) : Td (97 :: cs) k f V = Td cs k { f with at_ := ((numV V).1 : Int) } (numV V).2 := by
  have e : rItemA (97 : UInt8).toNat k V f = ⟨0, { f with at_ := ((numV V).1 : Int) }, (numV V).2⟩ := by
    show (if ¬ f.kind = 8 ∨ k / 4 % 2 = 1 then _ else _) = _
    rw [if_pos h]
  rw [Td_cons (by rw [e]), e]
theorem Td_a0 (h : ¬ (¬ f.kind = 8 ∨ k / 4 % 2 = 1)) : Td (97 :: cs) k f V = Td cs k f V := by
  have e : rItemA (97 : UInt8).toNat k V f = ⟨0, f, V⟩ := by
    show (if ¬ f.kind = 8 ∨ k / 4 % 2 = 1 then _ else _) = _
    rw [if_neg h]
  rw [Td_cons (by rw [e]), e]
theorem Td_d (h : ¬ f.kind = 8 ∨ k / 2 % 2 = 1) : Td (100 :: cs) k f V = Td cs k { f with data := (bytV (numV V).2 (numV V).1).1 } (bytV (numV V).2 (numV V).1).2 := by
  have e : rItemA (100 : UInt8).toNat k V f = rDat (numV V).2 f (numV V).1 := by
    show (if ¬ f.kind = 8 ∨ k / 2 % 2 = 1 then _ else _) = _
    rw [if_pos h]
  rw [Td_cons (by rw [e]; rfl), e]; rfl
theorem Td_d0 (h : ¬ (¬ f.kind = 8 ∨ k / 2 % 2 = 1)) : Td (100 :: cs) k f V = Td cs k { f with data := (bytV V (V.l.length - V.at_)).1 } (bytV V (V.l.length - V.at_)).2 := by
  have e : rItemA (100 : UInt8).toNat k V f = rDat V f (V.l.length - V.at_) := by
    show (if ¬ f.kind = 8 ∨ k / 2 % 2 = 1 then _ else _) = _
    rw [if_neg h]
  rw [Td_cons (by rw [e]; rfl), e]; rfl
/-- the end of both -/
theorem eqv_end (hV : V.fault = 0) {f' : Fm} (hf : rOneN (rFin k f) = f') : Eqv (Td [] k f V) (one2 ⟨0, f', V⟩) := by
  have e : Td [] k f V = if ¬ chkF f' = 0 then ⟨51, fzero, V⟩ else ⟨0, f', V⟩ := by
    show rTail k ⟨0, f, V⟩ = _
    unfold rTail
    rw [if_neg (not_not_intro rfl)]
    show rEnd V (rOneN (rFin k f)) = _
    rw [hf]
    unfold rEnd
    rw [if_neg (not_not_intro hV)]
  rw [e]
  unfold one2
  rw [if_pos rfl]
  by_cases h : chkF f' = 0
  · rw [if_neg (not_not_intro h), if_pos h]; exact Eqv.refl _
  · rw [if_pos h, if_neg h]; exact Eqv.refl _
theorem end_id (h8 : ¬ f.kind = 8) (h0 : ¬ f.kind = 0) : rOneN (rFin k f) = f := by
  have e : rFin k f = f := by unfold rFin; rw [if_neg h8]
  rw [e]; unfold rOneN; rw [if_neg h0]
end
/-- marks -/
theorem eqv_mk {cs : List UInt8} {k : Nat} {P : Fm → Vr → Rs} (hs : ∀ f V, ¬ V.fault = 0 → (Td cs k f V).err = 12) (h : ∀ f V, V.fault = 0 → f.kind = 3 → Eqv (Td cs k f V) (one2 (P f V))) :
    ∀ (r : Nat) (f : Fm) (V : Vr), V.fault = 0 → f.kind = 3 → Eqv (Td cs k (rMk r V f).f (rMk r V f).V) (one2 (bindR (mkV r f V) P)) := by
  intro r
  induction r with
  | zero => intro f V hV hk; exact h f V hV hk
  | succ r ih =>
    intro f V hV hk
    have e2 : one2 (bindR (mkV (r + 1) f V) P) = nxN V fun n V => one2 (bindR (mkV r (setE f (2 - r) (n : Int)) V) P) := by
      show one2 (bindR (nxN V _) P) = _
      unfold nxN
      by_cases h0 : (numV V).2.fault = 0
      · rw [if_pos h0, if_pos h0]
      · rw [if_neg h0, if_neg h0]; rfl
    rw [e2]
    have hst : ∀ (n : Nat) (V' : Vr), ¬ V'.fault = 0 → (Td cs k (rMk r V' (setR f (2 - r) (n : Int))).f (rMk r V' (setR f (2 - r) (n : Int))).V).err = 12 := fun n V' hV' => by
      have e : ∀ (m : Nat) (g : Fm), (rMk m V' g).V = V' := by
        intro m
        induction m with
        | zero => intro g; rfl
        | succ m ih => intro g; show (rMk m (numV V').2 _).V = V'; rw [numV_st hV']; exact ih _
      rw [e]
      exact hs _ _ hV'
    have hkk : ∀ (n : Nat), (setR f (2 - r) (n : Int)).kind = 3 := fun n => by unfold setR; (repeat' split) <;> exact hk
    exact eqv_nxN (V := V) (D := fun n V' => Td cs k (rMk r V' (setR f (2 - r) (n : Int))).f (rMk r V' (setR f (2 - r) (n : Int))).V) hst (fun n V' hV' => ih _ _ hV' (hkk n))
/-- behind the spans -/
def Ta (cs : List UInt8) (k : Nat) (r : Rs) : Rs := rTail k (if r.err = 0 then rItems cs k r.V r.f else r)
theorem Td_s (cs : List UInt8) (k : Nat) (f : Fm) (V : Vr) : Td (115 :: cs) k f V = Ta cs k (rAck V f) := rfl
theorem Ta_ok (cs : List UInt8) (k : Nat) (f : Fm) (V : Vr) : Ta cs k ⟨0, f, V⟩ = Td cs k f V := rfl
theorem Ta_bad (cs : List UInt8) (k : Nat) (f : Fm) (V : Vr) {x : Int} (hx : x ≠ 0) : (Ta cs k ⟨x, f, V⟩).err = x := by
  unfold Ta rTail
  rw [if_neg hx, if_pos hx]
theorem Ta_stick (cs : List UInt8) (k : Nat) (f : Fm) {V : Vr} (h : ¬ V.fault = 0) : (Ta cs k ⟨0, f, V⟩).err = 12 := by rw [Ta_ok]; exact Td_stick h
theorem bind_nxN (V : Vr) (K : Nat → Vr → Rs) (P : Fm → Vr → Rs) : bindR (nxN V K) P = nxN V fun n V => bindR (K n V) P := by
  unfold nxN
  by_cases h : (numV V).2.fault = 0
  · rw [if_pos h, if_pos h]
  · rw [if_neg h, if_neg h]; rfl
theorem bind_bad {x : Int} {f : Fm} {V : Vr} (P : Fm → Vr → Rs) (h : x ≠ 0) : bindR ⟨x, f, V⟩ P = ⟨x, f, V⟩ := by unfold bindR; rw [if_neg h]
theorem eqv_ackL {cs : List UInt8} {k : Nat} {P : Fm → Vr → Rs} {fd : Fm} (h : ∀ l V, V.fault = 0 → Eqv (Td cs k { fd with spans := l } V) (one2 (P { fd with spans := l } V))) :
    ∀ (m t : Nat) (acc : List Sn) (V : Vr), V.fault = 0 → Eqv (Ta cs k (rAckL m t V { fd with spans := acc.reverse })) (one2 (bindR (nxN V fun s V => spLoop fd m s t acc V) P)) := by
  intro m
  induction m with
  | zero =>
    intro t acc V hV
    rw [bind_nxN, one2_nxN]
    by_cases h0 : (numV V).2.fault = 0
    · rw [nxN_pos h0]
      show Eqv _ (one2 (bindR (spLoop fd 0 (numV V).1 t acc (numV V).2) P))
      by_cases h1 : t < (numV V).1
      · rw [rAckL_bad ⟨h0, h1⟩, spLoop_bad h1, bind_bad P (by decide), one2_bad (by decide)]
        exact Eqv.bad (Ta_bad _ _ _ _ (by decide)) (by decide)
      · rw [rAckL_end (fun h => h1 h.2) (.inl rfl), spLoop_end h1, Ta_ok]
        have e : (acc ++ [sn1 t (numV V).1]).reverse = sn1 t (numV V).1 :: acc.reverse := by simp
        rw [e]
        exact h _ _ h0
    · rw [nxN_neg h0, rAckL_end (fun h => h0 h.1) (.inr h0)]
      exact Eqv.bad (Ta_stick _ _ _ h0) (by decide)
  | succ m ih =>
    intro t acc V hV
    rw [bind_nxN, one2_nxN]
    by_cases h0 : (numV V).2.fault = 0
    · rw [nxN_pos h0]
      show Eqv _ (one2 (bindR (spLoop fd (m + 1) (numV V).1 t acc (numV V).2) P))
      by_cases h1 : t < (numV V).1
      · rw [rAckL_bad ⟨h0, h1⟩, spLoop_bad h1, bind_bad P (by decide), one2_bad (by decide)]
        exact Eqv.bad (Ta_bad _ _ _ _ (by decide)) (by decide)
      · rw [rAckL_next (fun h => h1 h.2) h0, spLoop_more h1, bind_nxN, one2_nxN]
        by_cases h2 : (numV (numV V).2).2.fault = 0
        · rw [nxN_pos h2, if_neg (not_not_intro h2)]
          by_cases h3 : t - (numV V).1 < (numV (numV V).2).1 + 2
          · rw [if_pos h3, if_pos h3, bind_bad P (by decide), one2_bad (by decide)]
            exact Eqv.bad (Ta_bad _ _ _ _ (by decide)) (by decide)
          · rw [if_neg h3, if_neg h3]
            have e : sn1 t (numV V).1 :: acc.reverse = (acc ++ [sn1 t (numV V).1]).reverse := by simp
            simp only [e]
            exact ih _ _ _ h2
        · rw [nxN_neg h2, if_pos h2]
          exact Eqv.bad (Ta_stick _ _ _ h2) (by decide)
    · rw [nxN_neg h0, rAckL_end (fun h => h0 h.1) (.inr h0)]
      exact Eqv.bad (Ta_stick _ _ _ h0) (by decide)
/-- the spans' item -/
theorem eqv_ack {cs : List UInt8} {k : Nat} {P : Fm → Vr → Rs} {f : Fm} (hs : f.spans = []) (h : ∀ f' V, V.fault = 0 → f'.kind = f.kind → Eqv (Td cs k f' V) (one2 (P f' V))) (V : Vr) : Eqv (Td (115 :: cs) k f V) (one2 (bindR (spsV V f) P)) := by
  rw [Td_s]
  unfold spsV rAck
  rw [bind_nxN, one2_nxN]
  by_cases h1 : (numV V).2.fault = 0
  · by_cases h2 : (numV (numV V).2).2.fault = 0
    · by_cases h3 : (numV (numV (numV V).2).2).2.fault = 0
      · rw [if_pos h3]
        rw [nxN_pos h1]
        obtain ⟨hh, ehh⟩ : ∃ hh, hh = (numV V).1 := ⟨_, rfl⟩
        rw [← ehh]
        show Eqv _ (one2 (bindR (nxN (numV V).2 fun d V => nxN V fun m V => if 64 ≤ m then ⟨51, fzero, V⟩ else nxN V fun s V => spLoop { f with delay := (d : Int) } m s hh [] V) P))
        rw [nxN_pos h2, nxN_pos h3]
        by_cases h4 : 63 < (numV (numV (numV V).2).2).1
        · rw [if_pos h4, if_pos (by omega), bind_bad P (by decide), one2_bad (by decide)]
          exact Eqv.bad (Ta_bad _ _ _ _ (by decide)) (by decide)
        · rw [if_neg h4, if_neg (by omega)]
          have e : ({ f with delay := ((numV (numV V).2).1 : Int) } : Fm) = { ({ f with delay := ((numV (numV V).2).1 : Int) } : Fm) with spans := ([] : List Sn).reverse } := by
            obtain ⟨_, _, _, _, _, _, _, _, _, _, _, _, _⟩ := f
            simp only at hs
            subst hs
            rfl
          rw [e]
          exact eqv_ackL (fd := { ({ f with delay := ((numV (numV V).2).1 : Int) } : Fm) with spans := ([] : List Sn).reverse }) (fun l V hV => h _ V hV rfl) _ _ [] _ h3
      · rw [if_neg h3]
        rw [nxN_pos h1]
        obtain ⟨hh, ehh⟩ : ∃ hh, hh = (numV V).1 := ⟨_, rfl⟩
        rw [← ehh]
        show Eqv _ (one2 (bindR (nxN (numV V).2 fun d V => nxN V fun m V => if 64 ≤ m then ⟨51, fzero, V⟩ else nxN V fun s V => spLoop { f with delay := (d : Int) } m s hh [] V) P))
        rw [nxN_pos h2, nxN_neg h3]
        exact Eqv.bad (Ta_stick _ _ _ h3) (by decide)
    · have e := numV_st h2
      rw [e]
      simp only
      rw [if_neg h2]
      rw [nxN_pos h1]
      obtain ⟨hh, ehh⟩ : ∃ hh, hh = (numV V).1 := ⟨_, rfl⟩
      rw [← ehh]
      show Eqv _ (one2 (bindR (nxN (numV V).2 fun d V => nxN V fun m V => if 64 ≤ m then ⟨51, fzero, V⟩ else nxN V fun s V => spLoop { f with delay := (d : Int) } m s hh [] V) P))
      rw [nxN_neg h2]
      exact Eqv.bad (Ta_stick _ _ _ h2) (by decide)
  · have e := numV_st h1
    rw [e]
    simp only [e]
    rw [if_neg h1]
    rw [nxN_neg h1]
    exact Eqv.bad (Ta_stick _ _ _ h1) (by decide)
section
variable {V : Vr} {f : Fm} {k : Nat} {cs : List UInt8}
/-- a number's item -/
theorem eqv_i {K : Nat → Vr → Rs} (h : ∀ n V', V'.fault = 0 → Eqv (Td cs k { f with id := ((n : Nat) : Int) } V') (one2 (K n V'))) : Eqv (Td (105 :: cs) k f V) (one2 (nxN V K)) := by
  rw [Td_i, one2_nxN]
  exact eqv_nxN (D := fun n V => Td cs k { f with id := ((n : Nat) : Int) } V) (fun _ _ h => Td_stick h) h
theorem eqv_n {K : Nat → Vr → Rs} (h : ∀ n V', V'.fault = 0 → Eqv (Td cs k { f with n := ((n : Nat) : Int) } V') (one2 (K n V'))) : Eqv (Td (110 :: cs) k f V) (one2 (nxN V K)) := by
  rw [Td_n, one2_nxN]
  exact eqv_nxN (D := fun n V => Td cs k { f with n := ((n : Nat) : Int) } V) (fun _ _ h => Td_stick h) h
theorem eqv_c {K : Nat → Vr → Rs} (h : ∀ n V', V'.fault = 0 → Eqv (Td cs k { f with code := ((n : Nat) : Int) } V') (one2 (K n V'))) : Eqv (Td (99 :: cs) k f V) (one2 (nxN V K)) := by
  rw [Td_c, one2_nxN]
  exact eqv_nxN (D := fun n V => Td cs k { f with code := ((n : Nat) : Int) } V) (fun _ _ h => Td_stick h) h
theorem eqv_a (h8 : ¬ f.kind = 8 ∨ k / 4 % 2 = 1) {K : Nat → Vr → Rs} (h : ∀ n V', V'.fault = 0 → Eqv (Td cs k { f with at_ := ((n : Nat) : Int) } V') (one2 (K n V'))) : Eqv (Td (97 :: cs) k f V) (one2 (nxN V K)) := by
  rw [Td_a h8, one2_nxN]
  exact eqv_nxN (D := fun n V => Td cs k { f with at_ := ((n : Nat) : Int) } V) (fun _ _ h => Td_stick h) h
theorem eqv_t {K : List UInt8 → Vr → Rs} (h : ∀ n V', V'.fault = 0 → Eqv (Td cs k { f with data := n } V') (one2 (K n V'))) : Eqv (Td (116 :: cs) k f V) (one2 (nxB V 16 K)) := by
  rw [Td_t, one2_nxB]
  exact eqv_nxB (D := fun n V => Td cs k { f with data := n } V) (fun _ _ h => Td_stick h) h
theorem eqv_p {K : List UInt8 → Vr → Rs} (h : ∀ n V', V'.fault = 0 → Eqv (Td cs k { f with data := n } V') (one2 (K n V'))) : Eqv (Td (112 :: cs) k f V) (one2 (nxB V 8 K)) := by
  rw [Td_p, one2_nxB]
  exact eqv_nxB (D := fun n V => Td cs k { f with data := n } V) (fun _ _ h => Td_stick h) h
theorem eqv_d (h8 : ¬ f.kind = 8 ∨ k / 2 % 2 = 1) {K : List UInt8 → Vr → Rs} (h : ∀ n V', V'.fault = 0 → Eqv (Td cs k { f with data := n } V') (one2 (K n V'))) : Eqv (Td (100 :: cs) k f V) (one2 (nxT V K)) := by
  rw [Td_d h8, nxT_eq, one2_nxN]
  refine eqv_nxN (D := fun n V => Td cs k { f with data := (bytV V n).1 } (bytV V n).2) (fun n V' hV' => ?_) (fun n V' hV' => ?_)
  · rw [bytV_st hV']; exact Td_stick hV'
  · rw [one2_nxB]
    exact eqv_nxB (D := fun n V => Td cs k { f with data := n } V) (fun _ _ h => Td_stick h) h
theorem eqv_d0 (h8 : ¬ (¬ f.kind = 8 ∨ k / 2 % 2 = 1)) {K : List UInt8 → Vr → Rs} (h : ∀ n V', V'.fault = 0 → Eqv (Td cs k { f with data := n } V') (one2 (K n V'))) : Eqv (Td (100 :: cs) k f V) (one2 (nxB V (V.l.length - V.at_) K)) := by
  rw [Td_d0 h8, one2_nxB]
  exact eqv_nxB (D := fun n V => Td cs k { f with data := n } V) (fun _ _ h => Td_stick h) h
theorem eqv_k {K : List UInt8 → List UInt8 → Vr → Rs} (h : ∀ b n V', V'.fault = 0 → Eqv (Td cs k { f with cid := n } V') (one2 (K b n V'))) : Eqv (Td (107 :: cs) k f V) (one2 (nxB V 1 fun b V => nxB V (b.headD 0).toNat (K b))) := by
  rw [Td_k, one2_nxB]
  refine eqv_nxB (D := fun b V => Td cs k { f with cid := (bytV V (b.headD 0).toNat).1 } (bytV V (b.headD 0).toNat).2) (fun n V' hV' => ?_) (fun b V' hV' => ?_)
  · rw [bytV_st hV']; exact Td_stick hV'
  · rw [one2_nxB]
    exact eqv_nxB (D := fun n V => Td cs k { f with cid := n } V) (fun _ _ h => Td_stick h) (h b)
end
/-- the items of a known type, by the document and by the program -/
theorem eqv_items (k : Nat) (hk : ¬ 30 < k) (V : Vr) (hV : V.fault = 0) : Eqv (Td (itm (kd k)).1 k { fzero with kind := kd k } V) (one2 (oneItems k V)) := by
  have hid : ∀ {f : Fm}, ¬ f.kind = 8 → ¬ f.kind = 0 → ∀ {V : Vr}, V.fault = 0 → Eqv (Td [] k f V) (one2 ⟨0, f, V⟩) := fun h8 h0 _ hV => eqv_end hV (end_id h8 h0)
  by_cases h8 : 8 ≤ k ∧ k < 16
  · have e1 : kd k = 8 := by unfold kd; rw [if_pos (by omega)]
    have e2 : oneItems k V = stmV V { fzero with kind := 8 } k := by unfold oneItems; rw [if_pos h8]
    rw [e1, e2]
    have hfin : ∀ {f : Fm}, f.kind = 8 → ∀ {V : Vr}, V.fault = 0 → Eqv (Td [] k f V) (one2 ⟨0, { f with fin := decide (k % 2 = 1) }, V⟩) := fun {f} h8 _ hV => eqv_end hV (by unfold rFin; rw [if_pos h8]; unfold rOneN; rw [if_neg (by rw [show ({ f with fin := decide (k % 2 = 1) } : Fm).kind = f.kind from rfl, h8]; decide)])
    show Eqv (Td (105 :: [97, 100]) k _ V) _
    unfold stmV
    refine eqv_i fun i V1 h1 => ?_
    have h3 : ∀ (f : Fm) (V : Vr), f.kind = 8 → V.fault = 0 → Eqv (Td [100] k f V) (one2 (stm2 V f k)) := fun f V hf hV => by
      unfold stm2 stm3
      by_cases h2 : k / 2 % 2 = 1
      · rw [if_pos h2]
        have hh := eqv_d (V := V) (f := f) (k := k) (cs := []) (.inr h2) (K := fun d V => ⟨0, { f with data := d, fin := decide (k % 2 = 1) }, V⟩) (fun d V' h' => hfin (f := { f with data := d }) hf h')
        rw [nxT_eq] at hh
        exact hh
      · rw [if_neg h2, leftV_ok hV]
        exact eqv_d0 (by rintro (h | h); exact h hf; exact h2 h) (fun d V' h' => hfin (f := { f with data := d }) hf h')
    unfold stm1
    by_cases h4 : k / 4 % 2 = 1
    · rw [if_pos h4]
      exact eqv_a (.inr h4) (fun t V2 hV2 => h3 _ _ rfl hV2)
    · rw [if_neg h4]
      have e3 : Td [97, 100] k ({ fzero with kind := 8, id := (i : Int) } : Fm) V1 = Td [100] k ({ fzero with kind := 8, id := (i : Int) } : Fm) V1 := Td_a0 (by rintro (h | h); exact h rfl; exact h4 h)
      exact (show Td [97, 100] k _ V1 = _ from e3) ▸ h3 _ _ rfl h1
  · have e1 : kd k = (k : Int) := by unfold kd; rw [if_neg (by omega)]
    rw [e1]
    unfold oneItems
    rw [if_neg h8]
    have hc : k = 0 ∨ k = 1 ∨ k = 2 ∨ k = 3 ∨ k = 4 ∨ k = 5 ∨ k = 6 ∨ k = 7 ∨ k = 16 ∨ k = 17 ∨ k = 18 ∨ k = 19 ∨ k = 20 ∨ k = 21 ∨ k = 22 ∨ k = 23 ∨ k = 24 ∨ k = 25 ∨ k = 26 ∨ k = 27 ∨ k = 28 ∨ k = 29 ∨ k = 30 := by omega
    clear e1 h8 hk
    rcases hc with rfl | rfl | rfl | rfl | rfl | rfl | rfl | rfl | rfl | rfl | rfl | rfl | rfl | rfl | rfl | rfl | rfl | rfl | rfl | rfl | rfl | rfl | rfl
    · exact eqv_end hV rfl
    · exact hid (by simp) (by simp) hV
    · have h := eqv_ack (cs := []) (k := 2) (P := fun f V => ⟨0, f, V⟩) (f := { fzero with kind := 2 }) rfl (fun f' V hV hf => eqv_end hV (end_id (by rw [hf]; decide) (by rw [hf]; decide))) V
      have e : bindR (spsV V { fzero with kind := 2 }) (fun f V => ⟨0, f, V⟩) = spsV V { fzero with kind := 2 } := by
        unfold bindR
        split
        · rename_i h; exact (by rw [← h])
        · rfl
      rw [e] at h
      exact h
    · refine eqv_ack (cs := [101]) (k := 3) (P := mkV 3) (f := { fzero with kind := 3 }) rfl (fun f' V hV hf => ?_) V
      have e : Td [101] 3 f' V = Td [] 3 (rMk 3 V f').f (rMk 3 V f').V := Td_cons rfl
      rw [e]
      have h := eqv_mk (cs := []) (k := 3) (P := fun f V => ⟨0, f, V⟩) (fun _ _ h => Td_stick h) (fun f V hV hf => eqv_end hV (end_id (by rw [hf]; decide) (by rw [hf]; decide))) 3 f' V hV hf
      have e : bindR (mkV 3 f' V) (fun f V => ⟨0, f, V⟩) = mkV 3 f' V := by
        unfold bindR
        split
        · rename_i h; exact (by rw [← h])
        · rfl
      rw [e] at h
      exact h
    · exact eqv_i fun _ _ _ => eqv_c fun _ _ _ => eqv_n fun _ _ h => hid (by simp) (by simp) h
    · exact eqv_i fun _ _ _ => eqv_c fun _ _ h => hid (by simp) (by simp) h
    · exact eqv_a (.inl (by simp)) fun _ _ _ => eqv_d (.inl (by simp)) fun _ _ h => hid (by simp) (by simp) h
    · exact eqv_d (.inl (by simp)) fun _ _ h => hid (by simp) (by simp) h
    · exact eqv_n fun _ _ h => hid (by simp) (by simp) h
    · exact eqv_i fun _ _ _ => eqv_n fun _ _ h => hid (by simp) (by simp) h
    · exact eqv_n fun _ _ h => hid (by simp) (by simp) h
    · exact eqv_n fun _ _ h => hid (by simp) (by simp) h
    · exact eqv_n fun _ _ h => hid (by simp) (by simp) h
    · exact eqv_i fun _ _ _ => eqv_n fun _ _ h => hid (by simp) (by simp) h
    · exact eqv_n fun _ _ h => hid (by simp) (by simp) h
    · exact eqv_n fun _ _ h => hid (by simp) (by simp) h
    · exact eqv_n fun _ _ _ => eqv_a (.inl (by simp)) fun _ _ _ => eqv_k fun _ _ _ _ => eqv_t fun _ _ h => hid (by simp) (by simp) h
    · exact eqv_n fun _ _ h => hid (by simp) (by simp) h
    · exact eqv_p fun _ _ h => hid (by simp) (by simp) h
    · exact eqv_p fun _ _ h => hid (by simp) (by simp) h
    · exact eqv_c fun _ _ _ => eqv_n fun _ _ _ => eqv_d (.inl (by simp)) fun _ _ h => hid (by simp) (by simp) h
    · exact eqv_c fun _ _ _ => eqv_d (.inl (by simp)) fun _ _ h => hid (by simp) (by simp) h
    · exact hid (by simp) (by simp) hV
/-- one frame: the document's is the program's -/
theorem rone_eqv (V : Vr) : Eqv (rOne V) (oneV V) := by
  unfold rOne oneV
  refine eqv_nxN (D := fun k V' => rBody V.at_ k V') (fun k V' hV' => ?_) (fun k V' hV' => ?_)
  · unfold rBody; rw [if_pos hV']
  · unfold rBody oneBody
    rw [if_neg (not_not_intro hV')]
    by_cases h1 : ¬ V'.at_ - V.at_ = szN k
    · rw [if_pos h1, if_pos h1]
      exact Eqv.refl _
    · rw [if_neg h1, if_neg h1]
      rcases @itm_kd k with ⟨h2, h3⟩ | ⟨h2, h3, _⟩
      · rw [if_pos h2, if_pos h3]; exact Eqv.refl _
      · rw [if_neg (by rw [h2]; decide), if_neg (by omega)]
        exact eqv_items k (by omega) V' hV'
end Go.Proofs.Ytppkilkfmclpkaa

namespace Go.Proofs.Ytppkilkfmclpkaa
open Go.RowKit

/-- WALK -/
theorem rok1 (k : Nat) : ((8 : Int) ≤ (k : Int)) = False ∧ kd k = (k : Int) ∨ ((8 : Int) ≤ (k : Int)) = True ∧ kd k = 8 ∧ ((k : Int) ≤ 15) = True ∨ ((8 : Int) ≤ (k : Int)) = True ∧ kd k = (k : Int) ∧ ((k : Int) ≤ 15) = False := by
  unfold kd
  by_cases h : 8 ≤ k
  · by_cases h2 : k ≤ 15
    · exact .inr (.inl ⟨eq_true (by omega), if_pos ⟨h, h2⟩, eq_true (by omega)⟩)
    · exact .inr (.inr ⟨eq_true (by omega), if_neg (by omega), eq_false (by omega)⟩)
  · exact .inl ⟨eq_false (by omega), if_neg (by omega)⟩
theorem results_rone {fn : Func} {c1 c2 : Tmp} (h : fn.results = #[.cell c1 34, .tmp c2]) (tmps : Array Value) {w : World} {gf : Nat} {vs : List Value} {z : Int} (hc : tmps[c1]?.getD undef = .pointer (some ⟨gf, 0, none⟩)) (hc2 : tmps[c2]?.getD undef = .int .i64 z) (hH : Has w gf 34 vs) (hl : vs.length = 13) :
    (results fn tmps).run Try.prog w = .ok (.tuple #[.agg vs.toArray, .int .i64 z]) w := by
  have hr := run_load_frR hH hl
  simp only [results, h]
  simp [hc, hc2, asAddr, hr]
theorem zall : Array.all (#[.int .i64 0, .int .i64 0, .int .i64 0, .int .i64 0, .int .i64 0, .bool false, .slice none 0 0, .slice none 0 0, .slice none 0 0, .int .i64 0, .int .i64 0, .int .i64 0, .int .i64 0] : Array Value) (·.oneCell') = true := by simp [Value.oneCell']
theorem vall (f2 : Fm) (fa1 : FA) : Array.all (#[.int .i64 f2.kind, .int .i64 f2.id, .int .i64 f2.at_, .int .i64 f2.n, .int .i64 f2.code, .bool f2.fin, .slice fa1.da f2.data.length fa1.dc, .slice fa1.ca f2.cid.length fa1.cc, .slice fa1.sa f2.spans.length fa1.sc, .int .i64 f2.delay, .int .i64 f2.e0, .int .i64 f2.e1, .int .i64 f2.e2] : Array Value) (·.oneCell') = true := by simp [Value.oneCell']
def ROneR (w : World) (g : Nat) (a : Option Addr) (c : Nat) (r : Rs) (e : Ending) (w' : World) : Prop :=
  ∃ f fa, e = .returned (.tuple #[.agg (fcells f fa).toArray, .int .i64 r.err]) ∧ Kept (fun k => k = g) w w' ∧ RV w' g r.V a c ∧ (r.err = 0 → f = r.f ∧ FOwn w' w.heap.size f fa)
/-- a fault: the zero frame is laid, the reader goes back as it is -/
theorem rone_exit {w w1 w2 w8 : World} {g gr : Nat} {a : Option Addr} {c : Nat} {R : Rs} {V2 : Vr} {x : Int} {vs : List Value} (hb : Below w.heap.size w w1) (hgr : gr = w.heap.size) (hk : Kept (fun k => k = g ∨ w.heap.size ≤ k) w1 w2) (hV : RV w2 g V2 a c) (hg : gr ≠ g) (ha : ∀ ad, a = some ad → ad.block < w.heap.size) (hR : R = ⟨x, fzero, V2⟩) (hx : x ≠ 0) (h8 : w8 = w2.setCells gr 0 vs) :
    ROneR w g a c R (.returned (.tuple #[.agg (fcells fzero azero).toArray, .int .i64 x])) w8 := by
  have hks := Kept.sets gr vs 0 w2
  rw [← h8] at hks
  have h1 : Kept (fun k => k = g) w w1 := Kept.of_below hb
  refine ⟨fzero, azero, by rw [hR], (h1.trans hk (fun k hk e => ?_)).trans hks (fun k hk e => ?_), ?_, fun h0 => absurd (by rw [hR] at h0; exact h0) hx⟩
  · rcases e with e | e
    · exact e
    · omega
  · omega
  · rw [hR]
    exact hV.kept hks (fun e => hg e.symm) (fun ad h e => by have := ha ad h; omega)
/-- the frame's variable is laid -/
theorem rone_start {w3 w5 : World} {B g gf : Nat} {a : Option Addr} {c : Nat} {V2 : Vr} {kk : Int} (hgf : gf = w3.heap.size) (h5 : w5 = w3.alloc (.cells #[.int .i64 kk, .int .i64 0, .int .i64 0, .int .i64 0, .int .i64 0, .bool false, .slice none 0 0, .slice none 0 0, .slice none 0 0, .int .i64 0, .int .i64 0, .int .i64 0, .int .i64 0] 34)) (hV : RV w3 g V2 a c) (hB : B ≤ w3.heap.size) (ha : ∀ ad, a = some ad → ad.block < B) :
    SR w5 B g gf a c V2 { fzero with kind := kk } azero := by
  subst hgf h5
  exact ⟨hV.below (alB w3 _), Has.new _ _ _, ⟨⟨rfl, .inl ⟨rfl, rfl⟩⟩, ⟨rfl, .inl ⟨rfl, rfl⟩⟩, ⟨rfl, .inl ⟨rfl, rfl⟩⟩⟩, fun ad h => by have := ha ad h; omega⟩
theorem rMk_kind : ∀ (m : Nat) (V : Vr) (f : Fm), (rMk m V f).f.kind = f.kind
  | 0, _, _ => rfl
  | m + 1, V, f => by
    rw [show rMk (m + 1) V f = rMk m (numV V).2 (setR f (2 - m) ((numV V).1 : Int)) from rfl, rMk_kind m]
    unfold setR
    (repeat' split) <;> rfl
theorem rAckL_kind : ∀ (m to_ : Nat) (V : Vr) (f : Fm), (rAckL m to_ V f).f.kind = f.kind := by
  intro m
  induction m with
  | zero =>
    intro to_ V f
    unfold rAckL
    split <;> rfl
  | succ m ih =>
    intro to_ V f
    unfold rAckL
    split
    · rfl
    · dsimp only
      split
      · rfl
      · split
        · rfl
        · split
          · rfl
          · rw [ih]
theorem rItemA_kind (ch k : Nat) (V : Vr) (f : Fm) : (rItemA ch k V f).f.kind = f.kind := by
  unfold rItemA
  split
  · unfold rAck
    split
    · split
      · rfl
      · rw [rAckL_kind]
    · rfl
  · unfold rItem rDat
    (repeat' split) <;> first | rfl | exact rMk_kind 3 V f
/-- what holds at the loop's head -/
def OLRel (w w1 : World) (g gr gf : Nat) (a : Option Addr) (c k : Nat) (kk : Int) (cs : List UInt8) (R : Rs) (v : Value) (wr : World) : Prop :=
  ∃ (i : Nat) (V : Vr) (f : Fm) (fa : FA), v = .int .i64 (i : Int) ∧ i ≤ cs.length ∧ SR wr w.heap.size g gf a c V f fa ∧ Has wr gr 34 (fcells fzero azero) ∧ Kept (fun k => k = g ∨ w.heap.size ≤ k) w1 wr ∧ V.l.length ≤ 140737488351232 ∧ f.kind = kk ∧ (i = 0 → f.spans = [] ∧ fa.sa = none) ∧ R = rTail k (rItems (cs.drop i) k V f)
theorem ol_next {w w1 wr w2 : World} {g gr gf : Nat} {a : Option Addr} {c k : Nat} {kk : Int} {cs : List UInt8} {R r : Rs} {i : Nat} {V : Vr} {f : Fm} {fa2 : FA} (hi : i < cs.length) (hX : Has wr gr 34 (fcells fzero azero)) (hK : Kept (fun k => k = g ∨ w.heap.size ≤ k) w1 wr) (hl : V.l.length ≤ 140737488351232) (hf : f.kind = kk) (hR : R = rTail k (rItems (cs.drop i) k V f)) (hg : gr ≠ g) (hgf : w.heap.size ≤ gf) (hrf : gr ≠ gf) (hr : r = rItemA cs[i].toNat k V f)
    (hk2 : Kept (fun k => k = g ∨ k = gf) wr w2) (_ : SR w2 w.heap.size g gf a c r.V r.f fa2) : Has w2 gr 34 (fcells fzero azero) ∧ Kept (fun k => k = g ∨ w.heap.size ≤ k) w1 w2 ∧ r.V.l.length ≤ 140737488351232 ∧ r.f.kind = kk ∧ (r.err = 0 → R = rTail k (rItems (cs.drop (i + 1)) k r.V r.f)) ∧ (¬ r.err = 0 → R = ⟨r.err, fzero, r.V⟩) := by
  refine ⟨hX.kept hk2 (fun e => ?_), hK.trans hk2 (fun k _ e => ?_), by rw [hr, rItemA_l]; exact hl, by rw [hr, rItemA_kind]; exact hf, fun h => ?_, fun h => ?_⟩
  · rcases e with e | e
    · exact hg e
    · exact hrf e
  · rcases e with e | e
    · exact .inl e
    · exact .inr (by rw [e]; exact hgf)
  · rw [hR, List.drop_eq_getElem_cons hi, rItems_ok (by rw [← hr]; exact h), ← hr]
  · rw [hR, List.drop_eq_getElem_cons hi, rItems_bad (by rw [← hr]; exact h), ← hr]
    unfold rTail
    rw [if_pos h]
/-- a frame that was read is laid -/
theorem rone_good {w w1 w2 w8 : World} {g gr gf : Nat} {a : Option Addr} {c : Nat} {R : Rs} {V2 : Vr} {f : Fm} {fa : FA} {us vs : List Value} (hb : Below w.heap.size w w1) (hgr : gr = w.heap.size) (hk : Kept (fun k => k = g ∨ w.heap.size ≤ k) w1 w2) (h : SR w2 w.heap.size g gf a c V2 f fa) (hX : Has w2 gr 34 us) (hg : gr ≠ g) (ha : ∀ ad, a = some ad → ad.block < w.heap.size) (hR : R = ⟨0, f, V2⟩) (h8 : w8 = w2.setCells gr 0 vs) :
    ROneR w g a c R (.returned (.tuple #[.agg (fcells f fa).toArray, .int .i64 0])) w8 := by
  have hks := Kept.sets gr vs 0 w2
  rw [← h8] at hks
  have h1 : Kept (fun k => k = g) w w1 := Kept.of_below hb
  refine ⟨f, fa, by rw [hR], (h1.trans hk (fun k hk e => ?_)).trans hks (fun k hk e => ?_), ?_, fun _ => ⟨by rw [hR], ?_⟩⟩
  · rcases e with e | e
    · exact e
    · omega
  · omega
  · rw [hR]
    exact h.rv.kept hks (fun e => hg e.symm) (fun ad h e => by have := ha ad h; omega)
  · exact h.own.kept hks (h.own.nty hX (by decide) (by decide))
theorem rkb {k : Nat} {b : Bool} (h : b = decide (k % 2 = 1)) : (b = true ∧ (k : Int).tmod 2 = 1) ∨ (b = false ∧ (k : Int).tmod 2 = 0) := by
  have e : (k : Int).tmod 2 = ((k % 2 : Nat) : Int) := by rw [Int.tmod_eq_emod_of_nonneg (by omega)]; omega
  by_cases h1 : k % 2 = 1
  · exact .inl ⟨by rw [h]; simp [h1], by rw [e, h1]; rfl⟩
  · exact .inr ⟨by rw [h]; simp [h1], by rw [e]; omega⟩
theorem rfin8 {k : Nat} {f : Fm} (h : f.kind = 8) : rOneN (rFin k f) = { f with fin := decide (k % 2 = 1) } := by
  unfold rFin
  rw [if_pos h]
  unfold rOneN
  rw [if_neg (by rw [show ({ f with fin := decide (k % 2 = 1) } : Fm).kind = f.kind from rfl, h]; decide)]
theorem rfinN {k : Nat} {f : Fm} (h : ¬ f.kind = 8) : rFin k f = f := by unfold rFin; rw [if_neg h]
theorem ronen0 {f : Fm} (h : f.kind = 0) : rOneN f = { f with n := 1 } := by unfold rOneN; rw [if_pos h]
theorem ronenN {f : Fm} (h : ¬ f.kind = 0) : rOneN f = f := by unfold rOneN; rw [if_neg h]
set_option maxRecDepth 100000 in
set_option maxHeartbeats 4000000 in
theorem rone_any (w : World) {g : Nat} {V : Vr} {a : Option Addr} {c : Nat} (hV : RV w g V a c) (hl : V.l.length ≤ 140737488351232) (ha : ∀ ad, a = some ad → ad.block < w.heap.size) :
    Calls Try.prog 43 #[.pointer (some ⟨g, 0, none⟩)] w (ROneR w g a c (rOne V)) := by
  obtain ⟨w1, hw1⟩ : ∃ w1, w1 = w.alloc (.cells #[.int .i64 0, .int .i64 0, .int .i64 0, .int .i64 0, .int .i64 0, .bool false, .slice none 0 0, .slice none 0 0, .slice none 0 0, .int .i64 0, .int .i64 0, .int .i64 0, .int .i64 0] 34) := ⟨_, rfl⟩
  obtain ⟨gr, hgr⟩ : ∃ gr, gr = w.heap.size := ⟨_, rfl⟩
  have hb1 : Below w.heap.size w w1 := by rw [hw1]; exact alB w _
  have HX1 : Hid (Has w1 gr 34 (fcells fzero azero)) := Lib.hid (by rw [hw1, hgr]; exact Has.new _ _ _)
  have h1 := hV.below hb1
  have c1 := h1.has.cell 1 rfl
  have HV1 := Lib.hid h1
  have HN := Lib.hid (rnumber_any w1 h1)
  obtain ⟨R, hR⟩ : ∃ R, R = rOne V := ⟨_, rfl⟩
  rw [← hR]
  unfold rOne at hR
  obtain ⟨r1, hr1⟩ : ∃ r1, r1 = numV V := ⟨_, rfl⟩
  rw [← hr1] at HN hR
  obtain ⟨k, V2⟩ := r1
  simp only at hR
  have HR := Lib.hid hR
  have hnl := numV_le V
  have hlt := numV_lt V
  rw [← hr1] at hnl hlt
  have HKl : Hid (k < 4611686018427387904) := Lib.hid hlt
  have HLl : Hid (V2.l = V.l) := Lib.hid hnl.1
  have HAl : Hid (V.at_ ≤ V2.at_) := Lib.hid hnl.2.1
  clear hnl hlt
  have HB1 := Lib.hid hb1
  have HGr := Lib.hid hgr
  clear hR hr1 hb1 h1 hV
  go_enter Try.func43, Try.ntmps43
  go_upto_region 1 with fail
  rw [← hw1, ← hgr]
  clear hw1 hgr
  go_wp2_with fail
  refine HN.out.mono ?_
  rintro e w2 ⟨he, hk2, hV2⟩
  obtain rfl : e = .returned (.int .i64 (k : Int)) := he
  have f2 := hV2.has.cell 2 rfl
  have a2 := hV2.has.cell 1 rfl
  have HV2 := Lib.hid hV2
  have HK2 := Lib.hid hk2
  have hgg : gr ≠ g := by
    have h1 := HB1.out.size
    intro e1
    have := has_ne HX1.out HV1.out.has (by decide)
    exact this e1
  have HX2 := Lib.hid (HX1.out.kept hk2 hgg)
  have HLe : Hid (V.at_ ≤ V2.at_ ∧ V2.at_ < 9223372036854775808) := Lib.hid ⟨HAl.out, Nat.lt_of_le_of_lt hV2.le hV2.big⟩
  clear hk2 hV2
  by_cases h0 : ¬ V2.fault = 0
  · have y0 : ¬ (V2.fault = 0) := h0
    have HE : Hid (R = ⟨12, fzero, V2⟩) := Lib.hid (by rw [HR.out]; unfold rBody; rw [if_pos h0])
    clear h0
    have h1 := zall
    have hth := HX2.out.there rfl
    obtain ⟨w8, hw8⟩ : ∃ w8, w8 = w2.setCells gr 0 (fcells fzero azero) := ⟨_, rfl⟩
    have HW8 := Lib.hid hw8
    clear hw8
    go_wp2_with (refine wpList_store_mid rfl 34 (.tmp 2) (.tmp 22) rfl gr 0 #[.int .i64 0, .int .i64 0, .int .i64 0, .int .i64 0, .int .i64 0, .bool false, .slice none 0 0, .slice none 0 0, .slice none 0 0, .int .i64 0, .int .i64 0, .int .i64 0, .int .i64 0] rfl rfl hth infoFrR h1 ?_; clear hth h1; rw [show w2.setCells gr 0 (#[.int .i64 0, .int .i64 0, .int .i64 0, .int .i64 0, .int .i64 0, .bool false, .slice none 0 0, .slice none 0 0, .slice none 0 0, .int .i64 0, .int .i64 0, .int .i64 0, .int .i64 0] : Array Value).toList = w8 from HW8.out.symm])
    go_wp2
    have hX8 : Has w8 gr 34 (fcells fzero azero) := by rw [HW8.out]; exact HX2.out.store rfl
    refine bodyPost_ret (results_rone rfl _ rfl rfl hX8 rfl) rfl ?_
    exact rone_exit HB1.out HGr.out (HK2.out.more (fun _ _ h => .inl h)) HV2.out hgg ha HE.out (by decide) HW8.out
  have y0 : V2.fault = 0 := Decidable.not_not.1 h0
  have HR2 : Hid (R = if ¬ V2.at_ - V.at_ = szN k then ⟨53, fzero, V2⟩ else if (itm (kd k)).2 = false then ⟨50, fzero, V2⟩ else rTail k (rItems (itm (kd k)).1 k V2 { fzero with kind := kd k })) := Lib.hid (by rw [HR.out]; unfold rBody; rw [if_neg h0])
  have HY0 := Lib.hid y0
  rw [y0] at f2
  clear h0 y0
  obtain ⟨d, hd⟩ : ∃ d, V2.at_ - V.at_ = d := ⟨_, rfl⟩
  obtain ⟨y1, y2⟩ := onj1 HLe.out.1 HLe.out.2 hd
  have HD := Lib.hid hd
  clear hd
  have HSz := Lib.hid (fun w' => size_any w' k HKl.out)
  have HSat : Hid (Sat [(⟨g, 1, none⟩, .int .i64 (V2.at_ : Int))] w2.drew) := Lib.hid (Sat.cons (w := w2.drew) a2 (Sat.nil _))
  go_upto_region 5 with fail
  refine Mx.region [] (Sat [(⟨g, 1, none⟩, .int .i64 (V2.at_ : Int))]) (by kernel_rfl) (by kernel_rfl) HSat.out ?_
  repeat ((first | (refine Mx.skips (by kernel_rfl) ?_; go_big_quiet_skip) | (refine Mx.quietly rfl ?_; go_big_quiet_want; go_big_quiet_op; go_big_quiet_on)); refine Mx.done ?_)
  refine Mx.cell ⟨g, 1, none⟩ (.int .i64 (V2.at_ : Int)) (by kernel_rfl) (by kernel_rfl) (by kernel_rfl) Try.isAgg3 (fun w' h => h 0 _ _ rfl) ?_; go_big_quiet_want; go_big_quiet_op; go_big_quiet_on; refine Mx.done ?_
  repeat ((first | (refine Mx.skips (by kernel_rfl) ?_; go_big_quiet_skip) | (refine Mx.quietly rfl ?_; go_big_quiet_want; go_big_quiet_op; go_big_quiet_on)); refine Mx.done ?_)
  refine Mx.loudly (by kernel_rfl) (by kernel_rfl) ?_
  go_wp2_with fail
  refine (HSz.out _).mono ?_
  rintro e w3 ⟨rfl, hb3⟩
  have hbd : Below w2.heap.size w2 w3 := (below_drewN (Below.refl _ _) 1).trans (hb3.mono (by exact Nat.le_refl _))
  have hV3 := HV2.out.below hbd
  have HV3 := Lib.hid hV3
  have HX3 := Lib.hid (HX2.out.kept (X := none') (Kept.of_below hbd) (fun h => h))
  have HK3 : Hid (Kept (fun k => k = g ∨ w.heap.size ≤ k) w1 w3) := Lib.hid ((HK2.out.more (fun _ _ h => .inl h)).trans (Kept.of_below (X := fun k => k = g ∨ w.heap.size ≤ k) hbd) (fun _ _ h => h))
  have a3 := hV3.has.cell 1 rfl
  have HSat3 : Sat [(⟨g, 1, none⟩, .int .i64 (V2.at_ : Int))] w3 := Sat.cons a3 (Sat.nil _)
  clear hbd hV3 hb3
  obtain ⟨z, hz⟩ : ∃ z, z = szN k := ⟨_, rfl⟩
  rw [← hz]
  have HZ := Lib.hid hz
  clear hz
  by_cases hdz : ¬ d = z
  · have y3 := onj2 hdz
    have HE : Hid (R = ⟨53, fzero, V2⟩) := Lib.hid (by rw [HR2.out, if_pos (by rw [HD.out, ← HZ.out]; exact hdz)])
    clear hdz
    go_wp2_with fail
    repeat ((first | (refine Mx.skips (by kernel_rfl) ?_; go_big_quiet_skip) | (refine Mx.quietly rfl ?_; go_big_quiet_want; go_big_quiet_op; go_big_quiet_on)); refine Mx.done ?_)
    refine Mx.nil ?_
    have h1 := zall
    have hth := HX3.out.there rfl
    obtain ⟨w8, hw8⟩ : ∃ w8, w8 = w3.setCells gr 0 (fcells fzero azero) := ⟨_, rfl⟩
    have HW8 := Lib.hid hw8
    clear hw8
    go_wp2_with (refine wpList_store_mid rfl 34 (.tmp 2) (.tmp 32) rfl gr 0 #[.int .i64 0, .int .i64 0, .int .i64 0, .int .i64 0, .int .i64 0, .bool false, .slice none 0 0, .slice none 0 0, .slice none 0 0, .int .i64 0, .int .i64 0, .int .i64 0, .int .i64 0] rfl rfl hth infoFrR h1 ?_; clear hth h1; rw [show w3.setCells gr 0 (#[.int .i64 0, .int .i64 0, .int .i64 0, .int .i64 0, .int .i64 0, .bool false, .slice none 0 0, .slice none 0 0, .slice none 0 0, .int .i64 0, .int .i64 0, .int .i64 0, .int .i64 0] : Array Value).toList = w8 from HW8.out.symm])
    go_wp2
    have hX8 : Has w8 gr 34 (fcells fzero azero) := by rw [HW8.out]; exact HX3.out.store rfl
    refine bodyPost_ret (results_rone rfl _ rfl rfl hX8 rfl) rfl ?_
    exact rone_exit HB1.out HGr.out HK3.out HV3.out hgg ha HE.out (by decide) HW8.out
  have y3 := onj3 (Decidable.not_not.1 hdz)
  have HR3 : Hid (R = if (itm (kd k)).2 = false then ⟨50, fzero, V2⟩ else rTail k (rItems (itm (kd k)).1 k V2 { fzero with kind := kd k })) := Lib.hid (by rw [HR2.out, if_neg (by rw [HD.out, ← HZ.out]; exact hdz)])
  clear hdz
  obtain ⟨kk, hkk⟩ : ∃ kk, kk = kd k := ⟨_, rfl⟩
  rw [← hkk] at HR3
  have HKk := Lib.hid hkk
  clear hkk
  obtain ⟨w4, hw4⟩ : ∃ w4, w4 = w3.alloc (.cells #[.int .i64 kk, .int .i64 0, .int .i64 0, .int .i64 0, .int .i64 0, .bool false, .slice none 0 0, .slice none 0 0, .slice none 0 0, .int .i64 0, .int .i64 0, .int .i64 0, .int .i64 0] 34) := ⟨_, rfl⟩
  have HW4 := Lib.hid hw4
  clear hw4
  have HIt := Lib.hid (items_any w4 kk)
  have hb4 : Below w3.heap.size w3 w4 := by rw [HW4.out]; exact alB w3 _
  have HV4 := Lib.hid (HV3.out.below hb4)
  have HX4 := Lib.hid (HX3.out.kept (X := none') (Kept.of_below hb4) (fun h => h))
  have HK4 : Hid (Kept (fun k => k = g ∨ w.heap.size ≤ k) w1 w4) := Lib.hid (HK3.out.trans (Kept.of_below (X := fun k => k = g ∨ w.heap.size ≤ k) hb4) (fun _ _ h => h))
  clear hb4
  obtain ⟨its, hits⟩ : ∃ its, its = itm kk := ⟨_, rfl⟩
  rw [← hits] at HIt
  have HR4 : Hid (R = if its.2 = false then ⟨50, fzero, V2⟩ else rTail k (rItems its.1 k V2 { fzero with kind := kk })) := Lib.hid (by rw [HR3.out, hits])
  have HIts := Lib.hid hits
  clear hits
  obtain ⟨cs, ok⟩ := its
  have hc3 := rok1 k
  rcases hc3 with ⟨q1, q2⟩ | ⟨q1, q2, q3⟩ | ⟨q1, q2, q3⟩
  · have e1 : kk = (k : Int) := HKk.out.trans q2
    have HEk := Lib.hid e1
    have hw4 := HW4.out
    rw [e1] at hw4 HIt
    clear e1 q2
    go_wp2_with fail
    repeat ((first | (refine Mx.skips (by kernel_rfl) ?_; go_big_quiet_skip) | (refine Mx.quietly rfl ?_; go_big_quiet_want; go_big_quiet_op; go_big_quiet_on)); refine Mx.done ?_)
    refine Mx.nil ?_
    go_wp2_with fail
    rw [← hw4]
    clear hw4
    refine HIt.out.mono ?_
    rintro e w5 ⟨he, rfl⟩
    obtain ⟨sl, hsl⟩ : ∃ sl, sl = str cs := ⟨_, rfl⟩
    have HSl := Lib.hid hsl
    obtain rfl : e = .returned (.tuple #[.string sl, .bool ok]) := by rw [hsl]; exact he
    clear hsl he
    cases ok with
    | false =>
      have HE : Hid (R = ⟨50, fzero, V2⟩) := Lib.hid HR4.out
      have h1 := zall
      have hth := HX4.out.there rfl
      obtain ⟨w8, hw8⟩ : ∃ w8, w8 = w5.setCells gr 0 (fcells fzero azero) := ⟨_, rfl⟩
      have HW8 := Lib.hid hw8
      clear hw8
      go_wp2_with (refine wpList_store_mid rfl 34 (.tmp 2) (.tmp 50) rfl gr 0 #[.int .i64 0, .int .i64 0, .int .i64 0, .int .i64 0, .int .i64 0, .bool false, .slice none 0 0, .slice none 0 0, .slice none 0 0, .int .i64 0, .int .i64 0, .int .i64 0, .int .i64 0] rfl rfl hth infoFrR h1 ?_; clear hth h1; rw [show w5.setCells gr 0 (#[.int .i64 0, .int .i64 0, .int .i64 0, .int .i64 0, .int .i64 0, .bool false, .slice none 0 0, .slice none 0 0, .slice none 0 0, .int .i64 0, .int .i64 0, .int .i64 0, .int .i64 0] : Array Value).toList = w8 from HW8.out.symm])
      go_wp2
      have hX8 : Has w8 gr 34 (fcells fzero azero) := by rw [HW8.out]; exact HX4.out.store rfl
      refine bodyPost_ret (results_rone rfl _ rfl rfl hX8 rfl) rfl ?_
      exact rone_exit HB1.out HGr.out HK4.out HV4.out hgg ha HE.out (by decide) HW8.out
    | true =>
      obtain ⟨gf, hgf⟩ : ∃ gf, gf = w3.heap.size := ⟨_, rfl⟩
      rw [← hgf]
      have hwk : w.heap.size ≤ gf ∧ gr ≠ gf := by
        have h1 := HB1.out.size
        have h2 := HK3.out.size
        have h3 := HX3.out.lt
        rw [hgf]; exact ⟨by omega, by omega⟩
      have HWk := Lib.hid hwk
      have HG5 := Lib.hid (rone_start hgf HW4.out HV3.out (B := w.heap.size) (by rw [← hgf]; exact hwk.1) (kk := kk) ha)
      have hin := @itm_kd k
      rw [← HKk.out, ← HIts.out] at hin
      have hin2 : k < 31 ∧ ∀ ch ∈ cs, ch ∈ ltrs := by
        rcases hin with ⟨h, _⟩ | ⟨_, h⟩
        · cases h
        · exact h
      have HIn := Lib.hid hin2
      have hfi := itm_first hin2.1
      rw [← HKk.out, ← HIts.out] at hfi
      have HFi := Lib.hid hfi
      have HR5 : Hid (R = rTail k (rItems cs k V2 { fzero with kind := kk })) := Lib.hid HR4.out
      have HB5 : Hid (w.heap.size ≤ w5.heap.size) := Lib.hid (Nat.le_trans HB1.out.size HK4.out.size)
      have HCl : Hid (cs.length ≤ 8) := Lib.hid (by
        have h1 : ∀ k : Nat, k < 31 → (itm (kd k)).1.length ≤ 8 := by decide +kernel
        have h2 := h1 k hin2.1
        rw [← HKk.out, ← HIts.out] at h2
        exact h2)
      have hsz : sl.size = cs.length := by rw [HSl.out]; simp [str, ByteArray.size]
      obtain ⟨n, hn⟩ : ∃ n, n = cs.length := ⟨_, rfl⟩
      rw [← hn] at hsz
      have HN := Lib.hid hn
      have HL2 : Hid (V2.l.length ≤ 140737488351232) := Lib.hid (by rw [HLl.out]; exact hl)
      clear hn hgf hwk hin hin2 hfi
      go_wp2_with fail
      go_loopw [9] (fun v wr => OLRel w w1 g gr gf a c k kk cs R v wr) (fun v _ => n - (intOf v).toNat)
      case atStart => exact ⟨0, V2, _, azero, rfl, Nat.zero_le _, HG5.out, HX4.out, HK4.out, HL2.out, rfl, fun _ => ⟨rfl, rfl⟩, HR5.out⟩
      case round =>
        obtain ⟨i, V1, f1, fa1, rfl, hi, hG, hX, hK, hVl, hfk, hsp, hRr⟩ := hrel
        have HG := Lib.hid hG
        have HX := Lib.hid hX
        have HK := Lib.hid hK
        have HVl := Lib.hid hVl
        have HFk := Lib.hid hfk
        have HSp := Lib.hid hsp
        have HRr := Lib.hid hRr
        have HI := Lib.hid hi
        clear hG hX hK hVl hfk hsp hRr hi
        by_cases hin : i < n
        · have z1 := hsj1 hin
          obtain ⟨z2, z3⟩ := hsj3 hin (by rw [HN.out]; exact HCl.out)
          have HIn2 := Lib.hid hin
          have hil : i < cs.length := by rw [← HN.out]; exact hin
          have hg : sl[i]'(by rw [hsz]; exact hin) = cs[i] := by
            have h1 := HSl.out
            subst h1
            exact str_get cs i hil
          have hBw : w.heap.size ≤ wr.heap.size := Nat.le_trans HB1.out.size HK.out.size
          have hit := ritem_any wr HG.out hBw HVl.out k HIn.out.1 cs[i] (HIn.out.2 _ (List.getElem_mem hil)) (fun e => by
            by_cases h0 : i = 0
            · exact HSp.out h0
            · exact absurd (by rw [List.getElem?_eq_getElem hil]; exact e) (HFi.out i hil (by omega)))
          obtain ⟨r, hr⟩ : ∃ r, r = rItemA cs[i].toNat k V1 f1 := ⟨_, rfl⟩
          rw [← hr, ← hg] at hit
          have HIt2 := Lib.hid hit
          have HNx := Lib.hid (fun w2 fa2 => ol_next (a := a) (c := c) (w2 := w2) (fa2 := fa2) hil HX.out HK.out HVl.out HFk.out HRr.out hgg HWk.out.1 HWk.out.2 hr)
          clear hg hit hr hil hBw
          go_wp2_with fail
          refine HIt2.out.mono ?_
          rintro e w6 ⟨rfl, hk6, fa6, h6⟩
          obtain ⟨hX6, hK6, hl6, hf6, hok6, hbad6⟩ := HNx.out w6 fa6 hk6 h6
          have HX6 := Lib.hid hX6
          have HK6 := Lib.hid hK6
          have HG6 := Lib.hid h6
          have HL6 := Lib.hid hl6
          have HF6 := Lib.hid hf6
          have HOk := Lib.hid hok6
          have HBad := Lib.hid hbad6
          clear hX6 hK6 h6 hl6 hf6 hok6 hbad6 hk6
          obtain ⟨x, hx⟩ : ∃ x, x = r.err := ⟨_, rfl⟩
          rw [← hx] at HOk HBad ⊢
          clear hx
          by_cases h0 : x = 0
          · have HOk2 := Lib.hid (HOk.out h0)
            subst h0
            clear HIt2 hin
            go_wp2_with fail
            go_roundw
            case rel => exact ⟨i + 1, r.V, r.f, fa6, by push_cast; rfl, by rw [← HN.out]; exact HIn2.out, HG6.out, HX6.out, HK6.out, HL6.out, HF6.out, fun h => absurd h (Nat.succ_ne_zero i), HOk2.out⟩
            case measure => exact hsj4 HIn2.out
          · have y6 := onj11 h0
            have HE := Lib.hid (HBad.out h0)
            have HH0 := Lib.hid h0
            clear h0 HIt2 hin
            have h1 := zall
            have hth := HX6.out.there rfl
            obtain ⟨w8, hw8⟩ : ∃ w8, w8 = w6.setCells gr 0 (fcells fzero azero) := ⟨_, rfl⟩
            have HW8 := Lib.hid hw8
            clear hw8
            go_wp2_with (refine wpList_store_mid rfl 34 (.tmp 2) (.tmp 65) rfl gr 0 #[.int .i64 0, .int .i64 0, .int .i64 0, .int .i64 0, .int .i64 0, .bool false, .slice none 0 0, .slice none 0 0, .slice none 0 0, .int .i64 0, .int .i64 0, .int .i64 0, .int .i64 0] rfl rfl hth infoFrR h1 ?_; clear hth h1; rw [show w6.setCells gr 0 (#[.int .i64 0, .int .i64 0, .int .i64 0, .int .i64 0, .int .i64 0, .bool false, .slice none 0 0, .slice none 0 0, .slice none 0 0, .int .i64 0, .int .i64 0, .int .i64 0, .int .i64 0] : Array Value).toList = w8 from HW8.out.symm])
            go_wp2
            have hX8 : Has w8 gr 34 (fcells fzero azero) := by rw [HW8.out]; exact HX6.out.store rfl
            refine bodyPost_ret (results_rone rfl _ rfl rfl hX8 rfl) rfl ?_
            exact rone_exit HB1.out HGr.out HK6.out HG6.out.rv hgg ha HE.out HH0.out HW8.out
        · have z1 := hsj2 hin
          have HRt : Hid (R = rEnd V1 (rOneN (rFin k f1))) := Lib.hid (by
            have h1 := HRr.out
            rw [List.drop_eq_nil_of_le (by rw [← HN.out]; omega)] at h1
            rw [h1]
            unfold rTail rItems
            rw [if_neg (not_not_intro rfl)])
          clear hin
          have g0 := HG.out.box.cell 0 rfl
          have y1 : (k : Int) ≠ 8 := by
            intro h
            have h2 : k = 8 := by omega
            have h3 := q1
            rw [h2] at h3
            simp at h3
          have HFk2 : Hid (f1.kind = (k : Int)) := Lib.hid (by rw [HFk.out]; exact HEk.out)
          rw [HFk2.out] at g0
          have e8 : rFin k f1 = f1 := rfinN (by rw [HFk2.out]; exact y1)
          have y8 : ((k : Int) == 8) = false := by simpa using y1
          clear y1
          by_cases hk0 : k = 0
          · have y0 : ((k : Int) == 0) = true := by rw [hk0]; rfl
            have b3 := HG.out.box.free 3
            have c3 := HG.out.box.cell 3 rfl
            obtain ⟨f2, hf2⟩ : ∃ f2, f2 = ({ f1 with n := 1 } : Fm) := ⟨_, rfl⟩
            have HRe : Hid (R = rEnd V1 f2) := Lib.hid (by rw [HRt.out, e8, ronen0 (by rw [HFk2.out, hk0]; rfl), hf2])
            obtain ⟨wb, hwb⟩ : ∃ wb, wb = wr.setCell ⟨gf, 3, none⟩ (.int .i64 1) := ⟨_, rfl⟩
            have HG2 : Hid (SR wb w.heap.size g gf a c V1 f2 fa1) := Lib.hid (by rw [hwb, hf2]; exact HG.out.int (f' := { f1 with n := 1 }) 3 (.int .i64 1) rfl rfl rfl rfl)
            have HX2 := Lib.hid (show Has wb gr 34 (fcells fzero azero) by rw [hwb]; exact HX.out.kept (Kept.set wr gf 3 _) HWk.out.2)
            have HK2 : Hid (Kept (fun k => k = g ∨ w.heap.size ≤ k) w1 wb) := Lib.hid (by rw [hwb]; exact HK.out.trans (Kept.set wr gf 3 _) (fun k _ e => .inr (by rw [e]; exact HWk.out.1)))
            have HWb := Lib.hid hwb
            clear hf2 hwb e8 hk0
            go_upto_region 23 with fail
            rw [show wr.setCell ⟨gf, 3, none⟩ (.int .i64 1) = wb from HWb.out.symm]
            clear b3 c3 g0
            have f23 := HG2.out.rv.has.cell 2 rfl
            by_cases hf0 : ¬ V1.fault = 0
            · have y0 : ¬ (V1.fault = 0) := hf0
              have HE : Hid (R = ⟨12, fzero, V1⟩) := Lib.hid (by rw [HRe.out]; unfold rEnd; rw [if_pos hf0])
              clear hf0
              have h1 := zall
              have hth := HX2.out.there rfl
              obtain ⟨w8, hw8⟩ : ∃ w8, w8 = wb.setCells gr 0 (fcells fzero azero) := ⟨_, rfl⟩
              have HW8 := Lib.hid hw8
              clear hw8
              go_wp2_with (refine wpList_store_mid rfl 34 (.tmp 2) (.tmp 83) rfl gr 0 #[.int .i64 0, .int .i64 0, .int .i64 0, .int .i64 0, .int .i64 0, .bool false, .slice none 0 0, .slice none 0 0, .slice none 0 0, .int .i64 0, .int .i64 0, .int .i64 0, .int .i64 0] rfl rfl hth infoFrR h1 ?_; clear hth h1; rw [show wb.setCells gr 0 (#[.int .i64 0, .int .i64 0, .int .i64 0, .int .i64 0, .int .i64 0, .bool false, .slice none 0 0, .slice none 0 0, .slice none 0 0, .int .i64 0, .int .i64 0, .int .i64 0, .int .i64 0] : Array Value).toList = w8 from HW8.out.symm])
              go_wp2
              have hX8 : Has w8 gr 34 (fcells fzero azero) := by rw [HW8.out]; exact HX2.out.store rfl
              refine bodyPost_ret (results_rone rfl _ rfl rfl hX8 rfl) rfl ?_
              exact rone_exit HB1.out HGr.out HK2.out HG2.out.rv hgg ha HE.out (by decide) HW8.out
            have y0 : V1.fault = 0 := Decidable.not_not.1 hf0
            rw [y0] at f23
            have HRf : Hid (R = if ¬ chkF f2 = 0 then ⟨51, fzero, V1⟩ else ⟨0, f2, V1⟩) := Lib.hid (by rw [HRe.out]; unfold rEnd; rw [if_neg hf0])
            clear hf0 y0
            have HC := Lib.hid (rchk_any wb HG2.out.own.fin)
            have g0 := HG2.out.box.cell 0 rfl
            have g1 := HG2.out.box.cell 1 rfl
            have g2 := HG2.out.box.cell 2 rfl
            have g3 := HG2.out.box.cell 3 rfl
            have g4 := HG2.out.box.cell 4 rfl
            have g5 := HG2.out.box.cell 5 rfl
            have g6 := HG2.out.box.cell 6 rfl
            have g7 := HG2.out.box.cell 7 rfl
            have g8 := HG2.out.box.cell 8 rfl
            have g9 := HG2.out.box.cell 9 rfl
            have g10 := HG2.out.box.cell 10 rfl
            have g11 := HG2.out.box.cell 11 rfl
            have g12 := HG2.out.box.cell 12 rfl
            obtain ⟨ck, hck⟩ : ∃ ck, ck = chkF f2 := ⟨_, rfl⟩
            rw [← hck] at HC
            have HCk := Lib.hid hck
            clear hck
            go_wp2_with fail
            refine HC.out.mono ?_
            rintro e w9 ⟨rfl, hb9⟩
            have HG9 := Lib.hid (HG2.out.below hb9)
            have HK9 : Hid (Kept (fun k => k = g ∨ w.heap.size ≤ k) w1 w9) := Lib.hid (HK2.out.trans (Kept.of_below (X := fun k => k = g ∨ w.heap.size ≤ k) hb9) (fun _ _ h => h))
            have HX9 := Lib.hid (HX2.out.kept (X := none') (Kept.of_below hb9) (fun h => h))
            clear hb9 g0 g1 g2 g3 g4 g5 g6 g7 g8 g9 g10 g11 g12 f23
            by_cases hc0 : ck = 0
            · subst hc0
              have g0 := HG9.out.box.cell 0 rfl
              have g1 := HG9.out.box.cell 1 rfl
              have g2 := HG9.out.box.cell 2 rfl
              have g3 := HG9.out.box.cell 3 rfl
              have g4 := HG9.out.box.cell 4 rfl
              have g5 := HG9.out.box.cell 5 rfl
              have g6 := HG9.out.box.cell 6 rfl
              have g7 := HG9.out.box.cell 7 rfl
              have g8 := HG9.out.box.cell 8 rfl
              have g9 := HG9.out.box.cell 9 rfl
              have g10 := HG9.out.box.cell 10 rfl
              have g11 := HG9.out.box.cell 11 rfl
              have g12 := HG9.out.box.cell 12 rfl
              have HE : Hid (R = ⟨0, f2, V1⟩) := Lib.hid (by rw [HRf.out, if_neg (not_not_intro HCk.out.symm)])
              have h1 := vall f2 fa1
              have hth := HX9.out.there rfl
              obtain ⟨w8, hw8⟩ : ∃ w8, w8 = w9.setCells gr 0 (fcells f2 fa1) := ⟨_, rfl⟩
              have HW8 := Lib.hid hw8
              clear hw8
              go_wp2_with (refine wpList_store_mid rfl 34 (.tmp 2) (.tmp 88) rfl gr 0 #[.int .i64 f2.kind, .int .i64 f2.id, .int .i64 f2.at_, .int .i64 f2.n, .int .i64 f2.code, .bool f2.fin, .slice fa1.da f2.data.length fa1.dc, .slice fa1.ca f2.cid.length fa1.cc, .slice fa1.sa f2.spans.length fa1.sc, .int .i64 f2.delay, .int .i64 f2.e0, .int .i64 f2.e1, .int .i64 f2.e2] rfl rfl hth infoFrR h1 ?_; clear hth h1; rw [show w9.setCells gr 0 (#[.int .i64 f2.kind, .int .i64 f2.id, .int .i64 f2.at_, .int .i64 f2.n, .int .i64 f2.code, .bool f2.fin, .slice fa1.da f2.data.length fa1.dc, .slice fa1.ca f2.cid.length fa1.cc, .slice fa1.sa f2.spans.length fa1.sc, .int .i64 f2.delay, .int .i64 f2.e0, .int .i64 f2.e1, .int .i64 f2.e2] : Array Value).toList = w8 from HW8.out.symm])
              go_wp2
              have hX8 : Has w8 gr 34 (fcells f2 fa1) := by rw [HW8.out]; exact HX9.out.store rfl
              refine bodyPost_ret (results_rone rfl _ rfl rfl hX8 rfl) rfl ?_
              exact rone_good HB1.out HGr.out HK9.out HG9.out HX9.out hgg ha HE.out HW8.out
            · have y9 := onj11 hc0
              have HE : Hid (R = ⟨51, fzero, V1⟩) := Lib.hid (by rw [HRf.out, if_pos (fun h => hc0 (HCk.out.trans h))])
              clear hc0
              have h1 := zall
              have hth := HX9.out.there rfl
              obtain ⟨w8, hw8⟩ : ∃ w8, w8 = w9.setCells gr 0 (fcells fzero azero) := ⟨_, rfl⟩
              have HW8 := Lib.hid hw8
              clear hw8
              go_wp2_with (refine wpList_store_mid rfl 34 (.tmp 2) (.tmp 87) rfl gr 0 #[.int .i64 0, .int .i64 0, .int .i64 0, .int .i64 0, .int .i64 0, .bool false, .slice none 0 0, .slice none 0 0, .slice none 0 0, .int .i64 0, .int .i64 0, .int .i64 0, .int .i64 0] rfl rfl hth infoFrR h1 ?_; clear hth h1; rw [show w9.setCells gr 0 (#[.int .i64 0, .int .i64 0, .int .i64 0, .int .i64 0, .int .i64 0, .bool false, .slice none 0 0, .slice none 0 0, .slice none 0 0, .int .i64 0, .int .i64 0, .int .i64 0, .int .i64 0] : Array Value).toList = w8 from HW8.out.symm])
              go_wp2
              have hX8 : Has w8 gr 34 (fcells fzero azero) := by rw [HW8.out]; exact HX9.out.store rfl
              refine bodyPost_ret (results_rone rfl _ rfl rfl hX8 rfl) rfl ?_
              exact rone_exit HB1.out HGr.out HK9.out HG9.out.rv hgg ha HE.out (by decide) HW8.out
          · have y0 : ((k : Int) == 0) = false := by simp; omega
            obtain ⟨f2, hf2⟩ : ∃ f2, f2 = f1 := ⟨_, rfl⟩
            have HRe : Hid (R = rEnd V1 f2) := Lib.hid (by rw [HRt.out, e8, ronenN (by rw [HFk2.out]; simpa using y0), hf2])
            have HG2 : Hid (SR wr w.heap.size g gf a c V1 f2 fa1) := Lib.hid (by rw [hf2]; exact HG.out)
            have HX2 := HX
            have HK2 := HK
            clear hf2 e8 hk0
            go_upto_region 23 with fail
            clear g0
            have f23 := HG2.out.rv.has.cell 2 rfl
            by_cases hf0 : ¬ V1.fault = 0
            · have y0 : ¬ (V1.fault = 0) := hf0
              have HE : Hid (R = ⟨12, fzero, V1⟩) := Lib.hid (by rw [HRe.out]; unfold rEnd; rw [if_pos hf0])
              clear hf0
              have h1 := zall
              have hth := HX2.out.there rfl
              obtain ⟨w8, hw8⟩ : ∃ w8, w8 = wr.setCells gr 0 (fcells fzero azero) := ⟨_, rfl⟩
              have HW8 := Lib.hid hw8
              clear hw8
              go_wp2_with (refine wpList_store_mid rfl 34 (.tmp 2) (.tmp 83) rfl gr 0 #[.int .i64 0, .int .i64 0, .int .i64 0, .int .i64 0, .int .i64 0, .bool false, .slice none 0 0, .slice none 0 0, .slice none 0 0, .int .i64 0, .int .i64 0, .int .i64 0, .int .i64 0] rfl rfl hth infoFrR h1 ?_; clear hth h1; rw [show wr.setCells gr 0 (#[.int .i64 0, .int .i64 0, .int .i64 0, .int .i64 0, .int .i64 0, .bool false, .slice none 0 0, .slice none 0 0, .slice none 0 0, .int .i64 0, .int .i64 0, .int .i64 0, .int .i64 0] : Array Value).toList = w8 from HW8.out.symm])
              go_wp2
              have hX8 : Has w8 gr 34 (fcells fzero azero) := by rw [HW8.out]; exact HX2.out.store rfl
              refine bodyPost_ret (results_rone rfl _ rfl rfl hX8 rfl) rfl ?_
              exact rone_exit HB1.out HGr.out HK2.out HG2.out.rv hgg ha HE.out (by decide) HW8.out
            have y0 : V1.fault = 0 := Decidable.not_not.1 hf0
            rw [y0] at f23
            have HRf : Hid (R = if ¬ chkF f2 = 0 then ⟨51, fzero, V1⟩ else ⟨0, f2, V1⟩) := Lib.hid (by rw [HRe.out]; unfold rEnd; rw [if_neg hf0])
            clear hf0 y0
            have HC := Lib.hid (rchk_any wr HG2.out.own.fin)
            have g0 := HG2.out.box.cell 0 rfl
            have g1 := HG2.out.box.cell 1 rfl
            have g2 := HG2.out.box.cell 2 rfl
            have g3 := HG2.out.box.cell 3 rfl
            have g4 := HG2.out.box.cell 4 rfl
            have g5 := HG2.out.box.cell 5 rfl
            have g6 := HG2.out.box.cell 6 rfl
            have g7 := HG2.out.box.cell 7 rfl
            have g8 := HG2.out.box.cell 8 rfl
            have g9 := HG2.out.box.cell 9 rfl
            have g10 := HG2.out.box.cell 10 rfl
            have g11 := HG2.out.box.cell 11 rfl
            have g12 := HG2.out.box.cell 12 rfl
            obtain ⟨ck, hck⟩ : ∃ ck, ck = chkF f2 := ⟨_, rfl⟩
            rw [← hck] at HC
            have HCk := Lib.hid hck
            clear hck
            go_wp2_with fail
            refine HC.out.mono ?_
            rintro e w9 ⟨rfl, hb9⟩
            have HG9 := Lib.hid (HG2.out.below hb9)
            have HK9 : Hid (Kept (fun k => k = g ∨ w.heap.size ≤ k) w1 w9) := Lib.hid (HK2.out.trans (Kept.of_below (X := fun k => k = g ∨ w.heap.size ≤ k) hb9) (fun _ _ h => h))
            have HX9 := Lib.hid (HX2.out.kept (X := none') (Kept.of_below hb9) (fun h => h))
            clear hb9 g0 g1 g2 g3 g4 g5 g6 g7 g8 g9 g10 g11 g12 f23
            by_cases hc0 : ck = 0
            · subst hc0
              have g0 := HG9.out.box.cell 0 rfl
              have g1 := HG9.out.box.cell 1 rfl
              have g2 := HG9.out.box.cell 2 rfl
              have g3 := HG9.out.box.cell 3 rfl
              have g4 := HG9.out.box.cell 4 rfl
              have g5 := HG9.out.box.cell 5 rfl
              have g6 := HG9.out.box.cell 6 rfl
              have g7 := HG9.out.box.cell 7 rfl
              have g8 := HG9.out.box.cell 8 rfl
              have g9 := HG9.out.box.cell 9 rfl
              have g10 := HG9.out.box.cell 10 rfl
              have g11 := HG9.out.box.cell 11 rfl
              have g12 := HG9.out.box.cell 12 rfl
              have HE : Hid (R = ⟨0, f2, V1⟩) := Lib.hid (by rw [HRf.out, if_neg (not_not_intro HCk.out.symm)])
              have h1 := vall f2 fa1
              have hth := HX9.out.there rfl
              obtain ⟨w8, hw8⟩ : ∃ w8, w8 = w9.setCells gr 0 (fcells f2 fa1) := ⟨_, rfl⟩
              have HW8 := Lib.hid hw8
              clear hw8
              go_wp2_with (refine wpList_store_mid rfl 34 (.tmp 2) (.tmp 88) rfl gr 0 #[.int .i64 f2.kind, .int .i64 f2.id, .int .i64 f2.at_, .int .i64 f2.n, .int .i64 f2.code, .bool f2.fin, .slice fa1.da f2.data.length fa1.dc, .slice fa1.ca f2.cid.length fa1.cc, .slice fa1.sa f2.spans.length fa1.sc, .int .i64 f2.delay, .int .i64 f2.e0, .int .i64 f2.e1, .int .i64 f2.e2] rfl rfl hth infoFrR h1 ?_; clear hth h1; rw [show w9.setCells gr 0 (#[.int .i64 f2.kind, .int .i64 f2.id, .int .i64 f2.at_, .int .i64 f2.n, .int .i64 f2.code, .bool f2.fin, .slice fa1.da f2.data.length fa1.dc, .slice fa1.ca f2.cid.length fa1.cc, .slice fa1.sa f2.spans.length fa1.sc, .int .i64 f2.delay, .int .i64 f2.e0, .int .i64 f2.e1, .int .i64 f2.e2] : Array Value).toList = w8 from HW8.out.symm])
              go_wp2
              have hX8 : Has w8 gr 34 (fcells f2 fa1) := by rw [HW8.out]; exact HX9.out.store rfl
              refine bodyPost_ret (results_rone rfl _ rfl rfl hX8 rfl) rfl ?_
              exact rone_good HB1.out HGr.out HK9.out HG9.out HX9.out hgg ha HE.out HW8.out
            · have y9 := onj11 hc0
              have HE : Hid (R = ⟨51, fzero, V1⟩) := Lib.hid (by rw [HRf.out, if_pos (fun h => hc0 (HCk.out.trans h))])
              clear hc0
              have h1 := zall
              have hth := HX9.out.there rfl
              obtain ⟨w8, hw8⟩ : ∃ w8, w8 = w9.setCells gr 0 (fcells fzero azero) := ⟨_, rfl⟩
              have HW8 := Lib.hid hw8
              clear hw8
              go_wp2_with (refine wpList_store_mid rfl 34 (.tmp 2) (.tmp 87) rfl gr 0 #[.int .i64 0, .int .i64 0, .int .i64 0, .int .i64 0, .int .i64 0, .bool false, .slice none 0 0, .slice none 0 0, .slice none 0 0, .int .i64 0, .int .i64 0, .int .i64 0, .int .i64 0] rfl rfl hth infoFrR h1 ?_; clear hth h1; rw [show w9.setCells gr 0 (#[.int .i64 0, .int .i64 0, .int .i64 0, .int .i64 0, .int .i64 0, .bool false, .slice none 0 0, .slice none 0 0, .slice none 0 0, .int .i64 0, .int .i64 0, .int .i64 0, .int .i64 0] : Array Value).toList = w8 from HW8.out.symm])
              go_wp2
              have hX8 : Has w8 gr 34 (fcells fzero azero) := by rw [HW8.out]; exact HX9.out.store rfl
              refine bodyPost_ret (results_rone rfl _ rfl rfl hX8 rfl) rfl ?_
              exact rone_exit HB1.out HGr.out HK9.out HG9.out.rv hgg ha HE.out (by decide) HW8.out
  · have e1 : kk = 8 := HKk.out.trans q2
    have hw4 := HW4.out
    rw [e1] at hw4 HIt
    have HE8 := Lib.hid e1
    clear e1 q2
    go_wp2_with fail
    repeat ((first | (refine Mx.skips (by kernel_rfl) ?_; go_big_quiet_skip) | (refine Mx.quietly rfl ?_; go_big_quiet_want; go_big_quiet_op; go_big_quiet_on)); refine Mx.done ?_)
    refine Mx.nil ?_
    go_wp2_with fail
    rw [← hw4]
    clear hw4
    refine HIt.out.mono ?_
    rintro e w5 ⟨he, rfl⟩
    obtain ⟨sl, hsl⟩ : ∃ sl, sl = str cs := ⟨_, rfl⟩
    have HSl := Lib.hid hsl
    obtain rfl : e = .returned (.tuple #[.string sl, .bool ok]) := by rw [hsl]; exact he
    clear hsl he
    cases ok with
    | false =>
      have HE : Hid (R = ⟨50, fzero, V2⟩) := Lib.hid HR4.out
      have h1 := zall
      have hth := HX4.out.there rfl
      obtain ⟨w8, hw8⟩ : ∃ w8, w8 = w5.setCells gr 0 (fcells fzero azero) := ⟨_, rfl⟩
      have HW8 := Lib.hid hw8
      clear hw8
      go_wp2_with (refine wpList_store_mid rfl 34 (.tmp 2) (.tmp 50) rfl gr 0 #[.int .i64 0, .int .i64 0, .int .i64 0, .int .i64 0, .int .i64 0, .bool false, .slice none 0 0, .slice none 0 0, .slice none 0 0, .int .i64 0, .int .i64 0, .int .i64 0, .int .i64 0] rfl rfl hth infoFrR h1 ?_; clear hth h1; rw [show w5.setCells gr 0 (#[.int .i64 0, .int .i64 0, .int .i64 0, .int .i64 0, .int .i64 0, .bool false, .slice none 0 0, .slice none 0 0, .slice none 0 0, .int .i64 0, .int .i64 0, .int .i64 0, .int .i64 0] : Array Value).toList = w8 from HW8.out.symm])
      go_wp2
      have hX8 : Has w8 gr 34 (fcells fzero azero) := by rw [HW8.out]; exact HX4.out.store rfl
      refine bodyPost_ret (results_rone rfl _ rfl rfl hX8 rfl) rfl ?_
      exact rone_exit HB1.out HGr.out HK4.out HV4.out hgg ha HE.out (by decide) HW8.out
    | true =>
      obtain ⟨gf, hgf⟩ : ∃ gf, gf = w3.heap.size := ⟨_, rfl⟩
      rw [← hgf]
      have hwk : w.heap.size ≤ gf ∧ gr ≠ gf := by
        have h1 := HB1.out.size
        have h2 := HK3.out.size
        have h3 := HX3.out.lt
        rw [hgf]; exact ⟨by omega, by omega⟩
      have HWk := Lib.hid hwk
      have HG5 := Lib.hid (rone_start hgf HW4.out HV3.out (B := w.heap.size) (by rw [← hgf]; exact hwk.1) (kk := kk) ha)
      have hin := @itm_kd k
      rw [← HKk.out, ← HIts.out] at hin
      have hin2 : k < 31 ∧ ∀ ch ∈ cs, ch ∈ ltrs := by
        rcases hin with ⟨h, _⟩ | ⟨_, h⟩
        · cases h
        · exact h
      have HIn := Lib.hid hin2
      have hfi := itm_first hin2.1
      rw [← HKk.out, ← HIts.out] at hfi
      have HFi := Lib.hid hfi
      have HR5 : Hid (R = rTail k (rItems cs k V2 { fzero with kind := kk })) := Lib.hid HR4.out
      have HB5 : Hid (w.heap.size ≤ w5.heap.size) := Lib.hid (Nat.le_trans HB1.out.size HK4.out.size)
      have HCl : Hid (cs.length ≤ 8) := Lib.hid (by
        have h1 : ∀ k : Nat, k < 31 → (itm (kd k)).1.length ≤ 8 := by decide +kernel
        have h2 := h1 k hin2.1
        rw [← HKk.out, ← HIts.out] at h2
        exact h2)
      have hsz : sl.size = cs.length := by rw [HSl.out]; simp [str, ByteArray.size]
      obtain ⟨n, hn⟩ : ∃ n, n = cs.length := ⟨_, rfl⟩
      rw [← hn] at hsz
      have HN := Lib.hid hn
      have HL2 : Hid (V2.l.length ≤ 140737488351232) := Lib.hid (by rw [HLl.out]; exact hl)
      clear hn hgf hwk hin hin2 hfi
      go_wp2_with fail
      go_loopw [9] (fun v wr => OLRel w w1 g gr gf a c k kk cs R v wr) (fun v _ => n - (intOf v).toNat)
      case atStart => exact ⟨0, V2, _, azero, rfl, Nat.zero_le _, HG5.out, HX4.out, HK4.out, HL2.out, rfl, fun _ => ⟨rfl, rfl⟩, HR5.out⟩
      case round =>
        obtain ⟨i, V1, f1, fa1, rfl, hi, hG, hX, hK, hVl, hfk, hsp, hRr⟩ := hrel
        have HG := Lib.hid hG
        have HX := Lib.hid hX
        have HK := Lib.hid hK
        have HVl := Lib.hid hVl
        have HFk := Lib.hid hfk
        have HSp := Lib.hid hsp
        have HRr := Lib.hid hRr
        have HI := Lib.hid hi
        clear hG hX hK hVl hfk hsp hRr hi
        by_cases hin : i < n
        · have z1 := hsj1 hin
          obtain ⟨z2, z3⟩ := hsj3 hin (by rw [HN.out]; exact HCl.out)
          have HIn2 := Lib.hid hin
          have hil : i < cs.length := by rw [← HN.out]; exact hin
          have hg : sl[i]'(by rw [hsz]; exact hin) = cs[i] := by
            have h1 := HSl.out
            subst h1
            exact str_get cs i hil
          have hBw : w.heap.size ≤ wr.heap.size := Nat.le_trans HB1.out.size HK.out.size
          have hit := ritem_any wr HG.out hBw HVl.out k HIn.out.1 cs[i] (HIn.out.2 _ (List.getElem_mem hil)) (fun e => by
            by_cases h0 : i = 0
            · exact HSp.out h0
            · exact absurd (by rw [List.getElem?_eq_getElem hil]; exact e) (HFi.out i hil (by omega)))
          obtain ⟨r, hr⟩ : ∃ r, r = rItemA cs[i].toNat k V1 f1 := ⟨_, rfl⟩
          rw [← hr, ← hg] at hit
          have HIt2 := Lib.hid hit
          have HNx := Lib.hid (fun w2 fa2 => ol_next (a := a) (c := c) (w2 := w2) (fa2 := fa2) hil HX.out HK.out HVl.out HFk.out HRr.out hgg HWk.out.1 HWk.out.2 hr)
          clear hg hit hr hil hBw
          go_wp2_with fail
          refine HIt2.out.mono ?_
          rintro e w6 ⟨rfl, hk6, fa6, h6⟩
          obtain ⟨hX6, hK6, hl6, hf6, hok6, hbad6⟩ := HNx.out w6 fa6 hk6 h6
          have HX6 := Lib.hid hX6
          have HK6 := Lib.hid hK6
          have HG6 := Lib.hid h6
          have HL6 := Lib.hid hl6
          have HF6 := Lib.hid hf6
          have HOk := Lib.hid hok6
          have HBad := Lib.hid hbad6
          clear hX6 hK6 h6 hl6 hf6 hok6 hbad6 hk6
          obtain ⟨x, hx⟩ : ∃ x, x = r.err := ⟨_, rfl⟩
          rw [← hx] at HOk HBad ⊢
          clear hx
          by_cases h0 : x = 0
          · have HOk2 := Lib.hid (HOk.out h0)
            subst h0
            clear HIt2 hin
            go_wp2_with fail
            go_roundw
            case rel => exact ⟨i + 1, r.V, r.f, fa6, by push_cast; rfl, by rw [← HN.out]; exact HIn2.out, HG6.out, HX6.out, HK6.out, HL6.out, HF6.out, fun h => absurd h (Nat.succ_ne_zero i), HOk2.out⟩
            case measure => exact hsj4 HIn2.out
          · have y6 := onj11 h0
            have HE := Lib.hid (HBad.out h0)
            have HH0 := Lib.hid h0
            clear h0 HIt2 hin
            have h1 := zall
            have hth := HX6.out.there rfl
            obtain ⟨w8, hw8⟩ : ∃ w8, w8 = w6.setCells gr 0 (fcells fzero azero) := ⟨_, rfl⟩
            have HW8 := Lib.hid hw8
            clear hw8
            go_wp2_with (refine wpList_store_mid rfl 34 (.tmp 2) (.tmp 65) rfl gr 0 #[.int .i64 0, .int .i64 0, .int .i64 0, .int .i64 0, .int .i64 0, .bool false, .slice none 0 0, .slice none 0 0, .slice none 0 0, .int .i64 0, .int .i64 0, .int .i64 0, .int .i64 0] rfl rfl hth infoFrR h1 ?_; clear hth h1; rw [show w6.setCells gr 0 (#[.int .i64 0, .int .i64 0, .int .i64 0, .int .i64 0, .int .i64 0, .bool false, .slice none 0 0, .slice none 0 0, .slice none 0 0, .int .i64 0, .int .i64 0, .int .i64 0, .int .i64 0] : Array Value).toList = w8 from HW8.out.symm])
            go_wp2
            have hX8 : Has w8 gr 34 (fcells fzero azero) := by rw [HW8.out]; exact HX6.out.store rfl
            refine bodyPost_ret (results_rone rfl _ rfl rfl hX8 rfl) rfl ?_
            exact rone_exit HB1.out HGr.out HK6.out HG6.out.rv hgg ha HE.out HH0.out HW8.out
        · have z1 := hsj2 hin
          have HRt : Hid (R = rEnd V1 (rOneN (rFin k f1))) := Lib.hid (by
            have h1 := HRr.out
            rw [List.drop_eq_nil_of_le (by rw [← HN.out]; omega)] at h1
            rw [h1]
            unfold rTail rItems
            rw [if_neg (not_not_intro rfl)])
          clear hin
          have g0 := HG.out.box.cell 0 rfl
          have HE8b : Hid (f1.kind = 8) := Lib.hid (by rw [HFk.out]; exact HE8.out)
          rw [HE8b.out] at g0
          obtain ⟨b, hb2⟩ : ∃ b, b = decide (k % 2 = 1) := ⟨_, rfl⟩
          have hkb := rkb hb2
          have HRe0 : Hid (R = rEnd V1 { f1 with fin := b }) := Lib.hid (by rw [HRt.out, rfin8 HE8b.out, hb2])
          clear hb2
          have b5 := HG.out.box.free 5
          have c5 := HG.out.box.cell 5 rfl
          obtain ⟨f2, hf2⟩ : ∃ f2, f2 = ({ f1 with fin := b } : Fm) := ⟨_, rfl⟩
          rw [← hf2] at HRe0
          have HRe : Hid (R = rEnd V1 f2) := HRe0
          obtain ⟨wb, hwb⟩ : ∃ wb, wb = wr.setCell ⟨gf, 5, none⟩ (.bool b) := ⟨_, rfl⟩
          have HG2 : Hid (SR wb w.heap.size g gf a c V1 f2 fa1) := Lib.hid (by rw [hwb, hf2]; exact HG.out.int (f' := { f1 with fin := b }) 5 (.bool b) rfl rfl rfl rfl)
          have HX2 := Lib.hid (show Has wb gr 34 (fcells fzero azero) by rw [hwb]; exact HX.out.kept (Kept.set wr gf 5 _) HWk.out.2)
          have HK2 : Hid (Kept (fun k => k = g ∨ w.heap.size ≤ k) w1 wb) := Lib.hid (by rw [hwb]; exact HK.out.trans (Kept.set wr gf 5 _) (fun k _ e => .inr (by rw [e]; exact HWk.out.1)))
          have HWb := Lib.hid hwb
          have H8 : Hid (f2.kind = 8) := Lib.hid (by rw [hf2]; exact HE8b.out)
          clear hf2 hwb
          rcases hkb with ⟨hb1, hb2⟩ | ⟨hb1, hb2⟩
          · rw [hb1] at HWb
            clear hb1
            go_upto_region 21 with fail
            rw [show wr.setCell ⟨gf, 5, none⟩ (.bool true) = wb from HWb.out.symm]
            clear g0
            have g0 := HG2.out.box.cell 0 rfl
            rw [H8.out] at g0
            clear b5 c5
            go_upto_region 23 with fail
            clear g0
            have f23 := HG2.out.rv.has.cell 2 rfl
            by_cases hf0 : ¬ V1.fault = 0
            · have y0 : ¬ (V1.fault = 0) := hf0
              have HE : Hid (R = ⟨12, fzero, V1⟩) := Lib.hid (by rw [HRe.out]; unfold rEnd; rw [if_pos hf0])
              clear hf0
              have h1 := zall
              have hth := HX2.out.there rfl
              obtain ⟨w8, hw8⟩ : ∃ w8, w8 = wb.setCells gr 0 (fcells fzero azero) := ⟨_, rfl⟩
              have HW8 := Lib.hid hw8
              clear hw8
              go_wp2_with (refine wpList_store_mid rfl 34 (.tmp 2) (.tmp 83) rfl gr 0 #[.int .i64 0, .int .i64 0, .int .i64 0, .int .i64 0, .int .i64 0, .bool false, .slice none 0 0, .slice none 0 0, .slice none 0 0, .int .i64 0, .int .i64 0, .int .i64 0, .int .i64 0] rfl rfl hth infoFrR h1 ?_; clear hth h1; rw [show wb.setCells gr 0 (#[.int .i64 0, .int .i64 0, .int .i64 0, .int .i64 0, .int .i64 0, .bool false, .slice none 0 0, .slice none 0 0, .slice none 0 0, .int .i64 0, .int .i64 0, .int .i64 0, .int .i64 0] : Array Value).toList = w8 from HW8.out.symm])
              go_wp2
              have hX8 : Has w8 gr 34 (fcells fzero azero) := by rw [HW8.out]; exact HX2.out.store rfl
              refine bodyPost_ret (results_rone rfl _ rfl rfl hX8 rfl) rfl ?_
              exact rone_exit HB1.out HGr.out HK2.out HG2.out.rv hgg ha HE.out (by decide) HW8.out
            have y0 : V1.fault = 0 := Decidable.not_not.1 hf0
            rw [y0] at f23
            have HRf : Hid (R = if ¬ chkF f2 = 0 then ⟨51, fzero, V1⟩ else ⟨0, f2, V1⟩) := Lib.hid (by rw [HRe.out]; unfold rEnd; rw [if_neg hf0])
            clear hf0 y0
            have HC := Lib.hid (rchk_any wb HG2.out.own.fin)
            have g0 := HG2.out.box.cell 0 rfl
            have g1 := HG2.out.box.cell 1 rfl
            have g2 := HG2.out.box.cell 2 rfl
            have g3 := HG2.out.box.cell 3 rfl
            have g4 := HG2.out.box.cell 4 rfl
            have g5 := HG2.out.box.cell 5 rfl
            have g6 := HG2.out.box.cell 6 rfl
            have g7 := HG2.out.box.cell 7 rfl
            have g8 := HG2.out.box.cell 8 rfl
            have g9 := HG2.out.box.cell 9 rfl
            have g10 := HG2.out.box.cell 10 rfl
            have g11 := HG2.out.box.cell 11 rfl
            have g12 := HG2.out.box.cell 12 rfl
            obtain ⟨ck, hck⟩ : ∃ ck, ck = chkF f2 := ⟨_, rfl⟩
            rw [← hck] at HC
            have HCk := Lib.hid hck
            clear hck
            go_wp2_with fail
            refine HC.out.mono ?_
            rintro e w9 ⟨rfl, hb9⟩
            have HG9 := Lib.hid (HG2.out.below hb9)
            have HK9 : Hid (Kept (fun k => k = g ∨ w.heap.size ≤ k) w1 w9) := Lib.hid (HK2.out.trans (Kept.of_below (X := fun k => k = g ∨ w.heap.size ≤ k) hb9) (fun _ _ h => h))
            have HX9 := Lib.hid (HX2.out.kept (X := none') (Kept.of_below hb9) (fun h => h))
            clear hb9 g0 g1 g2 g3 g4 g5 g6 g7 g8 g9 g10 g11 g12 f23
            by_cases hc0 : ck = 0
            · subst hc0
              have g0 := HG9.out.box.cell 0 rfl
              have g1 := HG9.out.box.cell 1 rfl
              have g2 := HG9.out.box.cell 2 rfl
              have g3 := HG9.out.box.cell 3 rfl
              have g4 := HG9.out.box.cell 4 rfl
              have g5 := HG9.out.box.cell 5 rfl
              have g6 := HG9.out.box.cell 6 rfl
              have g7 := HG9.out.box.cell 7 rfl
              have g8 := HG9.out.box.cell 8 rfl
              have g9 := HG9.out.box.cell 9 rfl
              have g10 := HG9.out.box.cell 10 rfl
              have g11 := HG9.out.box.cell 11 rfl
              have g12 := HG9.out.box.cell 12 rfl
              have HE : Hid (R = ⟨0, f2, V1⟩) := Lib.hid (by rw [HRf.out, if_neg (not_not_intro HCk.out.symm)])
              have h1 := vall f2 fa1
              have hth := HX9.out.there rfl
              obtain ⟨w8, hw8⟩ : ∃ w8, w8 = w9.setCells gr 0 (fcells f2 fa1) := ⟨_, rfl⟩
              have HW8 := Lib.hid hw8
              clear hw8
              go_wp2_with (refine wpList_store_mid rfl 34 (.tmp 2) (.tmp 88) rfl gr 0 #[.int .i64 f2.kind, .int .i64 f2.id, .int .i64 f2.at_, .int .i64 f2.n, .int .i64 f2.code, .bool f2.fin, .slice fa1.da f2.data.length fa1.dc, .slice fa1.ca f2.cid.length fa1.cc, .slice fa1.sa f2.spans.length fa1.sc, .int .i64 f2.delay, .int .i64 f2.e0, .int .i64 f2.e1, .int .i64 f2.e2] rfl rfl hth infoFrR h1 ?_; clear hth h1; rw [show w9.setCells gr 0 (#[.int .i64 f2.kind, .int .i64 f2.id, .int .i64 f2.at_, .int .i64 f2.n, .int .i64 f2.code, .bool f2.fin, .slice fa1.da f2.data.length fa1.dc, .slice fa1.ca f2.cid.length fa1.cc, .slice fa1.sa f2.spans.length fa1.sc, .int .i64 f2.delay, .int .i64 f2.e0, .int .i64 f2.e1, .int .i64 f2.e2] : Array Value).toList = w8 from HW8.out.symm])
              go_wp2
              have hX8 : Has w8 gr 34 (fcells f2 fa1) := by rw [HW8.out]; exact HX9.out.store rfl
              refine bodyPost_ret (results_rone rfl _ rfl rfl hX8 rfl) rfl ?_
              exact rone_good HB1.out HGr.out HK9.out HG9.out HX9.out hgg ha HE.out HW8.out
            · have y9 := onj11 hc0
              have HE : Hid (R = ⟨51, fzero, V1⟩) := Lib.hid (by rw [HRf.out, if_pos (fun h => hc0 (HCk.out.trans h))])
              clear hc0
              have h1 := zall
              have hth := HX9.out.there rfl
              obtain ⟨w8, hw8⟩ : ∃ w8, w8 = w9.setCells gr 0 (fcells fzero azero) := ⟨_, rfl⟩
              have HW8 := Lib.hid hw8
              clear hw8
              go_wp2_with (refine wpList_store_mid rfl 34 (.tmp 2) (.tmp 87) rfl gr 0 #[.int .i64 0, .int .i64 0, .int .i64 0, .int .i64 0, .int .i64 0, .bool false, .slice none 0 0, .slice none 0 0, .slice none 0 0, .int .i64 0, .int .i64 0, .int .i64 0, .int .i64 0] rfl rfl hth infoFrR h1 ?_; clear hth h1; rw [show w9.setCells gr 0 (#[.int .i64 0, .int .i64 0, .int .i64 0, .int .i64 0, .int .i64 0, .bool false, .slice none 0 0, .slice none 0 0, .slice none 0 0, .int .i64 0, .int .i64 0, .int .i64 0, .int .i64 0] : Array Value).toList = w8 from HW8.out.symm])
              go_wp2
              have hX8 : Has w8 gr 34 (fcells fzero azero) := by rw [HW8.out]; exact HX9.out.store rfl
              refine bodyPost_ret (results_rone rfl _ rfl rfl hX8 rfl) rfl ?_
              exact rone_exit HB1.out HGr.out HK9.out HG9.out.rv hgg ha HE.out (by decide) HW8.out
          · rw [hb1] at HWb
            clear hb1
            go_upto_region 21 with fail
            rw [show wr.setCell ⟨gf, 5, none⟩ (.bool false) = wb from HWb.out.symm]
            clear g0
            have g0 := HG2.out.box.cell 0 rfl
            rw [H8.out] at g0
            clear b5 c5
            go_upto_region 23 with fail
            clear g0
            have f23 := HG2.out.rv.has.cell 2 rfl
            by_cases hf0 : ¬ V1.fault = 0
            · have y0 : ¬ (V1.fault = 0) := hf0
              have HE : Hid (R = ⟨12, fzero, V1⟩) := Lib.hid (by rw [HRe.out]; unfold rEnd; rw [if_pos hf0])
              clear hf0
              have h1 := zall
              have hth := HX2.out.there rfl
              obtain ⟨w8, hw8⟩ : ∃ w8, w8 = wb.setCells gr 0 (fcells fzero azero) := ⟨_, rfl⟩
              have HW8 := Lib.hid hw8
              clear hw8
              go_wp2_with (refine wpList_store_mid rfl 34 (.tmp 2) (.tmp 83) rfl gr 0 #[.int .i64 0, .int .i64 0, .int .i64 0, .int .i64 0, .int .i64 0, .bool false, .slice none 0 0, .slice none 0 0, .slice none 0 0, .int .i64 0, .int .i64 0, .int .i64 0, .int .i64 0] rfl rfl hth infoFrR h1 ?_; clear hth h1; rw [show wb.setCells gr 0 (#[.int .i64 0, .int .i64 0, .int .i64 0, .int .i64 0, .int .i64 0, .bool false, .slice none 0 0, .slice none 0 0, .slice none 0 0, .int .i64 0, .int .i64 0, .int .i64 0, .int .i64 0] : Array Value).toList = w8 from HW8.out.symm])
              go_wp2
              have hX8 : Has w8 gr 34 (fcells fzero azero) := by rw [HW8.out]; exact HX2.out.store rfl
              refine bodyPost_ret (results_rone rfl _ rfl rfl hX8 rfl) rfl ?_
              exact rone_exit HB1.out HGr.out HK2.out HG2.out.rv hgg ha HE.out (by decide) HW8.out
            have y0 : V1.fault = 0 := Decidable.not_not.1 hf0
            rw [y0] at f23
            have HRf : Hid (R = if ¬ chkF f2 = 0 then ⟨51, fzero, V1⟩ else ⟨0, f2, V1⟩) := Lib.hid (by rw [HRe.out]; unfold rEnd; rw [if_neg hf0])
            clear hf0 y0
            have HC := Lib.hid (rchk_any wb HG2.out.own.fin)
            have g0 := HG2.out.box.cell 0 rfl
            have g1 := HG2.out.box.cell 1 rfl
            have g2 := HG2.out.box.cell 2 rfl
            have g3 := HG2.out.box.cell 3 rfl
            have g4 := HG2.out.box.cell 4 rfl
            have g5 := HG2.out.box.cell 5 rfl
            have g6 := HG2.out.box.cell 6 rfl
            have g7 := HG2.out.box.cell 7 rfl
            have g8 := HG2.out.box.cell 8 rfl
            have g9 := HG2.out.box.cell 9 rfl
            have g10 := HG2.out.box.cell 10 rfl
            have g11 := HG2.out.box.cell 11 rfl
            have g12 := HG2.out.box.cell 12 rfl
            obtain ⟨ck, hck⟩ : ∃ ck, ck = chkF f2 := ⟨_, rfl⟩
            rw [← hck] at HC
            have HCk := Lib.hid hck
            clear hck
            go_wp2_with fail
            refine HC.out.mono ?_
            rintro e w9 ⟨rfl, hb9⟩
            have HG9 := Lib.hid (HG2.out.below hb9)
            have HK9 : Hid (Kept (fun k => k = g ∨ w.heap.size ≤ k) w1 w9) := Lib.hid (HK2.out.trans (Kept.of_below (X := fun k => k = g ∨ w.heap.size ≤ k) hb9) (fun _ _ h => h))
            have HX9 := Lib.hid (HX2.out.kept (X := none') (Kept.of_below hb9) (fun h => h))
            clear hb9 g0 g1 g2 g3 g4 g5 g6 g7 g8 g9 g10 g11 g12 f23
            by_cases hc0 : ck = 0
            · subst hc0
              have g0 := HG9.out.box.cell 0 rfl
              have g1 := HG9.out.box.cell 1 rfl
              have g2 := HG9.out.box.cell 2 rfl
              have g3 := HG9.out.box.cell 3 rfl
              have g4 := HG9.out.box.cell 4 rfl
              have g5 := HG9.out.box.cell 5 rfl
              have g6 := HG9.out.box.cell 6 rfl
              have g7 := HG9.out.box.cell 7 rfl
              have g8 := HG9.out.box.cell 8 rfl
              have g9 := HG9.out.box.cell 9 rfl
              have g10 := HG9.out.box.cell 10 rfl
              have g11 := HG9.out.box.cell 11 rfl
              have g12 := HG9.out.box.cell 12 rfl
              have HE : Hid (R = ⟨0, f2, V1⟩) := Lib.hid (by rw [HRf.out, if_neg (not_not_intro HCk.out.symm)])
              have h1 := vall f2 fa1
              have hth := HX9.out.there rfl
              obtain ⟨w8, hw8⟩ : ∃ w8, w8 = w9.setCells gr 0 (fcells f2 fa1) := ⟨_, rfl⟩
              have HW8 := Lib.hid hw8
              clear hw8
              go_wp2_with (refine wpList_store_mid rfl 34 (.tmp 2) (.tmp 88) rfl gr 0 #[.int .i64 f2.kind, .int .i64 f2.id, .int .i64 f2.at_, .int .i64 f2.n, .int .i64 f2.code, .bool f2.fin, .slice fa1.da f2.data.length fa1.dc, .slice fa1.ca f2.cid.length fa1.cc, .slice fa1.sa f2.spans.length fa1.sc, .int .i64 f2.delay, .int .i64 f2.e0, .int .i64 f2.e1, .int .i64 f2.e2] rfl rfl hth infoFrR h1 ?_; clear hth h1; rw [show w9.setCells gr 0 (#[.int .i64 f2.kind, .int .i64 f2.id, .int .i64 f2.at_, .int .i64 f2.n, .int .i64 f2.code, .bool f2.fin, .slice fa1.da f2.data.length fa1.dc, .slice fa1.ca f2.cid.length fa1.cc, .slice fa1.sa f2.spans.length fa1.sc, .int .i64 f2.delay, .int .i64 f2.e0, .int .i64 f2.e1, .int .i64 f2.e2] : Array Value).toList = w8 from HW8.out.symm])
              go_wp2
              have hX8 : Has w8 gr 34 (fcells f2 fa1) := by rw [HW8.out]; exact HX9.out.store rfl
              refine bodyPost_ret (results_rone rfl _ rfl rfl hX8 rfl) rfl ?_
              exact rone_good HB1.out HGr.out HK9.out HG9.out HX9.out hgg ha HE.out HW8.out
            · have y9 := onj11 hc0
              have HE : Hid (R = ⟨51, fzero, V1⟩) := Lib.hid (by rw [HRf.out, if_pos (fun h => hc0 (HCk.out.trans h))])
              clear hc0
              have h1 := zall
              have hth := HX9.out.there rfl
              obtain ⟨w8, hw8⟩ : ∃ w8, w8 = w9.setCells gr 0 (fcells fzero azero) := ⟨_, rfl⟩
              have HW8 := Lib.hid hw8
              clear hw8
              go_wp2_with (refine wpList_store_mid rfl 34 (.tmp 2) (.tmp 87) rfl gr 0 #[.int .i64 0, .int .i64 0, .int .i64 0, .int .i64 0, .int .i64 0, .bool false, .slice none 0 0, .slice none 0 0, .slice none 0 0, .int .i64 0, .int .i64 0, .int .i64 0, .int .i64 0] rfl rfl hth infoFrR h1 ?_; clear hth h1; rw [show w9.setCells gr 0 (#[.int .i64 0, .int .i64 0, .int .i64 0, .int .i64 0, .int .i64 0, .bool false, .slice none 0 0, .slice none 0 0, .slice none 0 0, .int .i64 0, .int .i64 0, .int .i64 0, .int .i64 0] : Array Value).toList = w8 from HW8.out.symm])
              go_wp2
              have hX8 : Has w8 gr 34 (fcells fzero azero) := by rw [HW8.out]; exact HX9.out.store rfl
              refine bodyPost_ret (results_rone rfl _ rfl rfl hX8 rfl) rfl ?_
              exact rone_exit HB1.out HGr.out HK9.out HG9.out.rv hgg ha HE.out (by decide) HW8.out
  · have e1 : kk = (k : Int) := HKk.out.trans q2
    have HEk := Lib.hid e1
    have hw4 := HW4.out
    rw [e1] at hw4 HIt
    clear e1 q2
    go_wp2_with fail
    repeat ((first | (refine Mx.skips (by kernel_rfl) ?_; go_big_quiet_skip) | (refine Mx.quietly rfl ?_; go_big_quiet_want; go_big_quiet_op; go_big_quiet_on)); refine Mx.done ?_)
    refine Mx.nil ?_
    go_wp2_with fail
    rw [← hw4]
    clear hw4
    refine HIt.out.mono ?_
    rintro e w5 ⟨he, rfl⟩
    obtain ⟨sl, hsl⟩ : ∃ sl, sl = str cs := ⟨_, rfl⟩
    have HSl := Lib.hid hsl
    obtain rfl : e = .returned (.tuple #[.string sl, .bool ok]) := by rw [hsl]; exact he
    clear hsl he
    cases ok with
    | false =>
      have HE : Hid (R = ⟨50, fzero, V2⟩) := Lib.hid HR4.out
      have h1 := zall
      have hth := HX4.out.there rfl
      obtain ⟨w8, hw8⟩ : ∃ w8, w8 = w5.setCells gr 0 (fcells fzero azero) := ⟨_, rfl⟩
      have HW8 := Lib.hid hw8
      clear hw8
      go_wp2_with (refine wpList_store_mid rfl 34 (.tmp 2) (.tmp 50) rfl gr 0 #[.int .i64 0, .int .i64 0, .int .i64 0, .int .i64 0, .int .i64 0, .bool false, .slice none 0 0, .slice none 0 0, .slice none 0 0, .int .i64 0, .int .i64 0, .int .i64 0, .int .i64 0] rfl rfl hth infoFrR h1 ?_; clear hth h1; rw [show w5.setCells gr 0 (#[.int .i64 0, .int .i64 0, .int .i64 0, .int .i64 0, .int .i64 0, .bool false, .slice none 0 0, .slice none 0 0, .slice none 0 0, .int .i64 0, .int .i64 0, .int .i64 0, .int .i64 0] : Array Value).toList = w8 from HW8.out.symm])
      go_wp2
      have hX8 : Has w8 gr 34 (fcells fzero azero) := by rw [HW8.out]; exact HX4.out.store rfl
      refine bodyPost_ret (results_rone rfl _ rfl rfl hX8 rfl) rfl ?_
      exact rone_exit HB1.out HGr.out HK4.out HV4.out hgg ha HE.out (by decide) HW8.out
    | true =>
      obtain ⟨gf, hgf⟩ : ∃ gf, gf = w3.heap.size := ⟨_, rfl⟩
      rw [← hgf]
      have hwk : w.heap.size ≤ gf ∧ gr ≠ gf := by
        have h1 := HB1.out.size
        have h2 := HK3.out.size
        have h3 := HX3.out.lt
        rw [hgf]; exact ⟨by omega, by omega⟩
      have HWk := Lib.hid hwk
      have HG5 := Lib.hid (rone_start hgf HW4.out HV3.out (B := w.heap.size) (by rw [← hgf]; exact hwk.1) (kk := kk) ha)
      have hin := @itm_kd k
      rw [← HKk.out, ← HIts.out] at hin
      have hin2 : k < 31 ∧ ∀ ch ∈ cs, ch ∈ ltrs := by
        rcases hin with ⟨h, _⟩ | ⟨_, h⟩
        · cases h
        · exact h
      have HIn := Lib.hid hin2
      have hfi := itm_first hin2.1
      rw [← HKk.out, ← HIts.out] at hfi
      have HFi := Lib.hid hfi
      have HR5 : Hid (R = rTail k (rItems cs k V2 { fzero with kind := kk })) := Lib.hid HR4.out
      have HB5 : Hid (w.heap.size ≤ w5.heap.size) := Lib.hid (Nat.le_trans HB1.out.size HK4.out.size)
      have HCl : Hid (cs.length ≤ 8) := Lib.hid (by
        have h1 : ∀ k : Nat, k < 31 → (itm (kd k)).1.length ≤ 8 := by decide +kernel
        have h2 := h1 k hin2.1
        rw [← HKk.out, ← HIts.out] at h2
        exact h2)
      have hsz : sl.size = cs.length := by rw [HSl.out]; simp [str, ByteArray.size]
      obtain ⟨n, hn⟩ : ∃ n, n = cs.length := ⟨_, rfl⟩
      rw [← hn] at hsz
      have HN := Lib.hid hn
      have HL2 : Hid (V2.l.length ≤ 140737488351232) := Lib.hid (by rw [HLl.out]; exact hl)
      clear hn hgf hwk hin hin2 hfi
      go_wp2_with fail
      go_loopw [9] (fun v wr => OLRel w w1 g gr gf a c k kk cs R v wr) (fun v _ => n - (intOf v).toNat)
      case atStart => exact ⟨0, V2, _, azero, rfl, Nat.zero_le _, HG5.out, HX4.out, HK4.out, HL2.out, rfl, fun _ => ⟨rfl, rfl⟩, HR5.out⟩
      case round =>
        obtain ⟨i, V1, f1, fa1, rfl, hi, hG, hX, hK, hVl, hfk, hsp, hRr⟩ := hrel
        have HG := Lib.hid hG
        have HX := Lib.hid hX
        have HK := Lib.hid hK
        have HVl := Lib.hid hVl
        have HFk := Lib.hid hfk
        have HSp := Lib.hid hsp
        have HRr := Lib.hid hRr
        have HI := Lib.hid hi
        clear hG hX hK hVl hfk hsp hRr hi
        by_cases hin : i < n
        · have z1 := hsj1 hin
          obtain ⟨z2, z3⟩ := hsj3 hin (by rw [HN.out]; exact HCl.out)
          have HIn2 := Lib.hid hin
          have hil : i < cs.length := by rw [← HN.out]; exact hin
          have hg : sl[i]'(by rw [hsz]; exact hin) = cs[i] := by
            have h1 := HSl.out
            subst h1
            exact str_get cs i hil
          have hBw : w.heap.size ≤ wr.heap.size := Nat.le_trans HB1.out.size HK.out.size
          have hit := ritem_any wr HG.out hBw HVl.out k HIn.out.1 cs[i] (HIn.out.2 _ (List.getElem_mem hil)) (fun e => by
            by_cases h0 : i = 0
            · exact HSp.out h0
            · exact absurd (by rw [List.getElem?_eq_getElem hil]; exact e) (HFi.out i hil (by omega)))
          obtain ⟨r, hr⟩ : ∃ r, r = rItemA cs[i].toNat k V1 f1 := ⟨_, rfl⟩
          rw [← hr, ← hg] at hit
          have HIt2 := Lib.hid hit
          have HNx := Lib.hid (fun w2 fa2 => ol_next (a := a) (c := c) (w2 := w2) (fa2 := fa2) hil HX.out HK.out HVl.out HFk.out HRr.out hgg HWk.out.1 HWk.out.2 hr)
          clear hg hit hr hil hBw
          go_wp2_with fail
          refine HIt2.out.mono ?_
          rintro e w6 ⟨rfl, hk6, fa6, h6⟩
          obtain ⟨hX6, hK6, hl6, hf6, hok6, hbad6⟩ := HNx.out w6 fa6 hk6 h6
          have HX6 := Lib.hid hX6
          have HK6 := Lib.hid hK6
          have HG6 := Lib.hid h6
          have HL6 := Lib.hid hl6
          have HF6 := Lib.hid hf6
          have HOk := Lib.hid hok6
          have HBad := Lib.hid hbad6
          clear hX6 hK6 h6 hl6 hf6 hok6 hbad6 hk6
          obtain ⟨x, hx⟩ : ∃ x, x = r.err := ⟨_, rfl⟩
          rw [← hx] at HOk HBad ⊢
          clear hx
          by_cases h0 : x = 0
          · have HOk2 := Lib.hid (HOk.out h0)
            subst h0
            clear HIt2 hin
            go_wp2_with fail
            go_roundw
            case rel => exact ⟨i + 1, r.V, r.f, fa6, by push_cast; rfl, by rw [← HN.out]; exact HIn2.out, HG6.out, HX6.out, HK6.out, HL6.out, HF6.out, fun h => absurd h (Nat.succ_ne_zero i), HOk2.out⟩
            case measure => exact hsj4 HIn2.out
          · have y6 := onj11 h0
            have HE := Lib.hid (HBad.out h0)
            have HH0 := Lib.hid h0
            clear h0 HIt2 hin
            have h1 := zall
            have hth := HX6.out.there rfl
            obtain ⟨w8, hw8⟩ : ∃ w8, w8 = w6.setCells gr 0 (fcells fzero azero) := ⟨_, rfl⟩
            have HW8 := Lib.hid hw8
            clear hw8
            go_wp2_with (refine wpList_store_mid rfl 34 (.tmp 2) (.tmp 65) rfl gr 0 #[.int .i64 0, .int .i64 0, .int .i64 0, .int .i64 0, .int .i64 0, .bool false, .slice none 0 0, .slice none 0 0, .slice none 0 0, .int .i64 0, .int .i64 0, .int .i64 0, .int .i64 0] rfl rfl hth infoFrR h1 ?_; clear hth h1; rw [show w6.setCells gr 0 (#[.int .i64 0, .int .i64 0, .int .i64 0, .int .i64 0, .int .i64 0, .bool false, .slice none 0 0, .slice none 0 0, .slice none 0 0, .int .i64 0, .int .i64 0, .int .i64 0, .int .i64 0] : Array Value).toList = w8 from HW8.out.symm])
            go_wp2
            have hX8 : Has w8 gr 34 (fcells fzero azero) := by rw [HW8.out]; exact HX6.out.store rfl
            refine bodyPost_ret (results_rone rfl _ rfl rfl hX8 rfl) rfl ?_
            exact rone_exit HB1.out HGr.out HK6.out HG6.out.rv hgg ha HE.out HH0.out HW8.out
        · have z1 := hsj2 hin
          have HRt : Hid (R = rEnd V1 (rOneN (rFin k f1))) := Lib.hid (by
            have h1 := HRr.out
            rw [List.drop_eq_nil_of_le (by rw [← HN.out]; omega)] at h1
            rw [h1]
            unfold rTail rItems
            rw [if_neg (not_not_intro rfl)])
          clear hin
          have g0 := HG.out.box.cell 0 rfl
          have y1 : (k : Int) ≠ 8 := by
            intro h
            have h2 : k = 8 := by omega
            have h3 := q3
            rw [h2] at h3
            simp at h3
          have HFk2 : Hid (f1.kind = (k : Int)) := Lib.hid (by rw [HFk.out]; exact HEk.out)
          rw [HFk2.out] at g0
          have e8 : rFin k f1 = f1 := rfinN (by rw [HFk2.out]; exact y1)
          have y8 : ((k : Int) == 8) = false := by simpa using y1
          clear y1
          have y0 : ((k : Int) == 0) = false := by simp; intro h; have h3 := q3; rw [h] at h3; simp at h3
          obtain ⟨f2, hf2⟩ : ∃ f2, f2 = f1 := ⟨_, rfl⟩
          have HRe : Hid (R = rEnd V1 f2) := Lib.hid (by rw [HRt.out, e8, ronenN (by rw [HFk2.out]; simpa using y0), hf2])
          have HG2 : Hid (SR wr w.heap.size g gf a c V1 f2 fa1) := Lib.hid (by rw [hf2]; exact HG.out)
          have HX2 := HX
          have HK2 := HK
          clear hf2 e8
          go_upto_region 23 with fail
          clear g0
          have f23 := HG2.out.rv.has.cell 2 rfl
          by_cases hf0 : ¬ V1.fault = 0
          · have y0 : ¬ (V1.fault = 0) := hf0
            have HE : Hid (R = ⟨12, fzero, V1⟩) := Lib.hid (by rw [HRe.out]; unfold rEnd; rw [if_pos hf0])
            clear hf0
            have h1 := zall
            have hth := HX2.out.there rfl
            obtain ⟨w8, hw8⟩ : ∃ w8, w8 = wr.setCells gr 0 (fcells fzero azero) := ⟨_, rfl⟩
            have HW8 := Lib.hid hw8
            clear hw8
            go_wp2_with (refine wpList_store_mid rfl 34 (.tmp 2) (.tmp 83) rfl gr 0 #[.int .i64 0, .int .i64 0, .int .i64 0, .int .i64 0, .int .i64 0, .bool false, .slice none 0 0, .slice none 0 0, .slice none 0 0, .int .i64 0, .int .i64 0, .int .i64 0, .int .i64 0] rfl rfl hth infoFrR h1 ?_; clear hth h1; rw [show wr.setCells gr 0 (#[.int .i64 0, .int .i64 0, .int .i64 0, .int .i64 0, .int .i64 0, .bool false, .slice none 0 0, .slice none 0 0, .slice none 0 0, .int .i64 0, .int .i64 0, .int .i64 0, .int .i64 0] : Array Value).toList = w8 from HW8.out.symm])
            go_wp2
            have hX8 : Has w8 gr 34 (fcells fzero azero) := by rw [HW8.out]; exact HX2.out.store rfl
            refine bodyPost_ret (results_rone rfl _ rfl rfl hX8 rfl) rfl ?_
            exact rone_exit HB1.out HGr.out HK2.out HG2.out.rv hgg ha HE.out (by decide) HW8.out
          have y0 : V1.fault = 0 := Decidable.not_not.1 hf0
          rw [y0] at f23
          have HRf : Hid (R = if ¬ chkF f2 = 0 then ⟨51, fzero, V1⟩ else ⟨0, f2, V1⟩) := Lib.hid (by rw [HRe.out]; unfold rEnd; rw [if_neg hf0])
          clear hf0 y0
          have HC := Lib.hid (rchk_any wr HG2.out.own.fin)
          have g0 := HG2.out.box.cell 0 rfl
          have g1 := HG2.out.box.cell 1 rfl
          have g2 := HG2.out.box.cell 2 rfl
          have g3 := HG2.out.box.cell 3 rfl
          have g4 := HG2.out.box.cell 4 rfl
          have g5 := HG2.out.box.cell 5 rfl
          have g6 := HG2.out.box.cell 6 rfl
          have g7 := HG2.out.box.cell 7 rfl
          have g8 := HG2.out.box.cell 8 rfl
          have g9 := HG2.out.box.cell 9 rfl
          have g10 := HG2.out.box.cell 10 rfl
          have g11 := HG2.out.box.cell 11 rfl
          have g12 := HG2.out.box.cell 12 rfl
          obtain ⟨ck, hck⟩ : ∃ ck, ck = chkF f2 := ⟨_, rfl⟩
          rw [← hck] at HC
          have HCk := Lib.hid hck
          clear hck
          go_wp2_with fail
          refine HC.out.mono ?_
          rintro e w9 ⟨rfl, hb9⟩
          have HG9 := Lib.hid (HG2.out.below hb9)
          have HK9 : Hid (Kept (fun k => k = g ∨ w.heap.size ≤ k) w1 w9) := Lib.hid (HK2.out.trans (Kept.of_below (X := fun k => k = g ∨ w.heap.size ≤ k) hb9) (fun _ _ h => h))
          have HX9 := Lib.hid (HX2.out.kept (X := none') (Kept.of_below hb9) (fun h => h))
          clear hb9 g0 g1 g2 g3 g4 g5 g6 g7 g8 g9 g10 g11 g12 f23
          by_cases hc0 : ck = 0
          · subst hc0
            have g0 := HG9.out.box.cell 0 rfl
            have g1 := HG9.out.box.cell 1 rfl
            have g2 := HG9.out.box.cell 2 rfl
            have g3 := HG9.out.box.cell 3 rfl
            have g4 := HG9.out.box.cell 4 rfl
            have g5 := HG9.out.box.cell 5 rfl
            have g6 := HG9.out.box.cell 6 rfl
            have g7 := HG9.out.box.cell 7 rfl
            have g8 := HG9.out.box.cell 8 rfl
            have g9 := HG9.out.box.cell 9 rfl
            have g10 := HG9.out.box.cell 10 rfl
            have g11 := HG9.out.box.cell 11 rfl
            have g12 := HG9.out.box.cell 12 rfl
            have HE : Hid (R = ⟨0, f2, V1⟩) := Lib.hid (by rw [HRf.out, if_neg (not_not_intro HCk.out.symm)])
            have h1 := vall f2 fa1
            have hth := HX9.out.there rfl
            obtain ⟨w8, hw8⟩ : ∃ w8, w8 = w9.setCells gr 0 (fcells f2 fa1) := ⟨_, rfl⟩
            have HW8 := Lib.hid hw8
            clear hw8
            go_wp2_with (refine wpList_store_mid rfl 34 (.tmp 2) (.tmp 88) rfl gr 0 #[.int .i64 f2.kind, .int .i64 f2.id, .int .i64 f2.at_, .int .i64 f2.n, .int .i64 f2.code, .bool f2.fin, .slice fa1.da f2.data.length fa1.dc, .slice fa1.ca f2.cid.length fa1.cc, .slice fa1.sa f2.spans.length fa1.sc, .int .i64 f2.delay, .int .i64 f2.e0, .int .i64 f2.e1, .int .i64 f2.e2] rfl rfl hth infoFrR h1 ?_; clear hth h1; rw [show w9.setCells gr 0 (#[.int .i64 f2.kind, .int .i64 f2.id, .int .i64 f2.at_, .int .i64 f2.n, .int .i64 f2.code, .bool f2.fin, .slice fa1.da f2.data.length fa1.dc, .slice fa1.ca f2.cid.length fa1.cc, .slice fa1.sa f2.spans.length fa1.sc, .int .i64 f2.delay, .int .i64 f2.e0, .int .i64 f2.e1, .int .i64 f2.e2] : Array Value).toList = w8 from HW8.out.symm])
            go_wp2
            have hX8 : Has w8 gr 34 (fcells f2 fa1) := by rw [HW8.out]; exact HX9.out.store rfl
            refine bodyPost_ret (results_rone rfl _ rfl rfl hX8 rfl) rfl ?_
            exact rone_good HB1.out HGr.out HK9.out HG9.out HX9.out hgg ha HE.out HW8.out
          · have y9 := onj11 hc0
            have HE : Hid (R = ⟨51, fzero, V1⟩) := Lib.hid (by rw [HRf.out, if_pos (fun h => hc0 (HCk.out.trans h))])
            clear hc0
            have h1 := zall
            have hth := HX9.out.there rfl
            obtain ⟨w8, hw8⟩ : ∃ w8, w8 = w9.setCells gr 0 (fcells fzero azero) := ⟨_, rfl⟩
            have HW8 := Lib.hid hw8
            clear hw8
            go_wp2_with (refine wpList_store_mid rfl 34 (.tmp 2) (.tmp 87) rfl gr 0 #[.int .i64 0, .int .i64 0, .int .i64 0, .int .i64 0, .int .i64 0, .bool false, .slice none 0 0, .slice none 0 0, .slice none 0 0, .int .i64 0, .int .i64 0, .int .i64 0, .int .i64 0] rfl rfl hth infoFrR h1 ?_; clear hth h1; rw [show w9.setCells gr 0 (#[.int .i64 0, .int .i64 0, .int .i64 0, .int .i64 0, .int .i64 0, .bool false, .slice none 0 0, .slice none 0 0, .slice none 0 0, .int .i64 0, .int .i64 0, .int .i64 0, .int .i64 0] : Array Value).toList = w8 from HW8.out.symm])
            go_wp2
            have hX8 : Has w8 gr 34 (fcells fzero azero) := by rw [HW8.out]; exact HX9.out.store rfl
            refine bodyPost_ret (results_rone rfl _ rfl rfl hX8 rfl) rfl ?_
            exact rone_exit HB1.out HGr.out HK9.out HG9.out.rv hgg ha HE.out (by decide) HW8.out
end Go.Proofs.Ytppkilkfmclpkaa

namespace Go.Proofs.Ytppkilkfmclpkaa
open Go.RowKit

theorem rtW_of {w : World} {g : Nat} {V : Vr} {a : Option Addr} {c : Nat} (h : RV w g V a c) : atW w g = V.at_ := by
  unfold atW
  rw [h.has.cell 1 rfl]
  simp
theorem sl_lt {w : World} {a : Option Addr} {n c : Nat} {xs : List Value} (h : Sl w a n c xs) (hn : 0 < n) : ∀ ad, a = some ad → ad.block < w.heap.size := by
  obtain ⟨b, o, ha, hc⟩ := h.cells (by omega)
  intro ad e
  rw [ha] at e
  cases e
  have h0 := hc 0 hn
  rw [List.getElem?_eq_getElem (by rw [h.len]; exact hn)] at h0
  exact World.block_lt_of_cell? w _ h0
/-- the frames, the place, the error -/
def RDecR (w : World) (r : List Fm × Nat × Int) (e : Ending) (w' : World) : Prop :=
  ∃ a c L, e = .returned (.tuple #[.slice a L.length c, .int .i64 (r.2.1 : Int), .int .i64 r.2.2]) ∧ FRow 34 w' w.heap.size a c L ∧ L.map (·.1) = r.1 ∧ Below w.heap.size w w'
/-- what holds at the loop's head -/
def RDRel (w : World) (g : Nat) (ga : Option Addr) (gc : Nat) (l : List UInt8) (R : List Fm × Nat × Int) (v : Value) (wr : World) : Prop :=
  ∃ (V : Vr) (af : Option Addr) (cf : Nat) (L : List (Fm × FA)), v = .slice af L.length cf ∧ RV wr g V ga gc ∧ FRow 34 wr w.heap.size af cf L ∧ Below w.heap.size w wr ∧
    V.l = l ∧ V.fault = 0 ∧ R = decL l.length V (L.map (·.1)) ∧ L.length ≤ V.at_ ∧ (∀ p ∈ L, p.1.kind = 0 → 0 ≤ p.1.n ∧ p.1.n ≤ 16384 + (V.at_ : Int)) ∧ (∀ k, blk af k → g < k)
theorem rdj7 {w1 w2 : World} {g n : Nat} {V V2 : Vr} {a : Option Addr} {c : Nat} (h1 : RV w1 g V a c) (h2 : RV w2 g V2 a c) (hlt : V.at_ < V2.at_) (hn : V2.l.length = n) : n - atW w2 g < n - atW w1 g := by
  rw [rtW_of h1, rtW_of h2]
  have := h2.le
  omega
theorem rdj7' {w1 w2 w3 : World} {g n : Nat} {X : Nat → Prop} {V V2 : Vr} {a : Option Addr} {c : Nat} (h1 : RV w1 g V a c) (h2 : RV w2 g V2 a c) (hk : Kept X w2 w3) (hx : ¬ X g) (hlt : V.at_ < V2.at_) (hn : V2.l.length = n) : n - atW w3 g < n - atW w1 g := by
  have e : atW w3 g = V2.at_ := by
    unfold atW
    rw [(h2.has.kept hk hx).cell 1 rfl]
    simp
  rw [rtW_of h1, e]
  have := h2.le
  omega
/-- the frame's row and the reader at what is new -/
theorem RDRel.app {w w1 w2 : World} {g : Nat} {ga : Option Addr} {gc : Nat} {l : List UInt8} {R : List Fm × Nat × Int} {V V0 : Vr} {af : Option Addr} {cf : Nat} {L : List (Fm × FA)} {f : Fm} {fa : FA} {a' : Option Addr} {c' : Nat}
    (hV : RV w1 g V ga gc) (hb : Below w.heap.size w w1) (hga : ∀ ad, ga = some ad → ad.block < g) (hrow : FRow 34 w1 w.heap.size af cf L) (hgl : ∀ k, blk af k → g < k)
    (hr : FRow 34 w2 w.heap.size a' c' (L ++ [(f, fa)])) (hg : w1.grownBy w2 (Value.ownBlock (.slice af L.length cf))) (hno : NewOr w1 (.slice af L.length cf) (.slice a' (L.length + 1) c'))
    (hl : V.l = l) (hf : V.fault = 0) (hR : R = decL l.length V (push (L.map (·.1)) f)) (hp : push (L.map (·.1)) f = L.map (·.1) ++ [f]) (hn : L.length ≤ V0.at_) (hat : V0.at_ < V.at_) (hps : ∀ p ∈ L, p.1.kind = 0 → 0 ≤ p.1.n ∧ p.1.n ≤ 16384 + (V0.at_ : Int)) (hck : chkF f = 0) :
    RDRel w g ga gc l R (.slice a' (L.length + 1) c') w2 := by
  have hk := Kept.of_grown hg
  refine ⟨V, a', c', L ++ [(f, fa)], by simp, hV.kept hk (fun e => own_nty hrow.row hV.has (by decide) g e rfl) (fun ad ha e => by have := hgl _ (blk_own e); have := hga ad ha; omega), hr, ?_, hl, hf, by rw [hR, hp]; simp, by simp; omega, ?_, fun k hb => ?_⟩
  · refine hb.grown hg hb.size (fun k hk => ?_)
    exact (ownsRow_ge hrow.row k (blk_own hk)).1
  · intro p hp2 hp0
    rcases List.mem_append.1 hp2 with h | h
    · have := hps p h hp0; omega
    · rw [List.mem_singleton.1 h] at hp0 ⊢
      have := chk_pad hck hp0
      simp only
      omega
  · rcases hno k (own_blk hb) with h | h
    · exact hgl k (blk_own h)
    · have := hV.has.lt; omega

/-- the last padding is one longer -/
theorem RDRel.old {w w1 w2 : World} {g s : Nat} {ga : Option Addr} {gc : Nat} {l : List UInt8} {R : List Fm × Nat × Int} {V V0 : Vr} {cf : Nat} {L : List (Fm × FA)} {p : Fm × FA} {f : Fm}
    (hV : RV w1 g V ga gc) (hb : Below w.heap.size w w1) (hga : ∀ ad, ga = some ad → ad.block < g) (hrow : FRow 34 w1 w.heap.size (some ⟨s, 0, none⟩) cf (L ++ [p])) (hgl : g < s)
    (hw : w2 = w1.setCell ⟨s, L.length * 13 + 3, none⟩ (.int .i64 (p.1.n + 1)))
    (hl : V.l = l) (hf : V.fault = 0) (hR : R = decL l.length V (push ((L ++ [p]).map (·.1)) f)) (hk0 : f.kind = 0) (hp0 : p.1.kind = 0) (hn : L.length + 1 ≤ V0.at_) (hat : V0.at_ < V.at_) (hps : ∀ q ∈ L ++ [p], q.1.kind = 0 → 0 ≤ q.1.n ∧ q.1.n ≤ 16384 + (V0.at_ : Int)) :
    RDRel w g ga gc l R (.slice (some ⟨s, 0, none⟩) (L.length + 1) cf) w2 := by
  have hk := Kept.set w1 s (L.length * 13 + 3) (.int .i64 (p.1.n + 1))
  rw [← hw] at hk
  have hblk : Value.ownBlock (.slice (some ⟨s, 0, none⟩) (L ++ [p]).length cf) = some s := rfl
  refine ⟨V, some ⟨s, 0, none⟩, cf, L ++ [({ p.1 with n := p.1.n + 1 }, p.2)], by simp, hV.kept hk (fun e => by omega) (fun ad ha e => by have := hga ad ha; omega), ?_, ?_, hl, hf, ?_, by simp; omega, ?_, fun k hb => ?_⟩
  · rw [hw]
    exact hrow.last (p.1.n + 1) (by decide) (by decide)
  · exact hb.trans (hk.below hb.size (fun k e => by rw [e]; exact (ownsRow_ge hrow.row s ⟨_, rfl, rfl⟩).1))
  · have e : push ((L ++ [p]).map (fun x : Fm × FA => x.1)) f = (L ++ [({ p.1 with n := p.1.n + 1 }, p.2)]).map (fun x : Fm × FA => x.1) := by
      rw [List.map_append, List.map_append]
      exact push_old hk0 hp0
    rw [hR, e]
  · intro q hq hq0
    rcases List.mem_append.1 hq with h | h
    · have := hps q (List.mem_append_left _ h) hq0; omega
    · rw [List.mem_singleton.1 h]
      have := hps p (List.mem_append_right _ (List.mem_singleton.2 rfl)) hp0
      simp only
      omega
  · obtain ⟨ad, h1, h2⟩ := hb
    cases h1
    have h2 : s = k := h2
    omega

set_option maxRecDepth 100000 in
set_option maxHeartbeats 4000000 in
theorem rdecode_any (w : World) {a : Option Addr} {n c : Nat} {l : List UInt8} (h : Sl w a n c (bv l)) : Calls Try.prog 21 #[.slice a n c] w (RDecR w (decV l)) := by
  have hl := h.byte
  have hcap := h.cap_le
  have hcm := h.cap_max
  by_cases hbig : 16384 < l.length
  · have y1 := dcj2 (show 16384 < n by omega)
    have HE : Hid (RDecR w (decV l) (.returned (.tuple #[.slice none 0 0, .int .i64 0, .int .i64 52])) w) := Lib.hid (by
      unfold decV
      rw [if_pos hbig]
      exact ⟨none, 0, [], rfl, FRow.nil _ _ _, rfl, Below.refl _ _⟩)
    clear h hl hbig
    go_enter Try.func21, Try.ntmps21
    go_wp2
    go_ret3
    exact HE.out
  by_cases h0 : l.length = 0
  · have y1 : n = 0 := by omega
    subst y1
    have HE : Hid (RDecR w (decV l) (.returned (.tuple #[.slice none 0 0, .int .i64 0, .int .i64 12])) w) := Lib.hid (by
      unfold decV
      rw [if_neg hbig, if_pos h0]
      exact ⟨none, 0, [], rfl, FRow.nil _ _ _, rfl, Below.refl _ _⟩)
    clear h hl hbig
    go_enter Try.func21, Try.ntmps21
    go_wp2
    go_ret3
    exact HE.out
  obtain ⟨y1, y2⟩ := dcj1 (n := n) (k := l.length) hl.symm (by omega) h0
  obtain ⟨R, hR⟩ : ∃ R, R = decV l := ⟨_, rfl⟩
  rw [← hR]
  unfold decV at hR
  rw [if_neg hbig, if_neg h0] at hR
  have HR := Lib.hid hR
  have HLl : Hid (l.length ≤ 16384) := Lib.hid (by omega)
  have hn : n = l.length := hl.symm
  have hrv : ∀ w', Below w.heap.size w w' → Has w' w.heap.size 78 (vcells ⟨l, 0, 0⟩ a c) → RV w' w.heap.size ⟨l, 0, 0⟩ a c := fun w' hb hh => by
    have h2 := h.below hb
    rw [hn] at h2
    exact ⟨hh, h2, fun ad e1 e2 => by have := sl_lt h (by omega) ad e1; omega, Nat.zero_le _⟩
  have HRv := Lib.hid hrv
  have HGa0 : Hid (∀ ad, a = some ad → ad.block < w.heap.size) := Lib.hid (sl_lt h (by omega))
  have HNl := Lib.hid hn
  clear h hl hbig h0 hR hrv hn
  go_enter Try.func21, Try.ntmps21
  go_upto_region 6 with fail
  obtain ⟨g, hg⟩ : ∃ g, g = w.heap.size := ⟨_, rfl⟩
  obtain ⟨w3, hw3⟩ : ∃ w3, w3 = w.alloc (.cells #[.slice a n c, .int .i64 0, .int .i64 0] 78) := ⟨_, rfl⟩
  rw [← hg, ← hw3]
  have hal : Below w.heap.size w w3 := by rw [hw3]; exact alB w _
  have HV3 : Hid (RV w3 g ⟨l, 0, 0⟩ a c) := Lib.hid (by
    rw [hg]
    refine HRv.out w3 hal ?_
    have h1 := Has.new w 78 #[.slice a n c, .int .i64 0, .int .i64 0]
    rw [← hw3, HNl.out] at h1
    exact h1)
  have HGa : Hid (∀ ad, a = some ad → ad.block < g) := Lib.hid (by rw [hg]; exact HGa0.out)
  have HGw : Hid (w.heap.size ≤ g) := Lib.hid (by rw [hg]; exact Nat.le_refl _)
  have HStart : Hid (RDRel w g a c l R (.slice none 0 0) w3) := Lib.hid ⟨⟨l, 0, 0⟩, none, 0, [], rfl, HV3.out, FRow.nil _ _ _, hal, rfl, rfl, HR.out, Nat.zero_le _, (fun p hp => by cases hp), (fun k hb => by obtain ⟨ad, h1, _⟩ := hb; cases h1)⟩
  clear hw3 hg hal y1 y2 hcap hcm
  go_wp2_with fail
  go_loopw [6] (fun v wr => RDRel w g a c l R v wr) (fun _ wr => l.length - atW wr g)
  case atStart => exact HStart.out
  case round =>
    obtain ⟨V, af, cf, L, rfl, hV, hrow, hb, hVl, hVf, hRr, hLn, hps, hgl⟩ := hrel
    have HVr := Lib.hid hV
    have HRow := Lib.hid hrow
    have HBr := Lib.hid hb
    have HVl := Lib.hid hVl
    have HVf := Lib.hid hVf
    have HRr := Lib.hid hRr
    have HLn := Lib.hid hLn
    have HPs := Lib.hid hps
    have HGl := Lib.hid hgl
    have HLe := Lib.hid hV.le
    have s1 := hV.has.cell 1 rfl
    clear hV hrow hb hVl hVf hRr hLn hps hgl
    obtain ⟨tt, htt⟩ : ∃ tt, tt = V.at_ := ⟨_, rfl⟩
    have hlv : leftV V = n - tt := by rw [leftV_ok HVf.out, HVl.out, HNl.out, htt]
    by_cases hl0 : ¬ tt < n
    · have y1 := hsj2 hl0
      have HE : Hid (R = (L.map (·.1), 0, 0)) := Lib.hid (by rw [HRr.out]; exact decL_end (by rw [hlv]; omega))
      rw [← htt] at s1
      clear hl0 hlv htt
      obtain ⟨ln, hln⟩ : ∃ ln, ln = L.length := ⟨_, rfl⟩
      rw [← hln]
      have HLen := Lib.hid hln
      clear hln
      go_wp2
      go_ret3
      rw [HE.out]
      exact ⟨af, cf, L, by rw [← HLen.out]; rfl, HRow.out, rfl, HBr.out⟩
    have hl1 : tt < n := Decidable.not_not.1 hl0
    have y1 := hsj1 hl1
    have HL0 : Hid (¬ leftV V = 0) := Lib.hid (by rw [hlv]; omega)
    have HTt := Lib.hid htt
    rw [← htt] at s1
    clear hl0 hlv htt hl1
    obtain ⟨ln, hln⟩ : ∃ ln, ln = L.length := ⟨_, rfl⟩
    rw [← hln]
    have HLen := Lib.hid hln
    clear hln
    have HOne : Hid (Calls Try.prog 43 #[.pointer (some ⟨g, 0, none⟩)] wr (ROneR wr g a c (rOne V))) := Lib.hid (rone_any wr HVr.out (by rw [HVl.out]; exact Nat.le_trans HLl.out (by decide)) (fun ad ha => Nat.lt_trans (HGa.out ad ha) HVr.out.has.lt))
    obtain ⟨heq1, heq2⟩ := rone_eqv V
    obtain ⟨hadl, hadk⟩ := oneV_adv V
    obtain ⟨r, hr⟩ : ∃ r, r = oneV V := ⟨_, rfl⟩
    obtain ⟨r0, hr0⟩ : ∃ r0, r0 = rOne V := ⟨_, rfl⟩
    rw [← hr, ← hr0] at heq1 heq2
    rw [← hr0] at HOne
    have HRn : Hid (r.err = 0 → R = decL l.length r.V (push (L.map (·.1)) r.f)) := Lib.hid (fun he => by rw [HRr.out, hr]; rw [hr] at he; exact decL_go HVf.out (by rw [HVl.out]; omega) HL0.out he)
    have HRb : Hid (¬ r.err = 0 → R = ([], tt, r.err)) := Lib.hid (fun he => by rw [HRr.out, hr, HTt.out]; rw [hr] at he; exact decL_bad HVf.out (by rw [HVl.out]; omega) HL0.out he)
    have HCk : Hid (r.err = 0 → chkF r.f = 0) := Lib.hid (fun he => by rw [hr] at he ⊢; exact one_chk he)
    have HAk : Hid (r.V.l = l ∧ (r.err = 0 → V.at_ < r.V.at_ ∧ r.V.fault = 0)) := Lib.hid (by rw [hr]; exact ⟨hadl.trans HVl.out, hadk⟩)
    have HEq := Lib.hid heq2
    obtain ⟨rerr, rf, rV⟩ := r
    obtain ⟨rerr0, rf0, rV0⟩ := r0
    simp only at HRn HRb HCk HAk heq1 HEq
    subst heq1
    clear hr hr0 hadl hadk heq2
    go_wp2_with fail
    refine HOne.out.mono ?_
    rintro e w6 ⟨f, fa, he, hk6, hV6, hok6⟩
    obtain rfl : e = .returned (.tuple #[.agg #[.int .i64 f.kind, .int .i64 f.id, .int .i64 f.at_, .int .i64 f.n, .int .i64 f.code, .bool f.fin, .slice fa.da f.data.length fa.dc, .slice fa.ca f.cid.length fa.cc, .slice fa.sa f.spans.length fa.sc, .int .i64 f.delay, .int .i64 f.e0, .int .i64 f.e1, .int .i64 f.e2], .int .i64 rerr0]) := he
    have HV6 : Hid (rerr0 = 0 → RV w6 g rV a c) := Lib.hid (fun he => by have h1 : rV0 = rV := congrArg Rs.V (HEq.out he); rw [← h1]; exact hV6)
    have HRow6 := Lib.hid (HRow.out.kept HVr.out.has hk6 (by decide) (by decide) (by decide))
    have HB6 : Hid (Below w.heap.size w w6) := Lib.hid (HBr.out.trans (hk6.below HBr.out.size (fun k e => by rw [e]; exact HGw.out)))
    have HOk6 : Hid (rerr0 = 0 → f = rf ∧ FOwn w6 w.heap.size f fa) := Lib.hid (fun he => ⟨(hok6 he).1.trans (congrArg Rs.f (HEq.out he)), (hok6 he).2.mono HBr.out.size⟩)
    clear hk6 hV6 hok6 s1
    by_cases he0 : ¬ rerr0 = 0
    · have y2 := onj11 he0
      have HE := Lib.hid (HRb.out he0)
      have HOut : Hid (RDecR w R (.returned (.tuple #[.slice none 0 0, .int .i64 (tt : Int), .int .i64 rerr0])) (w6.alloc (.cells #[.int .i64 f.kind, .int .i64 f.id, .int .i64 f.at_, .int .i64 f.n, .int .i64 f.code, .bool f.fin, .slice fa.da f.data.length fa.dc, .slice fa.ca f.cid.length fa.cc, .slice fa.sa f.spans.length fa.sc, .int .i64 f.delay, .int .i64 f.e0, .int .i64 f.e1, .int .i64 f.e2] 34))) := Lib.hid (by
        rw [HE.out]
        exact ⟨none, 0, [], rfl, FRow.nil _ _ _, rfl, HB6.out.trans ((alB w6 _).mono HB6.out.size)⟩)
      clear he0
      go_wp2
      go_ret3
      exact HOut.out
    have he1 : rerr0 = 0 := Decidable.not_not.1 he0
    subst he1
    obtain ⟨hff, hfo⟩ := HOk6.out rfl
    subst hff
    have HFo := Lib.hid hfo
    have HR7 := Lib.hid (HRn.out rfl)
    have HCk7 := Lib.hid (HCk.out rfl)
    have HAk7 := Lib.hid (HAk.out.2 rfl)
    have HAl7 := Lib.hid HAk.out.1
    clear hfo he0
    obtain ⟨w7, hw7⟩ : ∃ w7, w7 = w6.alloc (.cells #[.int .i64 f.kind, .int .i64 f.id, .int .i64 f.at_, .int .i64 f.n, .int .i64 f.code, .bool f.fin, .slice fa.da f.data.length fa.dc, .slice fa.ca f.cid.length fa.cc, .slice fa.sa f.spans.length fa.sc, .int .i64 f.delay, .int .i64 f.e0, .int .i64 f.e1, .int .i64 f.e2] 34) := ⟨_, rfl⟩
    obtain ⟨xb, hxb⟩ : ∃ xb, xb = w6.heap.size := ⟨_, rfl⟩
    have hal7 : Below w6.heap.size w6 w7 := by rw [hw7]; exact alB w6 _
    have HX7 : Hid (Has w7 xb 34 (fcells f fa)) := Lib.hid (by rw [hw7, hxb]; exact Has.new _ _ _)
    have HV7 := Lib.hid ((HV6.out rfl).below hal7)
    have HRow7 := Lib.hid (HRow6.out.below hal7)
    have HB7 := Lib.hid (HB6.out.trans (hal7.mono HB6.out.size))
    have HFo7 := Lib.hid (HFo.out.below hal7)
    clear hal7
    go_upto_region 12 with fail
    rw [← hw7, ← hxb]
    clear hw7 hxb
    have HLe2 : Hid (ln ≤ 16384) := Lib.hid (by
      have h1 := HLn.out
      have h2 := HLe.out
      have h3 := HVl.out
      have h4 := HLl.out
      have h5 := HLen.out
      rw [h3] at h2
      omega)
    have x0 := HX7.out.cell 0 rfl
    by_cases hA : f.kind = 0
    · have y2 : (f.kind == 0) = true := by simp [hA]
      have HK0 := Lib.hid hA
      clear hA
      rcases lnil L with hL | ⟨L', p, hL⟩
      · have y3 : ln = 0 := by rw [HLen.out, hL]; rfl
        subst y3
        have HPu : Hid (push (L.map (·.1)) f = L.map (·.1) ++ [f]) := Lib.hid (push_new (by rintro ⟨_, l, p, h, _⟩; rw [hL] at h; simp at h))
        clear hL
        have hal8 : Below w7.heap.size w7 (w7.alloc (.cells #[.int .i64 f.kind, .int .i64 f.id, .int .i64 f.at_, .int .i64 f.n, .int .i64 f.code, .bool f.fin, .slice fa.da f.data.length fa.dc, .slice fa.ca f.cid.length fa.cc, .slice fa.sa f.spans.length fa.sc, .int .i64 f.delay, .int .i64 f.e0, .int .i64 f.e1, .int .i64 f.e2] 34)) := alB w7 _
        obtain ⟨w8, hw8⟩ : ∃ w8, w8 = w7.alloc (.cells #[.int .i64 f.kind, .int .i64 f.id, .int .i64 f.at_, .int .i64 f.n, .int .i64 f.code, .bool f.fin, .slice fa.da f.data.length fa.dc, .slice fa.ca f.cid.length fa.cc, .slice fa.sa f.spans.length fa.sc, .int .i64 f.delay, .int .i64 f.e0, .int .i64 f.e1, .int .i64 f.e2] 34) := ⟨_, rfl⟩
        rw [← hw8] at hal8
        have hh8 : w8.heap[w7.heap.size]? = some (.cells (fcells f fa).toArray 34 (0, 0)) := by rw [hw8]; exact heap_alloc_new w7 _
        obtain ⟨a8, c8, w9, hr8, hrow9, hg9, hno9⟩ := run_app_fr ftyR (by decide) (by decide) (tyo := 45) (p := (f, fa)) (b := w7.heap.size) (HRow7.out.below hal8) hh8 (HFo7.out.below hal8) (by rw [← HLen.out]; exact Nat.le_trans HLe2.out (by decide)) (Nat.le_trans HB7.out.size hal8.size)
        have HRel : Hid (RDRel w g a c l R (.slice a8 (0 + 1) c8) w9) := Lib.hid (by
          rw [HLen.out]
          exact RDRel.app (HV7.out.below hal8) (HB7.out.trans (hal8.mono HB7.out.size)) HGa.out (HRow7.out.below hal8) HGl.out hrow9 hg9 hno9 HAl7.out HAk7.out.2 HR7.out HPu.out HLn.out HAk7.out.1 HPs.out HCk7.out)
        have HMe : Hid (l.length - atW w9 g < l.length - atW wr g) := Lib.hid (by
          obtain ⟨V9, _, _, _, _, hV9, _⟩ := HRel.out
          exact rdj7' HVr.out (HV7.out.below hal8) (Kept.of_grown hg9) (fun e => own_nty (HRow7.out.below hal8).row (HV7.out.below hal8).has (by decide) g e rfl) HAk7.out.1 (by rw [HAl7.out]))
        rw [← HLen.out] at hr8
        clear hal8 hh8 hrow9 hg9 hno9
        have g0 := HX7.out.cell 0 rfl
        have g1 := HX7.out.cell 1 rfl
        have g2 := HX7.out.cell 2 rfl
        have g3 := HX7.out.cell 3 rfl
        have g4 := HX7.out.cell 4 rfl
        have g5 := HX7.out.cell 5 rfl
        have g6 := HX7.out.cell 6 rfl
        have g7 := HX7.out.cell 7 rfl
        have g8 := HX7.out.cell 8 rfl
        have g9 := HX7.out.cell 9 rfl
        have g10 := HX7.out.cell 10 rfl
        have g11 := HX7.out.cell 11 rfl
        have g12 := HX7.out.cell 12 rfl
        clear x0
        rw [hw8] at hr8
        clear hw8
        go_wp2_with (at_builtin; refine Lib.wpList_append_run _ rfl _ _ _ _ rfl (.slice af 0 cf) _ rfl rfl _ _ hr8 ?_)
        go_roundw
        case rel => exact HRel.out
        case measure => exact HMe.out
      · have hln1 : ln = L'.length + 1 := by rw [HLen.out, hL]; simp
        obtain ⟨n1, hn1⟩ : ∃ n1, n1 = L'.length := ⟨_, rfl⟩
        rw [← hn1] at hln1
        obtain ⟨y3, y4, y5, y6, y7⟩ := dcj5 hln1 HLe2.out
        have hi : n1 < L.length := by rw [hL, hn1]; simp
        obtain ⟨s, hs, hcl, hfz, hnc, hcm⟩ := own_fr HRow7.out.row rfl (i := n1) hi
        have hLi : L[n1] = p := by subst hL; subst hn1; simp
        rw [hLi] at hcl
        have p0 : w7.cell? ⟨s, n1 * 13, none⟩ = some (.int .i64 p.1.kind) := hcl 0 (by decide)
        have p3 : w7.cell? ⟨s, n1 * 13 + 3, none⟩ = some (.int .i64 p.1.n) := hcl 3 (by decide)
        have pf := hfz (n1 * 13 + 3)
        have hnc' : ln ≤ cf := by rw [HLen.out]; exact hnc
        clear hcl hfz hi hLi hnc
        by_cases hB : p.1.kind = 0
        · have y8 : (p.1.kind == 0) = true := by simp [hB]
          obtain ⟨y9, y10⟩ := dcj6 (HPs.out p (by rw [hL]; simp) hB) (Nat.le_trans HLe.out (by rw [HVl.out]; exact HLl.out))
          have HRel : Hid (RDRel w g a c l R (.slice (some ⟨s, 0, none⟩) ln cf) (w7.setCell ⟨s, n1 * 13 + 3, none⟩ (.int .i64 (p.1.n + 1)))) := Lib.hid (by
            have h1 := HRow7.out
            rw [hs, hL] at h1
            rw [hln1, hn1]
            exact RDRel.old HV7.out HB7.out HGa.out h1 (HGl.out s ⟨_, hs, rfl⟩) rfl HAl7.out HAk7.out.2 (by rw [HR7.out, hL]) HK0.out hB (by have := HLn.out; rw [hL] at this; simpa using this) HAk7.out.1 (by rw [← hL]; exact HPs.out))
          have HMe : Hid (l.length - atW (w7.setCell ⟨s, n1 * 13 + 3, none⟩ (.int .i64 (p.1.n + 1))) g < l.length - atW wr g) := Lib.hid (by
            have hk := Kept.set w7 s (n1 * 13 + 3) (.int .i64 (p.1.n + 1))
            have hgs := HGl.out s ⟨_, hs, rfl⟩
            exact rdj7 HVr.out (HV7.out.kept hk (fun e => by omega) (fun ad ha e => by have := HGa.out ad ha; omega)) HAk7.out.1 (by rw [HAl7.out]))
          clear hB hL hln1 hn1
          subst hs
          go_wp2_with fail
          go_roundw
          case rel => exact HRel.out
          case measure => exact HMe.out
        · have y8 := onj11 hB
          have HPu : Hid (push (L.map (·.1)) f = L.map (·.1) ++ [f]) := Lib.hid (push_new (by
            rintro ⟨_, l, p', h, hp'⟩
            rw [hL, List.map_append] at h
            have h2 := List.append_inj_right' h rfl
            simp only [List.map_cons, List.map_nil, List.cons.injEq, and_true] at h2
            exact hB (by rw [h2]; exact hp')))
          clear hB hL hln1 hn1
          subst hs
          have hal8 : Below w7.heap.size w7 (w7.alloc (.cells #[.int .i64 f.kind, .int .i64 f.id, .int .i64 f.at_, .int .i64 f.n, .int .i64 f.code, .bool f.fin, .slice fa.da f.data.length fa.dc, .slice fa.ca f.cid.length fa.cc, .slice fa.sa f.spans.length fa.sc, .int .i64 f.delay, .int .i64 f.e0, .int .i64 f.e1, .int .i64 f.e2] 34)) := alB w7 _
          obtain ⟨w8, hw8⟩ : ∃ w8, w8 = w7.alloc (.cells #[.int .i64 f.kind, .int .i64 f.id, .int .i64 f.at_, .int .i64 f.n, .int .i64 f.code, .bool f.fin, .slice fa.da f.data.length fa.dc, .slice fa.ca f.cid.length fa.cc, .slice fa.sa f.spans.length fa.sc, .int .i64 f.delay, .int .i64 f.e0, .int .i64 f.e1, .int .i64 f.e2] 34) := ⟨_, rfl⟩
          rw [← hw8] at hal8
          have hh8 : w8.heap[w7.heap.size]? = some (.cells (fcells f fa).toArray 34 (0, 0)) := by rw [hw8]; exact heap_alloc_new w7 _
          obtain ⟨a8, c8, w9, hr8, hrow9, hg9, hno9⟩ := run_app_fr ftyR (by decide) (by decide) (tyo := 45) (p := (f, fa)) (b := w7.heap.size) (HRow7.out.below hal8) hh8 (HFo7.out.below hal8) (by rw [← HLen.out]; exact Nat.le_trans HLe2.out (by decide)) (Nat.le_trans HB7.out.size hal8.size)
          have HRel : Hid (RDRel w g a c l R (.slice a8 (ln + 1) c8) w9) := Lib.hid (by
            rw [HLen.out]
            exact RDRel.app (HV7.out.below hal8) (HB7.out.trans (hal8.mono HB7.out.size)) HGa.out (HRow7.out.below hal8) HGl.out hrow9 hg9 hno9 HAl7.out HAk7.out.2 HR7.out HPu.out HLn.out HAk7.out.1 HPs.out HCk7.out)
          have HMe : Hid (l.length - atW w9 g < l.length - atW wr g) := Lib.hid (by
            obtain ⟨V9, _, _, _, _, hV9, _⟩ := HRel.out
            exact rdj7' HVr.out (HV7.out.below hal8) (Kept.of_grown hg9) (fun e => own_nty (HRow7.out.below hal8).row (HV7.out.below hal8).has (by decide) g e rfl) HAk7.out.1 (by rw [HAl7.out]))
          rw [← HLen.out] at hr8
          clear hal8 hh8 hrow9 hg9 hno9
          have g0 := HX7.out.cell 0 rfl
          have g1 := HX7.out.cell 1 rfl
          have g2 := HX7.out.cell 2 rfl
          have g3 := HX7.out.cell 3 rfl
          have g4 := HX7.out.cell 4 rfl
          have g5 := HX7.out.cell 5 rfl
          have g6 := HX7.out.cell 6 rfl
          have g7 := HX7.out.cell 7 rfl
          have g8 := HX7.out.cell 8 rfl
          have g9 := HX7.out.cell 9 rfl
          have g10 := HX7.out.cell 10 rfl
          have g11 := HX7.out.cell 11 rfl
          have g12 := HX7.out.cell 12 rfl
          clear x0
          rw [hw8] at hr8
          clear hw8
          go_wp2_with (at_builtin; refine Lib.wpList_append_run _ rfl _ _ _ _ rfl (.slice (some ⟨s, 0, none⟩) ln cf) _ rfl rfl _ _ hr8 ?_)
          go_roundw
          case rel => exact HRel.out
          case measure => exact HMe.out
    · have y2 := onj11 hA
      have HPu : Hid (push (L.map (·.1)) f = L.map (·.1) ++ [f]) := Lib.hid (push_new (fun h => hA h.1))
      clear hA
      have hal8 : Below w7.heap.size w7 (w7.alloc (.cells #[.int .i64 f.kind, .int .i64 f.id, .int .i64 f.at_, .int .i64 f.n, .int .i64 f.code, .bool f.fin, .slice fa.da f.data.length fa.dc, .slice fa.ca f.cid.length fa.cc, .slice fa.sa f.spans.length fa.sc, .int .i64 f.delay, .int .i64 f.e0, .int .i64 f.e1, .int .i64 f.e2] 34)) := alB w7 _
      obtain ⟨w8, hw8⟩ : ∃ w8, w8 = w7.alloc (.cells #[.int .i64 f.kind, .int .i64 f.id, .int .i64 f.at_, .int .i64 f.n, .int .i64 f.code, .bool f.fin, .slice fa.da f.data.length fa.dc, .slice fa.ca f.cid.length fa.cc, .slice fa.sa f.spans.length fa.sc, .int .i64 f.delay, .int .i64 f.e0, .int .i64 f.e1, .int .i64 f.e2] 34) := ⟨_, rfl⟩
      rw [← hw8] at hal8
      have hh8 : w8.heap[w7.heap.size]? = some (.cells (fcells f fa).toArray 34 (0, 0)) := by rw [hw8]; exact heap_alloc_new w7 _
      obtain ⟨a8, c8, w9, hr8, hrow9, hg9, hno9⟩ := run_app_fr ftyR (by decide) (by decide) (tyo := 45) (p := (f, fa)) (b := w7.heap.size) (HRow7.out.below hal8) hh8 (HFo7.out.below hal8) (by rw [← HLen.out]; exact Nat.le_trans HLe2.out (by decide)) (Nat.le_trans HB7.out.size hal8.size)
      have HRel : Hid (RDRel w g a c l R (.slice a8 (ln + 1) c8) w9) := Lib.hid (by
        rw [HLen.out]
        exact RDRel.app (HV7.out.below hal8) (HB7.out.trans (hal8.mono HB7.out.size)) HGa.out (HRow7.out.below hal8) HGl.out hrow9 hg9 hno9 HAl7.out HAk7.out.2 HR7.out HPu.out HLn.out HAk7.out.1 HPs.out HCk7.out)
      have HMe : Hid (l.length - atW w9 g < l.length - atW wr g) := Lib.hid (by
        obtain ⟨V9, _, _, _, _, hV9, _⟩ := HRel.out
        exact rdj7' HVr.out (HV7.out.below hal8) (Kept.of_grown hg9) (fun e => own_nty (HRow7.out.below hal8).row (HV7.out.below hal8).has (by decide) g e rfl) HAk7.out.1 (by rw [HAl7.out]))
      rw [← HLen.out] at hr8
      clear hal8 hh8 hrow9 hg9 hno9
      have g0 := HX7.out.cell 0 rfl
      have g1 := HX7.out.cell 1 rfl
      have g2 := HX7.out.cell 2 rfl
      have g3 := HX7.out.cell 3 rfl
      have g4 := HX7.out.cell 4 rfl
      have g5 := HX7.out.cell 5 rfl
      have g6 := HX7.out.cell 6 rfl
      have g7 := HX7.out.cell 7 rfl
      have g8 := HX7.out.cell 8 rfl
      have g9 := HX7.out.cell 9 rfl
      have g10 := HX7.out.cell 10 rfl
      have g11 := HX7.out.cell 11 rfl
      have g12 := HX7.out.cell 12 rfl
      clear x0
      rw [hw8] at hr8
      clear hw8
      go_wp2_with (at_builtin; refine Lib.wpList_append_run _ rfl _ _ _ _ rfl (.slice af ln cf) _ rfl rfl _ _ hr8 ?_)
      go_roundw
      case rel => exact HRel.out
      case measure => exact HMe.out

end Go.Proofs.Ytppkilkfmclpkaa

/- Contract of frame's source: spans. No condition but the sizes. -/
import Derived.Test.YtppkilkfmclpkaaFrRev
import Derived.Test.YtppkilkfmclpkaaGrowS
namespace Go.Proofs.Ytppkilkfmclpkaa
open Go.RowKit

/-- a span appended to spans of one's own -/
theorem run_app_sn {B : Nat} {w : World} {tyo : TypeId} {a1 : Option Addr} {c1 : Nat} {l : List Sn} {b : Nat} {p : Sn} (hown : Sps w B a1 c1 l)
    (hrow : w.heap[b]? = some (.cells #[.int .i64 p.from_, .int .i64 p.to_] 53 (0, 0))) (hsz : l.length ≤ 1000000) (hBw : B ≤ w.heap.size) :
    ∃ a' c' w', (Builtin.append_ #[23, 23] tyo #[.slice a1 l.length c1, .slice (some ⟨b, 0, none⟩) 1 1]).run Try.prog w = .ok (.slice a' (l.length + 1) c') w' ∧
      Sps w' B a' c' (l ++ [p]) ∧ w.grownBy w' (Value.ownBlock (.slice a1 l.length c1)) ∧ NewOr w (.slice a1 l.length c1) (.slice a' (l.length + 1) c') := by
  obtain ⟨i, hi, h1, h2, h3⟩ := info_parts infoSpan
  have hcell : ∀ j u, (scells p)[j]? = some u → w.cell? ((⟨b, 0, none⟩ : Addr).add j) = some u := by
    intro j u hu
    rw [addr_add, Nat.zero_add, cell_of_row w b j _ _ _ hrow, ← hu]
    simp [scells]
  have e : sv (l ++ [p]) = sv l ++ scells p := by rw [sv_append]; simp [sv]
  obtain ⟨a', c', w', hr, ho, hg, hn⟩ := run_app_s (P := Try.prog) Try.underlying23 hi h1 h2 h3 rfl (by decide) (tyo := tyo) hown (by rfl) hcell (fun u hu => by simp [scells] at hu; rcases hu with rfl | rfl <;> rfl) (n2 := 1) (c2 := 1) (by decide) (by omega) (by unfold maxLen; omega) hBw
  refine ⟨a', c', w', hr, ?_, hg, hn⟩
  unfold Sps
  rw [e, List.length_append]
  exact ho
theorem own_own {w : World} {B B' e e' s s' : Nat} {v v' : Value} {n n' : Nat} {xs xs' : List Value} (h : w.ownsRow B e s v n xs) (h2 : w.ownsRow B' e' s' v' n' xs') (he : e ≠ e') : ∀ k, v.ownBlock = some k → ¬ v'.ownBlock = some k := by
  intro k hk hk2
  rcases h.2 with ⟨hv, _⟩ | ⟨g, cap, cur, hv, hB, hg, _⟩
  · rw [hv] at hk; cases hk
  · rcases h2.2 with ⟨hv2, _⟩ | ⟨g2, cap2, cur2, hv2, hB2, hg2, _⟩
    · rw [hv2] at hk2; cases hk2
    · rw [hv] at hk
      rw [hv2] at hk2
      simp only [Value.ownBlock, Option.some.injEq] at hk hk2
      rw [hk] at hg
      rw [hk2, hg] at hg2
      simp only [Option.some.injEq, Obj.cells.injEq] at hg2
      exact he hg2.2.1
theorem Sl.kept0 {X : Nat → Prop} {w w' : World} {a : Option Addr} {n cap : Nat} {xs : List Value} (h : Sl w a n cap xs) (hk : Kept X w w') (hx : 0 < n → ∀ ad, a = some ad → ¬ X ad.block) : Sl w' a n cap xs := by
  refine ⟨h.len, h.cap_le, h.cap_max, h.nil, fun hn => ?_⟩
  obtain ⟨b, off, rfl, hc⟩ := h.cells hn
  refine ⟨b, off, rfl, fun i hi => ?_⟩
  have h1 := hc i hi
  have hx' : xs[i]? = some (xs[i]'(by rw [h.len]; exact hi)) := List.getElem?_eq_getElem _
  rw [hx'] at h1 ⊢
  exact hk.cell h1 (hx hn ⟨b, off, none⟩ rfl)
theorem VB.kept0 {X : Nat → Prop} {w w' : World} {g : Nat} {V : Vr} {a : Option Addr} {c : Nat} (h : VB w g V a c) (hk : Kept X w w') (hg : ¬ X g) (hx : 0 < V.l.length → ∀ ad, a = some ad → ¬ X ad.block) : VB w' g V a c := ⟨h.has.kept hk hg, h.row.kept0 hk hx, h.ne, h.le⟩
theorem VB.lt {w : World} {g : Nat} {V : Vr} {a : Option Addr} {c : Nat} (h : VB w g V a c) (h0 : 0 < V.l.length) : ∀ ad, a = some ad → ad.block < w.heap.size := by
  intro ad ha
  obtain ⟨b, off, hab, hc⟩ := h.row.cells h0
  rw [hab] at ha
  cases ha
  have h1 := hc 0 h0
  have hx' : (bv V.l)[0]? = some ((bv V.l)[0]'(by rw [bv_length]; exact h0)) := List.getElem?_eq_getElem _
  rw [hx'] at h1
  exact World.block_lt_of_cell? _ _ h1
/-- a span appended to the frame's spans, and laid in its field -/
def SpanR (w : World) (B g q gf : Nat) (a : Option Addr) (c : Nat) (V : Vr) (f : Fm) (fa : FA) (x : Sn) (a' : Option Addr) (c' : Nat) (w' : World) : Prop :=
  w'.cell? ⟨gf, 8, none⟩ = some (.slice fa.sa f.spans.length fa.sc) ∧ w'.frozen? ⟨gf, 8, none⟩ = false ∧
  SG (w'.setCell ⟨gf, 8, none⟩ (.slice a' (f.spans.length + 1) c')) B g q gf a c V { f with spans := f.spans ++ [x] } { fa with sa := a', sc := c' } ∧
  Kept (fun k => k = g ∨ k = gf) w (w'.setCell ⟨gf, 8, none⟩ (.slice a' (f.spans.length + 1) c')) ∧ (∀ k, blk a' k → w.heap.size ≤ k)
theorem SG.span {w w1 : World} {B g q gf : Nat} {a : Option Addr} {c : Nat} {V : Vr} {f : Fm} {fa : FA} (h : SG w1 B g q gf a c V f fa) (hk : Kept (fun k => k = g ∨ k = gf) w w1) (hB : B ≤ w.heap.size) (hsa : ∀ k, blk fa.sa k → w.heap.size ≤ k) (hlt : 0 < V.l.length → ∀ ad, a = some ad → ad.block < w.heap.size)
    (hl : f.spans.length ≤ 1000000) (x : Sn) (tyo : TypeId) :
    ∃ a' c' w', (Builtin.append_ #[23, 23] tyo #[.slice fa.sa f.spans.length fa.sc, .slice (some ⟨w1.heap.size, 0, none⟩) 1 1]).run Try.prog (w1.alloc (.cells #[.int .i64 x.from_, .int .i64 x.to_] 53)) = .ok (.slice a' (f.spans.length + 1) c') w' ∧ SpanR w B g q gf a c V f fa x a' c' w' := by
  have hal : Below w1.heap.size w1 (w1.alloc (.cells #[.int .i64 x.from_, .int .i64 x.to_] 53)) := alB w1 _
  have h2 := h.below hal
  have hBw : B ≤ (w1.alloc (.cells #[.int .i64 x.from_, .int .i64 x.to_] 53)).heap.size := Nat.le_trans hB (Nat.le_trans hk.size hal.size)
  obtain ⟨a', c', w', hr, ho, hg, hn⟩ := run_app_sn (tyo := tyo) (p := x) (b := w1.heap.size) h2.sf.own.spans (heap_alloc_new w1 _) hl hBw
  refine ⟨a', c', w', hr, ?_⟩
  have hkg := Kept.of_grown hg
  have hrow : ∀ k, Value.ownBlock (.slice fa.sa f.spans.length fa.sc) = some k → blk fa.sa k := fun k hk => blk_own hk
  have hbox : Has w' gf 26 (fcells f fa) := h2.sf.box.kept hkg (fun e => own_nty h2.sf.own.spans h2.sf.box (by decide) gf e rfl)
  have hvb : VB w' g V a c := h2.sf.vb.kept0 hkg (fun e => own_nty h2.sf.own.spans h2.sf.vb.has (by decide) g e rfl) (fun h0 ad ha e => by
    have h3 := hlt h0 ad ha
    have h4 := hsa _ (hrow _ e)
    omega)
  have hsrc := h2.src.kept hkg (fun e => own_nty h2.sf.own.spans h2.src (by decide) q e rfl)
  have hdata := own_kept h2.sf.own.data hkg (fun k e => own_own h2.sf.own.data h2.sf.own.spans (by decide) k e)
  have hcid := own_kept h2.sf.own.cid hkg (fun k e => own_own h2.sf.own.cid h2.sf.own.spans (by decide) k e)
  have hks := Kept.set w' gf 8 (.slice a' (f.spans.length + 1) c')
  have hne := h.sf.ne_g
  have hnew : ∀ k, blk a' k → w.heap.size ≤ k := fun k hb => by
    rcases hn k (own_blk hb) with h3 | h3
    · exact hsa k (hrow k h3)
    · have := hk.size
      have := hal.size
      omega
  refine ⟨hbox.cell 8 rfl, hbox.free 8, ⟨⟨hvb.kept hks (fun e => hne e.symm) h.sf.ne, ?_, ⟨own_kept hdata hks (own_nty hdata hbox (by decide)), own_kept hcid hks (own_nty hcid hbox (by decide)), own_kept ho hks (own_nty ho hbox (by decide))⟩, h.sf.ne⟩, hsrc.kept hks (has_ne hsrc hbox (by decide))⟩, ?_, hnew⟩
  · have e : fcells { f with spans := f.spans ++ [x] } { fa with sa := a', sc := c' } = (fcells f fa).set 8 (.slice a' (f.spans.length + 1) c') := by
      show _ = _
      simp only [fcells, List.length_append, List.length_cons, List.length_nil]
      rfl
    rw [e]
    exact hbox.set 8 _
  · have hk1 := (hk.trans (Kept.of_below (X := fun k => k = g ∨ k = gf) hal) (fun _ _ h => h)).trans hkg (Y := fun k => Value.ownBlock (.slice fa.sa f.spans.length fa.sc) = some k) (fun k hk2 e => by
      have := hsa k (hrow k e)
      omega)
    exact hk1.trans hks (fun _ _ h => .inr h)
/-- the span of s + 1 numbers up to h -/
def sn1 (h s : Nat) : Sn := ⟨((h - s : Nat) : Int), (h : Int)⟩
/-- the spans of an ack, the last one first; m are to come -/
def spLoop (fd : Fm) : Nat → Nat → Nat → List Sn → Vr → Rs
  | 0, s, h, acc, V => if h < s then ⟨51, fzero, V⟩ else ⟨0, { fd with spans := (acc ++ [sn1 h s]).reverse }, V⟩
  | m + 1, s, h, acc, V => if h < s then ⟨51, fzero, V⟩ else nxN V fun gap V => if h - s < gap + 2 then ⟨51, fzero, V⟩ else nxN V fun s2 V => spLoop fd m s2 (h - s - (gap + 2)) (acc ++ [sn1 h s]) V
/-- an ack's items but its marks -/
def spsV (V : Vr) (f : Fm) : Rs := nxN V fun h V => nxN V fun d V => nxN V fun m V => if 64 ≤ m then ⟨51, fzero, V⟩ else nxN V fun s V => spLoop { f with delay := (d : Int) } m s h [] V

theorem spLoop_bad {fd : Fm} {m s h : Nat} {acc : List Sn} {V : Vr} (h0 : h < s) : spLoop fd m s h acc V = ⟨51, fzero, V⟩ := by cases m <;> simp [spLoop, h0]
theorem spLoop_end {fd : Fm} {s h : Nat} {acc : List Sn} {V : Vr} (h0 : ¬ h < s) : spLoop fd 0 s h acc V = ⟨0, { fd with spans := (acc ++ [sn1 h s]).reverse }, V⟩ := by simp [spLoop, h0]
theorem spLoop_more {fd : Fm} {m s h : Nat} {acc : List Sn} {V : Vr} (h0 : ¬ h < s) : spLoop fd (m + 1) s h acc V = nxN V fun gap V => if h - s < gap + 2 then ⟨51, fzero, V⟩ else nxN V fun s2 V => spLoop fd m s2 (h - s - (gap + 2)) (acc ++ [sn1 h s]) V := by
  show (if h < s then _ else _) = _
  rw [if_neg h0]
/-- what holds at the loop's head -/
def SpRel (w : World) (B g q gf : Nat) (a : Option Addr) (c : Nat) (V : Vr) (fd : Fm) (R : Rs) (hv mv sv : Value) (wr : World) : Prop :=
  ∃ (h m s : Nat) (Vr_ : Vr) (fr : Fm) (far : FA), hv = .int .i64 (h : Int) ∧ mv = .int .i64 (m : Int) ∧ sv = .int .i64 (s : Int) ∧ h < 4611686018427387904 ∧ s < 4611686018427387904 ∧ fr.spans.length + m ≤ 63 ∧
    SG wr B g q gf a c Vr_ fr far ∧ Kept (fun k => k = g ∨ k = gf) w wr ∧ Vr_.l = V.l ∧ (∀ k, blk far.sa k → w.heap.size ≤ k) ∧ fr = { fd with spans := fr.spans } ∧ R = spLoop fd m s h fr.spans Vr_
theorem rdw1 (h s d : Nat) (hh : h < 4611686018427387904) (hs : s < 4611686018427387904) (hd : h = s + d) : IntKind.i64.wrap ((h : Int) - (s : Int)) = (d : Int) ∧ RowKit.wrap64 ((h : Int) - (s : Int)) = (d : Int) := by
  rw [IntKind.wrap_i64]; unfold RowKit.wrap64; omega
theorem rdw2 (d gap d2 : Nat) (hh : d < 4611686018427387904) (hs : gap < 4611686018427387904) (hd : d = gap + 2 + d2) : IntKind.i64.wrap ((d : Int) - ((gap : Int) + 2)) = (d2 : Int) ∧ RowKit.wrap64 ((d : Int) - ((gap : Int) + 2)) = (d2 : Int) := by
  rw [IntKind.wrap_i64]; unfold RowKit.wrap64; omega
theorem rdw3 (d : Nat) (hh : d < 4611686018427387904) : IntKind.i64.wrap ((d : Int) - 2) = (d : Int) - 2 ∧ RowKit.wrap64 ((d : Int) - 2) = (d : Int) - 2 ∧ IntKind.i64.wrap ((d : Int) + 2) = (d : Int) + 2 ∧ RowKit.wrap64 ((d : Int) + 2) = (d : Int) + 2 := by
  rw [IntKind.wrap_i64, IntKind.wrap_i64]; unfold RowKit.wrap64; omega
theorem rdw4 (m m1 : Nat) (hm : m = m1 + 1) (h : m ≤ 63) : IntKind.i64.wrap ((m : Int) - 1) = (m1 : Int) ∧ RowKit.wrap64 ((m : Int) - 1) = (m1 : Int) ∧ ((m : Int) == 0) = false := by
  refine ⟨?_, ?_, ?_⟩
  · rw [IntKind.wrap_i64]; omega
  · unfold RowKit.wrap64; omega
  · simp; omega

theorem rdw5 (d : Nat) (hh : d < 4611686018427387904) : ∃ z : Int, z = (d : Int) - 2 ∧ IntKind.i64.wrap ((d : Int) - 2) = z ∧ RowKit.wrap64 ((d : Int) - 2) = z := ⟨_, rfl, (rdw3 d hh).1, (rdw3 d hh).2.1⟩
theorem rdw6 (d : Nat) (hh : d < 4611686018427387904) : ∃ z : Int, z = (d : Int) + 2 ∧ IntKind.i64.wrap ((d : Int) + 2) = z ∧ RowKit.wrap64 ((d : Int) + 2) = z := ⟨_, rfl, (rdw3 d hh).2.2.1, (rdw3 d hh).2.2.2⟩
theorem rdx1 {h s : Nat} (c : h < s) : (h : Int) < (s : Int) := by omega
theorem rdx2 {h s : Nat} (c : ¬ h < s) (hh : h < 4611686018427387904) : ¬ (h : Int) < (s : Int) ∧ ∃ d, h = s + d ∧ h - s = d ∧ d < 4611686018427387904 := ⟨by omega, h - s, by omega, rfl, by omega⟩
theorem rdx3 {m n k : Nat} (h : n + m ≤ k) : m ≤ k ∧ n ≤ k := by omega
theorem rdx4 {d g : Nat} (c : d < g + 2) : (d : Int) - 2 < (g : Int) := by omega
theorem rdx5 {d g : Nat} (c : ¬ d < g + 2) (hh : d < 4611686018427387904) : ¬ (d : Int) - 2 < (g : Int) ∧ ∃ d2, d = g + 2 + d2 ∧ d - (g + 2) = d2 ∧ d2 < 4611686018427387904 := ⟨by omega, d - (g + 2), by omega, rfl, by omega⟩
theorem rdx6 {l : List Sn} {x : Sn} {m m1 : Nat} (hm : m = m1 + 1) (h : l.length + m ≤ 63) : (l ++ [x]).length + m1 ≤ 63 := by simp; omega
theorem rdx7 {m m1 : Nat} (hm : m = m1 + 1) : (intOf (Value.int .i64 (m1 : Int))).toNat < (intOf (Value.int .i64 (m : Int))).toNat := by simp only [intOf]; omega
theorem rdx8 {m : Nat} (h : ¬ m = 0) : ∃ m1, m = m1 + 1 := ⟨m - 1, by omega⟩
theorem SF.rev {w w1 w2 : World} {B g gf : Nat} {a : Option Addr} {c : Nat} {V V0 : Vr} {f : Fm} {fa : FA} {e : Ending} (h : SF w1 B g gf a c V f fa) (hk : Kept (fun k => k = g ∨ k = gf) w w1) (hsa : ∀ k, blk fa.sa k → w.heap.size ≤ k) (hV : V.l = V0.l) (hlt : 0 < V0.l.length → ∀ ad, a = some ad → ad.block < w.heap.size) (hr : RevR w1 B fa.sa fa.sc f.spans e w2) :
    e = .returned (.tuple #[]) ∧ SF w2 B g gf a c V { f with spans := f.spans.reverse } fa ∧ Kept (fun k => k = g ∨ k = gf) w w2 := by
  obtain ⟨he, ho, hk2⟩ := hr
  have hne : ∀ k, blk fa.sa k → Value.ownBlock (.slice fa.sa f.spans.length fa.sc) = some k := fun k hb => own_blk hb
  have hbox := h.box.kept hk2 (fun e => own_nty h.own.spans h.box (by decide) gf (hne _ e) rfl)
  refine ⟨he, ⟨h.vb.kept0 hk2 (fun e => own_nty h.own.spans h.vb.has (by decide) g (hne _ e) rfl) (fun h0 ad ha e => ?_), ?_, ⟨own_kept h.own.data hk2 (fun k e e2 => own_own h.own.data h.own.spans (by decide) k e (hne _ e2)), own_kept h.own.cid hk2 (fun k e e2 => own_own h.own.cid h.own.spans (by decide) k e (hne _ e2)), ho⟩, h.ne⟩, hk.trans hk2 (fun k hk3 e => by have := hsa k e; omega)⟩
  · have h1 := hlt (by rw [← hV]; exact h0) ad ha
    have h2 := hsa _ e
    omega
  · have e : fcells { f with spans := f.spans.reverse } fa = fcells f fa := by simp [fcells]
    rw [e]; exact hbox
set_option maxRecDepth 100000 in
set_option maxHeartbeats 4000000 in
theorem sspans_any (w : World) {B g gf : Nat} {a : Option Addr} {c : Nat} {V : Vr} {f : Fm} {fa : FA} (h : SF w B g gf a c V f fa) (hB : B ≤ w.heap.size) (hs : f.spans = []) (ha : fa.sa = none) :
    Calls Try.prog 64 #[.agg #[.pointer (some ⟨g, 0, none⟩)], .pointer (some ⟨gf, 0, none⟩)] w (SrcF w B g gf a c (spsV V f)) := by
  have HG := Lib.hid (SG.new h)
  have HK := Lib.hid (kept_first (w := w) (g := g) (gf := gf) (.cells #[.pointer (some ⟨g, 0, none⟩)] 72))
  have HB := Lib.hid hB
  have HLt : Hid (0 < V.l.length → ∀ ad, a = some ad → ad.block < w.heap.size) := Lib.hid h.vb.lt
  have HS := Lib.hid hs
  have HA := Lib.hid ha
  obtain ⟨q, hq⟩ : ∃ q, q = w.heap.size := ⟨_, rfl⟩
  obtain ⟨w1, hw1⟩ : ∃ w1, w1 = w.alloc (.cells #[.pointer (some ⟨g, 0, none⟩)] 72) := ⟨_, rfl⟩
  rw [← hq, ← hw1] at HG
  rw [← hw1] at HK
  obtain ⟨R, hR⟩ : ∃ R, R = spsV V f := ⟨_, rfl⟩
  rw [← hR]
  have HN := Lib.hid (num_step HG.out HK.out (k := fun h V => nxN V fun d V => nxN V fun m V => if 64 ≤ m then ⟨51, fzero, V⟩ else nxN V fun s V => spLoop { f with delay := (d : Int) } m s h [] V) hR)
  clear h hB hR hs ha
  have s0 := HG.out.src.cell 0 rfl
  go_enter Try.func64, Try.ntmps64
  go_upto_region 1 with fail
  rw [← hw1, ← hq]
  clear hw1 hq
  go_wp2_with fail
  refine HN.out.mono ?_
  rintro e w2 (⟨rfl, hbad⟩ | ⟨hh, V2, rfl, hhl, hG2, hK2, hR2, hl2, hf2⟩)
  · exact ⟨rfl, hbad⟩
  have HG2 := Lib.hid hG2
  have HN2 := Lib.hid (num_step hG2 hK2 hR2)
  have HL2 := Lib.hid hl2
  have HHl := Lib.hid hhl
  have s1 := hG2.src.cell 0 rfl
  clear hG2 hK2 hR2 hl2 hf2 s0 hhl
  go_wp2_with fail
  refine HN2.out.mono ?_
  rintro e w3 (⟨rfl, hbad⟩ | ⟨d, V3, rfl, hd, hG3, hK3, hR3, hl3, hf3⟩)
  · exact ⟨rfl, hbad⟩
  have c3 := hG3.sf.box.cell 9 rfl
  have b3 := hG3.sf.box.free 9
  have HG4 := Lib.hid (hG3.put (f' := { f with delay := (d : Int) }) (fa' := fa) 9 (.int .i64 (d : Int)) rfl ⟨hG3.sf.own.data, hG3.sf.own.cid, hG3.sf.own.spans⟩)
  have HK4 := Lib.hid (kept_put hK3 9 (.int .i64 (d : Int)))
  have HR4 := Lib.hid hR3
  have HL4 : Hid (V3.l = V.l) := Lib.hid (hl3.trans HL2.out)
  clear hG3 hK3 hR3 hl3 hf3 s1 hd
  go_upto_region 3 with fail
  obtain ⟨w4, hw4⟩ : ∃ w4, w4 = w3.setCell ⟨gf, 9, none⟩ (.int .i64 (d : Int)) := ⟨_, rfl⟩
  rw [← hw4] at HG4 HK4 ⊢
  clear hw4 c3 b3
  obtain ⟨fd, hfd⟩ : ∃ fd : Fm, fd = { f with delay := (d : Int) } := ⟨_, rfl⟩
  have HFs : Hid (fd.spans = []) := Lib.hid (by rw [hfd]; exact HS.out)
  rw [← hfd] at HG4
  have HN4 := Lib.hid (num_step HG4.out HK4.out (R := R) (k := fun m V => if 64 ≤ m then ⟨51, fzero, V⟩ else nxN V fun s V => spLoop fd m s hh [] V) (by rw [hfd]; exact HR4.out))
  clear hfd HR4
  have s4 := HG4.out.src.cell 0 rfl
  go_wp2_with fail
  refine HN4.out.mono ?_
  rintro e w5 (⟨rfl, hbad⟩ | ⟨m, V5, rfl, hm, hG5, hK5, hR5, hl5, hf5⟩)
  · exact ⟨rfl, hbad⟩
  have HL5 : Hid (V5.l = V.l) := Lib.hid (hl5.trans HL4.out)
  dsimp only at hR5
  by_cases hm64 : 64 ≤ m
  · rw [if_pos hm64] at hR5
    have hmi : (64 : Int) ≤ (m : Int) := by omega
    have HE : Hid (SrcF w B g gf a c R (.panicked (brk 51)) w5) := Lib.hid (by rw [hR5]; exact SrcF.bad51 hK5 hG5.sf)
    clear hG5 hK5 hR5 hl5 hf5 s4 hm hm64
    go_wp2_with fail
    exact ⟨rfl, HE.out⟩
  have hmi : ¬ (64 : Int) ≤ (m : Int) := by omega
  rw [if_neg hm64] at hR5
  have HM : Hid (m ≤ 63) := Lib.hid (by omega)
  have s5 := hG5.src.cell 0 rfl
  have HN5 := Lib.hid (num_step hG5 hK5 hR5)
  clear hG5 hK5 hR5 hl5 hf5 s4 hm hm64
  go_wp2_with fail
  refine HN5.out.mono ?_
  rintro e w6 (⟨rfl, hbad⟩ | ⟨s, V6, rfl, hs, hG6, hK6, hR6, hl6, hf6⟩)
  · exact ⟨rfl, hbad⟩
  have HStart : Hid (SpRel w B g q gf a c V fd R (.int .i64 (hh : Int)) (.int .i64 (m : Int)) (.int .i64 (s : Int)) w6) := Lib.hid ⟨hh, m, s, V6, fd, fa, rfl, rfl, rfl, HHl.out, hs, by rw [HFs.out]; have := HM.out; simpa using this, hG6, hK6, hl6.trans HL5.out, (fun k hb => by obtain ⟨ad, h1, _⟩ := hb; rw [HA.out] at h1; cases h1), rfl, by rw [HFs.out]; exact hR6⟩
  clear hG6 hK6 hR6 hl6 hf6 s5 hs hmi
  go_wp2_with fail
  go_loopw [4, 5, 6] (fun hv mv sv wr => SpRel w B g q gf a c V fd R hv mv sv wr) (fun _ mv _ _ => (intOf mv).toNat)
  case atStart => exact HStart.out
  case round =>
    obtain ⟨h, m, s, Vr_, fr, far, rfl, rfl, rfl, hhl, hsl, hfm, hG, hK, hVl, hsa, hfr, hRr⟩ := hrel
    by_cases hlt : h < s
    · have hi : (h : Int) < (s : Int) := by omega
      have HE : Hid (SrcF w B g gf a c R (.panicked (brk 51)) wr) := Lib.hid (by rw [hRr, spLoop_bad hlt]; exact SrcF.bad51 hK hG.sf)
      clear hG hK hVl hsa hfr hRr hhl hsl hfm hlt
      go_wp2_with fail
      exact ⟨rfl, HE.out⟩
    obtain ⟨hi, d1, hd1, hds, hd1l⟩ := rdx2 hlt hhl
    obtain ⟨y1, y2⟩ := rdw1 h s d1 hhl hsl hd1
    have HD1 := Lib.hid hd1l
    clear hd1l
    have c8 := hG.sf.box.cell 8 rfl
    have s0 := hG.src.cell 0 rfl
    obtain ⟨a', c', w8, hr8, hc8, hb8, hG9, hK9, hnew⟩ := hG.span hK HB.out hsa (by rw [hVl]; exact HLt.out) (Nat.le_trans (rdx3 hfm).2 (by decide)) (sn1 h s) 23
    have ex : sn1 h s = ⟨(d1 : Int), (h : Int)⟩ := by rw [← hds]; rfl
    have HX := Lib.hid ex
    rw [ex] at hr8
    dsimp only at hr8
    obtain ⟨n8, hn8⟩ : ∃ n8, n8 = fr.spans.length := ⟨_, rfl⟩
    have HN8 := Lib.hid hn8
    rw [← hn8] at c8 hr8 hc8 hG9 hK9
    have HG9 := Lib.hid hG9
    have HK9 := Lib.hid hK9
    have HNw := Lib.hid hnew
    have HFm := Lib.hid hfm
    have HFr := Lib.hid hfr
    have HVl := Lib.hid hVl
    have HLtN := Lib.hid hlt
    have HDs := Lib.hid hds
    have HRr := Lib.hid hRr
    clear hG hK hVl hsa hfr hRr hhl hsl hfm hlt hd1 hds hG9 hK9 hnew ex hn8
    obtain ⟨sa, hsa⟩ : ∃ sa, sa = far.sa := ⟨_, rfl⟩
    obtain ⟨sc, hsc⟩ : ∃ sc, sc = far.sc := ⟨_, rfl⟩
    rw [← hsa, ← hsc] at c8 hr8 hc8
    clear hsa hsc
    go_upto_region 10 with (at_builtin; refine Lib.wpList_append_run _ rfl _ _ _ _ rfl (.slice sa n8 sc) _ rfl rfl _ _ hr8 ?_)
    obtain ⟨w9, hw9⟩ : ∃ w9, w9 = w8.setCell ⟨gf, 8, none⟩ (.slice a' (n8 + 1) c') := ⟨_, rfl⟩
    rw [← hw9] at HG9 HK9 ⊢
    clear hw9 hc8 hb8 hr8 c8 s0
    obtain ⟨f9, hf9⟩ : ∃ f9 : Fm, f9 = { fr with spans := fr.spans ++ [sn1 h s] } := ⟨_, rfl⟩
    obtain ⟨fa9, hfa9⟩ : ∃ fa9 : FA, fa9 = { far with sa := a', sc := c' } := ⟨_, rfl⟩
    have HF9 : Hid (f9 = { fd with spans := fr.spans ++ [sn1 h s] }) := Lib.hid (by rw [hf9, HFr.out])
    have HF9s : Hid (f9.spans = fr.spans ++ [sn1 h s]) := Lib.hid (by rw [hf9])
    rw [← hf9, ← hfa9] at HG9
    have HFa9 : Hid (∀ k, blk fa9.sa k → w.heap.size ≤ k) := Lib.hid (by rw [hfa9]; exact HNw.out)
    clear hf9 hfa9
    have s9 := HG9.out.src.cell 0 rfl
    by_cases hm0 : m = 0
    · subst hm0
      have HE : Hid (R = ⟨0, { fd with spans := (fr.spans ++ [sn1 h s]).reverse }, Vr_⟩) := Lib.hid (by rw [HRr.out, spLoop_end HLtN.out])
      clear y1 y2
      have c9 := HG9.out.sf.box.cell 8 rfl
      have b9 := HG9.out.sf.box.free 8
      have HRv := Lib.hid (rev_any w9 HG9.out.sf.own.spans)
      obtain ⟨n9, hn9⟩ : ∃ n9, n9 = f9.spans.length := ⟨_, rfl⟩
      rw [← hn9] at c9 HRv
      clear hn9
      go_wp2_with fail
      refine HRv.out.mono ?_
      rintro e w10 hr
      obtain ⟨rfl, h10, hk10⟩ := SF.rev HG9.out.sf HK9.out HFa9.out HVl.out HLt.out hr
      have HE2 : Hid (SrcF w B g gf a c R (.returned (.tuple #[])) w10) := Lib.hid (by
        rw [HE.out]
        have e : ({ fd with spans := (fr.spans ++ [sn1 h s]).reverse } : Fm) = { f9 with spans := f9.spans.reverse } := by rw [HF9.out]
        rw [e]
        exact SrcF.good hk10 h10)
      clear h10 hk10 hr c9 b9 s9
      go_wp2
      go_end0
      exact HE2.out
    obtain ⟨m1, hm1⟩ := rdx8 hm0
    obtain ⟨y3, y4, y5⟩ := rdw4 m m1 hm1 (rdx3 HFm.out).1
    have HN9 := Lib.hid (num_step HG9.out HK9.out (R := R) (k := fun gap V => if h - s < gap + 2 then ⟨51, fzero, V⟩ else nxN V fun s2 V => spLoop fd m1 s2 (h - s - (gap + 2)) (fr.spans ++ [sn1 h s]) V) (by rw [HRr.out, hm1, spLoop_more HLtN.out]))
    have HM1 := Lib.hid hm1
    clear hm1 hm0
    go_wp2_with fail
    refine HN9.out.mono ?_
    rintro e w10 (⟨rfl, hbad⟩ | ⟨gap, V10, rfl, hgl, hG10, hK10, hR10, hl10, hf10⟩)
    · exact ⟨rfl, hbad⟩
    dsimp only at hR10
    rw [HDs.out] at hR10
    obtain ⟨zd, hzd, y6, y7⟩ := rdw5 d1 HD1.out
    obtain ⟨zg, hzg, y8, y9⟩ := rdw6 gap hgl
    have HZd := Lib.hid hzd
    have HZg := Lib.hid hzg
    clear hzd hzg
    by_cases hgp : d1 < gap + 2
    · rw [if_pos hgp] at hR10
      have hgi : zd < (gap : Int) := by rw [HZd.out]; exact rdx4 hgp
      have HE : Hid (SrcF w B g gf a c R (.panicked (brk 51)) w10) := Lib.hid (by rw [hR10]; exact SrcF.bad51 hK10 hG10.sf)
      clear hG10 hK10 hR10 hl10 hf10 hgl hgp s9
      go_wp2_with fail
      exact ⟨rfl, HE.out⟩
    rw [if_neg hgp] at hR10
    obtain ⟨hgi, d2, hd2, hd2', hd2l⟩ := rdx5 hgp HD1.out
    rw [← HZd.out] at hgi
    rw [hd2'] at hR10
    obtain ⟨y10, y11⟩ := rdw2 d1 gap d2 HD1.out hgl hd2
    rw [← HZg.out] at y10 y11
    have HD2 := Lib.hid hd2l
    clear hd2l
    have HV10 : Hid (V10.l = V.l) := Lib.hid (hl10.trans HVl.out)
    have s10 := hG10.src.cell 0 rfl
    have HN10 := Lib.hid (num_step hG10 hK10 hR10)
    clear hG10 hK10 hR10 hl10 hf10 hgl hgp s9 hd2 hd2'
    go_wp2_with fail
    refine HN10.out.mono ?_
    rintro e w11 (⟨rfl, hbad⟩ | ⟨s2, V11, rfl, hsl, hG11, hK11, hR11, hl11, hf11⟩)
    · exact ⟨rfl, hbad⟩
    have HRel : Hid (SpRel w B g q gf a c V fd R (.int .i64 (d2 : Int)) (.int .i64 (m1 : Int)) (.int .i64 (s2 : Int)) w11) := Lib.hid ⟨d2, m1, s2, V11, f9, fa9, rfl, rfl, rfl, HD2.out, hsl, by rw [HF9s.out]; exact rdx6 HM1.out HFm.out, hG11, hK11, hl11.trans HV10.out, HFa9.out, by rw [HF9.out], by rw [HF9s.out]; exact hR11⟩
    clear hG11 hK11 hR11 hl11 hf11 hsl s10
    go_wp2_with fail
    go_roundw
    case rel => exact HRel.out
    case measure => exact rdx7 HM1.out
end Go.Proofs.Ytppkilkfmclpkaa

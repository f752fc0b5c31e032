/- Contract of frame.Decode (printed by gen_frdec.py). No condition but the sizes. -/
import Derived.Test.YtppkilkfmclpkaaFrDecV
import Derived.Test.YtppkilkfmclpkaaFrRow
namespace Go.Proofs.Ytppkilkfmclpkaa
open Go.RowKit

theorem one_chk {V : Vr} (h : (oneV V).err = 0) : chkF (oneV V).f = 0 := by
  unfold oneV at h ⊢
  have e0 := nxN_ok h
  rw [e0] at h ⊢
  unfold oneBody at h ⊢
  split at h
  · cases h
  · rename_i h1
    rw [if_neg h1]
    split at h
    · cases h
    · rename_i h2
      rw [if_neg h2]
      unfold one2 at h ⊢
      split at h
      · rename_i h3
        rw [if_pos h3]
        split at h
        · rename_i h4
          rw [if_pos h4]; exact h4
        · cases h
      · rename_i h3
        exact absurd h h3
theorem chk_pad {f : Fm} (h : chkF f = 0) (hk : f.kind = 0) : 1 ≤ f.n ∧ f.n ≤ 16384 := by
  unfold chkF at h
  split at h
  · cases h
  · split at h
    · cases h
    · split at h
      · cases h
      · rename_i h1
        simp only [rightV, hk] at h1
        simpa using h1
def atW (w : World) (g : Nat) : Nat := match w.cell? ⟨g, 1, none⟩ with | some (.int _ z) => z.toNat | _ => 0
theorem atW_of {w : World} {g : Nat} {V : Vr} {a : Option Addr} {c : Nat} (h : VB w g V a c) : atW w g = V.at_ := by
  unfold atW
  rw [h.has.cell 1 rfl]
  simp
/-- the frames, the place, the error -/
def DecR (w : World) (r : List Fm × Nat × Int) (e : Ending) (w' : World) : Prop :=
  ∃ a c L, e = .returned (.tuple #[.slice a L.length c, .int .i64 (r.2.1 : Int), .int .i64 r.2.2]) ∧ FRow 26 w' w.heap.size a c L ∧ L.map (·.1) = r.1 ∧ Below w.heap.size w w'
/-- what holds at the loop's head -/
def DRel (w : World) (g q : Nat) (ga : Option Addr) (gc : Nat) (l : List UInt8) (R : List Fm × Nat × Int) (v : Value) (wr : World) : Prop :=
  ∃ (V : Vr) (af : Option Addr) (cf : Nat) (L : List (Fm × FA)), v = .slice af L.length cf ∧ VB wr g V ga gc ∧ FRow 26 wr w.heap.size af cf L ∧ Below w.heap.size w wr ∧ Has wr q 72 [.pointer (some ⟨g, 0, none⟩)] ∧
    V.l = l ∧ V.fault = 0 ∧ R = decL l.length V (L.map (·.1)) ∧ L.length ≤ V.at_ ∧ (∀ p ∈ L, p.1.kind = 0 → 0 ≤ p.1.n ∧ p.1.n ≤ 16384 + (V.at_ : Int)) ∧ (∀ k, blk af k → g < k)
theorem dcj1 {n k : Nat} (h : n = k) (hk : k ≤ 16384) (h0 : ¬ k = 0) : ¬ (16384 : Int) < (n : Int) ∧ ((n : Int) == 0) = false := by
  subst h; refine ⟨by omega, by simp; omega⟩
theorem dcj2 {n : Nat} (h : 16384 < n) : (16384 : Int) < (n : Int) := by omega
theorem dcj3 {n : Nat} (h : ¬ n = 0) : (0 : Int) < (n : Int) := by omega
theorem dcj4 {n : Nat} (h : n = 0) : ¬ (0 : Int) < (n : Int) := by omega
theorem dcj5 {n m : Nat} (h : n = m + 1) (h2 : n ≤ 16384) : (0 : Int) < (n : Int) ∧ IntKind.i64.wrap ((n : Int) - 1) = (m : Int) ∧ RowKit.wrap64 ((n : Int) - 1) = (m : Int) ∧ (m : Int) < (n : Int) ∧ m < n := by
  rw [IntKind.wrap_i64]; unfold RowKit.wrap64; omega
theorem dcj6 {x : Int} {t : Nat} (h : 0 ≤ x ∧ x ≤ 16384 + (t : Int)) (ht : t ≤ 16384) : IntKind.i64.wrap (x + 1) = x + 1 ∧ RowKit.wrap64 (x + 1) = x + 1 := by
  rw [IntKind.wrap_i64]; unfold RowKit.wrap64; omega
theorem dcj7 {w1 w2 : World} {g n : Nat} {V V2 : Vr} {a : Option Addr} {c : Nat} (h1 : VB w1 g V a c) (h2 : VB w2 g V2 a c) (hlt : V.at_ < V2.at_) (hn : V2.l.length = n) : n - atW w2 g < n - atW w1 g := by
  rw [atW_of h1, atW_of h2]
  have := h2.le
  omega
theorem lnil (L : List (Fm × FA)) : L = [] ∨ ∃ L' p, L = L' ++ [p] := by
  rcases List.eq_nil_or_concat L with h | ⟨l, p, h⟩
  · exact .inl h
  · exact .inr ⟨l, p, by simpa using h⟩
theorem dcj7' {w1 w2 w3 : World} {g n : Nat} {X : Nat → Prop} {V V2 : Vr} {a : Option Addr} {c : Nat} (h1 : VB w1 g V a c) (h2 : VB w2 g V2 a c) (hk : Kept X w2 w3) (hx : ¬ X g) (hlt : V.at_ < V2.at_) (hn : V2.l.length = n) : n - atW w3 g < n - atW w1 g := by
  have e : atW w3 g = V2.at_ := by
    unfold atW
    rw [(h2.has.kept hk hx).cell 1 rfl]
    simp
  rw [atW_of h1, e]
  have := h2.le
  omega
theorem push_new {acc : List Fm} {f : Fm} (h : ¬ (f.kind = 0 ∧ ∃ l p, acc = l ++ [p] ∧ p.kind = 0)) : push acc f = acc ++ [f] := by
  unfold push
  by_cases hk : f.kind = 0
  · rw [if_pos hk]
    cases hl : acc.getLast? with
    | none => rfl
    | some p =>
      simp only
      obtain ⟨l, rfl⟩ := List.getLast?_eq_some_iff.1 hl
      rw [if_neg (fun hp => h ⟨hk, l, p, rfl, hp⟩)]
  · rw [if_neg hk]
theorem push_old {l : List Fm} {p f : Fm} (hk : f.kind = 0) (hp : p.kind = 0) : push (l ++ [p]) f = l ++ [{ p with n := p.n + 1 }] := by
  unfold push
  rw [if_pos hk]
  simp [hp]
/-- the frame's row and the reader at what is new -/
theorem DRel.app {w w1 w2 : World} {g q : Nat} {ga : Option Addr} {gc : Nat} {l : List UInt8} {R : List Fm × Nat × Int} {V V0 : Vr} {af : Option Addr} {cf : Nat} {L : List (Fm × FA)} {f : Fm} {fa : FA} {a' : Option Addr} {c' : Nat}
    (hV : VB w1 g V ga gc) (hb : Below w.heap.size w w1) (hs : Has w1 q 72 [.pointer (some ⟨g, 0, none⟩)]) (hga : ∀ ad, ga = some ad → ad.block < g) (hrow : FRow 26 w1 w.heap.size af cf L) (hgl : ∀ k, blk af k → g < k)
    (hr : FRow 26 w2 w.heap.size a' c' (L ++ [(f, fa)])) (hg : w1.grownBy w2 (Value.ownBlock (.slice af L.length cf))) (hno : NewOr w1 (.slice af L.length cf) (.slice a' (L.length + 1) c'))
    (hl : V.l = l) (hf : V.fault = 0) (hR : R = decL l.length V (push (L.map (·.1)) f)) (hp : push (L.map (·.1)) f = L.map (·.1) ++ [f]) (hn : L.length ≤ V0.at_) (hat : V0.at_ < V.at_) (hps : ∀ p ∈ L, p.1.kind = 0 → 0 ≤ p.1.n ∧ p.1.n ≤ 16384 + (V0.at_ : Int)) (hck : chkF f = 0) :
    DRel w g q ga gc l R (.slice a' (L.length + 1) c') w2 := by
  have hk := Kept.of_grown hg
  refine ⟨V, a', c', L ++ [(f, fa)], by simp, hV.kept hk (fun e => own_nty hrow.row hV.has (by decide) g e rfl) (fun ad ha e => by have := hgl _ (blk_own e); have := hga ad ha; omega), hr, ?_, hs.kept hk (fun e => own_nty hrow.row hs (by decide) q e rfl), hl, hf, by rw [hR, hp]; simp, by simp; omega, ?_, fun k hb => ?_⟩
  · refine hb.grown hg hb.size (fun k hk => ?_)
    exact (ownsRow_ge hrow.row k (blk_own hk)).1
  · intro p hp2 hp0
    rcases List.mem_append.1 hp2 with h | h
    · have := hps p h hp0; omega
    · rw [List.mem_singleton.1 h] at hp0 ⊢
      have := chk_pad hck hp0
      simp only
      omega
  · rcases hno k (own_blk hb) with h | h
    · exact hgl k (blk_own h)
    · have := hV.has.lt; omega

/-- the last padding is one longer -/
theorem DRel.old {w w1 w2 : World} {g q s : Nat} {ga : Option Addr} {gc : Nat} {l : List UInt8} {R : List Fm × Nat × Int} {V V0 : Vr} {cf : Nat} {L : List (Fm × FA)} {p : Fm × FA} {f : Fm}
    (hV : VB w1 g V ga gc) (hb : Below w.heap.size w w1) (hs : Has w1 q 72 [.pointer (some ⟨g, 0, none⟩)]) (hga : ∀ ad, ga = some ad → ad.block < g) (hrow : FRow 26 w1 w.heap.size (some ⟨s, 0, none⟩) cf (L ++ [p])) (hgl : g < s)
    (hw : w2 = w1.setCell ⟨s, L.length * 13 + 3, none⟩ (.int .i64 (p.1.n + 1)))
    (hl : V.l = l) (hf : V.fault = 0) (hR : R = decL l.length V (push ((L ++ [p]).map (·.1)) f)) (hk0 : f.kind = 0) (hp0 : p.1.kind = 0) (hn : L.length + 1 ≤ V0.at_) (hat : V0.at_ < V.at_) (hps : ∀ q ∈ L ++ [p], q.1.kind = 0 → 0 ≤ q.1.n ∧ q.1.n ≤ 16384 + (V0.at_ : Int)) :
    DRel w g q ga gc l R (.slice (some ⟨s, 0, none⟩) (L.length + 1) cf) w2 := by
  have hk := Kept.set w1 s (L.length * 13 + 3) (.int .i64 (p.1.n + 1))
  rw [← hw] at hk
  have hblk : Value.ownBlock (.slice (some ⟨s, 0, none⟩) (L ++ [p]).length cf) = some s := rfl
  refine ⟨V, some ⟨s, 0, none⟩, cf, L ++ [({ p.1 with n := p.1.n + 1 }, p.2)], by simp, hV.kept hk (fun e => by omega) (fun ad ha e => by have := hga ad ha; omega), ?_, ?_, hs.kept hk (fun e => own_nty hrow.row hs (by decide) s hblk e.symm), hl, hf, ?_, by simp; omega, ?_, fun k hb => ?_⟩
  · rw [hw]
    exact hrow.last (p.1.n + 1) (by decide) (by decide)
  · exact hb.trans (hk.below hb.size (fun k e => by rw [e]; exact (ownsRow_ge hrow.row s ⟨_, rfl, rfl⟩).1))
  · have e : push ((L ++ [p]).map (fun x : Fm × FA => x.1)) f = (L ++ [({ p.1 with n := p.1.n + 1 }, p.2)]).map (fun x : Fm × FA => x.1) := by
      rw [List.map_append, List.map_append]
      exact push_old hk0 hp0
    rw [hR, e]
  · intro q hq hq0
    rcases List.mem_append.1 hq with h | h
    · have := hps q (List.mem_append_left _ h) hq0; omega
    · rw [List.mem_singleton.1 h]
      have := hps p (List.mem_append_right _ (List.mem_singleton.2 rfl)) hp0
      simp only
      omega
  · obtain ⟨ad, h1, h2⟩ := hb
    cases h1
    have h2 : s = k := h2
    omega

set_option maxRecDepth 100000 in
set_option maxHeartbeats 4000000 in
theorem decode_any (w : World) {a : Option Addr} {n c : Nat} {l : List UInt8} (h : Sl w a n c (bv l)) : Calls Try.prog 20 #[.slice a n c] w (DecR w (decV l)) := by
  have hl := h.byte
  have hcap := h.cap_le
  have hcm := h.cap_max
  by_cases hbig : 16384 < l.length
  · have y1 := dcj2 (show 16384 < n by omega)
    have HE : Hid (DecR w (decV l) (.returned (.tuple #[.slice none 0 0, .int .i64 0, .int .i64 52])) w) := Lib.hid (by
      unfold decV
      rw [if_pos hbig]
      exact ⟨none, 0, [], rfl, FRow.nil _ _ _, rfl, Below.refl _ _⟩)
    clear h hl hbig
    go_enter Try.func20, Try.ntmps20
    go_wp2
    go_ret3
    exact HE.out
  by_cases h0 : l.length = 0
  · have y1 : n = 0 := by omega
    subst y1
    have HE : Hid (DecR w (decV l) (.returned (.tuple #[.slice none 0 0, .int .i64 0, .int .i64 12])) w) := Lib.hid (by
      unfold decV
      rw [if_neg hbig, if_pos h0]
      exact ⟨none, 0, [], rfl, FRow.nil _ _ _, rfl, Below.refl _ _⟩)
    clear h hl hbig
    go_enter Try.func20, Try.ntmps20
    go_wp2
    go_ret3
    exact HE.out
  obtain ⟨y1, y2⟩ := dcj1 (n := n) (k := l.length) hl.symm (by omega) h0
  obtain ⟨R, hR⟩ : ∃ R, R = decV l := ⟨_, rfl⟩
  rw [← hR]
  unfold decV at hR
  rw [if_neg hbig, if_neg h0] at hR
  have HR := Lib.hid hR
  have HLl : Hid (l.length ≤ 16384) := Lib.hid (by omega)
  have HO := Lib.hid (open_any w h (by omega))
  clear h hl hbig h0 hR
  go_enter Try.func20, Try.ntmps20
  go_wp2_with fail
  refine HO.out.mono ?_
  rintro e w2 ⟨g, ga, gc, rfl, hV, hgw, hga, hb2⟩
  have HV := Lib.hid hV
  have HGw := Lib.hid hgw
  have HGa := Lib.hid (fun ad h => (hga ad h).2)
  have HB2 := Lib.hid hb2
  clear hV hgw hga hb2
  go_upto_region 6 with fail
  obtain ⟨q, hq⟩ : ∃ q, q = w2.heap.size := ⟨_, rfl⟩
  obtain ⟨w3, hw3⟩ : ∃ w3, w3 = w2.alloc (.cells #[.pointer (some ⟨g, 0, none⟩)] 72) := ⟨_, rfl⟩
  rw [← hq, ← hw3]
  have hal : Below w2.heap.size w2 w3 := by rw [hw3]; exact alB w2 _
  have HStart : Hid (DRel w g q ga gc l R (.slice none 0 0) w3) := Lib.hid ⟨⟨l, 0, 0⟩, none, 0, [], rfl, HV.out.below hal, FRow.nil _ _ _, HB2.out.trans (hal.mono HB2.out.size), by rw [hw3, hq]; exact Has.new _ _ _, rfl, rfl, HR.out, Nat.zero_le _, (fun p hp => by cases hp), (fun k hb => by obtain ⟨ad, h1, _⟩ := hb; cases h1)⟩
  clear hw3 hq hal y1 y2 hcap hcm
  go_loopw [2] (fun v wr => DRel w g q ga gc l R v wr) (fun _ wr => l.length - atW wr g)
  case atStart => exact HStart.out
  case round =>
    obtain ⟨V, af, cf, L, rfl, hV, hrow, hb, hsrc, hVl, hVf, hRr, hLn, hps, hgl⟩ := hrel
    have HVr := Lib.hid hV
    have HRow := Lib.hid hrow
    have HBr := Lib.hid hb
    have HSrc := Lib.hid hsrc
    have HVl := Lib.hid hVl
    have HVf := Lib.hid hVf
    have HRr := Lib.hid hRr
    have HLn := Lib.hid hLn
    have HPs := Lib.hid hps
    have HGl := Lib.hid hgl
    have HLe := Lib.hid hV.le
    have HLf := Lib.hid (left_any wr hV)
    have s0 := hsrc.cell 0 rfl
    clear hV hrow hb hsrc hVl hVf hRr hLn hps hgl
    obtain ⟨ll, hll⟩ : ∃ ll, ll = leftV V := ⟨_, rfl⟩
    rw [← hll] at HLf
    by_cases hl0 : ll = 0
    · have y1 := dcj4 hl0
      have HE : Hid (R = (L.map (·.1), 0, 0)) := Lib.hid (by rw [HRr.out]; exact decL_end (hll.symm.trans hl0))
      clear hl0 hll
      obtain ⟨ln, hln⟩ : ∃ ln, ln = L.length := ⟨_, rfl⟩
      rw [← hln]
      have HLen := Lib.hid hln
      clear hln
      go_wp2_with fail
      refine HLf.out.mono ?_
      rintro e w4 ⟨rfl, hb4⟩
      have HB4 := Lib.hid hb4
      clear hb4
      go_wp2
      go_ret3
      rw [HE.out]
      exact ⟨af, cf, L, by rw [← HLen.out]; rfl, HRow.out.below HB4.out, rfl, HBr.out.trans (HB4.out.mono HBr.out.size)⟩
    have y1 := dcj3 hl0
    have HL0 : Hid (¬ leftV V = 0) := Lib.hid (by rw [← hll]; exact hl0)
    clear hl0 hll
    obtain ⟨ln, hln⟩ : ∃ ln, ln = L.length := ⟨_, rfl⟩
    rw [← hln]
    have HLen := Lib.hid hln
    clear hln
    go_wp2_with fail
    refine HLf.out.mono ?_
    rintro e w4 ⟨rfl, hb4⟩
    have HV4 := Lib.hid (HVr.out.below hb4)
    have HRow4 := Lib.hid (HRow.out.below hb4)
    have HB4 := Lib.hid (HBr.out.trans (hb4.mono HBr.out.size))
    have HSrc4 : Hid (Has w4 q 72 [.pointer (some ⟨g, 0, none⟩)]) := Lib.hid (HSrc.out.kept (X := none') (Kept.of_below hb4) (fun h => h))
    have HAt := Lib.hid (at_any w4 HV4.out)
    clear hb4 s0
    have s0 := HSrc4.out.cell 0 rfl
    go_wp2_with fail
    refine HAt.out.mono ?_
    rintro e w5 ⟨rfl, hb5⟩
    have HV5 := Lib.hid (HV4.out.below hb5)
    have HRow5 := Lib.hid (HRow4.out.below hb5)
    have HB5 := Lib.hid (HB4.out.trans (hb5.mono HB4.out.size))
    have HSrc5 : Hid (Has w5 q 72 [.pointer (some ⟨g, 0, none⟩)]) := Lib.hid (HSrc4.out.kept (X := none') (Kept.of_below hb5) (fun h => h))
    have HOne := Lib.hid (sone_any w5 HV5.out (by rw [HVl.out]; exact Nat.le_trans HLl.out (by decide)) (fun ad ha => Nat.lt_trans (HGa.out ad ha) HV5.out.has.lt))
    obtain ⟨hadl, hadk⟩ := oneV_adv V
    obtain ⟨r, hr⟩ : ∃ r, r = oneV V := ⟨_, rfl⟩
    rw [← hr] at HOne
    have HRn : Hid (r.err = 0 → R = decL l.length r.V (push (L.map (·.1)) r.f)) := Lib.hid (fun he => by rw [HRr.out, hr]; rw [hr] at he; exact decL_go HVf.out (by rw [HVl.out]; omega) HL0.out he)
    have HRb : Hid (¬ r.err = 0 → R = ([], V.at_, r.err)) := Lib.hid (fun he => by rw [HRr.out, hr]; rw [hr] at he; exact decL_bad HVf.out (by rw [HVl.out]; omega) HL0.out he)
    have HCk : Hid (r.err = 0 → chkF r.f = 0) := Lib.hid (fun he => by rw [hr] at he ⊢; exact one_chk he)
    have HAk : Hid (r.V.l = l ∧ (r.err = 0 → V.at_ < r.V.at_ ∧ r.V.fault = 0)) := Lib.hid (by rw [hr]; exact ⟨hadl.trans HVl.out, hadk⟩)
    obtain ⟨rerr, rf, rV⟩ := r
    simp only at HRn HRb HCk HAk
    clear hb5 s0 hr hadl hadk
    have s0 := HSrc5.out.cell 0 rfl
    go_wp2_with fail
    refine HOne.out.mono ?_
    rintro e w6 ⟨f, fa, he, hk6, hV6, hok6⟩
    obtain rfl : e = .returned (.tuple #[.agg #[.int .i64 f.kind, .int .i64 f.id, .int .i64 f.at_, .int .i64 f.n, .int .i64 f.code, .bool f.fin, .slice fa.da f.data.length fa.dc, .slice fa.ca f.cid.length fa.cc, .slice fa.sa f.spans.length fa.sc, .int .i64 f.delay, .int .i64 f.e0, .int .i64 f.e1, .int .i64 f.e2], .int .i64 rerr]) := he
    have HV6 := Lib.hid hV6
    have HRow6 := Lib.hid (HRow5.out.kept HV5.out.has hk6 (by decide) (by decide) (by decide))
    have HB6 : Hid (Below w.heap.size w w6) := Lib.hid (HB5.out.trans (hk6.below HB5.out.size (fun k e => by rw [e]; exact HGw.out)))
    have HSrc6 : Hid (Has w6 q 72 [.pointer (some ⟨g, 0, none⟩)]) := Lib.hid (HSrc5.out.kept hk6 (has_ne HSrc5.out HV5.out.has (by decide)))
    have HOk6 : Hid (rerr = 0 → f = rf ∧ FOwn w6 w.heap.size f fa) := Lib.hid (fun he => ⟨(hok6 he).1, (hok6 he).2.mono HB5.out.size⟩)
    clear hk6 hV6 hok6 s0
    by_cases he0 : ¬ rerr = 0
    · have y2 := onj11 he0
      have HE := Lib.hid (HRb.out he0)
      have HOut : Hid (DecR w R (.returned (.tuple #[.slice none 0 0, .int .i64 (V.at_ : Int), .int .i64 rerr])) (w6.alloc (.cells #[.int .i64 f.kind, .int .i64 f.id, .int .i64 f.at_, .int .i64 f.n, .int .i64 f.code, .bool f.fin, .slice fa.da f.data.length fa.dc, .slice fa.ca f.cid.length fa.cc, .slice fa.sa f.spans.length fa.sc, .int .i64 f.delay, .int .i64 f.e0, .int .i64 f.e1, .int .i64 f.e2] 26))) := Lib.hid (by
        rw [HE.out]
        exact ⟨none, 0, [], rfl, FRow.nil _ _ _, rfl, HB6.out.trans ((alB w6 _).mono HB6.out.size)⟩)
      clear he0
      go_wp2
      go_ret3
      exact HOut.out
    have he1 : rerr = 0 := Decidable.not_not.1 he0
    subst he1
    obtain ⟨hff, hfo⟩ := HOk6.out rfl
    subst hff
    have HFo := Lib.hid hfo
    have HR7 := Lib.hid (HRn.out rfl)
    have HCk7 := Lib.hid (HCk.out rfl)
    have HAk7 := Lib.hid (HAk.out.2 rfl)
    have HAl7 := Lib.hid HAk.out.1
    clear hfo he0
    obtain ⟨w7, hw7⟩ : ∃ w7, w7 = w6.alloc (.cells #[.int .i64 f.kind, .int .i64 f.id, .int .i64 f.at_, .int .i64 f.n, .int .i64 f.code, .bool f.fin, .slice fa.da f.data.length fa.dc, .slice fa.ca f.cid.length fa.cc, .slice fa.sa f.spans.length fa.sc, .int .i64 f.delay, .int .i64 f.e0, .int .i64 f.e1, .int .i64 f.e2] 26) := ⟨_, rfl⟩
    obtain ⟨xb, hxb⟩ : ∃ xb, xb = w6.heap.size := ⟨_, rfl⟩
    have hal7 : Below w6.heap.size w6 w7 := by rw [hw7]; exact alB w6 _
    have HX7 : Hid (Has w7 xb 26 (fcells f fa)) := Lib.hid (by rw [hw7, hxb]; exact Has.new _ _ _)
    have HV7 := Lib.hid (HV6.out.below hal7)
    have HRow7 := Lib.hid (HRow6.out.below hal7)
    have HB7 := Lib.hid (HB6.out.trans (hal7.mono HB6.out.size))
    have HSrc7 : Hid (Has w7 q 72 [.pointer (some ⟨g, 0, none⟩)]) := Lib.hid (HSrc6.out.kept (X := none') (Kept.of_below hal7) (fun h => h))
    have HFo7 := Lib.hid (HFo.out.below hal7)
    clear hal7
    go_upto_region 11 with fail
    rw [← hw7, ← hxb]
    clear hw7 hxb
    have HLe2 : Hid (ln ≤ 16384) := Lib.hid (by
      have h1 := HLn.out
      have h2 := HLe.out
      have h3 := HVl.out
      have h4 := HLl.out
      have h5 := HLen.out
      rw [h3] at h2
      omega)
    have x0 := HX7.out.cell 0 rfl
    by_cases hA : f.kind = 0
    · have y2 : (f.kind == 0) = true := by simp [hA]
      have HK0 := Lib.hid hA
      clear hA
      rcases lnil L with hL | ⟨L', p, hL⟩
      · have y3 : ln = 0 := by rw [HLen.out, hL]; rfl
        subst y3
        have HPu : Hid (push (L.map (·.1)) f = L.map (·.1) ++ [f]) := Lib.hid (push_new (by rintro ⟨_, l, p, h, _⟩; rw [hL] at h; simp at h))
        clear hL
        have hal8 : Below w7.heap.size w7 (w7.alloc (.cells #[.int .i64 f.kind, .int .i64 f.id, .int .i64 f.at_, .int .i64 f.n, .int .i64 f.code, .bool f.fin, .slice fa.da f.data.length fa.dc, .slice fa.ca f.cid.length fa.cc, .slice fa.sa f.spans.length fa.sc, .int .i64 f.delay, .int .i64 f.e0, .int .i64 f.e1, .int .i64 f.e2] 26)) := alB w7 _
        obtain ⟨w8, hw8⟩ : ∃ w8, w8 = w7.alloc (.cells #[.int .i64 f.kind, .int .i64 f.id, .int .i64 f.at_, .int .i64 f.n, .int .i64 f.code, .bool f.fin, .slice fa.da f.data.length fa.dc, .slice fa.ca f.cid.length fa.cc, .slice fa.sa f.spans.length fa.sc, .int .i64 f.delay, .int .i64 f.e0, .int .i64 f.e1, .int .i64 f.e2] 26) := ⟨_, rfl⟩
        rw [← hw8] at hal8
        have hh8 : w8.heap[w7.heap.size]? = some (.cells (fcells f fa).toArray 26 (0, 0)) := by rw [hw8]; exact heap_alloc_new w7 _
        obtain ⟨a8, c8, w9, hr8, hrow9, hg9, hno9⟩ := run_app_fr ftyP (by decide) (by decide) (tyo := 42) (p := (f, fa)) (b := w7.heap.size) (HRow7.out.below hal8) hh8 (HFo7.out.below hal8) (by rw [← HLen.out]; exact Nat.le_trans HLe2.out (by decide)) (Nat.le_trans HB7.out.size hal8.size)
        have HRel : Hid (DRel w g q ga gc l R (.slice a8 (0 + 1) c8) w9) := Lib.hid (by
          rw [HLen.out]
          exact DRel.app (HV7.out.below hal8) (HB7.out.trans (hal8.mono HB7.out.size)) (HSrc7.out.kept (X := none') (Kept.of_below hal8) (fun h => h)) HGa.out (HRow7.out.below hal8) HGl.out hrow9 hg9 hno9 HAl7.out HAk7.out.2 HR7.out HPu.out HLn.out HAk7.out.1 HPs.out HCk7.out)
        have HMe : Hid (l.length - atW w9 g < l.length - atW wr g) := Lib.hid (by
          obtain ⟨V9, _, _, _, _, hV9, _⟩ := HRel.out
          exact dcj7' HVr.out (HV7.out.below hal8) (Kept.of_grown hg9) (fun e => own_nty (HRow7.out.below hal8).row (HV7.out.below hal8).has (by decide) g e rfl) HAk7.out.1 (by rw [HAl7.out]))
        rw [← HLen.out] at hr8
        clear hal8 hh8 hrow9 hg9 hno9
        have g0 := HX7.out.cell 0 rfl
        have g1 := HX7.out.cell 1 rfl
        have g2 := HX7.out.cell 2 rfl
        have g3 := HX7.out.cell 3 rfl
        have g4 := HX7.out.cell 4 rfl
        have g5 := HX7.out.cell 5 rfl
        have g6 := HX7.out.cell 6 rfl
        have g7 := HX7.out.cell 7 rfl
        have g8 := HX7.out.cell 8 rfl
        have g9 := HX7.out.cell 9 rfl
        have g10 := HX7.out.cell 10 rfl
        have g11 := HX7.out.cell 11 rfl
        have g12 := HX7.out.cell 12 rfl
        clear x0
        rw [hw8] at hr8
        clear hw8
        go_wp2_with (at_builtin; refine Lib.wpList_append_run _ rfl _ _ _ _ rfl (.slice af 0 cf) _ rfl rfl _ _ hr8 ?_)
        go_roundw
        case rel => exact HRel.out
        case measure => exact HMe.out
      · have hln1 : ln = L'.length + 1 := by rw [HLen.out, hL]; simp
        obtain ⟨n1, hn1⟩ : ∃ n1, n1 = L'.length := ⟨_, rfl⟩
        rw [← hn1] at hln1
        obtain ⟨y3, y4, y5, y6, y7⟩ := dcj5 hln1 HLe2.out
        have hi : n1 < L.length := by rw [hL, hn1]; simp
        obtain ⟨s, hs, hcl, hfz, hnc, hcm⟩ := own_fr HRow7.out.row rfl (i := n1) hi
        have hLi : L[n1] = p := by subst hL; subst hn1; simp
        rw [hLi] at hcl
        have p0 : w7.cell? ⟨s, n1 * 13, none⟩ = some (.int .i64 p.1.kind) := hcl 0 (by decide)
        have p3 : w7.cell? ⟨s, n1 * 13 + 3, none⟩ = some (.int .i64 p.1.n) := hcl 3 (by decide)
        have pf := hfz (n1 * 13 + 3)
        have hnc' : ln ≤ cf := by rw [HLen.out]; exact hnc
        clear hcl hfz hi hLi hnc
        by_cases hB : p.1.kind = 0
        · have y8 : (p.1.kind == 0) = true := by simp [hB]
          obtain ⟨y9, y10⟩ := dcj6 (HPs.out p (by rw [hL]; simp) hB) (Nat.le_trans HLe.out (by rw [HVl.out]; exact HLl.out))
          have HRel : Hid (DRel w g q ga gc l R (.slice (some ⟨s, 0, none⟩) ln cf) (w7.setCell ⟨s, n1 * 13 + 3, none⟩ (.int .i64 (p.1.n + 1)))) := Lib.hid (by
            have h1 := HRow7.out
            rw [hs, hL] at h1
            rw [hln1, hn1]
            exact DRel.old HV7.out HB7.out HSrc7.out HGa.out h1 (HGl.out s ⟨_, hs, rfl⟩) rfl HAl7.out HAk7.out.2 (by rw [HR7.out, hL]) HK0.out hB (by have := HLn.out; rw [hL] at this; simpa using this) HAk7.out.1 (by rw [← hL]; exact HPs.out))
          have HMe : Hid (l.length - atW (w7.setCell ⟨s, n1 * 13 + 3, none⟩ (.int .i64 (p.1.n + 1))) g < l.length - atW wr g) := Lib.hid (by
            have hk := Kept.set w7 s (n1 * 13 + 3) (.int .i64 (p.1.n + 1))
            have hgs := HGl.out s ⟨_, hs, rfl⟩
            exact dcj7 HVr.out (HV7.out.kept hk (fun e => by omega) (fun ad ha e => by have := HGa.out ad ha; omega)) HAk7.out.1 (by rw [HAl7.out]))
          clear hB hL hln1 hn1
          subst hs
          go_wp2_with fail
          go_roundw
          case rel => exact HRel.out
          case measure => exact HMe.out
        · have y8 := onj11 hB
          have HPu : Hid (push (L.map (·.1)) f = L.map (·.1) ++ [f]) := Lib.hid (push_new (by
            rintro ⟨_, l, p', h, hp'⟩
            rw [hL, List.map_append] at h
            have h2 := List.append_inj_right' h rfl
            simp only [List.map_cons, List.map_nil, List.cons.injEq, and_true] at h2
            exact hB (by rw [h2]; exact hp')))
          clear hB hL hln1 hn1
          subst hs
          have hal8 : Below w7.heap.size w7 (w7.alloc (.cells #[.int .i64 f.kind, .int .i64 f.id, .int .i64 f.at_, .int .i64 f.n, .int .i64 f.code, .bool f.fin, .slice fa.da f.data.length fa.dc, .slice fa.ca f.cid.length fa.cc, .slice fa.sa f.spans.length fa.sc, .int .i64 f.delay, .int .i64 f.e0, .int .i64 f.e1, .int .i64 f.e2] 26)) := alB w7 _
          obtain ⟨w8, hw8⟩ : ∃ w8, w8 = w7.alloc (.cells #[.int .i64 f.kind, .int .i64 f.id, .int .i64 f.at_, .int .i64 f.n, .int .i64 f.code, .bool f.fin, .slice fa.da f.data.length fa.dc, .slice fa.ca f.cid.length fa.cc, .slice fa.sa f.spans.length fa.sc, .int .i64 f.delay, .int .i64 f.e0, .int .i64 f.e1, .int .i64 f.e2] 26) := ⟨_, rfl⟩
          rw [← hw8] at hal8
          have hh8 : w8.heap[w7.heap.size]? = some (.cells (fcells f fa).toArray 26 (0, 0)) := by rw [hw8]; exact heap_alloc_new w7 _
          obtain ⟨a8, c8, w9, hr8, hrow9, hg9, hno9⟩ := run_app_fr ftyP (by decide) (by decide) (tyo := 42) (p := (f, fa)) (b := w7.heap.size) (HRow7.out.below hal8) hh8 (HFo7.out.below hal8) (by rw [← HLen.out]; exact Nat.le_trans HLe2.out (by decide)) (Nat.le_trans HB7.out.size hal8.size)
          have HRel : Hid (DRel w g q ga gc l R (.slice a8 (ln + 1) c8) w9) := Lib.hid (by
            rw [HLen.out]
            exact DRel.app (HV7.out.below hal8) (HB7.out.trans (hal8.mono HB7.out.size)) (HSrc7.out.kept (X := none') (Kept.of_below hal8) (fun h => h)) HGa.out (HRow7.out.below hal8) HGl.out hrow9 hg9 hno9 HAl7.out HAk7.out.2 HR7.out HPu.out HLn.out HAk7.out.1 HPs.out HCk7.out)
          have HMe : Hid (l.length - atW w9 g < l.length - atW wr g) := Lib.hid (by
            obtain ⟨V9, _, _, _, _, hV9, _⟩ := HRel.out
            exact dcj7' HVr.out (HV7.out.below hal8) (Kept.of_grown hg9) (fun e => own_nty (HRow7.out.below hal8).row (HV7.out.below hal8).has (by decide) g e rfl) HAk7.out.1 (by rw [HAl7.out]))
          rw [← HLen.out] at hr8
          clear hal8 hh8 hrow9 hg9 hno9
          have g0 := HX7.out.cell 0 rfl
          have g1 := HX7.out.cell 1 rfl
          have g2 := HX7.out.cell 2 rfl
          have g3 := HX7.out.cell 3 rfl
          have g4 := HX7.out.cell 4 rfl
          have g5 := HX7.out.cell 5 rfl
          have g6 := HX7.out.cell 6 rfl
          have g7 := HX7.out.cell 7 rfl
          have g8 := HX7.out.cell 8 rfl
          have g9 := HX7.out.cell 9 rfl
          have g10 := HX7.out.cell 10 rfl
          have g11 := HX7.out.cell 11 rfl
          have g12 := HX7.out.cell 12 rfl
          clear x0
          rw [hw8] at hr8
          clear hw8
          go_wp2_with (at_builtin; refine Lib.wpList_append_run _ rfl _ _ _ _ rfl (.slice (some ⟨s, 0, none⟩) ln cf) _ rfl rfl _ _ hr8 ?_)
          go_roundw
          case rel => exact HRel.out
          case measure => exact HMe.out
    · have y2 := onj11 hA
      have HPu : Hid (push (L.map (·.1)) f = L.map (·.1) ++ [f]) := Lib.hid (push_new (fun h => hA h.1))
      clear hA
      have hal8 : Below w7.heap.size w7 (w7.alloc (.cells #[.int .i64 f.kind, .int .i64 f.id, .int .i64 f.at_, .int .i64 f.n, .int .i64 f.code, .bool f.fin, .slice fa.da f.data.length fa.dc, .slice fa.ca f.cid.length fa.cc, .slice fa.sa f.spans.length fa.sc, .int .i64 f.delay, .int .i64 f.e0, .int .i64 f.e1, .int .i64 f.e2] 26)) := alB w7 _
      obtain ⟨w8, hw8⟩ : ∃ w8, w8 = w7.alloc (.cells #[.int .i64 f.kind, .int .i64 f.id, .int .i64 f.at_, .int .i64 f.n, .int .i64 f.code, .bool f.fin, .slice fa.da f.data.length fa.dc, .slice fa.ca f.cid.length fa.cc, .slice fa.sa f.spans.length fa.sc, .int .i64 f.delay, .int .i64 f.e0, .int .i64 f.e1, .int .i64 f.e2] 26) := ⟨_, rfl⟩
      rw [← hw8] at hal8
      have hh8 : w8.heap[w7.heap.size]? = some (.cells (fcells f fa).toArray 26 (0, 0)) := by rw [hw8]; exact heap_alloc_new w7 _
      obtain ⟨a8, c8, w9, hr8, hrow9, hg9, hno9⟩ := run_app_fr ftyP (by decide) (by decide) (tyo := 42) (p := (f, fa)) (b := w7.heap.size) (HRow7.out.below hal8) hh8 (HFo7.out.below hal8) (by rw [← HLen.out]; exact Nat.le_trans HLe2.out (by decide)) (Nat.le_trans HB7.out.size hal8.size)
      have HRel : Hid (DRel w g q ga gc l R (.slice a8 (ln + 1) c8) w9) := Lib.hid (by
        rw [HLen.out]
        exact DRel.app (HV7.out.below hal8) (HB7.out.trans (hal8.mono HB7.out.size)) (HSrc7.out.kept (X := none') (Kept.of_below hal8) (fun h => h)) HGa.out (HRow7.out.below hal8) HGl.out hrow9 hg9 hno9 HAl7.out HAk7.out.2 HR7.out HPu.out HLn.out HAk7.out.1 HPs.out HCk7.out)
      have HMe : Hid (l.length - atW w9 g < l.length - atW wr g) := Lib.hid (by
        obtain ⟨V9, _, _, _, _, hV9, _⟩ := HRel.out
        exact dcj7' HVr.out (HV7.out.below hal8) (Kept.of_grown hg9) (fun e => own_nty (HRow7.out.below hal8).row (HV7.out.below hal8).has (by decide) g e rfl) HAk7.out.1 (by rw [HAl7.out]))
      rw [← HLen.out] at hr8
      clear hal8 hh8 hrow9 hg9 hno9
      have g0 := HX7.out.cell 0 rfl
      have g1 := HX7.out.cell 1 rfl
      have g2 := HX7.out.cell 2 rfl
      have g3 := HX7.out.cell 3 rfl
      have g4 := HX7.out.cell 4 rfl
      have g5 := HX7.out.cell 5 rfl
      have g6 := HX7.out.cell 6 rfl
      have g7 := HX7.out.cell 7 rfl
      have g8 := HX7.out.cell 8 rfl
      have g9 := HX7.out.cell 9 rfl
      have g10 := HX7.out.cell 10 rfl
      have g11 := HX7.out.cell 11 rfl
      have g12 := HX7.out.cell 12 rfl
      clear x0
      rw [hw8] at hr8
      clear hw8
      go_wp2_with (at_builtin; refine Lib.wpList_append_run _ rfl _ _ _ _ rfl (.slice af ln cf) _ rfl rfl _ _ hr8 ?_)
      go_roundw
      case rel => exact HRel.out
      case measure => exact HMe.out

end Go.Proofs.Ytppkilkfmclpkaa

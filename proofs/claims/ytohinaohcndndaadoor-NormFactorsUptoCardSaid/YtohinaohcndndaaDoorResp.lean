/- norm.Response: what a client is told of a response. Conditions: the sizes, the table of powers of ten. -/
import Derived.Test.YtohinaohcndndaaDoorRResp
import Derived.Test.YtohinaohcndndaaDoorNmHead
import Derived.Test.YtohinaohcndndaaDoorMixIn
namespace Go.Proofs.YtohinaohcndndaaDoor
open Go.RowKit Go.Shelf

attribute [local go_sem] Oper.semAt_some

/-! ### marks of ranges over functions that a loop leaves behind -/
def mkD (D : Nat) : Deferred := { target := .collected D, args := #[] }
/-- the marks' blocks: shut lists, each its own -/
def Marks (B : Nat) (Ds : List Nat) (W : World) : Prop := Ds.Nodup ∧ ∀ D ∈ Ds, B ≤ D ∧ W.heap[D]? = some (.deferred (some []))
theorem Marks.kept {B : Nat} {Ds : List Nat} {X : Nat → Prop} {W W' : World} (h : Marks B Ds W) (hk : Kept X W W') (hX : ∀ D ∈ Ds, ¬ X D) : Marks B Ds W' :=
  ⟨h.1, fun D hD => ⟨(h.2 D hD).1, by rw [hk.block D (Array.getElem?_eq_some_iff.1 (h.2 D hD).2).1 (hX D hD)]; exact (h.2 D hD).2⟩⟩
theorem Marks.below {B : Nat} {Ds : List Nat} {W W' : World} (h : Marks B Ds W) (hb : Below W.heap.size W W') : Marks B Ds W' := h.kept (Kept.of_below (X := none') hb) (fun _ _ h => h)
theorem Marks.lt {B : Nat} {Ds : List Nat} {W : World} (h : Marks B Ds W) : ∀ D ∈ Ds, D < W.heap.size := fun D hD => (Array.getElem?_eq_some_iff.1 (h.2 D hD).2).1
theorem Marks.cells {B : Nat} {Ds : List Nat} {W : World} (h : Marks B Ds W) {k : Nat} (hk : ∃ c t z, W.heap[k]? = some (.cells c t z)) : ∀ D ∈ Ds, D ≠ k := by
  rintro D hD rfl
  obtain ⟨c, t, z, hc⟩ := hk
  rw [(h.2 D hD).2] at hc
  cases hc
theorem leave_marks {F : Fence} {n : Nat} {P : Program} {fn : Func} {tmps : Array Value} {R : Ending → World → Prop} {B : Nat} (St : World → Prop) (hst : ∀ W D o, St W → W.heap[D]? = some (.deferred o) → B ≤ D → St (W.putObj D (.deferred none)))
    (h0 : ∀ W, St W → LeavesInM F n P fn tmps R [] .returning W) : ∀ (Ds : List Nat) (W : World), Marks B Ds W → St W → LeavesInM F n P fn tmps R (Ds.map mkD) .returning W
  | [], W, _, hs => h0 W hs
  | D :: Ds, W, hm, hs => by
    have h1 := hm.2 D (by simp)
    have hnd := List.nodup_cons.1 hm.1
    refine ⟨by simp, .inl ⟨_, _, rfl, run_takeDeferred h1.2, ?_⟩⟩
    refine leave_marks St hst h0 Ds _ ⟨hnd.2, fun E hE => ⟨(hm.2 E (by simp [hE])).1, ?_⟩⟩ (hst W D _ hs h1.2 h1.1)
    have hne : E ≠ D := fun e => hnd.1 (e ▸ hE)
    rw [World.putObj_heap_other (by omega)]
    exact (hm.2 E (by simp [hE])).2
theorem keepsF {X : Nat → Prop} {B : Nat} {W W' : World} (h : Kept X W W') (hX : ∀ k, X k → ∃ c t z, W.heap[k]? = some (.cells c t z)) : KeepsFrom B W W' :=
  ⟨h.size, fun k o _ hk ho => by
    rw [h.block k (Array.getElem?_eq_some_iff.1 hk).1 (fun hx => by
      obtain ⟨c, t, z, hc⟩ := hX k hx
      rw [hc] at hk
      cases hk
      cases ho)]
    exact hk⟩

/-- the variable gone: a box at gb, a row of texts -/
structure Gn (w : World) (gb : Nat) (G : List (List UInt8)) (a : Option Addr) (m c : Nat) (W : World) : Prop where
  len : m = G.length
  box : Has W gb 96 [.slice a m c]
  row : W.ownsRow w.heap.size 9 1 (.slice a m c) m (sB G)
  bel : Below w.heap.size w W
  ge : w.heap.size ≤ gb
theorem Gn.below {w W W' : World} {gb m c : Nat} {G : List (List UInt8)} {a : Option Addr} (h : Gn w gb G a m c W) (hb : Below W.heap.size W W') : Gn w gb G a m c W' :=
  ⟨h.len, h.box.kept (Kept.of_below (X := none') hb) (fun h => h), own_below h.row hb, h.bel.trans (hb.mono h.bel.size), h.ge⟩
theorem Gn.kept {X : Nat → Prop} {w W W' : World} {gb m c : Nat} {G : List (List UInt8)} {a : Option Addr} (h : Gn w gb G a m c W) (hk : Kept X W W') (h1 : ¬ X gb) (h2 : ∀ k, Value.ownBlock (.slice a m c) = some k → ¬ X k) (h3 : ∀ k, X k → w.heap.size ≤ k) : Gn w gb G a m c W' :=
  ⟨h.len, h.box.kept hk h1, own_kept h.row hk h2, h.bel.trans (hk.below h.bel.size h3), h.ge⟩
theorem own_cells {w : World} {B e s : Nat} {v : Value} {n : Nat} {xs : List Value} (h : w.ownsRow B e s v n xs) {k : Nat} (hk : v.ownBlock = some k) : ∃ c t z, w.heap[k]? = some (.cells c t z) := by
  rcases h.2 with ⟨hv, _⟩ | ⟨g, cap, cur, hv, hB, hg, _⟩
  · rw [hv] at hk; cases hk
  · rw [hv] at hk
    simp only [Value.ownBlock, Option.some.injEq] at hk
    subst hk
    exact ⟨_, _, _, hg⟩
theorem own_nbox {w : World} {B e s : Nat} {v : Value} {n : Nat} {xs : List Value} (h : w.ownsRow B e s v n xs) {g t : Nat} {vs : List Value} (hg : Has w g t vs) (ht : t ≠ e) {k : Nat} (hk : v.ownBlock = some k) : k ≠ g := by
  rintro rfl
  rcases h.2 with ⟨hv, _⟩ | ⟨g, cap, cur, hv, hB, hq, _⟩
  · rw [hv] at hk; cases hk
  · rw [hv] at hk
    simp only [Value.ownBlock, Option.some.injEq] at hk
    subst hk
    unfold Has at hg
    rw [hg] at hq
    simp only [Option.some.injEq, Obj.cells.injEq] at hq
    exact ht hq.2.1
/-- within a range over the pieces: the iterator's boxes lie at Bs, Bs + 1, Bs + 2 -/
structure RI (w : World) (gb Bs : Nat) (Ds : List Nat) (G : List (List UInt8)) (a : Option Addr) (m c : Nat) (W : World) : Prop where
  gn : Gn w gb G a m c W
  off : ∀ k, Value.ownBlock (.slice a m c) = some k → k < Bs ∨ Bs + 3 ≤ k
  mks : Marks w.heap.size Ds W
theorem RI.kept {X : Nat → Prop} {w W W' : World} {gb Bs m c : Nat} {Ds : List Nat} {G : List (List UInt8)} {a : Option Addr} (h : RI w gb Bs Ds G a m c W) (hk : Kept X W W') (h1 : ¬ X gb) (h2 : ∀ k, Value.ownBlock (.slice a m c) = some k → ¬ X k) (h3 : ∀ k, X k → w.heap.size ≤ k) (h4 : ∀ D ∈ Ds, ¬ X D) : RI w gb Bs Ds G a m c W' :=
  ⟨h.gn.kept hk h1 h2 h3, h.off, h.mks.kept hk h4⟩
/-- a text appended to gone -/
theorem app_gone {w : World} {gb Bs : Nat} {Ds : List Nat} {G : List (List UInt8)} {a : Option Addr} {m c : Nat} {W : World} (h : RI w gb Bs Ds G a m c W) (hgb : gb < Bs) (hBs : Bs + 3 ≤ W.heap.size) (x : List UInt8) (hsz : m ≤ 1048581) (tyo : TypeId) :
    ∃ a' c' w', (Builtin.append_ #[96, 96] tyo #[.slice a m c, .slice (some ⟨W.heap.size, 0, none⟩) 1 1]).run Tryd.prog (W.alloc (.cells #[.string (strB x)] 9)) = .ok (.slice a' (m + 1) c') w' ∧
      Has w' gb 96 [.slice a m c] ∧ RI w gb Bs Ds (G ++ [x]) a' (m + 1) c' (w'.setCell ⟨gb, 0, none⟩ (.slice a' (m + 1) c')) ∧ KeepsFrom Bs W (w'.setCell ⟨gb, 0, none⟩ (.slice a' (m + 1) c')) ∧ KpS Bs W (w'.setCell ⟨gb, 0, none⟩ (.slice a' (m + 1) c')) ∧ W.heap.size ≤ w'.heap.size := by
  have hal : Below W.heap.size W (W.alloc (.cells #[.string (strB x)] 9)) := (Below.refl _ W).alloc (Nat.le_refl _) _
  have hS2 : Sl (W.alloc (.cells #[.string (strB x)] 9)) (some ⟨W.heap.size, 0, none⟩) 1 1 (sB [x]) := own_sl (strs_new W [x] (by simp))
  have hBw : w.heap.size ≤ (W.alloc (.cells #[.string (strB x)] 9)).heap.size := Nat.le_trans h.gn.bel.size hal.size
  obtain ⟨a', c', w', hr, ho, hg, hnew⟩ := run_app_own (P := Tryd.prog) tyStr (tyo := tyo) (own_below h.gn.row hal) hS2 (sB_one [x]) (by omega) (by unfold maxLen; omega) hBw
  have hk1 : Kept (fun k => Value.ownBlock (.slice a m c) = some k) W w' := (Kept.alloc _ W _).trans (Kept.of_grown hg) (fun _ _ h => h)
  have hbx : Has w' gb 96 [.slice a m c] := h.gn.box.kept hk1 (fun e => own_nbox h.gn.row h.gn.box (by decide) e rfl)
  have hk2 := Kept.set w' gb 0 (.slice a' (m + 1) c')
  have hkk : Kept (fun k => Value.ownBlock (.slice a m c) = some k ∨ k = gb) W (w'.setCell ⟨gb, 0, none⟩ (.slice a' (m + 1) c')) := (hk1.more (fun _ _ h => .inl h)).trans hk2 (fun _ _ h => .inr h)
  have hcl : ∀ k, (Value.ownBlock (.slice a m c) = some k ∨ k = gb) → ∃ c t z, W.heap[k]? = some (.cells c t z) := by
    rintro k (hk | rfl)
    · exact own_cells h.gn.row hk
    · exact ⟨_, _, _, h.gn.box⟩
  refine ⟨a', c', w', hr, hbx, ⟨⟨by rw [h.gn.len]; simp, by have := hbx.set 0 (.slice a' (m + 1) c'); exact this, ?_, ?_, h.gn.ge⟩, ?_, h.mks.kept hkk (fun D hD hx => h.mks.cells (hcl D hx) D hD rfl)⟩, keepsF hkk hcl, ?_, Nat.le_trans hal.size hg.size⟩
  · have e : sB (G ++ [x]) = sB G ++ sB [x] := sB_append _ _
    rw [e]
    exact own_kept ho hk2 (fun k hk e => own_nbox ho hbx (by decide) hk e)
  · exact h.gn.bel.trans (hkk.below h.gn.bel.size (by
      rintro k (hk | rfl)
      · exact (h.gn.row.lt k hk).1
      · exact h.gn.ge))
  · intro k hk
    rcases hnew k hk with h1 | h1
    · exact h.off k h1
    · have := hal.size
      omega
  · intro k h1 h2
    refine hkk.block k (by omega) ?_
    rintro (hx | rfl)
    · rcases h.off k hx with h3 | h3 <;> omega
    · omega

theorem gone_pos (fs : List Fd) : 0 < (goneL fs).length := by
  unfold goneL
  rw [List.length_append]
  have : gone0.length = 5 := rfl
  omega
theorem FldE.mark {w W : World} {R : List Fd × Int} {e : Ending} (h : FldE w R e W) {D : Nat} {o : Option (List Deferred)} (hD : W.heap[D]? = some (.deferred o)) (hB : w.heap.size ≤ D) : FldE w R e (W.putObj D (.deferred none)) := by
  obtain ⟨a, c, he, hs, hb⟩ := h
  have hk := Kept.of_grown (grownBy_putObj' W D (.deferred none))
  refine ⟨a, c, he, own_kept hs hk (fun k hk2 e => ?_), hb.trans (hk.below hb.size (fun k e => by cases e; exact hB))⟩
  cases e
  obtain ⟨c2, t, z, hc⟩ := own_cells hs hk2
  rw [hc] at hD
  cases hD
theorem contains_any (w : World) {a : Option Addr} {m c : Nat} {ps : List (List UInt8)} (h : Sl w a m c (sB ps)) (hl : m = ps.length) (h0 : 0 < ps.length) (x : List UInt8) :
    Calls Tryd.prog 56 #[.slice a m c, .string (strB x)] w fun e w' => e = .returned (.bool (decide (x ∈ ps))) ∧ w' = w := by
  subst hl
  obtain ⟨b, o, rfl, hc⟩ := h.cells h0
  refine (Tryd.slices_Contains_string b o ps.length c (ps.map strB) (strB x) w (by simp) (sl_le h) (fun j hj => ?_)).mono ?_
  · rw [hc j (by simpa using hj)]
    simp only [List.length_map] at hj
    simp [sB, List.getD, hj]
  · rintro e w' ⟨rfl, rfl⟩
    refine ⟨?_, rfl⟩
    congr 2
    rw [List.take_of_length_le (by simp)]
    by_cases hx : x ∈ ps
    · rw [decide_eq_true hx, Lib.containsS_iff]
      exact List.mem_map.2 ⟨x, hx, rfl⟩
    · rw [decide_eq_false hx]
      cases hb : Lib.containsS (ps.map strB) (strB x) with
      | false => rfl
      | true =>
        obtain ⟨y, hy, he⟩ := List.mem_map.1 ((Lib.containsS_iff _ _).1 hb)
        exact absurd (strB_inj he ▸ hy) hx
theorem cuts_mem (c : UInt8) : ∀ (l p : List UInt8), p ∈ cutsL c l → p.length ≤ l.length
  | [], p, h => by simp [cutsL] at h; simp [h]
  | b :: r, p, h => by
    have ih := cuts_mem c r
    unfold cutsL at h
    split at h
    · rcases List.mem_cons.1 h with rfl | h
      · simp
      · have := ih p h; simp; omega
    · split at h
      · rename_i e
        exact absurd e (cuts_ne c r)
      · rename_i q qs e
        rw [e] at ih
        rcases List.mem_cons.1 h with rfl | h
        · have := ih q (by simp); simp; omega
        · have := ih p (by simp [h]); simp; omega
theorem RI.below {w W W' : World} {gb Bs m c : Nat} {Ds : List Nat} {G : List (List UInt8)} {a : Option Addr} (h : RI w gb Bs Ds G a m c W) (hb : Below W.heap.size W W') : RI w gb Bs Ds G a m c W' := ⟨h.gn.below hb, h.off, h.mks.below hb⟩
theorem kps_below {B : Nat} {W W' : World} (h : Below W.heap.size W W') (hB : B + 3 ≤ W.heap.size) : KpS B W W' := fun k _ h2 => h.block k (by omega)
theorem kf_below {B : Nat} {W W' : World} (h : Below W.heap.size W W') : KeepsFrom B W W' := ⟨h.size, fun k o _ hk _ => by rw [h.block k (Array.getElem?_eq_some_iff.1 hk).1]; exact hk⟩
theorem kf_mono {B B' : Nat} {W W' : World} (h : KeepsFrom B W W') (hB : B ≤ B') : KeepsFrom B' W W' := ⟨h.size, fun k o hk => h.same k o (Nat.le_trans hB hk)⟩
set_option maxRecDepth 100000 in
set_option maxHeartbeats 4000000 in
theorem resp_any (w : World) (st : Int) {a : Option Addr} {n c : Nat} {fs : List Fd} (h : SlS w a n c fs) (hz : fdz fs ≤ 1048576) (htab : Lib.TabIs Tryd.prog w "internal/strconv.uint64pow10" .u64 Lib.pow10Tab) : Calls Tryd.prog 27 #[.int .i64 st, .slice a n c] w (FldE w (respL st fs)) := by
  obtain ⟨R, hR⟩ : ∃ R, R = respL st fs := ⟨_, rfl⟩
  rw [← hR]
  by_cases hst : st < 100 ∨ 599 < st
  · obtain rfl : R = ([], 200) := by rw [hR, respL, if_pos hst]
    have e : FldE w ([], 200) (.returned (.tuple #[.slice none 0 0, .int .i64 200])) w := ⟨none, 0, rfl, World.ownsRow_nil _ _ _ _, Below.refl _ _⟩
    have HE := Lib.hid e
    clear h hz hR e htab
    by_cases h1 : st < 100
    · have y1 : (st < 100) = True := eq_true h1
      clear hst h1
      go_enter Tryd.func27, Tryd.ntmps27
      go_wp2
      go_ret2
      exact HE.out
    · have y1 : (st < 100) = False := eq_false h1
      have y2 : (599 < st) = True := eq_true (hst.resolve_left h1)
      clear hst h1
      go_enter Tryd.func27, Tryd.ntmps27
      go_wp2
      go_ret2
      exact HE.out
  obtain ⟨y1, y2, q, rfl, hq⟩ := rsj1 hst
  have HR : Hid (R = (([statF (q : Int)] ++ fs.flatMap (outF (goneL fs))) ++ [viaF], 0)) := Lib.hid (by rw [hR, respL, if_neg hst])
  have HS := Lib.hid h
  have HL := Lib.hid h.len
  have HZ := Lib.hid hz
  have HNn : Hid (n ≤ 1048576) := Lib.hid (by rw [← h.len]; exact Nat.le_trans (fdz_len fs) hz)
  have HGl := Lib.hid (goneL_le hz)
  have HQ := Lib.hid hq
  have HTab := Lib.hid htab
  obtain ⟨w1, hw1⟩ : ∃ w1, w1 = (w.alloc (.cells (sB gone0).toArray 9)).alloc (.cells #[.slice (some ⟨w.heap.size, 0, none⟩) 5 5] 96) := ⟨_, rfl⟩
  obtain ⟨g0, hg0⟩ : ∃ g0, g0 = w.heap.size := ⟨_, rfl⟩
  obtain ⟨gb, hgb⟩ : ∃ gb, gb = w.heap.size + 1 := ⟨_, rfl⟩
  have HG1 : Hid (Gn w gb gone0 (some ⟨g0, 0, none⟩) 5 5 w1) := Lib.hid (by
    have h1 := strs_new w gone0 (by decide)
    have h2 := Has.new (w.alloc (.cells (sB gone0).toArray 9)) 96 #[.slice (some ⟨w.heap.size, 0, none⟩) 5 5]
    have e : (w.alloc (.cells (sB gone0).toArray 9)).heap.size = gb := by rw [hgb]; simp
    rw [e] at h2
    rw [hw1, hg0]
    refine ⟨rfl, h2, own_kept h1 (Kept.alloc none' _ _) (fun _ _ h => h), ((Below.refl _ w).alloc (Nat.le_refl _) _).alloc (by simp) _, by rw [hgb]; omega⟩)
  have HW1 : Hid ((w.alloc (.cells #[.string ⟨#[99, 111, 110, 110, 101, 99, 116, 105, 111, 110]⟩, .string ⟨#[107, 101, 101, 112, 45, 97, 108, 105, 118, 101]⟩, .string ⟨#[112, 114, 111, 120, 121, 45, 99, 111, 110, 110, 101, 99, 116, 105, 111, 110]⟩, .string ⟨#[116, 114, 97, 110, 115, 102, 101, 114, 45, 101, 110, 99, 111, 100, 105, 110, 103]⟩, .string ⟨#[117, 112, 103, 114, 97, 100, 101]⟩] 9)).alloc (.cells #[.slice (some ⟨w.heap.size, 0, none⟩) 5 5] 96) = w1) := Lib.hid (by rw [hw1]; rfl)
  have HG0 := Lib.hid hg0
  have HGb := Lib.hid hgb
  clear h hz hR hst hq htab hw1 hg0 hgb
  refine (callsIn_wide (n := 3)).1 ?_
  refine callsIn_of_wp_marks Tryd.func27 rfl trivial ?_ rfl
  simp only [Tryd.ntmps27, List.size_toArray, List.length_cons, List.length_nil, Nat.reduceAdd, Nat.reduceSub, Array.replicate_succ, Array.replicate_zero, List.push_toArray, List.append_toArray, List.nil_append, List.cons_append]
  refine wpIn_wide.2 ?_
  go_upto_region 4 with fail
  rw [HW1.out, ← HGb.out, ← HG0.out]
  go_wp2_with fail
  refine wp_loop (fun a' w' => ∃ (i m : Nat) (G : List (List UInt8)) (ga : Option Addr) (gc : Nat) (Ds : List Nat) (u8 u24 u25 u26 u27 u28 u29 u30 u31 u32 u33 u41 : Value), i ≤ n ∧ Hid (G = gone0 ++ (fs.take i).flatMap goneF) ∧ Gn w gb G ga m gc w' ∧ Marks w.heap.size Ds w' ∧ a' = { tmps := #[.int .i64 (q : Int), .slice a n c, undef, undef, .slice none 0 0, .int .i64 0, .pointer (some ⟨gb, 0, none⟩), undef, u8, undef, undef, undef, undef, undef, .int .i64 (q : Int), .bool false, .bool false, .int .i64 (q : Int), .bool false, .bool false, .slice (some ⟨g0, 0, none⟩) 5 5, .slice a n c, .int .i64 (n : Int), .int .i64 (i : Int), u24, u25, u26, u27, u28, u29, u30, u31, u32, u33, undef, undef, undef, undef, undef, undef, undef, u41, undef, undef, undef, undef, undef, undef, undef, undef, undef, undef, undef, undef, undef, undef, undef, undef, undef, undef, undef, undef, undef, undef, undef, undef, undef, undef, undef, undef, undef], defers := Ds.map mkD }) (fun a' _ => n - (intOf (a'.tmps.getD 23 undef)).toNat) ?_ ?_
  · exact ⟨0, 5, gone0, _, 5, [], _, _, _, _, _, _, _, _, _, _, _, _, Nat.zero_le _, Lib.hid (by simp), HG1.out, ⟨List.nodup_nil, fun D hD => by cases hD⟩, rfl⟩
  rintro _ wr ⟨i, m, G, ga, gc, Ds, u8, u24, u25, u26, u27, u28, u29, u30, u31, u32, u33, u41, hi, HG, hgn, hmk, rfl⟩
  have HGn := Lib.hid hgn
  have HMk := Lib.hid hmk
  have HBs : Hid (w.heap.size ≤ wr.heap.size) := Lib.hid hgn.bel.size
  clear hgn hmk HG1 HW1
  by_cases hin : i < n
  · have HI := Lib.hid hin
    obtain ⟨z1, z2, z3⟩ := inj1 hin (Nat.le_trans HNn.out (by decide))
    have hil : i < fs.length := by rw [HL.out]; exact hin
    obtain ⟨b, o, rfl, hc⟩ := HS.out.cells (Nat.lt_of_le_of_lt (Nat.zero_le _) hin)
    obtain ⟨p0, p1⟩ := hc i hil
    rw [← HGn.out.bel.cell (World.block_lt_of_cell? _ _ p0)] at p0
    rw [← HGn.out.bel.cell (World.block_lt_of_cell? _ _ p1)] at p1
    have htk := flat_take goneF fs i hil
    have hfz := fdz_at fs i hil
    have hgl := flat_le goneF fs (i + 1)
    obtain ⟨f, hf⟩ : ∃ f, f = fs[i] := ⟨_, rfl⟩
    rw [← hf] at p0 p1 htk hfz
    obtain ⟨nm, hnm⟩ : ∃ nm, nm = f.nm := ⟨_, rfl⟩
    obtain ⟨va, hva⟩ : ∃ va, va = f.va := ⟨_, rfl⟩
    rw [← hnm] at p0
    rw [← hva] at p1
    have HF := Lib.hid (And.intro hnm hva)
    have HG2 : Hid (gone0 ++ (fs.take (i + 1)).flatMap goneF = G ++ goneF f) := Lib.hid (by rw [htk, HG.out, List.append_assoc])
    have HGz : Hid ((G ++ goneF f).length ≤ 1048581) := Lib.hid (by
      rw [← HG2.out, List.length_append]
      have := HGl.out
      unfold goneL at this
      rw [List.length_append] at this
      exact Nat.le_trans (Nat.add_le_add_left hgl _) this)
    have HNmz : Hid (nm.size ≤ 1048576 ∧ va.size ≤ 1048576) := Lib.hid (by have := HZ.out; rw [hnm, hva]; omega)
    clear hi hin hil hc htk hfz hgl hf hnm hva
    go_upto_region 7 with fail
    obtain ⟨w2, hw2⟩ : ∃ w2, w2 = wr.alloc (.cells #[.string nm, .string va] 64) := ⟨_, rfl⟩
    obtain ⟨g2, hg2⟩ : ∃ g2, g2 = wr.heap.size := ⟨_, rfl⟩
    have HH2 : Hid (Has w2 g2 64 [.string nm, .string va]) := Lib.hid (by rw [hw2, hg2]; exact Has.new wr 64 #[.string nm, .string va])
    have hb2 : Below wr.heap.size wr w2 := by rw [hw2]; exact (Below.refl _ wr).alloc (Nat.le_refl _) _
    have HGn2 := Lib.hid (HGn.out.below hb2)
    have HMk2 := Lib.hid (HMk.out.below hb2)
    have HSm := Lib.hid (small_any w2 nm (Nat.le_trans HNmz.out.1 (by decide)))
    rw [← hw2, ← hg2]
    have q0 : w2.cell? ⟨g2, 0, none⟩ = some (.string nm) := HH2.out.cell 0 rfl
    clear hw2 hg2 hb2 p0 p1
    go_wp2_with fail
    refine HSm.out.mono ?_
    rintro e w3 ⟨rfl, hb3⟩
    have HH3 : Hid (Has w3 g2 64 [.string nm, .string va]) := Lib.hid (HH2.out.kept (Kept.of_below (X := none') hb3) (fun h => h))
    have HGn3 := Lib.hid (HGn2.out.below hb3)
    have HMk3 := Lib.hid (HMk2.out.below hb3)
    clear hb3 q0
    by_cases hcn : smallL (bl nm) = connN
    · have e1 : ((strB (smallL (bl nm))).toList == [99, 111, 110, 110, 101, 99, 116, 105, 111, 110]) = true := eqT (by rw [show bl (strB (smallL (bl nm))) = smallL (bl nm) from strB_toList _]; exact hcn)
      have HGf : Hid (goneF f = (cutsL 44 (bl va)).map pieceL) := Lib.hid (by rw [goneF, ← HF.out.1, if_pos hcn, ← HF.out.2]; rfl)
      have q1 : w3.cell? ⟨g2, 1, none⟩ = some (.string va) := HH3.out.cell 1 rfl
      have hsp := split_any w3 (bl va) 44
      rw [strB_bl] at hsp
      have HSp := Lib.hid hsp
      clear hcn hsp
      go_wp2_with fail
      refine HSp.out.mono ?_
      rintro e w4 ⟨rfl, hw4⟩
      obtain ⟨b0, b1, b2, hsz4, hb4⟩ := splitsB w3 (bl va) 44 (w2 := w4) (by rw [hw4, strB_bl])
      obtain ⟨Bs, hBs⟩ : ∃ Bs, Bs = w3.heap.size := ⟨_, rfl⟩
      rw [← hBs] at b0 b1 b2 hsz4
      rw [← hBs]
      have HB0 := Lib.hid b0
      have HB1 := Lib.hid b1
      have HB2 := Lib.hid b2
      have HSz := Lib.hid hsz4
      have HBsE := Lib.hid hBs
      have HGn4 := Lib.hid (HGn3.out.below hb4)
      have HMk4 := Lib.hid (HMk3.out.below hb4)
      clear q1 hw4 b0 b1 b2 hsz4 hb4 hBs
      go_wp2_with fail
      have hgbs : gb < Bs := by rw [HBsE.out]; exact HGn3.out.box.lt
      have hDs : ∀ D ∈ Ds, D < Bs := by rw [HBsE.out]; exact HMk3.out.lt
      have hwB : w.heap.size ≤ Bs := by rw [HBsE.out]; exact HGn3.out.bel.size
      have hBlt : Bs < w4.heap.size := by rw [HSz.out]; omega
      have HGB := Lib.hid hgbs
      have HDs := Lib.hid hDs
      have HWB := Lib.hid hwB
      refine (wpIn_wide (n := 3)).1 ?_
      refine wpIn_rangeFunc_box rfl (by decide) (gf := 93) (lb := #[.pointer (some ⟨Bs + 1, 0, none⟩), .pointer (some ⟨Bs, 0, none⟩), .pointer (some ⟨Bs + 2, 0, none⟩)]) rfl trivial (enters_of Tryd.func93 (by kernel_rfl) rfl)
        (split_stops _ Bs 44 (bl va) ?hlen w4 HB0.out HB1.out HB2.out) hBlt (fun h k => h.tr k) ?hkb (Below.refl _ _) (fun _ => rfl)
        (fun pre W => ∃ (a3 : Option Addr) (m3 c3 : Nat), RI w gb Bs Ds (G ++ pre.map pieceL) a3 m3 c3 W ∧ Bs + 3 ≤ W.heap.size) (fun _ _ _ => False) ?own (fun _ _ _ _ _ hs _ _ => hs) ?set
        ⟨ga, m, gc, ⟨by simpa using HGn4.out, ?off, HMk4.out⟩, by rw [HSz.out]; exact Nat.le_refl _⟩
        (fun x => { tmps := #[.int .i64 (q : Int), .slice (some ⟨b, o, none⟩) n c, undef, undef, .slice none 0 0, .int .i64 0, .pointer (some ⟨gb, 0, none⟩), undef, .pointer (some ⟨g2, 0, none⟩), .string (strB x), undef, undef, undef, undef, .int .i64 (q : Int), .bool false, .bool false, .int .i64 (q : Int), .bool false, .bool false, .slice (some ⟨g0, 0, none⟩) 5 5, .slice (some ⟨b, o, none⟩) n c, .int .i64 (n : Int), .int .i64 (i : Int), .bool true, .pointer (some ⟨b, o + i * 2, none⟩), .agg #[.string nm, .string va], .pointer (some ⟨g2, 0, none⟩), .string nm, .string (strB (smallL (bl nm))), .bool true, .pointer (some ⟨g2, 1, none⟩), .string va, .func (.func 93) #[] #[.pointer (some ⟨Bs + 1, 0, none⟩), .pointer (some ⟨Bs, 0, none⟩), .pointer (some ⟨Bs + 2, 0, none⟩)], .string (strB x), undef, undef, undef, undef, undef, undef, u41, undef, undef, undef, undef, undef, undef, undef, undef, undef, undef, undef, undef, undef, undef, undef, undef, undef, undef, undef, undef, undef, undef, undef, undef, undef, undef, undef, undef, undef], defers := [] }) ?assign ?body ?done ?stop
      case hlen => rw [← bl_size]; exact Nat.le_trans HNmz.out.2 (by decide)
      case hkb =>
        intro W l o o' hl h hc hw k h1 h2
        exact World.putObj_heap_other (by rw [HSz.out] at hl; omega)
      case off =>
        intro k hk
        exact .inl (by rw [HBsE.out]; exact (HGn3.out.row.lt k hk).2)
      case own =>
        rintro pre W W' row ⟨a3, m3, c3, hI, hsz⟩ hg hr
        have hnc : ∀ k, row = some k → ¬ ∃ c t z, W.heap[k]? = some (.cells c t z) := by
          rintro k rfl ⟨c, t, z, hc⟩
          obtain ⟨_, o, ho, hoc⟩ := hr k rfl
          rw [hc] at ho
          cases ho
          cases hoc
        refine ⟨a3, m3, c3, hI.kept (Kept.of_grown hg) (fun e => hnc _ e ⟨_, _, _, hI.gn.box⟩) (fun k hk e => hnc k e (own_cells hI.gn.row hk)) (fun k e => ?_) (fun D hD e => ?_), Nat.le_trans hsz hg.size⟩
        · have := (hr k e).1
          rw [HSz.out] at this
          omega
        · have h1 := (hr D e).1
          have h2 := HDs.out D hD
          rw [HSz.out] at h1
          omega
      case set =>
        rintro pre W v ⟨a3, m3, c3, hI, hsz⟩
        refine ⟨a3, m3, c3, hI.kept (Kept.set W Bs 0 v) (Nat.ne_of_lt HGB.out) (fun k hk e => ?_) (fun k e => ?_) (fun D hD => Nat.ne_of_lt (HDs.out D hD)), Nat.le_trans hsz (Kept.set W Bs 0 v).size⟩
        · rcases hI.off k hk with h | h <;> omega
        · rw [e]; exact HWB.out
      case assign =>
        intro l x W K hK
        gi_wp2
        exact hK
      case body =>
        rintro l pre x rest W hLp ⟨a3, m3, c3, hI, hszW⟩
        have HI3 := Lib.hid hI
        have HSzW := Lib.hid hszW
        have HXl : Hid (x.length ≤ 1048576) := Lib.hid (Nat.le_trans (cuts_mem 44 (bl va) x (by rw [hLp]; simp)) (by rw [← bl_size]; exact HNmz.out.2))
        have HM3 : Hid (m3 ≤ 1048581) := Lib.hid (by
          have h := HGz.out
          rw [HGf.out, hLp, List.length_append, List.length_map, List.length_append] at h
          rw [hI.gn.len, List.length_append, List.length_map]
          omega)
        clear hI hLp hgbs hDs hwB hBlt hszW
        refine wpIn_block ?_
        dsimp only
        have hd : Below W.heap.size W W.drew := below_drewN (Below.refl W.heap.size W) 1
        have HD := Lib.hid hd
        have HId := Lib.hid (HI3.out.below hd)
        clear hd
        refine Mx.regionZIn [] (fun w' => w'.cell? ⟨gb, 0, none⟩ = some (.slice a3 m3 c3)) (by kernel_rfl) (by kernel_rfl) (HId.out.gn.box.cell 0 rfl) ?_
        refine Mx.cell ⟨gb, 0, none⟩ (.slice a3 m3 c3) (by kernel_rfl) (by kernel_rfl) (by kernel_rfl) Tryd.isAgg96 (fun w' h => h) ?_
        go_big_quiet_want; go_big_quiet_op; go_big_quiet_on; refine Mx.done ?_
        repeat ((first | (refine Mx.skips (by kernel_rfl) ?_; go_big_quiet_skip) | (refine Mx.quietly rfl ?_; go_big_quiet_want; go_big_quiet_op; go_big_quiet_on)); refine Mx.done ?_)
        refine Mx.loudly (by kernel_rfl) (by kernel_rfl) ?_
        have hTr := strim_any W.drew (strB x) (by rw [strB_size]; exact Nat.le_trans HXl.out (by decide))
        rw [show bl (strB x) = x from strB_toList x] at hTr
        have HTr := Lib.hid hTr
        clear hTr
        go_wp2_with fail
        refine HTr.out.mono ?_
        rintro e w5 ⟨rfl, hb5⟩
        have HI5 := Lib.hid (HId.out.below hb5)
        have HB5 : Hid (Below W.heap.size W w5) := Lib.hid (HD.out.trans (hb5.mono HD.out.size))
        clear hb5
        go_wp2_with fail
        refine ⟨HI5.out.gn.box.cell 0 rfl, ?_⟩
        repeat ((first | (refine Mx.skips (by kernel_rfl) ?_; go_big_quiet_skip) | (refine Mx.quietly rfl ?_; go_big_quiet_want; go_big_quiet_op; go_big_quiet_on)); refine Mx.done ?_)
        refine Mx.loudly (by kernel_rfl) (by kernel_rfl) ?_
        have hSm := small_any w5 (strB (trimL x)) (by rw [strB_size]; exact Nat.le_trans (trim_len x) (Nat.le_trans HXl.out (by decide)))
        rw [show bl (strB (trimL x)) = trimL x from strB_toList _] at hSm
        have HSm5 := Lib.hid hSm
        clear hSm
        go_wp2_with fail
        refine HSm5.out.mono ?_
        rintro e w6 ⟨rfl, hb6⟩
        have HI6 := Lib.hid (HI5.out.below hb6)
        have HB6 : Hid (Below W.heap.size W w6) := Lib.hid (HB5.out.trans (hb6.mono HB5.out.size))
        clear hb6
        go_wp2_with fail
        refine ⟨HI6.out.gn.box.cell 0 rfl, ?_⟩
        repeat ((first | (refine Mx.skips (by kernel_rfl) ?_; go_big_quiet_skip) | (refine Mx.quietly rfl ?_; go_big_quiet_want; go_big_quiet_op; go_big_quiet_on)); refine Mx.done ?_)
        refine Mx.loudly (by kernel_rfl) (by kernel_rfl) ?_
        have hal : Below w6.heap.size w6 (w6.alloc (.cells #[.string (strB (smallL (trimL x)))] 9)) := (Below.refl _ w6).alloc (Nat.le_refl _) _
        have HIa := Lib.hid (HI6.out.below hal)
        clear hal
        go_wp2_with fail
        refine ⟨HIa.out.gn.box.cell 0 rfl, ?_⟩
        repeat ((first | (refine Mx.skips (by kernel_rfl) ?_; go_big_quiet_skip) | (refine Mx.quietly rfl ?_; go_big_quiet_want; go_big_quiet_op; go_big_quiet_on)); refine Mx.done ?_)
        obtain ⟨a7, c7, w7, hr7, hbx7, hri7, hkf7, hkp7, hsz7⟩ := app_gone HI6.out HGB.out (Nat.le_trans HSzW.out HB6.out.size) (pieceL x) HM3.out 96
        have HR7 := Lib.hid hri7
        have HKf := Lib.hid hkf7
        have HKp := Lib.hid hkp7
        have HSz7 := Lib.hid hsz7
        have c70 : w7.cell? ⟨gb, 0, none⟩ = some (.slice a3 m3 c3) := hbx7.cell 0 rfl
        have f70 : w7.frozen? ⟨gb, 0, none⟩ = false := hbx7.free 0
        have hr8 : (Builtin.append_ #[96, 96] 96 #[.slice a3 m3 c3, .slice (some ⟨w6.heap.size, 0, none⟩) 1 1]).run Tryd.prog (w6.alloc (.cells #[.string (strB (smallL (trimL x)))] 9)) = .ok (.slice a7 (m3 + 1) c7) w7 := hr7
        clear hri7 hkf7 hkp7 hsz7 hbx7 hr7
        refine Mx.loudly (by kernel_rfl) (by kernel_rfl) ?_
        go_wp2_with (at_builtin; refine Lib.wpList_append_run _ rfl _ _ _ _ rfl (.slice a3 m3 c3) (.slice (some ⟨w6.heap.size, 0, none⟩) 1 1) rfl rfl _ _ hr8 ?_)
        repeat ((first | (refine Mx.skips (by kernel_rfl) ?_; go_big_quiet_skip) | (refine Mx.quietly rfl ?_; go_big_quiet_want; go_big_quiet_op; go_big_quiet_on)); refine Mx.done ?_)
        refine Mx.atLast (by kernel_rfl) (by kernel_rfl) ?_
        clear hr8
        go_wp2_with fail
        refine ⟨(kf_mono (KeepsFrom.trans (kf_below HB6.out) HKf.out) (by rw [HSz.out]; omega)), KpS.tr (kps_below HB6.out HSzW.out) HKp.out, ⟨a7, m3 + 1, c7, ?_⟩, ?_⟩
        · rw [List.map_append, ← List.append_assoc]
          exact HR7.out
        · have h1 := HB6.out.size
          have h2 := HSzW.out
          have h3 := HSz7.out
          have h4 := (Kept.set w7 gb 0 (.slice a7 (m3 + 1) c7)).size
          omega
      case done =>
        rintro D W hD ⟨a3, m3, c3, hI, hszW⟩ hK
        have HMkD : Hid (Marks w.heap.size (D :: Ds) W) := Lib.hid ⟨List.nodup_cons.2 ⟨fun h => by have := hDs D h; rw [HSz.out] at hD; omega, hI.mks.1⟩, fun E hE => by
          rcases List.mem_cons.1 hE with rfl | hE
          · exact ⟨by rw [HSz.out] at hD; omega, hK⟩
          · exact hI.mks.2 E hE⟩
        have HGnD : Hid (Gn w gb (G ++ goneF f) a3 m3 c3 W) := Lib.hid (by rw [HGf.out]; exact hI.gn)
        clear hI hszW hK hD hgbs hDs hwB hBlt
        go_wp2_with fail
        exact ⟨⟨i + 1, m3, G ++ goneF f, a3, c3, D :: Ds, _, _, _, _, _, _, _, _, _, _, _, _, HI.out, Lib.hid HG2.out.symm, HGnD.out, HMkD.out, rfl⟩, nbj3 HI.out⟩
      case stop =>
        rintro D c pre x rest W _ _ h _
        exact h.elim
    · have e1 : ((strB (smallL (bl nm))).toList == [99, 111, 110, 110, 101, 99, 116, 105, 111, 110]) = false := eqF (by rw [show bl (strB (smallL (bl nm))) = smallL (bl nm) from strB_toList _]; exact hcn)
      have HGf : Hid (goneF f = []) := Lib.hid (by rw [goneF, ← HF.out.1, if_neg hcn])
      clear hcn
      go_wp2_with fail
      exact ⟨⟨i + 1, m, G, ga, gc, Ds, _, _, _, _, _, _, _, _, _, _, _, _, HI.out, Lib.hid (by rw [HG2.out, HGf.out, List.append_nil]), HGn3.out, HMk3.out, rfl⟩, nbj3 HI.out⟩
  · have z1 := inj2 hin
    have hie : i = n := Nat.le_antisymm hi (Nat.le_of_not_lt hin)
    have HGe : Hid (G = goneL fs) := Lib.hid (by rw [HG.out, goneL, hie, List.take_of_length_le (by rw [HL.out]; exact Nat.le_refl _)])
    have HIt := Lib.hid (Tryd.strconv_Itoa (q : Int) (by omega) (by have := HQ.out; omega) wr (tab_below HTab.out HGn.out.bel))
    clear hi hin hie
    go_wp2_with fail
    refine HIt.out.mono ?_
    rintro e w2 ⟨rfl, kk, os, hw2⟩
    have hb2 : Below wr.heap.size wr w2 := by rw [hw2]; exact below_gr wr kk os
    have HGn2 := Lib.hid (HGn.out.below hb2)
    have HMk2 := Lib.hid (HMk.out.below hb2)
    have HBs2 : Hid (w.heap.size ≤ w2.heap.size) := Lib.hid (Nat.le_trans HBs.out hb2.size)
    clear hw2 hb2
    obtain ⟨w3, hw3⟩ : ∃ w3, w3 = w2.alloc (.cells #[.string ⟨#[58, 115, 116, 97, 116, 117, 115]⟩, .string ⟨(Lib.itoa (q : Int)).toArray⟩] 64) := ⟨_, rfl⟩
    obtain ⟨g1, hg1⟩ : ∃ g1, g1 = w2.heap.size := ⟨_, rfl⟩
    have HSp3 : Hid (Sps w3 w.heap.size (some ⟨g1, 0, none⟩) 1 [statF (q : Int)]) := Lib.hid (by
      have h := sps_one w2 (statF (q : Int))
      rw [hg1, hw3]
      exact own_mono h HBs2.out)
    have hal3 : Below w2.heap.size w2 w3 := by rw [hw3]; exact (Below.refl _ w2).alloc (Nat.le_refl _) _
    have HGn3 := Lib.hid (HGn2.out.below hal3)
    have HMk3 := Lib.hid (HMk2.out.below hal3)
    have HW3 := Lib.hid hw3
    have HG1 := Lib.hid hg1
    clear hw3 hg1 hal3
    go_upto_region 13 with fail
    rw [← HW3.out, ← HG1.out]
    go_wp2_with fail
    go_loopw [10, 13, 48] (fun ov _ v wz => ∃ (i k : Nat) (O : List Fd) (a2 : Option Addr) (c2 : Nat), v = .int .i64 (i : Int) ∧ i ≤ n ∧ ov = .slice a2 k c2 ∧ Hid (O.length = k) ∧ Hid (O = [statF (q : Int)] ++ (fs.take i).flatMap (outF (goneL fs))) ∧ Sps wz w.heap.size a2 c2 O ∧ Gn w gb G ga m gc wz ∧ Marks w.heap.size Ds wz) (fun _ _ v _ => n - (intOf v).toNat)
    case atStart => exact ⟨0, 1, [statF (q : Int)], _, 1, rfl, Nat.zero_le _, rfl, Lib.hid rfl, Lib.hid (by simp), HSp3.out, HGn3.out, HMk3.out⟩
    case round =>
      obtain ⟨i, k, O, a2, c2, rfl, hi, rfl, HK, HOo, hsp, hgo, hmk⟩ := hrel
      have HSp := Lib.hid hsp
      have HGo := Lib.hid hgo
      have HMo := Lib.hid hmk
      have HBzs : Hid (w.heap.size ≤ wr.heap.size) := Lib.hid hgo.bel.size
      clear hsp hgo hmk HSp3 HGn3 HMk3 HW3 HGn2 HMk2 HBs2 HIt
      by_cases hin : i < n
      · have HI := Lib.hid hin
        obtain ⟨z1, z2, z3⟩ := inj1 hin (Nat.le_trans HNn.out (by decide))
        have hil : i < fs.length := by rw [HL.out]; exact hin
        obtain ⟨b, o, rfl, hc⟩ := HS.out.cells (Nat.lt_of_le_of_lt (Nat.zero_le _) hin)
        obtain ⟨p0, p1⟩ := hc i hil
        rw [← HGo.out.bel.cell (World.block_lt_of_cell? _ _ p0)] at p0
        rw [← HGo.out.bel.cell (World.block_lt_of_cell? _ _ p1)] at p1
        have htk := flat_take (outF (goneL fs)) fs i hil
        have hfz := fdz_at fs i hil
        have hol := out_le (goneL fs) (fs.take i)
        obtain ⟨f, hf⟩ : ∃ f, f = fs[i] := ⟨_, rfl⟩
        rw [← hf] at p0 p1 htk hfz
        obtain ⟨nm, hnm⟩ : ∃ nm, nm = f.nm := ⟨_, rfl⟩
        obtain ⟨va, hva⟩ : ∃ va, va = f.va := ⟨_, rfl⟩
        rw [← hnm] at p0
        rw [← hva] at p1
        have HF := Lib.hid (And.intro hnm hva)
        have HO2 : Hid ([statF (q : Int)] ++ (fs.take (i + 1)).flatMap (outF (goneL fs)) = O ++ outF (goneL fs) f) := Lib.hid (by rw [htk, HOo.out, List.append_assoc])
        have HKn : Hid (k ≤ 2097152) := Lib.hid (by
          rw [← HK.out, HOo.out, List.length_append]
          have h1 : (fs.take i).length ≤ n := by rw [List.length_take, HL.out]; exact Nat.min_le_right _ _
          exact (rsj4 (Nat.le_trans hol h1) HNn.out).1)
        have HNmz : Hid (nm.size ≤ 1048576) := Lib.hid (by have := HZ.out; rw [hnm]; omega)
        clear hi hin hil hc htk hfz hol hf hnm hva
        go_upto_region 16 with fail
        obtain ⟨w2, hw2⟩ : ∃ w2, w2 = wr.alloc (.cells #[.string nm, .string va] 64) := ⟨_, rfl⟩
        obtain ⟨g2, hg2⟩ : ∃ g2, g2 = wr.heap.size := ⟨_, rfl⟩
        have HH2 : Hid (Has w2 g2 64 [.string nm, .string va]) := Lib.hid (by rw [hw2, hg2]; exact Has.new wr 64 #[.string nm, .string va])
        have hb2 : Below wr.heap.size wr w2 := by rw [hw2]; exact (Below.refl _ wr).alloc (Nat.le_refl _) _
        have HGn2 := Lib.hid (HGo.out.below hb2)
        have HMk2 := Lib.hid (HMo.out.below hb2)
        have HSp2 : Hid (Sps w2 w.heap.size a2 c2 O) := Lib.hid (own_below HSp.out hb2)
        have HSm := Lib.hid (small_any w2 nm (Nat.le_trans HNmz.out (by decide)))
        rw [← hw2, ← hg2]
        have q0 : w2.cell? ⟨g2, 0, none⟩ = some (.string nm) := HH2.out.cell 0 rfl
        clear hw2 hg2 hb2 p0 p1
        go_wp2_with fail
        refine HSm.out.mono ?_
        rintro e w4 ⟨rfl, hb4⟩
        have HH4 : Hid (Has w4 g2 64 [.string nm, .string va]) := Lib.hid (HH2.out.kept (Kept.of_below (X := none') hb4) (fun h => h))
        have HGn4 := Lib.hid (HGn2.out.below hb4)
        have HMk4 := Lib.hid (HMk2.out.below hb4)
        have HSp4 : Hid (Sps w4 w.heap.size a2 c2 O) := Lib.hid (own_below HSp2.out hb4)
        have HBs4 : Hid (w.heap.size ≤ w4.heap.size) := Lib.hid HGn4.out.bel.size
        clear hb4 q0
        have q1 : w4.cell? ⟨g2, 1, none⟩ = some (.string va) := HH4.out.cell 1 rfl
        have qg : w4.cell? ⟨gb, 0, none⟩ = some (.slice ga m gc) := HGn4.out.box.cell 0 rfl
        have hCt := contains_any w4 (own_sl HGn4.out.row) HGn4.out.len (by rw [HGe.out]; exact gone_pos fs) (smallL (bl nm))
        by_cases hm : smallL (bl nm) ∈ goneL fs
        · rw [HGe.out, show decide (smallL (bl nm) ∈ goneL fs) = true from decide_eq_true hm] at hCt
          have HCt := Lib.hid hCt
          have HOf : Hid (outF (goneL fs) f = []) := Lib.hid (by rw [outF, ← HF.out.1, if_pos hm])
          clear hCt hm
          go_wp2_with fail
          refine HCt.out.mono ?_
          rintro e w5 ⟨rfl, rfl⟩
          go_wp2_with fail
          go_roundw
          case rel => exact ⟨i + 1, k, O, a2, c2, by first | rfl | (push_cast; rfl), HI.out, rfl, HK, Lib.hid (by rw [HO2.out, HOf.out, List.append_nil]), HSp4.out, HGn4.out, HMk4.out⟩
          case measure => exact nbj3 HI.out
        · rw [HGe.out, show decide (smallL (bl nm) ∈ goneL fs) = false from decide_eq_false hm] at hCt
          have HCt := Lib.hid hCt
          have HOf : Hid (outF (goneL fs) f = [⟨strB (smallL (bl nm)), va⟩]) := Lib.hid (by rw [outF, ← HF.out.1, if_neg hm, ← HF.out.2])
          clear hCt hm
          go_wp2_with fail
          refine HCt.out.mono ?_
          rintro e w5 ⟨rfl, rfl⟩
          obtain ⟨a6, c6, w6, hr6, hsp6, hb6, hk6⟩ := app_fd (tyo := 22) ⟨strB (smallL (bl nm)), va⟩ HSp4.out HK.out HKn.out HBs4.out
          have HSp6 := Lib.hid hsp6
          have hsp4 : w5.ownsRow w.heap.size 64 2 (.slice a2 k c2) k (sv O) := by have h := HSp4.out; unfold Sps at h; rw [HK.out] at h; exact h
          have HGn6 : Hid (Gn w gb G ga m gc w6) := Lib.hid (HGn4.out.kept hk6 (fun e => own_nbox hsp4 HGn4.out.box (by decide) e rfl) (own_own HGn4.out.row hsp4 (by decide)) (fun k hk => (hsp4.lt k hk).1))
          have HMk6 := Lib.hid (HMk4.out.kept hk6 (fun D hD hx => HMk4.out.cells (own_cells hsp4 hx) D hD rfl))
          clear hsp6 hb6 hk6 hsp4
          go_wp2_with (at_builtin; refine Lib.wpList_append_run _ rfl _ _ _ _ rfl (.slice a2 k c2) (.slice (some ⟨w5.heap.size, 0, none⟩) 1 1) rfl rfl _ _ hr6 ?_)
          clear hr6
          go_wp2_with fail
          go_roundw
          case rel => exact ⟨i + 1, k + 1, O ++ [⟨strB (smallL (bl nm)), va⟩], a6, c6, by first | rfl | (push_cast; rfl), HI.out, rfl, Lib.hid (by rw [List.length_append, HK.out]; rfl), Lib.hid (by rw [HO2.out, HOf.out]), HSp6.out, HGn6.out, HMk6.out⟩
          case measure => exact nbj3 HI.out
      · have z1 := inj2 hin
        have hie : i = n := Nat.le_antisymm hi (Nat.le_of_not_lt hin)
        have hol := out_le (goneL fs) fs
        have HOe : Hid (O = [statF (q : Int)] ++ fs.flatMap (outF (goneL fs))) := Lib.hid (by rw [HOo.out, hie, List.take_of_length_le (by rw [HL.out]; exact Nat.le_refl _)])
        have HKn : Hid (k ≤ 2097152) := Lib.hid (by
          rw [← HK.out, HOe.out, List.length_append]
          exact (rsj4 (by rw [HL.out] at hol; exact hol) HNn.out).1)
        clear hi hin hie hol
        obtain ⟨a6, c6, w6, hr6, hsp6, hb6, hk6⟩ := app_fd (tyo := 22) viaF HSp.out HK.out HKn.out HBzs.out
        have HSp6 := Lib.hid hsp6
        have HB6 : Hid (Below w.heap.size w w6) := Lib.hid (HGo.out.bel.trans hb6)
        have hspo : wr.ownsRow w.heap.size 64 2 (.slice a2 k c2) k (sv O) := by have h := HSp.out; unfold Sps at h; rw [HK.out] at h; exact h
        have HMk6 := Lib.hid (HMo.out.kept hk6 (fun D hD hx => HMo.out.cells (own_cells hspo hx) D hD rfl))
        clear hsp6 hb6 hk6 hspo
        go_wp2_with (at_builtin; refine Lib.wpList_append_run _ rfl _ _ _ _ rfl (.slice a2 k c2) (.slice (some ⟨wr.heap.size, 0, none⟩) 1 1) rfl rfl _ _ hr6 ?_)
        clear hr6
        go_wp2
        refine leave_marks (B := w.heap.size) (fun W => FldE w R (.returned (.tuple #[.slice a6 (k + 1) c6, .int .i64 0])) W) (fun W D o hs hD hB => hs.mark hD hB) (fun W hs => ⟨_, results_tmp2 rfl _ _ _, hs⟩) Ds w6 HMk6.out ?_
        rw [show R = (O ++ [viaF], 0) by rw [HR.out, HOe.out]]
        exact ⟨a6, c6, by simp only [List.length_append, HK.out]; rfl, HSp6.out, HB6.out⟩
end Go.Proofs.YtohinaohcndndaaDoor

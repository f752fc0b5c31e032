/- Contract of hframe's settings: what a settings frame's payload tells. No condition but the size. -/
import Derived.Test.YtbplmnmkgkgkhaaVnRead
import Derived.Maps.OwnOps
import Derived.Maps.OwnSet
import Derived.Maps.Views
namespace Go.Proofs.Ytbplmnmkgkgkhaa
open Go.RowKit Go.Maps

structure St where
  cap : Int
  blk : Int
  lim : Int
def scells (s : St) : List Value := [.int .i64 s.cap, .int .i64 s.blk, .int .i64 s.lim]
def St.put (s : St) (id v : Nat) : St := if id = 1 then { s with cap := v } else if id = 6 then { s with lim := v } else if id = 7 then { s with blk := v } else s
/-- the settings of what is left, at most k of them -/
def settW : Nat → Vr → List Nat → St → St × Int
  | 0, _, _, s => (s, 0)
  | k + 1, V, seen, s =>
    if leftV V = 0 then (s, 0)
    else if (numV (numV V).2).2.fault ≠ 0 then (⟨0, 0, 0⟩, 54)
    else if (numV V).1 ∈ seen ∨ (2 ≤ (numV V).1 ∧ (numV V).1 ≤ 5) then (⟨0, 0, 0⟩, 171)
    else settW k (numV (numV V).2).2 ((numV V).1 :: seen) (s.put (numV V).1 (numV (numV V).2).1)
def settV (l : List UInt8) : St × Int := settW (l.length + 1) ⟨l, 0, 0⟩ [] ⟨0, 0, -1⟩
/-- the map tells how often each was there -/
def SeenD (D : DataW Unit) (seen : List Nat) : Prop := ∀ z : Nat, D.atKey (.int .i64 (z : Int)) (.lit (.int .i64 0)) = .lit (.int .i64 (if z ∈ seen then 1 else 0))
theorem SeenD.nil : SeenD (.map []) [] := by intro z; rfl
theorem SeenD.put {D : DataW Unit} {seen : List Nat} (h : SeenD D seen) (hm : IsMap D) (x : Nat) (hx : WideAt.IsKeyLit (.int .i64 (x : Int))) : SeenD (D.put (.int .i64 (x : Int)) (.lit (.int .i64 1))) (x :: seen) := by
  intro z
  by_cases e : z = x
  · subst e
    rw [atKey_put_same hm hx]; simp
  · rw [atKey_put_other (by simp; omega), h z]
    simp [e]
theorem law_int : Keyed Try.prog 3 := int_keyed Try.underlying3
theorem zero_int (w : World) : (zeroValue 3).run Try.prog w = .ok (.int .i64 0) w := by kernel_rfl
def SettR (w : World) (r : St × Int) (e : Ending) (w' : World) : Prop :=
  e = .returned (.tuple #[.agg (scells r.1).toArray, .int .i64 r.2]) ∧ Below w.heap.size w w'

theorem run_load_st {w : World} {g : Nat} {vs : List Value} (hH : Has w g 30 vs) (hl : vs.length = 3) : (loadVar 30 ⟨g, 0, none⟩).run Try.prog w = .ok (.agg vs.toArray) w := by
  have hi : (Try.prog.info? 30).map (·.size) = some 3 := by kernel_rfl
  exact run_loadVar_row (P := Try.prog) w g 30 30 vs.toArray (0, 0) _ hH Try.underlying30 rfl (by rw [hi]; simp [hl])
def atW (w : World) (g : Nat) : Nat := match w.cell? ⟨g, 1, none⟩ with
  | some (.int _ z) => z.toNat
  | _ => 0
theorem VB.atW {w : World} {g : Nat} {V : Vr} {a : Option Addr} {c : Nat} (h : VB w g V a c) : atW w g = V.at_ := by
  unfold Go.Proofs.Ytbplmnmkgkgkhaa.atW; rw [h.has.cell 1 rfl]; simp
theorem numV_le (V : Vr) : (numV V).2.l = V.l ∧ V.at_ ≤ (numV V).2.at_ ∧ ((numV V).2.fault = 0 → V.fault = 0 ∧ V.at_ < (numV V).2.at_) := by
  unfold numV
  by_cases h : V.fault = 0
  · rw [if_pos h]
    by_cases h2 : (getV V.l V.at_).2.2 = 0
    · rw [if_pos h2]
      have h3 : V.at_ < (getV V.l V.at_).2.1 := by
        unfold getV at h2 ⊢
        by_cases h1 : V.l.length < V.at_
        · rw [if_pos h1] at h2; simp at h2
        · rw [if_neg h1] at h2 ⊢
          cases hdd : V.l.drop V.at_ with
          | nil => rw [hdd] at h2; simp at h2
          | cons x r =>
            rw [hdd] at h2
            simp only at h2 ⊢
            by_cases h4 : r.length + 1 < szB x
            · rw [if_pos h4] at h2; simp at h2
            · rw [if_neg h4]
              show V.at_ < V.at_ + szB x
              have := szB_cs x
              omega
      exact ⟨rfl, Nat.le_of_lt h3, fun _ => ⟨h, h3⟩⟩
    · rw [if_neg h2]; exact ⟨rfl, Nat.le_refl _, fun e => absurd e h2⟩
  · rw [if_neg h]; exact ⟨rfl, Nat.le_refl _, fun e => absurd e h⟩
theorem leftV_ok {V : Vr} (h : V.fault = 0) : leftV V = V.l.length - V.at_ := by unfold leftV; rw [if_pos h]
theorem getV_lt (l : List UInt8) (t : Nat) : (getV l t).1 < 4611686018427387904 := by
  unfold getV
  by_cases h1 : l.length < t
  · rw [if_pos h1]; decide
  · rw [if_neg h1]
    cases l.drop t with
    | nil => show (0 : Nat) < _; decide
    | cons x r =>
      simp only
      by_cases h2 : r.length + 1 < szB x
      · rw [if_pos h2]; decide
      · rw [if_neg h2]
        show gvN _ _ < _
        have h3 := gvN_lt (r.take (szB x - 1)) (x.toNat % 64) (Nat.mod_lt _ (by decide))
        have h4 : (r.take (szB x - 1)).length ≤ 7 := by have := szB_cs x; rw [List.length_take]; omega
        have h5 : 256 ^ (r.take (szB x - 1)).length ≤ 256 ^ 7 := Nat.pow_le_pow_right (by decide) h4
        have h6 : (256 : Nat) ^ 7 = 72057594037927936 := by decide
        omega
theorem numV_lt (V : Vr) : (numV V).1 < 4611686018427387904 := by
  unfold numV
  split
  · split
    · exact getV_lt _ _
    · show (0 : Nat) < _; decide
  · show (0 : Nat) < _; decide
theorem own_map_kept {w w' : World} {k : TypeId} {R : Value → Option (DataW Unit × List MemPlace)} {b n g : Nat} {D : DataW Unit} (h : w.ownsMap Try.prog k R b n D) (hk : Kept (fun k => k = g) w w') (hb : b ≠ g) : w'.ownsMap Try.prog k R b n D :=
  h.kept (row := some g) ⟨hk.os, hk.tape, hk.output, hk.size, fun i hi hx => hk.block i hi (fun e => hx (by rw [e]))⟩ (fun e => hb (Option.some.inj e))
theorem results_st {fn : Func} {c u : Tmp} (h : fn.results = #[.cell c 30, .tmp u]) (tmps : Array Value) {w : World} {g : Nat} {vs : List Value} (hc : tmps[c]?.getD undef = .pointer (some ⟨g, 0, none⟩)) (hH : Has w g 30 vs) (hl : vs.length = 3) :
    (results fn tmps).run Try.prog w = .ok (.tuple #[.agg vs.toArray, tmps.getD u undef]) w := by
  have hr := run_load_st hH hl
  simp only [results, h]
  simp [hc, asAddr, hr]
theorem Has.st0 {w : World} {eb : Nat} {u0 u1 u2 : Value} (h : Has w eb 30 [u0, u1, u2]) (v0 v1 v2 : Value) :
    Has (((w.setCell ⟨eb, 0, none⟩ v0).setCell ⟨eb, 1, none⟩ v1).setCell ⟨eb, 2, none⟩ v2) eb 30 [v0, v1, v2] := by
  have h0 : Has (w.setCell ⟨eb, 0, none⟩ v0) eb 30 [v0, u1, u2] := h.set 0 v0
  have h1 : Has ((w.setCell ⟨eb, 0, none⟩ v0).setCell ⟨eb, 1, none⟩ v1) eb 30 [v0, v1, u2] := h0.set 1 v1
  exact h1.set 2 v2
theorem Kept.st0 (w : World) (eb : Nat) (v0 v1 v2 : Value) : Kept (fun k => k = eb) w (((w.setCell ⟨eb, 0, none⟩ v0).setCell ⟨eb, 1, none⟩ v1).setCell ⟨eb, 2, none⟩ v2) :=
  ((Kept.set w eb 0 v0).trans (Kept.set _ eb 1 v1) (fun _ _ h => h)).trans (Kept.set _ eb 2 v2) (fun _ _ h => h)
structure SR (w wr : World) (l : List UInt8) (g : Nat) (va : Option Addr) (vc : Nat) (V : Vr) (seen : List Nat) (s : St) (k : Nat) (D : DataW Unit) (nn : Nat) : Prop where
  vb : VB wr g V va vc
  vl : V.l = l
  vf : V.fault = 0
  hs : Has wr (w.heap.size + 1) 30 (scells s)
  hr : Has wr w.heap.size 30 [.int .i64 0, .int .i64 0, .int .i64 0]
  own : wr.ownsMap Try.prog 3 (plainElem Try.prog 3) (w.heap.size + 1 + 1) nn D
  sd : SeenD D seen
  nn : nn ≤ V.at_
  eq : settW k V seen s = settV l
  lt : leftV V < k
  bel : Below w.heap.size w wr
def SRel (w : World) (l : List UInt8) (g : Nat) (va : Option Addr) (vc : Nat) (wr : World) : Prop := ∃ V seen s k D nn, SR w wr l g va vc V seen s k D nn

set_option maxRecDepth 100000 in
set_option maxHeartbeats 4000000 in
theorem settings_any (w : World) {a : Option Addr} {n c : Nat} {l : List UInt8} (h : Sl w a n c (bv l)) (hn : n ≤ 140737488351232) :
    Calls Try.prog 37 #[.slice a n c] w (SettR w (settV l)) := by
  have hmm := @run_makeMap Try.prog
  have HO : Hid (∀ u, Below w.heap.size w u → Calls Try.prog 40 #[.slice a n c] u (OpenR u l)) := Lib.hid (fun u hb => open_any u (h.below hb) hn)
  have hl : l.length ≤ 140737488351232 := by rw [h.byte]; exact hn
  have HLn := Lib.hid hl
  clear h hl hn
  go_enter Try.func37, Try.ntmps37
  go_wp2_with fail
  have hb0 : Below w.heap.size w (((w.alloc (.cells #[.int .i64 0, .int .i64 0, .int .i64 0] 30)).alloc (.cells #[.int .i64 0, .int .i64 0, .int .i64 (-1)] 30)).alloc (.map #[] 0)) :=
    (((Below.refl _ w).alloc (Nat.le_refl _) _).alloc (by simp) _).alloc (by simp; omega) _
  refine (HO.out _ hb0).mono ?_
  rintro e w3 ⟨g, va, vc, rfl, hV, hg, hva, hb3⟩
  have hsz : (((w.alloc (.cells #[.int .i64 0, .int .i64 0, .int .i64 0] 30)).alloc (.cells #[.int .i64 0, .int .i64 0, .int .i64 (-1)] 30)).alloc (.map #[] 0)).heap.size = w.heap.size + 3 := by simp
  have hst : SRel w l g va vc w3 := by
    refine ⟨⟨l, 0, 0⟩, [], ⟨0, 0, -1⟩, l.length + 1, .map [], 0, ⟨hV, rfl, rfl, ?_, ?_, ?_, SeenD.nil, Nat.le_refl _, rfl, by unfold leftV; simp, hb0.trans (hb3.mono hb0.size)⟩⟩
    · refine Has.kept (X := none') ?_ (Kept.of_below hb3) (fun h => h)
      have := Has.new (w.alloc (.cells #[.int .i64 0, .int .i64 0, .int .i64 0] 30)) 30 #[.int .i64 0, .int .i64 0, .int .i64 (-1)]
      have e : (w.alloc (.cells #[.int .i64 0, .int .i64 0, .int .i64 0] 30)).heap.size = w.heap.size + 1 := by simp
      rw [e] at this
      exact this.kept (Kept.alloc none' _ _) (fun h => h)
    · refine Has.kept (X := none') ?_ (Kept.of_below hb3) (fun h => h)
      exact ((Has.new w 30 #[.int .i64 0, .int .i64 0, .int .i64 0]).kept (Kept.alloc none' _ _) (fun h => h)).kept (Kept.alloc none' _ _) (fun h => h)
    · have := World.ownsMap_made ((w.alloc (.cells #[.int .i64 0, .int .i64 0, .int .i64 0] 30)).alloc (.cells #[.int .i64 0, .int .i64 0, .int .i64 (-1)] 30)) Try.prog 3 (plainElem (H := Unit) Try.prog 3)
      have e : ((w.alloc (.cells #[.int .i64 0, .int .i64 0, .int .i64 0] 30)).alloc (.cells #[.int .i64 0, .int .i64 0, .int .i64 (-1)] 30)).heap.size = w.heap.size + 1 + 1 := by simp
      rw [e] at this
      have hk3 : Kept (fun k => k = g) (((w.alloc (.cells #[.int .i64 0, .int .i64 0, .int .i64 0] 30)).alloc (.cells #[.int .i64 0, .int .i64 0, .int .i64 (-1)] 30)).alloc (.map #[] 0)) w3 := Kept.of_below hb3
      exact own_map_kept this hk3 (by omega)
  have hg3 : w.heap.size + 1 + 1 < g := by omega
  have hva3 : ∀ ad, va = some ad → w.heap.size + 1 + 1 < ad.block := fun ad ha => by have := hva ad ha; omega
  have Hst := Lib.hid hst
  have HVa := Lib.hid hva3
  clear hb0 hb3 hsz hst hV hg hva hva3 HO
  go_wp2_with fail
  go_loopw [7] (fun _ wr => SRel w l g va vc wr) (fun _ wr => l.length - atW wr g)
  case atStart => exact Hst.out
  case round =>
    obtain ⟨V, seen, s, k, D, nn, hSR⟩ := hrel
    have HSR := Lib.hid hSR
    have HLe := Lib.hid (left_any wr hSR.vb)
    by_cases h0 : leftV V = 0
    · rw [h0] at HLe
      have hke : settV l = (s, 0) := by
        rw [← hSR.eq]
        have := hSR.lt
        cases k with
        | zero => rfl
        | succ k => rw [settW, if_pos h0]
      have HKe := Lib.hid hke
      clear hSR h0 hke Hst
      go_wp2_with fail
      refine HLe.out.mono ?_
      rintro e w4 ⟨rfl, hb4⟩
      have hS4 := HSR.out.hs.kept (Kept.of_below (X := none') hb4) (fun h => h)
      have hR4 := HSR.out.hr.kept (Kept.of_below (X := none') hb4) (fun h => h)
      have HB4 := Lib.hid (HSR.out.bel.trans (hb4.mono HSR.out.bel.size))
      have HS4 := Lib.hid hS4
      have HR4 := Lib.hid hR4
      have s0 := hS4.cell 0 rfl
      have s1 := hS4.cell 1 rfl
      have s2 := hS4.cell 2 rfl
      have r0 := hR4.cell 0 rfl
      have r1 := hR4.cell 1 rfl
      have r2 := hR4.cell 2 rfl
      have x0 := hR4.free 0
      have x1 := hR4.free 1
      have x2 := hR4.free 2
      clear hS4 hR4 hb4
      go_wp2
      refine bodyPost_ret (results_st rfl _ rfl (HR4.out.st0 _ _ _) rfl) rfl ?_
      rw [HKe.out]
      refine ⟨rfl, ?_⟩
      exact ((Kept.of_below (X := fun k => k = w.heap.size) HB4.out).trans (Kept.st0 w4 w.heap.size _ _ _) (fun _ _ h => h)).below (Nat.le_refl _) (fun k h => by omega)
    · obtain ⟨k', rfl⟩ : ∃ k', k = k' + 1 := ⟨k - 1, by have := hSR.lt; omega⟩
      obtain ⟨gl, hgl⟩ : ∃ gl, gl = leftV V := ⟨_, rfl⟩
      rw [← hgl] at HLe
      have hgl0 : (0 : Int) < (gl : Int) := by omega
      have hlv : leftV V < k' + 1 := hSR.lt
      obtain ⟨id, hid⟩ : ∃ id, id = (numV V).1 := ⟨_, rfl⟩
      obtain ⟨V1, hV1⟩ : ∃ V1, V1 = (numV V).2 := ⟨_, rfl⟩
      obtain ⟨v, hv⟩ : ∃ v, v = (numV V1).1 := ⟨_, rfl⟩
      obtain ⟨V2, hV2⟩ : ∃ V2, V2 = (numV V1).2 := ⟨_, rfl⟩
      obtain ⟨ii, hii⟩ : ∃ ii : Int, ii = (id : Int) := ⟨_, rfl⟩
      obtain ⟨vv, hvv⟩ : ∃ vv : Int, vv = (v : Int) := ⟨_, rfl⟩
      obtain ⟨f, hf⟩ : ∃ f, f = V2.fault := ⟨_, rfl⟩
      have hq := hSR.eq
      rw [settW, if_neg h0, ← hid, ← hV1, ← hv, ← hV2, ← hf] at hq
      have hl1 := numV_le V
      rw [← hV1] at hl1
      have hl2 := numV_le V1
      rw [← hV2, ← hf] at hl2
      have hiw : (Lit.int .i64 ii).wf = true := WalkArith.wf_i64 (by have := numV_lt V; omega)
      have HNa : Hid (∀ u, VB u g V va vc → Calls Try.prog 42 #[.pointer (some ⟨g, 0, none⟩)] u fun e w' => e = .returned (.int .i64 ii) ∧ Kept (fun k => k = g) u w' ∧ VB w' g V1 va vc) := Lib.hid (fun u hu => by rw [hii, hid, hV1]; exact number_any u hu)
      have HNb : Hid (∀ u, VB u g V1 va vc → Calls Try.prog 42 #[.pointer (some ⟨g, 0, none⟩)] u fun e w' => e = .returned (.int .i64 vv) ∧ Kept (fun k => k = g) u w' ∧ VB w' g V2 va vc) := Lib.hid (fun u hu => by rw [hvv, hv, hV2]; exact number_any u hu)
      have HFa : Hid (∀ u, VB u g V2 va vc → Calls Try.prog 43 #[.pointer (some ⟨g, 0, none⟩)] u (IntOf u f)) := Lib.hid (fun u hu => by rw [hf]; exact fault_any u hu)
      have hkey : keyOf Try.prog 3 (.int .i64 ii) = some (.int .i64 ii) := keyOf_int_mk Try.underlying3 hiw
      have hsd := hSR.sd id
      rw [← hii] at hsd
      have HC2 : Hid (∀ (z c2 : Int), (D.put (.int .i64 ii) (.lit (.int .i64 z))).atKey (.int .i64 ii) (.lit (.int .i64 0)) = .lit (.int .i64 c2) → c2 = z) := Lib.hid (fun z c2 hz => by
        rw [atKey_put_same hSR.own.isMap (show WideAt.IsKeyLit (.int .i64 ii) from trivial)] at hz
        simpa using hz.symm)
      have hnnl : nn < maxLen := by
        have h1 := hSR.nn
        have h2 := hSR.vb.le
        have h3 := HLn.out
        rw [hSR.vl] at h2
        unfold maxLen; omega
      have HHid := Lib.hid hii
      have HHv := Lib.hid hvv
      have HHf := Lib.hid hf
      have HL1 := Lib.hid hl1
      have HL2 := Lib.hid hl2
      have HLv := Lib.hid hlv
      have hgne : w.heap.size ≠ g ∧ w.heap.size + 1 ≠ g ∧ w.heap.size + 1 + 1 ≠ g := by omega
      clear hSR hgl hl1 hl2 hlv hid hV1 hv hV2 hii hvv hf Hst h0 hiw
      by_cases hf0 : f = 0
      · subst hf0
        rw [if_neg (by simp)] at hq
        by_cases hm : id ∈ seen
        · have HKe : Hid (settV l = (⟨0, 0, 0⟩, 171)) := Lib.hid (by rw [← hq, if_pos (.inl hm)])
          rw [if_pos hm] at hsd
          have HC1 : Hid (∀ c : Int, D.atKey (.int .i64 ii) (.lit (.int .i64 0)) = .lit (.int .i64 c) → c = 1) := Lib.hid (fun c hc => by rw [hsd] at hc; simpa using hc.symm)
          clear hq hsd hm
          go_wp2_with fail
          refine HLe.out.mono ?_
          rintro e w4 ⟨rfl, hb4⟩
          have hV4 := HSR.out.vb.below hb4
          have HB4 := Lib.hid hb4
          have HV4 := Lib.hid hV4
          clear hV4 hb4
          go_wp2_with fail
          refine (HNa.out w4 HV4.out).mono ?_
          rintro e w5 ⟨rfl, hk5, hV5⟩
          have HK5 := Lib.hid ((Kept.of_below (X := fun k => k = g) HB4.out).trans hk5 (fun _ _ h => h))
          have HV5 := Lib.hid hV5
          clear hk5 hV5
          go_wp2_with fail
          refine (HNb.out w5 HV5.out).mono ?_
          rintro e w6 ⟨rfl, hk6, hV6⟩
          have HK6 := Lib.hid (HK5.out.trans hk6 (fun _ _ h => h))
          have HV6 := Lib.hid hV6
          clear hk6 hV6
          go_wp2_with fail
          refine (HFa.out w6 HV6.out).mono ?_
          rintro e w7 ⟨rfl, hb7⟩
          have hk7 := HK6.out.trans (Kept.of_below (X := fun k => k = g) hb7) (fun _ _ h => h)
          have hS7 := HSR.out.hs.kept hk7 hgne.2.1
          have hR7 := HSR.out.hr.kept hk7 hgne.1
          have hown := own_map_kept HSR.out.own hk7 hgne.2.2
          have hlow : Kept (fun k => w.heap.size ≤ k) w w7 := (Kept.of_below HSR.out.bel).trans hk7 (fun k _ e => by have : k = g := e; omega)
          have r0 := hR7.cell 0 rfl
          have r1 := hR7.cell 1 rfl
          have r2 := hR7.cell 2 rfl
          have x0 := hR7.free 0
          have x1 := hR7.free 1
          have x2 := hR7.free 2
          have HS7 := Lib.hid hS7
          have HR7 := Lib.hid hR7
          have HLow := Lib.hid hlow
          have HV7 := Lib.hid (HV6.out.below hb7)
          clear hk7 hS7 hR7 hlow hb7
          go_wp2_with (first
            | (at_lookup; refine wpList_lookup_own_int _ rfl _ _ 78 rfl 3 3 .i64 law_int Try.underlying78 Try.underlying3 (zero_int _) (w.heap.size + 1 + 1) nn _ rfl hown _ _ rfl hkey ?_; intro c1 hat hwc; obtain rfl := HC1.out c1 hat)
            | (at_lookup; refine wpList_lookup_own_int _ rfl _ _ 78 rfl 3 3 .i64 law_int Try.underlying78 Try.underlying3 (zero_int _) (w.heap.size + 1 + 1) (nn + 1) _ rfl hown1 _ _ rfl hkey ?_; intro c2 hat2 hwc2; obtain rfl : c2 = 2 := (HC2.out _ c2 hat2).trans (by decide))
            | (at_mapUpdate; refine wpList_mapUpdate_own _ rfl _ _ _ 78 rfl 3 3 law_int Try.underlying78 _ (w.heap.size + 1 + 1) nn _ rfl hown hnnl _ _ _ rfl rfl hkey _ [] (plainElem_int Try.underlying3 (by first | exact wrap64_wf _ | decide)) ?_; intro w8 hown1 hgrow1
               have hk8 := Kept.of_grown hgrow1
               have hS8 := HS7.out.kept hk8 (by simp)
               have hR8 := HR7.out.kept hk8 (by simp; omega)
               have q0 := hR8.cell 0 rfl
               have q1 := hR8.cell 1 rfl
               have q2 := hR8.cell 2 rfl
               have y0 := hR8.free 0
               have y1 := hR8.free 1
               have y2 := hR8.free 2
               have m0 := hS8.cell 0 rfl
               have m1 := hS8.cell 1 rfl
               have m2 := hS8.cell 2 rfl
               have z0 := hS8.free 0
               have z1 := hS8.free 1
               have z2 := hS8.free 2
               have HS8 := Lib.hid hS8
               have HR8 := Lib.hid hR8
               have HV8 := Lib.hid (HV7.out.kept hk8 (by simp; omega) (fun ad ha => by have := HVa.out ad ha; simp; omega))
               have HLow8 := Lib.hid (HLow.out.trans hk8 (fun k _ h => by simp at h; omega))
               clear hS8 hR8 hk8))
          go_wp2
          refine bodyPost_ret (results_st rfl _ rfl (HR8.out.st0 _ _ _) rfl) rfl ?_
          rw [HKe.out]
          refine ⟨rfl, ?_⟩
          exact (HLow8.out.trans (Kept.st0 _ w.heap.size _ _ _) (fun k _ (h : k = w.heap.size) => by omega)).below (Nat.le_refl _) (fun k h => h)
        · rw [if_neg hm] at hsd
          have HC1 : Hid (∀ c : Int, D.atKey (.int .i64 ii) (.lit (.int .i64 0)) = .lit (.int .i64 c) → c = 0) := Lib.hid (fun c hc => by rw [hsd] at hc; simpa using hc.symm)
          have HM := Lib.hid hm
          clear hsd
          by_cases hr : 2 ≤ id ∧ id ≤ 5
          · have HKe : Hid (settV l = (⟨0, 0, 0⟩, 171)) := Lib.hid (by rw [← hq, if_pos (.inr hr)])
            have hr1 : (2 : Int) ≤ ii := by have := HHid.out; omega
            have hr2 : ii ≤ (5 : Int) := by have := HHid.out; omega
            clear hq hm hr
            go_wp2_with fail
            refine HLe.out.mono ?_
            rintro e w4 ⟨rfl, hb4⟩
            have hV4 := HSR.out.vb.below hb4
            have HB4 := Lib.hid hb4
            have HV4 := Lib.hid hV4
            clear hV4 hb4
            go_wp2_with fail
            refine (HNa.out w4 HV4.out).mono ?_
            rintro e w5 ⟨rfl, hk5, hV5⟩
            have HK5 := Lib.hid ((Kept.of_below (X := fun k => k = g) HB4.out).trans hk5 (fun _ _ h => h))
            have HV5 := Lib.hid hV5
            clear hk5 hV5
            go_wp2_with fail
            refine (HNb.out w5 HV5.out).mono ?_
            rintro e w6 ⟨rfl, hk6, hV6⟩
            have HK6 := Lib.hid (HK5.out.trans hk6 (fun _ _ h => h))
            have HV6 := Lib.hid hV6
            clear hk6 hV6
            go_wp2_with fail
            refine (HFa.out w6 HV6.out).mono ?_
            rintro e w7 ⟨rfl, hb7⟩
            have hk7 := HK6.out.trans (Kept.of_below (X := fun k => k = g) hb7) (fun _ _ h => h)
            have hS7 := HSR.out.hs.kept hk7 hgne.2.1
            have hR7 := HSR.out.hr.kept hk7 hgne.1
            have hown := own_map_kept HSR.out.own hk7 hgne.2.2
            have hlow : Kept (fun k => w.heap.size ≤ k) w w7 := (Kept.of_below HSR.out.bel).trans hk7 (fun k _ e => by have : k = g := e; omega)
            have r0 := hR7.cell 0 rfl
            have r1 := hR7.cell 1 rfl
            have r2 := hR7.cell 2 rfl
            have x0 := hR7.free 0
            have x1 := hR7.free 1
            have x2 := hR7.free 2
            have HS7 := Lib.hid hS7
            have HR7 := Lib.hid hR7
            have HLow := Lib.hid hlow
            have HV7 := Lib.hid (HV6.out.below hb7)
            clear hk7 hS7 hR7 hlow hb7
            go_wp2_with (first
              | (at_lookup; refine wpList_lookup_own_int _ rfl _ _ 78 rfl 3 3 .i64 law_int Try.underlying78 Try.underlying3 (zero_int _) (w.heap.size + 1 + 1) nn _ rfl hown _ _ rfl hkey ?_; intro c1 hat hwc; obtain rfl := HC1.out c1 hat)
              | (at_lookup; refine wpList_lookup_own_int _ rfl _ _ 78 rfl 3 3 .i64 law_int Try.underlying78 Try.underlying3 (zero_int _) (w.heap.size + 1 + 1) (nn + 1) _ rfl hown1 _ _ rfl hkey ?_; intro c2 hat2 hwc2; obtain rfl : c2 = 1 := (HC2.out _ c2 hat2).trans (by decide))
              | (at_mapUpdate; refine wpList_mapUpdate_own _ rfl _ _ _ 78 rfl 3 3 law_int Try.underlying78 _ (w.heap.size + 1 + 1) nn _ rfl hown hnnl _ _ _ rfl rfl hkey _ [] (plainElem_int Try.underlying3 (by first | exact wrap64_wf _ | decide)) ?_; intro w8 hown1 hgrow1
                 have hk8 := Kept.of_grown hgrow1
                 have hS8 := HS7.out.kept hk8 (by simp)
                 have hR8 := HR7.out.kept hk8 (by simp; omega)
                 have q0 := hR8.cell 0 rfl
                 have q1 := hR8.cell 1 rfl
                 have q2 := hR8.cell 2 rfl
                 have y0 := hR8.free 0
                 have y1 := hR8.free 1
                 have y2 := hR8.free 2
                 have m0 := hS8.cell 0 rfl
                 have m1 := hS8.cell 1 rfl
                 have m2 := hS8.cell 2 rfl
                 have z0 := hS8.free 0
                 have z1 := hS8.free 1
                 have z2 := hS8.free 2
                 have HS8 := Lib.hid hS8
                 have HR8 := Lib.hid hR8
                 have HV8 := Lib.hid (HV7.out.kept hk8 (by simp; omega) (fun ad ha => by have := HVa.out ad ha; simp; omega))
                 have HLow8 := Lib.hid (HLow.out.trans hk8 (fun k _ h => by simp at h; omega))
                 clear hS8 hR8 hk8))
            go_wp2
            refine bodyPost_ret (results_st rfl _ rfl (HR8.out.st0 _ _ _) rfl) rfl ?_
            rw [HKe.out]
            refine ⟨rfl, ?_⟩
            exact (HLow8.out.trans (Kept.st0 _ w.heap.size _ _ _) (fun k _ (h : k = w.heap.size) => by omega)).below (Nat.le_refl _) (fun k h => h)
          · rw [if_neg (by simp only [hm, false_or]; exact hr)] at hq
            have HQ := Lib.hid hq
            clear hq hm
            by_cases hi1 : id = 1
            · have HI := Lib.hid hi1
              obtain rfl : ii = 1 := by have := HHid.out; omega
              clear hr hi1
              go_wp2_with fail
              refine HLe.out.mono ?_
              rintro e w4 ⟨rfl, hb4⟩
              have hV4 := HSR.out.vb.below hb4
              have HB4 := Lib.hid hb4
              have HV4 := Lib.hid hV4
              clear hV4 hb4
              go_wp2_with fail
              refine (HNa.out w4 HV4.out).mono ?_
              rintro e w5 ⟨rfl, hk5, hV5⟩
              have HK5 := Lib.hid ((Kept.of_below (X := fun k => k = g) HB4.out).trans hk5 (fun _ _ h => h))
              have HV5 := Lib.hid hV5
              clear hk5 hV5
              go_wp2_with fail
              refine (HNb.out w5 HV5.out).mono ?_
              rintro e w6 ⟨rfl, hk6, hV6⟩
              have HK6 := Lib.hid (HK5.out.trans hk6 (fun _ _ h => h))
              have HV6 := Lib.hid hV6
              clear hk6 hV6
              go_wp2_with fail
              refine (HFa.out w6 HV6.out).mono ?_
              rintro e w7 ⟨rfl, hb7⟩
              have hk7 := HK6.out.trans (Kept.of_below (X := fun k => k = g) hb7) (fun _ _ h => h)
              have hS7 := HSR.out.hs.kept hk7 hgne.2.1
              have hR7 := HSR.out.hr.kept hk7 hgne.1
              have hown := own_map_kept HSR.out.own hk7 hgne.2.2
              have hlow : Kept (fun k => w.heap.size ≤ k) w w7 := (Kept.of_below HSR.out.bel).trans hk7 (fun k _ e => by have : k = g := e; omega)
              have r0 := hR7.cell 0 rfl
              have r1 := hR7.cell 1 rfl
              have r2 := hR7.cell 2 rfl
              have x0 := hR7.free 0
              have x1 := hR7.free 1
              have x2 := hR7.free 2
              have HS7 := Lib.hid hS7
              have HR7 := Lib.hid hR7
              have HLow := Lib.hid hlow
              have HV7 := Lib.hid (HV6.out.below hb7)
              clear hk7 hS7 hR7 hlow hb7
              go_wp2_with (first
                | (at_lookup; refine wpList_lookup_own_int _ rfl _ _ 78 rfl 3 3 .i64 law_int Try.underlying78 Try.underlying3 (zero_int _) (w.heap.size + 1 + 1) nn _ rfl hown _ _ rfl hkey ?_; intro c1 hat hwc; obtain rfl := HC1.out c1 hat)
                | (at_lookup; refine wpList_lookup_own_int _ rfl _ _ 78 rfl 3 3 .i64 law_int Try.underlying78 Try.underlying3 (zero_int _) (w.heap.size + 1 + 1) (nn + 1) _ rfl hown1 _ _ rfl hkey ?_; intro c2 hat2 hwc2; obtain rfl : c2 = 1 := (HC2.out _ c2 hat2).trans (by decide))
                | (at_mapUpdate; refine wpList_mapUpdate_own _ rfl _ _ _ 78 rfl 3 3 law_int Try.underlying78 _ (w.heap.size + 1 + 1) nn _ rfl hown hnnl _ _ _ rfl rfl hkey _ [] (plainElem_int Try.underlying3 (by first | exact wrap64_wf _ | decide)) ?_; intro w8 hown1 hgrow1
                   have hk8 := Kept.of_grown hgrow1
                   have hS8 := HS7.out.kept hk8 (by simp)
                   have hR8 := HR7.out.kept hk8 (by simp; omega)
                   have q0 := hR8.cell 0 rfl
                   have q1 := hR8.cell 1 rfl
                   have q2 := hR8.cell 2 rfl
                   have y0 := hR8.free 0
                   have y1 := hR8.free 1
                   have y2 := hR8.free 2
                   have m0 := hS8.cell 0 rfl
                   have m1 := hS8.cell 1 rfl
                   have m2 := hS8.cell 2 rfl
                   have z0 := hS8.free 0
                   have z1 := hS8.free 1
                   have z2 := hS8.free 2
                   have HS8 := Lib.hid hS8
                   have HR8 := Lib.hid hR8
                   have HV8 := Lib.hid (HV7.out.kept hk8 (by simp; omega) (fun ad ha => by have := HVa.out ad ha; simp; omega))
                   have HLow8 := Lib.hid (HLow.out.trans hk8 (fun k _ h => by simp at h; omega))
                   clear hS8 hR8 hk8))
              go_wp2_with fail
              have h9 : Kept (fun k => k = w.heap.size + 1) w8 (w8.setCell ⟨w.heap.size + 1, 0, none⟩ (.int .i64 vv)) := Kept.set w8 (w.heap.size + 1) 0 (.int .i64 vv)
              have hV9 := HV8.out.kept h9 (by omega) (fun ad ha => by have := HVa.out ad ha; omega)
              have hat : V.at_ < V2.at_ := by have := HL1.out.2.1; have := (HL2.out.2.2 trivial).2; omega
              have hln : V2.l = V.l := HL2.out.1.trans HL1.out.1
              have hSR9 : SR w (w8.setCell ⟨w.heap.size + 1, 0, none⟩ (.int .i64 vv)) l g va vc V2 (id :: seen) (s.put id v) k' (D.put (.int .i64 1) (.lit (.int .i64 1))) (nn + 1) := by
                refine ⟨hV9, hln.trans HSR.out.vl, HHf.out.symm, ?_, HR8.out.kept h9 (by omega), ?_, ?_, by have := HSR.out.nn; omega, HQ.out, ?_, ?_⟩
                · have e : scells (s.put id v) = (scells s).set 0 (.int .i64 vv) := by simp [St.put, scells, HI.out]; rw [HHv.out]
                  rw [e]; exact HS8.out.set 0 (.int .i64 vv)
                · exact hown1.setCell (by simp) _
                · have h := SeenD.put HSR.out.sd HSR.out.own.isMap id trivial
                  rw [← HHid.out] at h
                  exact h
                · have h1 := leftV_ok HSR.out.vf
                  have h2 := leftV_ok (V := V2) HHf.out.symm
                  have h3 := HLv.out
                  have h4 := HV8.out.le
                  rw [hln] at h2 h4
                  omega
                · exact (HLow8.out.trans h9 (fun k hk h => by omega)).below (Nat.le_refl _) (fun k h => h)
              have HSR9 := Lib.hid hSR9
              have HMs : Hid (l.length - atW (w8.setCell ⟨w.heap.size + 1, 0, none⟩ (.int .i64 vv)) g < l.length - atW wr g) := Lib.hid (by
                rw [hV9.atW, HSR.out.vb.atW]
                have h4 := HV8.out.le
                rw [hln, HSR.out.vl] at h4
                omega)
              clear h9 hV9 hat hln hSR9
              go_roundw
              case rel => exact ⟨V2, id :: seen, s.put id v, k', _, nn + 1, HSR9.out⟩
              case measure => exact HMs.out
            by_cases hi6 : id = 6
            · have HI := Lib.hid hi6
              obtain rfl : ii = 6 := by have := HHid.out; omega
              clear hr hi6
              clear hi1
              go_wp2_with fail
              refine HLe.out.mono ?_
              rintro e w4 ⟨rfl, hb4⟩
              have hV4 := HSR.out.vb.below hb4
              have HB4 := Lib.hid hb4
              have HV4 := Lib.hid hV4
              clear hV4 hb4
              go_wp2_with fail
              refine (HNa.out w4 HV4.out).mono ?_
              rintro e w5 ⟨rfl, hk5, hV5⟩
              have HK5 := Lib.hid ((Kept.of_below (X := fun k => k = g) HB4.out).trans hk5 (fun _ _ h => h))
              have HV5 := Lib.hid hV5
              clear hk5 hV5
              go_wp2_with fail
              refine (HNb.out w5 HV5.out).mono ?_
              rintro e w6 ⟨rfl, hk6, hV6⟩
              have HK6 := Lib.hid (HK5.out.trans hk6 (fun _ _ h => h))
              have HV6 := Lib.hid hV6
              clear hk6 hV6
              go_wp2_with fail
              refine (HFa.out w6 HV6.out).mono ?_
              rintro e w7 ⟨rfl, hb7⟩
              have hk7 := HK6.out.trans (Kept.of_below (X := fun k => k = g) hb7) (fun _ _ h => h)
              have hS7 := HSR.out.hs.kept hk7 hgne.2.1
              have hR7 := HSR.out.hr.kept hk7 hgne.1
              have hown := own_map_kept HSR.out.own hk7 hgne.2.2
              have hlow : Kept (fun k => w.heap.size ≤ k) w w7 := (Kept.of_below HSR.out.bel).trans hk7 (fun k _ e => by have : k = g := e; omega)
              have r0 := hR7.cell 0 rfl
              have r1 := hR7.cell 1 rfl
              have r2 := hR7.cell 2 rfl
              have x0 := hR7.free 0
              have x1 := hR7.free 1
              have x2 := hR7.free 2
              have HS7 := Lib.hid hS7
              have HR7 := Lib.hid hR7
              have HLow := Lib.hid hlow
              have HV7 := Lib.hid (HV6.out.below hb7)
              clear hk7 hS7 hR7 hlow hb7
              go_wp2_with (first
                | (at_lookup; refine wpList_lookup_own_int _ rfl _ _ 78 rfl 3 3 .i64 law_int Try.underlying78 Try.underlying3 (zero_int _) (w.heap.size + 1 + 1) nn _ rfl hown _ _ rfl hkey ?_; intro c1 hat hwc; obtain rfl := HC1.out c1 hat)
                | (at_lookup; refine wpList_lookup_own_int _ rfl _ _ 78 rfl 3 3 .i64 law_int Try.underlying78 Try.underlying3 (zero_int _) (w.heap.size + 1 + 1) (nn + 1) _ rfl hown1 _ _ rfl hkey ?_; intro c2 hat2 hwc2; obtain rfl : c2 = 1 := (HC2.out _ c2 hat2).trans (by decide))
                | (at_mapUpdate; refine wpList_mapUpdate_own _ rfl _ _ _ 78 rfl 3 3 law_int Try.underlying78 _ (w.heap.size + 1 + 1) nn _ rfl hown hnnl _ _ _ rfl rfl hkey _ [] (plainElem_int Try.underlying3 (by first | exact wrap64_wf _ | decide)) ?_; intro w8 hown1 hgrow1
                   have hk8 := Kept.of_grown hgrow1
                   have hS8 := HS7.out.kept hk8 (by simp)
                   have hR8 := HR7.out.kept hk8 (by simp; omega)
                   have q0 := hR8.cell 0 rfl
                   have q1 := hR8.cell 1 rfl
                   have q2 := hR8.cell 2 rfl
                   have y0 := hR8.free 0
                   have y1 := hR8.free 1
                   have y2 := hR8.free 2
                   have m0 := hS8.cell 0 rfl
                   have m1 := hS8.cell 1 rfl
                   have m2 := hS8.cell 2 rfl
                   have z0 := hS8.free 0
                   have z1 := hS8.free 1
                   have z2 := hS8.free 2
                   have HS8 := Lib.hid hS8
                   have HR8 := Lib.hid hR8
                   have HV8 := Lib.hid (HV7.out.kept hk8 (by simp; omega) (fun ad ha => by have := HVa.out ad ha; simp; omega))
                   have HLow8 := Lib.hid (HLow.out.trans hk8 (fun k _ h => by simp at h; omega))
                   clear hS8 hR8 hk8))
              go_wp2_with fail
              have h9 : Kept (fun k => k = w.heap.size + 1) w8 (w8.setCell ⟨w.heap.size + 1, 2, none⟩ (.int .i64 vv)) := Kept.set w8 (w.heap.size + 1) 2 (.int .i64 vv)
              have hV9 := HV8.out.kept h9 (by omega) (fun ad ha => by have := HVa.out ad ha; omega)
              have hat : V.at_ < V2.at_ := by have := HL1.out.2.1; have := (HL2.out.2.2 trivial).2; omega
              have hln : V2.l = V.l := HL2.out.1.trans HL1.out.1
              have hSR9 : SR w (w8.setCell ⟨w.heap.size + 1, 2, none⟩ (.int .i64 vv)) l g va vc V2 (id :: seen) (s.put id v) k' (D.put (.int .i64 6) (.lit (.int .i64 1))) (nn + 1) := by
                refine ⟨hV9, hln.trans HSR.out.vl, HHf.out.symm, ?_, HR8.out.kept h9 (by omega), ?_, ?_, by have := HSR.out.nn; omega, HQ.out, ?_, ?_⟩
                · have e : scells (s.put id v) = (scells s).set 2 (.int .i64 vv) := by simp [St.put, scells, HI.out]; rw [HHv.out]
                  rw [e]; exact HS8.out.set 2 (.int .i64 vv)
                · exact hown1.setCell (by simp) _
                · have h := SeenD.put HSR.out.sd HSR.out.own.isMap id trivial
                  rw [← HHid.out] at h
                  exact h
                · have h1 := leftV_ok HSR.out.vf
                  have h2 := leftV_ok (V := V2) HHf.out.symm
                  have h3 := HLv.out
                  have h4 := HV8.out.le
                  rw [hln] at h2 h4
                  omega
                · exact (HLow8.out.trans h9 (fun k hk h => by omega)).below (Nat.le_refl _) (fun k h => h)
              have HSR9 := Lib.hid hSR9
              have HMs : Hid (l.length - atW (w8.setCell ⟨w.heap.size + 1, 2, none⟩ (.int .i64 vv)) g < l.length - atW wr g) := Lib.hid (by
                rw [hV9.atW, HSR.out.vb.atW]
                have h4 := HV8.out.le
                rw [hln, HSR.out.vl] at h4
                omega)
              clear h9 hV9 hat hln hSR9
              go_roundw
              case rel => exact ⟨V2, id :: seen, s.put id v, k', _, nn + 1, HSR9.out⟩
              case measure => exact HMs.out
            by_cases hi7 : id = 7
            · have HI := Lib.hid hi7
              obtain rfl : ii = 7 := by have := HHid.out; omega
              clear hr hi7
              clear hi1
              clear hi6
              go_wp2_with fail
              refine HLe.out.mono ?_
              rintro e w4 ⟨rfl, hb4⟩
              have hV4 := HSR.out.vb.below hb4
              have HB4 := Lib.hid hb4
              have HV4 := Lib.hid hV4
              clear hV4 hb4
              go_wp2_with fail
              refine (HNa.out w4 HV4.out).mono ?_
              rintro e w5 ⟨rfl, hk5, hV5⟩
              have HK5 := Lib.hid ((Kept.of_below (X := fun k => k = g) HB4.out).trans hk5 (fun _ _ h => h))
              have HV5 := Lib.hid hV5
              clear hk5 hV5
              go_wp2_with fail
              refine (HNb.out w5 HV5.out).mono ?_
              rintro e w6 ⟨rfl, hk6, hV6⟩
              have HK6 := Lib.hid (HK5.out.trans hk6 (fun _ _ h => h))
              have HV6 := Lib.hid hV6
              clear hk6 hV6
              go_wp2_with fail
              refine (HFa.out w6 HV6.out).mono ?_
              rintro e w7 ⟨rfl, hb7⟩
              have hk7 := HK6.out.trans (Kept.of_below (X := fun k => k = g) hb7) (fun _ _ h => h)
              have hS7 := HSR.out.hs.kept hk7 hgne.2.1
              have hR7 := HSR.out.hr.kept hk7 hgne.1
              have hown := own_map_kept HSR.out.own hk7 hgne.2.2
              have hlow : Kept (fun k => w.heap.size ≤ k) w w7 := (Kept.of_below HSR.out.bel).trans hk7 (fun k _ e => by have : k = g := e; omega)
              have r0 := hR7.cell 0 rfl
              have r1 := hR7.cell 1 rfl
              have r2 := hR7.cell 2 rfl
              have x0 := hR7.free 0
              have x1 := hR7.free 1
              have x2 := hR7.free 2
              have HS7 := Lib.hid hS7
              have HR7 := Lib.hid hR7
              have HLow := Lib.hid hlow
              have HV7 := Lib.hid (HV6.out.below hb7)
              clear hk7 hS7 hR7 hlow hb7
              go_wp2_with (first
                | (at_lookup; refine wpList_lookup_own_int _ rfl _ _ 78 rfl 3 3 .i64 law_int Try.underlying78 Try.underlying3 (zero_int _) (w.heap.size + 1 + 1) nn _ rfl hown _ _ rfl hkey ?_; intro c1 hat hwc; obtain rfl := HC1.out c1 hat)
                | (at_lookup; refine wpList_lookup_own_int _ rfl _ _ 78 rfl 3 3 .i64 law_int Try.underlying78 Try.underlying3 (zero_int _) (w.heap.size + 1 + 1) (nn + 1) _ rfl hown1 _ _ rfl hkey ?_; intro c2 hat2 hwc2; obtain rfl : c2 = 1 := (HC2.out _ c2 hat2).trans (by decide))
                | (at_mapUpdate; refine wpList_mapUpdate_own _ rfl _ _ _ 78 rfl 3 3 law_int Try.underlying78 _ (w.heap.size + 1 + 1) nn _ rfl hown hnnl _ _ _ rfl rfl hkey _ [] (plainElem_int Try.underlying3 (by first | exact wrap64_wf _ | decide)) ?_; intro w8 hown1 hgrow1
                   have hk8 := Kept.of_grown hgrow1
                   have hS8 := HS7.out.kept hk8 (by simp)
                   have hR8 := HR7.out.kept hk8 (by simp; omega)
                   have q0 := hR8.cell 0 rfl
                   have q1 := hR8.cell 1 rfl
                   have q2 := hR8.cell 2 rfl
                   have y0 := hR8.free 0
                   have y1 := hR8.free 1
                   have y2 := hR8.free 2
                   have m0 := hS8.cell 0 rfl
                   have m1 := hS8.cell 1 rfl
                   have m2 := hS8.cell 2 rfl
                   have z0 := hS8.free 0
                   have z1 := hS8.free 1
                   have z2 := hS8.free 2
                   have HS8 := Lib.hid hS8
                   have HR8 := Lib.hid hR8
                   have HV8 := Lib.hid (HV7.out.kept hk8 (by simp; omega) (fun ad ha => by have := HVa.out ad ha; simp; omega))
                   have HLow8 := Lib.hid (HLow.out.trans hk8 (fun k _ h => by simp at h; omega))
                   clear hS8 hR8 hk8))
              go_wp2_with fail
              have h9 : Kept (fun k => k = w.heap.size + 1) w8 (w8.setCell ⟨w.heap.size + 1, 1, none⟩ (.int .i64 vv)) := Kept.set w8 (w.heap.size + 1) 1 (.int .i64 vv)
              have hV9 := HV8.out.kept h9 (by omega) (fun ad ha => by have := HVa.out ad ha; omega)
              have hat : V.at_ < V2.at_ := by have := HL1.out.2.1; have := (HL2.out.2.2 trivial).2; omega
              have hln : V2.l = V.l := HL2.out.1.trans HL1.out.1
              have hSR9 : SR w (w8.setCell ⟨w.heap.size + 1, 1, none⟩ (.int .i64 vv)) l g va vc V2 (id :: seen) (s.put id v) k' (D.put (.int .i64 7) (.lit (.int .i64 1))) (nn + 1) := by
                refine ⟨hV9, hln.trans HSR.out.vl, HHf.out.symm, ?_, HR8.out.kept h9 (by omega), ?_, ?_, by have := HSR.out.nn; omega, HQ.out, ?_, ?_⟩
                · have e : scells (s.put id v) = (scells s).set 1 (.int .i64 vv) := by simp [St.put, scells, HI.out]; rw [HHv.out]
                  rw [e]; exact HS8.out.set 1 (.int .i64 vv)
                · exact hown1.setCell (by simp) _
                · have h := SeenD.put HSR.out.sd HSR.out.own.isMap id trivial
                  rw [← HHid.out] at h
                  exact h
                · have h1 := leftV_ok HSR.out.vf
                  have h2 := leftV_ok (V := V2) HHf.out.symm
                  have h3 := HLv.out
                  have h4 := HV8.out.le
                  rw [hln] at h2 h4
                  omega
                · exact (HLow8.out.trans h9 (fun k hk h => by omega)).below (Nat.le_refl _) (fun k h => h)
              have HSR9 := Lib.hid hSR9
              have HMs : Hid (l.length - atW (w8.setCell ⟨w.heap.size + 1, 1, none⟩ (.int .i64 vv)) g < l.length - atW wr g) := Lib.hid (by
                rw [hV9.atW, HSR.out.vb.atW]
                have h4 := HV8.out.le
                rw [hln, HSR.out.vl] at h4
                omega)
              clear h9 hV9 hat hln hSR9
              go_roundw
              case rel => exact ⟨V2, id :: seen, s.put id v, k', _, nn + 1, HSR9.out⟩
              case measure => exact HMs.out
            by_cases hi0 : id = 0
            · have HI := Lib.hid hi0
              obtain rfl : ii = 0 := by have := HHid.out; omega
              clear hr hi0
              clear hi1
              clear hi6
              clear hi7
              go_wp2_with fail
              refine HLe.out.mono ?_
              rintro e w4 ⟨rfl, hb4⟩
              have hV4 := HSR.out.vb.below hb4
              have HB4 := Lib.hid hb4
              have HV4 := Lib.hid hV4
              clear hV4 hb4
              go_wp2_with fail
              refine (HNa.out w4 HV4.out).mono ?_
              rintro e w5 ⟨rfl, hk5, hV5⟩
              have HK5 := Lib.hid ((Kept.of_below (X := fun k => k = g) HB4.out).trans hk5 (fun _ _ h => h))
              have HV5 := Lib.hid hV5
              clear hk5 hV5
              go_wp2_with fail
              refine (HNb.out w5 HV5.out).mono ?_
              rintro e w6 ⟨rfl, hk6, hV6⟩
              have HK6 := Lib.hid (HK5.out.trans hk6 (fun _ _ h => h))
              have HV6 := Lib.hid hV6
              clear hk6 hV6
              go_wp2_with fail
              refine (HFa.out w6 HV6.out).mono ?_
              rintro e w7 ⟨rfl, hb7⟩
              have hk7 := HK6.out.trans (Kept.of_below (X := fun k => k = g) hb7) (fun _ _ h => h)
              have hS7 := HSR.out.hs.kept hk7 hgne.2.1
              have hR7 := HSR.out.hr.kept hk7 hgne.1
              have hown := own_map_kept HSR.out.own hk7 hgne.2.2
              have hlow : Kept (fun k => w.heap.size ≤ k) w w7 := (Kept.of_below HSR.out.bel).trans hk7 (fun k _ e => by have : k = g := e; omega)
              have r0 := hR7.cell 0 rfl
              have r1 := hR7.cell 1 rfl
              have r2 := hR7.cell 2 rfl
              have x0 := hR7.free 0
              have x1 := hR7.free 1
              have x2 := hR7.free 2
              have HS7 := Lib.hid hS7
              have HR7 := Lib.hid hR7
              have HLow := Lib.hid hlow
              have HV7 := Lib.hid (HV6.out.below hb7)
              clear hk7 hS7 hR7 hlow hb7
              go_wp2_with (first
                | (at_lookup; refine wpList_lookup_own_int _ rfl _ _ 78 rfl 3 3 .i64 law_int Try.underlying78 Try.underlying3 (zero_int _) (w.heap.size + 1 + 1) nn _ rfl hown _ _ rfl hkey ?_; intro c1 hat hwc; obtain rfl := HC1.out c1 hat)
                | (at_lookup; refine wpList_lookup_own_int _ rfl _ _ 78 rfl 3 3 .i64 law_int Try.underlying78 Try.underlying3 (zero_int _) (w.heap.size + 1 + 1) (nn + 1) _ rfl hown1 _ _ rfl hkey ?_; intro c2 hat2 hwc2; obtain rfl : c2 = 1 := (HC2.out _ c2 hat2).trans (by decide))
                | (at_mapUpdate; refine wpList_mapUpdate_own _ rfl _ _ _ 78 rfl 3 3 law_int Try.underlying78 _ (w.heap.size + 1 + 1) nn _ rfl hown hnnl _ _ _ rfl rfl hkey _ [] (plainElem_int Try.underlying3 (by first | exact wrap64_wf _ | decide)) ?_; intro w8 hown1 hgrow1
                   have hk8 := Kept.of_grown hgrow1
                   have hS8 := HS7.out.kept hk8 (by simp)
                   have hR8 := HR7.out.kept hk8 (by simp; omega)
                   have q0 := hR8.cell 0 rfl
                   have q1 := hR8.cell 1 rfl
                   have q2 := hR8.cell 2 rfl
                   have y0 := hR8.free 0
                   have y1 := hR8.free 1
                   have y2 := hR8.free 2
                   have m0 := hS8.cell 0 rfl
                   have m1 := hS8.cell 1 rfl
                   have m2 := hS8.cell 2 rfl
                   have z0 := hS8.free 0
                   have z1 := hS8.free 1
                   have z2 := hS8.free 2
                   have HS8 := Lib.hid hS8
                   have HR8 := Lib.hid hR8
                   have HV8 := Lib.hid (HV7.out.kept hk8 (by simp; omega) (fun ad ha => by have := HVa.out ad ha; simp; omega))
                   have HLow8 := Lib.hid (HLow.out.trans hk8 (fun k _ h => by simp at h; omega))
                   clear hS8 hR8 hk8))
              go_wp2_with fail
              have h9 : Kept none' w8 w8 := Kept.refl _ w8
              have hV9 := HV8.out.kept h9 (fun h => h) (fun ad ha => fun h => h)
              have hat : V.at_ < V2.at_ := by have := HL1.out.2.1; have := (HL2.out.2.2 trivial).2; omega
              have hln : V2.l = V.l := HL2.out.1.trans HL1.out.1
              have hSR9 : SR w w8 l g va vc V2 (id :: seen) (s.put id v) k' (D.put (.int .i64 0) (.lit (.int .i64 1))) (nn + 1) := by
                refine ⟨hV9, hln.trans HSR.out.vl, HHf.out.symm, ?_, HR8.out.kept h9 (fun h => h), ?_, ?_, by have := HSR.out.nn; omega, HQ.out, ?_, ?_⟩
                · have e : scells (s.put id v) = scells s := by have := HI.out; simp only [St.put]; rw [if_neg (by omega), if_neg (by omega), if_neg (by omega)]
                  rw [e]; exact HS8.out
                · exact hown1
                · have h := SeenD.put HSR.out.sd HSR.out.own.isMap id trivial
                  rw [← HHid.out] at h
                  exact h
                · have h1 := leftV_ok HSR.out.vf
                  have h2 := leftV_ok (V := V2) HHf.out.symm
                  have h3 := HLv.out
                  have h4 := HV8.out.le
                  rw [hln] at h2 h4
                  omega
                · exact (HLow8.out.trans h9 (fun k hk h => by exact h.elim)).below (Nat.le_refl _) (fun k h => h)
              have HSR9 := Lib.hid hSR9
              have HMs : Hid (l.length - atW w8 g < l.length - atW wr g) := Lib.hid (by
                rw [hV9.atW, HSR.out.vb.atW]
                have h4 := HV8.out.le
                rw [hln, HSR.out.vl] at h4
                omega)
              clear h9 hV9 hat hln hSR9
              go_roundw
              case rel => exact ⟨V2, id :: seen, s.put id v, k', _, nn + 1, HSR9.out⟩
              case measure => exact HMs.out
            have HI : Hid (8 ≤ id) := Lib.hid (by omega)
            have g8 : (8 : Int) ≤ ii := by have := HHid.out; have := HI.out; omega
            have k1 : (ii == 1) = false := by simp; omega
            have k6 : (ii == 6) = false := by simp; omega
            have k7 : (ii == 7) = false := by simp; omega
            have k5 : ¬ ii ≤ (5 : Int) := by omega
            have k2 : (2 : Int) ≤ ii := by omega
            clear hr hi1 hi6 hi7 hi0
            go_wp2_with fail
            refine HLe.out.mono ?_
            rintro e w4 ⟨rfl, hb4⟩
            have hV4 := HSR.out.vb.below hb4
            have HB4 := Lib.hid hb4
            have HV4 := Lib.hid hV4
            clear hV4 hb4
            go_wp2_with fail
            refine (HNa.out w4 HV4.out).mono ?_
            rintro e w5 ⟨rfl, hk5, hV5⟩
            have HK5 := Lib.hid ((Kept.of_below (X := fun k => k = g) HB4.out).trans hk5 (fun _ _ h => h))
            have HV5 := Lib.hid hV5
            clear hk5 hV5
            go_wp2_with fail
            refine (HNb.out w5 HV5.out).mono ?_
            rintro e w6 ⟨rfl, hk6, hV6⟩
            have HK6 := Lib.hid (HK5.out.trans hk6 (fun _ _ h => h))
            have HV6 := Lib.hid hV6
            clear hk6 hV6
            go_wp2_with fail
            refine (HFa.out w6 HV6.out).mono ?_
            rintro e w7 ⟨rfl, hb7⟩
            have hk7 := HK6.out.trans (Kept.of_below (X := fun k => k = g) hb7) (fun _ _ h => h)
            have hS7 := HSR.out.hs.kept hk7 hgne.2.1
            have hR7 := HSR.out.hr.kept hk7 hgne.1
            have hown := own_map_kept HSR.out.own hk7 hgne.2.2
            have hlow : Kept (fun k => w.heap.size ≤ k) w w7 := (Kept.of_below HSR.out.bel).trans hk7 (fun k _ e => by have : k = g := e; omega)
            have r0 := hR7.cell 0 rfl
            have r1 := hR7.cell 1 rfl
            have r2 := hR7.cell 2 rfl
            have x0 := hR7.free 0
            have x1 := hR7.free 1
            have x2 := hR7.free 2
            have HS7 := Lib.hid hS7
            have HR7 := Lib.hid hR7
            have HLow := Lib.hid hlow
            have HV7 := Lib.hid (HV6.out.below hb7)
            clear hk7 hS7 hR7 hlow hb7
            go_wp2_with (first
              | (at_lookup; refine wpList_lookup_own_int _ rfl _ _ 78 rfl 3 3 .i64 law_int Try.underlying78 Try.underlying3 (zero_int _) (w.heap.size + 1 + 1) nn _ rfl hown _ _ rfl hkey ?_; intro c1 hat hwc; obtain rfl := HC1.out c1 hat)
              | (at_lookup; refine wpList_lookup_own_int _ rfl _ _ 78 rfl 3 3 .i64 law_int Try.underlying78 Try.underlying3 (zero_int _) (w.heap.size + 1 + 1) (nn + 1) _ rfl hown1 _ _ rfl hkey ?_; intro c2 hat2 hwc2; obtain rfl : c2 = 1 := (HC2.out _ c2 hat2).trans (by decide))
              | (at_mapUpdate; refine wpList_mapUpdate_own _ rfl _ _ _ 78 rfl 3 3 law_int Try.underlying78 _ (w.heap.size + 1 + 1) nn _ rfl hown hnnl _ _ _ rfl rfl hkey _ [] (plainElem_int Try.underlying3 (by first | exact wrap64_wf _ | decide)) ?_; intro w8 hown1 hgrow1
                 have hk8 := Kept.of_grown hgrow1
                 have hS8 := HS7.out.kept hk8 (by simp)
                 have hR8 := HR7.out.kept hk8 (by simp; omega)
                 have q0 := hR8.cell 0 rfl
                 have q1 := hR8.cell 1 rfl
                 have q2 := hR8.cell 2 rfl
                 have y0 := hR8.free 0
                 have y1 := hR8.free 1
                 have y2 := hR8.free 2
                 have m0 := hS8.cell 0 rfl
                 have m1 := hS8.cell 1 rfl
                 have m2 := hS8.cell 2 rfl
                 have z0 := hS8.free 0
                 have z1 := hS8.free 1
                 have z2 := hS8.free 2
                 have HS8 := Lib.hid hS8
                 have HR8 := Lib.hid hR8
                 have HV8 := Lib.hid (HV7.out.kept hk8 (by simp; omega) (fun ad ha => by have := HVa.out ad ha; simp; omega))
                 have HLow8 := Lib.hid (HLow.out.trans hk8 (fun k _ h => by simp at h; omega))
                 clear hS8 hR8 hk8))
            go_wp2_with fail
            have h9 : Kept none' w8 w8 := Kept.refl _ w8
            have hV9 := HV8.out.kept h9 (fun h => h) (fun ad ha => fun h => h)
            have hat : V.at_ < V2.at_ := by have := HL1.out.2.1; have := (HL2.out.2.2 trivial).2; omega
            have hln : V2.l = V.l := HL2.out.1.trans HL1.out.1
            have hSR9 : SR w w8 l g va vc V2 (id :: seen) (s.put id v) k' (D.put (.int .i64 ii) (.lit (.int .i64 1))) (nn + 1) := by
              refine ⟨hV9, hln.trans HSR.out.vl, HHf.out.symm, ?_, HR8.out.kept h9 (fun h => h), ?_, ?_, by have := HSR.out.nn; omega, HQ.out, ?_, ?_⟩
              · have e : scells (s.put id v) = scells s := by have := HI.out; simp only [St.put]; rw [if_neg (by omega), if_neg (by omega), if_neg (by omega)]
                rw [e]; exact HS8.out
              · exact hown1
              · have h := SeenD.put HSR.out.sd HSR.out.own.isMap id trivial
                rw [← HHid.out] at h
                exact h
              · have h1 := leftV_ok HSR.out.vf
                have h2 := leftV_ok (V := V2) HHf.out.symm
                have h3 := HLv.out
                have h4 := HV8.out.le
                rw [hln] at h2 h4
                omega
              · exact (HLow8.out.trans h9 (fun k hk h => by exact h.elim)).below (Nat.le_refl _) (fun k h => h)
            have HSR9 := Lib.hid hSR9
            have HMs : Hid (l.length - atW w8 g < l.length - atW wr g) := Lib.hid (by
              rw [hV9.atW, HSR.out.vb.atW]
              have h4 := HV8.out.le
              rw [hln, HSR.out.vl] at h4
              omega)
            clear h9 hV9 hat hln hSR9
            go_roundw
            case rel => exact ⟨V2, id :: seen, s.put id v, k', _, nn + 1, HSR9.out⟩
            case measure => exact HMs.out
      · have hff : (f == 0) = false := by simpa using hf0
        have HKe : Hid (settV l = (⟨0, 0, 0⟩, 54)) := Lib.hid (by rw [← hq, if_pos hf0])
        clear hq hf0 hsd HC2
        go_wp2_with fail
        refine HLe.out.mono ?_
        rintro e w4 ⟨rfl, hb4⟩
        have hV4 := HSR.out.vb.below hb4
        have HB4 := Lib.hid hb4
        have HV4 := Lib.hid hV4
        clear hV4 hb4
        go_wp2_with fail
        refine (HNa.out w4 HV4.out).mono ?_
        rintro e w5 ⟨rfl, hk5, hV5⟩
        have HK5 := Lib.hid ((Kept.of_below (X := fun k => k = g) HB4.out).trans hk5 (fun _ _ h => h))
        have HV5 := Lib.hid hV5
        clear hk5 hV5
        go_wp2_with fail
        refine (HNb.out w5 HV5.out).mono ?_
        rintro e w6 ⟨rfl, hk6, hV6⟩
        have HK6 := Lib.hid (HK5.out.trans hk6 (fun _ _ h => h))
        have HV6 := Lib.hid hV6
        clear hk6 hV6
        go_wp2_with fail
        refine (HFa.out w6 HV6.out).mono ?_
        rintro e w7 ⟨rfl, hb7⟩
        have hk7 := HK6.out.trans (Kept.of_below (X := fun k => k = g) hb7) (fun _ _ h => h)
        have hS7 := HSR.out.hs.kept hk7 hgne.2.1
        have hR7 := HSR.out.hr.kept hk7 hgne.1
        have hown := own_map_kept HSR.out.own hk7 hgne.2.2
        have hlow : Kept (fun k => w.heap.size ≤ k) w w7 := (Kept.of_below HSR.out.bel).trans hk7 (fun k _ e => by have : k = g := e; omega)
        have r0 := hR7.cell 0 rfl
        have r1 := hR7.cell 1 rfl
        have r2 := hR7.cell 2 rfl
        have x0 := hR7.free 0
        have x1 := hR7.free 1
        have x2 := hR7.free 2
        have HS7 := Lib.hid hS7
        have HR7 := Lib.hid hR7
        have HLow := Lib.hid hlow
        have HV7 := Lib.hid (HV6.out.below hb7)
        clear hk7 hS7 hR7 hlow hb7
        go_wp2
        refine bodyPost_ret (results_st rfl _ rfl (HR7.out.st0 _ _ _) rfl) rfl ?_
        rw [HKe.out]
        refine ⟨rfl, ?_⟩
        exact (HLow.out.trans (Kept.st0 _ w.heap.size _ _ _) (fun k _ (h : k = w.heap.size) => by omega)).below (Nat.le_refl _) (fun k h => h)
end Go.Proofs.Ytbplmnmkgkgkhaa

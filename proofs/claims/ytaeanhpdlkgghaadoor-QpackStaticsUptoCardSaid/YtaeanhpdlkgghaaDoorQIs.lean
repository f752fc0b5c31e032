/- qpack.inStatic. No condition but the sizes. -/
import Derived.Test.YtaeanhpdlkgghaaDoorQSt
import Derived.Test.YtaeanhpdlkgghaaDoorQNum
namespace Go.Proofs.YtaeanhpdlkgghaaDoor
open Go.RowKit Go.Shelf

attribute [local go_sem] Oper.semAt_some

/-- one line of the static table, seen: whole, name, the line's number -/
def stepI (f : Fd) (s : Int × Int × Nat) (x : List UInt8) : Int × Int × Nat :=
  (if strB (cutB x).1 = f.nm ∧ strB (cutB x).2.1 = f.va ∧ s.1 < 0 then (s.2.2 : Int) else s.1, if strB (cutB x).1 = f.nm ∧ s.2.1 < 0 then (s.2.2 : Int) else s.2.1, s.2.2 + 1)
def runI (f : Fd) (pre : List (List UInt8)) : Int × Int × Nat := pre.foldl (stepI f) (-1, -1, 0)
theorem runI_snoc (f : Fd) (pre : List (List UInt8)) (x : List UInt8) : runI f (pre ++ [x]) = stepI f (runI f pre) x := by simp [runI]
theorem runI_n (f : Fd) (pre : List (List UInt8)) : (runI f pre).2.2 = pre.length := by
  have h : ∀ (pre : List (List UInt8)) (s : Int × Int × Nat), (pre.foldl (stepI f) s).2.2 = s.2.2 + pre.length := by
    intro pre
    induction pre with
    | nil => intro s; rfl
    | cons x r ih => intro s; rw [List.foldl_cons, ih]; simp [stepI]; omega
  unfold runI
  rw [h]; simp
/-- what inStatic answers -/
def inStV (f : Fd) : Int × Int := ((runI f stL).1, (runI f stL).2.1)
/-- within the range -/
structure IsI (w : World) (f : Fd) (gf gw gm gn Bs : Nat) (pre : List (List UInt8)) (W : World) : Prop where
  fl : Has W gf 23 [.string f.nm, .string f.va]
  wh : Has W gw 3 [.int .i64 (runI f pre).1]
  nm : Has W gm 3 [.int .i64 (runI f pre).2.1]
  n : Has W gn 3 [.int .i64 ((runI f pre).2.2 : Int)]
  bel : Below w.heap.size w W
  sz : Bs + 3 ≤ W.heap.size
def IntsOf (w : World) (r : Int × Int) (e : Ending) (w' : World) : Prop := e = .returned (.tuple #[.int .i64 r.1, .int .i64 r.2]) ∧ Below w.heap.size w w'
theorem run_load_i {w : World} {b : Nat} {v : Int} (hH : Has w b 3 [.int .i64 v]) : (loadVar 3 ⟨b, 0, none⟩).run Tryd.prog w = .ok (.int .i64 v) w := by
  have hc := hH.cell 0 rfl
  simp [go_sem, Tryd.isAgg3, hc, loadVar]
theorem results_ii {fn : Func} {c d : Tmp} (h : fn.results = #[.cell c 3, .cell d 3]) (tmps : Array Value) {w : World} {b e : Nat} {u v : Int} (hc : tmps.getD c undef = .pointer (some ⟨b, 0, none⟩)) (hd : tmps.getD d undef = .pointer (some ⟨e, 0, none⟩)) (hH : Has w b 3 [.int .i64 u]) (hK : Has w e 3 [.int .i64 v]) :
    (results fn tmps).run Tryd.prog w = .ok (.tuple #[.int .i64 u, .int .i64 v]) w := by
  have hr := run_load_i hH
  have hr2 := run_load_i hK
  simp only [results, h]
  simp only [Array.getD_eq_getD_getElem?] at hc hd ⊢
  simp [hc, hd, asAddr, hr, hr2]
theorem leave_ii {F : Fence} {n : Nat} {fn : Func} {tmps : Array Value} {w : World} {c d gw gm : Nat} {u v : Int} {R : Int × Int} (hR : R = (u, v)) (h : fn.results = #[.cell c 3, .cell d 3]) (hc : tmps.getD c undef = .pointer (some ⟨gw, 0, none⟩)) (hd : tmps.getD d undef = .pointer (some ⟨gm, 0, none⟩))
    {Ds : List Nat} {W : World} (hm : Marks w.heap.size Ds W) (hf : Has W gw 3 [.int .i64 u]) (hk : Has W gm 3 [.int .i64 v]) (hb : Below w.heap.size w W) : LeavesInM F n Tryd.prog fn tmps (IntsOf w R) (Ds.map mkD) .returning W := by
  refine leave_marks (B := w.heap.size) (fun W => Has W gw 3 [.int .i64 u] ∧ Has W gm 3 [.int .i64 v] ∧ Below w.heap.size w W) ?_ ?_ Ds W hm ⟨hf, hk, hb⟩
  · rintro W D o ⟨h1, h2, h3⟩ hD hB
    have hg := grownBy_putObj' W D (.deferred none)
    have hr : ∀ r, some D = some r → ∃ o : Obj, W.heap[r]? = some o ∧ o.isCells = false := fun r e => by cases e; exact ⟨_, hD, rfl⟩
    exact ⟨has_grown h1 hg hr, has_grown h2 hg hr, h3.trans ((Kept.of_grown hg).below h3.size (fun k e => by cases e; exact hB))⟩
  · rintro W ⟨h1, h2, h3⟩
    exact ⟨_, results_ii h _ hc hd h1 h2, by rw [hR]; exact ⟨rfl, h3⟩⟩
theorem isj1 {n : Nat} (h : n ≤ 40) : RowKit.wrap64 ((n : Int) + 1) = ((n + 1 : Nat) : Int) ∧ IntKind.i64.wrap ((n : Int) + 1) = ((n + 1 : Nat) : Int) := by
  rw [IntKind.wrap_i64]; unfold RowKit.wrap64; omega
theorem bytesNe {A B : ByteArray} (h : ¬ A = B) : (A.toList == B.toList) = false := by
  rw [beq_eq_false_iff_ne, ByteArray.toList_eq, ByteArray.toList_eq]
  intro e
  exact h (ByteArray.ext (Array.toList_inj.1 e))
theorem isI_next {w W w5 W' : World} {f : Fd} {gf gw gm gn Bs B4 : Nat} {pre : List (List UInt8)} {x : List UInt8} {a : Act} {u v : Int} {c : Nat} {Ix : Code → List (List UInt8) → World → Prop} (hI : IsI w f gf gw gm gn Bs pre W) (hb : Below W.heap.size W w5) (hk : Kept (fun k => k = gw ∨ k = gm ∨ k = gn) w5 W') (hl : gf < Bs ∧ gw < Bs ∧ gm < Bs ∧ gn < Bs) (hg : gf = w.heap.size ∧ gw = w.heap.size + 1 ∧ gm = w.heap.size + 2 ∧ gn = w.heap.size + 3)
    (h2 : Has W' gw 3 [.int .i64 u]) (h3 : Has W' gm 3 [.int .i64 v]) (h4 : Has W' gn 3 [.int .i64 (c : Int)]) (hr : runI f (pre ++ [x]) = (u, v, c)) : ownPostG B4 (KpS Bs) (fun pre W => IsI w f gf gw gm gn Bs pre W) Ix (pre ++ [x]) W .normal a W' := by
  have X : Kept (fun k => k = gw ∨ k = gm ∨ k = gn) W W' := (Kept.of_below hb).trans hk (fun _ _ e => e)
  refine ⟨keepsF X (fun k e => ?_), fun k h1 h2 => X.block k (by have := hI.sz; omega) (by omega), ⟨hI.fl.kept X (by omega), by rw [hr]; exact h2, by rw [hr]; exact h3, by rw [hr]; exact h4, hI.bel.trans (X.below hI.bel.size (fun k e => by omega)), Nat.le_trans hI.sz X.size⟩⟩
  rcases e with rfl | rfl | rfl
  · exact ⟨_, _, _, hI.wh⟩
  · exact ⟨_, _, _, hI.nm⟩
  · exact ⟨_, _, _, hI.n⟩
set_option maxRecDepth 100000 in
set_option maxHeartbeats 4000000 in
theorem inStatic_any (w : World) (nm va : ByteArray) (hnm : nm.size ≤ 1099511627776) : Calls Tryd.prog 33 #[.agg #[.string nm, .string va]] w (IntsOf w (inStV ⟨nm, va⟩)) := by
  obtain ⟨f, hf⟩ : ∃ f : Fd, f = ⟨nm, va⟩ := ⟨_, rfl⟩
  obtain ⟨R, hR⟩ : ∃ R, R = inStV f := ⟨_, rfl⟩
  rw [← hf, ← hR]
  have HR := Lib.hid hR
  have HF := Lib.hid hf
  obtain ⟨w1, hw1⟩ : ∃ w1, w1 = (((w.alloc (.cells #[.string nm, .string va] 23)).alloc (.cells #[.int .i64 (-1)] 3)).alloc (.cells #[.int .i64 (-1)] 3)).alloc (.cells #[.int .i64 0] 3) := ⟨_, rfl⟩
  obtain ⟨gf, hgf⟩ : ∃ gf, gf = w.heap.size := ⟨_, rfl⟩
  obtain ⟨gw, hgw⟩ : ∃ gw, gw = w.heap.size + 1 := ⟨_, rfl⟩
  obtain ⟨gm, hgm⟩ : ∃ gm, gm = w.heap.size + 1 + 1 := ⟨_, rfl⟩
  obtain ⟨gn, hgn⟩ : ∃ gn, gn = w.heap.size + 1 + 1 + 1 := ⟨_, rfl⟩
  have kA : ∀ {W : World} {g t : Nat} {vs : List Value} (o : Obj), Has W g t vs → Has (W.alloc o) g t vs := fun o h => h.kept (Kept.alloc none' _ o) (fun h => h)
  have h1 : Has w1 gf 23 [.string nm, .string va] := by rw [hw1, hgf]; exact kA _ (kA _ (kA _ (Has.new w 23 #[.string nm, .string va])))
  have h2 : Has w1 gw 3 [.int .i64 (-1)] := by
    have := Has.new (w.alloc (.cells #[.string nm, .string va] 23)) 3 #[.int .i64 (-1)]
    rw [World.size_alloc, ← hgw] at this
    rw [hw1]; exact kA _ (kA _ this)
  have h3 : Has w1 gm 3 [.int .i64 (-1)] := by
    have := Has.new ((w.alloc (.cells #[.string nm, .string va] 23)).alloc (.cells #[.int .i64 (-1)] 3)) 3 #[.int .i64 (-1)]
    rw [World.size_alloc, World.size_alloc, ← hgm] at this
    rw [hw1]; exact kA _ this
  have h4 : Has w1 gn 3 [.int .i64 0] := by
    have := Has.new (((w.alloc (.cells #[.string nm, .string va] 23)).alloc (.cells #[.int .i64 (-1)] 3)).alloc (.cells #[.int .i64 (-1)] 3)) 3 #[.int .i64 0]
    rw [World.size_alloc, World.size_alloc, World.size_alloc, ← hgn] at this
    rw [hw1]; exact this
  have hb1 : Below w.heap.size w w1 := by rw [hw1]; exact ((((Below.refl _ w).alloc (Nat.le_refl _) _).alloc (by simp) _).alloc (by simp; omega) _).alloc (by simp; omega) _
  have HB1 := Lib.hid hb1
  have HG : Hid (gf = w.heap.size ∧ gw = w.heap.size + 1 ∧ gm = w.heap.size + 2 ∧ gn = w.heap.size + 3) := Lib.hid ⟨hgf, hgw, by omega, by omega⟩
  have H1 := Lib.hid h1
  have H2 := Lib.hid h2
  have H3 := Lib.hid h3
  have H4 := Lib.hid h4
  have HSp := Lib.hid (split_any w1 statS 10)
  clear hR hf hnm hb1 h1 h2 h3 h4 kA
  refine (callsIn_wide (n := 3)).1 ?_
  refine callsIn_of_wp_marks Tryd.func33 rfl trivial ?_ rfl
  simp only [Tryd.ntmps33, List.size_toArray, List.length_cons, List.length_nil, Nat.reduceAdd, Nat.reduceSub, Array.replicate_succ, Array.replicate_zero, List.push_toArray, List.append_toArray, List.nil_append, List.cons_append]
  refine wpIn_wide.2 ?_
  go_upto_region 3 with fail
  rw [← hw1, ← hgn, ← hgm, ← hgw, ← hgf]
  clear hw1 hgn hgm hgw hgf
  go_wp2_with fail
  refine HSp.out.mono ?_
  rintro e w4 ⟨rfl, hw4⟩
  obtain ⟨b0, b1, b2, hsz4, hb4⟩ := splitsB w1 statS 10 (w2 := w4) hw4
  obtain ⟨Bs, hBs⟩ : ∃ Bs, Bs = w1.heap.size := ⟨_, rfl⟩
  rw [← hBs] at b0 b1 b2 hsz4
  rw [← hBs]
  have HB0 := Lib.hid b0
  have HB1' := Lib.hid b1
  have HB2 := Lib.hid b2
  have HSz := Lib.hid hsz4
  have HBsE := Lib.hid hBs
  have HB4 : Hid (Below w.heap.size w w4) := Lib.hid (HB1.out.trans (hb4.mono HB1.out.size))
  have kU : ∀ {g t : Nat} {vs : List Value}, Has w1 g t vs → Has w4 g t vs := fun h => h.kept (Kept.of_below (X := none') hb4) (fun h => h)
  have HLt : Hid (gf < Bs ∧ gw < Bs ∧ gm < Bs ∧ gn < Bs) := Lib.hid (by rw [hBs]; exact ⟨H1.out.lt, H2.out.lt, H3.out.lt, H4.out.lt⟩)
  have hBlt : Bs < w4.heap.size := by rw [hsz4]; omega
  have hSI0 : IsI w f gf gw gm gn Bs [] w4 := ⟨by rw [HF.out]; exact kU H1.out, kU H2.out, kU H3.out, kU H4.out, HB4.out, by rw [hsz4]; exact Nat.le_refl _⟩
  clear hw4 b0 b1 b2 hsz4 hb4 hBs kU
  go_wp2_with fail
  refine (wpIn_wide (n := 3)).1 ?_
  refine wpIn_rangeFunc_box rfl (by decide) (gf := 65) (lb := #[.pointer (some ⟨Bs + 1, 0, none⟩), .pointer (some ⟨Bs, 0, none⟩), .pointer (some ⟨Bs + 2, 0, none⟩)]) rfl trivial (enters_of Tryd.func65 (by kernel_rfl) rfl)
    (split_stops _ Bs 10 statS ?hlen w4 HB0.out HB1'.out HB2.out) hBlt (fun h k => h.tr k) ?hkb (Below.refl _ _) (fun _ => rfl)
    (fun pre W => IsI w f gf gw gm gn Bs pre W) (fun _ _ _ => False) ?own (fun _ _ _ _ _ hs _ _ => hs) ?set
    hSI0
    (fun x => { tmps := #[.agg #[.string nm, .string va], .pointer (some ⟨gf, 0, none⟩), .pointer (some ⟨gw, 0, none⟩), .pointer (some ⟨gm, 0, none⟩), .pointer (some ⟨gn, 0, none⟩), .string (strB x), undef, undef, undef, .func (.func 65) #[] #[.pointer (some ⟨Bs + 1, 0, none⟩), .pointer (some ⟨Bs, 0, none⟩), .pointer (some ⟨Bs + 2, 0, none⟩)], .string (strB x), undef, undef, undef, undef, undef, undef, undef, undef, undef, undef, undef, undef, undef, undef, undef, undef, undef, undef, undef, undef, undef, undef, undef, undef, undef, undef, undef, undef, undef, undef, undef, undef, undef, undef], defers := [] }) ?assign ?body ?done ?stop
  case hlen => decide
  case hkb =>
    intro W l o o' hl h hc hw k h1 h2
    exact World.putObj_heap_other (by rw [HSz.out] at hl; omega)
  case own =>
    rintro pre W W' row h hg hr
    have hr' : ∀ r, row = some r → ∃ o : Obj, W.heap[r]? = some o ∧ o.isCells = false := fun r e => (hr r e).2
    refine ⟨has_grown h.fl hg hr', has_grown h.wh hg hr', has_grown h.nm hg hr', has_grown h.n hg hr', h.bel.trans ((Kept.of_grown hg).below h.bel.size (fun k e => ?_)), Nat.le_trans h.sz hg.size⟩
    have h1 := (hr k e).1
    have h2 := HB4.out.size
    omega
  case set =>
    rintro pre W v h
    have hl := HLt.out
    have hk := Kept.set W Bs 0 v
    refine ⟨h.fl.kept hk (by show ¬ gf = Bs; omega), h.wh.kept hk (by show ¬ gw = Bs; omega), h.nm.kept hk (by show ¬ gm = Bs; omega), h.n.kept hk (by show ¬ gn = Bs; omega), h.bel.trans (hk.below h.bel.size (fun k e => ?_)), Nat.le_trans h.sz hk.size⟩
    rw [e, HBsE.out]
    exact HB1.out.size
  case assign =>
    intro l x W K hK
    gi_wp2
    exact hK
  case body =>
    rintro l pre x rest W hLp hI
    have HI := Lib.hid hI
    have HXl : Hid (x.length ≤ 40) := Lib.hid (stL_small x (by show x ∈ cutsL 10 statS; rw [hLp]; simp))
    have HPl : Hid (pre.length ≤ 40) := Lib.hid (by
      have h1 : (cutsL 10 statS).length = 40 := stL_len
      rw [hLp, List.length_append] at h1; omega)
    clear hI hLp hSI0 hBlt
    refine wpIn_block ?_
    have HCt := Lib.hid (scut_any W x (Nat.le_trans HXl.out (by decide)))
    gi_wp2
    refine ⟨trivial, CallsIn.inRound _ (callsIn_wide.2 (HCt.out.mono ?_))⟩
    rintro e w5 ⟨rfl, hb5⟩
    dsimp only
    have kU : ∀ {g t : Nat} {vs : List Value}, Has W g t vs → Has w5 g t vs := fun h => h.kept (Kept.of_below (X := none') hb5) (fun h => h)
    have G1 := Lib.hid (kU HI.out.fl)
    have G2 := Lib.hid (kU HI.out.wh)
    have G3 := Lib.hid (kU HI.out.nm)
    have G4 := Lib.hid (kU HI.out.n)
    have HB5 := Lib.hid hb5
    have HST := Lib.hid (runI_snoc f pre x)
    have hnl := runI_n f pre
    rcases hs : runI f pre with ⟨wh, mn, nn⟩
    rw [hs] at hnl G2 G3 G4 HST
    simp only at hnl G2 G3 G4
    have HNn : Hid (nn ≤ 40) := Lib.hid (by rw [hnl]; exact HPl.out)
    obtain ⟨A, hA⟩ : ∃ A, A = strB (cutB x).1 := ⟨_, rfl⟩
    obtain ⟨B, hB⟩ : ∃ B, B = strB (cutB x).2.1 := ⟨_, rfl⟩
    rw [← hA, ← hB]
    unfold stepI at HST
    rw [← hA, ← hB] at HST
    simp only at HST
    have d1 := G1.out.cell 0 rfl
    have d1b := G1.out.cell 1 rfl
    have d2 := G2.out.cell 0 rfl
    have d3 := G3.out.cell 0 rfl
    have d4 := G4.out.cell 0 rfl
    have f2 := G2.out.free 0
    have f3 := G3.out.free 0
    have f4 := G4.out.free 0
    clear hA hB hs hnl hb5 kU
    have n_gw_gm : ¬ gw = gm := by have := HG.out; omega
    have n_gw_gn : ¬ gw = gn := by have := HG.out; omega
    have n_gm_gw : ¬ gm = gw := by have := HG.out; omega
    have n_gm_gn : ¬ gm = gn := by have := HG.out; omega
    have n_gn_gw : ¬ gn = gw := by have := HG.out; omega
    have n_gn_gm : ¬ gn = gm := by have := HG.out; omega
    have n_gf_gm : ¬ gf = gm := by have := HG.out; omega
    have n_gf_gw : ¬ gf = gw := by have := HG.out; omega
    have n_gm_gf : ¬ gm = gf := by have := HG.out; omega
    have n_gw_gf : ¬ gw = gf := by have := HG.out; omega
    obtain ⟨z1, z2⟩ := isj1 HNn.out
    obtain ⟨fn, hfn⟩ : ∃ fn, fn = f.nm := ⟨_, rfl⟩
    obtain ⟨fv, hfv⟩ : ∃ fv, fv = f.va := ⟨_, rfl⟩
    rw [← hfn] at d1 HST
    rw [← hfv] at d1b HST
    clear hfn hfv
    by_cases ha : A = fn
    · subst ha
      by_cases hm : mn < 0
      · have y1 : (mn < 0) = True := eq_true hm
        by_cases hB : B = fv
        · subst hB
          by_cases hw : wh < 0
          · have y2 : (wh < 0) = True := eq_true hw
            have HE : Hid (runI f (pre ++ [x]) = ((nn : Int), (nn : Int), nn + 1)) := Lib.hid (by rw [HST.out, if_pos ⟨rfl, rfl, hw⟩, if_pos ⟨rfl, hm⟩])
            gi_wp2
            have X : Kept (fun k => k = gw ∨ k = gm ∨ k = gn) w5 _ := ((((Kept.set _ gm 0 (.int .i64 (nn : Int))).more (fun _ _ e => .inr (.inl e))).trans (Kept.set _ gw 0 (.int .i64 (nn : Int))) (fun _ _ e => .inl e)).trans (Kept.set _ gn 0 (.int .i64 ((nn + 1 : Nat) : Int))) (fun _ _ e => .inr (.inr e)))
            exact isI_next HI.out HB5.out X HLt.out HG.out (((G2.out.kept (Kept.set _ gm 0 (.int .i64 (nn : Int))) n_gw_gm).set 0 (.int .i64 (nn : Int))).kept (Kept.set _ gn 0 (.int .i64 ((nn + 1 : Nat) : Int))) n_gw_gn) (((G3.out.set 0 (.int .i64 (nn : Int))).kept (Kept.set _ gw 0 (.int .i64 (nn : Int))) n_gm_gw).kept (Kept.set _ gn 0 (.int .i64 ((nn + 1 : Nat) : Int))) n_gm_gn) (((G4.out.kept (Kept.set _ gm 0 (.int .i64 (nn : Int))) n_gn_gm).kept (Kept.set _ gw 0 (.int .i64 (nn : Int))) n_gn_gw).set 0 (.int .i64 ((nn + 1 : Nat) : Int))) HE.out
          · have y2 : (wh < 0) = False := eq_false hw
            have HE : Hid (runI f (pre ++ [x]) = (wh, (nn : Int), nn + 1)) := Lib.hid (by rw [HST.out, if_neg (fun h => hw h.2.2), if_pos ⟨rfl, hm⟩])
            gi_wp2
            have X : Kept (fun k => k = gw ∨ k = gm ∨ k = gn) w5 _ := (((Kept.set _ gm 0 (.int .i64 (nn : Int))).more (fun _ _ e => .inr (.inl e))).trans (Kept.set _ gn 0 (.int .i64 ((nn + 1 : Nat) : Int))) (fun _ _ e => .inr (.inr e)))
            exact isI_next HI.out HB5.out X HLt.out HG.out ((G2.out.kept (Kept.set _ gm 0 (.int .i64 (nn : Int))) n_gw_gm).kept (Kept.set _ gn 0 (.int .i64 ((nn + 1 : Nat) : Int))) n_gw_gn) ((G3.out.set 0 (.int .i64 (nn : Int))).kept (Kept.set _ gn 0 (.int .i64 ((nn + 1 : Nat) : Int))) n_gm_gn) ((G4.out.kept (Kept.set _ gm 0 (.int .i64 (nn : Int))) n_gn_gm).set 0 (.int .i64 ((nn + 1 : Nat) : Int))) HE.out
        · have y3 := bytesNe hB
          have HE : Hid (runI f (pre ++ [x]) = (wh, (nn : Int), nn + 1)) := Lib.hid (by rw [HST.out, if_neg (fun h => hB h.2.1), if_pos ⟨rfl, hm⟩])
          gi_wp2
          have X : Kept (fun k => k = gw ∨ k = gm ∨ k = gn) w5 _ := (((Kept.set _ gm 0 (.int .i64 (nn : Int))).more (fun _ _ e => .inr (.inl e))).trans (Kept.set _ gn 0 (.int .i64 ((nn + 1 : Nat) : Int))) (fun _ _ e => .inr (.inr e)))
          exact isI_next HI.out HB5.out X HLt.out HG.out ((G2.out.kept (Kept.set _ gm 0 (.int .i64 (nn : Int))) n_gw_gm).kept (Kept.set _ gn 0 (.int .i64 ((nn + 1 : Nat) : Int))) n_gw_gn) ((G3.out.set 0 (.int .i64 (nn : Int))).kept (Kept.set _ gn 0 (.int .i64 ((nn + 1 : Nat) : Int))) n_gm_gn) ((G4.out.kept (Kept.set _ gm 0 (.int .i64 (nn : Int))) n_gn_gm).set 0 (.int .i64 ((nn + 1 : Nat) : Int))) HE.out
      · have y1 : (mn < 0) = False := eq_false hm
        by_cases hB : B = fv
        · subst hB
          by_cases hw : wh < 0
          · have y2 : (wh < 0) = True := eq_true hw
            have HE : Hid (runI f (pre ++ [x]) = ((nn : Int), mn, nn + 1)) := Lib.hid (by rw [HST.out, if_pos ⟨rfl, rfl, hw⟩, if_neg (fun h => hm h.2)])
            gi_wp2
            have X : Kept (fun k => k = gw ∨ k = gm ∨ k = gn) w5 _ := (((Kept.set _ gw 0 (.int .i64 (nn : Int))).more (fun _ _ e => .inl e)).trans (Kept.set _ gn 0 (.int .i64 ((nn + 1 : Nat) : Int))) (fun _ _ e => .inr (.inr e)))
            exact isI_next HI.out HB5.out X HLt.out HG.out ((G2.out.set 0 (.int .i64 (nn : Int))).kept (Kept.set _ gn 0 (.int .i64 ((nn + 1 : Nat) : Int))) n_gw_gn) ((G3.out.kept (Kept.set _ gw 0 (.int .i64 (nn : Int))) n_gm_gw).kept (Kept.set _ gn 0 (.int .i64 ((nn + 1 : Nat) : Int))) n_gm_gn) ((G4.out.kept (Kept.set _ gw 0 (.int .i64 (nn : Int))) n_gn_gw).set 0 (.int .i64 ((nn + 1 : Nat) : Int))) HE.out
          · have y2 : (wh < 0) = False := eq_false hw
            have HE : Hid (runI f (pre ++ [x]) = (wh, mn, nn + 1)) := Lib.hid (by rw [HST.out, if_neg (fun h => hw h.2.2), if_neg (fun h => hm h.2)])
            gi_wp2
            have X : Kept (fun k => k = gw ∨ k = gm ∨ k = gn) w5 _ := ((Kept.set _ gn 0 (.int .i64 ((nn + 1 : Nat) : Int))).more (fun _ _ e => .inr (.inr e)))
            exact isI_next HI.out HB5.out X HLt.out HG.out (G2.out.kept (Kept.set _ gn 0 (.int .i64 ((nn + 1 : Nat) : Int))) n_gw_gn) (G3.out.kept (Kept.set _ gn 0 (.int .i64 ((nn + 1 : Nat) : Int))) n_gm_gn) (G4.out.set 0 (.int .i64 ((nn + 1 : Nat) : Int))) HE.out
        · have y3 := bytesNe hB
          have HE : Hid (runI f (pre ++ [x]) = (wh, mn, nn + 1)) := Lib.hid (by rw [HST.out, if_neg (fun h => hB h.2.1), if_neg (fun h => hm h.2)])
          gi_wp2
          have X : Kept (fun k => k = gw ∨ k = gm ∨ k = gn) w5 _ := ((Kept.set _ gn 0 (.int .i64 ((nn + 1 : Nat) : Int))).more (fun _ _ e => .inr (.inr e)))
          exact isI_next HI.out HB5.out X HLt.out HG.out (G2.out.kept (Kept.set _ gn 0 (.int .i64 ((nn + 1 : Nat) : Int))) n_gw_gn) (G3.out.kept (Kept.set _ gn 0 (.int .i64 ((nn + 1 : Nat) : Int))) n_gm_gn) (G4.out.set 0 (.int .i64 ((nn + 1 : Nat) : Int))) HE.out
    · have y3 := bytesNe ha
      have HE : Hid (runI f (pre ++ [x]) = (wh, mn, nn + 1)) := Lib.hid (by rw [HST.out, if_neg (fun h => ha h.1), if_neg (fun h => ha h.1)])
      gi_wp2
      have X : Kept (fun k => k = gw ∨ k = gm ∨ k = gn) w5 _ := ((Kept.set _ gn 0 (.int .i64 ((nn + 1 : Nat) : Int))).more (fun _ _ e => .inr (.inr e)))
      exact isI_next HI.out HB5.out X HLt.out HG.out (G2.out.kept (Kept.set _ gn 0 (.int .i64 ((nn + 1 : Nat) : Int))) n_gw_gn) (G3.out.kept (Kept.set _ gn 0 (.int .i64 ((nn + 1 : Nat) : Int))) n_gm_gn) (G4.out.set 0 (.int .i64 ((nn + 1 : Nat) : Int))) HE.out
  case done =>
    rintro D W hD hI hK
    have HMk : Hid (Marks w.heap.size [D] W) := Lib.hid ⟨by simp, fun E hE => by
      rw [List.mem_singleton.1 hE]
      exact ⟨Nat.le_trans HB4.out.size hD, hK⟩⟩
    have HI := Lib.hid hI
    have hRe : R = ((runI f stL).1, (runI f stL).2.1) := HR.out
    have HRe := Lib.hid hRe
    have d2 := hI.wh.cell 0 rfl
    have d3 := hI.nm.cell 0 rfl
    have f2 := hI.wh.free 0
    have f3 := hI.nm.free 0
    have e1 : ¬ gw = gm := by have := HG.out; omega
    have e2 : ¬ gm = gw := by have := HG.out; omega
    clear hI hD hK hSI0 hBlt hRe
    go_upto_region 11 with fail
    have X2 := ((Kept.set W gw 0 (.int .i64 (runI f (cutsL 10 statS)).1)).more (Y := fun k => k = gw ∨ k = gm) (fun _ _ e => .inl e) |>.trans (Kept.set _ gm 0 (.int .i64 (runI f (cutsL 10 statS)).2.1)) (fun _ _ e => .inr e)).trans (Kept.drew (fun k => k = gw ∨ k = gm) _) (fun _ _ e => e)
    have HX2 := Lib.hid X2
    clear X2
    go_region_with (fail)
    all_goals
      go_wp2_with fail
      have hg := HG.out
      refine leave_ii (Ds := [D]) HRe.out rfl rfl rfl (HMk.out.kept HX2.out (fun E hE e => ?_)) (((HI.out.wh.set 0 _).kept (Kept.set _ gm 0 _) e1).kept (Kept.drew none' _) (fun h => h)) (((HI.out.nm.kept (Kept.set _ gw 0 _) e2).set 0 _).kept (Kept.drew none' _) (fun h => h)) (HI.out.bel.trans (HX2.out.below HI.out.bel.size (fun k e => by omega)))
      have h1 : ∃ c t z, W.heap[E]? = some (.cells c t z) := by
        rcases e with rfl | rfl
        · exact ⟨_, _, _, HI.out.wh⟩
        · exact ⟨_, _, _, HI.out.nm⟩
      exact HMk.out.cells h1 E hE rfl
  case stop =>
    rintro D c pre x rest W _ _ h _
    exact h.elim
end Go.Proofs.YtaeanhpdlkgghaaDoor

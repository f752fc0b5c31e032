/- Contract of turnpikelaw05.copied (printed by gen_frcopied.py): the frame in new memory. No condition but the slices' sizes. -/
import Derived.Test.YtppkilkfmclpkaaFrCopy
namespace Go.Proofs.Ytppkilkfmclpkaa
open Go.RowKit

set_option maxRecDepth 100000 in
set_option maxHeartbeats 4000000 in
theorem copied_any (w : World) {f : Fm} {a : FA} (h : FIn w f a) (hz : FSz f) : Calls Try.prog 10 #[.agg (fcells f a).toArray] w (NewF w f) := by
  obtain ⟨w2, hw2⟩ : ∃ w2, w2 = (w.alloc (.cells (fcells f a).toArray 26)).alloc (.cells #[.int .i64 0, .int .i64 0, .int .i64 0, .int .i64 0, .int .i64 0, .bool false, .slice none 0 0, .slice none 0 0, .slice none 0 0, .int .i64 0, .int .i64 0, .int .i64 0, .int .i64 0] 26) := ⟨_, rfl⟩
  obtain ⟨hG, hH, hB⟩ := two_new w _ _ _ _ hw2
  have HOf := Lib.hid (of_any w2 f a)
  have HCp : Hid (∀ w', Below w2.heap.size w2 w' → Calls Try.prog 26 #[.agg (fcells f a).toArray] w' (NewF w' f)) := Lib.hid (fun w' hw => refcopy_any w' ((h.below hB).below hw) hz)
  obtain ⟨yb, hyb⟩ : ∃ yb, yb = w.heap.size + 1 := ⟨_, rfl⟩
  obtain ⟨xb, hxb⟩ : ∃ xb, xb = w.heap.size := ⟨_, rfl⟩
  rw [← hyb] at hH
  rw [← hxb] at hG
  have HG : Hid (Has w2 xb 26 (fcells f a)) := Lib.hid hG
  have HH := Lib.hid hH
  have HB := Lib.hid hB
  have HYb := Lib.hid hyb
  obtain ⟨k, i, t, n, c, fi, dt, ci, sp, dl, e0, e1, e2⟩ := f
  obtain ⟨da, dc, ca, cc, sa, sc⟩ := a
  obtain ⟨dn, hdn⟩ : ∃ dn, dn = dt.length := ⟨_, rfl⟩
  obtain ⟨cn, hcn⟩ : ∃ cn, cn = ci.length := ⟨_, rfl⟩
  obtain ⟨sn, hsn⟩ : ∃ sn, sn = sp.length := ⟨_, rfl⟩
  have hf : fcells ⟨k, i, t, n, c, fi, dt, ci, sp, dl, e0, e1, e2⟩ ⟨da, dc, ca, cc, sa, sc⟩ = [.int .i64 k, .int .i64 i, .int .i64 t, .int .i64 n, .int .i64 c, .bool fi, .slice da dn dc, .slice ca cn cc, .slice sa sn sc, .int .i64 dl, .int .i64 e0, .int .i64 e1, .int .i64 e2] := by rw [hdn, hcn, hsn]; rfl
  rw [hf] at HOf HCp HG hw2 ⊢
  clear hG hH hB h hz hf hdn hcn hsn
  replace hw2 : w2 = (w.alloc (.cells #[.int .i64 k, .int .i64 i, .int .i64 t, .int .i64 n, .int .i64 c, .bool fi, .slice da dn dc, .slice ca cn cc, .slice sa sn sc, .int .i64 dl, .int .i64 e0, .int .i64 e1, .int .i64 e2] 26)).alloc (.cells #[.int .i64 0, .int .i64 0, .int .i64 0, .int .i64 0, .int .i64 0, .bool false, .slice none 0 0, .slice none 0 0, .slice none 0 0, .int .i64 0, .int .i64 0, .int .i64 0, .int .i64 0] 26) := hw2
  go_enter Try.func10, Try.ntmps10
  go_upto_region 1 with fail
  rw [← hw2, ← hyb, ← hxb]
  clear hw2 hyb hxb
  have g0 := HG.out.cell 0 rfl
  have g1 := HG.out.cell 1 rfl
  have g2 := HG.out.cell 2 rfl
  have g3 := HG.out.cell 3 rfl
  have g4 := HG.out.cell 4 rfl
  have g5 := HG.out.cell 5 rfl
  have g6 := HG.out.cell 6 rfl
  have g7 := HG.out.cell 7 rfl
  have g8 := HG.out.cell 8 rfl
  have g9 := HG.out.cell 9 rfl
  have g10 := HG.out.cell 10 rfl
  have g11 := HG.out.cell 11 rfl
  have g12 := HG.out.cell 12 rfl
  go_wp2_with fail
  refine HOf.out.mono ?_
  rintro e w3 ⟨rfl, hb3⟩
  have HCp3 := Lib.hid (HCp.out w3 hb3)
  have HB3 := Lib.hid hb3
  clear hb3 g0 g1 g2 g3 g4 g5 g6 g7 g8 g9 g10 g11 g12
  go_wp2_with fail
  refine HCp3.out.mono ?_
  rintro e w4 ⟨⟨da', dc', ca', cc', sa', sc'⟩, rfl, ho4, hb4⟩
  have hb4 := HB3.out.trans (hb4.mono HB3.out.size)
  have ho4 := ho4.mono HB3.out.size
  obtain ⟨z, hz⟩ : ∃ z, z = w4.heap.size := ⟨_, rfl⟩
  obtain ⟨w6, hw6⟩ : ∃ w6, w6 = (w4.alloc (.cells #[.int .i64 0, .int .i64 0, .int .i64 0, .int .i64 0, .int .i64 0, .bool false, .slice none 0 0, .slice none 0 0, .slice none 0 0, .int .i64 0, .int .i64 0, .int .i64 0, .int .i64 0] 34)).setCells w4.heap.size 0 [.int .i64 k, .int .i64 i, .int .i64 t, .int .i64 n, .int .i64 c, .bool fi, .slice da' dt.length dc', .slice ca' ci.length cc', .slice sa' sp.length sc', .int .i64 dl, .int .i64 e0, .int .i64 e1, .int .i64 e2] := ⟨_, rfl⟩
  have hal : Below w4.heap.size w4 (w4.alloc (.cells #[.int .i64 0, .int .i64 0, .int .i64 0, .int .i64 0, .int .i64 0, .bool false, .slice none 0 0, .slice none 0 0, .slice none 0 0, .int .i64 0, .int .i64 0, .int .i64 0, .int .i64 0] 34)) := (Below.refl _ _).alloc (Nat.le_refl _) _
  have hN5 : Has (w4.alloc (.cells #[.int .i64 0, .int .i64 0, .int .i64 0, .int .i64 0, .int .i64 0, .bool false, .slice none 0 0, .slice none 0 0, .slice none 0 0, .int .i64 0, .int .i64 0, .int .i64 0, .int .i64 0] 34)) w4.heap.size 34 [.int .i64 0, .int .i64 0, .int .i64 0, .int .i64 0, .int .i64 0, .bool false, .slice none 0 0, .slice none 0 0, .slice none 0 0, .int .i64 0, .int .i64 0, .int .i64 0, .int .i64 0] := Has.new _ _ _
  have HN5 := Lib.hid hN5
  have hk6 := Kept.sets w4.heap.size [.int .i64 k, .int .i64 i, .int .i64 t, .int .i64 n, .int .i64 c, .bool fi, .slice da' dt.length dc', .slice ca' ci.length cc', .slice sa' sp.length sc', .int .i64 dl, .int .i64 e0, .int .i64 e1, .int .i64 e2] 0 (w4.alloc (.cells #[.int .i64 0, .int .i64 0, .int .i64 0, .int .i64 0, .int .i64 0, .bool false, .slice none 0 0, .slice none 0 0, .slice none 0 0, .int .i64 0, .int .i64 0, .int .i64 0, .int .i64 0] 34))
  have hN6 : Has w6 z 34 [.int .i64 k, .int .i64 i, .int .i64 t, .int .i64 n, .int .i64 c, .bool fi, .slice da' dt.length dc', .slice ca' ci.length cc', .slice sa' sp.length sc', .int .i64 dl, .int .i64 e0, .int .i64 e1, .int .i64 e2] := by rw [hw6, hz]; exact hN5.store rfl
  rw [← hw6] at hk6
  have hb6 : Below w2.heap.size w2 w6 := (hb4.trans (hal.mono hb4.size)).trans (hk6.below (by have := hb4.size; have := hal.size; omega) (fun j e => by rw [e]; exact hb4.size))
  have hblk : ∀ {e s n : Nat} {v : Value} {xs : List Value}, w4.ownsRow w2.heap.size e s v n xs → ∀ j, v.ownBlock = some j → j < w4.heap.size ∧ w2.heap.size ≤ j := fun ho j hj => by
    rcases ho.2 with ⟨hv, _⟩ | ⟨g, cap, cur, hv, hB, hg, _⟩
    · rw [hv] at hj; cases hj
    · rw [hv] at hj; simp only [Value.ownBlock, Option.some.injEq] at hj
      have := (Array.getElem?_eq_some_iff.1 hg).1
      omega
  have ho5 := ho4.below hal
  have HO6 : Hid (FOwn w6 w2.heap.size ⟨k, i, t, n, c, fi, dt, ci, sp, dl, e0, e1, e2⟩ ⟨da', dc', ca', cc', sa', sc'⟩) := Lib.hid ⟨own_kept ho5.data hk6 (fun j hj e => by have := hblk ho4.data j hj; omega), own_kept ho5.cid hk6 (fun j hj e => by have := hblk ho4.cid j hj; omega), own_kept ho5.spans hk6 (fun j hj e => by have := hblk ho4.spans j hj; omega)⟩
  have HN6 := Lib.hid hN6
  have HB6 := Lib.hid hb6
  have HH6 := Lib.hid (HH.out.kept (Kept.of_below (X := none') hb6) (fun h => h))
  have HYl : Hid (yb < w2.heap.size) := Lib.hid HH.out.lt
  clear hb4 ho4 hal hN5 hk6 hN6 hb6 hblk ho5
  have h1 : Array.all (#[.int .i64 k, .int .i64 i, .int .i64 t, .int .i64 n, .int .i64 c, .bool fi, .slice da' dt.length dc', .slice ca' ci.length cc', .slice sa' sp.length sc', .int .i64 dl, .int .i64 e0, .int .i64 e1, .int .i64 e2] : Array Value) (·.oneCell') = true := by simp [Value.oneCell']
  simp only [fcells]
  go_upto_region 2 with (refine wpList_store_mid rfl 34 (.tmp 3) (.tmp 6) rfl w4.heap.size 0 #[.int .i64 k, .int .i64 i, .int .i64 t, .int .i64 n, .int .i64 c, .bool fi, .slice da' dt.length dc', .slice ca' ci.length cc', .slice sa' sp.length sc', .int .i64 dl, .int .i64 e0, .int .i64 e1, .int .i64 e2] rfl rfl (HN5.out.there rfl) infoFrR h1 ?_)
  rw [← hw6, ← hz]
  clear hw6 hz
  have g0 := HN6.out.cell 0 rfl
  have g1 := HN6.out.cell 1 rfl
  have g2 := HN6.out.cell 2 rfl
  have g3 := HN6.out.cell 3 rfl
  have g4 := HN6.out.cell 4 rfl
  have g5 := HN6.out.cell 5 rfl
  have g6 := HN6.out.cell 6 rfl
  have g7 := HN6.out.cell 7 rfl
  have g8 := HN6.out.cell 8 rfl
  have g9 := HN6.out.cell 9 rfl
  have g10 := HN6.out.cell 10 rfl
  have g11 := HN6.out.cell 11 rfl
  have g12 := HN6.out.cell 12 rfl
  go_wp2_with (refine wpList_store_mid rfl 26 (.tmp 2) (.tmp 29) rfl yb 0 #[.int .i64 k, .int .i64 i, .int .i64 t, .int .i64 n, .int .i64 c, .bool fi, .slice da' dt.length dc', .slice ca' ci.length cc', .slice sa' sp.length sc', .int .i64 dl, .int .i64 e0, .int .i64 e1, .int .i64 e2] rfl rfl (HH6.out.there rfl) infoFr h1 ?_)
  go_wp2
  refine bodyPost_ret (results_fr rfl _ rfl (HH6.out.store rfl) rfl) rfl ?_
  have hk7 := Kept.sets yb ([.int .i64 k, .int .i64 i, .int .i64 t, .int .i64 n, .int .i64 c, .bool fi, .slice da' dt.length dc', .slice ca' ci.length cc', .slice sa' sp.length sc', .int .i64 dl, .int .i64 e0, .int .i64 e1, .int .i64 e2] : List Value) 0 w6
  have hyl := HYl.out
  have hne : ∀ {e s n : Nat} {v : Value} {xs : List Value}, w6.ownsRow w2.heap.size e s v n xs → ∀ j, v.ownBlock = some j → w2.heap.size ≤ j := fun ho j hj => by
    rcases ho.2 with ⟨hv, _⟩ | ⟨g, cap, cur, hv, hB, _⟩
    · rw [hv] at hj; cases hj
    · rw [hv] at hj; simp only [Value.ownBlock, Option.some.injEq] at hj; omega
  obtain ⟨q1, q2, q3⟩ := HO6.out
  have hsz := HB.out.size
  refine ⟨⟨da', dc', ca', cc', sa', sc'⟩, rfl, FOwn.mono (B := w2.heap.size) ⟨own_kept q1 hk7 (fun j hj e => by have := hne q1 j hj; omega), own_kept q2 hk7 (fun j hj e => by have := hne q2 j hj; omega), own_kept q3 hk7 (fun j hj e => by have := hne q3 j hj; omega)⟩ hsz, ?_⟩
  have hy0 := HYb.out
  exact (HB.out.trans (HB6.out.mono hsz)).trans (hk7.below (by have := HB6.out.size; omega) (fun j e => by omega))
end Go.Proofs.Ytppkilkfmclpkaa

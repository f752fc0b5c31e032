/- Contract of frame.Encode: the other kinds, and all of it (printed by gen_frenc2.py). No condition but the sizes. -/
import Derived.Test.YtppkilkfmclpkaaFrEnc
namespace Go.Proofs.Ytppkilkfmclpkaa
open Go.RowKit

/-- three pieces appended to the writer's bytes, then stored -/
theorem WB.app3 {w : World} {g : Nat} {b : List UInt8} {ba : Option Addr} {bc : Nat} (h : WB w g b ba bc) (tyo : TypeId) {x : Nat} (hx : x ≤ 20) {a2 : Option Addr} {n2 c2 : Nat} {l2 : List UInt8} (h2 : Sl w a2 n2 c2 (bv l2)) (hl2 : ∀ k, blk a2 k → k < g) {a3 : Option Addr} {n3 c3 : Nat} {l3 : List UInt8} (h3 : Sl w a3 n3 c3 (bv l3)) (hl3 : ∀ k, blk a3 k → k < g) (hsz : b.length + (n2 + n3) ≤ 1000000) :
    ∃ b1 d1 v1 b2 d2 v2 b3 d3 v3, (Builtin.append_ #[22, 22] tyo #[.slice ba b.length bc, .slice (some ⟨w.heap.size, 0, none⟩) 1 1]).run Try.prog (w.alloc (.cells #[.int .u8 (x : Int)] 5)) = .ok (.slice b1 (b.length + 1) d1) v1 ∧
      (Builtin.append_ #[22, 22] tyo #[.slice b1 (b.length + 1) d1, .slice a2 n2 c2]).run Try.prog v1 = .ok (.slice b2 (b.length + 1 + n2) d2) v2 ∧
      (Builtin.append_ #[22, 22] tyo #[.slice b2 (b.length + 1 + n2) d2, .slice a3 n3 c3]).run Try.prog v2 = .ok (.slice b3 (b.length + 1 + n2 + n3) d3) v3 ∧
      Kept (fun k => blk ba k) w v1 ∧ Kept (fun k => blk ba k) w v2 ∧ Kept (fun k => blk ba k) w v3 ∧ v3.frozen? ⟨g, 0, none⟩ = false ∧
      WB (v3.setCell ⟨g, 0, none⟩ (.slice b3 (b.length + 1 + n2 + n3) d3)) g (b ++ ([UInt8.ofNat x] ++ (l2 ++ l3))) b3 d3 ∧ Kept (fun k => k = g ∨ blk ba k) w (v3.setCell ⟨g, 0, none⟩ (.slice b3 (b.length + 1 + n2 + n3) d3)) ∧ ∀ k, blk b3 k → blk ba k ∨ w.heap.size ≤ k := by
  have hg := h.has.lt
  have hal : Below w.heap.size w (w.alloc (.cells #[.int .u8 (x : Int)] 5)) := alB w _
  have hw0 := h.below hal
  have hs1 : Sl (w.alloc (.cells #[.int .u8 (x : Int)] 5)) (some ⟨w.heap.size, 0, none⟩) 1 1 (bv [UInt8.ofNat x]) := by
    refine ⟨rfl, Nat.le_refl _, by decide, by simp, fun _ => ⟨_, 0, rfl, fun i hi => ?_⟩⟩
    match i, hi with
    | 0, _ =>
      have : (UInt8.ofNat x).toNat = x := by rw [UInt8.toNat_ofNat']; omega
      simp [bv, this]
  obtain ⟨b1, d1, v1, r1, o1, g1, e1⟩ := run_app_own (tyo := tyo) tyU8 hw0.row hs1 (bv_one _) (by omega) (by unfold maxLen; omega) (by have := hw0.has.lt; omega)
  have k1 := Kept.of_grown g1
  have kk1 : Kept (fun k => blk ba k) w v1 := (Kept.of_below (X := fun k => blk ba k) hal).trans k1 (fun k _ e => blk_own e)
  have nw1 : ∀ k, blk b1 k → blk ba k ∨ w.heap.size ≤ k := fun k hk => by
    rcases e1 k (own_blk hk) with e | e
    · exact .inl (blk_own e)
    · exact .inr (by have := hal.size; omega)
  have far : ∀ {a : Option Addr}, (∀ k, blk a k → k < g) → ∀ ad, a = some ad → ¬ blk ba ad.block := fun hl ad ha hb => by
    have e2 := hl _ ⟨ad, ha, rfl⟩
    have e3 := h.ne _ hb
    omega
  obtain ⟨b2, d2, v2, r2, o2, g2, e2⟩ := run_app_own (tyo := tyo) tyU8 o1 (h2.kept kk1 (far hl2)) (bv_one _) (by omega) (by unfold maxLen; omega) (by have := kk1.size; omega)
  have kk2 : Kept (fun k => blk ba k) w v2 := kk1.trans (Kept.of_grown g2) (fun k hk e => by
    rcases nw1 k (blk_own e) with e | e
    · exact e
    · omega)
  have nw2 : ∀ k, blk b2 k → blk ba k ∨ w.heap.size ≤ k := fun k hk => by
    rcases e2 k (own_blk hk) with e | e
    · exact nw1 k (blk_own e)
    · exact .inr (by have := kk1.size; omega)
  obtain ⟨b3, d3, v3, r3, o3, g3, e3⟩ := run_app_own (tyo := tyo) tyU8 o2 (h3.kept kk2 (far hl3)) (bv_one _) (by omega) (by unfold maxLen; omega) (by have := kk2.size; omega)
  have kk3 : Kept (fun k => blk ba k) w v3 := kk2.trans (Kept.of_grown g3) (fun k hk e => by
    rcases nw2 k (blk_own e) with e | e
    · exact e
    · omega)
  have nw3 : ∀ k, blk b3 k → blk ba k ∨ w.heap.size ≤ k := fun k hk => by
    rcases e3 k (own_blk hk) with e | e
    · exact nw2 k (blk_own e)
    · exact .inr (by have := kk2.size; omega)
  have hH := h.has.kept kk3 (fun e => by have := h.ne g e; omega)
  have ks := Kept.set v3 g 0 (.slice b3 (b.length + 1 + n2 + n3) d3)
  have hlen : (b ++ ([UInt8.ofNat x] ++ (l2 ++ l3))).length = b.length + 1 + n2 + n3 := by simp [h2.byte, h3.byte]; omega
  refine ⟨b1, d1, v1, b2, d2, v2, b3, d3, v3, r1, r2, r3, kk1, kk2, kk3, hH.free 0, ⟨by rw [hlen]; exact hH.set 0 _, ?_⟩, (kk3.more (fun k _ e => .inr e)).trans ks (fun k _ e => .inl e), nw3⟩
  rw [hlen]
  have ho := own_kept o3 ks (fun k e4 e5 => by have := ownsRow_ge o3 k (blk_own e4); omega)
  have eb : bv (b ++ ([UInt8.ofNat x] ++ (l2 ++ l3))) = bv b ++ bv [UInt8.ofNat x] ++ bv l2 ++ bv l3 := by simp [bv]
  rw [eb]
  exact ho
theorem zero_cells (n : Nat) : (madeCells (Value.int .u8 0).cells (n * 1)).toList = bv (List.replicate n 0) := by
  have h : (Value.int .u8 0).cells = #[Value.int .u8 0] := rfl
  rw [h, toList_madeCells_one]
  simp [bv]
theorem RetBE.mk' {w w' : World} {r : List UInt8 × Int} {a : Option Addr} {c n : Nat} {k : Int} {xs : List Value} {e : Ending} (h : e = .returned (.tuple #[.slice a n c, .int .i64 k])) (hk : r.2 = k)
    (ho : w'.ownsRow w.heap.size 5 1 (.slice a n c) n xs) (hx : bv r.1 = xs) (hb : Below w.heap.size w w') : RetBE w.heap.size w r e w' := by
  have hn : r.1.length = n := by have := ho.1; rw [← hx, bv_length] at this; omega
  subst hx; subst hn; subst hk
  exact ⟨a, c, h, ho, hb⟩
theorem ES.on {w0 : World} {g : Nat} {ba0 : Option Addr} {xb : Nat} {f : Fm} {a : FA} {w w' : World} {b b' : List UInt8} {ba ba' : Option Addr} {bc bc' : Nat} (h : ES w0 g ba0 xb f a w b ba bc) (hW : WB w' g b' ba' bc') (hk : Kept (fun k => k = g ∨ blk ba k) w w') (hn : ∀ k, blk ba' k → blk ba k ∨ w.heap.size ≤ k) : ES w0 g ba0 xb f a w' b' ba' bc' := by
  have hxl := h.box.lt
  refine ⟨hW, h.box.kept hk (fun e => ?_), h.inn.kept hk (fun k hb e => ?_), h.low, h.xg, fun hb => ?_, h.kept.wr hk h.new, fun k hb => ?_⟩
  · rcases e with e | e
    · exact h.xg e
    · exact h.xba e
  · have h1 := h.low k hb
    rcases e with e | e
    · omega
    · have := h.wb.ne k e; omega
  · rcases hn xb hb with h1 | h1
    · exact h.xba h1
    · omega
  · rcases hn k hb with h1 | h1
    · exact h.new k h1
    · exact .inr (by have := h.kept.size; omega)
theorem cell_unset {w : World} {g xb j : Nat} {v u : Value} (h : xb ≠ g) (hc : (w.setCell ⟨g, 0, none⟩ v).cell? ⟨xb, j, none⟩ = some u) : w.cell? ⟨xb, j, none⟩ = some u := by
  rw [World.cell?_setCell_other _ _ _ _ (by intro e; simp only [Addr.mk.injEq] at e; exact h e.1.symm)] at hc
  exact hc

set_option maxRecDepth 100000 in
set_option maxHeartbeats 4000000 in
theorem enc_0 (w : World) (i t n c : Int) (fi : Bool) (dt ci : List UInt8) (sp : List Sn) (dl e0 e1 e2 : Int) (da : Option Addr) (dc : Nat) (ca : Option Addr) (cc : Nat) (sa : Option Addr) (sc : Nat) (h : FIn w ⟨0, i, t, n, c, fi, dt, ci, sp, dl, e0, e1, e2⟩ ⟨da, dc, ca, cc, sa, sc⟩) (hl : FLow w.heap.size ⟨da, dc, ca, cc, sa, sc⟩) (hc : chkF ⟨0, i, t, n, c, fi, dt, ci, sp, dl, e0, e1, e2⟩ = 0) :
    Calls Try.prog 12 #[.agg (fcells ⟨0, i, t, n, c, fi, dt, ci, sp, dl, e0, e1, e2⟩ ⟨da, dc, ca, cc, sa, sc⟩).toArray] w (RetBE w.heap.size w (encB ⟨0, i, t, n, c, fi, dt, ci, sp, dl, e0, e1, e2⟩, 0)) := by
  obtain ⟨_, hd, hr⟩ := chk0 hc
  have hr : (decide (1 ≤ n) && decide (n ≤ 16384)) = true := hr
  have hd : dt.length ≤ 16384 := hd
  obtain ⟨R, hR⟩ : ∃ R, R = encB ⟨0, i, t, n, c, fi, dt, ci, sp, dl, e0, e1, e2⟩ := ⟨_, rfl⟩
  obtain ⟨dn, hdn⟩ : ∃ dn, dn = dt.length := ⟨_, rfl⟩
  obtain ⟨cn, hcn⟩ : ∃ cn, cn = ci.length := ⟨_, rfl⟩
  obtain ⟨sn, hsn⟩ : ∃ sn, sn = sp.length := ⟨_, rfl⟩
  have hf : fcells ⟨0, i, t, n, c, fi, dt, ci, sp, dl, e0, e1, e2⟩ ⟨da, dc, ca, cc, sa, sc⟩ = [.int .i64 0, .int .i64 i, .int .i64 t, .int .i64 n, .int .i64 c, .bool fi, .slice da dn dc, .slice ca cn cc, .slice sa sn sc, .int .i64 dl, .int .i64 e0, .int .i64 e1, .int .i64 e2] := by rw [hdn, hcn, hsn]; rfl
  obtain ⟨w2, hw2⟩ : ∃ w2, w2 = w.alloc (.cells #[.int .i64 0, .int .i64 i, .int .i64 t, .int .i64 n, .int .i64 c, .bool fi, .slice da dn dc, .slice ca cn cc, .slice sa sn sc, .int .i64 dl, .int .i64 e0, .int .i64 e1, .int .i64 e2] 26) := ⟨_, rfl⟩
  have hB : Below w.heap.size w w2 := by rw [hw2]; exact alB w _
  obtain ⟨xb, hxb⟩ : ∃ xb, xb = w.heap.size := ⟨_, rfl⟩
  have hG : Has w2 xb 26 [.int .i64 0, .int .i64 i, .int .i64 t, .int .i64 n, .int .i64 c, .bool fi, .slice da dn dc, .slice ca cn cc, .slice sa sn sc, .int .i64 dl, .int .i64 e0, .int .i64 e1, .int .i64 e2] := by rw [hw2, hxb]; exact Has.new _ _ _
  have HG := Lib.hid hG
  have hC := checkF_any w2 (h.below hB)
  rw [hc, hf] at hC
  have HC := Lib.hid hC
  have HSt : Hid (∀ {w3 : World}, Below w2.heap.size w2 w3 → ES (w3.alloc (.cells #[.slice none 0 0] 59)) w3.heap.size none xb ⟨0, i, t, n, c, fi, dt, ci, sp, dl, e0, e1, e2⟩ ⟨da, dc, ca, cc, sa, sc⟩ (w3.alloc (.cells #[.slice none 0 0] 59)) [] none 0) := Lib.hid (fun hb => ES.start (by rw [hf]; exact HG.out.kept (X := none') (Kept.of_below hb) (fun h => h)) ((h.below hB).below hb) (hl.mono (by have := hB.size; have := hb.size; omega)))
  have HCs : Hid (∀ {w4 w' : World} {g : Nat} {b' : List UInt8} {ba' : Option Addr} {bc' : Nat}, ES w4 g none xb ⟨0, i, t, n, c, fi, dt, ci, sp, dl, e0, e1, e2⟩ ⟨da, dc, ca, cc, sa, sc⟩ w' b' ba' bc' → Has w' xb 26 [.int .i64 0, .int .i64 i, .int .i64 t, .int .i64 n, .int .i64 c, .bool fi, .slice da dn dc, .slice ca cn cc, .slice sa sn sc, .int .i64 dl, .int .i64 e0, .int .i64 e1, .int .i64 e2]) := Lib.hid (fun h => by rw [← hf]; exact h.box)
  have HTx : Hid (∀ {w4 w' : World} {g : Nat} {b' : List UInt8} {ba' : Option Addr} {bc' : Nat}, ES w4 g none xb ⟨0, i, t, n, c, fi, dt, ci, sp, dl, e0, e1, e2⟩ ⟨da, dc, ca, cc, sa, sc⟩ w' b' ba' bc' → b'.length ≤ 900000000 → Calls Try.prog 31 #[.pointer (some ⟨g, 0, none⟩), .slice da dn dc] w' (ESR w4 g none xb ⟨0, i, t, n, c, fi, dt, ci, sp, dl, e0, e1, e2⟩ ⟨da, dc, ca, cc, sa, sc⟩ (b' ++ (vl dt.length ++ dt)))) := Lib.hid (fun h hl => by rw [hdn]; exact h.data (Nat.le_trans hd (by decide)) hl)
  rw [← hR, hf]
  have HR := Lib.hid hR
  have HB := Lib.hid hB
  have HD := Lib.hid hd
  have HDn := Lib.hid hdn
  have HCn := Lib.hid hcn
  have HSn := Lib.hid hsn
  have HF := Lib.hid hf
  clear hR hf hdn hcn hsn hB hG hC h hl hd
  obtain ⟨m, hm, hm2⟩ : ∃ m : Nat, n = (m : Int) ∧ m ≤ 16384 := by simp at hr; exact ⟨n.toNat, by omega, by omega⟩
  have HM := Lib.hid (And.intro hm hm2)
  have HRe : Hid (R = List.replicate m 0) := Lib.hid (by rw [HR.out, hm]; simp [encB])
  clear hm hm2 hr
  go_enter Try.func12, Try.ntmps12
  go_upto_region 1 with fail
  rw [← hw2, ← hxb]
  clear hw2 hxb
  have g0 := HG.out.cell 0 rfl
  have g1 := HG.out.cell 1 rfl
  have g2 := HG.out.cell 2 rfl
  have g3 := HG.out.cell 3 rfl
  have g4 := HG.out.cell 4 rfl
  have g5 := HG.out.cell 5 rfl
  have g6 := HG.out.cell 6 rfl
  have g7 := HG.out.cell 7 rfl
  have g8 := HG.out.cell 8 rfl
  have g9 := HG.out.cell 9 rfl
  have g10 := HG.out.cell 10 rfl
  have g11 := HG.out.cell 11 rfl
  have g12 := HG.out.cell 12 rfl
  go_upto_region 4 with (refine HC.out.mono ?_; rintro e w3 ⟨rfl, hb3⟩)
  obtain ⟨g, hg⟩ : ∃ g, g = w3.heap.size := ⟨_, rfl⟩
  obtain ⟨w4, hw4⟩ : ∃ w4, w4 = w3.alloc (.cells #[.slice none 0 0] 59) := ⟨_, rfl⟩
  have HE0 := Lib.hid (HSt.out hb3)
  rw [← hw4, ← hg] at HE0
  have HB4 : Hid (Below w.heap.size w w4) := Lib.hid (by rw [hw4]; exact (HB.out.trans (hb3.mono HB.out.size)).alloc (by have := HB.out.size; have := hb3.size; omega) _)
  have HG4 : Hid (w.heap.size ≤ g) := Lib.hid (by rw [hg]; have := HB.out.size; have := hb3.size; omega)
  clear hb3 g0 g1 g2 g3 g4 g5 g6 g7 g8 g9 g10 g11 g12
  go_upto_region 5 with fail
  rw [← hw4, ← hg]
  clear hw4 hg
  have g0 := (HCs.out HE0.out).cell 0 rfl
  have g1 := (HCs.out HE0.out).cell 1 rfl
  have g2 := (HCs.out HE0.out).cell 2 rfl
  have g3 := (HCs.out HE0.out).cell 3 rfl
  have g4 := (HCs.out HE0.out).cell 4 rfl
  have g5 := (HCs.out HE0.out).cell 5 rfl
  have g6 := (HCs.out HE0.out).cell 6 rfl
  have g7 := (HCs.out HE0.out).cell 7 rfl
  have g8 := (HCs.out HE0.out).cell 8 rfl
  have g9 := (HCs.out HE0.out).cell 9 rfl
  have g10 := (HCs.out HE0.out).cell 10 rfl
  have g11 := (HCs.out HE0.out).cell 11 rfl
  have g12 := (HCs.out HE0.out).cell 12 rfl
  obtain ⟨ii, hi, hz, hsize, hby⟩ := tyU8.ex
  go_wp2_with (refine wpList_make_full _ rfl (.tmp 17) (.tmp 17) _ rfl w4.heap.size 5 ii (.int .u8 0) 1 tyU8.ht hi hz hsize .i64 .i64 _ _ m rfl rfl HM.out.1 HM.out.1 (by rw [hby]; have := HM.out.2; omega) (by have := HM.out.2; unfold maxLen; omega) (Nat.le_refl _) ?_; intro w5 ho5 hg5)
  go_ret2
  rw [HRe.out]
  refine RetBE.mk' rfl rfl (own_mono ho5 (by have := HB4.out.size; exact this)) (zero_cells m).symm (HB4.out.grown hg5 HB4.out.size (fun k hk => by cases hk))

set_option maxRecDepth 100000 in
set_option maxHeartbeats 4000000 in
theorem enc_24 (w : World) (i t n c : Int) (fi : Bool) (dt ci : List UInt8) (sp : List Sn) (dl e0 e1 e2 : Int) (da : Option Addr) (dc : Nat) (ca : Option Addr) (cc : Nat) (sa : Option Addr) (sc : Nat) (h : FIn w ⟨24, i, t, n, c, fi, dt, ci, sp, dl, e0, e1, e2⟩ ⟨da, dc, ca, cc, sa, sc⟩) (hl : FLow w.heap.size ⟨da, dc, ca, cc, sa, sc⟩) (hc : chkF ⟨24, i, t, n, c, fi, dt, ci, sp, dl, e0, e1, e2⟩ = 0) :
    Calls Try.prog 12 #[.agg (fcells ⟨24, i, t, n, c, fi, dt, ci, sp, dl, e0, e1, e2⟩ ⟨da, dc, ca, cc, sa, sc⟩).toArray] w (RetBE w.heap.size w (encB ⟨24, i, t, n, c, fi, dt, ci, sp, dl, e0, e1, e2⟩, 0)) := by
  obtain ⟨_, hd, hr⟩ := chk0 hc
  have hr : ([n, t].all numB && (decide (t ≤ n) && (decide (1 ≤ ci.length) && (decide (ci.length ≤ 20) && decide (dt.length = 16))))) = true := hr
  have hd : dt.length ≤ 16384 := hd
  obtain ⟨R, hR⟩ : ∃ R, R = encB ⟨24, i, t, n, c, fi, dt, ci, sp, dl, e0, e1, e2⟩ := ⟨_, rfl⟩
  obtain ⟨dn, hdn⟩ : ∃ dn, dn = dt.length := ⟨_, rfl⟩
  obtain ⟨cn, hcn⟩ : ∃ cn, cn = ci.length := ⟨_, rfl⟩
  obtain ⟨sn, hsn⟩ : ∃ sn, sn = sp.length := ⟨_, rfl⟩
  have hf : fcells ⟨24, i, t, n, c, fi, dt, ci, sp, dl, e0, e1, e2⟩ ⟨da, dc, ca, cc, sa, sc⟩ = [.int .i64 24, .int .i64 i, .int .i64 t, .int .i64 n, .int .i64 c, .bool fi, .slice da dn dc, .slice ca cn cc, .slice sa sn sc, .int .i64 dl, .int .i64 e0, .int .i64 e1, .int .i64 e2] := by rw [hdn, hcn, hsn]; rfl
  obtain ⟨w2, hw2⟩ : ∃ w2, w2 = w.alloc (.cells #[.int .i64 24, .int .i64 i, .int .i64 t, .int .i64 n, .int .i64 c, .bool fi, .slice da dn dc, .slice ca cn cc, .slice sa sn sc, .int .i64 dl, .int .i64 e0, .int .i64 e1, .int .i64 e2] 26) := ⟨_, rfl⟩
  have hB : Below w.heap.size w w2 := by rw [hw2]; exact alB w _
  obtain ⟨xb, hxb⟩ : ∃ xb, xb = w.heap.size := ⟨_, rfl⟩
  have hG : Has w2 xb 26 [.int .i64 24, .int .i64 i, .int .i64 t, .int .i64 n, .int .i64 c, .bool fi, .slice da dn dc, .slice ca cn cc, .slice sa sn sc, .int .i64 dl, .int .i64 e0, .int .i64 e1, .int .i64 e2] := by rw [hw2, hxb]; exact Has.new _ _ _
  have HG := Lib.hid hG
  have hC := checkF_any w2 (h.below hB)
  rw [hc, hf] at hC
  have HC := Lib.hid hC
  have HSt : Hid (∀ {w3 : World}, Below w2.heap.size w2 w3 → ES (w3.alloc (.cells #[.slice none 0 0] 59)) w3.heap.size none xb ⟨24, i, t, n, c, fi, dt, ci, sp, dl, e0, e1, e2⟩ ⟨da, dc, ca, cc, sa, sc⟩ (w3.alloc (.cells #[.slice none 0 0] 59)) [] none 0) := Lib.hid (fun hb => ES.start (by rw [hf]; exact HG.out.kept (X := none') (Kept.of_below hb) (fun h => h)) ((h.below hB).below hb) (hl.mono (by have := hB.size; have := hb.size; omega)))
  have HCs : Hid (∀ {w4 w' : World} {g : Nat} {b' : List UInt8} {ba' : Option Addr} {bc' : Nat}, ES w4 g none xb ⟨24, i, t, n, c, fi, dt, ci, sp, dl, e0, e1, e2⟩ ⟨da, dc, ca, cc, sa, sc⟩ w' b' ba' bc' → Has w' xb 26 [.int .i64 24, .int .i64 i, .int .i64 t, .int .i64 n, .int .i64 c, .bool fi, .slice da dn dc, .slice ca cn cc, .slice sa sn sc, .int .i64 dl, .int .i64 e0, .int .i64 e1, .int .i64 e2]) := Lib.hid (fun h => by rw [← hf]; exact h.box)
  have HTx : Hid (∀ {w4 w' : World} {g : Nat} {b' : List UInt8} {ba' : Option Addr} {bc' : Nat}, ES w4 g none xb ⟨24, i, t, n, c, fi, dt, ci, sp, dl, e0, e1, e2⟩ ⟨da, dc, ca, cc, sa, sc⟩ w' b' ba' bc' → b'.length ≤ 900000000 → Calls Try.prog 31 #[.pointer (some ⟨g, 0, none⟩), .slice da dn dc] w' (ESR w4 g none xb ⟨24, i, t, n, c, fi, dt, ci, sp, dl, e0, e1, e2⟩ ⟨da, dc, ca, cc, sa, sc⟩ (b' ++ (vl dt.length ++ dt)))) := Lib.hid (fun h hl => by rw [hdn]; exact h.data (Nat.le_trans hd (by decide)) hl)
  rw [← hR, hf]
  have HR := Lib.hid hR
  have HB := Lib.hid hB
  have HD := Lib.hid hd
  have HDn := Lib.hid hdn
  have HCn := Lib.hid hcn
  have HSn := Lib.hid hsn
  have HF := Lib.hid hf
  clear hR hf hdn hcn hsn hB hG hC h hl hd
  obtain ⟨⟨hr_n, hr_t⟩, _, _, hcl, _⟩ : (numB n = true ∧ numB t = true) ∧ t ≤ n ∧ 1 ≤ ci.length ∧ ci.length ≤ 20 ∧ dt.length = 16 := by simpa using hr
  have HCl : Hid (cn ≤ 20) := Lib.hid (by rw [HCn.out]; exact hcl)
  clear hr hcl
  go_enter Try.func12, Try.ntmps12
  go_upto_region 1 with fail
  rw [← hw2, ← hxb]
  clear hw2 hxb
  have g0 := HG.out.cell 0 rfl
  have g1 := HG.out.cell 1 rfl
  have g2 := HG.out.cell 2 rfl
  have g3 := HG.out.cell 3 rfl
  have g4 := HG.out.cell 4 rfl
  have g5 := HG.out.cell 5 rfl
  have g6 := HG.out.cell 6 rfl
  have g7 := HG.out.cell 7 rfl
  have g8 := HG.out.cell 8 rfl
  have g9 := HG.out.cell 9 rfl
  have g10 := HG.out.cell 10 rfl
  have g11 := HG.out.cell 11 rfl
  have g12 := HG.out.cell 12 rfl
  go_upto_region 4 with (refine HC.out.mono ?_; rintro e w3 ⟨rfl, hb3⟩)
  obtain ⟨g, hg⟩ : ∃ g, g = w3.heap.size := ⟨_, rfl⟩
  obtain ⟨w4, hw4⟩ : ∃ w4, w4 = w3.alloc (.cells #[.slice none 0 0] 59) := ⟨_, rfl⟩
  have HE0 := Lib.hid (HSt.out hb3)
  rw [← hw4, ← hg] at HE0
  have HB4 : Hid (Below w.heap.size w w4) := Lib.hid (by rw [hw4]; exact (HB.out.trans (hb3.mono HB.out.size)).alloc (by have := HB.out.size; have := hb3.size; omega) _)
  have HG4 : Hid (w.heap.size ≤ g) := Lib.hid (by rw [hg]; have := HB.out.size; have := hb3.size; omega)
  clear hb3 g0 g1 g2 g3 g4 g5 g6 g7 g8 g9 g10 g11 g12
  go_upto_region 5 with fail
  rw [← hw4, ← hg]
  clear hw4 hg
  have HL0 : Hid (([] : List UInt8).length ≤ 0) := Lib.hid (Nat.le_refl _)
  have H1 := Lib.hid (HE0.out.nums1 24 (le_big HL0.out (by decide)).1 rfl)
  have g0 := (HCs.out HE0.out).cell 0 rfl
  have g1 := (HCs.out HE0.out).cell 1 rfl
  have g2 := (HCs.out HE0.out).cell 2 rfl
  have g3 := (HCs.out HE0.out).cell 3 rfl
  have g4 := (HCs.out HE0.out).cell 4 rfl
  have g5 := (HCs.out HE0.out).cell 5 rfl
  have g6 := (HCs.out HE0.out).cell 6 rfl
  have g7 := (HCs.out HE0.out).cell 7 rfl
  have g8 := (HCs.out HE0.out).cell 8 rfl
  have g9 := (HCs.out HE0.out).cell 9 rfl
  have g10 := (HCs.out HE0.out).cell 10 rfl
  have g11 := (HCs.out HE0.out).cell 11 rfl
  have g12 := (HCs.out HE0.out).cell 12 rfl
  go_wp2_with fail
  refine H1.out.mono ?_
  rintro e v1 ⟨rfl, ba1, bc1, hE⟩
  have HE1 := Lib.hid hE
  have HL1 : Hid (([] ++ nB [24] : List UInt8).length ≤ 8) := Lib.hid (len_nums HL0.out rfl)
  clear hE g0 g1 g2 g3 g4 g5 g6 g7 g8 g9 g10 g11 g12
  have H2 := Lib.hid (HE1.out.nums2 n t (le_big HL1.out (by decide)).1 hr_n hr_t)
  have g0 := (HCs.out HE1.out).cell 0 rfl
  have g1 := (HCs.out HE1.out).cell 1 rfl
  have g2 := (HCs.out HE1.out).cell 2 rfl
  have g3 := (HCs.out HE1.out).cell 3 rfl
  have g4 := (HCs.out HE1.out).cell 4 rfl
  have g5 := (HCs.out HE1.out).cell 5 rfl
  have g6 := (HCs.out HE1.out).cell 6 rfl
  have g7 := (HCs.out HE1.out).cell 7 rfl
  have g8 := (HCs.out HE1.out).cell 8 rfl
  have g9 := (HCs.out HE1.out).cell 9 rfl
  have g10 := (HCs.out HE1.out).cell 10 rfl
  have g11 := (HCs.out HE1.out).cell 11 rfl
  have g12 := (HCs.out HE1.out).cell 12 rfl
  go_wp2_with fail
  refine H2.out.mono ?_
  rintro e v2 ⟨rfl, ba2, bc2, hE⟩
  have HE2 := Lib.hid hE
  have HL2 : Hid (([] ++ nB [24] ++ nB [n, t] : List UInt8).length ≤ 24) := Lib.hid (len_nums HL1.out rfl)
  clear hE g0 g1 g2 g3 g4 g5 g6 g7 g8 g9 g10 g11 g12
  obtain ⟨bb, hbb⟩ : ∃ bb, bb = ([] ++ nB [24] ++ nB [n, t] : List UInt8) := ⟨_, rfl⟩
  rw [← hbb] at HE2 HL2
  have HBb := Lib.hid hbb
  clear hbb
  have g0 := (HCs.out HE2.out).cell 0 rfl
  have g1 := (HCs.out HE2.out).cell 1 rfl
  have g2 := (HCs.out HE2.out).cell 2 rfl
  have g3 := (HCs.out HE2.out).cell 3 rfl
  have g4 := (HCs.out HE2.out).cell 4 rfl
  have g5 := (HCs.out HE2.out).cell 5 rfl
  have g6 := (HCs.out HE2.out).cell 6 rfl
  have g7 := (HCs.out HE2.out).cell 7 rfl
  have g8 := (HCs.out HE2.out).cell 8 rfl
  have g9 := (HCs.out HE2.out).cell 9 rfl
  have g10 := (HCs.out HE2.out).cell 10 rfl
  have g11 := (HCs.out HE2.out).cell 11 rfl
  have g12 := (HCs.out HE2.out).cell 12 rfl
  have hE2 := HE2.out.below (below_drewN (Below.refl v2.heap.size v2) 1)
  have hE2 : ES w4 g none xb ⟨24, i, t, n, c, fi, dt, ci, sp, dl, e0, e1, e2⟩ ⟨da, dc, ca, cc, sa, sc⟩ v2.drew bb ba2 bc2 := hE2
  have hD2 : Sl v2.drew da dn dc (bv dt) := by
    have h1 := hE2.inn.data
    simp only at h1
    rw [← HDn.out] at h1
    exact h1
  have hC2 : Sl v2.drew ca cn cc (bv ci) := by
    have h1 := hE2.inn.cid
    simp only at h1
    rw [← HCn.out] at h1
    exact h1
  obtain ⟨b3, d3, v3, b4, d4, v4, b5, d5, v5, r3, r4, r5, k3, k4, k5, f5, hW5, hk5, hn5⟩ := hE2.wb.app3 22 HCl.out hC2 (fun k hk => hE2.low k (.inr (.inl hk))) hD2 (fun k hk => hE2.low k (.inl hk)) (by have := HL2.out; have := HD.out; have := HDn.out; have := HCl.out; omega)
  have q0 : v2.drew.cell? ⟨g, 0, none⟩ = some (.slice ba2 bb.length bc2) := HE2.out.wb.has.cell 0 rfl
  have q6 : v2.drew.cell? ⟨xb, 6, none⟩ = some (.slice da dn dc) := g6
  have q7 : v2.drew.cell? ⟨xb, 7, none⟩ = some (.slice ca cn cc) := g7
  have HSat := Lib.hid (Sat.cons q0 (Sat.cons q6 (Sat.cons q7 (Sat.nil _))))
  have HKS : Hid (∀ v, Kept (fun k => blk ba2 k) v2.drew v → Sat [(⟨g, 0, none⟩, .slice ba2 bb.length bc2), (⟨xb, 6, none⟩, .slice da dn dc), (⟨xb, 7, none⟩, .slice ca cn cc)] v) := Lib.hid (fun v hk => Sat.cons (hk.cell q0 (fun e => by have h1 := hE2.wb.ne g e; omega)) (Sat.cons (hk.cell q6 hE2.xba) (Sat.cons (hk.cell q7 hE2.xba) (Sat.nil _))))
  have HEf := Lib.hid (hE2.on hW5 hk5 hn5)
  have hH5 := (HKS.out v5 k5) 0 _ _ rfl
  have HS3 := Lib.hid (HKS.out v3 k3)
  have HS4 := Lib.hid (HKS.out v4 k4)
  have HS5 := Lib.hid (HKS.out v5 k5)
  have HSa := Lib.hid (HSat.out.below (alB v2.drew (.cells #[.int .u8 (cn : Int)] 5)))
  have cw : IntKind.u8.wrap (cn : Int) = (cn : Int) := by have := HCl.out; show (cn : Int) % 256 = cn; omega
  have HR3 := Lib.hid r3
  have HR4 := Lib.hid r4
  have HR5 := Lib.hid r5
  have HF5 := Lib.hid f5
  have HH5 := Lib.hid hH5
  clear hE2 hD2 hC2 r3 r4 r5 k3 k4 k5 f5 hW5 hk5 hn5 q0 q6 q7 hH5
  go_upto_region 32 with fail
  clear g0 g1 g2 g3 g4 g5 g6 g7 g8 g9 g10 g11 g12
  refine Mx.regionZ [] (Sat [(⟨g, 0, none⟩, .slice ba2 bb.length bc2), (⟨xb, 6, none⟩, .slice da dn dc), (⟨xb, 7, none⟩, .slice ca cn cc)]) (by kernel_rfl) (by kernel_rfl) HSat.out ?_
  repeat ((first | (refine Mx.skips (by kernel_rfl) ?_; go_big_quiet_skip) | (refine Mx.quietly rfl ?_; go_big_quiet_want; go_big_quiet_op; go_big_quiet_on)); refine Mx.done ?_)
  refine Mx.cell ⟨g, 0, none⟩ (.slice ba2 bb.length bc2) (by kernel_rfl) (by kernel_rfl) (by kernel_rfl) Try.isAgg22 (fun w' h => h 0 _ _ rfl) ?_
  go_big_quiet_want; go_big_quiet_op; go_big_quiet_on; refine Mx.done ?_
  repeat ((first | (refine Mx.skips (by kernel_rfl) ?_; go_big_quiet_skip) | (refine Mx.quietly rfl ?_; go_big_quiet_want; go_big_quiet_op; go_big_quiet_on)); refine Mx.done ?_)
  refine Mx.cell ⟨xb, 7, none⟩ (.slice ca cn cc) (by kernel_rfl) (by kernel_rfl) (by kernel_rfl) Try.isAgg22 (fun w' h => h 2 _ _ rfl) ?_
  go_big_quiet_want; go_big_quiet_op; go_big_quiet_on; refine Mx.done ?_
  repeat ((first | (refine Mx.skips (by kernel_rfl) ?_; go_big_quiet_skip) | (refine Mx.quietly rfl ?_; go_big_quiet_want; go_big_quiet_op; go_big_quiet_on)); refine Mx.done ?_)
  refine Mx.loudly (by kernel_rfl) (by kernel_rfl) ?_
  go_wp2_with fail
  refine ⟨HSa.out, ?_⟩
  repeat ((first | (refine Mx.skips (by kernel_rfl) ?_; go_big_quiet_skip) | (refine Mx.quietly rfl ?_; go_big_quiet_want; go_big_quiet_op; go_big_quiet_on)); refine Mx.done ?_)
  refine Mx.loudly (by kernel_rfl) (by kernel_rfl) ?_
  have r3 := HR3.out
  go_wp2_with (at_builtin; refine Lib.wpList_append_run _ rfl _ _ _ _ rfl (.slice ba2 bb.length bc2) _ rfl rfl _ _ r3 ?_)
  refine ⟨HS3.out, ?_⟩
  clear r3
  repeat ((first | (refine Mx.skips (by kernel_rfl) ?_; go_big_quiet_skip) | (refine Mx.quietly rfl ?_; go_big_quiet_want; go_big_quiet_op; go_big_quiet_on)); refine Mx.done ?_)
  refine Mx.cell ⟨xb, 7, none⟩ (.slice ca cn cc) (by kernel_rfl) (by kernel_rfl) (by kernel_rfl) Try.isAgg22 (fun w' h => h 2 _ _ rfl) ?_
  go_big_quiet_want; go_big_quiet_op; go_big_quiet_on; refine Mx.done ?_
  repeat ((first | (refine Mx.skips (by kernel_rfl) ?_; go_big_quiet_skip) | (refine Mx.quietly rfl ?_; go_big_quiet_want; go_big_quiet_op; go_big_quiet_on)); refine Mx.done ?_)
  refine Mx.loudly (by kernel_rfl) (by kernel_rfl) ?_
  have r4 := HR4.out
  go_wp2_with (at_builtin; refine Lib.wpList_append_run _ rfl _ _ _ _ rfl (.slice b3 (bb.length + 1) d3) (.slice ca cn cc) rfl rfl _ _ r4 ?_)
  refine ⟨HS4.out, ?_⟩
  clear r4
  repeat ((first | (refine Mx.skips (by kernel_rfl) ?_; go_big_quiet_skip) | (refine Mx.quietly rfl ?_; go_big_quiet_want; go_big_quiet_op; go_big_quiet_on)); refine Mx.done ?_)
  refine Mx.cell ⟨xb, 6, none⟩ (.slice da dn dc) (by kernel_rfl) (by kernel_rfl) (by kernel_rfl) Try.isAgg22 (fun w' h => h 1 _ _ rfl) ?_
  go_big_quiet_want; go_big_quiet_op; go_big_quiet_on; refine Mx.done ?_
  repeat ((first | (refine Mx.skips (by kernel_rfl) ?_; go_big_quiet_skip) | (refine Mx.quietly rfl ?_; go_big_quiet_want; go_big_quiet_op; go_big_quiet_on)); refine Mx.done ?_)
  refine Mx.loudly (by kernel_rfl) (by kernel_rfl) ?_
  have r5 := HR5.out
  go_wp2_with (at_builtin; refine Lib.wpList_append_run _ rfl _ _ _ _ rfl (.slice b4 (bb.length + 1 + cn) d4) (.slice da dn dc) rfl rfl _ _ r5 ?_)
  refine ⟨HS5.out, ?_⟩
  clear r5
  repeat ((first | (refine Mx.skips (by kernel_rfl) ?_; go_big_quiet_skip) | (refine Mx.quietly rfl ?_; go_big_quiet_want; go_big_quiet_op; go_big_quiet_on)); refine Mx.done ?_)
  refine Mx.atLast (by kernel_rfl) (by kernel_rfl) ?_
  have hH5 := HH5.out
  have f5 := HF5.out
  go_wp2_with fail
  go_ret2
  exact HEf.out.ret HB4.out HG4.out (by rw [HR.out, HBb.out, HCn.out]; simp [encB, itmB]) (by rw [HDn.out, HCn.out]; simp; omega)

set_option maxRecDepth 100000 in
set_option maxHeartbeats 4000000 in
theorem enc_26 (w : World) (i t n c : Int) (fi : Bool) (dt ci : List UInt8) (sp : List Sn) (dl e0 e1 e2 : Int) (da : Option Addr) (dc : Nat) (ca : Option Addr) (cc : Nat) (sa : Option Addr) (sc : Nat) (h : FIn w ⟨26, i, t, n, c, fi, dt, ci, sp, dl, e0, e1, e2⟩ ⟨da, dc, ca, cc, sa, sc⟩) (hl : FLow w.heap.size ⟨da, dc, ca, cc, sa, sc⟩) (hc : chkF ⟨26, i, t, n, c, fi, dt, ci, sp, dl, e0, e1, e2⟩ = 0) :
    Calls Try.prog 12 #[.agg (fcells ⟨26, i, t, n, c, fi, dt, ci, sp, dl, e0, e1, e2⟩ ⟨da, dc, ca, cc, sa, sc⟩).toArray] w (RetBE w.heap.size w (encB ⟨26, i, t, n, c, fi, dt, ci, sp, dl, e0, e1, e2⟩, 0)) := by
  obtain ⟨_, hd, hr⟩ := chk0 hc
  have hr : decide (dt.length = 8) = true := hr
  have hd : dt.length ≤ 16384 := hd
  obtain ⟨R, hR⟩ : ∃ R, R = encB ⟨26, i, t, n, c, fi, dt, ci, sp, dl, e0, e1, e2⟩ := ⟨_, rfl⟩
  obtain ⟨dn, hdn⟩ : ∃ dn, dn = dt.length := ⟨_, rfl⟩
  obtain ⟨cn, hcn⟩ : ∃ cn, cn = ci.length := ⟨_, rfl⟩
  obtain ⟨sn, hsn⟩ : ∃ sn, sn = sp.length := ⟨_, rfl⟩
  have hf : fcells ⟨26, i, t, n, c, fi, dt, ci, sp, dl, e0, e1, e2⟩ ⟨da, dc, ca, cc, sa, sc⟩ = [.int .i64 26, .int .i64 i, .int .i64 t, .int .i64 n, .int .i64 c, .bool fi, .slice da dn dc, .slice ca cn cc, .slice sa sn sc, .int .i64 dl, .int .i64 e0, .int .i64 e1, .int .i64 e2] := by rw [hdn, hcn, hsn]; rfl
  obtain ⟨w2, hw2⟩ : ∃ w2, w2 = w.alloc (.cells #[.int .i64 26, .int .i64 i, .int .i64 t, .int .i64 n, .int .i64 c, .bool fi, .slice da dn dc, .slice ca cn cc, .slice sa sn sc, .int .i64 dl, .int .i64 e0, .int .i64 e1, .int .i64 e2] 26) := ⟨_, rfl⟩
  have hB : Below w.heap.size w w2 := by rw [hw2]; exact alB w _
  obtain ⟨xb, hxb⟩ : ∃ xb, xb = w.heap.size := ⟨_, rfl⟩
  have hG : Has w2 xb 26 [.int .i64 26, .int .i64 i, .int .i64 t, .int .i64 n, .int .i64 c, .bool fi, .slice da dn dc, .slice ca cn cc, .slice sa sn sc, .int .i64 dl, .int .i64 e0, .int .i64 e1, .int .i64 e2] := by rw [hw2, hxb]; exact Has.new _ _ _
  have HG := Lib.hid hG
  have hC := checkF_any w2 (h.below hB)
  rw [hc, hf] at hC
  have HC := Lib.hid hC
  have HSt : Hid (∀ {w3 : World}, Below w2.heap.size w2 w3 → ES (w3.alloc (.cells #[.slice none 0 0] 59)) w3.heap.size none xb ⟨26, i, t, n, c, fi, dt, ci, sp, dl, e0, e1, e2⟩ ⟨da, dc, ca, cc, sa, sc⟩ (w3.alloc (.cells #[.slice none 0 0] 59)) [] none 0) := Lib.hid (fun hb => ES.start (by rw [hf]; exact HG.out.kept (X := none') (Kept.of_below hb) (fun h => h)) ((h.below hB).below hb) (hl.mono (by have := hB.size; have := hb.size; omega)))
  have HCs : Hid (∀ {w4 w' : World} {g : Nat} {b' : List UInt8} {ba' : Option Addr} {bc' : Nat}, ES w4 g none xb ⟨26, i, t, n, c, fi, dt, ci, sp, dl, e0, e1, e2⟩ ⟨da, dc, ca, cc, sa, sc⟩ w' b' ba' bc' → Has w' xb 26 [.int .i64 26, .int .i64 i, .int .i64 t, .int .i64 n, .int .i64 c, .bool fi, .slice da dn dc, .slice ca cn cc, .slice sa sn sc, .int .i64 dl, .int .i64 e0, .int .i64 e1, .int .i64 e2]) := Lib.hid (fun h => by rw [← hf]; exact h.box)
  have HTx : Hid (∀ {w4 w' : World} {g : Nat} {b' : List UInt8} {ba' : Option Addr} {bc' : Nat}, ES w4 g none xb ⟨26, i, t, n, c, fi, dt, ci, sp, dl, e0, e1, e2⟩ ⟨da, dc, ca, cc, sa, sc⟩ w' b' ba' bc' → b'.length ≤ 900000000 → Calls Try.prog 31 #[.pointer (some ⟨g, 0, none⟩), .slice da dn dc] w' (ESR w4 g none xb ⟨26, i, t, n, c, fi, dt, ci, sp, dl, e0, e1, e2⟩ ⟨da, dc, ca, cc, sa, sc⟩ (b' ++ (vl dt.length ++ dt)))) := Lib.hid (fun h hl => by rw [hdn]; exact h.data (Nat.le_trans hd (by decide)) hl)
  rw [← hR, hf]
  have HR := Lib.hid hR
  have HB := Lib.hid hB
  have HD := Lib.hid hd
  have HDn := Lib.hid hdn
  have HCn := Lib.hid hcn
  have HSn := Lib.hid hsn
  have HF := Lib.hid hf
  clear hR hf hdn hcn hsn hB hG hC h hl hd
  go_enter Try.func12, Try.ntmps12
  go_upto_region 1 with fail
  rw [← hw2, ← hxb]
  clear hw2 hxb
  have g0 := HG.out.cell 0 rfl
  have g1 := HG.out.cell 1 rfl
  have g2 := HG.out.cell 2 rfl
  have g3 := HG.out.cell 3 rfl
  have g4 := HG.out.cell 4 rfl
  have g5 := HG.out.cell 5 rfl
  have g6 := HG.out.cell 6 rfl
  have g7 := HG.out.cell 7 rfl
  have g8 := HG.out.cell 8 rfl
  have g9 := HG.out.cell 9 rfl
  have g10 := HG.out.cell 10 rfl
  have g11 := HG.out.cell 11 rfl
  have g12 := HG.out.cell 12 rfl
  go_upto_region 4 with (refine HC.out.mono ?_; rintro e w3 ⟨rfl, hb3⟩)
  obtain ⟨g, hg⟩ : ∃ g, g = w3.heap.size := ⟨_, rfl⟩
  obtain ⟨w4, hw4⟩ : ∃ w4, w4 = w3.alloc (.cells #[.slice none 0 0] 59) := ⟨_, rfl⟩
  have HE0 := Lib.hid (HSt.out hb3)
  rw [← hw4, ← hg] at HE0
  have HB4 : Hid (Below w.heap.size w w4) := Lib.hid (by rw [hw4]; exact (HB.out.trans (hb3.mono HB.out.size)).alloc (by have := HB.out.size; have := hb3.size; omega) _)
  have HG4 : Hid (w.heap.size ≤ g) := Lib.hid (by rw [hg]; have := HB.out.size; have := hb3.size; omega)
  clear hb3 g0 g1 g2 g3 g4 g5 g6 g7 g8 g9 g10 g11 g12
  go_upto_region 5 with fail
  rw [← hw4, ← hg]
  clear hw4 hg
  have HL0 : Hid (([] : List UInt8).length ≤ 0) := Lib.hid (Nat.le_refl _)
  have H1 := Lib.hid (HE0.out.nums1 26 (le_big HL0.out (by decide)).1 rfl)
  have g0 := (HCs.out HE0.out).cell 0 rfl
  have g1 := (HCs.out HE0.out).cell 1 rfl
  have g2 := (HCs.out HE0.out).cell 2 rfl
  have g3 := (HCs.out HE0.out).cell 3 rfl
  have g4 := (HCs.out HE0.out).cell 4 rfl
  have g5 := (HCs.out HE0.out).cell 5 rfl
  have g6 := (HCs.out HE0.out).cell 6 rfl
  have g7 := (HCs.out HE0.out).cell 7 rfl
  have g8 := (HCs.out HE0.out).cell 8 rfl
  have g9 := (HCs.out HE0.out).cell 9 rfl
  have g10 := (HCs.out HE0.out).cell 10 rfl
  have g11 := (HCs.out HE0.out).cell 11 rfl
  have g12 := (HCs.out HE0.out).cell 12 rfl
  go_wp2_with fail
  refine H1.out.mono ?_
  rintro e v1 ⟨rfl, ba1, bc1, hE⟩
  have HE1 := Lib.hid hE
  have HL1 : Hid (([] ++ nB [26] : List UInt8).length ≤ 8) := Lib.hid (len_nums HL0.out rfl)
  clear hE g0 g1 g2 g3 g4 g5 g6 g7 g8 g9 g10 g11 g12
  obtain ⟨bb, hbb⟩ : ∃ bb, bb = ([] ++ nB [26] : List UInt8) := ⟨_, rfl⟩
  rw [← hbb] at HE1 HL1
  have HBb := Lib.hid hbb
  clear hbb
  have g0 := (HCs.out HE1.out).cell 0 rfl
  have g1 := (HCs.out HE1.out).cell 1 rfl
  have g2 := (HCs.out HE1.out).cell 2 rfl
  have g3 := (HCs.out HE1.out).cell 3 rfl
  have g4 := (HCs.out HE1.out).cell 4 rfl
  have g5 := (HCs.out HE1.out).cell 5 rfl
  have g6 := (HCs.out HE1.out).cell 6 rfl
  have g7 := (HCs.out HE1.out).cell 7 rfl
  have g8 := (HCs.out HE1.out).cell 8 rfl
  have g9 := (HCs.out HE1.out).cell 9 rfl
  have g10 := (HCs.out HE1.out).cell 10 rfl
  have g11 := (HCs.out HE1.out).cell 11 rfl
  have g12 := (HCs.out HE1.out).cell 12 rfl
  have hE1 := HE1.out
  have hD1 : Sl v1.drew da dn dc (bv dt) := by
    have h1 := (hE1.below (below_drewN (Below.refl v1.heap.size v1) 1)).inn.data
    simp only at h1
    rw [← HDn.out] at h1
    exact h1
  have hW1 := hE1.wb.below (below_drewN (Below.refl v1.heap.size v1) 1)
  obtain ⟨ba2, bc2, v2, hr2, c2, f2, hW2, hk2, hn2⟩ := hW1.app (tyo := 22) hD1 (by have := HL1.out; have := HD.out; have := HDn.out; omega)
  have q0 : v1.drew.cell? ⟨g, 0, none⟩ = some (.slice ba1 bb.length bc1) := hE1.wb.has.cell 0 rfl
  have q6 : v1.drew.cell? ⟨xb, 6, none⟩ = some (.slice da dn dc) := g6
  have HSat := Lib.hid (Sat.cons q0 (Sat.cons q6 (Sat.nil _)))
  have HEf := Lib.hid ((hE1.below (below_drewN (Below.refl v1.heap.size v1) 1)).on hW2 hk2 hn2)
  have HC2 := Lib.hid c2
  clear hE1 hD1 hW1 hW2 hk2 hn2 q0 q6
  go_upto_region 35 with fail
  clear g0 g1 g2 g3 g4 g5 g6 g7 g8 g9 g10 g11 g12
  refine Mx.regionZ [] (Sat [(⟨g, 0, none⟩, .slice ba1 bb.length bc1), (⟨xb, 6, none⟩, .slice da dn dc)]) (by kernel_rfl) (by kernel_rfl) HSat.out ?_
  repeat ((first | (refine Mx.skips (by kernel_rfl) ?_; go_big_quiet_skip) | (refine Mx.quietly rfl ?_; go_big_quiet_want; go_big_quiet_op; go_big_quiet_on)); refine Mx.done ?_)
  refine Mx.cell ⟨g, 0, none⟩ (.slice ba1 bb.length bc1) (by kernel_rfl) (by kernel_rfl) (by kernel_rfl) Try.isAgg22 (fun w' h => h 0 _ _ rfl) ?_
  go_big_quiet_want; go_big_quiet_op; go_big_quiet_on; refine Mx.done ?_
  repeat ((first | (refine Mx.skips (by kernel_rfl) ?_; go_big_quiet_skip) | (refine Mx.quietly rfl ?_; go_big_quiet_want; go_big_quiet_op; go_big_quiet_on)); refine Mx.done ?_)
  refine Mx.cell ⟨xb, 6, none⟩ (.slice da dn dc) (by kernel_rfl) (by kernel_rfl) (by kernel_rfl) Try.isAgg22 (fun w' h => h 1 _ _ rfl) ?_
  go_big_quiet_want; go_big_quiet_op; go_big_quiet_on; refine Mx.done ?_
  repeat ((first | (refine Mx.skips (by kernel_rfl) ?_; go_big_quiet_skip) | (refine Mx.quietly rfl ?_; go_big_quiet_want; go_big_quiet_op; go_big_quiet_on)); refine Mx.done ?_)
  have HSat2 : Hid (Sat [(⟨g, 0, none⟩, .slice ba1 bb.length bc1), (⟨xb, 6, none⟩, .slice da dn dc)] v2) := Lib.hid (Sat.cons HC2.out (Sat.cons (cell_unset HE1.out.xg ((HCs.out HEf.out).cell 6 rfl)) (Sat.nil _)))
  refine Mx.loudly (by kernel_rfl) (by kernel_rfl) ?_
  go_wp2_with (at_builtin; refine Lib.wpList_append_run _ rfl _ _ _ _ rfl (.slice ba1 bb.length bc1) (.slice da dn dc) rfl rfl _ _ hr2 ?_)
  refine ⟨HSat2.out, ?_⟩
  repeat ((first | (refine Mx.skips (by kernel_rfl) ?_; go_big_quiet_skip) | (refine Mx.quietly rfl ?_; go_big_quiet_want; go_big_quiet_op; go_big_quiet_on)); refine Mx.done ?_)
  refine Mx.atLast (by kernel_rfl) (by kernel_rfl) ?_
  go_wp2_with fail
  go_ret2
  exact HEf.out.ret HB4.out HG4.out (by rw [HR.out, HBb.out]; simp [encB, itmB]) (by rw [List.length_append, HDn.out])

set_option maxRecDepth 100000 in
set_option maxHeartbeats 4000000 in
theorem enc_27 (w : World) (i t n c : Int) (fi : Bool) (dt ci : List UInt8) (sp : List Sn) (dl e0 e1 e2 : Int) (da : Option Addr) (dc : Nat) (ca : Option Addr) (cc : Nat) (sa : Option Addr) (sc : Nat) (h : FIn w ⟨27, i, t, n, c, fi, dt, ci, sp, dl, e0, e1, e2⟩ ⟨da, dc, ca, cc, sa, sc⟩) (hl : FLow w.heap.size ⟨da, dc, ca, cc, sa, sc⟩) (hc : chkF ⟨27, i, t, n, c, fi, dt, ci, sp, dl, e0, e1, e2⟩ = 0) :
    Calls Try.prog 12 #[.agg (fcells ⟨27, i, t, n, c, fi, dt, ci, sp, dl, e0, e1, e2⟩ ⟨da, dc, ca, cc, sa, sc⟩).toArray] w (RetBE w.heap.size w (encB ⟨27, i, t, n, c, fi, dt, ci, sp, dl, e0, e1, e2⟩, 0)) := by
  obtain ⟨_, hd, hr⟩ := chk0 hc
  have hr : decide (dt.length = 8) = true := hr
  have hd : dt.length ≤ 16384 := hd
  obtain ⟨R, hR⟩ : ∃ R, R = encB ⟨27, i, t, n, c, fi, dt, ci, sp, dl, e0, e1, e2⟩ := ⟨_, rfl⟩
  obtain ⟨dn, hdn⟩ : ∃ dn, dn = dt.length := ⟨_, rfl⟩
  obtain ⟨cn, hcn⟩ : ∃ cn, cn = ci.length := ⟨_, rfl⟩
  obtain ⟨sn, hsn⟩ : ∃ sn, sn = sp.length := ⟨_, rfl⟩
  have hf : fcells ⟨27, i, t, n, c, fi, dt, ci, sp, dl, e0, e1, e2⟩ ⟨da, dc, ca, cc, sa, sc⟩ = [.int .i64 27, .int .i64 i, .int .i64 t, .int .i64 n, .int .i64 c, .bool fi, .slice da dn dc, .slice ca cn cc, .slice sa sn sc, .int .i64 dl, .int .i64 e0, .int .i64 e1, .int .i64 e2] := by rw [hdn, hcn, hsn]; rfl
  obtain ⟨w2, hw2⟩ : ∃ w2, w2 = w.alloc (.cells #[.int .i64 27, .int .i64 i, .int .i64 t, .int .i64 n, .int .i64 c, .bool fi, .slice da dn dc, .slice ca cn cc, .slice sa sn sc, .int .i64 dl, .int .i64 e0, .int .i64 e1, .int .i64 e2] 26) := ⟨_, rfl⟩
  have hB : Below w.heap.size w w2 := by rw [hw2]; exact alB w _
  obtain ⟨xb, hxb⟩ : ∃ xb, xb = w.heap.size := ⟨_, rfl⟩
  have hG : Has w2 xb 26 [.int .i64 27, .int .i64 i, .int .i64 t, .int .i64 n, .int .i64 c, .bool fi, .slice da dn dc, .slice ca cn cc, .slice sa sn sc, .int .i64 dl, .int .i64 e0, .int .i64 e1, .int .i64 e2] := by rw [hw2, hxb]; exact Has.new _ _ _
  have HG := Lib.hid hG
  have hC := checkF_any w2 (h.below hB)
  rw [hc, hf] at hC
  have HC := Lib.hid hC
  have HSt : Hid (∀ {w3 : World}, Below w2.heap.size w2 w3 → ES (w3.alloc (.cells #[.slice none 0 0] 59)) w3.heap.size none xb ⟨27, i, t, n, c, fi, dt, ci, sp, dl, e0, e1, e2⟩ ⟨da, dc, ca, cc, sa, sc⟩ (w3.alloc (.cells #[.slice none 0 0] 59)) [] none 0) := Lib.hid (fun hb => ES.start (by rw [hf]; exact HG.out.kept (X := none') (Kept.of_below hb) (fun h => h)) ((h.below hB).below hb) (hl.mono (by have := hB.size; have := hb.size; omega)))
  have HCs : Hid (∀ {w4 w' : World} {g : Nat} {b' : List UInt8} {ba' : Option Addr} {bc' : Nat}, ES w4 g none xb ⟨27, i, t, n, c, fi, dt, ci, sp, dl, e0, e1, e2⟩ ⟨da, dc, ca, cc, sa, sc⟩ w' b' ba' bc' → Has w' xb 26 [.int .i64 27, .int .i64 i, .int .i64 t, .int .i64 n, .int .i64 c, .bool fi, .slice da dn dc, .slice ca cn cc, .slice sa sn sc, .int .i64 dl, .int .i64 e0, .int .i64 e1, .int .i64 e2]) := Lib.hid (fun h => by rw [← hf]; exact h.box)
  have HTx : Hid (∀ {w4 w' : World} {g : Nat} {b' : List UInt8} {ba' : Option Addr} {bc' : Nat}, ES w4 g none xb ⟨27, i, t, n, c, fi, dt, ci, sp, dl, e0, e1, e2⟩ ⟨da, dc, ca, cc, sa, sc⟩ w' b' ba' bc' → b'.length ≤ 900000000 → Calls Try.prog 31 #[.pointer (some ⟨g, 0, none⟩), .slice da dn dc] w' (ESR w4 g none xb ⟨27, i, t, n, c, fi, dt, ci, sp, dl, e0, e1, e2⟩ ⟨da, dc, ca, cc, sa, sc⟩ (b' ++ (vl dt.length ++ dt)))) := Lib.hid (fun h hl => by rw [hdn]; exact h.data (Nat.le_trans hd (by decide)) hl)
  rw [← hR, hf]
  have HR := Lib.hid hR
  have HB := Lib.hid hB
  have HD := Lib.hid hd
  have HDn := Lib.hid hdn
  have HCn := Lib.hid hcn
  have HSn := Lib.hid hsn
  have HF := Lib.hid hf
  clear hR hf hdn hcn hsn hB hG hC h hl hd
  go_enter Try.func12, Try.ntmps12
  go_upto_region 1 with fail
  rw [← hw2, ← hxb]
  clear hw2 hxb
  have g0 := HG.out.cell 0 rfl
  have g1 := HG.out.cell 1 rfl
  have g2 := HG.out.cell 2 rfl
  have g3 := HG.out.cell 3 rfl
  have g4 := HG.out.cell 4 rfl
  have g5 := HG.out.cell 5 rfl
  have g6 := HG.out.cell 6 rfl
  have g7 := HG.out.cell 7 rfl
  have g8 := HG.out.cell 8 rfl
  have g9 := HG.out.cell 9 rfl
  have g10 := HG.out.cell 10 rfl
  have g11 := HG.out.cell 11 rfl
  have g12 := HG.out.cell 12 rfl
  go_upto_region 4 with (refine HC.out.mono ?_; rintro e w3 ⟨rfl, hb3⟩)
  obtain ⟨g, hg⟩ : ∃ g, g = w3.heap.size := ⟨_, rfl⟩
  obtain ⟨w4, hw4⟩ : ∃ w4, w4 = w3.alloc (.cells #[.slice none 0 0] 59) := ⟨_, rfl⟩
  have HE0 := Lib.hid (HSt.out hb3)
  rw [← hw4, ← hg] at HE0
  have HB4 : Hid (Below w.heap.size w w4) := Lib.hid (by rw [hw4]; exact (HB.out.trans (hb3.mono HB.out.size)).alloc (by have := HB.out.size; have := hb3.size; omega) _)
  have HG4 : Hid (w.heap.size ≤ g) := Lib.hid (by rw [hg]; have := HB.out.size; have := hb3.size; omega)
  clear hb3 g0 g1 g2 g3 g4 g5 g6 g7 g8 g9 g10 g11 g12
  go_upto_region 5 with fail
  rw [← hw4, ← hg]
  clear hw4 hg
  have HL0 : Hid (([] : List UInt8).length ≤ 0) := Lib.hid (Nat.le_refl _)
  have H1 := Lib.hid (HE0.out.nums1 27 (le_big HL0.out (by decide)).1 rfl)
  have g0 := (HCs.out HE0.out).cell 0 rfl
  have g1 := (HCs.out HE0.out).cell 1 rfl
  have g2 := (HCs.out HE0.out).cell 2 rfl
  have g3 := (HCs.out HE0.out).cell 3 rfl
  have g4 := (HCs.out HE0.out).cell 4 rfl
  have g5 := (HCs.out HE0.out).cell 5 rfl
  have g6 := (HCs.out HE0.out).cell 6 rfl
  have g7 := (HCs.out HE0.out).cell 7 rfl
  have g8 := (HCs.out HE0.out).cell 8 rfl
  have g9 := (HCs.out HE0.out).cell 9 rfl
  have g10 := (HCs.out HE0.out).cell 10 rfl
  have g11 := (HCs.out HE0.out).cell 11 rfl
  have g12 := (HCs.out HE0.out).cell 12 rfl
  go_wp2_with fail
  refine H1.out.mono ?_
  rintro e v1 ⟨rfl, ba1, bc1, hE⟩
  have HE1 := Lib.hid hE
  have HL1 : Hid (([] ++ nB [27] : List UInt8).length ≤ 8) := Lib.hid (len_nums HL0.out rfl)
  clear hE g0 g1 g2 g3 g4 g5 g6 g7 g8 g9 g10 g11 g12
  obtain ⟨bb, hbb⟩ : ∃ bb, bb = ([] ++ nB [27] : List UInt8) := ⟨_, rfl⟩
  rw [← hbb] at HE1 HL1
  have HBb := Lib.hid hbb
  clear hbb
  have g0 := (HCs.out HE1.out).cell 0 rfl
  have g1 := (HCs.out HE1.out).cell 1 rfl
  have g2 := (HCs.out HE1.out).cell 2 rfl
  have g3 := (HCs.out HE1.out).cell 3 rfl
  have g4 := (HCs.out HE1.out).cell 4 rfl
  have g5 := (HCs.out HE1.out).cell 5 rfl
  have g6 := (HCs.out HE1.out).cell 6 rfl
  have g7 := (HCs.out HE1.out).cell 7 rfl
  have g8 := (HCs.out HE1.out).cell 8 rfl
  have g9 := (HCs.out HE1.out).cell 9 rfl
  have g10 := (HCs.out HE1.out).cell 10 rfl
  have g11 := (HCs.out HE1.out).cell 11 rfl
  have g12 := (HCs.out HE1.out).cell 12 rfl
  have hE1 := HE1.out
  have hD1 : Sl v1.drew da dn dc (bv dt) := by
    have h1 := (hE1.below (below_drewN (Below.refl v1.heap.size v1) 1)).inn.data
    simp only at h1
    rw [← HDn.out] at h1
    exact h1
  have hW1 := hE1.wb.below (below_drewN (Below.refl v1.heap.size v1) 1)
  obtain ⟨ba2, bc2, v2, hr2, c2, f2, hW2, hk2, hn2⟩ := hW1.app (tyo := 22) hD1 (by have := HL1.out; have := HD.out; have := HDn.out; omega)
  have q0 : v1.drew.cell? ⟨g, 0, none⟩ = some (.slice ba1 bb.length bc1) := hE1.wb.has.cell 0 rfl
  have q6 : v1.drew.cell? ⟨xb, 6, none⟩ = some (.slice da dn dc) := g6
  have HSat := Lib.hid (Sat.cons q0 (Sat.cons q6 (Sat.nil _)))
  have HEf := Lib.hid ((hE1.below (below_drewN (Below.refl v1.heap.size v1) 1)).on hW2 hk2 hn2)
  have HC2 := Lib.hid c2
  clear hE1 hD1 hW1 hW2 hk2 hn2 q0 q6
  go_upto_region 35 with fail
  clear g0 g1 g2 g3 g4 g5 g6 g7 g8 g9 g10 g11 g12
  refine Mx.regionZ [] (Sat [(⟨g, 0, none⟩, .slice ba1 bb.length bc1), (⟨xb, 6, none⟩, .slice da dn dc)]) (by kernel_rfl) (by kernel_rfl) HSat.out ?_
  repeat ((first | (refine Mx.skips (by kernel_rfl) ?_; go_big_quiet_skip) | (refine Mx.quietly rfl ?_; go_big_quiet_want; go_big_quiet_op; go_big_quiet_on)); refine Mx.done ?_)
  refine Mx.cell ⟨g, 0, none⟩ (.slice ba1 bb.length bc1) (by kernel_rfl) (by kernel_rfl) (by kernel_rfl) Try.isAgg22 (fun w' h => h 0 _ _ rfl) ?_
  go_big_quiet_want; go_big_quiet_op; go_big_quiet_on; refine Mx.done ?_
  repeat ((first | (refine Mx.skips (by kernel_rfl) ?_; go_big_quiet_skip) | (refine Mx.quietly rfl ?_; go_big_quiet_want; go_big_quiet_op; go_big_quiet_on)); refine Mx.done ?_)
  refine Mx.cell ⟨xb, 6, none⟩ (.slice da dn dc) (by kernel_rfl) (by kernel_rfl) (by kernel_rfl) Try.isAgg22 (fun w' h => h 1 _ _ rfl) ?_
  go_big_quiet_want; go_big_quiet_op; go_big_quiet_on; refine Mx.done ?_
  repeat ((first | (refine Mx.skips (by kernel_rfl) ?_; go_big_quiet_skip) | (refine Mx.quietly rfl ?_; go_big_quiet_want; go_big_quiet_op; go_big_quiet_on)); refine Mx.done ?_)
  have HSat2 : Hid (Sat [(⟨g, 0, none⟩, .slice ba1 bb.length bc1), (⟨xb, 6, none⟩, .slice da dn dc)] v2) := Lib.hid (Sat.cons HC2.out (Sat.cons (cell_unset HE1.out.xg ((HCs.out HEf.out).cell 6 rfl)) (Sat.nil _)))
  refine Mx.loudly (by kernel_rfl) (by kernel_rfl) ?_
  go_wp2_with (at_builtin; refine Lib.wpList_append_run _ rfl _ _ _ _ rfl (.slice ba1 bb.length bc1) (.slice da dn dc) rfl rfl _ _ hr2 ?_)
  refine ⟨HSat2.out, ?_⟩
  repeat ((first | (refine Mx.skips (by kernel_rfl) ?_; go_big_quiet_skip) | (refine Mx.quietly rfl ?_; go_big_quiet_want; go_big_quiet_op; go_big_quiet_on)); refine Mx.done ?_)
  refine Mx.atLast (by kernel_rfl) (by kernel_rfl) ?_
  go_wp2_with fail
  go_ret2
  exact HEf.out.ret HB4.out HG4.out (by rw [HR.out, HBb.out]; simp [encB, itmB]) (by rw [List.length_append, HDn.out])

theorem encode_any (w : World) {f : Fm} {a : FA} (h : FIn w f a) (hl : FLow w.heap.size a) : Calls Try.prog 12 #[.agg (fcells f a).toArray] w (RetBE w.heap.size w (encF f)) := by
  by_cases hc : chkF f = 0
  · have e : encF f = (encB f, 0) := by unfold encF; rw [if_pos hc]
    rw [e]
    clear e
    obtain ⟨hk, _, _⟩ := chk0 hc
    obtain ⟨k, i, t, n, c, fi, dt, ci, sp, dl, e0, e1, e2⟩ := f
    obtain ⟨da, dc, ca, cc, sa, sc⟩ := a
    have hk : knoF k = true := hk
    have hx : k = 0 ∨ k = 1 ∨ k = 2 ∨ k = 3 ∨ k = 4 ∨ k = 5 ∨ k = 6 ∨ k = 7 ∨ k = 8 ∨ k = 16 ∨ k = 17 ∨ k = 18 ∨ k = 19 ∨ k = 20 ∨ k = 21 ∨ k = 22 ∨ k = 23 ∨ k = 24 ∨ k = 25 ∨ k = 26 ∨ k = 27 ∨ k = 28 ∨ k = 29 ∨ k = 30 := by
      unfold knoF at hk
      simp at hk
      omega
    rcases hx with rfl | rfl | rfl | rfl | rfl | rfl | rfl | rfl | rfl | rfl | rfl | rfl | rfl | rfl | rfl | rfl | rfl | rfl | rfl | rfl | rfl | rfl | rfl | rfl
    · exact enc_0 w i t n c fi dt ci sp dl e0 e1 e2 da dc ca cc sa sc h hl hc
    · exact enc_1 w i t n c fi dt ci sp dl e0 e1 e2 da dc ca cc sa sc h hl hc
    · exact enc_2 w i t n c fi dt ci sp dl e0 e1 e2 da dc ca cc sa sc h hl hc
    · exact enc_3 w i t n c fi dt ci sp dl e0 e1 e2 da dc ca cc sa sc h hl hc
    · exact enc_4 w i t n c fi dt ci sp dl e0 e1 e2 da dc ca cc sa sc h hl hc
    · exact enc_5 w i t n c fi dt ci sp dl e0 e1 e2 da dc ca cc sa sc h hl hc
    · exact enc_6 w i t n c fi dt ci sp dl e0 e1 e2 da dc ca cc sa sc h hl hc
    · exact enc_7 w i t n c fi dt ci sp dl e0 e1 e2 da dc ca cc sa sc h hl hc
    · exact enc_8 w i t n c fi dt ci sp dl e0 e1 e2 da dc ca cc sa sc h hl hc
    · exact enc_16 w i t n c fi dt ci sp dl e0 e1 e2 da dc ca cc sa sc h hl hc
    · exact enc_17 w i t n c fi dt ci sp dl e0 e1 e2 da dc ca cc sa sc h hl hc
    · exact enc_18 w i t n c fi dt ci sp dl e0 e1 e2 da dc ca cc sa sc h hl hc
    · exact enc_19 w i t n c fi dt ci sp dl e0 e1 e2 da dc ca cc sa sc h hl hc
    · exact enc_20 w i t n c fi dt ci sp dl e0 e1 e2 da dc ca cc sa sc h hl hc
    · exact enc_21 w i t n c fi dt ci sp dl e0 e1 e2 da dc ca cc sa sc h hl hc
    · exact enc_22 w i t n c fi dt ci sp dl e0 e1 e2 da dc ca cc sa sc h hl hc
    · exact enc_23 w i t n c fi dt ci sp dl e0 e1 e2 da dc ca cc sa sc h hl hc
    · exact enc_24 w i t n c fi dt ci sp dl e0 e1 e2 da dc ca cc sa sc h hl hc
    · exact enc_25 w i t n c fi dt ci sp dl e0 e1 e2 da dc ca cc sa sc h hl hc
    · exact enc_26 w i t n c fi dt ci sp dl e0 e1 e2 da dc ca cc sa sc h hl hc
    · exact enc_27 w i t n c fi dt ci sp dl e0 e1 e2 da dc ca cc sa sc h hl hc
    · exact enc_28 w i t n c fi dt ci sp dl e0 e1 e2 da dc ca cc sa sc h hl hc
    · exact enc_29 w i t n c fi dt ci sp dl e0 e1 e2 da dc ca cc sa sc h hl hc
    · exact enc_30 w i t n c fi dt ci sp dl e0 e1 e2 da dc ca cc sa sc h hl hc
  · have e : encF f = ([], chkF f) := by unfold encF; rw [if_neg hc]
    rw [e]
    exact enc_bad w h hc
end Go.Proofs.Ytppkilkfmclpkaa

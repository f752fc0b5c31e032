/- The writer with the frame beside it; contract of the writer's stream (printed by gen_frstream.py). No condition but the sizes. -/
import Derived.Test.YtppkilkfmclpkaaFrWrite
namespace Go.Proofs.Ytppkilkfmclpkaa
open Go.RowKit

/-- the frame's slices lie below g -/
def FLow (g : Nat) (a : FA) : Prop := ∀ k, (blk a.da k ∨ blk a.ca k ∨ blk a.sa k) → k < g
/-- a frame in its variable at xb, a writer at g with the bytes b, in w; w0: the world at the beginning -/
structure ES (w0 : World) (g : Nat) (ba0 : Option Addr) (xb : Nat) (f : Fm) (a : FA) (w : World) (b : List UInt8) (ba : Option Addr) (bc : Nat) : Prop where
  wb : WB w g b ba bc
  box : Has w xb 26 (fcells f a)
  inn : FIn w f a
  low : FLow g a
  xg : xb ≠ g
  xba : ¬ blk ba xb
  kept : Kept (fun k => k = g ∨ blk ba0 k) w0 w
  new : ∀ k, blk ba k → blk ba0 k ∨ w0.heap.size ≤ k
theorem SlS.kept {X : Nat → Prop} {w w' : World} {a : Option Addr} {n c : Nat} {l : List Sn} (h : SlS w a n c l) (hk : Kept X w w') (hx : ∀ k, blk a k → ¬ X k) : SlS w' a n c l := by
  refine ⟨h.len, h.cap, h.max, fun hn => ?_⟩
  obtain ⟨b, off, rfl, hc⟩ := h.cells hn
  refine ⟨b, off, rfl, fun i hi => ?_⟩
  obtain ⟨h1, h2⟩ := hc i hi
  exact ⟨hk.cell h1 (hx b ⟨_, rfl, rfl⟩), hk.cell h2 (hx b ⟨_, rfl, rfl⟩)⟩
theorem FIn.kept {X : Nat → Prop} {w w' : World} {f : Fm} {a : FA} (h : FIn w f a) (hk : Kept X w w') (hx : ∀ k, (blk a.da k ∨ blk a.ca k ∨ blk a.sa k) → ¬ X k) : FIn w' f a :=
  ⟨h.data.kept hk (fun ad ha => hx _ (.inl ⟨ad, ha, rfl⟩)), h.cid.kept hk (fun ad ha => hx _ (.inr (.inl ⟨ad, ha, rfl⟩))), h.spans.kept hk (fun k hb => hx k (.inr (.inr hb)))⟩
theorem ES.below {w0 : World} {g : Nat} {ba0 : Option Addr} {xb : Nat} {f : Fm} {a : FA} {w w' : World} {b : List UInt8} {ba : Option Addr} {bc : Nat} (h : ES w0 g ba0 xb f a w b ba bc) (hb : Below w.heap.size w w') : ES w0 g ba0 xb f a w' b ba bc :=
  ⟨h.wb.below hb, h.box.kept (X := none') (Kept.of_below hb) (fun h => h), h.inn.below hb, h.low, h.xg, h.xba, h.kept.trans (Kept.of_below (X := none') hb) (fun _ _ h => h.elim), h.new⟩
def ESR (w0 : World) (g : Nat) (ba0 : Option Addr) (xb : Nat) (f : Fm) (a : FA) (b : List UInt8) (e : Ending) (w' : World) : Prop := e = .returned (.tuple #[]) ∧ ∃ ba bc, ES w0 g ba0 xb f a w' b ba bc
theorem ES.step {w0 : World} {g : Nat} {ba0 : Option Addr} {xb : Nat} {f : Fm} {a : FA} {w w' : World} {b b' : List UInt8} {ba : Option Addr} {bc : Nat} {e : Ending} (h : ES w0 g ba0 xb f a w b ba bc) (hr : WrR w g ba b' e w') : ESR w0 g ba0 xb f a b' e w' := by
  obtain ⟨he, ba', bc', hW, hk, hn⟩ := hr
  have hxl := h.box.lt
  refine ⟨he, ba', bc', hW, h.box.kept hk (fun e => ?_), h.inn.kept hk (fun k hb e => ?_), h.low, h.xg, fun hb => ?_, h.kept.wr hk h.new, fun k hb => ?_⟩
  · rcases e with e | e
    · exact h.xg e
    · exact h.xba e
  · have h1 := h.low k hb
    rcases e with e | e
    · omega
    · have := h.wb.ne k e; omega
  · rcases hn xb hb with h1 | h1
    · exact h.xba h1
    · omega
  · rcases hn k hb with h1 | h1
    · exact h.new k h1
    · exact .inr (by have := h.kept.size; omega)
theorem ES.wr {w0 : World} {g : Nat} {ba0 : Option Addr} {xb : Nat} {f : Fm} {a : FA} {w : World} {b : List UInt8} {ba : Option Addr} {bc : Nat} (h : ES w0 g ba0 xb f a w b ba bc) : WrR w0 g ba0 b (.returned (.tuple #[])) w := ⟨rfl, ba, bc, h.wb, h.kept, h.new⟩
/-- numbers that were laid in a new row -/
theorem ES.nums {w0 : World} {g : Nat} {ba0 : Option Addr} {xb : Nat} {f : Fm} {a : FA} {w : World} {b : List UInt8} {ba : Option Addr} {bc : Nat} (h : ES w0 g ba0 xb f a w b ba bc) {o : Obj} {n : Nat} {zs : List Int} (hs : Sl (w.alloc o) (some ⟨w.heap.size, 0, none⟩) n n (iv .i64 zs)) (hn : n ≤ 1024) (hb : b.length ≤ 1000000000) (hx : ∀ z ∈ zs, 0 ≤ z ∧ z ≤ 4611686018427387903) :
    Calls Try.prog 29 #[.pointer (some ⟨g, 0, none⟩), .slice (some ⟨w.heap.size, 0, none⟩) n n] (w.alloc o) (ESR w0 g ba0 xb f a (b ++ nB zs)) := by
  have hal : Below w.heap.size w (w.alloc o) := alB w o
  have hg := h.wb.has.lt
  refine (nums_any (w.alloc o) (h.wb.below hal) hs (fun k ⟨ad, h1, h2⟩ => ?_) (fun k ⟨ad, h1, h2⟩ => ?_) hn hb hx).mono fun e w' hr => (h.below hal).step hr
  · cases h1
    have h2 : w.heap.size = k := h2
    exact ⟨by omega, fun hb => by have := h.wb.ne k hb; omega⟩
  · cases h1
    have h2 : w.heap.size = k := h2
    simp; omega
theorem ES.nums1 {w0 : World} {g : Nat} {ba0 : Option Addr} {xb : Nat} {f : Fm} {a : FA} {w : World} {b : List UInt8} {ba : Option Addr} {bc : Nat} (h : ES w0 g ba0 xb f a w b ba bc) (x : Int) (hb : b.length ≤ 1000000000) (hx : numB x = true) :
    Calls Try.prog 29 #[.pointer (some ⟨g, 0, none⟩), .slice (some ⟨w.heap.size, 0, none⟩) 1 1] (w.alloc (.cells #[.int .i64 x] 3)) (ESR w0 g ba0 xb f a (b ++ nB [x])) :=
  h.nums (one_sl w x) (by decide) hb (fun z hz => by
    simp only [List.mem_cons, List.not_mem_nil, or_false] at hz
    subst hz
    unfold numB at hx; simpa using hx)
theorem ES.nums2 {w0 : World} {g : Nat} {ba0 : Option Addr} {xb : Nat} {f : Fm} {a : FA} {w : World} {b : List UInt8} {ba : Option Addr} {bc : Nat} (h : ES w0 g ba0 xb f a w b ba bc) (x y : Int) (hb : b.length ≤ 1000000000) (hx : numB x = true) (hy : numB y = true) :
    Calls Try.prog 29 #[.pointer (some ⟨g, 0, none⟩), .slice (some ⟨w.heap.size, 0, none⟩) 2 2] (w.alloc (.cells #[.int .i64 x, .int .i64 y] 3)) (ESR w0 g ba0 xb f a (b ++ nB [x, y])) :=
  h.nums (two_sl w x y) (by decide) hb (fun z hz => by
    unfold numB at hx hy
    simp at hx hy
    simp only [List.mem_cons, List.not_mem_nil, or_false] at hz
    rcases hz with rfl | rfl
    · exact hx
    · exact hy)
theorem ES.nums3 {w0 : World} {g : Nat} {ba0 : Option Addr} {xb : Nat} {f : Fm} {a : FA} {w : World} {b : List UInt8} {ba : Option Addr} {bc : Nat} (h : ES w0 g ba0 xb f a w b ba bc) (x y z : Int) (hb : b.length ≤ 1000000000) (hx : numB x = true) (hy : numB y = true) (hz : numB z = true) :
    Calls Try.prog 29 #[.pointer (some ⟨g, 0, none⟩), .slice (some ⟨w.heap.size, 0, none⟩) 3 3] (w.alloc (.cells #[.int .i64 x, .int .i64 y, .int .i64 z] 3)) (ESR w0 g ba0 xb f a (b ++ nB [x, y, z])) :=
  h.nums (three_sl w x y z) (by decide) hb (fun v hv => by
    unfold numB at hx hy hz
    simp at hx hy hz
    simp only [List.mem_cons, List.not_mem_nil, or_false] at hv
    rcases hv with rfl | rfl | rfl
    · exact hx
    · exact hy
    · exact hz)
theorem ES.data {w0 : World} {g : Nat} {ba0 : Option Addr} {xb : Nat} {f : Fm} {a : FA} {w : World} {b : List UInt8} {ba : Option Addr} {bc : Nat} (h : ES w0 g ba0 xb f a w b ba bc) (hd : f.data.length ≤ 70000) (hb : b.length ≤ 900000000) :
    Calls Try.prog 31 #[.pointer (some ⟨g, 0, none⟩), .slice a.da f.data.length a.dc] w (ESR w0 g ba0 xb f a (b ++ (vl f.data.length ++ f.data))) :=
  (text_any w h.wb h.inn.data (fun k hk => h.low k (.inl hk)) hd hb).mono fun e w' hr => h.step hr
/-- a stream frame's first number -/
def strK (t : Int) (fi : Bool) : Int := if 0 < t then (if fi = true then 15 else 14) else (if fi = true then 11 else 10)
/-- a stream frame's bytes -/
def stmB (f : Fm) : List UInt8 := nB [strK f.at_ f.fin, f.id] ++ ((if 0 < f.at_ then nB [f.at_] else []) ++ (vl f.data.length ++ f.data))
set_option maxRecDepth 100000 in
set_option maxHeartbeats 4000000 in
theorem stream_any (w : World) {g : Nat} {b : List UInt8} {ba : Option Addr} {bc : Nat} (hW : WB w g b ba bc) {f : Fm} {a : FA} (h : FIn w f a) (hlow : FLow g a) (hd : f.data.length ≤ 70000) (hb : b.length ≤ 100000000) (hi : numB f.id = true) (ht : numB f.at_ = true) :
    Calls Try.prog 32 #[.pointer (some ⟨g, 0, none⟩), .agg (fcells f a).toArray] w (WrR w g ba (b ++ stmB f)) := by
  have hg := hW.has.lt
  obtain ⟨w2, hw2⟩ : ∃ w2, w2 = w.alloc (.cells (fcells f a).toArray 26) := ⟨_, rfl⟩
  have hal : Below w.heap.size w w2 := by rw [hw2]; exact alB w _
  obtain ⟨xb, hxb⟩ : ∃ xb, xb = w.heap.size := ⟨_, rfl⟩
  have hE : ES w g ba xb f a w2 b ba bc := ⟨hW.below hal, by rw [hw2, hxb]; exact Has.new _ _ _, h.below hal, hlow, by omega, fun hb => by have := hW.ne xb hb; omega, Kept.of_below hal, fun k h => .inl h⟩
  have HE := Lib.hid hE
  obtain ⟨R, hR⟩ : ∃ R, R = b ++ stmB f := ⟨_, rfl⟩
  rw [← hR]
  have HR : Hid (R = b ++ stmB f) := Lib.hid hR
  have HI := Lib.hid hi
  have HT := Lib.hid ht
  have HDl := Lib.hid hd
  have HBl := Lib.hid hb
  clear hal hE hW h hlow hR hi ht hd hb hg
  have HK : ∀ v : Int, v = 10 ∨ v = 11 ∨ v = 14 ∨ v = 15 → numB v = true := fun v hv => by rcases hv with rfl | rfl | rfl | rfl <;> rfl
  have HKh := Lib.hid HK
  clear HK
  obtain ⟨k, i, t, n, c, fi, dt, ci, sp, dl, e0, e1, e2⟩ := f
  obtain ⟨da, dc, ca, cc, sa, sc⟩ := a
  simp only at HI HT HDl
  obtain ⟨dn, hdn⟩ : ∃ dn, dn = dt.length := ⟨_, rfl⟩
  obtain ⟨cn, hcn⟩ : ∃ cn, cn = ci.length := ⟨_, rfl⟩
  obtain ⟨sn, hsn⟩ : ∃ sn, sn = sp.length := ⟨_, rfl⟩
  have hf : fcells ⟨k, i, t, n, c, fi, dt, ci, sp, dl, e0, e1, e2⟩ ⟨da, dc, ca, cc, sa, sc⟩ = [.int .i64 k, .int .i64 i, .int .i64 t, .int .i64 n, .int .i64 c, .bool fi, .slice da dn dc, .slice ca cn cc, .slice sa sn sc, .int .i64 dl, .int .i64 e0, .int .i64 e1, .int .i64 e2] := by rw [hdn, hcn, hsn]; rfl
  have HCs : Hid (∀ {w' : World} {b' : List UInt8} {ba' : Option Addr} {bc' : Nat}, ES w g ba xb ⟨k, i, t, n, c, fi, dt, ci, sp, dl, e0, e1, e2⟩ ⟨da, dc, ca, cc, sa, sc⟩ w' b' ba' bc' → Has w' xb 26 [.int .i64 k, .int .i64 i, .int .i64 t, .int .i64 n, .int .i64 c, .bool fi, .slice da dn dc, .slice ca cn cc, .slice sa sn sc, .int .i64 dl, .int .i64 e0, .int .i64 e1, .int .i64 e2]) := Lib.hid (fun h => by rw [← hf]; exact h.box)
  rw [hf] at hw2 ⊢
  replace hw2 : w2 = w.alloc (.cells #[.int .i64 k, .int .i64 i, .int .i64 t, .int .i64 n, .int .i64 c, .bool fi, .slice da dn dc, .slice ca cn cc, .slice sa sn sc, .int .i64 dl, .int .i64 e0, .int .i64 e1, .int .i64 e2] 26) := hw2
  have HDn := Lib.hid hdn
  clear hf hdn hcn hsn
  have HTx : Hid (∀ {w' : World} {b' : List UInt8} {ba' : Option Addr} {bc' : Nat}, ES w g ba xb ⟨k, i, t, n, c, fi, dt, ci, sp, dl, e0, e1, e2⟩ ⟨da, dc, ca, cc, sa, sc⟩ w' b' ba' bc' → b'.length ≤ 900000000 → Calls Try.prog 31 #[.pointer (some ⟨g, 0, none⟩), .slice da dn dc] w' (ESR w g ba xb ⟨k, i, t, n, c, fi, dt, ci, sp, dl, e0, e1, e2⟩ ⟨da, dc, ca, cc, sa, sc⟩ (b' ++ (vl dt.length ++ dt)))) := Lib.hid (fun h hl => by rw [HDn.out]; exact h.data HDl.out hl)
  go_enter Try.func32, Try.ntmps32
  go_upto_region 1 with fail
  rw [← hw2, ← hxb]
  clear hw2 hxb
  by_cases c1 : 0 < t
  · have HPos : Hid (0 < t) := Lib.hid c1
    clear c1
    cases fi with
    | true =>
      have HN := Lib.hid (HE.out.nums2 15 i (by have := HBl.out; omega) (HKh.out 15 (by decide)) HI.out)
      have HF : Hid (R = b ++ nB [15, i] ++ nB [t] ++ (vl dt.length ++ dt)) := Lib.hid (by rw [HR.out]; simp [stmB, strK, HPos.out])
      have g1 := (HCs.out HE.out).cell 1 rfl
      have g2 := (HCs.out HE.out).cell 2 rfl
      have g5 := (HCs.out HE.out).cell 5 rfl
      have p0 := HPos.out
      go_wp2_with fail
      refine HN.out.mono ?_
      rintro e w3 ⟨rfl, ba3, bc3, hE3⟩
      have HE3 := Lib.hid hE3
      have HL3 : Hid ((b ++ nB [15, i]).length ≤ 100000016) := Lib.hid (by rw [List.length_append]; have := nB_len [15, i]; have := HBl.out; simp at *; omega)
      clear hE3 g1 g2 g5
      have g2 := (HCs.out HE3.out).cell 2 rfl
      have g6 := (HCs.out HE3.out).cell 6 rfl
      have HM := Lib.hid (HE3.out.nums1 t (by have := HL3.out; omega) HT.out)
      go_wp2_with fail
      refine HM.out.mono ?_
      rintro e w4 ⟨rfl, ba4, bc4, hE4⟩
      have HE4 := Lib.hid hE4
      clear hE4 g2 g6
      have g6 := (HCs.out HE4.out).cell 6 rfl
      have HX := Lib.hid (HTx.out HE4.out (by rw [List.length_append]; have := nB_len [t]; have := HL3.out; simp at *; omega))
      go_wp2_with fail
      refine HX.out.mono ?_
      rintro e w5 ⟨rfl, ba5, bc5, hE5⟩
      have HE5 := Lib.hid hE5
      clear hE5
      go_wp2
      (try simp only [Exit.inBlock, Exit.then]); refine bodyPost_ret (results_none rfl _ _ _) rfl ?_
      rw [HF.out]
      exact HE5.out.wr
    | false =>
      have HN := Lib.hid (HE.out.nums2 14 i (by have := HBl.out; omega) (HKh.out 14 (by decide)) HI.out)
      have HF : Hid (R = b ++ nB [14, i] ++ nB [t] ++ (vl dt.length ++ dt)) := Lib.hid (by rw [HR.out]; simp [stmB, strK, HPos.out])
      have g1 := (HCs.out HE.out).cell 1 rfl
      have g2 := (HCs.out HE.out).cell 2 rfl
      have g5 := (HCs.out HE.out).cell 5 rfl
      have p0 := HPos.out
      go_wp2_with fail
      refine HN.out.mono ?_
      rintro e w3 ⟨rfl, ba3, bc3, hE3⟩
      have HE3 := Lib.hid hE3
      have HL3 : Hid ((b ++ nB [14, i]).length ≤ 100000016) := Lib.hid (by rw [List.length_append]; have := nB_len [14, i]; have := HBl.out; simp at *; omega)
      clear hE3 g1 g2 g5
      have g2 := (HCs.out HE3.out).cell 2 rfl
      have g6 := (HCs.out HE3.out).cell 6 rfl
      have HM := Lib.hid (HE3.out.nums1 t (by have := HL3.out; omega) HT.out)
      go_wp2_with fail
      refine HM.out.mono ?_
      rintro e w4 ⟨rfl, ba4, bc4, hE4⟩
      have HE4 := Lib.hid hE4
      clear hE4 g2 g6
      have g6 := (HCs.out HE4.out).cell 6 rfl
      have HX := Lib.hid (HTx.out HE4.out (by rw [List.length_append]; have := nB_len [t]; have := HL3.out; simp at *; omega))
      go_wp2_with fail
      refine HX.out.mono ?_
      rintro e w5 ⟨rfl, ba5, bc5, hE5⟩
      have HE5 := Lib.hid hE5
      clear hE5
      go_wp2
      (try simp only [Exit.inBlock, Exit.then]); refine bodyPost_ret (results_none rfl _ _ _) rfl ?_
      rw [HF.out]
      exact HE5.out.wr
  · have HPos : Hid (¬ 0 < t) := Lib.hid c1
    clear c1
    cases fi with
    | true =>
      have HN := Lib.hid (HE.out.nums2 11 i (by have := HBl.out; omega) (HKh.out 11 (by decide)) HI.out)
      have HF : Hid (R = b ++ nB [11, i] ++ (vl dt.length ++ dt)) := Lib.hid (by rw [HR.out]; simp [stmB, strK, HPos.out])
      have g1 := (HCs.out HE.out).cell 1 rfl
      have g2 := (HCs.out HE.out).cell 2 rfl
      have g5 := (HCs.out HE.out).cell 5 rfl
      have p0 := HPos.out
      go_wp2_with fail
      refine HN.out.mono ?_
      rintro e w3 ⟨rfl, ba3, bc3, hE3⟩
      have HE3 := Lib.hid hE3
      have HL3 : Hid ((b ++ nB [11, i]).length ≤ 100000016) := Lib.hid (by rw [List.length_append]; have := nB_len [11, i]; have := HBl.out; simp at *; omega)
      clear hE3 g1 g2 g5
      have g2 := (HCs.out HE3.out).cell 2 rfl
      have g6 := (HCs.out HE3.out).cell 6 rfl
      have HX := Lib.hid (HTx.out HE3.out (by have := HL3.out; omega))
      go_wp2_with fail
      refine HX.out.mono ?_
      rintro e w5 ⟨rfl, ba5, bc5, hE5⟩
      have HE5 := Lib.hid hE5
      clear hE5
      go_wp2
      (try simp only [Exit.inBlock, Exit.then]); refine bodyPost_ret (results_none rfl _ _ _) rfl ?_
      rw [HF.out]
      exact HE5.out.wr
    | false =>
      have HN := Lib.hid (HE.out.nums2 10 i (by have := HBl.out; omega) (HKh.out 10 (by decide)) HI.out)
      have HF : Hid (R = b ++ nB [10, i] ++ (vl dt.length ++ dt)) := Lib.hid (by rw [HR.out]; simp [stmB, strK, HPos.out])
      have g1 := (HCs.out HE.out).cell 1 rfl
      have g2 := (HCs.out HE.out).cell 2 rfl
      have g5 := (HCs.out HE.out).cell 5 rfl
      have p0 := HPos.out
      go_wp2_with fail
      refine HN.out.mono ?_
      rintro e w3 ⟨rfl, ba3, bc3, hE3⟩
      have HE3 := Lib.hid hE3
      have HL3 : Hid ((b ++ nB [10, i]).length ≤ 100000016) := Lib.hid (by rw [List.length_append]; have := nB_len [10, i]; have := HBl.out; simp at *; omega)
      clear hE3 g1 g2 g5
      have g2 := (HCs.out HE3.out).cell 2 rfl
      have g6 := (HCs.out HE3.out).cell 6 rfl
      have HX := Lib.hid (HTx.out HE3.out (by have := HL3.out; omega))
      go_wp2_with fail
      refine HX.out.mono ?_
      rintro e w5 ⟨rfl, ba5, bc5, hE5⟩
      have HE5 := Lib.hid hE5
      clear hE5
      go_wp2
      (try simp only [Exit.inBlock, Exit.then]); refine bodyPost_ret (results_none rfl _ _ _) rfl ?_
      rw [HF.out]
      exact HE5.out.wr
end Go.Proofs.Ytppkilkfmclpkaa

/- Contract of frame's source: one. No condition but the sizes. -/
import Derived.Test.YtppkilkfmclpkaaFrOne1
namespace Go.Proofs.Ytppkilkfmclpkaa
open Go.RowKit

def one2 (r : Rs) : Rs := if r.err = 0 then (if chkF r.f = 0 then r else ⟨51, fzero, r.V⟩) else r
def oneItems (k : Nat) (V : Vr) : Rs := if 8 ≤ k ∧ k < 16 then stmV V { fzero with kind := 8 } k else if k = 0 then ⟨0, { fzero with n := 1 }, V⟩ else itemsV V { fzero with kind := (k : Int) }
def oneBody (from_ k : Nat) (V : Vr) : Rs := if ¬ V.at_ - from_ = szN k then ⟨53, fzero, V⟩ else if 30 < k then ⟨50, fzero, V⟩ else one2 (oneItems k V)
/-- one frame -/
def oneV (V : Vr) : Rs := nxN V fun k V' => oneBody V.at_ k V'
def OneR (w : World) (g : Nat) (a : Option Addr) (c : Nat) (r : Rs) (e : Ending) (w' : World) : Prop :=
  ∃ f fa, e = .returned (.tuple #[.agg (fcells f fa).toArray, .int .i64 r.err]) ∧ Kept (fun k => k = g) w w' ∧ VB w' g r.V a c ∧ (r.err = 0 → f = r.f ∧ FOwn w' w.heap.size f fa)
theorem results_one {fn : Func} {c1 c2 : Tmp} (h : fn.results = #[.cell c1 26, .cell c2 28]) (tmps : Array Value) {w : World} {gf ge : Nat} {vs : List Value} {z : Int} (hc : tmps[c1]?.getD undef = .pointer (some ⟨gf, 0, none⟩)) (hc2 : tmps[c2]?.getD undef = .pointer (some ⟨ge, 0, none⟩)) (hH : Has w gf 26 vs) (hl : vs.length = 13) (hE : Has w ge 28 [.int .i64 z]) :
    (results fn tmps).run Try.prog w = .ok (.tuple #[.agg vs.toArray, .int .i64 z]) w := by
  have hr := run_load_fr hH hl
  have hE2 := hE.cell 0 rfl
  have hr2 : (loadVar 28 ⟨ge, 0, none⟩).run Try.prog w = .ok (.int .i64 z) w := by simp [go_sem, Try.isAgg28, hE2, loadVar]
  simp only [results, h]
  simp [hc, hc2, asAddr, hr, hr2]
def SO1 (w w1 : World) (g gf ge : Nat) (a : Option Addr) : Prop := Below w.heap.size w w1 ∧ w.heap.size ≤ gf ∧ w.heap.size ≤ ge ∧ Has w1 ge 28 [.int .i64 0] ∧ ge ≠ g ∧ ge ≠ gf ∧ (∀ ad, a = some ad → ad.block ≠ ge)
theorem SO1.errno {w w1 wi : World} {g gf ge : Nat} {a : Option Addr} (h : SO1 w w1 g gf ge a) (hk : Kept (fun k => k = g ∨ k = gf) w1 wi) : Has wi ge 28 [.int .i64 0] := h.2.2.2.1.kept hk (fun e => by
  rcases e with e | e
  · exact h.2.2.2.2.1 e
  · exact h.2.2.2.2.2.1 e)
/-- a panic at the door -/
theorem one_door {w w1 w2 : World} {g gf ge : Nat} {a : Option Addr} {c : Nat} {R : Rs} {x : Int} {tmps : Array Value} (h : SO1 w w1 g gf ge a) (hs : SrcF w1 w.heap.size g gf a c R (.panicked (brk x)) w2) (hx : R.err = x) (hx0 : x ≠ 0)
    (hc : tmps[2]?.getD undef = .pointer (some ⟨gf, 0, none⟩)) (hc2 : tmps[3]?.getD undef = .pointer (some ⟨ge, 0, none⟩)) :
    Leaves Try.prog Try.f42 tmps (OneR w g a c R) [{ target := .fn (.func 50) #[.pointer (some ⟨gf, 0, none⟩), .pointer (some ⟨ge, 0, none⟩)], args := #[] }] (.panicking (brk x)) w2 := by
  obtain ⟨_, hk, f, fa, hf, _⟩ := hs
  have hE := h.errno hk
  refine leaves_cons (f := 50) (args := #[.pointer (some ⟨gf, 0, none⟩), .pointer (some ⟨ge, 0, none⟩)]) (by simp) (by simp [go_sem]) ?_
  refine (one_catch w2 hf.box rfl hE (x := x) []).mono ?_
  rintro e u' w3 ⟨rfl, rfl, hF, hE3, hk3⟩
  have hres := results_one (fn := Try.f42) (c1 := 2) (c2 := 3) rfl tmps hc hc2 hF rfl hE3
  have hk4 : Kept (fun k => k = g) w w3 := by
    have h1 : Kept (fun k => k = g) w w1 := Kept.of_below h.1
    refine (h1.trans hk (Y := fun k => k = g ∨ k = gf) (fun k hk e => ?_)).trans hk3 (fun k hk e => ?_)
    · rcases e with e | e
      · exact e
      · have := h.2.1; omega
    · have := h.2.1
      have := h.2.2.1
      rcases e with e | e <;> omega
  simp only [settle]
  refine ⟨_, hres, fzero, azero, by rw [hx], hk4, hf.vb.kept hk3 (fun e => ?_) (fun ad ha e => ?_), fun h0 => absurd (hx.symm.trans h0) hx0⟩
  · rcases e with e | e
    · exact hf.ne_g e.symm
    · exact h.2.2.2.2.1 e.symm
  · rcases e with e | e
    · exact hf.ne ad ha e
    · exact h.2.2.2.2.2.2 ad ha e
theorem kept_one {w w1 w2 : World} {g gf ge : Nat} {a : Option Addr} (h : SO1 w w1 g gf ge a) (hk : Kept (fun k => k = g ∨ k = gf) w1 w2) : Kept (fun k => k = g) w w2 := by
  have h1 : Kept (fun k => k = g) w w1 := Kept.of_below h.1
  refine h1.trans hk (Y := fun k => k = g ∨ k = gf) (fun k hk e => ?_)
  rcases e with e | e
  · exact e
  · have := h.2.1; omega
/-- the frame f and the error x are laid, and the function returns -/
theorem one_ret {w w1 w2 w3 : World} {g gf ge : Nat} {a : Option Addr} {c : Nat} {R : Rs} {x : Int} {V : Vr} {f f3 : Fm} {fa fa3 : FA} {tmps : Array Value} (h : SO1 w w1 g gf ge a) (hs : SF w2 w.heap.size g gf a c V f fa) (hk : Kept (fun k => k = g ∨ k = gf) w1 w2)
    (hw3 : w3 = (w2.setCells gf 0 (fcells f3 fa3)).setCell ⟨ge, 0, none⟩ (.int .i64 x)) (hx : R.err = x) (hV : R.V = V) (hok : x = 0 → f3 = R.f ∧ FOwn w2 w.heap.size f3 fa3)
    (hc : tmps[2]?.getD undef = .pointer (some ⟨gf, 0, none⟩)) (hc2 : tmps[3]?.getD undef = .pointer (some ⟨ge, 0, none⟩)) :
    Leaves Try.prog Try.f42 tmps (OneR w g a c R) [{ target := .fn (.func 50) #[.pointer (some ⟨gf, 0, none⟩), .pointer (some ⟨ge, 0, none⟩)], args := #[] }] .returning w3 := by
  have hE := h.errno hk
  have hks := Kept.sets gf (fcells f3 fa3) 0 w2
  have hke := Kept.set (w2.setCells gf 0 (fcells f3 fa3)) ge 0 (.int .i64 x)
  have hge : ge ≠ gf := h.2.2.2.2.2.1
  have hF0 : Has (w2.setCells gf 0 (fcells f3 fa3)) gf 26 (fcells f3 fa3) := hs.box.store (vs := fcells f3 fa3) (by rw [fcells_length, fcells_length])
  have hF : Has w3 gf 26 (fcells f3 fa3) := by rw [hw3]; exact hF0.kept hke (fun e => hge e.symm)
  have hE3 : Has w3 ge 28 [.int .i64 x] := by rw [hw3]; exact (hE.kept hks hge).set 0 (.int .i64 x)
  have hkk : Kept (fun k => k = gf ∨ k = ge) w2 w3 := by rw [hw3]; exact (hks.more (fun _ _ h => .inl h)).trans hke (fun _ _ h => .inr h)
  refine leaves_cons (f := 50) (args := #[.pointer (some ⟨gf, 0, none⟩), .pointer (some ⟨ge, 0, none⟩)]) (by simp) (by simp [go_sem]) ?_
  refine (one_idle w3 gf ge).mono ?_
  rintro e u' w4 ⟨rfl, rfl, rfl⟩
  have hres := results_one (fn := Try.f42) (c1 := 2) (c2 := 3) rfl tmps hc hc2 hF rfl hE3
  simp only [Leaves, settle]
  refine ⟨_, hres, f3, fa3, by rw [hx], (kept_one h hk).trans hkk (fun k hk e => ?_), ?_, fun h0 => ?_⟩
  · have := h.2.1
    have := h.2.2.1
    rcases e with e | e <;> omega
  · rw [hV]
    refine hs.vb.kept hkk (fun e => ?_) (fun ad ha e => ?_)
    · rcases e with e | e
      · exact hs.ne_g e.symm
      · exact h.2.2.2.2.1 e.symm
    · rcases e with e | e
      · exact hs.ne ad ha e
      · exact h.2.2.2.2.2.2 ad ha e
  · obtain ⟨h1, h2⟩ := hok (hx.symm.trans h0)
    refine ⟨h1, h2.kept hkk (fun k hb e => ?_)⟩
    rcases e with e | e
    · exact h2.nty hs.box (by decide) (by decide) k hb e
    · exact h2.nty hE (by decide) (by decide) k hb e
/-- WALK -/
theorem onj1 {a b d : Nat} (h : a ≤ b) (hb : b < 9223372036854775808) (hd : b - a = d) : IntKind.i64.wrap ((b : Int) - (a : Int)) = (d : Int) ∧ RowKit.wrap64 ((b : Int) - (a : Int)) = (d : Int) := by
  rw [IntKind.wrap_i64]; unfold RowKit.wrap64; omega
theorem onj2 {d z : Nat} (h : ¬ d = z) : ((d : Int) == (z : Int)) = false := by simp; omega
theorem onj3 {d z : Nat} (h : d = z) : ((d : Int) == (z : Int)) = true := by simp [h]
theorem onj4 {x : Nat} (h : 30 < x) : (30 : Int) < (x : Int) := by omega
theorem onj5 {x : Nat} (h : ¬ 30 < x) : ¬ (30 : Int) < (x : Int) := by omega
theorem onj6 {x : Nat} (h : 8 ≤ x ∧ x < 16) : (8 : Int) ≤ (x : Int) ∧ (x : Int) < 16 := by omega
theorem onj7 {x : Nat} (h : ¬ (8 ≤ x ∧ x < 16)) : ¬ (8 : Int) ≤ (x : Int) ∨ ((8 : Int) ≤ (x : Int) ∧ ¬ (x : Int) < 16) := by omega
theorem onj8 {x : Nat} (h : ¬ x = 0) : ((x : Int) == 0) = false := by simp; omega
theorem SrcF.more {w w1 w2 : World} {B g gf : Nat} {a : Option Addr} {c : Nat} {r : Rs} {e : Ending} (hk : Kept (fun k => k = g ∨ k = gf) w w1) (h : SrcF w1 B g gf a c r e w2) : SrcF w B g gf a c r e w2 := ⟨h.1, hk.trans h.2.1 (fun _ _ h => h), h.2.2⟩
theorem kno_of {x : Nat} (h : ¬ 30 < x) (h8 : ¬ (8 ≤ x ∧ x < 16)) : knoF (x : Int) = true := by
  unfold knoF
  simp only [Bool.or_eq_true, Bool.and_eq_true, decide_eq_true_eq]
  omega
theorem three_new (w : World) (t1 t2 t3 : TypeId) (c1 c2 c3 : Array Value) {w2 : World} (h : w2 = ((w.alloc (.cells c1 t1)).alloc (.cells c2 t2)).alloc (.cells c3 t3)) :
    Has w2 w.heap.size t1 c1.toList ∧ Has w2 (w.heap.size + 1) t2 c2.toList ∧ Has w2 (w.heap.size + 1 + 1) t3 c3.toList ∧ Below w.heap.size w w2 := by
  obtain ⟨h1, h2, hb⟩ := two_new w t1 t2 c1 c2 rfl
  have hb3 : Below ((w.alloc (.cells c1 t1)).alloc (.cells c2 t2)).heap.size ((w.alloc (.cells c1 t1)).alloc (.cells c2 t2)) w2 := by rw [h]; exact (Below.refl _ _).alloc (Nat.le_refl _) _
  have hk := Kept.of_below (X := none') hb3
  refine ⟨h1.kept hk (fun h => h), h2.kept hk (fun h => h), ?_, hb.trans (hb3.mono hb.size)⟩
  have h3 := Has.new ((w.alloc (.cells c1 t1)).alloc (.cells c2 t2)) t3 c3
  rw [← h] at h3
  simpa using h3
theorem onj9 {x : Nat} (h : ¬ x = 0) : (x : Int) ≠ 0 := by omega
theorem onj10 {x : Nat} (h : ¬ (8 ≤ x ∧ x < 16)) : (x : Int) ≠ 8 := by omega
theorem onj11 {x : Int} (h : ¬ x = 0) : (x == 0) = false := by simpa using h
/-- behind the items -/
theorem after_items {w1 w7 w8 : World} {B g gf : Nat} {a : Option Addr} {c : Nat} {R r : Rs} {e : Ending} (hs : SrcF w7 B g gf a c r e w8) (hk : Kept (fun k => k = g ∨ k = gf) w1 w7) (hR : R = one2 r) :
    (∃ x, e = .panicked (brk x) ∧ x ≠ 0 ∧ SrcF w1 B g gf a c R (.panicked (brk x)) w8) ∨ ∃ f fa, e = .returned (.tuple #[]) ∧ SF w8 B g gf a c r.V f fa ∧ Kept (fun k => k = g ∨ k = gf) w1 w8 ∧ R = one2 ⟨0, f, r.V⟩ := by
  obtain ⟨he, hk2, f, fa, hf, hfr⟩ := hs
  have hk3 := hk.trans hk2 (fun _ _ h => h)
  by_cases h0 : r.err = 0
  · rw [if_pos h0] at he
    refine .inr ⟨f, fa, he, hf, hk3, ?_⟩
    rw [hR, hfr h0, ← h0]
  · rw [if_neg h0] at he
    refine .inl ⟨_, he, h0, ?_⟩
    have e1 : R = r := by rw [hR]; unfold one2; rw [if_neg h0]
    rw [e1]
    exact ⟨by rw [if_neg h0], hk3, f, fa, hf, fun h => absurd h h0⟩
set_option maxRecDepth 100000 in
set_option maxHeartbeats 4000000 in
theorem sone_any (w : World) {g : Nat} {V : Vr} {a : Option Addr} {c : Nat} (hV : VB w g V a c) (hl : V.l.length ≤ 140737488351232) (ha : ∀ ad, a = some ad → ad.block < w.heap.size) :
    Calls Try.prog 42 #[.agg #[.pointer (some ⟨g, 0, none⟩)]] w (OneR w g a c (oneV V)) := by
  obtain ⟨w1, hw1⟩ : ∃ w1, w1 = ((w.alloc (.cells #[.pointer (some ⟨g, 0, none⟩)] 72)).alloc (.cells #[.int .i64 0, .int .i64 0, .int .i64 0, .int .i64 0, .int .i64 0, .bool false, .slice none 0 0, .slice none 0 0, .slice none 0 0, .int .i64 0, .int .i64 0, .int .i64 0, .int .i64 0] 26)).alloc (.cells #[.int .i64 0] 28) := ⟨_, rfl⟩
  obtain ⟨hQ, hF, hE, hb⟩ := three_new w _ _ _ _ _ _ hw1
  obtain ⟨ge, hge⟩ : ∃ ge, ge = w.heap.size + 1 + 1 := ⟨_, rfl⟩
  obtain ⟨gf, hgf⟩ : ∃ gf, gf = w.heap.size + 1 := ⟨_, rfl⟩
  obtain ⟨q, hq⟩ : ∃ q, q = w.heap.size := ⟨_, rfl⟩
  rw [← hge] at hE
  rw [← hgf] at hF
  rw [← hq] at hQ
  have hgl := hV.has.lt
  have HS1 : Hid (SO1 w w1 g gf ge a) := Lib.hid ⟨hb, by omega, by omega, hE, by omega, by omega, fun ad h => by have := ha ad h; omega⟩
  have HG : Hid (SG w1 w.heap.size g q gf a c V fzero azero) := Lib.hid ⟨⟨hV.below hb, hF, ⟨⟨rfl, .inl ⟨rfl, rfl⟩⟩, ⟨rfl, .inl ⟨rfl, rfl⟩⟩, ⟨rfl, .inl ⟨rfl, rfl⟩⟩⟩, fun ad h => by have := ha ad h; omega⟩, hQ⟩
  have HB : Hid (w.heap.size ≤ w1.heap.size) := Lib.hid hb.size
  have HL := Lib.hid hl
  have HK : Hid (Kept (fun k => k = g ∨ k = gf) w1 w1) := Lib.hid (Kept.refl _ _)
  obtain ⟨R, hR⟩ : ∃ R, R = oneV V := ⟨_, rfl⟩
  rw [← hR]
  have HR : Hid (R = nxN V fun k V' => oneBody V.at_ k V') := Lib.hid hR
  have HV0 : Hid (V.l.length < 9223372036854775808) := Lib.hid hV.big
  clear hV hl ha hQ hF hE hb hR hgl
  have HAt := Lib.hid (at_any w1 HG.out.sf.vb)
  have s0 := HG.out.src.cell 0 rfl
  have hmf : ∀ (fn : Fn) (first cap : Array Value) (w : World), (Instr.makeFunc fn first cap).run Try.prog w = .ok (.func fn first cap) w := fun _ _ _ _ => rfl
  go_enter_defers Try.func42, Try.ntmps42
  go_upto_region 1 with fail
  rw [← hw1, ← hge, ← hgf, ← hq]
  clear hw1 hge hgf hq
  go_wp2_with fail
  refine HAt.out.mono ?_
  rintro e w2 ⟨rfl, hb2⟩
  have HG2 := Lib.hid (HG.out.below hb2)
  have HK2 : Hid (Kept (fun k => k = g ∨ k = gf) w1 w2) := Lib.hid (Kept.of_below hb2)
  clear hb2 s0 hmf
  have s0 := HG2.out.src.cell 0 rfl
  have HN := Lib.hid (num_step HG2.out HK2.out (R := R) HR.out)
  go_wp2_with fail
  refine HN.out.mono ?_
  rintro e w3 (⟨rfl, hbad⟩ | ⟨x, V3, rfl, hx, hG3, hK3, hR3, hl3, hf3⟩)
  · exact one_door HS1.out hbad (SrcF.err hbad) (by decide) rfl rfl
  obtain ⟨at0, hat0⟩ : ∃ t, t = V.at_ := ⟨_, rfl⟩
  rw [← hat0] at hf3 hR3 ⊢
  have hat3 := hG3.sf.vb.le
  rw [hl3] at hat3
  obtain ⟨at3, hat3'⟩ : ∃ t, t = V3.at_ := ⟨_, rfl⟩
  obtain ⟨d, hd⟩ : ∃ d, V3.at_ - at0 = d := ⟨_, rfl⟩
  have HAt3 := Lib.hid (at_any w3 hG3.sf.vb)
  obtain ⟨y1, y2⟩ := onj1 hf3.2 (Nat.lt_of_le_of_lt hat3 HV0.out) hd
  have HSz := Lib.hid (fun w' => vsize_any w' x hx)
  dsimp only at hR3
  unfold oneBody at hR3
  rw [hd] at hR3
  rw [← hat3'] at y1 y2 HAt3
  have HG3 := Lib.hid hG3
  have HK3 := Lib.hid hK3
  have HL3 : Hid (V3.l.length ≤ 140737488351232) := Lib.hid (by rw [hl3]; exact HL.out)
  obtain ⟨z, hz⟩ : ∃ z, z = szN x := ⟨_, rfl⟩
  rw [← hz] at hR3 HSz
  have HR3 := Lib.hid hR3
  have HD := Lib.hid hd
  have HX := Lib.hid hx
  have s3 := hG3.src.cell 0 rfl
  clear hR3 hG3 hK3 hl3 hf3 hat3 hat3' hz hd hat0 hx s0
  go_wp2_with fail
  refine HAt3.out.mono ?_
  rintro e w4 ⟨rfl, hb4⟩
  have HG4 := Lib.hid (HG3.out.below hb4)
  have HK4 : Hid (Kept (fun k => k = g ∨ k = gf) w1 w4) := Lib.hid (HK3.out.trans (Kept.of_below (X := fun k => k = g ∨ k = gf) hb4) (fun _ _ h => h))
  clear hb4 s3
  have HSz4 := Lib.hid (HSz.out w4)
  go_wp2_with fail
  refine HSz4.out.mono ?_
  rintro e w5 ⟨rfl, hb5⟩
  have HG5 := Lib.hid (HG4.out.below hb5)
  have HK5 : Hid (Kept (fun k => k = g ∨ k = gf) w1 w5) := Lib.hid (HK4.out.trans (Kept.of_below (X := fun k => k = g ∨ k = gf) hb5) (fun _ _ h => h))
  have HE5 := Lib.hid (HS1.out.errno HK5.out)
  clear hb5
  by_cases hdz : ¬ d = z
  · have y3 := onj2 hdz
    have HR5 : Hid (R = ⟨53, fzero, V3⟩) := Lib.hid (by rw [HR3.out, if_pos hdz])
    clear hdz
    have hth : w5.there gf 0 13 := HG5.out.sf.box.there rfl
    have h1 : Array.all (#[.int .i64 0, .int .i64 0, .int .i64 0, .int .i64 0, .int .i64 0, .bool false, .slice none 0 0, .slice none 0 0, .slice none 0 0, .int .i64 0, .int .i64 0, .int .i64 0, .int .i64 0] : Array Value) (·.oneCell') = true := by simp [Value.oneCell']
    obtain ⟨w8, hw8⟩ : ∃ w8, w8 = w5.setCells gf 0 (fcells fzero azero) := ⟨_, rfl⟩
    have HW8 := Lib.hid hw8
    have HGe : Hid (Has w8 ge 28 [.int .i64 0]) := Lib.hid (by rw [hw8]; exact HE5.out.kept (Kept.sets gf (fcells fzero azero) 0 w5) HS1.out.2.2.2.2.2.1)
    clear hw8
    have c8 := HGe.out.cell 0 rfl
    have b8 := HGe.out.free 0
    go_wp2_with (refine wpList_store_mid rfl 26 (.tmp 2) (.tmp 21) rfl gf 0 #[.int .i64 0, .int .i64 0, .int .i64 0, .int .i64 0, .int .i64 0, .bool false, .slice none 0 0, .slice none 0 0, .slice none 0 0, .int .i64 0, .int .i64 0, .int .i64 0, .int .i64 0] rfl rfl hth infoFr h1 ?_; clear hth h1; rw [show w5.setCells gf 0 (#[.int .i64 0, .int .i64 0, .int .i64 0, .int .i64 0, .int .i64 0, .bool false, .slice none 0 0, .slice none 0 0, .slice none 0 0, .int .i64 0, .int .i64 0, .int .i64 0, .int .i64 0] : Array Value).toList = w8 from HW8.out.symm])
    exact one_ret HS1.out HG5.out.sf HK5.out (by rw [HW8.out]) (by rw [HR5.out]) (by rw [HR5.out]) (fun h => by cases h) rfl rfl
  have hdz : d = z := Decidable.not_not.1 hdz
  have y3 := onj3 hdz
  have HR5 : Hid (R = if 30 < x then ⟨50, fzero, V3⟩ else one2 (oneItems x V3)) := Lib.hid (by rw [HR3.out, if_neg (not_not_intro hdz)])
  clear hdz
  have c5 := HG5.out.sf.box.cell 0 rfl
  have b5 := HG5.out.sf.box.free 0
  have HG6 := Lib.hid (HG5.out.put (f' := { fzero with kind := (x : Int) }) (fa' := azero) 0 (.int .i64 (x : Int)) rfl ⟨HG5.out.sf.own.data, HG5.out.sf.own.cid, HG5.out.sf.own.spans⟩)
  have HK6 := Lib.hid (kept_put HK5.out 0 (.int .i64 (x : Int)))
  go_upto_region 8 with fail
  obtain ⟨w6, hw6⟩ : ∃ w6, w6 = w5.setCell ⟨gf, 0, none⟩ (.int .i64 (x : Int)) := ⟨_, rfl⟩
  rw [← hw6] at HG6 HK6 ⊢
  clear hw6 c5 b5 y1 y2 y3
  have HE6 := Lib.hid (HS1.out.errno HK6.out)
  by_cases h30 : 30 < x
  · have y4 := onj4 h30
    have HR6 : Hid (R = ⟨50, fzero, V3⟩) := Lib.hid (by rw [HR5.out, if_pos h30])
    clear h30
    have hth : w6.there gf 0 13 := HG6.out.sf.box.there rfl
    have h1 : Array.all (#[.int .i64 0, .int .i64 0, .int .i64 0, .int .i64 0, .int .i64 0, .bool false, .slice none 0 0, .slice none 0 0, .slice none 0 0, .int .i64 0, .int .i64 0, .int .i64 0, .int .i64 0] : Array Value) (·.oneCell') = true := by simp [Value.oneCell']
    obtain ⟨w8, hw8⟩ : ∃ w8, w8 = w6.setCells gf 0 (fcells fzero azero) := ⟨_, rfl⟩
    have HW8 := Lib.hid hw8
    have HGe : Hid (Has w8 ge 28 [.int .i64 0]) := Lib.hid (by rw [hw8]; exact HE6.out.kept (Kept.sets gf (fcells fzero azero) 0 w6) HS1.out.2.2.2.2.2.1)
    clear hw8
    have c8 := HGe.out.cell 0 rfl
    have b8 := HGe.out.free 0
    go_wp2_with (refine wpList_store_mid rfl 26 (.tmp 2) (.tmp 29) rfl gf 0 #[.int .i64 0, .int .i64 0, .int .i64 0, .int .i64 0, .int .i64 0, .bool false, .slice none 0 0, .slice none 0 0, .slice none 0 0, .int .i64 0, .int .i64 0, .int .i64 0, .int .i64 0] rfl rfl hth infoFr h1 ?_; clear hth h1; rw [show w6.setCells gf 0 (#[.int .i64 0, .int .i64 0, .int .i64 0, .int .i64 0, .int .i64 0, .bool false, .slice none 0 0, .slice none 0 0, .slice none 0 0, .int .i64 0, .int .i64 0, .int .i64 0, .int .i64 0] : Array Value).toList = w8 from HW8.out.symm])
    exact one_ret HS1.out HG6.out.sf HK6.out (by rw [HW8.out]) (by rw [HR6.out]) (by rw [HR6.out]) (fun h => by cases h) rfl rfl
  have y4 := onj5 h30
  have HR6 : Hid (R = one2 (oneItems x V3)) := Lib.hid (by rw [HR5.out, if_neg h30])
  have s6 := HG6.out.src.cell 0 rfl
  by_cases h8 : 8 ≤ x ∧ x < 16
  · obtain ⟨y5, y6⟩ := onj6 h8
    have HR7 : Hid (R = one2 (stmV V3 { fzero with kind := 8 } x)) := Lib.hid (by rw [HR6.out]; unfold oneItems; rw [if_pos h8])
    have H16 : Hid (x < 16) := Lib.hid h8.2
    have c6 := HG6.out.sf.box.cell 0 rfl
    have b6 := HG6.out.sf.box.free 0
    have HG7 := Lib.hid (HG6.out.put (f' := { fzero with kind := 8 }) (fa' := azero) 0 (.int .i64 8) rfl ⟨HG6.out.sf.own.data, HG6.out.sf.own.cid, HG6.out.sf.own.spans⟩)
    have HK7 := Lib.hid (kept_put HK6.out 0 (.int .i64 8))
    clear h8 h30 s6
    go_upto_region 12 with fail
    obtain ⟨w7, hw7⟩ : ∃ w7, w7 = w6.setCell ⟨gf, 0, none⟩ (.int .i64 8) := ⟨_, rfl⟩
    rw [← hw7] at HG7 HK7 ⊢
    clear hw7 c6 b6 y4 y5 y6
    have s7 := HG7.out.src.cell 0 rfl
    have HC := Lib.hid (sstream_any w7 HG7.out.sf (Nat.le_trans HB.out HK7.out.size) HL3.out x H16.out)
    go_wp2_with fail
    refine HC.out.mono ?_
    rintro e w8 hs
    rcases after_items hs HK7.out HR7.out with ⟨xe, rfl, hxe, hbad⟩ | ⟨f, fa, rfl, hf, hk8, hR8⟩
    · exact one_door HS1.out hbad (SrcF.err hbad) hxe rfl rfl
    clear s7 hs
    have HF8 := Lib.hid hf
    have HK8 := Lib.hid hk8
    have HR9 := Lib.hid hR8
    have HC8 := Lib.hid (checkF_any w8 hf.own.fin)
    have g0 := hf.box.cell 0 rfl
    have g1 := hf.box.cell 1 rfl
    have g2 := hf.box.cell 2 rfl
    have g3 := hf.box.cell 3 rfl
    have g4 := hf.box.cell 4 rfl
    have g5 := hf.box.cell 5 rfl
    have g6 := hf.box.cell 6 rfl
    have g7 := hf.box.cell 7 rfl
    have g8 := hf.box.cell 8 rfl
    have g9 := hf.box.cell 9 rfl
    have g10 := hf.box.cell 10 rfl
    have g11 := hf.box.cell 11 rfl
    have g12 := hf.box.cell 12 rfl
    clear hf hk8 hR8
    obtain ⟨ck, hck⟩ : ∃ ck, ck = chkF f := ⟨_, rfl⟩
    rw [← hck] at HC8
    have HCk := Lib.hid hck
    clear hck
    go_wp2_with fail
    refine HC8.out.mono ?_
    rintro e w9 ⟨rfl, hb9⟩
    have HF9 := Lib.hid (HF8.out.below hb9)
    have HK9 : Hid (Kept (fun k => k = g ∨ k = gf) w1 w9) := Lib.hid (HK8.out.trans (Kept.of_below (X := fun k => k = g ∨ k = gf) hb9) (fun _ _ h => h))
    have HE9 := Lib.hid (HS1.out.errno HK9.out)
    clear hb9 g0 g1 g2 g3 g4 g5 g6 g7 g8 g9 g10 g11 g12
    by_cases hc0 : ck = 0
    · subst hc0
      have g0 := HF9.out.box.cell 0 rfl
      have g1 := HF9.out.box.cell 1 rfl
      have g2 := HF9.out.box.cell 2 rfl
      have g3 := HF9.out.box.cell 3 rfl
      have g4 := HF9.out.box.cell 4 rfl
      have g5 := HF9.out.box.cell 5 rfl
      have g6 := HF9.out.box.cell 6 rfl
      have g7 := HF9.out.box.cell 7 rfl
      have g8 := HF9.out.box.cell 8 rfl
      have g9 := HF9.out.box.cell 9 rfl
      have g10 := HF9.out.box.cell 10 rfl
      have g11 := HF9.out.box.cell 11 rfl
      have g12 := HF9.out.box.cell 12 rfl
      have HRa : Hid (R = ⟨0, f, _⟩) := Lib.hid (by rw [HR9.out]; unfold one2; rw [if_pos rfl, if_pos HCk.out.symm])
      have hth : w9.there gf 0 13 := HF9.out.box.there rfl
      have h1 : Array.all (#[.int .i64 f.kind, .int .i64 f.id, .int .i64 f.at_, .int .i64 f.n, .int .i64 f.code, .bool f.fin, .slice fa.da f.data.length fa.dc, .slice fa.ca f.cid.length fa.cc, .slice fa.sa f.spans.length fa.sc, .int .i64 f.delay, .int .i64 f.e0, .int .i64 f.e1, .int .i64 f.e2] : Array Value) (·.oneCell') = true := by simp [Value.oneCell']
      obtain ⟨wa, hwa⟩ : ∃ wa, wa = w9.setCells gf 0 (fcells f fa) := ⟨_, rfl⟩
      have HWa := Lib.hid hwa
      have HGe : Hid (Has wa ge 28 [.int .i64 0]) := Lib.hid (by rw [hwa]; exact HE9.out.kept (Kept.sets gf (fcells f fa) 0 w9) HS1.out.2.2.2.2.2.1)
      clear hwa
      have c8 := HGe.out.cell 0 rfl
      have b8 := HGe.out.free 0
      go_wp2_with (refine wpList_store_mid rfl 26 (.tmp 2) (.tmp 50) rfl gf 0 #[.int .i64 f.kind, .int .i64 f.id, .int .i64 f.at_, .int .i64 f.n, .int .i64 f.code, .bool f.fin, .slice fa.da f.data.length fa.dc, .slice fa.ca f.cid.length fa.cc, .slice fa.sa f.spans.length fa.sc, .int .i64 f.delay, .int .i64 f.e0, .int .i64 f.e1, .int .i64 f.e2] rfl rfl hth infoFr h1 ?_; clear hth h1; rw [show w9.setCells gf 0 (#[.int .i64 f.kind, .int .i64 f.id, .int .i64 f.at_, .int .i64 f.n, .int .i64 f.code, .bool f.fin, .slice fa.da f.data.length fa.dc, .slice fa.ca f.cid.length fa.cc, .slice fa.sa f.spans.length fa.sc, .int .i64 f.delay, .int .i64 f.e0, .int .i64 f.e1, .int .i64 f.e2] : Array Value).toList = wa from HWa.out.symm])
      exact one_ret HS1.out HF9.out HK9.out (by rw [HWa.out]) (by rw [HRa.out]) (by rw [HRa.out]) (fun _ => ⟨by rw [HRa.out], HF9.out.own⟩) rfl rfl
    · have y9 := onj11 hc0
      have HRa : Hid (R = ⟨51, fzero, _⟩) := Lib.hid (by rw [HR9.out]; unfold one2; rw [if_pos rfl, if_neg (fun h => hc0 (HCk.out.trans h))])
      clear hc0
      have hth : w9.there gf 0 13 := HF9.out.box.there rfl
      have h1 : Array.all (#[.int .i64 0, .int .i64 0, .int .i64 0, .int .i64 0, .int .i64 0, .bool false, .slice none 0 0, .slice none 0 0, .slice none 0 0, .int .i64 0, .int .i64 0, .int .i64 0, .int .i64 0] : Array Value) (·.oneCell') = true := by simp [Value.oneCell']
      obtain ⟨wa, hwa⟩ : ∃ wa, wa = w9.setCells gf 0 (fcells fzero azero) := ⟨_, rfl⟩
      have HWa := Lib.hid hwa
      have HGe : Hid (Has wa ge 28 [.int .i64 0]) := Lib.hid (by rw [hwa]; exact HE9.out.kept (Kept.sets gf (fcells fzero azero) 0 w9) HS1.out.2.2.2.2.2.1)
      clear hwa
      have c8 := HGe.out.cell 0 rfl
      have b8 := HGe.out.free 0
      go_wp2_with (refine wpList_store_mid rfl 26 (.tmp 2) (.tmp 49) rfl gf 0 #[.int .i64 0, .int .i64 0, .int .i64 0, .int .i64 0, .int .i64 0, .bool false, .slice none 0 0, .slice none 0 0, .slice none 0 0, .int .i64 0, .int .i64 0, .int .i64 0, .int .i64 0] rfl rfl hth infoFr h1 ?_; clear hth h1; rw [show w9.setCells gf 0 (#[.int .i64 0, .int .i64 0, .int .i64 0, .int .i64 0, .int .i64 0, .bool false, .slice none 0 0, .slice none 0 0, .slice none 0 0, .int .i64 0, .int .i64 0, .int .i64 0, .int .i64 0] : Array Value).toList = wa from HWa.out.symm])
      exact one_ret HS1.out HF9.out HK9.out (by rw [HWa.out]) (by rw [HRa.out]) (by rw [HRa.out]) (fun h => by cases h) rfl rfl
  have HR7 := Lib.hid (show R = one2 (if x = 0 then ⟨0, { fzero with n := 1 }, V3⟩ else itemsV V3 { fzero with kind := (x : Int) }) by rw [HR6.out]; unfold oneItems; rw [if_neg h8])
  by_cases hx0 : x = 0
  · subst hx0
    have c6 := HG6.out.sf.box.cell 3 rfl
    have b6 := HG6.out.sf.box.free 3
    have HG7 := Lib.hid (HG6.out.put (f' := { fzero with n := 1 }) (fa' := azero) 3 (.int .i64 1) rfl ⟨HG6.out.sf.own.data, HG6.out.sf.own.cid, HG6.out.sf.own.spans⟩)
    have HK7 := Lib.hid (kept_put HK6.out 3 (.int .i64 1))
    clear h8 h30 s6 y4
    go_upto_region 15 with fail
    obtain ⟨w8, hw8⟩ : ∃ w8, w8 = w6.setCell ⟨gf, 3, none⟩ (.int .i64 1) := ⟨_, rfl⟩
    rw [← hw8] at HG7 HK7 ⊢
    clear hw8 c6 b6
    obtain ⟨f, hfz⟩ : ∃ f : Fm, f = { fzero with n := 1 } := ⟨_, rfl⟩
    obtain ⟨fa, hfa⟩ : ∃ fa : FA, fa = azero := ⟨_, rfl⟩
    have hf := HG7.out.sf
    rw [← hfz, ← hfa] at hf
    have hk8 := HK7.out
    have hR8 : R = one2 ⟨0, f, V3⟩ := by rw [HR7.out, if_pos rfl, hfz]
    clear hfz hfa
    have HF8 := Lib.hid hf
    have HK8 := Lib.hid hk8
    have HR9 := Lib.hid hR8
    have HC8 := Lib.hid (checkF_any w8 hf.own.fin)
    have g0 := hf.box.cell 0 rfl
    have g1 := hf.box.cell 1 rfl
    have g2 := hf.box.cell 2 rfl
    have g3 := hf.box.cell 3 rfl
    have g4 := hf.box.cell 4 rfl
    have g5 := hf.box.cell 5 rfl
    have g6 := hf.box.cell 6 rfl
    have g7 := hf.box.cell 7 rfl
    have g8 := hf.box.cell 8 rfl
    have g9 := hf.box.cell 9 rfl
    have g10 := hf.box.cell 10 rfl
    have g11 := hf.box.cell 11 rfl
    have g12 := hf.box.cell 12 rfl
    clear hf hk8 hR8
    obtain ⟨ck, hck⟩ : ∃ ck, ck = chkF f := ⟨_, rfl⟩
    rw [← hck] at HC8
    have HCk := Lib.hid hck
    clear hck
    go_wp2_with fail
    refine HC8.out.mono ?_
    rintro e w9 ⟨rfl, hb9⟩
    have HF9 := Lib.hid (HF8.out.below hb9)
    have HK9 : Hid (Kept (fun k => k = g ∨ k = gf) w1 w9) := Lib.hid (HK8.out.trans (Kept.of_below (X := fun k => k = g ∨ k = gf) hb9) (fun _ _ h => h))
    have HE9 := Lib.hid (HS1.out.errno HK9.out)
    clear hb9 g0 g1 g2 g3 g4 g5 g6 g7 g8 g9 g10 g11 g12
    by_cases hc0 : ck = 0
    · subst hc0
      have g0 := HF9.out.box.cell 0 rfl
      have g1 := HF9.out.box.cell 1 rfl
      have g2 := HF9.out.box.cell 2 rfl
      have g3 := HF9.out.box.cell 3 rfl
      have g4 := HF9.out.box.cell 4 rfl
      have g5 := HF9.out.box.cell 5 rfl
      have g6 := HF9.out.box.cell 6 rfl
      have g7 := HF9.out.box.cell 7 rfl
      have g8 := HF9.out.box.cell 8 rfl
      have g9 := HF9.out.box.cell 9 rfl
      have g10 := HF9.out.box.cell 10 rfl
      have g11 := HF9.out.box.cell 11 rfl
      have g12 := HF9.out.box.cell 12 rfl
      have HRa : Hid (R = ⟨0, f, _⟩) := Lib.hid (by rw [HR9.out]; unfold one2; rw [if_pos rfl, if_pos HCk.out.symm])
      have hth : w9.there gf 0 13 := HF9.out.box.there rfl
      have h1 : Array.all (#[.int .i64 f.kind, .int .i64 f.id, .int .i64 f.at_, .int .i64 f.n, .int .i64 f.code, .bool f.fin, .slice fa.da f.data.length fa.dc, .slice fa.ca f.cid.length fa.cc, .slice fa.sa f.spans.length fa.sc, .int .i64 f.delay, .int .i64 f.e0, .int .i64 f.e1, .int .i64 f.e2] : Array Value) (·.oneCell') = true := by simp [Value.oneCell']
      obtain ⟨wa, hwa⟩ : ∃ wa, wa = w9.setCells gf 0 (fcells f fa) := ⟨_, rfl⟩
      have HWa := Lib.hid hwa
      have HGe : Hid (Has wa ge 28 [.int .i64 0]) := Lib.hid (by rw [hwa]; exact HE9.out.kept (Kept.sets gf (fcells f fa) 0 w9) HS1.out.2.2.2.2.2.1)
      clear hwa
      have c8 := HGe.out.cell 0 rfl
      have b8 := HGe.out.free 0
      go_wp2_with (refine wpList_store_mid rfl 26 (.tmp 2) (.tmp 50) rfl gf 0 #[.int .i64 f.kind, .int .i64 f.id, .int .i64 f.at_, .int .i64 f.n, .int .i64 f.code, .bool f.fin, .slice fa.da f.data.length fa.dc, .slice fa.ca f.cid.length fa.cc, .slice fa.sa f.spans.length fa.sc, .int .i64 f.delay, .int .i64 f.e0, .int .i64 f.e1, .int .i64 f.e2] rfl rfl hth infoFr h1 ?_; clear hth h1; rw [show w9.setCells gf 0 (#[.int .i64 f.kind, .int .i64 f.id, .int .i64 f.at_, .int .i64 f.n, .int .i64 f.code, .bool f.fin, .slice fa.da f.data.length fa.dc, .slice fa.ca f.cid.length fa.cc, .slice fa.sa f.spans.length fa.sc, .int .i64 f.delay, .int .i64 f.e0, .int .i64 f.e1, .int .i64 f.e2] : Array Value).toList = wa from HWa.out.symm])
      exact one_ret HS1.out HF9.out HK9.out (by rw [HWa.out]) (by rw [HRa.out]) (by rw [HRa.out]) (fun _ => ⟨by rw [HRa.out], HF9.out.own⟩) rfl rfl
    · have y9 := onj11 hc0
      have HRa : Hid (R = ⟨51, fzero, _⟩) := Lib.hid (by rw [HR9.out]; unfold one2; rw [if_pos rfl, if_neg (fun h => hc0 (HCk.out.trans h))])
      clear hc0
      have hth : w9.there gf 0 13 := HF9.out.box.there rfl
      have h1 : Array.all (#[.int .i64 0, .int .i64 0, .int .i64 0, .int .i64 0, .int .i64 0, .bool false, .slice none 0 0, .slice none 0 0, .slice none 0 0, .int .i64 0, .int .i64 0, .int .i64 0, .int .i64 0] : Array Value) (·.oneCell') = true := by simp [Value.oneCell']
      obtain ⟨wa, hwa⟩ : ∃ wa, wa = w9.setCells gf 0 (fcells fzero azero) := ⟨_, rfl⟩
      have HWa := Lib.hid hwa
      have HGe : Hid (Has wa ge 28 [.int .i64 0]) := Lib.hid (by rw [hwa]; exact HE9.out.kept (Kept.sets gf (fcells fzero azero) 0 w9) HS1.out.2.2.2.2.2.1)
      clear hwa
      have c8 := HGe.out.cell 0 rfl
      have b8 := HGe.out.free 0
      go_wp2_with (refine wpList_store_mid rfl 26 (.tmp 2) (.tmp 49) rfl gf 0 #[.int .i64 0, .int .i64 0, .int .i64 0, .int .i64 0, .int .i64 0, .bool false, .slice none 0 0, .slice none 0 0, .slice none 0 0, .int .i64 0, .int .i64 0, .int .i64 0, .int .i64 0] rfl rfl hth infoFr h1 ?_; clear hth h1; rw [show w9.setCells gf 0 (#[.int .i64 0, .int .i64 0, .int .i64 0, .int .i64 0, .int .i64 0, .bool false, .slice none 0 0, .slice none 0 0, .slice none 0 0, .int .i64 0, .int .i64 0, .int .i64 0, .int .i64 0] : Array Value).toList = wa from HWa.out.symm])
      exact one_ret HS1.out HF9.out HK9.out (by rw [HWa.out]) (by rw [HRa.out]) (by rw [HRa.out]) (fun h => by cases h) rfl rfl
  have y5 := onj7 h8
  have y6 := onj8 hx0
  have HR8 : Hid (R = one2 (itemsV V3 { fzero with kind := (x : Int) })) := Lib.hid (by rw [HR7.out, if_neg hx0])
  have HKn := Lib.hid (kno_of h30 h8)
  have HN0 : Hid ((x : Int) ≠ 0) := Lib.hid (onj9 hx0)
  have HN8 : Hid ((x : Int) ≠ 8) := Lib.hid (onj10 h8)
  clear h8 hx0 h30
  have HC := Lib.hid (sitems_any w6 HG6.out.sf (Nat.le_trans HB.out HK6.out.size) HL3.out HKn.out HN0.out HN8.out rfl rfl)
  have key : ∀ (e : Ending) (w8 : World), SrcF w6 w.heap.size g gf a c (itemsV V3 { fzero with kind := (x : Int) }) e w8 → (∃ xe, e = .panicked (brk xe) ∧ xe ≠ 0 ∧ SrcF w1 w.heap.size g gf a c R (.panicked (brk xe)) w8) ∨ ∃ f fa V, e = .returned (.tuple #[]) ∧ SF w8 w.heap.size g gf a c V f fa ∧ Kept (fun k => k = g ∨ k = gf) w1 w8 ∧ R = one2 ⟨0, f, V⟩ := fun e w8 hs => by
    rcases after_items hs HK6.out HR8.out with h | ⟨f, fa, h⟩
    · exact .inl h
    · exact .inr ⟨f, fa, _, h⟩
  have HKey := Lib.hid key
  clear key
  rcases y5 with y5 | ⟨y5, y7⟩
  · go_wp2_with fail
    refine HC.out.mono ?_
    rintro e w8 hs
    rcases HKey.out e w8 hs with ⟨xe, rfl, hxe, hbad⟩ | ⟨f, fa, V8, rfl, hf, hk8, hR8⟩
    · exact one_door HS1.out hbad (SrcF.err hbad) hxe rfl rfl
    clear s6 hs y4 y5 y6
    have HF8 := Lib.hid hf
    have HK8 := Lib.hid hk8
    have HR9 := Lib.hid hR8
    have HC8 := Lib.hid (checkF_any w8 hf.own.fin)
    have g0 := hf.box.cell 0 rfl
    have g1 := hf.box.cell 1 rfl
    have g2 := hf.box.cell 2 rfl
    have g3 := hf.box.cell 3 rfl
    have g4 := hf.box.cell 4 rfl
    have g5 := hf.box.cell 5 rfl
    have g6 := hf.box.cell 6 rfl
    have g7 := hf.box.cell 7 rfl
    have g8 := hf.box.cell 8 rfl
    have g9 := hf.box.cell 9 rfl
    have g10 := hf.box.cell 10 rfl
    have g11 := hf.box.cell 11 rfl
    have g12 := hf.box.cell 12 rfl
    clear hf hk8 hR8
    obtain ⟨ck, hck⟩ : ∃ ck, ck = chkF f := ⟨_, rfl⟩
    rw [← hck] at HC8
    have HCk := Lib.hid hck
    clear hck
    go_wp2_with fail
    refine HC8.out.mono ?_
    rintro e w9 ⟨rfl, hb9⟩
    have HF9 := Lib.hid (HF8.out.below hb9)
    have HK9 : Hid (Kept (fun k => k = g ∨ k = gf) w1 w9) := Lib.hid (HK8.out.trans (Kept.of_below (X := fun k => k = g ∨ k = gf) hb9) (fun _ _ h => h))
    have HE9 := Lib.hid (HS1.out.errno HK9.out)
    clear hb9 g0 g1 g2 g3 g4 g5 g6 g7 g8 g9 g10 g11 g12
    by_cases hc0 : ck = 0
    · subst hc0
      have g0 := HF9.out.box.cell 0 rfl
      have g1 := HF9.out.box.cell 1 rfl
      have g2 := HF9.out.box.cell 2 rfl
      have g3 := HF9.out.box.cell 3 rfl
      have g4 := HF9.out.box.cell 4 rfl
      have g5 := HF9.out.box.cell 5 rfl
      have g6 := HF9.out.box.cell 6 rfl
      have g7 := HF9.out.box.cell 7 rfl
      have g8 := HF9.out.box.cell 8 rfl
      have g9 := HF9.out.box.cell 9 rfl
      have g10 := HF9.out.box.cell 10 rfl
      have g11 := HF9.out.box.cell 11 rfl
      have g12 := HF9.out.box.cell 12 rfl
      have HRa : Hid (R = ⟨0, f, _⟩) := Lib.hid (by rw [HR9.out]; unfold one2; rw [if_pos rfl, if_pos HCk.out.symm])
      have hth : w9.there gf 0 13 := HF9.out.box.there rfl
      have h1 : Array.all (#[.int .i64 f.kind, .int .i64 f.id, .int .i64 f.at_, .int .i64 f.n, .int .i64 f.code, .bool f.fin, .slice fa.da f.data.length fa.dc, .slice fa.ca f.cid.length fa.cc, .slice fa.sa f.spans.length fa.sc, .int .i64 f.delay, .int .i64 f.e0, .int .i64 f.e1, .int .i64 f.e2] : Array Value) (·.oneCell') = true := by simp [Value.oneCell']
      obtain ⟨wa, hwa⟩ : ∃ wa, wa = w9.setCells gf 0 (fcells f fa) := ⟨_, rfl⟩
      have HWa := Lib.hid hwa
      have HGe : Hid (Has wa ge 28 [.int .i64 0]) := Lib.hid (by rw [hwa]; exact HE9.out.kept (Kept.sets gf (fcells f fa) 0 w9) HS1.out.2.2.2.2.2.1)
      clear hwa
      have c8 := HGe.out.cell 0 rfl
      have b8 := HGe.out.free 0
      go_wp2_with (refine wpList_store_mid rfl 26 (.tmp 2) (.tmp 50) rfl gf 0 #[.int .i64 f.kind, .int .i64 f.id, .int .i64 f.at_, .int .i64 f.n, .int .i64 f.code, .bool f.fin, .slice fa.da f.data.length fa.dc, .slice fa.ca f.cid.length fa.cc, .slice fa.sa f.spans.length fa.sc, .int .i64 f.delay, .int .i64 f.e0, .int .i64 f.e1, .int .i64 f.e2] rfl rfl hth infoFr h1 ?_; clear hth h1; rw [show w9.setCells gf 0 (#[.int .i64 f.kind, .int .i64 f.id, .int .i64 f.at_, .int .i64 f.n, .int .i64 f.code, .bool f.fin, .slice fa.da f.data.length fa.dc, .slice fa.ca f.cid.length fa.cc, .slice fa.sa f.spans.length fa.sc, .int .i64 f.delay, .int .i64 f.e0, .int .i64 f.e1, .int .i64 f.e2] : Array Value).toList = wa from HWa.out.symm])
      exact one_ret HS1.out HF9.out HK9.out (by rw [HWa.out]) (by rw [HRa.out]) (by rw [HRa.out]) (fun _ => ⟨by rw [HRa.out], HF9.out.own⟩) rfl rfl
    · have y9 := onj11 hc0
      have HRa : Hid (R = ⟨51, fzero, _⟩) := Lib.hid (by rw [HR9.out]; unfold one2; rw [if_pos rfl, if_neg (fun h => hc0 (HCk.out.trans h))])
      clear hc0
      have hth : w9.there gf 0 13 := HF9.out.box.there rfl
      have h1 : Array.all (#[.int .i64 0, .int .i64 0, .int .i64 0, .int .i64 0, .int .i64 0, .bool false, .slice none 0 0, .slice none 0 0, .slice none 0 0, .int .i64 0, .int .i64 0, .int .i64 0, .int .i64 0] : Array Value) (·.oneCell') = true := by simp [Value.oneCell']
      obtain ⟨wa, hwa⟩ : ∃ wa, wa = w9.setCells gf 0 (fcells fzero azero) := ⟨_, rfl⟩
      have HWa := Lib.hid hwa
      have HGe : Hid (Has wa ge 28 [.int .i64 0]) := Lib.hid (by rw [hwa]; exact HE9.out.kept (Kept.sets gf (fcells fzero azero) 0 w9) HS1.out.2.2.2.2.2.1)
      clear hwa
      have c8 := HGe.out.cell 0 rfl
      have b8 := HGe.out.free 0
      go_wp2_with (refine wpList_store_mid rfl 26 (.tmp 2) (.tmp 49) rfl gf 0 #[.int .i64 0, .int .i64 0, .int .i64 0, .int .i64 0, .int .i64 0, .bool false, .slice none 0 0, .slice none 0 0, .slice none 0 0, .int .i64 0, .int .i64 0, .int .i64 0, .int .i64 0] rfl rfl hth infoFr h1 ?_; clear hth h1; rw [show w9.setCells gf 0 (#[.int .i64 0, .int .i64 0, .int .i64 0, .int .i64 0, .int .i64 0, .bool false, .slice none 0 0, .slice none 0 0, .slice none 0 0, .int .i64 0, .int .i64 0, .int .i64 0, .int .i64 0] : Array Value).toList = wa from HWa.out.symm])
      exact one_ret HS1.out HF9.out HK9.out (by rw [HWa.out]) (by rw [HRa.out]) (by rw [HRa.out]) (fun h => by cases h) rfl rfl
  · go_wp2_with fail
    refine HC.out.mono ?_
    rintro e w8 hs
    rcases HKey.out e w8 hs with ⟨xe, rfl, hxe, hbad⟩ | ⟨f, fa, V8, rfl, hf, hk8, hR8⟩
    · exact one_door HS1.out hbad (SrcF.err hbad) hxe rfl rfl
    clear s6 hs y4 y5 y6 y7
    have HF8 := Lib.hid hf
    have HK8 := Lib.hid hk8
    have HR9 := Lib.hid hR8
    have HC8 := Lib.hid (checkF_any w8 hf.own.fin)
    have g0 := hf.box.cell 0 rfl
    have g1 := hf.box.cell 1 rfl
    have g2 := hf.box.cell 2 rfl
    have g3 := hf.box.cell 3 rfl
    have g4 := hf.box.cell 4 rfl
    have g5 := hf.box.cell 5 rfl
    have g6 := hf.box.cell 6 rfl
    have g7 := hf.box.cell 7 rfl
    have g8 := hf.box.cell 8 rfl
    have g9 := hf.box.cell 9 rfl
    have g10 := hf.box.cell 10 rfl
    have g11 := hf.box.cell 11 rfl
    have g12 := hf.box.cell 12 rfl
    clear hf hk8 hR8
    obtain ⟨ck, hck⟩ : ∃ ck, ck = chkF f := ⟨_, rfl⟩
    rw [← hck] at HC8
    have HCk := Lib.hid hck
    clear hck
    go_wp2_with fail
    refine HC8.out.mono ?_
    rintro e w9 ⟨rfl, hb9⟩
    have HF9 := Lib.hid (HF8.out.below hb9)
    have HK9 : Hid (Kept (fun k => k = g ∨ k = gf) w1 w9) := Lib.hid (HK8.out.trans (Kept.of_below (X := fun k => k = g ∨ k = gf) hb9) (fun _ _ h => h))
    have HE9 := Lib.hid (HS1.out.errno HK9.out)
    clear hb9 g0 g1 g2 g3 g4 g5 g6 g7 g8 g9 g10 g11 g12
    by_cases hc0 : ck = 0
    · subst hc0
      have g0 := HF9.out.box.cell 0 rfl
      have g1 := HF9.out.box.cell 1 rfl
      have g2 := HF9.out.box.cell 2 rfl
      have g3 := HF9.out.box.cell 3 rfl
      have g4 := HF9.out.box.cell 4 rfl
      have g5 := HF9.out.box.cell 5 rfl
      have g6 := HF9.out.box.cell 6 rfl
      have g7 := HF9.out.box.cell 7 rfl
      have g8 := HF9.out.box.cell 8 rfl
      have g9 := HF9.out.box.cell 9 rfl
      have g10 := HF9.out.box.cell 10 rfl
      have g11 := HF9.out.box.cell 11 rfl
      have g12 := HF9.out.box.cell 12 rfl
      have HRa : Hid (R = ⟨0, f, _⟩) := Lib.hid (by rw [HR9.out]; unfold one2; rw [if_pos rfl, if_pos HCk.out.symm])
      have hth : w9.there gf 0 13 := HF9.out.box.there rfl
      have h1 : Array.all (#[.int .i64 f.kind, .int .i64 f.id, .int .i64 f.at_, .int .i64 f.n, .int .i64 f.code, .bool f.fin, .slice fa.da f.data.length fa.dc, .slice fa.ca f.cid.length fa.cc, .slice fa.sa f.spans.length fa.sc, .int .i64 f.delay, .int .i64 f.e0, .int .i64 f.e1, .int .i64 f.e2] : Array Value) (·.oneCell') = true := by simp [Value.oneCell']
      obtain ⟨wa, hwa⟩ : ∃ wa, wa = w9.setCells gf 0 (fcells f fa) := ⟨_, rfl⟩
      have HWa := Lib.hid hwa
      have HGe : Hid (Has wa ge 28 [.int .i64 0]) := Lib.hid (by rw [hwa]; exact HE9.out.kept (Kept.sets gf (fcells f fa) 0 w9) HS1.out.2.2.2.2.2.1)
      clear hwa
      have c8 := HGe.out.cell 0 rfl
      have b8 := HGe.out.free 0
      go_wp2_with (refine wpList_store_mid rfl 26 (.tmp 2) (.tmp 50) rfl gf 0 #[.int .i64 f.kind, .int .i64 f.id, .int .i64 f.at_, .int .i64 f.n, .int .i64 f.code, .bool f.fin, .slice fa.da f.data.length fa.dc, .slice fa.ca f.cid.length fa.cc, .slice fa.sa f.spans.length fa.sc, .int .i64 f.delay, .int .i64 f.e0, .int .i64 f.e1, .int .i64 f.e2] rfl rfl hth infoFr h1 ?_; clear hth h1; rw [show w9.setCells gf 0 (#[.int .i64 f.kind, .int .i64 f.id, .int .i64 f.at_, .int .i64 f.n, .int .i64 f.code, .bool f.fin, .slice fa.da f.data.length fa.dc, .slice fa.ca f.cid.length fa.cc, .slice fa.sa f.spans.length fa.sc, .int .i64 f.delay, .int .i64 f.e0, .int .i64 f.e1, .int .i64 f.e2] : Array Value).toList = wa from HWa.out.symm])
      exact one_ret HS1.out HF9.out HK9.out (by rw [HWa.out]) (by rw [HRa.out]) (by rw [HRa.out]) (fun _ => ⟨by rw [HRa.out], HF9.out.own⟩) rfl rfl
    · have y9 := onj11 hc0
      have HRa : Hid (R = ⟨51, fzero, _⟩) := Lib.hid (by rw [HR9.out]; unfold one2; rw [if_pos rfl, if_neg (fun h => hc0 (HCk.out.trans h))])
      clear hc0
      have hth : w9.there gf 0 13 := HF9.out.box.there rfl
      have h1 : Array.all (#[.int .i64 0, .int .i64 0, .int .i64 0, .int .i64 0, .int .i64 0, .bool false, .slice none 0 0, .slice none 0 0, .slice none 0 0, .int .i64 0, .int .i64 0, .int .i64 0, .int .i64 0] : Array Value) (·.oneCell') = true := by simp [Value.oneCell']
      obtain ⟨wa, hwa⟩ : ∃ wa, wa = w9.setCells gf 0 (fcells fzero azero) := ⟨_, rfl⟩
      have HWa := Lib.hid hwa
      have HGe : Hid (Has wa ge 28 [.int .i64 0]) := Lib.hid (by rw [hwa]; exact HE9.out.kept (Kept.sets gf (fcells fzero azero) 0 w9) HS1.out.2.2.2.2.2.1)
      clear hwa
      have c8 := HGe.out.cell 0 rfl
      have b8 := HGe.out.free 0
      go_wp2_with (refine wpList_store_mid rfl 26 (.tmp 2) (.tmp 49) rfl gf 0 #[.int .i64 0, .int .i64 0, .int .i64 0, .int .i64 0, .int .i64 0, .bool false, .slice none 0 0, .slice none 0 0, .slice none 0 0, .int .i64 0, .int .i64 0, .int .i64 0, .int .i64 0] rfl rfl hth infoFr h1 ?_; clear hth h1; rw [show w9.setCells gf 0 (#[.int .i64 0, .int .i64 0, .int .i64 0, .int .i64 0, .int .i64 0, .bool false, .slice none 0 0, .slice none 0 0, .slice none 0 0, .int .i64 0, .int .i64 0, .int .i64 0, .int .i64 0] : Array Value).toList = wa from HWa.out.symm])
      exact one_ret HS1.out HF9.out HK9.out (by rw [HWa.out]) (by rw [HRa.out]) (by rw [HRa.out]) (fun h => by cases h) rfl rfl
end Go.Proofs.Ytppkilkfmclpkaa

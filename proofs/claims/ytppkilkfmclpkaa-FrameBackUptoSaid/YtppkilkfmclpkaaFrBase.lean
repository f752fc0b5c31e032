/- A frame in memory: its thirteen cells; storing and loading it whole. No condition on the program. -/
import Derived.Test.YtppkilkfmclpkaaSpans
import Derived.Test.YtppkilkfmclpkaaCopy
import Derived.Test.YtppkilkfmclpkaaWalk2
import Derived.Deep.DeepCutAuto
namespace Go.Proofs.Ytppkilkfmclpkaa
open Go.RowKit

/-- a frame -/
structure Fm where
  kind : Int
  id : Int
  at_ : Int
  n : Int
  code : Int
  fin : Bool
  data : List UInt8
  cid : List UInt8
  spans : List Sn
  delay : Int
  e0 : Int
  e1 : Int
  e2 : Int
/-- where its slices lie -/
structure FA where
  da : Option Addr
  dc : Nat
  ca : Option Addr
  cc : Nat
  sa : Option Addr
  sc : Nat
def fcells (f : Fm) (a : FA) : List Value :=
  [.int .i64 f.kind, .int .i64 f.id, .int .i64 f.at_, .int .i64 f.n, .int .i64 f.code, .bool f.fin, .slice a.da f.data.length a.dc, .slice a.ca f.cid.length a.cc, .slice a.sa f.spans.length a.sc, .int .i64 f.delay, .int .i64 f.e0, .int .i64 f.e1, .int .i64 f.e2]
theorem fcells_length (f : Fm) (a : FA) : (fcells f a).length = 13 := rfl
theorem fcells_one (f : Fm) (a : FA) : ∀ u ∈ fcells f a, u.oneCell' = true := by
  intro u hu
  simp only [fcells, List.mem_cons, List.not_mem_nil, or_false] at hu
  rcases hu with rfl | rfl | rfl | rfl | rfl | rfl | rfl | rfl | rfl | rfl | rfl | rfl | rfl <;> rfl
/-- its slices read so -/
structure FIn (w : World) (f : Fm) (a : FA) : Prop where
  data : Sl w a.da f.data.length a.dc (bv f.data)
  cid : Sl w a.ca f.cid.length a.cc (bv f.cid)
  spans : SlS w a.sa f.spans.length a.sc f.spans
theorem FIn.below {w w' : World} {f : Fm} {a : FA} (h : FIn w f a) (hb : Below w.heap.size w w') : FIn w' f a := ⟨h.data.below hb, h.cid.below hb, h.spans.below hb⟩
/-- no slice is too long -/
structure FSz (f : Fm) : Prop where
  data : f.data.length ≤ 140737488351232
  cid : f.cid.length ≤ 140737488351232
  spans : f.spans.length * 16 ≤ 140737488351232

theorem Has.rangeAt {w : World} {b : Nat} {t : TypeId} {vs : List Value} (h : Has w b t vs) : w.rangeAt b 0 vs := fun j v hv => by rw [Nat.zero_add]; exact h.cell j hv
theorem Has.there {w : World} {b : Nat} {t : TypeId} {vs : List Value} (h : Has w b t vs) {n : Nat} (hn : n = vs.length) : w.there b 0 n := fun j hj => by
  rw [Nat.zero_add]
  exact ⟨by rw [h.cell j (List.getElem?_eq_getElem (by omega))]; rfl, h.free j⟩
theorem Has.stores {b : Nat} {t : TypeId} : ∀ {vs : List Value} {us : List Value} {w : World} (o : Nat), Has w b t us → o + vs.length ≤ us.length → Has (w.setCells b o vs) b t (us.take o ++ vs ++ us.drop (o + vs.length)) := by
  intro vs
  induction vs with
  | nil => intro us w o h _; simpa [World.setCells] using h
  | cons v r ih =>
    intro us w o h hl
    rw [World.setCells]
    have h1 := ih (o + 1) (h.set o v) (by simp at hl ⊢; omega)
    have e : (us.set o v).take (o + 1) ++ r ++ (us.set o v).drop (o + 1 + r.length) = us.take o ++ (v :: r) ++ us.drop (o + (v :: r).length) := by
      simp only [List.length_cons] at hl
      rw [List.take_set, List.drop_set_of_lt (by omega)]
      have e1 : (us.take (o + 1)).set o v = us.take o ++ [v] := by
        rw [List.take_succ_eq_append_getElem (by omega), List.set_append_right _ _ (by simp; omega)]
        simp [List.length_take, Nat.min_eq_left (show o ≤ us.length by omega)]
      rw [e1, List.length_cons]
      simp [List.append_assoc, Nat.add_comm, Nat.add_left_comm]
    rw [← e]
    exact h1
theorem Has.store {w : World} {b : Nat} {t : TypeId} {us vs : List Value} (h : Has w b t us) (hl : vs.length = us.length) : Has (w.setCells b 0 vs) b t vs := by
  have := h.stores (vs := vs) 0 (by omega)
  rw [List.take_zero, List.nil_append, Nat.zero_add, hl, List.drop_length, List.append_nil] at this
  exact this
theorem Kept.sets (b : Nat) : ∀ (vs : List Value) (o : Nat) (w : World), Kept (fun k => k = b) w (w.setCells b o vs)
  | [], _, w => Kept.refl _ w
  | v :: r, o, w => by
    rw [World.setCells]
    exact (Kept.set w b o v).trans (Kept.sets b r (o + 1) _) (fun _ _ h => h)
theorem infoFrR : (Try.prog.info? 34).map (·.size) = some 13 := by kernel_rfl
theorem infoFr : (Try.prog.info? 26).map (·.size) = some 13 := by kernel_rfl
theorem infoE3 : (Try.prog.info? 24).map (·.size) = some 3 := by kernel_rfl
theorem frR_d : ∃ d, Try.prog.underlying 34 = some d ∧ d.isRow = true := ⟨_, Try.underlying34, rfl⟩
theorem run_load_frR {w : World} {b : Nat} {vs : List Value} (hH : Has w b 34 vs) (hl : vs.length = 13) : (loadVar 34 ⟨b, 0, none⟩).run Try.prog w = .ok (.agg vs.toArray) w :=
  run_loadVar_mid (P := Try.prog) w b 0 34 vs _ hH.rangeAt Try.underlying34 rfl (by rw [infoFrR, hl])
theorem run_load_fr {w : World} {b : Nat} {vs : List Value} (hH : Has w b 26 vs) (hl : vs.length = 13) : (loadVar 26 ⟨b, 0, none⟩).run Try.prog w = .ok (.agg vs.toArray) w :=
  run_loadVar_mid (P := Try.prog) w b 0 26 vs _ hH.rangeAt Try.underlying26 rfl (by rw [infoFr, hl])
theorem results_frR {fn : Func} {c : Tmp} (h : fn.results = #[.cell c 34]) (tmps : Array Value) {w : World} {b : Nat} {vs : List Value} (hc : tmps[c]?.getD undef = .pointer (some ⟨b, 0, none⟩)) (hH : Has w b 34 vs) (hl : vs.length = 13) :
    (results fn tmps).run Try.prog w = .ok (.agg vs.toArray) w := by
  have hr := run_load_frR hH hl
  simp only [results, h]
  simp [hc, asAddr, hr]
theorem results_fr {fn : Func} {c : Tmp} (h : fn.results = #[.cell c 26]) (tmps : Array Value) {w : World} {b : Nat} {vs : List Value} (hc : tmps[c]?.getD undef = .pointer (some ⟨b, 0, none⟩)) (hH : Has w b 26 vs) (hl : vs.length = 13) :
    (results fn tmps).run Try.prog w = .ok (.agg vs.toArray) w := by
  have hr := run_load_fr hH hl
  simp only [results, h]
  simp [hc, asAddr, hr]

/-- nothing in a frame's variable -/
def fzero : Fm := ⟨0, 0, 0, 0, 0, false, [], [], [], 0, 0, 0, 0⟩
def azero : FA := ⟨none, 0, none, 0, none, 0⟩

theorem two_new (w : World) (t1 t2 : TypeId) (c1 c2 : Array Value) {w2 : World} (h : w2 = (w.alloc (.cells c1 t1)).alloc (.cells c2 t2)) :
    Has w2 w.heap.size t1 c1.toList ∧ Has w2 (w.heap.size + 1) t2 c2.toList ∧ Below w.heap.size w w2 := by
  have hb : Below w.heap.size w (w.alloc (.cells c1 t1)) := (Below.refl _ _).alloc (Nat.le_refl _) _
  have hb2 : Below (w.alloc (.cells c1 t1)).heap.size (w.alloc (.cells c1 t1)) w2 := by rw [h]; exact (Below.refl _ _).alloc (Nat.le_refl _) _
  refine ⟨(Has.new w t1 c1).kept (Kept.of_below (X := none') hb2) (fun h => h), ?_, hb.trans (hb2.mono hb.size)⟩
  have h2 := Has.new (w.alloc (.cells c1 t1)) t2 c2
  rw [← h] at h2
  simpa using h2
set_option maxRecDepth 100000 in
set_option maxHeartbeats 4000000 in
/-- the program's frame as the document's -/
theorem of_any (w : World) (f : Fm) (a : FA) : Calls Try.prog 14 #[.agg (fcells f a).toArray] w fun e w' => e = .returned (.agg (fcells f a).toArray) ∧ Below w.heap.size w w' := by
  obtain ⟨k, i, t, n, c, fi, da, ci, sp, dl, e0, e1, e2⟩ := f
  obtain ⟨da', dc, ca, cc, sa, sc⟩ := a
  obtain ⟨dn, hdn⟩ : ∃ dn, dn = da.length := ⟨_, rfl⟩
  obtain ⟨cn, hcn⟩ : ∃ cn, cn = ci.length := ⟨_, rfl⟩
  obtain ⟨sn, hsn⟩ : ∃ sn, sn = sp.length := ⟨_, rfl⟩
  have hf : fcells ⟨k, i, t, n, c, fi, da, ci, sp, dl, e0, e1, e2⟩ ⟨da', dc, ca, cc, sa, sc⟩ = [.int .i64 k, .int .i64 i, .int .i64 t, .int .i64 n, .int .i64 c, .bool fi, .slice da' dn dc, .slice ca cn cc, .slice sa sn sc, .int .i64 dl, .int .i64 e0, .int .i64 e1, .int .i64 e2] := by rw [hdn, hcn, hsn]; rfl
  rw [hf]
  clear hf hdn hcn hsn
  obtain ⟨w2, hw2⟩ : ∃ w2, w2 = (w.alloc (.cells #[.int .i64 k, .int .i64 i, .int .i64 t, .int .i64 n, .int .i64 c, .bool fi, .slice da' dn dc, .slice ca cn cc, .slice sa sn sc, .int .i64 dl, .int .i64 e0, .int .i64 e1, .int .i64 e2] 26)).alloc (.cells #[.int .i64 0, .int .i64 0, .int .i64 0, .int .i64 0, .int .i64 0, .bool false, .slice none 0 0, .slice none 0 0, .slice none 0 0, .int .i64 0, .int .i64 0, .int .i64 0, .int .i64 0] 34) := ⟨_, rfl⟩
  obtain ⟨hG, hH, hB⟩ := two_new w _ _ _ _ hw2
  obtain ⟨yb, hyb⟩ : ∃ yb, yb = w.heap.size + 1 := ⟨_, rfl⟩
  obtain ⟨xb, hxb⟩ : ∃ xb, xb = w.heap.size := ⟨_, rfl⟩
  rw [← hyb] at hH
  rw [← hxb] at hG
  have HG := Lib.hid hG
  have HH := Lib.hid hH
  have HB := Lib.hid hB
  have HNe : Hid (w.heap.size ≤ yb) := Lib.hid (by omega)
  clear hG hH hB
  go_enter Try.func14, Try.ntmps14
  go_upto_region 1 with fail
  rw [← hw2, ← hyb, ← hxb]
  clear hw2 hyb hxb
  have g0 := HG.out.cell 0 rfl
  have g1 := HG.out.cell 1 rfl
  have g2 := HG.out.cell 2 rfl
  have g3 := HG.out.cell 3 rfl
  have g4 := HG.out.cell 4 rfl
  have g5 := HG.out.cell 5 rfl
  have g6 := HG.out.cell 6 rfl
  have g7 := HG.out.cell 7 rfl
  have g8 := HG.out.cell 8 rfl
  have g9 := HG.out.cell 9 rfl
  have g10 := HG.out.cell 10 rfl
  have g11 := HG.out.cell 11 rfl
  have g12 := HG.out.cell 12 rfl
  have h1 : Array.all (#[.int .i64 k, .int .i64 i, .int .i64 t, .int .i64 n, .int .i64 c, .bool fi, .slice da' dn dc, .slice ca cn cc, .slice sa sn sc, .int .i64 dl, .int .i64 e0, .int .i64 e1, .int .i64 e2] : Array Value) (·.oneCell') = true := by simp [Value.oneCell']
  go_wp2_with (refine wpList_store_mid rfl 34 (.tmp 2) (.tmp 25) rfl yb 0 #[.int .i64 k, .int .i64 i, .int .i64 t, .int .i64 n, .int .i64 c, .bool fi, .slice da' dn dc, .slice ca cn cc, .slice sa sn sc, .int .i64 dl, .int .i64 e0, .int .i64 e1, .int .i64 e2] rfl rfl (HH.out.there rfl) infoFrR h1 ?_)
  go_wp2
  refine bodyPost_ret (results_frR rfl _ rfl (HH.out.store rfl) rfl) rfl ?_
  exact ⟨rfl, HB.out.trans ((Kept.sets yb _ 0 w2).below HB.out.size (fun k e => by rw [e]; exact HNe.out))⟩
end Go.Proofs.Ytppkilkfmclpkaa

/- What Encode writes is read back: a frame, many frames. Plain: no program in sight. -/
import Derived.Test.YtppkilkfmclpkaaFrDec
import Derived.Test.YtppkilkfmclpkaaVnInv
namespace Go.Proofs.Ytppkilkfmclpkaa
open Go.RowKit

/-- from place t on the bytes are m -/
structure Dr (l : List UInt8) (t : Nat) (m : List UInt8) : Prop where
  le : t ≤ l.length
  eq : l.drop t = m
theorem Dr.adv {l : List UInt8} {t : Nat} {x m : List UInt8} (h : Dr l t (x ++ m)) : Dr l (t + x.length) m := by
  have h1 := congrArg List.length h.eq
  rw [List.length_drop, List.length_append] at h1
  have h2 := h.le
  refine ⟨by omega, ?_⟩
  rw [← List.drop_drop, h.eq, List.drop_left]
theorem Dr.num {l : List UInt8} {t k : Nat} {m : List UInt8} (h : Dr l t (vl k ++ m)) (hk : k < 4611686018427387904) : numV ⟨l, t, 0⟩ = (k, ⟨l, t + (vl k).length, 0⟩) := by
  have h1 := getV_vl (l.take t) m hk (l := l) (by rw [← h.eq]; exact (List.take_append_drop t l).symm) (t := t) (by rw [List.length_take]; have := h.le; omega)
  unfold numV
  rw [if_pos rfl]
  simp only [h1, if_true]
theorem Dr.byt {l : List UInt8} {t : Nat} {x m : List UInt8} (h : Dr l t (x ++ m)) : bytV ⟨l, t, 0⟩ x.length = (x, ⟨l, t + x.length, 0⟩) := by
  have h1 := congrArg List.length h.eq
  rw [List.length_drop, List.length_append] at h1
  unfold bytV
  rw [if_pos rfl, if_neg (by show ¬ l.length - t < x.length; omega)]
  show ((l.drop t).take x.length, _) = _
  rw [h.eq, List.take_left]
/-- a frame F is read, m is left -/
def Good (l : List UInt8) (F : Fm) (mE : List UInt8) (r : Rs) : Prop := ∃ t', r = ⟨0, F, ⟨l, t', 0⟩⟩ ∧ Dr l t' mE
section
variable {l mE m x : List UInt8} {F f' : Fm} {t : Nat}
theorem good_end (e : f' = F) (h : Dr l t mE) : Good l F mE ⟨0, f', ⟨l, t, 0⟩⟩ := ⟨t, by rw [e], h⟩
theorem good_nat {k : Nat} {K : Nat → Vr → Rs} (h : Dr l t (vl k ++ m)) (hk : k < 4611686018427387904) (hK : ∀ t', Dr l t' m → Good l F mE (K k ⟨l, t', 0⟩)) : Good l F mE (nxN ⟨l, t, 0⟩ K) := by
  unfold nxN
  rw [h.num hk, if_pos rfl]
  exact hK _ h.adv
theorem numB_lt {x : Int} (h : numB x = true) : x.toNat < 4611686018427387904 ∧ ((x.toNat : Nat) : Int) = x := by
  unfold numB at h
  simp only [Bool.and_eq_true, decide_eq_true_eq] at h
  omega
theorem toN {x : Int} (h : numB x = true) : ((x.toNat : Nat) : Int) = x := (numB_lt h).2
theorem good_num {z : Int} {K : Nat → Vr → Rs} (hz : numB z = true) (h : Dr l t (vl z.toNat ++ m)) (hK : ∀ t', Dr l t' m → Good l F mE (K z.toNat ⟨l, t', 0⟩)) : Good l F mE (nxN ⟨l, t, 0⟩ K) := good_nat h (numB_lt hz).1 hK
theorem good_byt {n : Nat} {K : List UInt8 → Vr → Rs} (hn : n = x.length) (h : Dr l t (x ++ m)) (hK : ∀ t', Dr l t' m → Good l F mE (K x ⟨l, t', 0⟩)) : Good l F mE (nxB ⟨l, t, 0⟩ n K) := by
  subst hn
  unfold nxB
  rw [h.byt, if_pos rfl]
  exact hK _ h.adv
theorem good_txt {K : List UInt8 → Vr → Rs} (hx : x.length ≤ 16384) (h : Dr l t (vl x.length ++ (x ++ m))) (hK : ∀ t', Dr l t' m → Good l F mE (K x ⟨l, t', 0⟩)) : Good l F mE (nxT ⟨l, t, 0⟩ K) := by
  unfold nxT txtV
  rw [h.num (by omega), if_pos rfl, h.adv.byt, if_pos rfl]
  exact hK _ h.adv.adv
end
theorem nB_cons (z : Int) (r : List Int) : nB (z :: r) = vl z.toNat ++ nB r := rfl
theorem nB_nil : nB [] = [] := rfl
/-- gaps and spans below span j -/
def gpd (l : List Sn) : Nat → List UInt8
  | 0 => []
  | j + 1 => gp l j ++ gpd l j
theorem gps_gpd (l : List Sn) : ∀ m, m < l.length → gpd l (l.length - 1) = gps l m ++ gpd l (l.length - 1 - m)
  | 0, _ => by simp [gps]
  | m + 1, h => by
    rw [gps_next, gps_gpd l m (by omega), List.append_assoc]
    congr 1
    rw [show l.length - 1 - m = (l.length - 1 - (m + 1)) + 1 by omega]
    show gp l _ ++ gpd l _ = _
    rw [show l.length - 2 - m = l.length - 1 - (m + 1) by omega]
theorem sn1_of {x : Sn} {h s : Nat} (h1 : (h : Int) = x.to_) (h2 : (s : Int) = x.to_ - x.from_) (h3 : 0 ≤ x.from_) : sn1 h s = x := by
  obtain ⟨a, b⟩ := x
  simp only at h1 h2 h3
  unfold sn1
  simp only [Sn.mk.injEq]
  omega
theorem good_sp {sp : List Sn} (hs : spsOk (-2) sp = true) {lb mE : List UInt8} {fd : Fm} : ∀ (j : Nat) (hj : j < sp.length) (t h s : Nat) (acc : List Sn), (h : Int) = sp[j].to_ → (s : Int) = sp[j].to_ - sp[j].from_ → acc = (sp.drop (j + 1)).reverse → Dr lb t (gpd sp j ++ mE) →
    Good lb { fd with spans := sp } mE (spLoop fd j s h acc ⟨lb, t, 0⟩) := by
  obtain ⟨ha, hb⟩ := spsOk_all sp (-2) (by decide) hs
  intro j
  induction j with
  | zero =>
    intro hj t h s acc h1 h2 h3 hd
    obtain ⟨c1, c2, c3⟩ := ha 0 hj
    rw [spLoop_end (by omega)]
    refine good_end ?_ hd
    rw [sn1_of h1 h2 (by omega), h3]
    have e : sp = sp[0] :: sp.drop 1 := by
      have := List.drop_eq_getElem_cons hj
      simpa using this
    congr 1
    rw [List.reverse_append, List.reverse_reverse]
    exact e.symm
  | succ j ih =>
    intro hj t h s acc h1 h2 h3 hd
    obtain ⟨c1, c2, c3⟩ := ha (j + 1) hj
    obtain ⟨d1, d2, d3⟩ := ha j (by omega)
    have e1 := hb j hj
    rw [spLoop_more (by omega)]
    have hg : gpd sp (j + 1) = nB [sp[j + 1].from_ - sp[j].to_ - 2, sp[j].to_ - sp[j].from_] ++ gpd sp j := by
      show gp sp j ++ gpd sp j = _
      rw [gp_at hj]
    rw [hg] at hd
    simp only [nB_cons, nB_nil, List.append_assoc, List.nil_append] at hd
    refine good_num (numB_of (by omega)) hd fun t1 hd1 => ?_
    rw [if_neg (by omega)]
    refine good_num (numB_of (by omega)) hd1 fun t2 hd2 => ?_
    refine ih (by omega) t2 _ _ _ (by omega) (by omega) ?_ hd2
    rw [sn1_of h1 h2 (by omega), h3, ← List.reverse_cons, ← List.drop_eq_getElem_cons hj]
/-- an ack's first items -/
theorem good_ack {f : Fm} (hs : rspV f.spans = true) (hd : numB f.delay = true) {lb mE : List UInt8} {t : Nat} (h : Dr lb t (ackB f ++ mE)) (k : Int) :
    Good lb { fzero with kind := k, delay := f.delay, spans := f.spans } mE (spsV ⟨lb, t, 0⟩ { fzero with kind := k }) := by
  unfold rspV at hs
  simp only [Bool.and_eq_true, decide_eq_true_eq] at hs
  obtain ⟨hs, hl1, hl2⟩ := hs
  obtain ⟨ha, _⟩ := spsOk_all f.spans (-2) (by decide) hs
  obtain ⟨c1, c2, c3⟩ := ha (f.spans.length - 1) (by omega)
  have hgp := gps_gpd f.spans (f.spans.length - 1) (by omega)
  rw [Nat.sub_self] at hgp
  rw [ackB_at hl1, ← List.append_nil (gps f.spans (f.spans.length - 1)), show ([] : List UInt8) = gpd f.spans 0 from rfl, ← hgp] at h
  simp only [nB_cons, nB_nil, List.append_assoc, List.nil_append] at h
  unfold spsV
  refine good_num (numB_of (by omega)) h fun t1 h1 => good_num hd h1 fun t2 h2 => good_num (numB_of (by omega)) h2 fun t3 h3 => ?_
  rw [if_neg (by omega)]
  refine good_num (numB_of (by omega)) h3 fun t4 h4 => ?_
  have em : ((f.spans.length : Int) - 1).toNat = f.spans.length - 1 := by omega
  rw [em]
  have hg := good_sp hs (fd := { fzero with kind := k, delay := f.delay }) (f.spans.length - 1) (by omega) t4 (f.spans[f.spans.length - 1]'(by omega)).to_.toNat ((f.spans[f.spans.length - 1]'(by omega)).to_ - (f.spans[f.spans.length - 1]'(by omega)).from_).toNat [] (by omega) (by omega) (by rw [List.drop_eq_nil_of_le (by omega)]; rfl) h4
  rw [toN hd]
  exact hg
/-- the frame with the fields alone that its items name -/
def bareF (f : Fm) : Fm :=
  if f.kind = 0 then { fzero with n := f.n }
  else if f.kind = 2 then { fzero with kind := 2, delay := f.delay, spans := f.spans }
  else if f.kind = 3 then { fzero with kind := 3, delay := f.delay, spans := f.spans, e0 := f.e0, e1 := f.e1, e2 := f.e2 }
  else if f.kind = 4 then { fzero with kind := 4, id := f.id, code := f.code, n := f.n }
  else if f.kind = 5 then { fzero with kind := 5, id := f.id, code := f.code }
  else if f.kind = 6 then { fzero with kind := 6, at_ := f.at_, data := f.data }
  else if f.kind = 7 then { fzero with kind := 7, data := f.data }
  else if f.kind = 8 then { fzero with kind := 8, id := f.id, at_ := f.at_, data := f.data, fin := f.fin }
  else if f.kind = 17 ∨ f.kind = 21 then { fzero with kind := f.kind, id := f.id, n := f.n }
  else if f.kind = 24 then { fzero with kind := 24, n := f.n, at_ := f.at_, cid := f.cid, data := f.data }
  else if f.kind = 26 ∨ f.kind = 27 then { fzero with kind := f.kind, data := f.data }
  else if f.kind = 28 then { fzero with kind := 28, code := f.code, n := f.n, data := f.data }
  else if f.kind = 29 then { fzero with kind := 29, code := f.code, data := f.data }
  else if f.kind = 1 ∨ f.kind = 30 then { fzero with kind := f.kind }
  else { fzero with kind := f.kind, n := f.n }
/-- the known kinds -/
theorem kno_all {k : Int} (h : knoF k = true) : k = 0 ∨ k = 1 ∨ k = 2 ∨ k = 3 ∨ k = 4 ∨ k = 5 ∨ k = 6 ∨ k = 7 ∨ k = 8 ∨ k = 16 ∨ k = 17 ∨ k = 18 ∨ k = 19 ∨ k = 20 ∨ k = 21 ∨ k = 22 ∨ k = 23 ∨ k = 24 ∨ k = 25 ∨ k = 26 ∨ k = 27 ∨ k = 28 ∨ k = 29 ∨ k = 30 := by
  unfold knoF at h
  simp only [Bool.or_eq_true, Bool.and_eq_true, decide_eq_true_eq] at h
  omega
theorem chk_bare {f : Fm} (h : chkF f = 0) : chkF (bareF f) = 0 := by
  obtain ⟨hk, hd, hr⟩ := chk0 h
  have hk' := kno_all hk
  obtain ⟨k, i, t, n, c, fi, dt, ci, sp, dl, e0, e1, e2⟩ := f
  simp only at hk' hd hk
  have fin : ∀ {g : Fm}, knoF g.kind = true → g.data.length ≤ 16384 → rightV g = true → chkF g = 0 := fun {g} a b c => by
    unfold chkF
    rw [a, c, if_neg (by decide), if_neg (by omega), if_neg (by decide)]
  rcases hk' with rfl | rfl | rfl | rfl | rfl | rfl | rfl | rfl | rfl | rfl | rfl | rfl | rfl | rfl | rfl | rfl | rfl | rfl | rfl | rfl | rfl | rfl | rfl | rfl
  all_goals first | exact fin rfl hd hr | exact fin rfl (Nat.zero_le _) hr
theorem strK_nat (t : Int) (fi : Bool) : ∃ k : Nat, (strK t fi).toNat = k ∧ 8 ≤ k ∧ k < 16 ∧ k / 2 % 2 = 1 ∧ (k / 4 % 2 = 1 ↔ 0 < t) ∧ decide (k % 2 = 1) = fi := by
  unfold strK
  by_cases h : 0 < t <;> cases fi <;> simp [h]
theorem good_mk {lb mE : List UInt8} {F f : Fm} {t : Nat} {e0 e1 e2 : Int} (h0 : numB e0 = true) (h1 : numB e1 = true) (h2 : numB e2 = true) (h : Dr lb t (nB [e0, e1, e2] ++ mE)) (hF : { f with e0 := e0, e1 := e1, e2 := e2 } = F) : Good lb F mE (mkV 3 f ⟨lb, t, 0⟩) := by
  simp only [nB_cons, nB_nil, List.append_assoc, List.nil_append] at h
  refine good_num h0 h fun t1 a1 => good_num h1 a1 fun t2 a2 => good_num h2 a2 fun t3 a3 => good_end ?_ a3
  rw [← hF, toN h0, toN h1, toN h2]
  rfl
theorem good_bind {lb m mE : List UInt8} {F G : Fm} {r : Rs} {K : Fm → Vr → Rs} (h : Good lb G m r) (hK : ∀ t', Dr lb t' m → Good lb F mE (K G ⟨lb, t', 0⟩)) : Good lb F mE (bindR r K) := by
  obtain ⟨t', rfl, hd⟩ := h
  unfold bindR
  rw [if_pos rfl]
  exact hK t' hd
/-- the items of a frame that is neither padding nor a stream's -/
theorem good_items {f : Fm} (hc : chkF f = 0) (h0 : f.kind ≠ 0) (h8 : f.kind ≠ 8) {lb mE : List UInt8} {t : Nat} (h : Dr lb t (itmB f ++ mE)) : Good lb (bareF f) mE (itemsV ⟨lb, t, 0⟩ { fzero with kind := f.kind }) := by
  obtain ⟨hk, hd, hr⟩ := chk0 hc
  have hk' := kno_all hk
  clear hc hk
  obtain ⟨k, i, at_, n, c, fi, dt, ci, sp, dl, e0, e1, e2⟩ := f
  simp only at hk' h0 h8 hd
  have all1 : ∀ {x : Int}, [x].all numB = true → numB x = true := fun {x} h => by simpa using h
  have all2 : ∀ {x y : Int}, [x, y].all numB = true → numB x = true ∧ numB y = true := fun {x y} h => by simpa using h
  have all3 : ∀ {x y z : Int}, [x, y, z].all numB = true → numB x = true ∧ numB y = true ∧ numB z = true := fun {x y z} h => by simpa using h
  have nn : ∀ {K : Int}, numB n = true → Dr lb t (nB [n] ++ mE) → Good lb { fzero with kind := K, n := n } mE (nxN ⟨lb, t, 0⟩ fun n V => ⟨0, { ({ fzero with kind := K } : Fm) with n := (n : Int) }, V⟩) := fun {K} hn h => by
    simp only [nB_cons, nB_nil, List.append_assoc, List.nil_append] at h
    exact good_num hn h fun t1 h1 => good_end (by rw [toN hn]) h1
  have n60 : (decide (0 ≤ n) && decide (n ≤ 1152921504606846976)) = true → numB n = true := fun h => by
    simp only [Bool.and_eq_true, decide_eq_true_eq] at h
    exact numB_of (by omega)
  have inn : ∀ {K : Int}, [i, n].all numB = true → Dr lb t (nB [i, n] ++ mE) → Good lb { fzero with kind := K, id := i, n := n } mE (nxN ⟨lb, t, 0⟩ fun i V => nxN V fun n V => ⟨0, { ({ fzero with kind := K } : Fm) with id := (i : Int), n := (n : Int) }, V⟩) := fun {K} hn h => by
    obtain ⟨q1, q2⟩ := all2 hn
    simp only [nB_cons, nB_nil, List.append_assoc, List.nil_append] at h
    exact good_num q1 h fun t1 h1 => good_num q2 h1 fun t2 h2 => good_end (by rw [toN q1, toN q2]) h2
  have d8 : ∀ {K : Int}, dt.length = 8 → Dr lb t (dt ++ mE) → Good lb { fzero with kind := K, data := dt } mE (nxB ⟨lb, t, 0⟩ 8 fun d V => ⟨0, { ({ fzero with kind := K } : Fm) with data := d }, V⟩) := fun {K} hn h => good_byt hn.symm h fun t1 h1 => good_end rfl h1
  rcases hk' with rfl | rfl | rfl | rfl | rfl | rfl | rfl | rfl | rfl | rfl | rfl | rfl | rfl | rfl | rfl | rfl | rfl | rfl | rfl | rfl | rfl | rfl | rfl | rfl
  · exact absurd rfl h0
  · exact good_end rfl h
  · have hr : (rspV sp && numB dl) = true := hr
    simp only [Bool.and_eq_true] at hr
    exact good_ack (f := ⟨2, i, at_, n, c, fi, dt, ci, sp, dl, e0, e1, e2⟩) hr.1 hr.2 h 2
  · have hr : (rspV sp && (numB dl && [e0, e1, e2].all numB)) = true := hr
    rw [Bool.and_eq_true, Bool.and_eq_true] at hr
    obtain ⟨q1, q2, q3⟩ := all3 hr.2.2
    have h : Dr lb t ((ackB ⟨3, i, at_, n, c, fi, dt, ci, sp, dl, e0, e1, e2⟩ ++ nB [e0, e1, e2]) ++ mE) := h
    rw [List.append_assoc] at h
    exact good_bind (good_ack (f := ⟨3, i, at_, n, c, fi, dt, ci, sp, dl, e0, e1, e2⟩) hr.1 hr.2.1 h 3) fun t1 h1 => good_mk q1 q2 q3 h1 rfl
  · have hr : [i, c, n].all numB = true := hr
    obtain ⟨q1, q2, q3⟩ := all3 hr
    have h : Dr lb t (nB [i, c, n] ++ mE) := h
    simp only [nB_cons, nB_nil, List.append_assoc, List.nil_append] at h
    show Good lb _ mE (nxN ⟨lb, t, 0⟩ fun i V => nxN V fun c V => nxN V fun n V => ⟨0, { ({ fzero with kind := 4 } : Fm) with id := (i : Int), code := (c : Int), n := (n : Int) }, V⟩)
    exact good_num q1 h fun t1 h1 => good_num q2 h1 fun t2 h2 => good_num q3 h2 fun t3 h3 => good_end (by rw [toN q1, toN q2, toN q3]; rfl) h3
  · have hr : [i, c].all numB = true := hr
    obtain ⟨q1, q2⟩ := all2 hr
    have h : Dr lb t (nB [i, c] ++ mE) := h
    simp only [nB_cons, nB_nil, List.append_assoc, List.nil_append] at h
    show Good lb _ mE (nxN ⟨lb, t, 0⟩ fun i V => nxN V fun c V => ⟨0, { ({ fzero with kind := 5 } : Fm) with id := (i : Int), code := (c : Int) }, V⟩)
    exact good_num q1 h fun t1 h1 => good_num q2 h1 fun t2 h2 => good_end (by rw [toN q1, toN q2]; rfl) h2
  · have hr : (numB at_ && decide (at_ ≤ 4611686018427387903 - (dt.length : Int))) = true := hr
    simp only [Bool.and_eq_true] at hr
    have q1 := hr.1
    have h : Dr lb t ((nB [at_] ++ (vl dt.length ++ dt)) ++ mE) := h
    simp only [nB_cons, nB_nil, List.append_assoc, List.nil_append] at h
    show Good lb _ mE (nxN ⟨lb, t, 0⟩ fun t V => nxT V fun d V => ⟨0, { ({ fzero with kind := 6 } : Fm) with at_ := (t : Int), data := d }, V⟩)
    exact good_num q1 h fun t1 h1 => good_txt hd h1 fun t2 h2 => good_end (by rw [toN q1]; rfl) h2
  · have h : Dr lb t ((vl dt.length ++ dt) ++ mE) := h
    rw [List.append_assoc] at h
    show Good lb _ mE (nxT ⟨lb, t, 0⟩ fun d V => ⟨0, { ({ fzero with kind := 7 } : Fm) with data := d }, V⟩)
    exact good_txt hd h fun t2 h2 => good_end rfl h2
  · exact absurd rfl h8
  · exact nn (all1 hr) h
  · exact inn hr h
  · exact nn (n60 hr) h
  · exact nn (n60 hr) h
  · exact nn (all1 hr) h
  · exact inn hr h
  · exact nn (n60 hr) h
  · exact nn (n60 hr) h
  · have hr : ([n, at_].all numB && (decide (at_ ≤ n) && (decide (1 ≤ ci.length) && (decide (ci.length ≤ 20) && decide (dt.length = 16))))) = true := hr
    simp only [Bool.and_eq_true, decide_eq_true_eq] at hr
    obtain ⟨hn, _, _, hc2, hd2⟩ := hr
    obtain ⟨q1, q2⟩ := all2 hn
    have h : Dr lb t ((nB [n, at_] ++ ([UInt8.ofNat ci.length] ++ (ci ++ dt))) ++ mE) := h
    simp only [nB_cons, nB_nil, List.append_assoc, List.nil_append] at h
    show Good lb _ mE (nxN ⟨lb, t, 0⟩ fun n V => nxN V fun t V => nxB V 1 fun b V => nxB V (b.headD 0).toNat fun ci V => nxB V 16 fun d V => ⟨0, { ({ fzero with kind := 24 } : Fm) with n := (n : Int), at_ := (t : Int), cid := ci, data := d }, V⟩)
    refine good_num q1 h fun t1 h1 => good_num q2 h1 fun t2 h2 => good_byt (x := [UInt8.ofNat ci.length]) rfl h2 fun t3 h3 => good_byt (x := ci) ?_ h3 fun t4 h4 => good_byt hd2.symm h4 fun t5 h5 => good_end (by rw [toN q1, toN q2]; rfl) h5
    show (UInt8.ofNat ci.length).toNat = ci.length
    rw [UInt8.toNat_ofNat']; omega
  · exact nn (all1 hr) h
  · exact d8 (of_decide_eq_true hr) h
  · exact d8 (of_decide_eq_true hr) h
  · have hr : [c, n].all numB = true := hr
    obtain ⟨q1, q2⟩ := all2 hr
    have h : Dr lb t ((nB [c, n] ++ (vl dt.length ++ dt)) ++ mE) := h
    simp only [nB_cons, nB_nil, List.append_assoc, List.nil_append] at h
    show Good lb _ mE (nxN ⟨lb, t, 0⟩ fun c V => nxN V fun n V => nxT V fun d V => ⟨0, { ({ fzero with kind := 28 } : Fm) with code := (c : Int), n := (n : Int), data := d }, V⟩)
    exact good_num q1 h fun t1 h1 => good_num q2 h1 fun t2 h2 => good_txt hd h2 fun t3 h3 => good_end (by rw [toN q1, toN q2]; rfl) h3
  · have q1 : numB c = true := all1 hr
    have h : Dr lb t ((nB [c] ++ (vl dt.length ++ dt)) ++ mE) := h
    simp only [nB_cons, nB_nil, List.append_assoc, List.nil_append] at h
    show Good lb _ mE (nxN ⟨lb, t, 0⟩ fun c V => nxT V fun d V => ⟨0, { ({ fzero with kind := 29 } : Fm) with code := (c : Int), data := d }, V⟩)
    exact good_num q1 h fun t1 h1 => good_txt hd h1 fun t2 h2 => good_end (by rw [toN q1]; rfl) h2
  · exact good_end rfl h
/-- a stream's frame -/
theorem good_stm {f : Fm} (hc : chkF f = 0) (h8 : f.kind = 8) {lb mE : List UInt8} {t k : Nat} (h7 : k / 2 % 2 = 1) (hk4 : k / 4 % 2 = 1 ↔ 0 < f.at_) (hk1 : decide (k % 2 = 1) = f.fin)
    (h : Dr lb t (vl f.id.toNat ++ ((if 0 < f.at_ then nB [f.at_] else []) ++ (vl f.data.length ++ (f.data ++ mE))))) : Good lb (bareF f) mE (stmV ⟨lb, t, 0⟩ { fzero with kind := 8 } k) := by
  obtain ⟨_, hd, hr⟩ := chk0 hc
  obtain ⟨kk, i, at_, n, c, fi, dt, ci, sp, dl, e0, e1, e2⟩ := f
  simp only at h8 hd hk4 hk1 h
  subst h8
  have hr : ([i, at_].all numB && decide (at_ ≤ 4611686018427387903 - (dt.length : Int))) = true := hr
  simp only [List.all_cons, List.all_nil, Bool.and_true, Bool.and_eq_true, decide_eq_true_eq] at hr
  obtain ⟨⟨q1, q2⟩, _⟩ := hr
  have h3 : ∀ (g : Fm) (t : Nat), Dr lb t (vl dt.length ++ (dt ++ mE)) → { g with data := dt, fin := fi } = bareF ⟨8, i, at_, n, c, fi, dt, ci, sp, dl, e0, e1, e2⟩ → Good lb (bareF ⟨8, i, at_, n, c, fi, dt, ci, sp, dl, e0, e1, e2⟩) mE (stm2 ⟨lb, t, 0⟩ g k) := fun g t h hg => by
    unfold stm2 stm3
    rw [if_pos h7]
    refine good_nat h (by omega) fun t1 h1 => good_byt rfl h1 fun t2 h2 => good_end ?_ h2
    rw [hk1]; exact hg
  unfold stmV
  refine good_num q1 h fun t1 h1 => ?_
  unfold stm1
  by_cases h4 : 0 < at_
  · rw [if_pos h4] at h1
    rw [if_pos (hk4.2 h4)]
    simp only [nB_cons, nB_nil, List.append_assoc, List.nil_append] at h1
    exact good_num q2 h1 fun t2 h2 => h3 _ t2 h2 (by rw [toN q1, toN q2]; rfl)
  · rw [if_neg h4, List.nil_append] at h1
    rw [if_neg (fun h => h4 (hk4.1 h))]
    have e : at_ = 0 := by
      unfold numB at q2
      simp only [Bool.and_eq_true, decide_eq_true_eq] at q2
      omega
    exact h3 _ t1 h1 (by rw [toN q1, e]; rfl)
/-- one frame is read back -/
theorem one_back {f : Fm} (hc : chkF f = 0) (h0 : f.kind ≠ 0) {lb mE : List UInt8} {t : Nat} (h : Dr lb t (encB f ++ mE)) : Good lb (bareF f) mE (oneV ⟨lb, t, 0⟩) := by
  have key : ∀ (k : Nat) (m : List UInt8), k ≤ 30 → Dr lb t (vl k ++ m) → (∀ t', Dr lb t' m → Good lb (bareF f) mE (oneItems k ⟨lb, t', 0⟩)) → Good lb (bareF f) mE (oneV ⟨lb, t, 0⟩) := fun k m hk hd hK => by
    unfold oneV nxN
    rw [hd.num (by omega), if_pos rfl]
    show Good lb (bareF f) mE (oneBody t k ⟨lb, t + (vl k).length, 0⟩)
    unfold oneBody
    rw [if_neg (by show ¬ ¬ t + (vl k).length - t = szN k; rw [vl_length]; omega), if_neg (by omega)]
    obtain ⟨t', e, hd'⟩ := hK _ hd.adv
    refine ⟨t', ?_, hd'⟩
    rw [e]
    unfold one2
    rw [if_pos rfl, if_pos (chk_bare hc)]
  by_cases h8 : f.kind = 8
  · have e : encB f = stmB f := by unfold encB; rw [if_neg h0, if_pos h8]
    rw [e] at h
    unfold stmB at h
    simp only [nB_cons, nB_nil, List.append_assoc, List.nil_append] at h
    obtain ⟨k, hk, k1, k2, k3, k4, k5⟩ := strK_nat f.at_ f.fin
    rw [hk] at h
    refine key k _ (by omega) h fun t1 h1 => ?_
    unfold oneItems
    rw [if_pos ⟨k1, k2⟩]
    exact good_stm hc h8 k3 k4 k5 h1
  · have e : encB f = nB [f.kind] ++ itmB f := by unfold encB; rw [if_neg h0, if_neg h8]
    rw [e] at h
    simp only [nB_cons, nB_nil, List.append_assoc, List.nil_append] at h
    obtain ⟨hk, _, _⟩ := chk0 hc
    have hk' : f.kind.toNat ≤ 30 ∧ ((f.kind.toNat : Nat) : Int) = f.kind ∧ ¬ (8 ≤ f.kind.toNat ∧ f.kind.toNat < 16) ∧ ¬ f.kind.toNat = 0 := by have := kno_all hk; omega
    refine key f.kind.toNat _ hk'.1 h fun t1 h1 => ?_
    unfold oneItems
    rw [if_neg hk'.2.2.1, if_neg hk'.2.2.2, hk'.2.1]
    exact good_items hc h0 h8 h1
/-- a byte of padding -/
theorem one_pad {lb m : List UInt8} {t : Nat} (h : Dr lb t (0 :: m)) : Good lb { fzero with n := 1 } m (oneV ⟨lb, t, 0⟩) := by
  have hv : vl 0 = [0] := by decide
  have hd : Dr lb t (vl 0 ++ m) := by rw [hv]; exact h
  unfold oneV nxN
  rw [hd.num (by decide), if_pos rfl]
  show Good lb _ m (oneBody t 0 ⟨lb, t + (vl 0).length, 0⟩)
  unfold oneBody
  rw [if_neg (by show ¬ ¬ t + (vl 0).length - t = szN 0; rw [vl_length]; omega), if_neg (by omega)]
  exact ⟨_, rfl, hd.adv⟩
end Go.Proofs.Ytppkilkfmclpkaa

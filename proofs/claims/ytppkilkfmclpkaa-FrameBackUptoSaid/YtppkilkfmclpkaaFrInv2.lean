/- What Encode writes is read back, frame by frame and many at once; what was read is right and written anew is read as the same. Plain: no program in sight. -/
import Derived.Test.YtppkilkfmclpkaaFrDec
import Derived.Test.YtppkilkfmclpkaaVnInv
namespace Go.Proofs.Ytppkilkfmclpkaa
open Go.RowKit

/-- from place t on the bytes are m -/
structure Dr (l : List UInt8) (t : Nat) (m : List UInt8) : Prop where
  le : t ≤ l.length
  eq : l.drop t = m
theorem Dr.adv {l : List UInt8} {t : Nat} {x m : List UInt8} (h : Dr l t (x ++ m)) : Dr l (t + x.length) m := by
  have h1 := congrArg List.length h.eq
  rw [List.length_drop, List.length_append] at h1
  have h2 := h.le
  refine ⟨by omega, ?_⟩
  rw [← List.drop_drop, h.eq, List.drop_left]
theorem Dr.num {l : List UInt8} {t k : Nat} {m : List UInt8} (h : Dr l t (vl k ++ m)) (hk : k < 4611686018427387904) : numV ⟨l, t, 0⟩ = (k, ⟨l, t + (vl k).length, 0⟩) := by
  have h1 := getV_vl (l.take t) m hk (l := l) (by rw [← h.eq]; exact (List.take_append_drop t l).symm) (t := t) (by rw [List.length_take]; have := h.le; omega)
  unfold numV
  rw [if_pos rfl]
  simp only [h1, if_true]
theorem Dr.byt {l : List UInt8} {t : Nat} {x m : List UInt8} (h : Dr l t (x ++ m)) : bytV ⟨l, t, 0⟩ x.length = (x, ⟨l, t + x.length, 0⟩) := by
  have h1 := congrArg List.length h.eq
  rw [List.length_drop, List.length_append] at h1
  unfold bytV
  rw [if_pos rfl, if_neg (by show ¬ l.length - t < x.length; omega)]
  show ((l.drop t).take x.length, _) = _
  rw [h.eq, List.take_left]
/-- a frame F is read, m is left -/
def Good (l : List UInt8) (F : Fm) (mE : List UInt8) (r : Rs) : Prop := ∃ t', r = ⟨0, F, ⟨l, t', 0⟩⟩ ∧ Dr l t' mE
section
variable {l mE m x : List UInt8} {F f' : Fm} {t : Nat}
theorem good_end (e : f' = F) (h : Dr l t mE) : Good l F mE ⟨0, f', ⟨l, t, 0⟩⟩ := ⟨t, by rw [e], h⟩
theorem good_nat {k : Nat} {K : Nat → Vr → Rs} (h : Dr l t (vl k ++ m)) (hk : k < 4611686018427387904) (hK : ∀ t', Dr l t' m → Good l F mE (K k ⟨l, t', 0⟩)) : Good l F mE (nxN ⟨l, t, 0⟩ K) := by
  unfold nxN
  rw [h.num hk, if_pos rfl]
  exact hK _ h.adv
theorem numB_lt {x : Int} (h : numB x = true) : x.toNat < 4611686018427387904 ∧ ((x.toNat : Nat) : Int) = x := by
  unfold numB at h
  simp only [Bool.and_eq_true, decide_eq_true_eq] at h
  omega
theorem toN {x : Int} (h : numB x = true) : ((x.toNat : Nat) : Int) = x := (numB_lt h).2
theorem good_num {z : Int} {K : Nat → Vr → Rs} (hz : numB z = true) (h : Dr l t (vl z.toNat ++ m)) (hK : ∀ t', Dr l t' m → Good l F mE (K z.toNat ⟨l, t', 0⟩)) : Good l F mE (nxN ⟨l, t, 0⟩ K) := good_nat h (numB_lt hz).1 hK
theorem good_byt {n : Nat} {K : List UInt8 → Vr → Rs} (hn : n = x.length) (h : Dr l t (x ++ m)) (hK : ∀ t', Dr l t' m → Good l F mE (K x ⟨l, t', 0⟩)) : Good l F mE (nxB ⟨l, t, 0⟩ n K) := by
  subst hn
  unfold nxB
  rw [h.byt, if_pos rfl]
  exact hK _ h.adv
theorem good_txt {K : List UInt8 → Vr → Rs} (hx : x.length ≤ 16384) (h : Dr l t (vl x.length ++ (x ++ m))) (hK : ∀ t', Dr l t' m → Good l F mE (K x ⟨l, t', 0⟩)) : Good l F mE (nxT ⟨l, t, 0⟩ K) := by
  unfold nxT txtV
  rw [h.num (by omega), if_pos rfl, h.adv.byt, if_pos rfl]
  exact hK _ h.adv.adv
end
theorem nB_cons (z : Int) (r : List Int) : nB (z :: r) = vl z.toNat ++ nB r := rfl
theorem nB_nil : nB [] = [] := rfl
/-- gaps and spans below span j -/
def gpd (l : List Sn) : Nat → List UInt8
  | 0 => []
  | j + 1 => gp l j ++ gpd l j
theorem gps_gpd (l : List Sn) : ∀ m, m < l.length → gpd l (l.length - 1) = gps l m ++ gpd l (l.length - 1 - m)
  | 0, _ => by simp [gps]
  | m + 1, h => by
    rw [gps_next, gps_gpd l m (by omega), List.append_assoc]
    congr 1
    rw [show l.length - 1 - m = (l.length - 1 - (m + 1)) + 1 by omega]
    show gp l _ ++ gpd l _ = _
    rw [show l.length - 2 - m = l.length - 1 - (m + 1) by omega]
theorem sn1_of {x : Sn} {h s : Nat} (h1 : (h : Int) = x.to_) (h2 : (s : Int) = x.to_ - x.from_) (h3 : 0 ≤ x.from_) : sn1 h s = x := by
  obtain ⟨a, b⟩ := x
  simp only at h1 h2 h3
  unfold sn1
  simp only [Sn.mk.injEq]
  omega
theorem good_sp {sp : List Sn} (hs : spsOk (-2) sp = true) {lb mE : List UInt8} {fd : Fm} : ∀ (j : Nat) (hj : j < sp.length) (t h s : Nat) (acc : List Sn), (h : Int) = sp[j].to_ → (s : Int) = sp[j].to_ - sp[j].from_ → acc = (sp.drop (j + 1)).reverse → Dr lb t (gpd sp j ++ mE) →
    Good lb { fd with spans := sp } mE (spLoop fd j s h acc ⟨lb, t, 0⟩) := by
  obtain ⟨ha, hb⟩ := spsOk_all sp (-2) (by decide) hs
  intro j
  induction j with
  | zero =>
    intro hj t h s acc h1 h2 h3 hd
    obtain ⟨c1, c2, c3⟩ := ha 0 hj
    rw [spLoop_end (by omega)]
    refine good_end ?_ hd
    rw [sn1_of h1 h2 (by omega), h3]
    have e : sp = sp[0] :: sp.drop 1 := by
      have := List.drop_eq_getElem_cons hj
      simpa using this
    congr 1
    rw [List.reverse_append, List.reverse_reverse]
    exact e.symm
  | succ j ih =>
    intro hj t h s acc h1 h2 h3 hd
    obtain ⟨c1, c2, c3⟩ := ha (j + 1) hj
    obtain ⟨d1, d2, d3⟩ := ha j (by omega)
    have e1 := hb j hj
    rw [spLoop_more (by omega)]
    have hg : gpd sp (j + 1) = nB [sp[j + 1].from_ - sp[j].to_ - 2, sp[j].to_ - sp[j].from_] ++ gpd sp j := by
      show gp sp j ++ gpd sp j = _
      rw [gp_at hj]
    rw [hg] at hd
    simp only [nB_cons, nB_nil, List.append_assoc, List.nil_append] at hd
    refine good_num (numB_of (by omega)) hd fun t1 hd1 => ?_
    rw [if_neg (by omega)]
    refine good_num (numB_of (by omega)) hd1 fun t2 hd2 => ?_
    refine ih (by omega) t2 _ _ _ (by omega) (by omega) ?_ hd2
    rw [sn1_of h1 h2 (by omega), h3, ← List.reverse_cons, ← List.drop_eq_getElem_cons hj]
/-- an ack's first items -/
theorem good_ack {f : Fm} (hs : rspV f.spans = true) (hd : numB f.delay = true) {lb mE : List UInt8} {t : Nat} (h : Dr lb t (ackB f ++ mE)) (k : Int) :
    Good lb { fzero with kind := k, delay := f.delay, spans := f.spans } mE (spsV ⟨lb, t, 0⟩ { fzero with kind := k }) := by
  unfold rspV at hs
  simp only [Bool.and_eq_true, decide_eq_true_eq] at hs
  obtain ⟨hs, hl1, hl2⟩ := hs
  obtain ⟨ha, _⟩ := spsOk_all f.spans (-2) (by decide) hs
  obtain ⟨c1, c2, c3⟩ := ha (f.spans.length - 1) (by omega)
  have hgp := gps_gpd f.spans (f.spans.length - 1) (by omega)
  rw [Nat.sub_self] at hgp
  rw [ackB_at hl1, ← List.append_nil (gps f.spans (f.spans.length - 1)), show ([] : List UInt8) = gpd f.spans 0 from rfl, ← hgp] at h
  simp only [nB_cons, nB_nil, List.append_assoc, List.nil_append] at h
  unfold spsV
  refine good_num (numB_of (by omega)) h fun t1 h1 => good_num hd h1 fun t2 h2 => good_num (numB_of (by omega)) h2 fun t3 h3 => ?_
  rw [if_neg (by omega)]
  refine good_num (numB_of (by omega)) h3 fun t4 h4 => ?_
  have em : ((f.spans.length : Int) - 1).toNat = f.spans.length - 1 := by omega
  rw [em]
  have hg := good_sp hs (fd := { fzero with kind := k, delay := f.delay }) (f.spans.length - 1) (by omega) t4 (f.spans[f.spans.length - 1]'(by omega)).to_.toNat ((f.spans[f.spans.length - 1]'(by omega)).to_ - (f.spans[f.spans.length - 1]'(by omega)).from_).toNat [] (by omega) (by omega) (by rw [List.drop_eq_nil_of_le (by omega)]; rfl) h4
  rw [toN hd]
  exact hg
/-- the frame with the fields alone that its items name -/
def bareF (f : Fm) : Fm :=
  if f.kind = 0 then { fzero with n := f.n }
  else if f.kind = 2 then { fzero with kind := 2, delay := f.delay, spans := f.spans }
  else if f.kind = 3 then { fzero with kind := 3, delay := f.delay, spans := f.spans, e0 := f.e0, e1 := f.e1, e2 := f.e2 }
  else if f.kind = 4 then { fzero with kind := 4, id := f.id, code := f.code, n := f.n }
  else if f.kind = 5 then { fzero with kind := 5, id := f.id, code := f.code }
  else if f.kind = 6 then { fzero with kind := 6, at_ := f.at_, data := f.data }
  else if f.kind = 7 then { fzero with kind := 7, data := f.data }
  else if f.kind = 8 then { fzero with kind := 8, id := f.id, at_ := f.at_, data := f.data, fin := f.fin }
  else if f.kind = 17 ∨ f.kind = 21 then { fzero with kind := f.kind, id := f.id, n := f.n }
  else if f.kind = 24 then { fzero with kind := 24, n := f.n, at_ := f.at_, cid := f.cid, data := f.data }
  else if f.kind = 26 ∨ f.kind = 27 then { fzero with kind := f.kind, data := f.data }
  else if f.kind = 28 then { fzero with kind := 28, code := f.code, n := f.n, data := f.data }
  else if f.kind = 29 then { fzero with kind := 29, code := f.code, data := f.data }
  else if f.kind = 1 ∨ f.kind = 30 then { fzero with kind := f.kind }
  else { fzero with kind := f.kind, n := f.n }
/-- the known kinds -/
theorem kno_all {k : Int} (h : knoF k = true) : k = 0 ∨ k = 1 ∨ k = 2 ∨ k = 3 ∨ k = 4 ∨ k = 5 ∨ k = 6 ∨ k = 7 ∨ k = 8 ∨ k = 16 ∨ k = 17 ∨ k = 18 ∨ k = 19 ∨ k = 20 ∨ k = 21 ∨ k = 22 ∨ k = 23 ∨ k = 24 ∨ k = 25 ∨ k = 26 ∨ k = 27 ∨ k = 28 ∨ k = 29 ∨ k = 30 := by
  unfold knoF at h
  simp only [Bool.or_eq_true, Bool.and_eq_true, decide_eq_true_eq] at h
  omega
theorem chk_bare {f : Fm} (h : chkF f = 0) : chkF (bareF f) = 0 := by
  obtain ⟨hk, hd, hr⟩ := chk0 h
  have hk' := kno_all hk
  obtain ⟨k, i, t, n, c, fi, dt, ci, sp, dl, e0, e1, e2⟩ := f
  simp only at hk' hd hk
  have fin : ∀ {g : Fm}, knoF g.kind = true → g.data.length ≤ 16384 → rightV g = true → chkF g = 0 := fun {g} a b c => by
    unfold chkF
    rw [a, c, if_neg (by decide), if_neg (by omega), if_neg (by decide)]
  rcases hk' with rfl | rfl | rfl | rfl | rfl | rfl | rfl | rfl | rfl | rfl | rfl | rfl | rfl | rfl | rfl | rfl | rfl | rfl | rfl | rfl | rfl | rfl | rfl | rfl
  all_goals first | exact fin rfl hd hr | exact fin rfl (Nat.zero_le _) hr
theorem strK_nat (t : Int) (fi : Bool) : ∃ k : Nat, (strK t fi).toNat = k ∧ 8 ≤ k ∧ k < 16 ∧ k / 2 % 2 = 1 ∧ (k / 4 % 2 = 1 ↔ 0 < t) ∧ decide (k % 2 = 1) = fi := by
  unfold strK
  by_cases h : 0 < t <;> cases fi <;> simp [h]
theorem good_mk {lb mE : List UInt8} {F f : Fm} {t : Nat} {e0 e1 e2 : Int} (h0 : numB e0 = true) (h1 : numB e1 = true) (h2 : numB e2 = true) (h : Dr lb t (nB [e0, e1, e2] ++ mE)) (hF : { f with e0 := e0, e1 := e1, e2 := e2 } = F) : Good lb F mE (mkV 3 f ⟨lb, t, 0⟩) := by
  simp only [nB_cons, nB_nil, List.append_assoc, List.nil_append] at h
  refine good_num h0 h fun t1 a1 => good_num h1 a1 fun t2 a2 => good_num h2 a2 fun t3 a3 => good_end ?_ a3
  rw [← hF, toN h0, toN h1, toN h2]
  rfl
theorem good_bind {lb m mE : List UInt8} {F G : Fm} {r : Rs} {K : Fm → Vr → Rs} (h : Good lb G m r) (hK : ∀ t', Dr lb t' m → Good lb F mE (K G ⟨lb, t', 0⟩)) : Good lb F mE (bindR r K) := by
  obtain ⟨t', rfl, hd⟩ := h
  unfold bindR
  rw [if_pos rfl]
  exact hK t' hd
/-- the items of a frame that is neither padding nor a stream's -/
theorem good_items {f : Fm} (hc : chkF f = 0) (h0 : f.kind ≠ 0) (h8 : f.kind ≠ 8) {lb mE : List UInt8} {t : Nat} (h : Dr lb t (itmB f ++ mE)) : Good lb (bareF f) mE (itemsV ⟨lb, t, 0⟩ { fzero with kind := f.kind }) := by
  obtain ⟨hk, hd, hr⟩ := chk0 hc
  have hk' := kno_all hk
  clear hc hk
  obtain ⟨k, i, at_, n, c, fi, dt, ci, sp, dl, e0, e1, e2⟩ := f
  simp only at hk' h0 h8 hd
  have all1 : ∀ {x : Int}, [x].all numB = true → numB x = true := fun {x} h => by simpa using h
  have all2 : ∀ {x y : Int}, [x, y].all numB = true → numB x = true ∧ numB y = true := fun {x y} h => by simpa using h
  have all3 : ∀ {x y z : Int}, [x, y, z].all numB = true → numB x = true ∧ numB y = true ∧ numB z = true := fun {x y z} h => by simpa using h
  have nn : ∀ {K : Int}, numB n = true → Dr lb t (nB [n] ++ mE) → Good lb { fzero with kind := K, n := n } mE (nxN ⟨lb, t, 0⟩ fun n V => ⟨0, { ({ fzero with kind := K } : Fm) with n := (n : Int) }, V⟩) := fun {K} hn h => by
    simp only [nB_cons, nB_nil, List.append_assoc, List.nil_append] at h
    exact good_num hn h fun t1 h1 => good_end (by rw [toN hn]) h1
  have n60 : (decide (0 ≤ n) && decide (n ≤ 1152921504606846976)) = true → numB n = true := fun h => by
    simp only [Bool.and_eq_true, decide_eq_true_eq] at h
    exact numB_of (by omega)
  have inn : ∀ {K : Int}, [i, n].all numB = true → Dr lb t (nB [i, n] ++ mE) → Good lb { fzero with kind := K, id := i, n := n } mE (nxN ⟨lb, t, 0⟩ fun i V => nxN V fun n V => ⟨0, { ({ fzero with kind := K } : Fm) with id := (i : Int), n := (n : Int) }, V⟩) := fun {K} hn h => by
    obtain ⟨q1, q2⟩ := all2 hn
    simp only [nB_cons, nB_nil, List.append_assoc, List.nil_append] at h
    exact good_num q1 h fun t1 h1 => good_num q2 h1 fun t2 h2 => good_end (by rw [toN q1, toN q2]) h2
  have d8 : ∀ {K : Int}, dt.length = 8 → Dr lb t (dt ++ mE) → Good lb { fzero with kind := K, data := dt } mE (nxB ⟨lb, t, 0⟩ 8 fun d V => ⟨0, { ({ fzero with kind := K } : Fm) with data := d }, V⟩) := fun {K} hn h => good_byt hn.symm h fun t1 h1 => good_end rfl h1
  rcases hk' with rfl | rfl | rfl | rfl | rfl | rfl | rfl | rfl | rfl | rfl | rfl | rfl | rfl | rfl | rfl | rfl | rfl | rfl | rfl | rfl | rfl | rfl | rfl | rfl
  · exact absurd rfl h0
  · exact good_end rfl h
  · have hr : (rspV sp && numB dl) = true := hr
    simp only [Bool.and_eq_true] at hr
    exact good_ack (f := ⟨2, i, at_, n, c, fi, dt, ci, sp, dl, e0, e1, e2⟩) hr.1 hr.2 h 2
  · have hr : (rspV sp && (numB dl && [e0, e1, e2].all numB)) = true := hr
    rw [Bool.and_eq_true, Bool.and_eq_true] at hr
    obtain ⟨q1, q2, q3⟩ := all3 hr.2.2
    have h : Dr lb t ((ackB ⟨3, i, at_, n, c, fi, dt, ci, sp, dl, e0, e1, e2⟩ ++ nB [e0, e1, e2]) ++ mE) := h
    rw [List.append_assoc] at h
    exact good_bind (good_ack (f := ⟨3, i, at_, n, c, fi, dt, ci, sp, dl, e0, e1, e2⟩) hr.1 hr.2.1 h 3) fun t1 h1 => good_mk q1 q2 q3 h1 rfl
  · have hr : [i, c, n].all numB = true := hr
    obtain ⟨q1, q2, q3⟩ := all3 hr
    have h : Dr lb t (nB [i, c, n] ++ mE) := h
    simp only [nB_cons, nB_nil, List.append_assoc, List.nil_append] at h
    show Good lb _ mE (nxN ⟨lb, t, 0⟩ fun i V => nxN V fun c V => nxN V fun n V => ⟨0, { ({ fzero with kind := 4 } : Fm) with id := (i : Int), code := (c : Int), n := (n : Int) }, V⟩)
    exact good_num q1 h fun t1 h1 => good_num q2 h1 fun t2 h2 => good_num q3 h2 fun t3 h3 => good_end (by rw [toN q1, toN q2, toN q3]; rfl) h3
  · have hr : [i, c].all numB = true := hr
    obtain ⟨q1, q2⟩ := all2 hr
    have h : Dr lb t (nB [i, c] ++ mE) := h
    simp only [nB_cons, nB_nil, List.append_assoc, List.nil_append] at h
    show Good lb _ mE (nxN ⟨lb, t, 0⟩ fun i V => nxN V fun c V => ⟨0, { ({ fzero with kind := 5 } : Fm) with id := (i : Int), code := (c : Int) }, V⟩)
    exact good_num q1 h fun t1 h1 => good_num q2 h1 fun t2 h2 => good_end (by rw [toN q1, toN q2]; rfl) h2
  · have hr : (numB at_ && decide (at_ ≤ 4611686018427387903 - (dt.length : Int))) = true := hr
    simp only [Bool.and_eq_true] at hr
    have q1 := hr.1
    have h : Dr lb t ((nB [at_] ++ (vl dt.length ++ dt)) ++ mE) := h
    simp only [nB_cons, nB_nil, List.append_assoc, List.nil_append] at h
    show Good lb _ mE (nxN ⟨lb, t, 0⟩ fun t V => nxT V fun d V => ⟨0, { ({ fzero with kind := 6 } : Fm) with at_ := (t : Int), data := d }, V⟩)
    exact good_num q1 h fun t1 h1 => good_txt hd h1 fun t2 h2 => good_end (by rw [toN q1]; rfl) h2
  · have h : Dr lb t ((vl dt.length ++ dt) ++ mE) := h
    rw [List.append_assoc] at h
    show Good lb _ mE (nxT ⟨lb, t, 0⟩ fun d V => ⟨0, { ({ fzero with kind := 7 } : Fm) with data := d }, V⟩)
    exact good_txt hd h fun t2 h2 => good_end rfl h2
  · exact absurd rfl h8
  · exact nn (all1 hr) h
  · exact inn hr h
  · exact nn (n60 hr) h
  · exact nn (n60 hr) h
  · exact nn (all1 hr) h
  · exact inn hr h
  · exact nn (n60 hr) h
  · exact nn (n60 hr) h
  · have hr : ([n, at_].all numB && (decide (at_ ≤ n) && (decide (1 ≤ ci.length) && (decide (ci.length ≤ 20) && decide (dt.length = 16))))) = true := hr
    simp only [Bool.and_eq_true, decide_eq_true_eq] at hr
    obtain ⟨hn, _, _, hc2, hd2⟩ := hr
    obtain ⟨q1, q2⟩ := all2 hn
    have h : Dr lb t ((nB [n, at_] ++ ([UInt8.ofNat ci.length] ++ (ci ++ dt))) ++ mE) := h
    simp only [nB_cons, nB_nil, List.append_assoc, List.nil_append] at h
    show Good lb _ mE (nxN ⟨lb, t, 0⟩ fun n V => nxN V fun t V => nxB V 1 fun b V => nxB V (b.headD 0).toNat fun ci V => nxB V 16 fun d V => ⟨0, { ({ fzero with kind := 24 } : Fm) with n := (n : Int), at_ := (t : Int), cid := ci, data := d }, V⟩)
    refine good_num q1 h fun t1 h1 => good_num q2 h1 fun t2 h2 => good_byt (x := [UInt8.ofNat ci.length]) rfl h2 fun t3 h3 => good_byt (x := ci) ?_ h3 fun t4 h4 => good_byt hd2.symm h4 fun t5 h5 => good_end (by rw [toN q1, toN q2]; rfl) h5
    show (UInt8.ofNat ci.length).toNat = ci.length
    rw [UInt8.toNat_ofNat']; omega
  · exact nn (all1 hr) h
  · exact d8 (of_decide_eq_true hr) h
  · exact d8 (of_decide_eq_true hr) h
  · have hr : [c, n].all numB = true := hr
    obtain ⟨q1, q2⟩ := all2 hr
    have h : Dr lb t ((nB [c, n] ++ (vl dt.length ++ dt)) ++ mE) := h
    simp only [nB_cons, nB_nil, List.append_assoc, List.nil_append] at h
    show Good lb _ mE (nxN ⟨lb, t, 0⟩ fun c V => nxN V fun n V => nxT V fun d V => ⟨0, { ({ fzero with kind := 28 } : Fm) with code := (c : Int), n := (n : Int), data := d }, V⟩)
    exact good_num q1 h fun t1 h1 => good_num q2 h1 fun t2 h2 => good_txt hd h2 fun t3 h3 => good_end (by rw [toN q1, toN q2]; rfl) h3
  · have q1 : numB c = true := all1 hr
    have h : Dr lb t ((nB [c] ++ (vl dt.length ++ dt)) ++ mE) := h
    simp only [nB_cons, nB_nil, List.append_assoc, List.nil_append] at h
    show Good lb _ mE (nxN ⟨lb, t, 0⟩ fun c V => nxT V fun d V => ⟨0, { ({ fzero with kind := 29 } : Fm) with code := (c : Int), data := d }, V⟩)
    exact good_num q1 h fun t1 h1 => good_txt hd h1 fun t2 h2 => good_end (by rw [toN q1]; rfl) h2
  · exact good_end rfl h
/-- a stream's frame -/
theorem good_stm {f : Fm} (hc : chkF f = 0) (h8 : f.kind = 8) {lb mE : List UInt8} {t k : Nat} (h7 : k / 2 % 2 = 1) (hk4 : k / 4 % 2 = 1 ↔ 0 < f.at_) (hk1 : decide (k % 2 = 1) = f.fin)
    (h : Dr lb t (vl f.id.toNat ++ ((if 0 < f.at_ then nB [f.at_] else []) ++ (vl f.data.length ++ (f.data ++ mE))))) : Good lb (bareF f) mE (stmV ⟨lb, t, 0⟩ { fzero with kind := 8 } k) := by
  obtain ⟨_, hd, hr⟩ := chk0 hc
  obtain ⟨kk, i, at_, n, c, fi, dt, ci, sp, dl, e0, e1, e2⟩ := f
  simp only at h8 hd hk4 hk1 h
  subst h8
  have hr : ([i, at_].all numB && decide (at_ ≤ 4611686018427387903 - (dt.length : Int))) = true := hr
  simp only [List.all_cons, List.all_nil, Bool.and_true, Bool.and_eq_true, decide_eq_true_eq] at hr
  obtain ⟨⟨q1, q2⟩, _⟩ := hr
  have h3 : ∀ (g : Fm) (t : Nat), Dr lb t (vl dt.length ++ (dt ++ mE)) → { g with data := dt, fin := fi } = bareF ⟨8, i, at_, n, c, fi, dt, ci, sp, dl, e0, e1, e2⟩ → Good lb (bareF ⟨8, i, at_, n, c, fi, dt, ci, sp, dl, e0, e1, e2⟩) mE (stm2 ⟨lb, t, 0⟩ g k) := fun g t h hg => by
    unfold stm2 stm3
    rw [if_pos h7]
    refine good_nat h (by omega) fun t1 h1 => good_byt rfl h1 fun t2 h2 => good_end ?_ h2
    rw [hk1]; exact hg
  unfold stmV
  refine good_num q1 h fun t1 h1 => ?_
  unfold stm1
  by_cases h4 : 0 < at_
  · rw [if_pos h4] at h1
    rw [if_pos (hk4.2 h4)]
    simp only [nB_cons, nB_nil, List.append_assoc, List.nil_append] at h1
    exact good_num q2 h1 fun t2 h2 => h3 _ t2 h2 (by rw [toN q1, toN q2]; rfl)
  · rw [if_neg h4, List.nil_append] at h1
    rw [if_neg (fun h => h4 (hk4.1 h))]
    have e : at_ = 0 := by
      unfold numB at q2
      simp only [Bool.and_eq_true, decide_eq_true_eq] at q2
      omega
    exact h3 _ t1 h1 (by rw [toN q1, e]; rfl)
/-- one frame is read back -/
theorem one_back {f : Fm} (hc : chkF f = 0) (h0 : f.kind ≠ 0) {lb mE : List UInt8} {t : Nat} (h : Dr lb t (encB f ++ mE)) : Good lb (bareF f) mE (oneV ⟨lb, t, 0⟩) := by
  have key : ∀ (k : Nat) (m : List UInt8), k ≤ 30 → Dr lb t (vl k ++ m) → (∀ t', Dr lb t' m → Good lb (bareF f) mE (oneItems k ⟨lb, t', 0⟩)) → Good lb (bareF f) mE (oneV ⟨lb, t, 0⟩) := fun k m hk hd hK => by
    unfold oneV nxN
    rw [hd.num (by omega), if_pos rfl]
    show Good lb (bareF f) mE (oneBody t k ⟨lb, t + (vl k).length, 0⟩)
    unfold oneBody
    rw [if_neg (by show ¬ ¬ t + (vl k).length - t = szN k; rw [vl_length]; omega), if_neg (by omega)]
    obtain ⟨t', e, hd'⟩ := hK _ hd.adv
    refine ⟨t', ?_, hd'⟩
    rw [e]
    unfold one2
    rw [if_pos rfl, if_pos (chk_bare hc)]
  by_cases h8 : f.kind = 8
  · have e : encB f = stmB f := by unfold encB; rw [if_neg h0, if_pos h8]
    rw [e] at h
    unfold stmB at h
    simp only [nB_cons, nB_nil, List.append_assoc, List.nil_append] at h
    obtain ⟨k, hk, k1, k2, k3, k4, k5⟩ := strK_nat f.at_ f.fin
    rw [hk] at h
    refine key k _ (by omega) h fun t1 h1 => ?_
    unfold oneItems
    rw [if_pos ⟨k1, k2⟩]
    exact good_stm hc h8 k3 k4 k5 h1
  · have e : encB f = nB [f.kind] ++ itmB f := by unfold encB; rw [if_neg h0, if_neg h8]
    rw [e] at h
    simp only [nB_cons, nB_nil, List.append_assoc, List.nil_append] at h
    obtain ⟨hk, _, _⟩ := chk0 hc
    have hk' : f.kind.toNat ≤ 30 ∧ ((f.kind.toNat : Nat) : Int) = f.kind ∧ ¬ (8 ≤ f.kind.toNat ∧ f.kind.toNat < 16) ∧ ¬ f.kind.toNat = 0 := by have := kno_all hk; omega
    refine key f.kind.toNat _ hk'.1 h fun t1 h1 => ?_
    unfold oneItems
    rw [if_neg hk'.2.2.1, if_neg hk'.2.2.2, hk'.2.1]
    exact good_items hc h0 h8 h1
/-- a byte of padding -/
theorem one_pad {lb m : List UInt8} {t : Nat} (h : Dr lb t (0 :: m)) : Good lb { fzero with n := 1 } m (oneV ⟨lb, t, 0⟩) := by
  have hv : vl 0 = [0] := by decide
  have hd : Dr lb t (vl 0 ++ m) := by rw [hv]; exact h
  unfold oneV nxN
  rw [hd.num (by decide), if_pos rfl]
  show Good lb _ m (oneBody t 0 ⟨lb, t + (vl 0).length, 0⟩)
  unfold oneBody
  rw [if_neg (by show ¬ ¬ t + (vl 0).length - t = szN 0; rw [vl_length]; omega), if_neg (by omega)]
  exact ⟨_, rfl, hd.adv⟩
end Go.Proofs.Ytppkilkfmclpkaa

namespace Go.Proofs.Ytppkilkfmclpkaa
open Go.RowKit

/-- frames told one behind the other: padding goes into padding -/
def stepB (acc : List Fm) (f : Fm) : List Fm :=
  if f.kind = 0 then (match acc.getLast? with | some p => if p.kind = 0 then acc.dropLast ++ [{ p with n := p.n + f.n }] else acc ++ [bareF f] | none => acc ++ [bareF f]) else acc ++ [bareF f]
theorem stepB_new {acc : List Fm} {f : Fm} (h : ¬ (f.kind = 0 ∧ ∃ l p, acc = l ++ [p] ∧ p.kind = 0)) : stepB acc f = acc ++ [bareF f] := by
  unfold stepB
  by_cases hk : f.kind = 0
  · rw [if_pos hk]
    cases hl : acc.getLast? with
    | none => rfl
    | some p =>
      simp only
      obtain ⟨l, rfl⟩ := List.getLast?_eq_some_iff.1 hl
      rw [if_neg (fun hp => h ⟨hk, l, p, rfl, hp⟩)]
  · rw [if_neg hk]
theorem stepB_old {l : List Fm} {p f : Fm} (hk : f.kind = 0) (hp : p.kind = 0) : stepB (l ++ [p]) f = l ++ [{ p with n := p.n + f.n }] := by
  unfold stepB
  rw [if_pos hk]
  simp [hp]
/-- k bytes of padding -/
def pushN : Nat → List Fm → List Fm
  | 0, acc => acc
  | k + 1, acc => pushN k (push acc { fzero with n := 1 })
theorem pushN_old : ∀ (k : Nat) (l : List Fm) (p : Fm), p.kind = 0 → pushN k (l ++ [p]) = l ++ [{ p with n := p.n + (k : Int) }]
  | 0, l, p, _ => by
    show l ++ [p] = _
    congr 2
    simp
  | k + 1, l, p, hp => by
    show pushN k (push (l ++ [p]) _) = _
    rw [push_old rfl hp]
    refine (pushN_old k l { p with n := p.n + 1 } hp).trans ?_
    congr 2
    simp only [Fm.mk.injEq, true_and, and_true]
    push_cast
    omega
theorem bare_pad {f : Fm} (h : f.kind = 0) : bareF f = { fzero with n := f.n } := by unfold bareF; rw [if_pos h]
theorem pushN_step {k : Nat} {acc : List Fm} {f : Fm} (hf : f.kind = 0) (hk : 1 ≤ k) (hn : f.n = (k : Int)) : pushN k acc = stepB acc f := by
  obtain ⟨k, rfl⟩ : ∃ j, k = j + 1 := ⟨k - 1, by omega⟩
  by_cases h : ∃ l p, acc = l ++ [p] ∧ p.kind = 0
  · obtain ⟨l, p, rfl, hp⟩ := h
    rw [pushN_old _ l p hp, stepB_old hf hp, hn]
  · show pushN k (push acc _) = _
    rw [push_new (fun hh => h hh.2), stepB_new (fun hh => h hh.2), pushN_old k acc _ rfl, bare_pad hf, hn]
    congr 2
    simp only [Fm.mk.injEq, true_and, and_true]
    push_cast
    omega
section
variable {lb : List UInt8} {N : Nat}
theorem decL_one {F : Fm} {m : List UInt8} {t : Nat} {acc : List Fm} (h : Good lb F m (oneV ⟨lb, t, 0⟩)) (ht : t ≤ lb.length) (hN : lb.length - t ≤ N) : ∃ t', Dr lb t' m ∧ t < t' ∧ decL N ⟨lb, t, 0⟩ acc = decL N ⟨lb, t', 0⟩ (push acc F) := by
  obtain ⟨t', e, hd⟩ := h
  obtain ⟨_, h2⟩ := oneV_adv ⟨lb, t, 0⟩
  rw [e] at h2
  have hlt : t < t' := (h2 rfl).1
  have hle := hd.le
  refine ⟨t', hd, hlt, ?_⟩
  have h3 := decL_go (n := N) (V := ⟨lb, t, 0⟩) (acc := acc) rfl hN (by rw [leftV_ok rfl]; show ¬ lb.length - t = 0; omega) (by rw [e])
  rw [e] at h3
  exact h3
theorem decL_pads : ∀ (k : Nat) (t : Nat) (acc : List Fm) (m : List UInt8), Dr lb t (List.replicate k 0 ++ m) → lb.length - t ≤ N → ∃ t', Dr lb t' m ∧ t ≤ t' ∧ decL N ⟨lb, t, 0⟩ acc = decL N ⟨lb, t', 0⟩ (pushN k acc)
  | 0, t, acc, m, h, _ => ⟨t, by simpa using h, Nat.le_refl _, rfl⟩
  | k + 1, t, acc, m, h, hN => by
    rw [List.replicate_succ, List.cons_append] at h
    obtain ⟨t1, h1, l1, e1⟩ := decL_one (acc := acc) (one_pad h) h.le hN
    obtain ⟨t2, h2, l2, e2⟩ := decL_pads k t1 (push acc { fzero with n := 1 }) m h1 (by omega)
    exact ⟨t2, h2, by omega, by rw [e1, e2]; rfl⟩
theorem bare_kind (f : Fm) (h : knoF f.kind = true) : (bareF f).kind = f.kind := by
  have hk := kno_all h
  obtain ⟨k, i, t, n, c, fi, dt, ci, sp, dl, e0, e1, e2⟩ := f
  simp only at hk
  rcases hk with rfl | rfl | rfl | rfl | rfl | rfl | rfl | rfl | rfl | rfl | rfl | rfl | rfl | rfl | rfl | rfl | rfl | rfl | rfl | rfl | rfl | rfl | rfl | rfl <;> rfl
theorem decL_step {f : Fm} (hc : chkF f = 0) {t : Nat} {acc : List Fm} {m : List UInt8} (h : Dr lb t (encB f ++ m)) (hN : lb.length - t ≤ N) : ∃ t', Dr lb t' m ∧ t ≤ t' ∧ decL N ⟨lb, t, 0⟩ acc = decL N ⟨lb, t', 0⟩ (stepB acc f) := by
  by_cases h0 : f.kind = 0
  · have hp := chk_pad hc h0
    have e : encB f = List.replicate f.n.toNat 0 := by unfold encB; rw [if_pos h0]
    rw [e] at h
    obtain ⟨t', h1, l1, e1⟩ := decL_pads f.n.toNat t acc m h hN
    exact ⟨t', h1, l1, by rw [e1, pushN_step h0 (k := f.n.toNat) (by omega) (by omega)]⟩
  · obtain ⟨t', h1, l1, e1⟩ := decL_one (acc := acc) (one_back hc h0 h) h.le hN
    obtain ⟨hk, _, _⟩ := chk0 hc
    exact ⟨t', h1, by omega, by rw [e1, push_new (fun hh => h0 ((bare_kind f hk) ▸ hh.1)), stepB_new (fun hh => h0 hh.1)]⟩
theorem decL_all : ∀ (fs : List Fm) (t : Nat) (acc : List Fm), (∀ f ∈ fs, chkF f = 0) → Dr lb t (fs.flatMap encB) → lb.length - t ≤ N → decL N ⟨lb, t, 0⟩ acc = (fs.foldl stepB acc, 0, 0)
  | [], t, acc, _, h, _ => by
    refine decL_end ?_
    rw [leftV_ok rfl]
    have h1 := congrArg List.length h.eq
    simp at h1
    show lb.length - t = 0
    omega
  | f :: fs, t, acc, hc, h, hN => by
    obtain ⟨t', h1, l1, e1⟩ := decL_step (acc := acc) (hc f List.mem_cons_self) (by simpa using h) hN
    rw [e1, decL_all fs t' _ (fun g hg => hc g (List.mem_cons_of_mem _ hg)) h1 (by omega)]
    rfl
end
/-- frames that are right, one behind the other -/
theorem decV_back (fs : List Fm) (hc : ∀ f ∈ fs, chkF f = 0) (h1 : ¬ 16384 < (fs.flatMap encB).length) (h0 : ¬ (fs.flatMap encB).length = 0) : decV (fs.flatMap encB) = (fs.foldl stepB [], 0, 0) := by
  unfold decV
  rw [if_neg h1, if_neg h0]
  exact decL_all fs 0 [] hc ⟨Nat.zero_le _, rfl⟩ (Nat.le_refl _)
/-- what one frame's reading tells has the fields of its items alone -/
def Lf (f : Fm) : Prop := bareF f = f ∧ (f.kind = 0 → f.n = 1)
def Pr (L : Fm → Prop) (r : Rs) : Prop := r.err = 0 → L r.f
section
variable {L : Fm → Prop}
theorem pr_bad {x : Int} {f : Fm} {V : Vr} (h : x ≠ 0) : Pr L ⟨x, f, V⟩ := fun h0 => absurd h0 h
theorem pr_nxN {V : Vr} {k : Nat → Vr → Rs} (h : ∀ n V', Pr L (k n V')) : Pr L (nxN V k) := by
  unfold nxN
  split
  · exact h _ _
  · exact pr_bad (by decide)
theorem pr_nxB {V : Vr} {m : Nat} {k : List UInt8 → Vr → Rs} (h : ∀ n V', Pr L (k n V')) : Pr L (nxB V m k) := by
  unfold nxB
  split
  · exact h _ _
  · exact pr_bad (by decide)
theorem pr_nxT {V : Vr} {k : List UInt8 → Vr → Rs} (h : ∀ n V', Pr L (k n V')) : Pr L (nxT V k) := by
  unfold nxT
  split
  · exact h _ _
  · exact pr_bad (by decide)
theorem pr_ite {c : Prop} [Decidable c] {r1 r2 : Rs} (h1 : c → Pr L r1) (h2 : ¬ c → Pr L r2) : Pr L (if c then r1 else r2) := by
  by_cases h : c
  · rw [if_pos h]; exact h1 h
  · rw [if_neg h]; exact h2 h
theorem pr_spLoop {fd : Fm} (h : ∀ sp, L { fd with spans := sp }) : ∀ (m s t : Nat) (acc : List Sn) (V : Vr), Pr L (spLoop fd m s t acc V) := by
  intro m
  induction m with
  | zero =>
    intro s t acc V
    by_cases h0 : t < s
    · rw [spLoop_bad h0]; exact pr_bad (by decide)
    · rw [spLoop_end h0]; exact fun _ => h _
  | succ m ih =>
    intro s t acc V
    by_cases h0 : t < s
    · rw [spLoop_bad h0]; exact pr_bad (by decide)
    · rw [spLoop_more h0]
      exact pr_nxN fun gap V' => pr_ite (fun _ => pr_bad (by decide)) (fun _ => pr_nxN fun s2 V2 => ih _ _ _ _)
theorem pr_sps {f : Fm} (h : ∀ (d : Nat) sp, L { f with delay := (d : Int), spans := sp }) (V : Vr) : Pr L (spsV V f) := by
  unfold spsV
  exact pr_nxN fun h1 V1 => pr_nxN fun d V2 => pr_nxN fun m V3 => pr_ite (fun _ => pr_bad (by decide)) (fun _ => pr_nxN fun s V4 => pr_spLoop (fun sp => h d sp) _ _ _ _ _)
end
/-- an ack with marks: the frame's other fields -/
def Ak3 (f : Fm) : Prop := f = { fzero with kind := 3, delay := f.delay, spans := f.spans, e0 := f.e0, e1 := f.e1, e2 := f.e2 }
theorem lf {f : Fm} (h : bareF f = f) (h0 : f.kind ≠ 0) : Lf f := ⟨h, fun h => absurd h h0⟩
theorem pr_items {K : Int} (hk : 0 ≤ K ∧ K ≤ 30 ∧ K ≠ 0 ∧ ¬ (8 ≤ K ∧ K < 16)) (V : Vr) : Pr Lf (itemsV V { fzero with kind := K }) := by
  unfold itemsV
  refine pr_ite (fun h => ?_) (fun h2 => ?_)
  · have h : K = 2 := h
    subst h
    exact pr_sps (fun d sp => lf rfl (by show ¬ (2 : Int) = 0; decide)) V
  refine pr_ite (fun h => ?_) (fun h3 => ?_)
  · have h : K = 3 := h
    subst h
    unfold bindR
    refine pr_ite (fun h0 => ?_) (fun h0 h => absurd h h0)
    have hf := pr_sps (L := Ak3) (f := { fzero with kind := 3 }) (fun d sp => rfl) V h0
    refine pr_nxN fun x V1 => pr_nxN fun y V2 => pr_nxN fun z V3 => fun _ => ?_
    rw [hf]
    exact lf rfl (by show ¬ (3 : Int) = 0; decide)
  refine pr_ite (fun h => ?_) (fun h4 => ?_)
  · have h : K = 4 := h
    subst h
    exact pr_nxN fun _ _ => pr_nxN fun _ _ => pr_nxN fun _ _ _ => lf rfl (by show ¬ (4 : Int) = 0; decide)
  refine pr_ite (fun h => ?_) (fun h5 => ?_)
  · have h : K = 5 := h
    subst h
    exact pr_nxN fun _ _ => pr_nxN fun _ _ _ => lf rfl (by show ¬ (5 : Int) = 0; decide)
  refine pr_ite (fun h => ?_) (fun h6 => ?_)
  · have h : K = 6 := h
    subst h
    exact pr_nxN fun _ _ => pr_nxT fun _ _ _ => lf rfl (by show ¬ (6 : Int) = 0; decide)
  refine pr_ite (fun h => ?_) (fun h7 => ?_)
  · have h : K = 7 := h
    subst h
    exact pr_nxT fun _ _ _ => lf rfl (by show ¬ (7 : Int) = 0; decide)
  refine pr_ite (fun h => ?_) (fun h17 => ?_)
  · have h : K = 17 ∨ K = 21 := h
    rcases h with rfl | rfl
    · exact pr_nxN fun _ _ => pr_nxN fun _ _ _ => lf rfl (by show ¬ (17 : Int) = 0; decide)
    · exact pr_nxN fun _ _ => pr_nxN fun _ _ _ => lf rfl (by show ¬ (21 : Int) = 0; decide)
  refine pr_ite (fun h => ?_) (fun h24 => ?_)
  · have h : K = 24 := h
    subst h
    exact pr_nxN fun _ _ => pr_nxN fun _ _ => pr_nxB fun _ _ => pr_nxB fun _ _ => pr_nxB fun _ _ _ => lf rfl (by show ¬ (24 : Int) = 0; decide)
  refine pr_ite (fun h => ?_) (fun h26 => ?_)
  · have h : K = 26 ∨ K = 27 := h
    rcases h with rfl | rfl
    · exact pr_nxB fun _ _ _ => lf rfl (by show ¬ (26 : Int) = 0; decide)
    · exact pr_nxB fun _ _ _ => lf rfl (by show ¬ (27 : Int) = 0; decide)
  refine pr_ite (fun h => ?_) (fun h28 => ?_)
  · have h : K = 28 := h
    subst h
    exact pr_nxN fun _ _ => pr_nxN fun _ _ => pr_nxT fun _ _ _ => lf rfl (by show ¬ (28 : Int) = 0; decide)
  refine pr_ite (fun h => ?_) (fun h29 => ?_)
  · have h : K = 29 := h
    subst h
    exact pr_nxN fun _ _ => pr_nxT fun _ _ _ => lf rfl (by show ¬ (29 : Int) = 0; decide)
  refine pr_ite (fun h => ?_) (fun h1 => ?_)
  · have h : K = 1 ∨ K = 30 := h
    rcases h with rfl | rfl
    · exact fun _ => lf rfl (by show ¬ (1 : Int) = 0; decide)
    · exact fun _ => lf rfl (by show ¬ (30 : Int) = 0; decide)
  refine pr_nxN fun n V' _ => lf ?_ hk.2.2.1
  have hc : K = 16 ∨ K = 18 ∨ K = 19 ∨ K = 20 ∨ K = 22 ∨ K = 23 ∨ K = 25 := by
    simp only at h2 h3 h4 h5 h6 h7 h17 h24 h26 h28 h29 h1
    omega
  rcases hc with rfl | rfl | rfl | rfl | rfl | rfl | rfl <;> rfl
theorem pr_oneItems (k : Nat) (hk : ¬ 30 < k) (V : Vr) : Pr Lf (oneItems k V) := by
  unfold oneItems
  refine pr_ite (fun h8 => ?_) (fun h8 => pr_ite (fun _ _ => ⟨rfl, fun _ => rfl⟩) (fun h0 => pr_items (by omega) V))
  have l8 : ∀ (f : Fm) (d : List UInt8) (fi : Bool), f = { fzero with kind := 8, id := f.id, at_ := f.at_ } → Lf { f with data := d, fin := fi } := fun f d fi hf => by
    rw [hf]; exact lf rfl (by show ¬ (8 : Int) = 0; decide)
  have h3 : ∀ (f : Fm) (V : Vr), f = { fzero with kind := 8, id := f.id, at_ := f.at_ } → Pr Lf (stm2 V f k) := fun f V hf => by
    unfold stm2 stm3
    exact pr_ite (fun _ => pr_nxN fun n V => pr_nxB fun d V _ => l8 f d _ hf) (fun _ => pr_nxB fun d V _ => l8 f d _ hf)
  unfold stmV
  refine pr_nxN fun i V => ?_
  unfold stm1
  exact pr_ite (fun _ => pr_nxN fun t V => h3 _ _ rfl) (fun _ => h3 _ _ rfl)
theorem pr_one (V : Vr) : Pr Lf (oneV V) := by
  unfold oneV
  refine pr_nxN fun k V' => ?_
  unfold oneBody
  split
  · exact pr_bad (by decide)
  · split
    · exact pr_bad (by decide)
    · rename_i h
      unfold one2
      split
      · split
        · exact pr_oneItems k h V'
        · exact pr_bad (by decide)
      · exact pr_oneItems k h V'
/-- frames as they are told: bare, no padding behind padding -/
def Tld (acc : List Fm) : Prop := ∀ l p r, acc = l ++ p :: r → bareF p = p ∧ (p.kind = 0 → ∀ l' q, l = l' ++ [q] → q.kind ≠ 0)
theorem Tld.fold {acc : List Fm} (h : Tld acc) : ∀ (r l : List Fm), acc = l ++ r → r.foldl stepB l = l ++ r
  | [], l, _ => by simp
  | p :: r, l, e => by
    obtain ⟨h1, h2⟩ := h l p r e
    show r.foldl stepB (stepB l p) = _
    rw [stepB_new (fun ⟨hp, l', q, hl, hq⟩ => h2 hp l' q hl hq), h1, Tld.fold h r (l ++ [p]) (by simpa using e)]
    simp
theorem Tld.nil : Tld [] := fun l p r h => by simp at h
theorem Tld.snoc {acc : List Fm} {f : Fm} (h : Tld acc) (hf : bareF f = f) (hk : f.kind = 0 → ∀ l' q, acc = l' ++ [q] → q.kind ≠ 0) : Tld (acc ++ [f]) := by
  intro l p r e
  rcases List.eq_nil_or_concat r with rfl | ⟨r', x, hr⟩
  · obtain ⟨e1, e2⟩ := List.append_inj' e rfl
    simp only [List.cons.injEq, and_true] at e2
    subst e1 e2
    exact ⟨hf, hk⟩
  · rw [hr] at e
    have e' : acc ++ [f] = (l ++ p :: r') ++ [x] := by rw [e]; simp
    obtain ⟨e1, _⟩ := List.append_inj' e' rfl
    exact h l p r' e1
theorem Tld.last {l : List Fm} {p p' : Fm} (h : Tld (l ++ [p])) (hk : p.kind = 0) (hb : bareF p' = p') : Tld (l ++ [p']) := by
  have h1 := h l p [] rfl
  refine Tld.snoc (fun l1 q r e => ?_) hb (fun _ l' q hl => h1.2 hk l' q hl)
  exact h l1 q (r ++ [p]) (by rw [e]; simp)
/-- a told frame is right -/
def Rgt (k : Nat) (f : Fm) : Prop := if f.kind = 0 then f.data = [] ∧ 1 ≤ f.n ∧ f.n ≤ (k : Int) else chkF f = 0
theorem Rgt.mono {k k' : Nat} {f : Fm} (h : Rgt k f) (hk : k ≤ k') : Rgt k' f := by
  unfold Rgt at h ⊢
  split
  · rename_i h0; rw [if_pos h0] at h; exact ⟨h.1, h.2.1, by omega⟩
  · rename_i h0; rw [if_neg h0] at h; exact h
theorem Rgt.chk {k : Nat} {f : Fm} (h : Rgt k f) (hk : k ≤ 16384) : chkF f = 0 := by
  unfold Rgt at h
  by_cases h0 : f.kind = 0
  · rw [if_pos h0] at h
    unfold chkF
    rw [if_neg (by rw [h0]; decide), if_neg (by rw [h.1]; decide), if_neg]
    unfold rightV
    rw [if_pos h0]
    simp
    omega
  · rw [if_neg h0] at h; exact h
theorem push_told {acc : List Fm} {f : Fm} {k : Nat} (ht : Tld acc) (hr : ∀ g ∈ acc, Rgt k g) (hf : Lf f) (hc : chkF f = 0) : Tld (push acc f) ∧ ∀ g ∈ push acc f, Rgt (k + 1) g := by
  by_cases h : f.kind = 0 ∧ ∃ l p, acc = l ++ [p] ∧ p.kind = 0
  · obtain ⟨hk, l, p, rfl, hp⟩ := h
    rw [push_old hk hp]
    have hb : bareF p = p := (ht l p [] rfl).1
    refine ⟨ht.last hp ?_, fun g hg => ?_⟩
    · rw [bare_pad (show ({ p with n := p.n + 1 } : Fm).kind = 0 from hp)]
      rw [bare_pad hp] at hb
      rw [← hb]
    · rcases List.mem_append.1 hg with hg | hg
      · exact (hr g (List.mem_append_left _ hg)).mono (Nat.le_succ _)
      · rw [List.mem_singleton.1 hg]
        have h1 := hr p (List.mem_append_right _ (List.mem_singleton.2 rfl))
        unfold Rgt at h1 ⊢
        rw [if_pos hp] at h1
        rw [if_pos (show ({ p with n := p.n + 1 } : Fm).kind = 0 from hp)]
        refine ⟨h1.1, ?_, ?_⟩
        · show 1 ≤ p.n + 1; omega
        · show p.n + 1 ≤ ((k + 1 : Nat) : Int); omega
  · rw [push_new h]
    refine ⟨ht.snoc hf.1 (fun hk l' q hl hq => h ⟨hk, l', q, hl, hq⟩), fun g hg => ?_⟩
    rcases List.mem_append.1 hg with hg | hg
    · exact (hr g hg).mono (Nat.le_succ _)
    · rw [List.mem_singleton.1 hg]
      unfold Rgt
      split
      · rename_i h0
        have hb := hf.1
        rw [bare_pad h0] at hb
        have h1 := hf.2 h0
        refine ⟨by rw [← hb]; rfl, by omega, by omega⟩
      · exact hc
theorem decL_told : ∀ (n : Nat) (V : Vr) (acc : List Fm) (k : Nat), V.fault = 0 → Tld acc → (∀ g ∈ acc, Rgt k g) → (decL n V acc).2.2 = 0 → Tld (decL n V acc).1 ∧ ∀ g ∈ (decL n V acc).1, Rgt (k + n) g
  | 0, V, acc, k, _, ht, hr, _ => ⟨ht, hr⟩
  | n + 1, V, acc, k, hV, ht, hr, h => by
    simp only [decL] at h ⊢
    split
    · exact ⟨ht, fun g hg => (hr g hg).mono (by omega)⟩
    · rename_i h0
      rw [if_neg h0] at h
      split
      · rename_i h1
        rw [if_pos h1] at h
        obtain ⟨q1, q2⟩ := push_told ht hr (pr_one V h1) (one_chk h1)
        obtain ⟨a, b⟩ := decL_told n _ _ (k + 1) ((oneV_adv V).2 h1).2 q1 q2 h
        exact ⟨a, fun g hg => by have := b g hg; rwa [show k + (n + 1) = k + 1 + n by omega]⟩
      · rename_i h1
        rw [if_neg h1] at h
        exact absurd h h1
theorem Tld.bare {acc : List Fm} (h : Tld acc) : ∀ f ∈ acc, bareF f = f := fun f hf => by
  obtain ⟨l, r, e⟩ := List.append_of_mem hf
  exact (h l f r e).1
/-- what was read is right, and bare -/
theorem decV_told {l : List UInt8} (h : (decV l).2.2 = 0) : (∀ f ∈ (decV l).1, chkF f = 0 ∧ bareF f = f) ∧ (decV l).1.foldl stepB [] = (decV l).1 := by
  unfold decV at h ⊢
  split
  · rename_i h1; rw [if_pos h1] at h; cases h
  · rename_i h1
    rw [if_neg h1] at h
    split
    · rename_i h2; rw [if_pos h2] at h; cases h
    · rename_i h2
      rw [if_neg h2] at h
      obtain ⟨a, b⟩ := decL_told l.length ⟨l, 0, 0⟩ [] 0 rfl Tld.nil (fun g hg => by cases hg) h
      exact ⟨fun f hf => ⟨(b f hf).chk (by omega), a.bare f hf⟩, by simpa using a.fold _ [] rfl⟩
theorem decL_err : ∀ (n : Nat) (V : Vr) (acc : List Fm), V.fault = 0 → (decL n V acc).2.2 ≠ 0 → (decL n V acc).1 = [] ∧ (decL n V acc).2.1 ≤ V.l.length
  | 0, V, acc, _, h => absurd rfl h
  | n + 1, V, acc, hV, h => by
    simp only [decL] at h ⊢
    split
    · rename_i h0; rw [if_pos h0] at h; exact absurd rfl h
    · rename_i h0
      rw [if_neg h0] at h
      split
      · rename_i h1
        rw [if_pos h1] at h
        have h2 := decL_err n _ _ ((oneV_adv V).2 h1).2 h
        rw [(oneV_adv V).1] at h2
        exact h2
      · rw [leftV_ok hV] at h0
        exact ⟨rfl, by show V.at_ ≤ V.l.length; omega⟩
theorem decV_err {l : List UInt8} (h : (decV l).2.2 ≠ 0) : (decV l).1 = [] ∧ (decV l).2.1 ≤ l.length := by
  unfold decV at h ⊢
  split
  · exact ⟨rfl, Nat.zero_le _⟩
  · rename_i h1
    rw [if_neg h1] at h
    split
    · exact ⟨rfl, Nat.zero_le _⟩
    · rename_i h2
      rw [if_neg h2] at h
      exact decL_err l.length ⟨l, 0, 0⟩ [] rfl h
theorem encB_pos {f : Fm} (h : chkF f = 0) : 1 ≤ (encB f).length := by
  unfold encB
  split
  · rename_i h0
    have := chk_pad h h0
    rw [List.length_replicate]; omega
  · split
    · unfold stmB
      simp only [nB_cons, List.length_append, vl_length]
      have := (szN_pos (strK f.at_ f.fin).toNat).1
      omega
    · simp only [nB_cons, List.length_append, vl_length]
      have := (szN_pos f.kind.toNat).1
      omega
theorem flat_pos {fs : List Fm} (h : ∀ f ∈ fs, chkF f = 0) (h0 : fs ≠ []) : ¬ (fs.flatMap encB).length = 0 := by
  cases fs with
  | nil => exact absurd rfl h0
  | cons f r =>
    have := encB_pos (h f List.mem_cons_self)
    simp only [List.flatMap_cons, List.length_append]
    omega
theorem told_sz {f : Fm} (hc : chkF f = 0) (hb : bareF f = f) : FSz f := by
  obtain ⟨hk, hd, hr⟩ := chk0 hc
  have hk' := kno_all hk
  have hsp : ∀ {l : List Sn}, rspV l = true → l.length * 16 ≤ 140737488351232 := fun {l} h => by
    unfold rspV at h
    simp only [Bool.and_eq_true, decide_eq_true_eq] at h
    omega
  have hd' : f.data.length ≤ 140737488351232 := by omega
  refine ⟨hd', ?_, ?_⟩
  · obtain ⟨k, i, t, n, c, fi, dt, ci, sp, dl, e0, e1, e2⟩ := f
    simp only at hk'
    rcases hk' with rfl | rfl | rfl | rfl | rfl | rfl | rfl | rfl | rfl | rfl | rfl | rfl | rfl | rfl | rfl | rfl | rfl | rfl | rfl | rfl | rfl | rfl | rfl | rfl
    all_goals first | (have e := congrArg Fm.cid hb; have e : [] = ci := e; rw [← e]; exact Nat.zero_le _) | skip
    have hr : ([n, t].all numB && (decide (t ≤ n) && (decide (1 ≤ ci.length) && (decide (ci.length ≤ 20) && decide (dt.length = 16))))) = true := hr
    simp only [Bool.and_eq_true, decide_eq_true_eq] at hr
    show ci.length ≤ _
    omega
  · obtain ⟨k, i, t, n, c, fi, dt, ci, sp, dl, e0, e1, e2⟩ := f
    simp only at hk'
    rcases hk' with rfl | rfl | rfl | rfl | rfl | rfl | rfl | rfl | rfl | rfl | rfl | rfl | rfl | rfl | rfl | rfl | rfl | rfl | rfl | rfl | rfl | rfl | rfl | rfl
    all_goals first | (have e := congrArg Fm.spans hb; have e : [] = sp := e; rw [← e]; exact Nat.zero_le _) | skip
    · have hr : (rspV sp && numB dl) = true := hr
      rw [Bool.and_eq_true] at hr
      exact hsp hr.1
    · have hr : (rspV sp && (numB dl && [e0, e1, e2].all numB)) = true := hr
      rw [Bool.and_eq_true] at hr
      exact hsp hr.1
theorem cid24 {f : Fm} (hr : rightV f = true) (hk : f.kind = 24) : f.cid.length ≤ 20 := by
  obtain ⟨k, i, t, n, c, fi, dt, ci, sp, dl, e0, e1, e2⟩ := f
  simp only at hk
  subst hk
  have hr : ([n, t].all numB && (decide (t ≤ n) && (decide (1 ≤ ci.length) && (decide (ci.length ≤ 20) && decide (dt.length = 16))))) = true := hr
  simp only [Bool.and_eq_true, decide_eq_true_eq] at hr
  show ci.length ≤ _
  omega
theorem lite {c : Prop} [Decidable c] {a b : List UInt8} {m : Nat} (h1 : c → a.length ≤ m) (h2 : ¬ c → b.length ≤ m) : (if c then a else b).length ≤ m := by
  by_cases h : c
  · rw [if_pos h]; exact h1 h
  · rw [if_neg h]; exact h2 h
theorem encB_len {f : Fm} (h : chkF f = 0) : (encB f).length ≤ 100000 := by
  obtain ⟨hk, hd, hr⟩ := chk0 h
  have hn : ∀ zs : List Int, (nB zs).length ≤ zs.length * 8 := nB_len
  have ht : ∀ n : Nat, (vl n).length ≤ 8 := fun n => by rw [vl_length]; exact (szN_pos n).2
  have htx : (txtB f).length ≤ 16400 := by
    unfold txtB
    rw [List.length_append]
    have := ht f.data.length
    omega
  unfold encB
  split
  · rename_i h0
    have := chk_pad h h0
    rw [List.length_replicate]; omega
  · rename_i h0
    split
    · unfold stmB
      have h1 := hn [strK f.at_ f.fin, f.id]
      have h2 := hn [f.at_]
      have h3 := ht f.data.length
      simp only [List.length_cons, List.length_nil] at h1 h2
      have h4 : (if 0 < f.at_ then nB [f.at_] else []).length ≤ 8 := by
        split
        · omega
        · exact Nat.zero_le _
      simp only [List.length_append]
      omega
    · rename_i h8
      rw [List.length_append]
      have h1 := hn [f.kind]
      simp only [List.length_cons, List.length_nil] at h1
      have hsp : rspV f.spans = true → f.spans.length ≤ 64 := fun h => by
        unfold rspV at h
        simp only [Bool.and_eq_true, decide_eq_true_eq] at h
        omega
      have h5 := hn [f.id, f.code, f.n]
      have h6 := hn [f.id, f.code]
      have h7 := hn [f.at_]
      have h9 := hn [f.id, f.n]
      have h10 := hn [f.n, f.at_]
      have h11 := hn [f.code, f.n]
      have h12 := hn [f.code]
      have h13 := hn [f.n]
      have h14 := hn [f.e0, f.e1, f.e2]
      simp only [List.length_cons, List.length_nil] at h5 h6 h7 h9 h10 h11 h12 h13 h14
      have h2 : (itmB f).length ≤ 50000 := by
        unfold itmB
        refine lite (fun hk2 => ?_) (fun hk2 => ?_)
        · have hr2 : (rspV f.spans && numB f.delay) = true := by unfold rightV at hr; rw [if_neg h0, if_pos hk2] at hr; exact hr
          rw [Bool.and_eq_true] at hr2
          have := ackB_len f (hsp hr2.1)
          omega
        refine lite (fun hk3 => ?_) (fun _ => ?_)
        · have hr2 : (rspV f.spans && (numB f.delay && [f.e0, f.e1, f.e2].all numB)) = true := by unfold rightV at hr; rw [if_neg h0, if_neg hk2, if_pos hk3] at hr; exact hr
          rw [Bool.and_eq_true] at hr2
          have := ackB_len f (hsp hr2.1)
          rw [List.length_append]
          omega
        refine lite (fun _ => by omega) (fun _ => lite (fun _ => by omega) (fun _ => lite (fun _ => by rw [List.length_append]; omega) (fun _ => lite (fun _ => by omega) (fun _ => lite (fun _ => by omega) (fun _ => lite (fun hk => ?_) (fun _ => lite (fun _ => by omega) (fun _ => lite (fun _ => by rw [List.length_append]; omega) (fun _ => lite (fun _ => by rw [List.length_append]; omega) (fun _ => lite (fun _ => Nat.zero_le _) (fun _ => by omega))))))))))
        have := cid24 hr hk
        simp only [List.length_append, List.length_cons, List.length_nil]
        omega
      omega
theorem push_len (acc : List Fm) (f : Fm) : (push acc f).length ≤ acc.length + 1 := by
  by_cases h : f.kind = 0 ∧ ∃ l p, acc = l ++ [p] ∧ p.kind = 0
  · obtain ⟨hk, l, p, rfl, hp⟩ := h
    rw [push_old hk hp]
    simp
  · rw [push_new h]
    simp
theorem decL_cnt : ∀ (n : Nat) (V : Vr) (acc : List Fm), (decL n V acc).1.length ≤ acc.length + n
  | 0, V, acc => Nat.le_refl _
  | n + 1, V, acc => by
    simp only [decL]
    split
    · show acc.length ≤ _; omega
    · split
      · have h1 := decL_cnt n (oneV V).V (push acc (oneV V).f)
        have h2 := push_len acc (oneV V).f
        omega
      · exact Nat.zero_le _
theorem decV_cnt (l : List UInt8) : (decV l).1.length ≤ l.length := by
  unfold decV
  split
  · exact Nat.zero_le _
  · split
    · exact Nat.zero_le _
    · have := decL_cnt l.length ⟨l, 0, 0⟩ []
      simpa using this
end Go.Proofs.Ytppkilkfmclpkaa

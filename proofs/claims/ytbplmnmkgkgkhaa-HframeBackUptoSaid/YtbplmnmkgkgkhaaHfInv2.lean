/- Frames that were written are read, one behind the other: headers, data, frames that nobody knows, a settings frame, a goaway. Plain. -/
import Derived.Test.YtbplmnmkgkgkhaaHfInv
namespace Go.Proofs.Ytbplmnmkgkgkhaa
open Go.RowKit

/-- a frame's bytes -/
def fr (k : Nat) (p : List UInt8) : List UInt8 := vl k ++ (vl p.length ++ p)
theorem fr_gets {k : Nat} (hk : k < 4611686018427387904) {p : List UInt8} (hp : p.length < 4611686018427387904) (m : List UInt8) : ∃ t0 t, getV (fr k p ++ m) 0 = (k, t0, 0) ∧ getV (fr k p ++ m) t0 = (p.length, t, 0) ∧ (fr k p ++ m).drop t = p ++ m ∧ t + p.length = (fr k p).length ∧ fr k p ++ m ≠ [] := by
  have h1 := getV_vl [] (vl p.length ++ p ++ m) hk (l := fr k p ++ m) (by simp [fr]) (t := 0) rfl
  have h2 := getV_vl (vl k) (p ++ m) hp (l := fr k p ++ m) (by simp [fr]) (t := 0 + (vl k).length) (by simp)
  have hv := vl_pos k
  refine ⟨_, _, h1, h2, ?_, by rw [show (fr k p).length = (vl k).length + ((vl p.length).length + p.length) by simp [fr]]; omega, fun h => ?_⟩
  · have : fr k p ++ m = (vl k ++ vl p.length) ++ (p ++ m) := by simp [fr]
    rw [this, show 0 + (vl k).length + (vl p.length).length = (vl k ++ vl p.length).length by simp, List.drop_left]
  · have h6 := congrArg List.length h
    rw [List.length_append, show (fr k p).length = (vl k).length + ((vl p.length).length + p.length) by simp [fr]] at h6
    simp only [List.length_nil] at h6
    omega
theorem chk_ok {R : Rd} {k s : Int} (h1 : ¬ (R.req = false ∧ R.settled = false ∧ k ≠ 4)) (h2 : barB k = false) {o : Bool × Int} (h3 : okMost R k = o) (h4 : o.1 = true) (h5 : ¬ o.2 < s) : chk R k s = 0 := by
  unfold chk
  rw [if_neg h1, h2, if_neg (by decide), h3, h4, if_neg (by decide), if_neg h5]
theorem okMost_0 (R : Rd) : okMost R ((0 : Nat) : Int) = (R.req && R.heads == 1, 4611686018427387903) := by
  unfold okMost; rw [if_pos (by decide)]
theorem okMost_1 (R : Rd) : okMost R ((1 : Nat) : Int) = (R.req && decide (R.heads < 2), R.limit) := by
  unfold okMost; rw [if_neg (by decide), if_pos (by decide)]
theorem okMost_4 (R : Rd) : okMost R ((4 : Nat) : Int) = (!R.req && !R.settled, 1024) := by
  unfold okMost; rw [if_neg (by decide), if_neg (by decide), if_pos (by decide)]
theorem okMost_7 (R : Rd) : okMost R ((7 : Nat) : Int) = (!R.req, 1024) := by
  unfold okMost; rw [if_neg (by decide), if_neg (by decide), if_neg (by decide), if_pos (by decide)]
theorem okMost_x (R : Rd) {k : Nat} (h : 13 < k) : okMost R (k : Int) = (true, 4611686018427387903) := by
  unfold okMost
  rw [if_neg (by omega), if_neg (by omega), if_neg (by omega), if_neg (by omega)]
/-- what holds of the reader between two frames -/
structure Btw (R : Rd) : Prop where
  fault : R.fault = 0
  left : R.left = 0
  lim : R.limit = 1048576
/-- it runs, and tells these -/
def Rt (R : Rd) (o : List Ev) (b : List UInt8) (z : Int) (d : Bool) : Prop := ∃ r, Runs R r ∧ r.out = o ∧ r.body = b ∧ r.z = z ∧ r.R.done = d
theorem Rt.on {R R' : Rd} {o : List Ev} {b : List UInt8} {z : Int} {d : Bool} (hs : stepV R = (none, R')) (h : Rt R' o b z d) : Rt R o b z d := by
  obtain ⟨r, h1, h2⟩ := h
  exact ⟨r, .on hs h1, h2⟩
theorem Rt.ev {R R' : Rd} {e : Ev} {o : List Ev} {b : List UInt8} {z : Int} {d : Bool} (hs : stepV R = (some ⟨e, true, 0⟩, R')) (hk : e.kind ≠ 2) (h : Rt R' o b z d) : Rt R (e :: o) b z d := by
  obtain ⟨r, h1, h2, h3, h4, h5⟩ := h
  refine ⟨_, .ev hs rfl rfl h1, ?_⟩
  unfold Res.cons
  rw [if_neg hk]
  exact ⟨by rw [← h2], h3, h4, h5⟩
theorem Rt.data {R R' : Rd} {e : Ev} {o : List Ev} {b : List UInt8} {z : Int} {d : Bool} (hs : stepV R = (some ⟨e, true, 0⟩, R')) (hk : e.kind = 2) (h : Rt R' o b z d) : Rt R o (e.data ++ b) z d := by
  obtain ⟨r, h1, h2, h3, h4, h5⟩ := h
  refine ⟨_, .ev hs rfl rfl h1, ?_⟩
  unfold Res.cons
  rw [if_pos hk]
  exact ⟨h2, by rw [← h3], h4, h5⟩
theorem run_pass {R : Rd} (h : Btw R) {p m : List UInt8} {o : List Ev} {b : List UInt8} {z : Int} {d : Bool} (hr : Rt { R with b := m, passing := true } o b z d) : Rt { R with b := p ++ m, left := p.length, passing := true } o b z d := by
  by_cases hp : p = []
  · subst hp
    simpa [h.left] using hr
  · have hp' : 0 < p.length := List.length_pos_iff.2 hp
    have hs := (SC.pass (R := { R with b := p ++ m, left := p.length, passing := true }) h.fault hp' (by simp [hp]) rfl).eq
    simp only [List.drop_left, List.length_append] at hs
    rw [show p.length - (p.length + m.length) = 0 by omega] at hs
    refine Rt.on hs ?_
    have e := h.left
    rw [← e]
    exact hr
theorem run_data {R : Rd} (h : Btw R) {p m : List UInt8} {o : List Ev} {b : List UInt8} {z : Int} {d : Bool} (hr : Rt { R with b := m, passing := false } o b z d) : Rt { R with b := p ++ m, left := p.length, passing := false } o (p ++ b) z d := by
  by_cases hp : p = []
  · subst hp
    simpa [h.left] using hr
  · have hp' : 0 < p.length := List.length_pos_iff.2 hp
    have hs := (SC.data (R := { R with b := p ++ m, left := p.length, passing := false }) h.fault hp' (by simp [hp]) rfl).eq
    simp only [List.drop_left, List.take_left, List.length_append] at hs
    rw [show p.length - (p.length + m.length) = 0 by omega] at hs
    have e := h.left
    rw [← e] at hs
    exact Rt.data hs rfl hr
theorem run_skip {R : Rd} (h : Btw R) {k : Nat} (hk : k < 4611686018427387904) {p m : List UInt8} (hp : p.length ≤ 1048576) (hc : chk R k p.length = 0) (hx : k = 0 ∨ knoB k = false) {o : List Ev} {b : List UInt8} {z : Int} {d : Bool} (hr : Rt { R with b := p ++ m, left := p.length, passing := decide (k ≠ 0) } o b z d) : Rt { R with b := fr k p ++ m } o b z d := by
  obtain ⟨t0, t, h1, h2, h3, h4, h5⟩ := fr_gets hk (p := p) (by omega) m
  have hs := (SC.skip (R := { R with b := fr k p ++ m }) h.fault h.left h5 h1 h2 hc hx).eq
  simp only [h3] at hs
  exact Rt.on hs hr
/-- a frame that nobody knows -/
theorem run_junk {R : Rd} (h : Btw R) (hq : R.req = true) {k : Nat} (hk : 13 < k) (hk2 : k < 4611686018427387904) {p m : List UInt8} (hp : p.length ≤ 1048576) {o : List Ev} {b : List UInt8} {z : Int} {d : Bool} (hr : Rt { R with b := m, passing := true } o b z d) : Rt { R with b := fr k p ++ m } o b z d := by
  have hb : barB (k : Int) = false := by
    unfold barB
    simp only [Bool.or_eq_false_iff, beq_eq_false_iff_ne]
    omega
  have hn : knoB (k : Int) = false := by
    unfold knoB
    simp only [Bool.or_eq_false_iff, beq_eq_false_iff_ne]
    omega
  have hc : chk R k p.length = 0 := chk_ok (by rw [hq]; simp) hb (okMost_x R hk) rfl (by show ¬ (4611686018427387903 : Int) < _; omega)
  refine run_skip h hk2 hp hc (.inr hn) ?_
  have : decide (k ≠ 0) = true := by simp; omega
  rw [this]
  exact run_pass h hr
/-- a piece of the body -/
theorem run_body {R : Rd} (h : Btw R) (hq : R.req = true) (hh : R.heads = 1) {p m : List UInt8} (hp : p.length ≤ 1048576) {o : List Ev} {b : List UInt8} {z : Int} {d : Bool} (hr : Rt { R with b := m, passing := false } o b z d) : Rt { R with b := fr 0 p ++ m } o (p ++ b) z d := by
  have hc : chk R (0 : Nat) p.length = 0 := chk_ok (by rw [hq]; simp) (by decide) (okMost_0 R) (by rw [hq, hh]; rfl) (by show ¬ (4611686018427387903 : Int) < _; omega)
  exact run_skip h (by decide) hp hc (.inl rfl) (run_data h hr)
theorem run_whole {R : Rd} (h : Btw R) {k : Nat} (hk : k < 4611686018427387904) {p m : List UInt8} (hp : p.length ≤ 1048576) (hc : chk R k p.length = 0) (hx : ¬ (k = 0 ∨ knoB k = false)) (h13 : k ≠ 13) :
    stepV { R with b := fr k p ++ m } = (some (wholeE { R with b := m } k p).1, (wholeE { R with b := m } k p).2) := by
  obtain ⟨t0, t, h1, h2, h3, h4, h5⟩ := fr_gets hk (p := p) (by omega) m
  have hl : (fr k p ++ m).length = (fr k p).length + m.length := List.length_append
  have hs := (SC.whole (R := { R with b := fr k p ++ m }) h.fault h.left h5 h1 h2 hc hx (by show ¬ (fr k p ++ m).length < t + p.length; omega) h13).eq
  have e : (fr k p ++ m).drop (t + p.length) = m := by rw [h4, List.drop_left]
  simp only [h3, e, List.take_left] at hs
  exact hs
/-- headers -/
theorem run_head {R : Rd} (h : Btw R) (hq : R.req = true) (hh : R.heads < 2) {p m : List UInt8} (hp : p.length ≤ 1048576) {o : List Ev} {b : List UInt8} {z : Int} {d : Bool} (hr : Rt { R with b := m, heads := R.heads + 1 } o b z d) : Rt { R with b := fr 1 p ++ m } ({ ev0 with kind := 1, data := p } :: o) b z d := by
  have hc : chk R (1 : Nat) p.length = 0 := chk_ok (by rw [hq]; simp) (by decide) (okMost_1 R) (by rw [hq, decide_eq_true hh]; rfl) (by show ¬ R.limit < _; rw [h.lim]; omega)
  have hs := run_whole h (k := 1) (by decide) (m := m) hp hc (by decide) (by decide)
  have e : wholeE { R with b := m } (1 : Nat) p = (⟨{ ev0 with kind := 1, data := p }, true, 0⟩, { R with b := m, heads := R.heads + 1 }) := by
    unfold wholeE; rw [if_pos (by decide)]
  rw [e] at hs
  exact Rt.ev hs (by show (1 : Int) ≠ 2; decide) hr
/-- a request's bytes are over -/
theorem run_end {R : Rd} (h : Btw R) (hq : R.req = true) (hh : R.heads ≠ 0) (he : R.ended = true) : Rt { R with b := [] } [] [] 0 true := by
  have hs := (SC.over (R := { R with b := [] }) h.fault h.left rfl).eq
  have e : overR { R with b := [] } = (0, { R with b := [], done := true }) := by
    unfold overR
    rw [if_neg (by simp [he]), if_neg (by simp [hq]), if_neg hh]
  rw [e] at hs
  exact ⟨_, .stop hs rfl rfl, rfl, rfl, rfl, rfl⟩
/-- junk that may be there -/
def Junk (j : List UInt8) : Prop := j = [] ∨ ∃ (k : Nat) (p : List UInt8), 13 < k ∧ k < 4611686018427387904 ∧ p.length ≤ 1048576 ∧ j = fr k p
theorem run_maybe {R : Rd} (h : Btw R) (hq : R.req = true) {j : List UInt8} (hj : Junk j) {m : List UInt8} {o : List Ev} {b : List UInt8} {z : Int} {d : Bool} (hr : ∀ x, Rt { R with b := m, passing := x } o b z d) : Rt { R with b := j ++ m } o b z d := by
  rcases hj with rfl | ⟨k, p, h1, h2, h3, rfl⟩
  · exact hr R.passing
  · exact run_junk h hq h1 h2 h3 (hr true)
/-- pieces of a body, then the rest -/
theorem run_pieces {j : List UInt8} (hj : Junk j) {m : List UInt8} {o : List Ev} {b : List UInt8} {z : Int} {d : Bool} : ∀ (ps : List (List UInt8)) (R : Rd), Btw R → R.req = true → R.heads = 1 → (∀ p ∈ ps, p.length ≤ 1048576) → (∀ x, Rt { R with b := m, passing := x } o b z d) →
    Rt { R with b := ps.flatMap (fun p => j ++ fr 0 p) ++ m } o (ps.flatten ++ b) z d := by
  intro ps
  induction ps with
  | nil =>
    intro R h hq hh hp hr
    exact hr R.passing
  | cons p ps ih =>
    intro R h hq hh hp hr
    rw [List.flatMap_cons, List.flatten_cons, List.append_assoc, List.append_assoc]
    refine run_maybe h hq hj (fun x => ?_)
    have := run_body (R := { R with passing := x }) ⟨h.1, h.2, h.3⟩ hq hh (p := p) (m := ps.flatMap (fun p => j ++ fr 0 p) ++ m) (hp p (List.mem_cons_self ..))
      (ih { R with passing := false } ⟨h.1, h.2, h.3⟩ hq hh (fun q hm => hp q (List.mem_cons_of_mem _ hm)) hr)
    rw [List.append_assoc]
    exact this
/-- the bytes of a message -/
def msgB (j head : List UInt8) (body : List (List UInt8)) (has : Bool) (tr : List UInt8) : List UInt8 :=
  j ++ (fr 1 head ++ (body.flatMap (fun p => j ++ fr 0 p) ++ ((if has = true then j ++ fr 1 tr else []) ++ j)))
theorem run_msg {j : List UInt8} (hj : Junk j) {head : List UInt8} {body : List (List UInt8)} {has : Bool} {tr : List UInt8} (hh : head.length ≤ 1048576) (ht : tr.length ≤ 1048576) (hb : ∀ p ∈ body, p.length ≤ 1048576) :
    Rt (ext (Rd.new true 1048576) (msgB j head body has tr) true) ({ ev0 with kind := 1, data := head } :: (if has = true then [{ ev0 with kind := 1, data := tr }] else [])) body.flatten 0 true := by
  have hend : ∀ R : Rd, Btw R → R.req = true → R.heads ≠ 0 → R.ended = true → Rt { R with b := j } [] [] 0 true := fun R h1 h2 h3 h4 => by
    have := run_maybe h1 h2 hj (m := []) (fun x => run_end (R := { R with passing := x }) ⟨h1.1, h1.2, h1.3⟩ h2 h3 h4)
    rwa [List.append_nil] at this
  have h0 : Btw (ext (Rd.new true 1048576) [] true) := ⟨rfl, rfl, rfl⟩
  refine run_maybe (R := ext (Rd.new true 1048576) [] true) h0 rfl hj (fun x => ?_)
  refine run_head (R := { ext (Rd.new true 1048576) [] true with passing := x }) ⟨rfl, rfl, rfl⟩ rfl (by show (0 : Int) < 2; decide) hh ?_
  have := run_pieces hj (m := (if has = true then j ++ fr 1 tr else []) ++ j) (o := if has = true then [{ ev0 with kind := 1, data := tr }] else []) (b := []) (z := 0) (d := true) body { ext (Rd.new true 1048576) [] true with passing := x, heads := 0 + 1 } ⟨rfl, rfl, rfl⟩ rfl rfl hb (fun y => ?_)
  · rw [List.append_nil] at this
    exact this
  · cases has with
    | false => exact hend { ext (Rd.new true 1048576) [] true with passing := y, heads := 0 + 1 } ⟨rfl, rfl, rfl⟩ rfl (by show (0 + 1 : Int) ≠ 0; decide) rfl
    | true =>
      rw [if_pos rfl, if_pos rfl, List.append_assoc]
      refine run_maybe (R := { ext (Rd.new true 1048576) [] true with passing := y, heads := 0 + 1 }) ⟨rfl, rfl, rfl⟩ rfl hj (fun v => ?_)
      refine run_head (R := { ext (Rd.new true 1048576) [] true with passing := v, heads := 0 + 1 }) ⟨rfl, rfl, rfl⟩ rfl (by show (0 + 1 : Int) < 2; decide) ht ?_
      exact hend { ext (Rd.new true 1048576) [] true with passing := v, heads := 0 + 1 + 1 } ⟨rfl, rfl, rfl⟩ rfl (by show (0 + 1 + 1 : Int) ≠ 0; decide) rfl
/-- settings, and a goaway behind them -/
theorem run_sets {a b c : Int} (h : badS a b c = false) {id : Nat} (hi : id < 4611686018427387904) :
    Rt (ext (Rd.new false 1048576) (fr 4 (segA a ++ (segB b ++ segC c)) ++ fr 7 (vl id)) true) [{ ev0 with kind := 3, cap := a, blk := b, lim := c }, { ev0 with kind := 4, id := (id : Int) }] [] 172 false := by
  have l1 := segA_len a
  have l2 := segB_len b
  have l3 := segC_len c
  have l4 : (segA a ++ (segB b ++ segC c)).length ≤ 48 := by simp only [List.length_append]; omega
  have l5 : (vl id).length ≤ 8 := by rw [vl_length]; exact (szN_pos id).2
  obtain ⟨p, hp⟩ : ∃ p, p = segA a ++ (segB b ++ segC c) := ⟨_, rfl⟩
  have hset := sett_back h
  rw [← hp] at hset l4 ⊢
  have hc1 : chk (ext (Rd.new false 1048576) [] true) (4 : Nat) p.length = 0 := chk_ok (by decide) (by decide) (okMost_4 _) rfl (by show ¬ (1024 : Int) < _; omega)
  have s1 := run_whole (R := ext (Rd.new false 1048576) [] true) ⟨rfl, rfl, rfl⟩ (k := 4) (by decide) (m := fr 7 (vl id)) (p := p) (by omega) hc1 (by decide) (by decide)
  have e1 : wholeE { ext (Rd.new false 1048576) [] true with b := fr 7 (vl id) } (4 : Nat) p = (⟨{ ev0 with kind := 3, cap := a, blk := b, lim := c }, true, 0⟩, { ext (Rd.new false 1048576) [] true with b := fr 7 (vl id), settled := true }) := by
    unfold wholeE
    rw [if_neg (by decide), if_neg (by decide), hset, if_pos rfl]
  rw [e1] at s1
  refine Rt.ev s1 (by show (3 : Int) ≠ 2; decide) ?_
  have hc2 : chk { ext (Rd.new false 1048576) [] true with settled := true } (7 : Nat) (vl id).length = 0 := chk_ok (by decide) (by decide) (okMost_7 _) rfl (by show ¬ (1024 : Int) < _; omega)
  have s2 := run_whole (R := { ext (Rd.new false 1048576) [] true with settled := true }) ⟨rfl, rfl, rfl⟩ (k := 7) (by decide) (m := []) (p := vl id) (by omega) hc2 (by decide) (by decide)
  have ho : oneV (vl id) = (id, 0) := by
    have hg := getV_vl [] [] hi (l := vl id) (by simp) (t := 0) rfl
    unfold oneV
    rw [hg, if_pos (by simp)]
  have e2 : wholeE { ext (Rd.new false 1048576) [] true with settled := true, b := [] } (7 : Nat) (vl id) = (⟨{ ev0 with kind := 4, id := (id : Int) }, true, 0⟩, { ext (Rd.new false 1048576) [] true with settled := true, b := [] }) := by
    unfold wholeE
    rw [if_neg (by decide), if_pos (by decide), ho, if_pos rfl]
  rw [e2, List.append_nil] at s2
  refine Rt.ev s2 (by show (4 : Int) ≠ 2; decide) ?_
  have s3 := (SC.over (R := { ext (Rd.new false 1048576) [] true with settled := true, b := [] }) rfl rfl rfl).eq
  have e3 : overR { ext (Rd.new false 1048576) [] true with settled := true, b := [] } = (172, { ext (Rd.new false 1048576) [] true with settled := true, b := [], fault := 172 }) := by
    unfold overR
    rw [if_neg (by decide), if_pos (by decide)]
  rw [e3] at s3
  exact ⟨_, .err s3 (by show (172 : Int) ≠ 0; decide), rfl, rfl, rfl, rfl⟩
end Go.Proofs.Ytbplmnmkgkgkhaa

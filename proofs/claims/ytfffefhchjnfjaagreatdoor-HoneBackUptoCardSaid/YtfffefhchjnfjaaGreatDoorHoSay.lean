/- What the law's responses are read as: beginnings of a whole one (HoneEarly), heads that are bad (HoneStrict), bodies in chunks (HoneBack). Plain. -/
import Derived.Test.YtfffefhchjnfjaaGreatDoorHoInv
namespace Go.Proofs.YtfffefhchjnfjaaGreatDoor
open Go.RowKit

theorem all_one (hd : Bool) (b : List UInt8) (fin : Bool) : allV hd b [] fin = ((runV hd 1048576 (moreV b fin s0) rs0).1, (runV hd 1048576 (moreV b fin s0) rs0).2, 0) := by
  have hp : pcN [] 0 b.length = b.length := rfl
  show allG hd [] fin (b.length + 1) 0 b s0 rs0 = _
  rw [allG_succ, hp, List.drop_length, if_pos (.inr rfl)]
  have e : allG.moveV [] fin 0 b s0 = moreV b fin s0 := by
    unfold allG.moveV
    rw [hp, List.take_length, List.drop_length]
    simp
  rw [e]; rfl
theorem run_eq {head : Bool} {lim : Nat} {s t : HSt} (a : Rs) (hd : s.done = false) (hf : s.fault = 0) (hd2 : t.done = false) (hf2 : t.fault = 0) (h : stepV head lim s = stepV head lim t) : runV head lim s a = runV head lim t a := by
  rcases h3 : stepV head lim t with ⟨u, o⟩
  rw [h3] at h
  cases o with
  | none => rw [run_none a hd hf h, run_none a hd2 hf2 h3]
  | bad x => rw [run_bad a hd hf h, run_bad a hd2 hf2 h3]
  | ev E => rw [run_ev a hd hf h, run_ev a hd2 hf2 h3]
/-- the last step, that tells nothing -/
theorem run_last (head : Bool) (lim : Nat) : ∀ (n : Nat) (s : HSt) (a : Rs), mu s < n → s.done = false → s.fault = 0 → (runV head lim s a).1.fault = 0 → (runV head lim s a).1.done = false →
    ∃ s1, s1.done = false ∧ s1.fault = 0 ∧ s1.ended = s.ended ∧ stepV head lim s1 = ((runV head lim s a).1, .none)
  | 0, s, a, hn, _, _, _, _ => by omega
  | n + 1, s, a, hn, hd, hf, h1, h2 => by
    rcases hst : stepV head lim s with ⟨s', o⟩
    cases o with
    | none => rw [run_none a hd hf hst]; exact ⟨s, hd, hf, rfl, hst⟩
    | bad x => rw [run_bad a hd hf hst] at h1; exact absurd h1 (step_bad_ne hst)
    | ev E =>
      have hl := step_less (head := head) (limit := lim) hd E (by rw [hst])
      rw [hst] at hl
      have hf' : s'.fault = 0 := hl.2.trans hf
      have he := step_ended hst
      rw [run_ev a hd hf hst] at h1 h2 ⊢
      by_cases hd' : s'.done = true
      · rw [run_done _ hd' hf'] at h2; rw [hd'] at h2; cases h2
      · have hd' : s'.done = false := by simpa using hd'
        obtain ⟨s1, k1, k2, k3, k4⟩ := run_last head lim n s' _ (by have := hl.1; simp only at this; omega) hd' hf' h1 h2
        exact ⟨s1, k1, k2, k3.trans he, k4⟩
/-- a body to the end is never read before the end -/
theorem close_run {head : Bool} {lim : Nat} {s : HSt} (a : Rs) (h : s.stp = .close) (he : s.ended = false) (hd : s.done = false) (hf : s.fault = 0) : (runV head lim s a).1.done = false := by
  have hstep : ∀ t : HSt, t.stp = .close → t.ended = false → stepV head lim t = pieceV t t.b.length := by
    intro t h1 h2
    unfold stepV
    rw [h1]
    simp only
    rw [if_neg (by rw [h2]; rintro ⟨h, _⟩; cases h)]
  have hw : ∀ t : HSt, t.b.length = 0 → t.ended = false → pieceV t t.b.length = (t, .none) := by
    intro t h1 h2
    unfold pieceV
    rw [if_pos (by omega)]
    unfold waitV
    rw [h2, if_neg (by decide)]
  by_cases hb : s.b.length = 0
  · rw [run_none a hd hf (s' := s) (by rw [hstep s h he, hw s hb he])]; exact hd
  · obtain ⟨t, ht⟩ : ∃ t : HSt, t = { s with b := s.b.drop (min s.b.length s.b.length) } := ⟨_, rfl⟩
    have h1 : stepV head lim s = (t, .ev (.data (s.b.take (min s.b.length s.b.length)))) := by
      rw [hstep s h he]
      unfold pieceV
      rw [if_neg (by omega), ht]
    have hd' : t.done = false := by rw [ht]; exact hd
    have hf' : t.fault = 0 := by rw [ht]; exact hf
    rw [run_ev a hd hf h1, run_none _ hd' hf' (s' := t) (by rw [hstep t (by rw [ht]; exact h) (by rw [ht]; exact he), hw t (by rw [ht]; show (s.b.drop _).length = 0; rw [List.length_drop]; omega) (by rw [ht]; exact he)])]
    exact hd'
def finS (s : HSt) : HSt := { s with ended := true }
theorem more_fin (s : HSt) : moreV [] true s = finS s := by unfold moreV finS; rw [List.append_nil]
/-- where a step tells nothing it tells 204 with the end -/
def Nb (s : HSt) (p p2 : HSt × Out) : Prop := p.2 = .none → ∃ t, p2 = (t, .bad 204) ∧ t.done = s.done
theorem nb_wait (s : HSt) : Nb s (waitV s) (waitV (finS s)) := fun _ => ⟨_, rfl, rfl⟩
theorem nb_left (s : HSt) : Nb s (leftV s) (leftV (finS s)) := by
  show Nb s (if min s.left s.b.length = 0 then waitV s else _) (if min s.left s.b.length = 0 then waitV (finS s) else _)
  split
  · exact nb_wait s
  · intro h; cases h
theorem blk_nb {lim : Nat} {b : List UInt8} : (blkV lim b false = .wait → blkV lim b true = .bad 204) ∧ (∀ e, blkV lim b false = .bad e → blkV lim b true = .bad e) ∧ (∀ l r, blkV lim b false = .ok l r → blkV lim b true = .ok l r) := by
  unfold blkV
  cases cutS crcrS b with
  | none =>
    by_cases h : lim < b.length
    · simp [h]
    · simp [h]
  | some xr =>
    simp only
    refine ⟨fun h => ?_, fun e h => h, fun _ _ h => h⟩
    split at h <;> cases h
theorem nb_trail (lim : Nat) {s : HSt} (hs : s.ended = false) : Nb s (trailV lim s) (trailV lim (finS s)) := by
  unfold trailV
  have e1 : (finS s).b = s.b := rfl
  have e2 : (finS s).ended = true := rfl
  rw [e1, e2, hs]
  split
  · intro h; cases h
  · split
    · exact nb_wait s
    · obtain ⟨k1, k2, k3⟩ := @blk_nb lim s.b
      cases hb : blkV lim s.b false with
      | wait => rw [k1 hb]; exact fun _ => ⟨_, rfl, rfl⟩
      | bad e => intro h; cases h
      | ok l r =>
        simp only
        intro h
        cases hf : fieldsH l with
        | bad e => rw [hf] at h; cases h
        | ok l => rw [hf] at h; simp only at h; split at h <;> cases h
theorem nb_chunk (lim : Nat) {s : HSt} (hs : s.ended = false) : Nb s (chunkV lim s) (chunkV lim (finS s)) := by
  unfold chunkV
  have e1 : (finS s).b = s.b := rfl
  rw [e1]
  cases hc : cutL (s.b.take 10) with
  | none =>
    simp only
    split
    · intro h; cases h
    · exact nb_wait s
  | some xr =>
    obtain ⟨x, r⟩ := xr
    simp only
    split
    · intro h; cases h
    · cases hx : hexAc 0 x with
      | none => intro h; cases h
      | some n =>
        simp only
        split
        · exact nb_trail lim (s := { s with b := s.b.drop (x.length + 2), stp := .trailers }) hs
        · exact nb_left { s with b := s.b.drop (x.length + 2), left := n, stp := .piece }
theorem nb_head (head : Bool) (lim : Nat) : ∀ (n : Nat) {s : HSt}, s.b.length < n → s.ended = false → Nb s (headG head lim n s) (headG head lim n (finS s))
  | 0, s, hn, _ => by omega
  | n + 1, s, hn, hs => by
    unfold headG
    have e1 : (finS s).b = s.b := rfl
    have e2 : (finS s).ended = true := rfl
    have e3 : blkV lim s.b s.ended = blkV lim s.b false := by rw [hs]
    rw [e1, e2, e3]
    obtain ⟨k1, k2, k3⟩ := @blk_nb lim s.b
    cases hb : blkV lim s.b false with
    | wait => rw [k1 hb]; exact fun _ => ⟨_, rfl, rfl⟩
    | bad e => intro h; cases h
    | ok ls r =>
      have hl := (blk_ok hb [] false).2
      rw [k3 ls r hb]
      simp only
      cases statusH (ls.headD []) with
      | bad e => intro h; cases h
      | ok v =>
        obtain ⟨st, old⟩ := v
        simp only
        cases fieldsH ls.tail with
        | bad e => intro h; cases h
        | ok l =>
          simp only
          cases frameH old l false none with
          | bad e => intro h; cases h
          | ok v =>
            obtain ⟨cd, sz⟩ := v
            simp only
            split
            · intro h; cases h
            · have ih := nb_head head lim n (s := { s with old := old, b := r }) (by show r.length < n; omega) hs
              intro h
              exact ih h
theorem nb_step (head : Bool) (lim : Nat) {s : HSt} (hs : s.ended = false) (hc : s.stp ≠ .close) : Nb s (stepV head lim s) (stepV head lim (finS s)) := by
  unfold stepV
  have e1 : (finS s).stp = s.stp := rfl
  have e2 : (finS s).left = s.left := rfl
  rw [e1, e2]
  cases h : s.stp with
  | head => exact nb_head head lim (s.b.length + 1) (Nat.lt_succ_self _) hs
  | nobody => intro h; cases h
  | length =>
    simp only
    split
    · intro h; cases h
    · exact nb_left s
  | close => exact absurd h hc
  | chunk => exact nb_chunk lim hs
  | piece =>
    unfold pieceS
    have e3 : (finS s).b = s.b := rfl
    simp only [e2, e3]
    split
    · exact nb_left s
    · split
      · intro h; cases h
      · split
        · exact nb_wait s
        · exact nb_chunk lim (s := { s with b := s.b.drop 2, stp := .chunk }) hs
  | trailers => exact nb_trail lim hs
/-- a proper beginning of a response that is read with nothing left -/
theorem early_run {t p q : List UInt8} {s9 : HSt} {a9 : Rs} (ht : runV false 1048576 (moreV t false s0) rs0 = (s9, a9)) (h1 : s9.fault = 0) (h2 : s9.done = true) (h3 : s9.b = []) (hpq : t = p ++ q) (hq : q ≠ []) :
    (allV false p [] true).1.fault = 204 ∧ (allV false p [] true).1.done = false ∧ (allV false p [] false).1.fault = 0 ∧ (allV false p [] false).1.done = false := by
  rw [all_one, all_one]
  simp only
  have hm := run_more false 1048576 q false (mu (moreV p false s0) + 1) (moreV p false s0) rs0 (Nat.lt_succ_self _) rfl rfl
  have hm2 := run_more false 1048576 [] true (mu (moreV p false s0) + 1) (moreV p false s0) rs0 (Nat.lt_succ_self _) rfl rfl
  have e1 : moreV q false (moreV p false s0) = moreV t false s0 := by
    show ({ s0 with b := (s0.b ++ p) ++ q, ended := false } : HSt) = { s0 with b := s0.b ++ t, ended := false }
    rw [hpq, List.append_assoc]
  have e2 : moreV [] true (moreV p false s0) = moreV p true s0 := by
    show ({ s0 with b := (s0.b ++ p) ++ [], ended := true } : HSt) = { s0 with b := s0.b ++ p, ended := true }
    rw [List.append_nil]
  rw [e1, ht] at hm
  rw [e2] at hm2
  obtain ⟨P, hP⟩ : ∃ P, P = runV false 1048576 (moreV p false s0) rs0 := ⟨_, rfl⟩
  have hend : P.1.ended = false := by rw [hP]; exact (allG_runs.run_ended).trans rfl
  have hlast := run_last false 1048576 (mu (moreV p false s0) + 1) (moreV p false s0) rs0 (Nat.lt_succ_self _) rfl rfl
  rw [← hP] at hm hm2 hlast ⊢
  have f0 : P.1.fault = 0 := by
    rcases Classical.em (P.1.fault = 0) with h | h
    · exact h
    · exact absurd h1 (hm.1 h)
  have hr := hm.2 f0
  have d0 : P.1.done = false := by
    cases hd : P.1.done with
    | false => rfl
    | true =>
      rw [run_done (s := moreV q false P.1) P.2 hd f0] at hr
      have : s9.b = P.1.b ++ q := by have := congrArg (fun x => x.1.b) hr; exact this
      rw [h3] at this
      exact absurd (List.append_eq_nil_iff.1 this.symm).2 hq
  have hnc : P.1.stp ≠ .close := by
    intro hc
    have := close_run (head := false) (lim := 1048576) (s := moreV q false P.1) P.2 hc rfl d0 f0
    rw [← hr] at this
    rw [h2] at this; cases this
  obtain ⟨s1, k1, k2, k3, k4⟩ := hlast f0 d0
  have k3 : s1.ended = false := k3
  have hc1 : s1.stp ≠ .close := by
    intro hc
    apply hnc
    have h5 : stepV false 1048576 s1 = pieceV s1 s1.b.length := by
      unfold stepV
      rw [hc]
      simp only
      rw [if_neg (by rw [k3]; rintro ⟨h, _⟩; cases h)]
    rw [h5] at k4
    unfold pieceV at k4
    split at k4
    · have := congrArg (fun x => x.1.stp) k4
      exact this.symm.trans hc
    · have := congrArg Prod.snd k4
      cases this
  obtain ⟨u, hu, hud⟩ := nb_step false 1048576 k3 hc1 (by rw [k4])
  have hsim := sim_step (q := []) (e := true) (head := false) (limit := 1048576) s1 k3
  rw [k4] at hsim
  have hsim : stepV false 1048576 (moreV [] true s1) = stepV false 1048576 (moreV [] true P.1) := hsim
  rw [more_fin s1, hu] at hsim
  have hr2 := hm2.2 f0
  rw [run_bad (s := moreV [] true P.1) P.2 d0 f0 hsim.symm] at hr2
  rw [hr2]
  exact ⟨rfl, hud.trans k1, f0, d0⟩
/-- a line as the reader asks for it -/
def LnOk (x : List UInt8) : Prop := Cl x ∧ x ≠ [] ∧ crS.isPrefixOf (x ++ [13]) = false ∧ cutL x = none
theorem ln_of {x : List UInt8} (h : ∀ b ∈ x, b ≠ 13) (h0 : x ≠ []) : LnOk x := by
  refine ⟨cl_of h, h0, ?_, fline_cl.cut_miss h⟩
  cases x with
  | nil => exact absurd rfl h0
  | cons a r =>
    have ha := h a (by simp)
    simp only [List.cons_append, crS, List.isPrefixOf, Bool.and_eq_false_iff, beq_eq_false_iff_ne]
    exact .inl (Ne.symm ha)
theorem linesE_app (a b : List (List UInt8)) : linesE (a ++ b) = linesE a ++ linesE b := by
  induction a with
  | nil => rfl
  | cons x r ih => simp [linesE, ih]
theorem joinE_eq : ∀ {ls : List (List UInt8)}, ls ≠ [] → (joinE ls).length + 2 = (linesE ls).length
  | [], h => absurd rfl h
  | [l], _ => by simp [joinE, linesE]
  | l :: m :: ls, _ => by
    have := @joinE_eq (m :: ls) (by simp)
    simp only [joinE, linesE, List.length_append, List.length_cons] at this ⊢
    omega
/-- lines, and an empty one -/
theorem blk_run {lim : Nat} {ls : List (List UInt8)} {rest : List UInt8} {e : Bool} (h0 : ls ≠ []) (hls : ∀ x ∈ ls, LnOk x) (hlen : (linesE ls).length + 2 ≤ lim) : blkV lim (linesE ls ++ 13 :: 10 :: rest) e = .ok ls rest := by
  unfold blkV
  rw [head_block rest h0 (fun x hx => ⟨(hls x hx).1, (hls x hx).2.1, (hls x hx).2.2.1⟩)]
  simp only
  have := joinE_eq h0
  rw [if_neg (by omega)]
  congr 1
  exact split_join _ h0 (fun x hx => (hls x hx).1) (fun x hx => (hls x (List.mem_of_getLast? hx)).2.2.2) (Nat.lt_succ_self _)
/-- a head that was written is read -/
theorem head_ran {ls : List (List UInt8)} {x0 rest : List UInt8} {e old cd : Bool} {sz : Option Nat} {st : Nat} {l : List Fd} (hls : ∀ x ∈ x0 :: ls, LnOk x) (hlen : (linesE (x0 :: ls)).length + 2 ≤ 1048576)
    (hst : statusH x0 = .ok (st, old)) (h200 : 200 ≤ st) (hf : fieldsH ls = .ok l) (hfr : frameH old l false none = .ok (cd, sz)) (a : Rs) :
    runV false 1048576 (moreV (linesE (x0 :: ls) ++ 13 :: 10 :: rest) e s0) a = runV false 1048576 (beginV false ⟨rest, e, 0, .head, false, old, 0, 0⟩ st cd sz) (a.add (.head st l (beginV false ⟨rest, e, 0, .head, false, old, 0, 0⟩ st cd sz).fr)) := by
  refine run_ev (head := false) (limit := 1048576) a rfl rfl ?_
  have hj := joinE_eq (ls := x0 :: ls) (by simp)
  exact head_run ⟨(hls x0 (by simp)).1, (hls x0 (by simp)).2.1, (hls x0 (by simp)).2.2.1⟩ (fun x hx => ⟨(hls x (by simp [hx])).1, (hls x (by simp [hx])).2.1, (hls x (by simp [hx])).2.2.1⟩) (fun x hx => (hls x (List.mem_of_getLast? hx)).2.2.2) (by omega) hst h200 hf hfr
/-- a head that is bad -/
theorem head_bad {ls : List (List UInt8)} {x0 rest : List UInt8} {e old : Bool} {st : Nat} (hls : ∀ x ∈ x0 :: ls, LnOk x) (hlen : (linesE (x0 :: ls)).length + 2 ≤ 1048576)
    (hst : statusH x0 = .ok (st, old)) (hf : (∃ z, fieldsH ls = .bad z) ∨ ∃ l z, fieldsH ls = .ok l ∧ frameH old l false none = .bad z) (a : Rs) :
    (runV false 1048576 (moreV (linesE (x0 :: ls) ++ 13 :: 10 :: rest) e s0) a).1.fault ≠ 0 ∧ (runV false 1048576 (moreV (linesE (x0 :: ls) ++ 13 :: 10 :: rest) e s0) a).2 = a := by
  obtain ⟨t, ht⟩ : ∃ t, t = linesE (x0 :: ls) ++ 13 :: 10 :: rest := ⟨_, rfl⟩
  have hb := blk_run (lim := 1048576) (rest := rest) (e := e) (by simp) hls hlen
  rw [← ht] at hb ⊢
  have key : ∃ s' z, stepV false 1048576 (moreV t e s0) = (s', .bad z) := by
    show ∃ s' z, headG false 1048576 (_ + 1) (moreV t e s0) = (s', .bad z)
    unfold headG
    have e1 : (moreV t e s0).b = t := rfl
    have e2 : (moreV t e s0).ended = e := rfl
    rw [e1, e2, hb]
    simp only [List.headD_cons, List.tail_cons]
    rw [hst]
    simp only
    rcases hf with ⟨z, hz⟩ | ⟨l, z, h1, h2⟩
    · rw [hz]; exact ⟨_, _, rfl⟩
    · rw [h1]; simp only; rw [h2]; exact ⟨_, _, rfl⟩
  obtain ⟨s', z, hk⟩ := key
  have hz := step_bad_ne hk
  rw [run_bad (head := false) (limit := 1048576) a rfl rfl hk]
  exact ⟨hz, rfl⟩
theorem step_chunk {lim : Nat} {s : HSt} (h : s.stp = .chunk) : stepV false lim s = chunkV lim s := by unfold stepV; rw [h]
/-- a piece of a body in chunks -/
def chkT (d : List UInt8) : List UInt8 := hexL d.length ++ 13 :: 10 :: (d ++ [13, 10])
theorem hexL_props {n : Nat} (h : n ≤ 16384) : hexAc 0 (hexL n) = some n ∧ (hexL n).length ≤ 4 ∧ hexL n ≠ [] ∧ ∀ b ∈ hexL n, b ≠ 13 := by
  have h1 := hexAc_go (n + 1) n [] (by omega)
  have h2 := hexGo_le 3 (n + 1) n [] (by omega)
  have h3 := hexGo_ne (n + 1) n [] (by omega)
  simp only [List.length_nil] at h2
  refine ⟨h1, by unfold hexL; omega, ?_, h3.2 (by simp)⟩
  intro h
  unfold hexL at h
  rw [h] at h3
  simp at h3
theorem chunk_cut {x r : List UInt8} (h4 : x.length ≤ 4) (h13 : ∀ b ∈ x, b ≠ 13) : ∃ r', cutL ((x ++ 13 :: 10 :: r).take 10) = some (x, r') := by
  obtain ⟨k, hk⟩ : ∃ k, 10 = x.length + (k + 2) := ⟨8 - x.length, by omega⟩
  refine ⟨r.take k, ?_⟩
  rw [hk, List.take_append, List.take_of_length_le (by omega), Nat.add_sub_cancel_left]
  exact cut_made _ h13
theorem chunk_one {lim : Nat} {d rest : List UInt8} {e old : Bool} {fr : Int} {lf : Nat} (a : Rs) (h0 : d ≠ []) (hl : d.length ≤ 16384) :
    runV false lim ⟨chkT d ++ rest, e, 0, .chunk, false, old, fr, lf⟩ a = runV false lim ⟨13 :: 10 :: rest, e, 0, .piece, false, old, fr, 0⟩ (a.add (.data d)) := by
  obtain ⟨p1, p2, p3, p4⟩ := hexL_props hl
  have hd0 : d.length ≠ 0 := fun h => h0 (List.eq_nil_of_length_eq_zero h)
  have hb : chkT d ++ rest = hexL d.length ++ 13 :: 10 :: (d ++ 13 :: 10 :: rest) := by simp [chkT]
  obtain ⟨r', hc⟩ := chunk_cut (r := d ++ 13 :: 10 :: rest) p2 p4
  refine run_ev (head := false) a rfl rfl ?_
  show chunkV lim _ = _
  unfold chunkV
  simp only
  rw [hb, hc]
  simp only
  rw [if_neg p3, p1]
  simp only
  rw [if_neg hd0]
  unfold leftV
  simp only
  have hdrop : (hexL d.length ++ 13 :: 10 :: (d ++ 13 :: 10 :: rest)).drop ((hexL d.length).length + 2) = d ++ 13 :: 10 :: rest := by
    rw [← List.drop_drop, List.drop_left]; rfl
  rw [hdrop]
  have hm : min d.length (d ++ 13 :: 10 :: rest).length = d.length := by rw [List.length_append]; omega
  rw [hm, if_neg hd0, List.drop_left, List.take_left, Nat.sub_self]
/-- behind a chunk's bytes -/
theorem chunk_next {lim : Nat} {rest : List UInt8} {e old : Bool} {fr : Int} (a : Rs) :
    runV false lim ⟨13 :: 10 :: rest, e, 0, .piece, false, old, fr, 0⟩ a = runV false lim ⟨rest, e, 0, .chunk, false, old, fr, 0⟩ a := by
  refine run_eq a rfl rfl rfl rfl ?_
  show pieceS lim _ = chunkV lim _
  unfold pieceS
  simp only
  rw [if_neg (by decide), if_neg (by simp [atB]), if_neg (by simp)]
  rfl
theorem chunks_run {lim : Nat} {e old : Bool} {fr : Int} : ∀ (ds : List (List UInt8)) {rest : List UInt8} (a : Rs), (∀ d ∈ ds, d ≠ [] ∧ d.length ≤ 16384) →
    runV false lim ⟨ds.flatMap chkT ++ rest, e, 0, .chunk, false, old, fr, 0⟩ a = runV false lim ⟨rest, e, 0, .chunk, false, old, fr, 0⟩ { a with body := a.body ++ ds.flatten }
  | [], rest, a, _ => by simp
  | d :: ds, rest, a, h => by
    have h1 := h d (by simp)
    rw [List.flatMap_cons, List.append_assoc, chunk_one a h1.1 h1.2, chunk_next, chunks_run ds _ (fun x hx => h x (by simp [hx]))]
    simp [Rs.add]
/-- the last chunk, and trailers -/
theorem last_run {lim : Nat} {b behind : List UInt8} {e old : Bool} {fr : Int} {l : List Fd} (a : Rs) (hb : (b = 13 :: 10 :: behind ∧ l = []) ∨ ∃ ls, b = linesE ls ++ 13 :: 10 :: behind ∧ ls ≠ [] ∧ (∀ x ∈ ls, LnOk x) ∧ (linesE ls).length + 2 ≤ lim ∧ fieldsH ls = .ok l ∧ l.any badTr = false) :
    runV false lim ⟨48 :: 13 :: 10 :: b, e, 0, .chunk, false, old, fr, 0⟩ a = (⟨behind, e, 0, .trailers, true, old, fr, 0⟩, { a with tr := l }) := by
  have key : stepV false lim ⟨48 :: 13 :: 10 :: b, e, 0, .chunk, false, old, fr, 0⟩ = (⟨behind, e, 0, .trailers, true, old, fr, 0⟩, .ev (.fin l)) := by
    rw [step_chunk rfl]
    obtain ⟨r', hc⟩ := chunk_cut (x := [48]) (r := b) (by decide) (by decide)
    have hc : cutL ((48 :: 13 :: 10 :: b).take 10) = some ([48], r') := hc
    unfold chunkV
    simp only
    rw [hc]
    simp only
    rw [if_neg (by decide), show hexAc 0 [48] = some 0 from by decide]
    simp only
    rw [if_pos trivial]
    show trailV lim ⟨b, e, 0, .trailers, false, old, fr, 0⟩ = _
    unfold trailV
    simp only
    rcases hb with ⟨rfl, rfl⟩ | ⟨ls, rfl, h0, hls, hlen, hf, hbt⟩
    · rw [if_pos (by simp [crS, List.isPrefixOf])]; rfl
    · have hp : crS.isPrefixOf (linesE ls ++ 13 :: 10 :: behind) = false ∧ ¬ (linesE ls ++ 13 :: 10 :: behind).length < 2 := by
        cases ls with
        | nil => exact absurd rfl h0
        | cons m ls =>
          have h2 := hls m (by simp)
          have h3 := h2.2.2.1
          refine ⟨?_, by simp only [List.length_append, List.length_cons]; omega⟩
          cases m with
          | nil => exact absurd rfl h2.2.1
          | cons a m =>
            cases m with
            | nil => simp only [linesE, List.cons_append, List.nil_append, crS, List.isPrefixOf] at h3 ⊢; exact h3
            | cons b m => simp only [linesE, List.cons_append, crS, List.isPrefixOf] at h3 ⊢; exact h3
      rw [if_neg (by rw [hp.1]; decide), if_neg hp.2, blk_run h0 hls hlen]
      simp only
      rw [hf]
      simp only
      rw [if_neg (by rw [hbt]; decide)]
      rfl
  rw [run_ev a rfl rfl key, run_done _ rfl rfl]
  rfl
/-- a body to the end -/
theorem end_run {lim : Nat} {body : List UInt8} {old : Bool} {fr : Int} (a : Rs) :
    runV false lim ⟨body, true, 0, .close, false, old, fr, 0⟩ a = (⟨[], true, 0, .close, true, old, fr, 0⟩, { a with body := a.body ++ body, tr := [] }) := by
  by_cases h0 : body = []
  · subst h0
    rw [run_end a [] rfl rfl rfl]
    simp [Rs.add]
  · have hl : body.length ≠ 0 := fun h => h0 (List.eq_nil_of_length_eq_zero h)
    have hs : stepV false lim ⟨body, true, 0, .close, false, old, fr, 0⟩ = (⟨[], true, 0, .close, false, old, fr, 0⟩, .ev (.data body)) := by
      unfold stepV
      simp only
      rw [if_neg (fun h => h0 h.2)]
      unfold pieceV
      simp only
      rw [Nat.min_self, if_neg hl, List.drop_length, List.take_length]
    rw [run_ev a rfl rfl hs, run_end _ [] rfl rfl rfl]
    rfl
/-- decimal digits -/
theorem dec_lt : ∀ (k n : Nat), n < 10 ^ (k + 1) → (Lib.decDigits n).length ≤ k + 1
  | 0, n, h => by rw [dig_small (by simpa using h)]; simp
  | k + 1, n, h => by
    by_cases h10 : 10 ≤ n
    · rw [dig_big h10, List.length_append]
      have := dec_lt k (n / 10) (by rw [Nat.pow_succ] at h; omega)
      simp; omega
    · rw [dig_small (by omega)]; simp
theorem dig_d : ∀ k : Nat, k < 10 → digC (UInt8.ofNat (48 + k)) = true ∧ (UInt8.ofNat (48 + k)).toNat - 48 = k := by decide +kernel
theorem dec_val : ∀ (n m : Nat), m < n → (Lib.decDigits m).all digC = true ∧ natV (Lib.decDigits m) = m ∧ Lib.decDigits m ≠ []
  | 0, m, h => by omega
  | n + 1, m, h => by
    by_cases h10 : 10 ≤ m
    · obtain ⟨h1, h2, h3⟩ := dec_val n (m / 10) (by omega)
      obtain ⟨d1, d2⟩ := dig_d (m % 10) (Nat.mod_lt _ (by decide))
      rw [dig_big h10]
      refine ⟨by rw [List.all_append, h1, List.all_cons, d1]; rfl, ?_, by simp⟩
      unfold natV at h2 ⊢
      rw [List.foldl_append, h2]
      simp only [List.foldl_cons, List.foldl_nil]
      rw [d2]; omega
    · obtain ⟨d1, d2⟩ := dig_d m (by omega)
      rw [dig_small (by omega)]
      refine ⟨by rw [List.all_cons, d1]; rfl, ?_, by simp⟩
      unfold natV
      simp only [List.foldl_cons, List.foldl_nil]
      rw [d2]; omega
theorem dig_not {b : UInt8} (h : digC b = true) : b ≠ 13 ∧ b ≠ 10 ∧ ws b = false ∧ valC b = true := by
  have h1 : ∀ k, k < 256 → digC (UInt8.ofNat k) = true → UInt8.ofNat k ≠ 13 ∧ UInt8.ofNat k ≠ 10 ∧ ws (UInt8.ofNat k) = false ∧ valC (UInt8.ofNat k) = true := by decide +kernel
  have e : UInt8.ofNat b.toNat = b := by simp
  have h2 := h1 b.toNat b.toNat_lt
  rw [e] at h2
  exact h2 h
theorem trim_no {l : List UInt8} (h : ∀ b ∈ l, ws b = false) : trimL l = l := by
  have hd : ∀ l : List UInt8, (∀ b ∈ l, ws b = false) → l.dropWhile ws = l := by
    intro l h
    cases l with
    | nil => rfl
    | cons b r => rw [List.dropWhile_cons, if_neg (by rw [h b (by simp)]; decide)]
  unfold trimL
  rw [hd l h, hd _ (fun b hb => h b (by simpa using hb)), List.reverse_reverse]
theorem trim_sp (l : List UInt8) : trimL (32 :: l) = trimL l := by
  unfold trimL
  rw [List.dropWhile_cons, if_pos (by decide)]
theorem len_dec {n : Nat} (h : n < 1000000) : lengthH (Lib.decDigits n) = some n := by
  obtain ⟨h1, h2, h3⟩ := dec_val (n + 1) n (Nat.lt_succ_self _)
  have h4 := dec_lt 5 n (by omega)
  unfold lengthH
  rw [if_neg, h2]
  rintro (h | h | h)
  · exact h3 (List.eq_nil_of_length_eq_zero (by omega))
  · omega
  · rw [h1] at h; cases h
def lenP : List UInt8 := [67, 111, 110, 116, 101, 110, 116, 45, 76, 101, 110, 103, 116, 104]
/-- Content-Length: n -/
def lenLn (n : Nat) : List UInt8 := lenP ++ 58 :: 32 :: Lib.decDigits n
theorem lenLn_ok (n : Nat) : LnOk (lenLn n) := by
  obtain ⟨h1, _, _⟩ := dec_val (n + 1) n (Nat.lt_succ_self _)
  refine ln_of ?_ (by simp [lenLn, lenP])
  intro b hb
  have hp : ∀ b ∈ lenP, b ≠ 13 := by decide
  unfold lenLn at hb
  rcases List.mem_append.1 hb with hb | hb
  · exact hp b hb
  · rcases List.mem_cons.1 hb with rfl | hb
    · decide
    · rcases List.mem_cons.1 hb with rfl | hb
      · decide
      · exact (dig_not (List.all_eq_true.1 h1 b hb)).1
theorem lenLn_field (n : Nat) : fieldH (lenLn n) = .ok ⟨strB lenN, strB (Lib.decDigits n)⟩ := by
  obtain ⟨h1, _, _⟩ := dec_val (n + 1) n (Nat.lt_succ_self _)
  have h2 := fun b hb => dig_not (List.all_eq_true.1 h1 b hb)
  unfold fieldH lenLn
  rw [cutAt_made _ (by decide)]
  simp only
  rw [if_neg (by decide), trim_sp, trim_no (fun b hb => (h2 b hb).2.2.1), if_neg (by rw [List.all_eq_true.2 (fun b hb => (h2 b hb).2.2.2)]; decide)]
  rw [show smallL lenP = lenN from by decide]
/-- the framing field last, behind fields that frame passes by -/
theorem frame_len {fs : List Fd} {n : Nat} (h : ∀ f ∈ fs, bl f.nm ≠ traN ∧ bl f.nm ≠ lenN) (hn : n < 1000000) : frameH false (fs ++ [⟨strB lenN, strB (Lib.decDigits n)⟩]) false none = .ok (false, some n) := by
  rw [frame_by false h]
  unfold frameH
  have e1 : bl (strB lenN) = lenN := bl_strB' _
  have e2 : bl (strB (Lib.decDigits n)) = Lib.decDigits n := bl_strB' _
  simp only [e1, e2]
  rw [if_neg (by decide), if_pos trivial, len_dec hn]
  simp only
  rw [if_neg (by rintro ⟨m, h, _⟩; cases h)]
  unfold frameH
  rw [if_neg (by rintro ⟨h, _⟩; cases h)]
def chkLn : List UInt8 := [84, 114, 97, 110, 115, 102, 101, 114, 45, 69, 110, 99, 111, 100, 105, 110, 103, 58, 32, 99, 104, 117, 110, 107, 101, 100]
def chkLn2 : List UInt8 := [84, 114, 97, 110, 115, 102, 101, 114, 45, 69, 110, 99, 111, 100, 105, 110, 103, 58, 32, 67, 104, 117, 110, 107, 101, 100]
theorem chkLn_ok : LnOk chkLn ∧ LnOk chkLn2 := ⟨ln_of (by decide) (by decide), ln_of (by decide) (by decide)⟩
theorem chkLn_field : fieldH chkLn = .ok ⟨strB traN, strB chkS⟩ := by kernel_rfl
def chkC : List UInt8 := [67, 104, 117, 110, 107, 101, 100]
theorem chkLn2_field : fieldH chkLn2 = .ok ⟨strB traN, strB chkC⟩ := by kernel_rfl
theorem frame_chk {fs : List Fd} {v : List UInt8} (h : ∀ f ∈ fs, bl f.nm ≠ traN ∧ bl f.nm ≠ lenN) (hv : smallL v = chkS) : frameH false (fs ++ [⟨strB traN, strB v⟩]) false none = .ok (true, none) := by
  rw [frame_by false h]
  unfold frameH
  have e1 : bl (strB traN) = traN := bl_strB' _
  have e2 : bl (strB v) = v := bl_strB' _
  simp only [e1, e2]
  rw [if_pos trivial, if_neg (by rintro (h | h | h); cases h; cases h; exact h hv)]
  unfold frameH
  rw [if_neg (by rintro ⟨_, h⟩; cases h)]
theorem okl_ok : LnOk okL := ln_of (by decide) (by decide)
/-- HoneEarly's two responses -/
def lenT (body : List UInt8) : List UInt8 := linesE [okL, lenLn body.length] ++ 13 :: 10 :: body
def chunkT (body : List UInt8) : List UInt8 := linesE [okL, chkLn] ++ 13 :: 10 :: (chkT body ++ [48, 13, 10, 13, 10])
theorem lenT_run {body : List UInt8} (h : body.length ≤ 16384) (e : Bool) : ∃ a, runV false 1048576 (moreV (lenT body) e s0) rs0 = (⟨[], e, 0, .length, true, false, 1, 0⟩, a) := by
  have hl : (Lib.decDigits body.length).length ≤ 5 := dec_lt 4 _ (by omega)
  have h1 := head_ran (x0 := okL) (ls := [lenLn body.length]) (rest := body) (e := e) (old := false) (cd := false) (sz := some body.length) (st := 200) (l := [⟨strB lenN, strB (Lib.decDigits body.length)⟩])
    (by
      intro x hx
      rcases List.mem_cons.1 hx with rfl | hx
      · exact okl_ok
      · rw [List.mem_singleton.1 hx]; exact lenLn_ok _) (by simp [linesE, lenLn, lenP, okL]; omega) ok_status (by decide) (by
      unfold fieldsH
      rw [lenLn_field]
      rfl) (frame_len (fs := []) (by simp) (by omega)) rs0
  unfold lenT
  rw [h1]
  have h2 := length_run (lim := 1048576) (body := body) (behind := []) (e := e) (old := false) (fr := 1) (rs0.add (.head 200 [⟨strB lenN, strB (Lib.decDigits body.length)⟩] 1))
  rw [List.append_nil] at h2
  exact ⟨_, h2⟩
theorem chunkT_run {body : List UInt8} (h0 : body ≠ []) (h : body.length ≤ 16384) (e : Bool) : ∃ a, runV false 1048576 (moreV (chunkT body) e s0) rs0 = (⟨[], e, 0, .trailers, true, false, 2, 0⟩, a) := by
  have h1 := head_ran (x0 := okL) (ls := [chkLn]) (rest := chkT body ++ [48, 13, 10, 13, 10]) (e := e) (old := false) (cd := true) (sz := none) (st := 200) (l := [⟨strB traN, strB chkS⟩])
    (by
      intro x hx
      rcases List.mem_cons.1 hx with rfl | hx
      · exact okl_ok
      · rw [List.mem_singleton.1 hx]; exact chkLn_ok.1) (by decide) ok_status (by decide) (by
      unfold fieldsH
      rw [chkLn_field]
      rfl) (frame_chk (fs := []) (by simp) (by decide)) rs0
  unfold chunkT
  rw [h1]
  have h2 := chunk_one (lim := 1048576) (d := body) (rest := [48, 13, 10, 13, 10]) (e := e) (old := false) (fr := 2) (lf := 0) (rs0.add (.head 200 [⟨strB traN, strB chkS⟩] 2)) h0 h
  rw [chunk_next, last_run _ (.inl ⟨rfl, rfl⟩)] at h2
  exact ⟨_, h2⟩
/-- HoneEarly in plain words -/
theorem early_plain {body p q : List UInt8} (h0 : body ≠ []) (h : body.length ≤ 16384) (hq : q ≠ []) (hpq : p ++ q = lenT body ∨ p ++ q = chunkT body) :
    (allV false p [] true).1.fault = 204 ∧ (allV false p [] true).1.done = false ∧ (allV false p [] false).1.fault = 0 ∧ (allV false p [] false).1.done = false := by
  rcases hpq with hpq | hpq
  · obtain ⟨a, ha⟩ := lenT_run h false
    exact early_run ha rfl rfl rfl hpq.symm hq
  · obtain ⟨a, ha⟩ := chunkT_run h0 h false
    exact early_run ha rfl rfl rfl hpq.symm hq
/-- fields that the law takes -/
def gdB (f : Fd) : Bool := tokenL (bl f.nm) && valueL (bl f.va) && !decide (smallL (bl f.nm) = lenN) && !decide (smallL (bl f.nm) = traN)
theorem gdB_iff {f : Fd} (h : gdB f = true) : gdF f ∧ bl (smF f).nm ≠ traN ∧ bl (smF f).nm ≠ lenN := by
  unfold gdB at h
  simp only [Bool.and_eq_true, Bool.not_eq_true', decide_eq_false_iff_not] at h
  have e : bl (smF f).nm = smallL (bl f.nm) := bl_strB' _
  rw [e]
  exact ⟨⟨h.1.1.1, h.1.1.2⟩, h.2, h.1.2⟩
theorem gd_names {fs : List Fd} (h : fs.all gdB = true) : ∀ f ∈ fs.map smF, bl f.nm ≠ traN ∧ bl f.nm ≠ lenN := by
  intro f hf
  obtain ⟨g, hg, rfl⟩ := List.mem_map.1 hf
  exact (gdB_iff (List.all_eq_true.1 h g hg)).2
theorem gd_all {fs : List Fd} (h : fs.all gdB = true) : ∀ f ∈ fs, gdF f := fun f hf => (gdB_iff (List.all_eq_true.1 h f hf)).1
theorem gd_lns {fs : List Fd} (h : fs.all gdB = true) : ∀ x ∈ fs.map fline, LnOk x := by
  intro x hx
  obtain ⟨f, hf, rfl⟩ := List.mem_map.1 hx
  exact fline_cl (gd_all h f hf)
/-- lines that make a head bad -/
def BadL (bs : List (List UInt8)) : Prop := (∀ x ∈ bs, LnOk x) ∧ ((∃ z, fieldsH bs = .bad z) ∨ ∃ l z, fieldsH bs = .ok l ∧ frameH false l false none = .bad z)
theorem strict_plain {fs : List Fd} {bs : List (List UInt8)} {rest : List UInt8} (hg : fs.all gdB = true) (hb : BadL bs) (hlen : (linesE (okL :: (fs.map fline ++ bs)) ++ 13 :: 10 :: rest).length ≤ 1048576) (e : Bool) :
    (allV false (linesE (okL :: (fs.map fline ++ bs)) ++ 13 :: 10 :: rest) [] e).1.fault ≠ 0 ∧ (allV false (linesE (okL :: (fs.map fline ++ bs)) ++ 13 :: 10 :: rest) [] e).2.1 = rs0 := by
  rw [all_one]
  simp only
  refine head_bad (st := 200) (old := false) (fun x hx => ?_) (by simp only [List.length_append, List.length_cons] at hlen ⊢; omega) ok_status ?_ rs0
  · rcases List.mem_cons.1 hx with rfl | hx
    · exact okl_ok
    · rcases List.mem_append.1 hx with hx | hx
      · exact gd_lns hg x hx
      · exact hb.1 x hx
  · rw [fields_back _ (gd_all hg)]
    rcases hb.2 with ⟨z, hz⟩ | ⟨l, z, h1, h2⟩
    · exact .inl ⟨z, by rw [hz]; rfl⟩
    · refine .inr ⟨_, z, by rw [h1]; rfl, ?_⟩
      rw [frame_by false (gd_names hg)]
      exact h2
/-- a response's first line as the law writes it -/
def stP : List UInt8 := [72, 84, 84, 80, 47, 49, 46, 49, 32]
def stLn (st : Nat) : List UInt8 := stP ++ (Lib.decDigits st ++ [32])
def okS (x : Ex (Nat × Bool)) (st : Nat) : Bool := match x with
  | .ok v => decide (v.1 = st) && !v.2
  | .bad _ => false
theorem okS_eq {x : Ex (Nat × Bool)} {st : Nat} (h : okS x st = true) : x = .ok (st, false) := by
  unfold okS at h
  cases x with
  | bad e => cases h
  | ok v =>
    obtain ⟨a, b⟩ := v
    simp only [Bool.and_eq_true, decide_eq_true_eq, Bool.not_eq_true'] at h
    rw [h.1, h.2]
theorem st_dec : ∀ st : Nat, st < 600 → 200 ≤ st → okS (statusH (stP ++ ([UInt8.ofNat (48 + st / 10 / 10), UInt8.ofNat (48 + st / 10 % 10), UInt8.ofNat (48 + st % 10)] ++ [32]))) st = true := by decide +kernel
theorem stLn_dec {st : Nat} (h : 200 ≤ st) (h2 : st < 600) : Lib.decDigits st = [UInt8.ofNat (48 + st / 10 / 10), UInt8.ofNat (48 + st / 10 % 10), UInt8.ofNat (48 + st % 10)] := by
  rw [dig_big (by omega), dig_big (by omega), dig_small (by omega)]
  rfl
theorem stLn_ok {st : Nat} (h : 200 ≤ st) (h2 : st < 600) : LnOk (stLn st) ∧ statusH (stLn st) = .ok (st, false) := by
  constructor
  · obtain ⟨h1, _, _⟩ := dec_val (st + 1) st (Nat.lt_succ_self _)
    refine ln_of ?_ (by simp [stLn, stP])
    intro b hb
    have hp : ∀ b ∈ stP, b ≠ 13 := by decide
    unfold stLn at hb
    rcases List.mem_append.1 hb with hb | hb
    · exact hp b hb
    · rcases List.mem_append.1 hb with hb | hb
      · exact (dig_not (List.all_eq_true.1 h1 b hb)).1
      · rw [List.mem_singleton.1 hb]; decide
  · unfold stLn
    rw [stLn_dec h h2]
    exact okS_eq (st_dec st h2 h)
/-- a trailer's line as the law writes it -/
def tline (f : Fd) : List UInt8 := bl f.nm ++ 58 :: 32 :: bl f.va
theorem linesL_E (ts : List Fd) : linesL ts = linesE (ts.map tline) := by
  induction ts with
  | nil => rfl
  | cons f r ih =>
    show lineL f ++ linesL r = _
    rw [ih, List.map_cons, linesE]
    simp [lineL, tline]
theorem tline_ok {f : Fd} (h : gdF f) : LnOk (tline f) ∧ fieldH (tline f) = .ok (smF f) := by
  obtain ⟨h1, h2⟩ := h
  unfold tokenL at h1
  unfold valueL at h2
  simp only [Bool.and_eq_true, Bool.not_eq_true'] at h1 h2
  constructor
  · refine ln_of ?_ (by simp [tline])
    intro b hb
    unfold tline at hb
    rcases List.mem_append.1 hb with hb | hb
    · exact (tok_ne (List.all_eq_true.1 h1.1 b hb)).2.1
    · rcases List.mem_cons.1 hb with rfl | hb
      · decide
      · rcases List.mem_cons.1 hb with rfl | hb
        · decide
        · exact (val_ne (List.all_eq_true.1 h2.1 b hb)).1
  · have hne : ∀ b ∈ bl f.nm, b ≠ 58 := fun b hb => (tok_ne (List.all_eq_true.1 h1.1 b hb)).1
    unfold fieldH tline
    rw [cutAt_made _ hne]
    simp only
    rw [if_neg (by rintro (h | h)
                   · rw [h] at h1; simp at h1
                   · rw [h1.1] at h; cases h), trim_sp, trim_val h2.2, if_neg (by rw [h2.1]; decide), strB_bl]
    rfl
theorem trailers_back : ∀ {ts : List Fd}, (∀ f ∈ ts, gdF f) → fieldsH (ts.map tline) = .ok (ts.map smF)
  | [], _ => rfl
  | f :: r, h => by
    rw [List.map_cons, fieldsH, (tline_ok (h f (by simp))).2]
    simp only
    rw [trailers_back (fun x hx => h x (by simp [hx]))]
    rfl
/-- the three responses -/
def bkT (st : Nat) (fs : List Fd) (fl : List (List UInt8)) (tail : List UInt8) : List UInt8 := linesE (stLn st :: (fs.map fline ++ fl)) ++ 13 :: 10 :: tail
theorem back_head {st : Nat} {fs fl' : List Fd} {fl : List (List UInt8)} {tail : List UInt8} {e cd : Bool} {sz : Option Nat} (h1 : 200 ≤ st) (h2 : st < 600) (hg : fs.all gdB = true) (hln : ∀ x ∈ fl, LnOk x) (hff : fieldsH fl = .ok fl') (hfr : frameH false (fs.map smF ++ fl') false none = .ok (cd, sz)) (hlen : (bkT st fs fl tail).length ≤ 1048576) (a : Rs) :
    runV false 1048576 (moreV (bkT st fs fl tail) e s0) a = runV false 1048576 (beginV false ⟨tail, e, 0, .head, false, false, 0, 0⟩ st cd sz) (a.add (.head st (fs.map smF ++ fl') (beginV false ⟨tail, e, 0, .head, false, false, 0, 0⟩ st cd sz).fr)) := by
  refine head_ran (fun x hx => ?_) (by simp only [bkT, List.length_append, List.length_cons] at hlen ⊢; omega) (stLn_ok h1 h2).2 h1 ?_ hfr a
  · rcases List.mem_cons.1 hx with rfl | hx
    · exact (stLn_ok h1 h2).1
    · rcases List.mem_append.1 hx with hx | hx
      · exact gd_lns hg x hx
      · exact hln x hx
  · rw [fields_back _ (gd_all hg), hff]; rfl
theorem begin_no {st : Nat} (h4 : st ≠ 204) (h5 : st ≠ 304) (s : HSt) (cd : Bool) (sz : Option Nat) : beginV false s st cd sz = if cd = true then { s with fr := 2, stp := .chunk } else match sz with
    | some n => { s with fr := 1, left := n, stp := .length }
    | none => { s with fr := 3, stp := .close } := by
  unfold beginV
  rw [if_neg (by rintro (h | h | h); cases h; exact h4 h; exact h5 h)]
  cases cd <;> cases sz <;> rfl
theorem back1 {st : Nat} {fs : List Fd} {body behind : List UInt8} (h1 : 200 ≤ st) (h2 : st < 600) (h4 : st ≠ 204) (h5 : st ≠ 304) (hg : fs.all gdB = true) (hb : body.length ≤ 16384) (hlen : (bkT st fs [lenLn body.length] (body ++ behind)).length ≤ 1048576) :
    allV false (bkT st fs [lenLn body.length] (body ++ behind)) [] false = (⟨behind, false, 0, .length, true, false, 1, 0⟩, ⟨some (st, fs.map smF ++ [⟨strB lenN, strB (Lib.decDigits body.length)⟩], 1), body, []⟩, 0) := by
  rw [all_one, back_head (fl' := [⟨strB lenN, strB (Lib.decDigits body.length)⟩]) (cd := false) (sz := some body.length) h1 h2 hg (fun x hx => by rw [List.mem_singleton.1 hx]; exact lenLn_ok _) (by
      unfold fieldsH
      rw [lenLn_field]
      rfl) (frame_len (gd_names hg) (by omega)) hlen, begin_no h4 h5]
  simp only [Bool.false_eq_true, if_false]
  rw [length_run]
  rfl
theorem back2 {st : Nat} {fs ts : List Fd} {ds : List (List UInt8)} {behind : List UInt8} (h1 : 200 ≤ st) (h2 : st < 600) (h4 : st ≠ 204) (h5 : st ≠ 304) (hg : fs.all gdB = true) (hgt : ts.all gdB = true) (hd : ∀ d ∈ ds, d ≠ [] ∧ d.length ≤ 16384)
    (hlen : (bkT st fs [chkLn2] (ds.flatMap chkT ++ (lastL ts ++ behind))).length ≤ 1048576) :
    allV false (bkT st fs [chkLn2] (ds.flatMap chkT ++ (lastL ts ++ behind))) [] false = (⟨behind, false, 0, .trailers, true, false, 2, 0⟩, ⟨some (st, fs.map smF ++ [⟨strB traN, strB chkC⟩], 2), ds.flatten, ts.map smF⟩, 0) := by
  rw [all_one, back_head (fl' := [⟨strB traN, strB chkC⟩]) (cd := true) (sz := none) h1 h2 hg (fun x hx => by rw [List.mem_singleton.1 hx]; exact chkLn_ok.2) (by
      unfold fieldsH
      rw [chkLn2_field]
      rfl) (frame_chk (gd_names hg) (by decide)) hlen, begin_no h4 h5]
  simp only [if_true]
  rw [chunks_run _ _ hd]
  have hl : lastL ts ++ behind = 48 :: 13 :: 10 :: (linesE (ts.map tline) ++ 13 :: 10 :: behind) := by simp [lastL, linesL_E]
  rw [hl, last_run (l := ts.map smF)]
  · rfl
  · cases ts with
    | nil => exact .inl ⟨rfl, rfl⟩
    | cons t ts =>
      refine .inr ⟨(t :: ts).map tline, rfl, by simp, ?_, ?_, trailers_back (gd_all hgt), ?_⟩
      · intro x hx
        obtain ⟨f, hf, rfl⟩ := List.mem_map.1 hx
        exact (tline_ok (gd_all hgt f hf)).1
      · rw [hl] at hlen
        simp only [bkT, List.length_append, List.length_cons] at hlen ⊢
        omega
      · rw [List.any_eq_false]
        intro f hf
        have := gd_names hgt f hf
        unfold badTr
        simp [this.1, this.2]
theorem back3 {st : Nat} {fs : List Fd} {body : List UInt8} (h1 : 200 ≤ st) (h2 : st < 600) (h4 : st ≠ 204) (h5 : st ≠ 304) (hg : fs.all gdB = true) (hlen : (bkT st fs [] body).length ≤ 1048576) :
    allV false (bkT st fs [] body) [] true = (⟨[], true, 0, .close, true, false, 3, 0⟩, ⟨some (st, fs.map smF, 3), body, []⟩, 0) := by
  have hfr := frame_by false (r := []) (cd := false) (sz := none) (gd_names hg)
  rw [all_one, back_head (fl' := []) (cd := false) (sz := none) h1 h2 hg (fun x hx => by simp at hx) rfl (by rw [hfr]; unfold frameH; rw [if_neg (by rintro ⟨h, _⟩; cases h)]) hlen, begin_no h4 h5]
  simp only [Bool.false_eq_true, if_false]
  rw [end_run]
  simp [Rs.add, rs0]
end Go.Proofs.YtfffefhchjnfjaaGreatDoor

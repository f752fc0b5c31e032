/- Next again and again till an error or nothing more (Runs), and bytes that come in pieces (AllP): how they are cut makes no difference. Plain. -/
import Derived.Test.YtbplmnmkgkgkhaaHfRound
namespace Go.Proofs.Ytbplmnmkgkgkhaa
open Go.RowKit

structure Res where
  out : List Ev
  body : List UInt8
  z : Int
  R : Rd
def Res.cons (e : Ev) (r : Res) : Res := if e.kind = 2 then { r with body := e.data ++ r.body } else { r with out := e :: r.out }
theorem Res.cons_z (e : Ev) (r : Res) : (r.cons e).z = r.z := by unfold Res.cons; split <;> rfl
theorem Res.cons_R (e : Ev) (r : Res) : (r.cons e).R = r.R := by unfold Res.cons; split <;> rfl
inductive Runs : Rd → Res → Prop
  | on {R R' : Rd} {r : Res} : stepV R = (none, R') → Runs R' r → Runs R r
  | err {R R' : Rd} {o : NOut} : stepV R = (some o, R') → o.z ≠ 0 → Runs R ⟨[], [], o.z, R'⟩
  | stop {R R' : Rd} {o : NOut} : stepV R = (some o, R') → o.z = 0 → o.ok = false → Runs R ⟨[], [], 0, R'⟩
  | ev {R R' : Rd} {o : NOut} {r : Res} : stepV R = (some o, R') → o.z = 0 → o.ok = true → Runs R' r → Runs R (r.cons o.ev)
theorem Runs.det {R : Rd} {r r' : Res} (h : Runs R r) (h' : Runs R r') : r = r' := by
  induction h generalizing r' with
  | on h1 _ ih =>
    cases h' with
    | on g1 g2 => rw [h1] at g1; cases g1; exact ih g2
    | err g1 _ => rw [h1] at g1; cases g1
    | stop g1 _ _ => rw [h1] at g1; cases g1
    | ev g1 _ _ _ => rw [h1] at g1; cases g1
  | err h1 h2 =>
    cases h' with
    | on g1 g2 => rw [h1] at g1; cases g1
    | err g1 _ => rw [h1] at g1; cases g1; rfl
    | stop g1 g2 _ => rw [h1] at g1; cases g1; exact absurd g2 h2
    | ev g1 g2 _ _ => rw [h1] at g1; cases g1; exact absurd g2 h2
  | stop h1 h2 h3 =>
    cases h' with
    | on g1 g2 => rw [h1] at g1; cases g1
    | err g1 g2 => rw [h1] at g1; cases g1; exact absurd h2 g2
    | stop g1 g2 _ => rw [h1] at g1; cases g1; rfl
    | ev g1 g2 g3 _ => rw [h1] at g1; cases g1; rw [h3] at g3; cases g3
  | ev h1 h2 h3 _ ih =>
    cases h' with
    | on g1 g2 => rw [h1] at g1; cases g1
    | err g1 g2 => rw [h1] at g1; cases g1; exact absurd h2 g2
    | stop g1 g2 g3 => rw [h1] at g1; cases g1; rw [h3] at g3; cases g3
    | ev g1 g2 g3 g4 => rw [h1] at g1; cases g1; rw [ih g4]
/-- the ways of a round -/
inductive SC (R : Rd) : Option NOut × Rd → Prop
  | fault (h : R.fault ≠ 0) : SC R (some (say R.fault), R)
  | starve (h : R.fault = 0) (h1 : 0 < R.left) (h2 : R.b = []) : SC R (some (say (waitR R).1), (waitR R).2)
  | pass (h : R.fault = 0) (h1 : 0 < R.left) (h2 : R.b ≠ []) (h3 : R.passing = true) : SC R (none, { R with b := R.b.drop R.left, left := R.left - R.b.length })
  | data (h : R.fault = 0) (h1 : 0 < R.left) (h2 : R.b ≠ []) (h3 : R.passing = false) : SC R (some ⟨{ ev0 with kind := 2, data := R.b.take R.left }, true, 0⟩, { R with b := R.b.drop R.left, left := R.left - R.b.length })
  | over (h : R.fault = 0) (h1 : R.left = 0) (h2 : R.b = []) : SC R (some (say (overR R).1), (overR R).2)
  | short1 (h : R.fault = 0) (h1 : R.left = 0) (h2 : R.b ≠ []) (h3 : (getV R.b 0).2.2 ≠ 0) : SC R (some (say (waitR R).1), (waitR R).2)
  | short2 (h : R.fault = 0) (h1 : R.left = 0) (h2 : R.b ≠ []) (h3 : (getV R.b 0).2.2 = 0) (h4 : (getV R.b (getV R.b 0).2.1).2.2 ≠ 0) : SC R (some (say (waitR R).1), (waitR R).2)
  | bad {k t0 s t : Nat} (h : R.fault = 0) (h1 : R.left = 0) (h2 : R.b ≠ []) (h3 : getV R.b 0 = (k, t0, 0)) (h4 : getV R.b t0 = (s, t, 0)) (h5 : chk R k s ≠ 0) : SC R (some (say (chk R k s)), { R with fault := chk R k s })
  | skip {k t0 s t : Nat} (h : R.fault = 0) (h1 : R.left = 0) (h2 : R.b ≠ []) (h3 : getV R.b 0 = (k, t0, 0)) (h4 : getV R.b t0 = (s, t, 0)) (h5 : chk R k s = 0) (h6 : k = 0 ∨ knoB k = false) : SC R (none, { R with b := R.b.drop t, left := s, passing := decide (k ≠ 0) })
  | more {k t0 s t : Nat} (h : R.fault = 0) (h1 : R.left = 0) (h2 : R.b ≠ []) (h3 : getV R.b 0 = (k, t0, 0)) (h4 : getV R.b t0 = (s, t, 0)) (h5 : chk R k s = 0) (h6 : ¬ (k = 0 ∨ knoB k = false)) (h7 : R.b.length < t + s) : SC R (some (say (waitR R).1), (waitR R).2)
  | push {k t0 s t : Nat} (h : R.fault = 0) (h1 : R.left = 0) (h2 : R.b ≠ []) (h3 : getV R.b 0 = (k, t0, 0)) (h4 : getV R.b t0 = (s, t, 0)) (h5 : chk R k s = 0) (h6 : ¬ (k = 0 ∨ knoB k = false)) (h7 : ¬ R.b.length < t + s) (h8 : k = 13) (h9 : (oneV ((R.b.drop t).take s)).2 = 0) : SC R (none, { R with b := R.b.drop (t + s) })
  | pushbad {k t0 s t : Nat} (h : R.fault = 0) (h1 : R.left = 0) (h2 : R.b ≠ []) (h3 : getV R.b 0 = (k, t0, 0)) (h4 : getV R.b t0 = (s, t, 0)) (h5 : chk R k s = 0) (h6 : ¬ (k = 0 ∨ knoB k = false)) (h7 : ¬ R.b.length < t + s) (h8 : k = 13) (h9 : (oneV ((R.b.drop t).take s)).2 ≠ 0) : SC R (some (say (oneV ((R.b.drop t).take s)).2), { R with b := R.b.drop (t + s), fault := (oneV ((R.b.drop t).take s)).2 })
  | whole {k t0 s t : Nat} (h : R.fault = 0) (h1 : R.left = 0) (h2 : R.b ≠ []) (h3 : getV R.b 0 = (k, t0, 0)) (h4 : getV R.b t0 = (s, t, 0)) (h5 : chk R k s = 0) (h6 : ¬ (k = 0 ∨ knoB k = false)) (h7 : ¬ R.b.length < t + s) (h8 : k ≠ 13) : SC R (some (wholeE { R with b := R.b.drop (t + s) } k ((R.b.drop t).take s)).1, (wholeE { R with b := R.b.drop (t + s) } k ((R.b.drop t).take s)).2)
theorem SC.eq {R : Rd} {x : Option NOut × Rd} (h : SC R x) : stepV R = x := by
  have hz : ∀ {n : Nat}, n = 0 → ¬ 0 < n := fun h => by omega
  cases h with
  | fault h => unfold stepV; rw [if_pos h]
  | starve h h1 h2 => unfold stepV; rw [if_neg (by simp [h]), if_pos h1, if_pos h2]
  | pass h h1 h2 h3 => unfold stepV; rw [if_neg (by simp [h]), if_pos h1, if_neg h2, if_pos h3]
  | data h h1 h2 h3 => unfold stepV; rw [if_neg (by simp [h]), if_pos h1, if_neg h2, if_neg (by simp [h3])]
  | over h h1 h2 => unfold stepV; rw [if_neg (by simp [h]), if_neg (hz h1), if_pos h2]
  | short1 h h1 h2 h3 => unfold stepV; rw [if_neg (by simp [h]), if_neg (hz h1), if_neg h2, if_pos h3]
  | short2 h h1 h2 h3 h4 => unfold stepV; rw [if_neg (by simp [h]), if_neg (hz h1), if_neg h2, if_neg (by simp [h3]), if_pos h4]
  | bad h h1 h2 h3 h4 h5 => unfold stepV; rw [if_neg (by simp [h]), if_neg (hz h1), if_neg h2, h3]; simp only; rw [if_neg (by simp), h4]; simp only; rw [if_neg (by simp)]; unfold frameV; rw [if_pos h5]
  | skip h h1 h2 h3 h4 h5 h6 => unfold stepV; rw [if_neg (by simp [h]), if_neg (hz h1), if_neg h2, h3]; simp only; rw [if_neg (by simp), h4]; simp only; rw [if_neg (by simp)]; unfold frameV; rw [if_neg (by simp [h5]), if_pos h6]
  | more h h1 h2 h3 h4 h5 h6 h7 => unfold stepV; rw [if_neg (by simp [h]), if_neg (hz h1), if_neg h2, h3]; simp only; rw [if_neg (by simp), h4]; simp only; rw [if_neg (by simp)]; unfold frameV; rw [if_neg (by simp [h5]), if_neg h6, if_pos h7]
  | push h h1 h2 h3 h4 h5 h6 h7 h8 h9 => unfold stepV; rw [if_neg (by simp [h]), if_neg (hz h1), if_neg h2, h3]; simp only; rw [if_neg (by simp), h4]; simp only; rw [if_neg (by simp)]; unfold frameV; rw [if_neg (by simp [h5]), if_neg h6, if_neg h7, if_pos h8, if_pos h9]
  | pushbad h h1 h2 h3 h4 h5 h6 h7 h8 h9 => unfold stepV; rw [if_neg (by simp [h]), if_neg (hz h1), if_neg h2, h3]; simp only; rw [if_neg (by simp), h4]; simp only; rw [if_neg (by simp)]; unfold frameV; rw [if_neg (by simp [h5]), if_neg h6, if_neg h7, if_pos h8, if_neg h9]
  | whole h h1 h2 h3 h4 h5 h6 h7 h8 => unfold stepV; rw [if_neg (by simp [h]), if_neg (hz h1), if_neg h2, h3]; simp only; rw [if_neg (by simp), h4]; simp only; rw [if_neg (by simp)]; unfold frameV; rw [if_neg (by simp [h5]), if_neg h6, if_neg h7, if_neg h8]
theorem stepV_sc (R : Rd) : SC R (stepV R) := by
  by_cases h : R.fault = 0
  case neg => have := SC.fault h; rwa [this.eq]
  by_cases h1 : 0 < R.left
  · by_cases h2 : R.b = []
    · have := SC.starve h h1 h2; rwa [this.eq]
    · cases h3 : R.passing with
      | true => have := SC.pass h h1 h2 h3; rwa [this.eq]
      | false => have := SC.data h h1 h2 h3; rwa [this.eq]
  · have h1 : R.left = 0 := by omega
    by_cases h2 : R.b = []
    · have := SC.over h h1 h2; rwa [this.eq]
    · by_cases h3 : (getV R.b 0).2.2 = 0
      case neg => have := SC.short1 h h1 h2 h3; rwa [this.eq]
      by_cases h4 : (getV R.b (getV R.b 0).2.1).2.2 = 0
      case neg => have := SC.short2 h h1 h2 h3 h4; rwa [this.eq]
      obtain ⟨k, t0, z, e3⟩ : ∃ k t0 z, getV R.b 0 = (k, t0, z) := ⟨_, _, _, rfl⟩
      rw [e3] at h3 h4
      obtain rfl : z = 0 := h3
      obtain ⟨s, t, z, e4⟩ : ∃ s t z, getV R.b t0 = (s, t, z) := ⟨_, _, _, rfl⟩
      simp only [e4] at h4
      obtain rfl : z = 0 := h4
      by_cases h5 : chk R k s = 0
      case neg => have := SC.bad h h1 h2 e3 e4 h5; rwa [this.eq]
      by_cases h6 : k = 0 ∨ knoB k = false
      case pos => have := SC.skip h h1 h2 e3 e4 h5 h6; rwa [this.eq]
      by_cases h7 : R.b.length < t + s
      case pos => have := SC.more h h1 h2 e3 e4 h5 h6 h7; rwa [this.eq]
      by_cases h8 : k = 13
      case neg => have := SC.whole h h1 h2 e3 e4 h5 h6 h7 h8; rwa [this.eq]
      by_cases h9 : (oneV ((R.b.drop t).take s)).2 = 0
      case pos => have := SC.push h h1 h2 e3 e4 h5 h6 h7 h8 h9; rwa [this.eq]
      case neg => have := SC.pushbad h h1 h2 e3 e4 h5 h6 h7 h8 h9; rwa [this.eq]
theorem waitR_no {R : Rd} (h : R.ended = false) : waitR R = (0, R) := by unfold waitR; rw [h]; rfl
theorem overR_no {R : Rd} (h : R.ended = false) : overR R = (0, R) := by unfold overR; rw [if_pos h]
theorem wait_ended (R : Rd) : (waitR R).2.ended = R.ended := by unfold waitR; split <;> rfl
theorem over_ended (R : Rd) : (overR R).2.ended = R.ended := by unfold overR; split <;> (try rfl); split <;> (try rfl); split <;> rfl
theorem whole_ended (R : Rd) (k : Int) (pl : List UInt8) : (wholeE R k pl).2.ended = R.ended := by
  unfold wholeE; split <;> (try rfl); split <;> (try rfl)
  · split <;> rfl
  · split <;> rfl
theorem whole_b (R : Rd) (k : Int) (pl : List UInt8) : (wholeE R k pl).2.b = R.b := by
  unfold wholeE; split <;> (try rfl); split <;> (try rfl)
  · split <;> rfl
  · split <;> rfl
theorem whole_ok (R : Rd) (k : Int) (pl : List UInt8) : ((wholeE R k pl).1.z = 0 → (wholeE R k pl).1.ok = true) ∧ (wholeE R k pl).1.ev.kind ≠ 2 := by
  unfold wholeE
  split
  · exact ⟨fun _ => rfl, by show (1:Int) ≠ 2; decide⟩
  · split
    · split
      · exact ⟨fun _ => rfl, by show (4:Int) ≠ 2; decide⟩
      · rename_i h; exact ⟨fun e => absurd e h, by show (0:Int) ≠ 2; decide⟩
    · split
      · exact ⟨fun _ => rfl, by show (3:Int) ≠ 2; decide⟩
      · rename_i h; exact ⟨fun e => absurd e h, by show (0:Int) ≠ 2; decide⟩
theorem step_ended (R : Rd) : (stepV R).2.ended = R.ended := by
  have h := stepV_sc R
  revert h
  generalize stepV R = x
  intro h
  cases h with
  | starve | short1 | short2 | more => exact wait_ended R
  | over => exact over_ended R
  | whole => exact (whole_ended _ _ _)
  | _ => rfl
/-- an answer that goes on takes bytes -/
theorem step_takes {R R' : Rd} {o : NOut} (h : stepV R = (some o, R')) (ho : o.ok = true) : R'.b.length < R.b.length := by
  have hs := stepV_sc R
  rw [h] at hs
  obtain ⟨x, hx⟩ : ∃ x, x = (some o, R') := ⟨_, rfl⟩
  rw [← hx] at hs
  cases hs with
  | data h0 h1 h2 h3 =>
    cases hx
    show (R.b.drop R.left).length < _
    have : 0 < R.b.length := List.length_pos_iff.2 h2
    rw [List.length_drop]; omega
  | @whole k t0 s t h0 h1 h2 h3 h4 h5 h6 h7 h8 =>
    cases hx
    rw [whole_b]
    show (R.b.drop (t + s)).length < _
    have g := getV_gt R.b t0 (by rw [h4])
    rw [h4] at g
    have g' : t0 < t := g
    have : 0 < R.b.length := List.length_pos_iff.2 h2
    rw [List.length_drop]; omega
  | _ => cases hx <;> cases ho
theorem Runs.total : ∀ (n : Nat) (R : Rd), R.b.length ≤ n → ∃ r, Runs R r := by
  intro n
  induction n with
  | zero =>
    intro R hn
    obtain ⟨o, R', e⟩ : ∃ o R', stepV R = (o, R') := ⟨_, _, rfl⟩
    cases o with
    | none => have := stepV_less R (by rw [e]); omega
    | some o =>
      by_cases hz : o.z = 0
      · cases hk : o.ok with
        | false => exact ⟨_, .stop e hz hk⟩
        | true => have := step_takes e hk; omega
      · exact ⟨_, .err e hz⟩
  | succ n ih =>
    intro R hn
    obtain ⟨o, R', e⟩ : ∃ o R', stepV R = (o, R') := ⟨_, _, rfl⟩
    cases o with
    | none =>
      have h1 := stepV_less R (by rw [e])
      rw [e] at h1
      obtain ⟨r, hr⟩ := ih R' (by have : R'.b.length < R.b.length := h1; omega)
      exact ⟨r, .on e hr⟩
    | some o =>
      by_cases hz : o.z = 0
      · cases hk : o.ok with
        | false => exact ⟨_, .stop e hz hk⟩
        | true =>
          obtain ⟨r, hr⟩ := ih R' (by have := step_takes e hk; omega)
          exact ⟨_, .ev e hz hk hr⟩
      · exact ⟨_, .err e hz⟩
theorem Runs.ended {R : Rd} {r : Res} (h : Runs R r) : r.R.ended = R.ended := by
  induction h with
  | @on R R' r h1 _ ih => have := step_ended R; rw [h1] at this; rw [ih]; exact this
  | @err R R' o h1 _ => have := step_ended R; rw [h1] at this; exact this
  | @stop R R' o h1 _ _ => have := step_ended R; rw [h1] at this; exact this
  | @ev R R' o r h1 _ _ _ ih => have := step_ended R; rw [h1] at this; rw [Res.cons_R, ih]; exact this

/-- more bytes, and whether there are no more -/
def ext (R : Rd) (m : List UInt8) (en : Bool) : Rd := { R with b := R.b ++ m, ended := en }
theorem getV_app {l : List UInt8} {t : Nat} {r : Nat × Nat} (m : List UInt8) (h : getV l t = (r.1, r.2, 0)) : getV (l ++ m) t = (r.1, r.2, 0) := by
  unfold getV at h ⊢
  by_cases h1 : l.length < t
  · rw [if_pos h1] at h; simp at h
  · rw [if_neg h1] at h
    rw [if_neg (by rw [List.length_append]; omega), List.drop_append_of_le_length (by omega)]
    cases hd : l.drop t with
    | nil => rw [hd] at h; simp at h
    | cons x q =>
      rw [hd] at h
      simp only [List.cons_append] at h ⊢
      by_cases h2 : q.length + 1 < szB x
      · rw [if_pos h2] at h; simp at h
      · rw [if_neg h2] at h
        rw [if_neg (by rw [List.length_append]; omega), List.take_append_of_le_length (by omega)]
        exact h
theorem getV_in {l : List UInt8} {k t0 s t : Nat} (h3 : getV l 0 = (k, t0, 0)) (h4 : getV l t0 = (s, t, 0)) : t ≤ l.length := by
  have h1 := getV_le l 0 (by rw [h3]) (Nat.zero_le _)
  rw [h3] at h1
  have h2 := getV_le l t0 (by rw [h4]) h1
  rw [h4] at h2
  exact h2
theorem wholeE_ext (R : Rd) (m : List UInt8) (en : Bool) (k : Int) (pl : List UInt8) : wholeE (ext R m en) k pl = ((wholeE R k pl).1, ext (wholeE R k pl).2 m en) := by
  unfold wholeE
  split
  · rfl
  · split
    · split <;> rfl
    · split <;> rfl
/-- a round, with more bytes behind it: nothing was told; or it is the same; or the frame's bytes go on -/
theorem step_ext (R : Rd) (m : List UInt8) (en : Bool) (he : R.ended = false) :
    stepV R = (some (say 0), R) ∨ (stepV (ext R m en) = ((stepV R).1, ext (stepV R).2 m en) ∧ ∀ o, (stepV R).1 = some o → o.z = 0 → o.ok = true) ∨
      (R.fault = 0 ∧ R.b ≠ [] ∧ R.b.length < R.left) := by
  have hs := stepV_sc R
  revert hs
  generalize stepV R = x
  intro hs
  cases hs with
  | fault h =>
    refine .inr (.inl ⟨(SC.fault (R := ext R m en) h).eq, fun o e hz => ?_⟩)
    cases e; exact absurd hz h
  | starve h h1 h2 => left; rw [waitR_no he]
  | short1 h h1 h2 => left; rw [waitR_no he]
  | short2 h h1 h2 => left; rw [waitR_no he]
  | more h h1 h2 => left; rw [waitR_no he]
  | over h h1 h2 => left; rw [overR_no he]
  | pass h h1 h2 h3 =>
    by_cases hl : R.b.length < R.left
    · exact .inr (.inr ⟨h, h2, hl⟩)
    · refine .inr (.inl ⟨?_, fun o e => by cases e⟩)
      have q := (SC.pass (R := ext R m en) h h1 (by simp [ext, h2]) h3).eq
      rw [q]
      simp only [ext]
      rw [List.drop_append_of_le_length (by omega), List.length_append]
      have e1 : R.left - (R.b.length + m.length) = R.left - R.b.length := by omega
      rw [e1]
  | data h h1 h2 h3 =>
    by_cases hl : R.b.length < R.left
    · exact .inr (.inr ⟨h, h2, hl⟩)
    · refine .inr (.inl ⟨?_, fun o e _ => by cases e; rfl⟩)
      have q := (SC.data (R := ext R m en) h h1 (by simp [ext, h2]) h3).eq
      rw [q]
      simp only [ext]
      rw [List.drop_append_of_le_length (by omega), List.take_append_of_le_length (by omega), List.length_append]
      have e1 : R.left - (R.b.length + m.length) = R.left - R.b.length := by omega
      rw [e1]
  | @bad k t0 s t h h1 h2 h3 h4 h5 =>
    refine .inr (.inl ⟨(SC.bad (R := ext R m en) h h1 (by simp [ext, h2]) (getV_app (r := (k, t0)) m h3) (getV_app (r := (s, t)) m h4) h5).eq, fun o e hz => ?_⟩)
    cases e; exact absurd hz h5
  | @skip k t0 s t h h1 h2 h3 h4 h5 h6 =>
    refine .inr (.inl ⟨?_, fun o e hz => by cases e⟩)
    have q := (SC.skip (R := ext R m en) h h1 (by simp [ext, h2]) (getV_app (r := (k, t0)) m h3) (getV_app (r := (s, t)) m h4) h5 h6).eq
    rw [q]
    simp only [ext]
    rw [List.drop_append_of_le_length (getV_in h3 h4)]
  | @push k t0 s t h h1 h2 h3 h4 h5 h6 h7 h8 h9 =>
    refine .inr (.inl ⟨?_, fun o e hz => by cases e⟩)
    have hlt := getV_in h3 h4
    have e1 : ((R.b ++ m).drop t).take s = (R.b.drop t).take s := by
      rw [List.drop_append_of_le_length hlt, List.take_append_of_le_length (by rw [List.length_drop]; omega)]
    have q := (SC.push (R := ext R m en) h h1 (by simp [ext, h2]) (getV_app (r := (k, t0)) m h3) (getV_app (r := (s, t)) m h4) h5 h6 (by simp only [ext, List.length_append]; omega) h8 (by simp only [ext]; rw [e1]; exact h9)).eq
    rw [q]
    simp only [ext]
    rw [List.drop_append_of_le_length (by omega)]
  | @pushbad k t0 s t h h1 h2 h3 h4 h5 h6 h7 h8 h9 =>
    have hlt := getV_in h3 h4
    have e1 : ((R.b ++ m).drop t).take s = (R.b.drop t).take s := by
      rw [List.drop_append_of_le_length hlt, List.take_append_of_le_length (by rw [List.length_drop]; omega)]
    refine .inr (.inl ⟨?_, fun o e hz => by cases e; exact absurd hz h9⟩)
    have q := (SC.pushbad (R := ext R m en) h h1 (by simp [ext, h2]) (getV_app (r := (k, t0)) m h3) (getV_app (r := (s, t)) m h4) h5 h6 (by simp only [ext, List.length_append]; omega) h8 (by simp only [ext]; rw [e1]; exact h9)).eq
    rw [q]
    simp only [ext]
    rw [List.drop_append_of_le_length (l₁ := R.b) (i := t + s) (by omega), e1]
  | @whole k t0 s t h h1 h2 h3 h4 h5 h6 h7 h8 =>
    have hlt := getV_in h3 h4
    have e1 : ((R.b ++ m).drop t).take s = (R.b.drop t).take s := by
      rw [List.drop_append_of_le_length hlt, List.take_append_of_le_length (by rw [List.length_drop]; omega)]
    refine .inr (.inl ⟨?_, fun o e hz => by cases e; exact (whole_ok _ _ _).1 hz⟩)
    have q := (SC.whole (R := ext R m en) h h1 (by simp [ext, h2]) (getV_app (r := (k, t0)) m h3) (getV_app (r := (s, t)) m h4) h5 h6 (by simp only [ext, List.length_append]; omega) h8).eq
    have e2 : ({ ext R m en with b := (ext R m en).b.drop (t + s) } : Rd) = ext { R with b := R.b.drop (t + s) } m en := by
      simp only [ext]
      rw [List.drop_append_of_le_length (by omega)]
    rw [q, e2, wholeE_ext]
    simp only [ext]
    rw [e1]
def Comb (r r2 res : Res) : Prop := res.out = r.out ++ r2.out ∧ res.body = r.body ++ r2.body ∧ res.z = r2.z ∧ res.R.done = r2.R.done
theorem Comb.cons {r r2 res : Res} (h : Comb r r2 res) (e : Ev) : Comb (r.cons e) r2 (res.cons e) := by
  obtain ⟨h1, h2, h3, h4⟩ := h
  unfold Res.cons
  split
  · exact ⟨h1, by simp [h2], h3, h4⟩
  · exact ⟨by simp [h1], h2, h3, h4⟩
theorem runs_ext {R : Rd} {r : Res} (h : Runs R r) (m : List UInt8) (en : Bool) (r2 : Res) : R.ended = false →
    ((r.z ≠ 0 ∧ r2 = ⟨[], [], r.z, r.R⟩) ∨ (r.z = 0 ∧ Runs (ext r.R m en) r2)) → ∃ res, Runs (ext R m en) res ∧ Comb r r2 res := by
  induction h with
  | @on R R' r h1 h2 ih =>
    intro he H
    have he' : R'.ended = false := by have := step_ended R; rw [h1] at this; rw [← he]; exact this
    obtain ⟨res, hres, hc⟩ := ih he' H
    rcases step_ext R m en he with q | ⟨q, _⟩ | ⟨q0, q1, q2⟩
    · rw [h1] at q; cases q
    · rw [h1] at q
      exact ⟨res, .on q hres, hc⟩
    · cases hp : R.passing with
      | false => rw [(SC.data q0 (by omega) q1 hp).eq] at h1; cases h1
      | true =>
        rw [(SC.pass q0 (by omega) q1 hp).eq] at h1
        cases h1
        have hq := (SC.pass (R := ext R m en) q0 (by simp only [ext]; omega) (by simp [ext, q1]) hp).eq
        by_cases hm : m = []
        · subst hm
          refine ⟨res, .on hq ?_, hc⟩
          simpa [ext] using hres
        · have hq2 := (SC.pass (R := ext { R with b := R.b.drop R.left, left := R.left - R.b.length } m en) q0 (by simp only [ext]; omega) (by simp [ext, hm]) hp).eq
          cases hres with
          | on g1 g2 =>
            rw [hq2] at g1
            cases g1
            refine ⟨res, .on hq ?_, hc⟩
            have e1 : (R.b ++ m).drop R.left = (R.b.drop R.left ++ m).drop (R.left - R.b.length) := by
              rw [List.drop_append, List.drop_append, List.drop_of_length_le (l := R.b) (by omega)]
              simp
            have e2 : R.left - (R.b ++ m).length = R.left - R.b.length - (R.b.drop R.left ++ m).length := by
              simp only [List.length_append, List.length_drop]; omega
            simp only [ext] at g2 ⊢
            rw [e1, e2]
            exact g2
          | err g1 _ => rw [hq2] at g1; cases g1
          | stop g1 _ _ => rw [hq2] at g1; cases g1
          | ev g1 _ _ _ => rw [hq2] at g1; cases g1
  | @err R R' o h1 h2 =>
    intro he H
    rcases H with ⟨_, rfl⟩ | ⟨H, _⟩
    · rcases step_ext R m en he with q | ⟨q, _⟩ | ⟨q0, q1, q2⟩
      · rw [h1] at q; cases q; exact absurd rfl h2
      · rw [h1] at q
        exact ⟨_, .err q h2, rfl, rfl, rfl, rfl⟩
      · cases hp : R.passing with
        | false => rw [(SC.data q0 (by omega) q1 hp).eq] at h1; cases h1; exact absurd rfl h2
        | true => rw [(SC.pass q0 (by omega) q1 hp).eq] at h1; cases h1
    · exact absurd H h2
  | @stop R R' o h1 h2 h3 =>
    intro he H
    rcases step_ext R m en he with q | ⟨q, q'⟩ | ⟨q0, q1, q2⟩
    · rw [h1] at q; cases q
      rcases H with ⟨H, _⟩ | ⟨_, H⟩
      · exact absurd rfl H
      · exact ⟨r2, H, rfl, rfl, rfl, rfl⟩
    · rw [h1] at q'
      have := q' o rfl h2
      rw [h3] at this; cases this
    · cases hp : R.passing with
      | false => rw [(SC.data q0 (by omega) q1 hp).eq] at h1; cases h1; cases h3
      | true => rw [(SC.pass q0 (by omega) q1 hp).eq] at h1; cases h1
  | @ev R R' o r h1 h2 h3 h4 ih =>
    intro he H
    have he' : R'.ended = false := by have := step_ended R; rw [h1] at this; rw [← he]; exact this
    rw [Res.cons_z, Res.cons_R] at H
    obtain ⟨res, hres, hc⟩ := ih he' H
    rcases step_ext R m en he with q | ⟨q, _⟩ | ⟨q0, q1, q2⟩
    · rw [h1] at q; cases q; cases h3
    · rw [h1] at q
      exact ⟨_, .ev q h2 h3 hres, hc.cons _⟩
    · cases hp : R.passing with
      | true => rw [(SC.pass q0 (by omega) q1 hp).eq] at h1; cases h1
      | false =>
        rw [(SC.data q0 (by omega) q1 hp).eq] at h1
        cases h1
        have hq := (SC.data (R := ext R m en) q0 (by simp only [ext]; omega) (by simp [ext, q1]) hp).eq
        by_cases hm : m = []
        · subst hm
          have := Runs.ev hq rfl rfl (r := res) (by simpa [ext] using hres)
          refine ⟨_, this, ?_⟩
          simp only [ext, List.append_nil]
          exact hc.cons _
        · have hq2 := (SC.data (R := ext { R with b := R.b.drop R.left, left := R.left - R.b.length } m en) q0 (by simp only [ext]; omega) (by simp [ext, hm]) hp).eq
          cases hres with
          | on g1 _ => rw [hq2] at g1; cases g1
          | err g1 g2 => rw [hq2] at g1; cases g1; exact absurd rfl g2
          | stop g1 _ g3 => rw [hq2] at g1; cases g1; cases g3
          | @ev _ _ o' res' g1 _ _ g4 =>
            rw [hq2] at g1
            cases g1
            have e1 : (R.b ++ m).drop R.left = (R.b.drop R.left ++ m).drop (R.left - R.b.length) := by
              rw [List.drop_append, List.drop_append, List.drop_of_length_le (l := R.b) (by omega)]
              simp
            have e2 : R.left - (R.b ++ m).length = R.left - R.b.length - (R.b.drop R.left ++ m).length := by
              simp only [List.length_append, List.length_drop]; omega
            have g5 := Runs.ev hq rfl rfl (r := res') (by
              simp only [ext] at g4 ⊢
              rw [e1, e2]
              exact g4)
            refine ⟨_, g5, ?_⟩
            obtain ⟨c1, c2, c3, c4⟩ := hc
            simp only [Res.cons, ext, if_true] at c1 c2 c3 c4 ⊢
            refine ⟨c1, ?_, c3, c4⟩
            show (R.b ++ m).take R.left ++ res'.body = (R.b.take R.left ++ r.body) ++ r2.body
            have c2' : (R.b.drop R.left ++ m).take (R.left - R.b.length) ++ res'.body = r.body ++ r2.body := c2
            rw [List.append_assoc, ← c2', ← List.append_assoc]
            congr 1
            rw [List.drop_of_length_le (by omega), List.nil_append, List.take_append, List.take_of_length_le (l := R.b) (by omega)]

/-- the first piece's length -/
def cutN (n : Nat) : List Int → Nat
  | c :: _ => if 0 < c ∧ c < n then c.toNat else n
  | [] => n
theorem cutN_le (n : Nat) (cs : List Int) : cutN n cs ≤ n := by
  cases cs with
  | nil => exact Nat.le_refl _
  | cons c r => simp only [cutN]; split <;> omega
inductive AllP : Rd → List UInt8 → List Int → Res → Prop
  | last {R : Rd} {l : List UInt8} {cs : List Int} {r : Res} : cutN l.length cs = l.length → Runs (ext R l true) r → AllP R l cs r
  | err {R : Rd} {l : List UInt8} {cs : List Int} {r : Res} : cutN l.length cs ≠ l.length → Runs { R with b := R.b ++ l.take (cutN l.length cs) } r → r.z ≠ 0 → AllP R l cs r
  | more {R : Rd} {l : List UInt8} {cs : List Int} {r r' : Res} : cutN l.length cs ≠ l.length → Runs { R with b := R.b ++ l.take (cutN l.length cs) } r → r.z = 0 → AllP r.R (l.drop (cutN l.length cs)) cs.tail r' → AllP R l cs ⟨r.out ++ r'.out, r.body ++ r'.body, r'.z, r'.R⟩
theorem cutN_pos {n : Nat} {cs : List Int} (h : cutN n cs ≠ n) : 0 < cutN n cs := by
  cases cs with
  | nil => exact absurd rfl h
  | cons c r => simp only [cutN] at h ⊢; split <;> rename_i h1
                · omega
                · rw [if_neg h1] at h; exact absurd rfl h
theorem AllP.total : ∀ (n : Nat) (R : Rd) (l : List UInt8) (cs : List Int), l.length ≤ n → ∃ r, AllP R l cs r := by
  intro n
  induction n with
  | zero =>
    intro R l cs hn
    obtain ⟨r, hr⟩ := Runs.total _ (ext R l true) (Nat.le_refl _)
    exact ⟨r, .last (by have := cutN_le l.length cs; omega) hr⟩
  | succ n ih =>
    intro R l cs hn
    by_cases hc : cutN l.length cs = l.length
    · obtain ⟨r, hr⟩ := Runs.total _ (ext R l true) (Nat.le_refl _)
      exact ⟨r, .last hc hr⟩
    · obtain ⟨r, hr⟩ := Runs.total _ { R with b := R.b ++ l.take (cutN l.length cs) } (Nat.le_refl _)
      by_cases hz : r.z = 0
      · obtain ⟨r', hr'⟩ := ih r.R (l.drop (cutN l.length cs)) cs.tail (by
          have := cutN_pos hc
          rw [List.length_drop]; omega)
        exact ⟨_, .more hc hr hz hr'⟩
      · exact ⟨r, .err hc hr hz⟩
/-- how the bytes are cut makes no difference -/
theorem AllP.same {R : Rd} {l : List UInt8} {cs : List Int} {r : Res} (h : AllP R l cs r) : ∀ r0, R.ended = false → Runs (ext R l true) r0 → r.out = r0.out ∧ r.body = r0.body ∧ r.z = r0.z ∧ r.R.done = r0.R.done := by
  induction h with
  | last h1 h2 =>
    intro r0 he h0
    rw [h2.det h0]
    exact ⟨rfl, rfl, rfl, rfl⟩
  | @err R l cs r h1 h2 h3 =>
    intro r0 he h0
    obtain ⟨res, g1, g2, g3, g4, g5⟩ := runs_ext h2 (l.drop (cutN l.length cs)) true ⟨[], [], r.z, r.R⟩ he (.inl ⟨h3, rfl⟩)
    have e : ext { R with b := R.b ++ l.take (cutN l.length cs) } (l.drop (cutN l.length cs)) true = ext R l true := by
      simp only [ext]; rw [List.append_assoc, List.take_append_drop]
    rw [e] at g1
    rw [h0.det g1]
    exact ⟨by simpa using g2.symm, by simpa using g3.symm, g4.symm, g5.symm⟩
  | @more R l cs r r' h1 h2 h3 h4 ih =>
    intro r0 he h0
    have he' : r.R.ended = false := by rw [h2.ended]; exact he
    obtain ⟨r1, hr1⟩ := Runs.total _ (ext r.R (l.drop (cutN l.length cs)) true) (Nat.le_refl _)
    obtain ⟨i1, i2, i3, i4⟩ := ih r1 he' hr1
    obtain ⟨res, g1, g2, g3, g4, g5⟩ := runs_ext h2 (l.drop (cutN l.length cs)) true r1 he (.inr ⟨h3, hr1⟩)
    have e : ext { R with b := R.b ++ l.take (cutN l.length cs) } (l.drop (cutN l.length cs)) true = ext R l true := by
      simp only [ext]; rw [List.append_assoc, List.take_append_drop]
    rw [e] at g1
    rw [h0.det g1]
    exact ⟨by rw [g2, i1], by rw [g3, i2], by rw [g4, i3], by rw [g5, i4]⟩
end Go.Proofs.Ytbplmnmkgkgkhaa

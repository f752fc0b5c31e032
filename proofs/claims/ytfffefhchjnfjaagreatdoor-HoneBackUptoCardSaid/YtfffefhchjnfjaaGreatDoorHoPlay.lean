/- The law's all: its plain course, its state, its walk. Conditions: the sizes, the library's variables. -/
import Derived.Test.YtfffefhchjnfjaaGreatDoorHoRdr
import Derived.Test.YtfffefhchjnfjaaGreatDoorCopy
namespace Go.Proofs.YtfffefhchjnfjaaGreatDoor
open Go.RowKit

def Lf (s : HSt) : Prop := s.left ≤ 1000000000000000
/-- what a step's answer costs: the bytes that it tells and the bytes that are left are among those that there were -/
def Cost (s : HSt) (p : HSt × Out) : Prop := p.1.b.length + dl p.2 ≤ s.b.length ∧ Lf p.1
theorem cost_wait {s : HSt} (h : Lf s) : Cost s (waitV s) := by
  unfold Cost
  rw [dl_wait]
  exact ⟨Nat.le_refl _, h⟩
theorem cost_end {s : HSt} (h : Lf s) (l : List Fd) : Cost s (endV s l) := ⟨Nat.le_refl _, h⟩
theorem cost_left {s : HSt} (h : Lf s) : Cost s (leftV s) := by
  unfold leftV
  split
  · exact cost_wait h
  · refine ⟨?_, ?_⟩
    · show (s.b.drop _).length + (s.b.take _).length ≤ _
      rw [List.length_drop, List.length_take]; omega
    · unfold Lf at *; show s.left - _ ≤ _; omega
theorem cost_piece {s : HSt} (h : Lf s) (n : Nat) : Cost s (pieceV s n) := by
  unfold pieceV
  split
  · exact cost_wait h
  · refine ⟨?_, h⟩
    show (s.b.drop _).length + (s.b.take _).length ≤ _
    rw [List.length_drop, List.length_take]; omega
theorem cost_mono {s t : HSt} {p : HSt × Out} (h : Cost t p) (hb : t.b.length ≤ s.b.length) : Cost s p := ⟨Nat.le_trans h.1 hb, h.2⟩
theorem cost_bad {s t : HSt} (h : Lf t) (hb : t.b.length ≤ s.b.length) (e : Int) : Cost s (t, .bad e) := ⟨hb, h⟩
theorem cost_none {s t : HSt} (h : Lf t) (hb : t.b.length ≤ s.b.length) : Cost s (t, .none) := ⟨hb, h⟩
theorem cost_trail {s : HSt} (h : Lf s) (lim : Nat) : Cost s (trailV lim s) := by
  unfold trailV
  split
  · exact cost_mono (cost_end (s := { s with b := s.b.drop 2 }) h []) (by show (s.b.drop 2).length ≤ _; rw [List.length_drop]; omega)
  · split
    · exact cost_wait h
    · cases hb : blkV lim s.b s.ended with
      | wait => exact cost_none h (Nat.le_refl _)
      | bad e => exact cost_bad h (Nat.le_refl _) e
      | ok ls r =>
        have hl := (blk_ok hb [] s.ended).2
        simp only
        cases fieldsH ls with
        | bad e => exact cost_bad h (Nat.le_refl _) e
        | ok l =>
          simp only
          split
          · exact cost_bad h (Nat.le_refl _) 202
          · exact cost_mono (cost_end (s := { s with b := r }) h l) (by show r.length ≤ _; omega)
theorem cost_chunk {s : HSt} (h : Lf s) (lim : Nat) : Cost s (chunkV lim s) := by
  unfold chunkV
  cases hc : cutL (s.b.take 10) with
  | none =>
    simp only
    split
    · exact cost_bad h (Nat.le_refl _) 203
    · exact cost_wait h
  | some xr =>
    obtain ⟨x, r⟩ := xr
    have hlt := cut_lt hc
    rw [List.length_take] at hlt
    simp only
    split
    · exact cost_bad h (Nat.le_refl _) 203
    · cases hx : hexAc 0 x with
      | none => exact cost_bad h (Nat.le_refl _) 203
      | some n =>
        have hn := hexAc_32 (l := x) (by omega) hx
        simp only
        split
        · exact cost_mono (cost_trail (s := { s with b := s.b.drop (x.length + 2), stp := .trailers }) h lim) (by show (s.b.drop _).length ≤ _; rw [List.length_drop]; omega)
        · exact cost_mono (cost_left (s := { s with b := s.b.drop (x.length + 2), left := n, stp := .piece }) (by unfold Lf; show n ≤ _; omega)) (by show (s.b.drop _).length ≤ _; rw [List.length_drop]; omega)
theorem lenH_lt {l : List UInt8} {n : Nat} (h : lengthH l = some n) : n < 1000000000000000 := by
  unfold lengthH at h
  split at h
  · cases h
  · rename_i hc
    cases h
    have h1 : l.all digC = true := by
      cases ha : l.all digC with
      | true => rfl
      | false => exact absurd (.inr (.inr ha)) hc
    have h2 := natV_lt h1
    have h3 : 10 ^ l.length ≤ 10 ^ 15 := Nat.pow_le_pow_right (by decide) (by
      rcases Nat.lt_or_ge 15 l.length with h | h
      · exact absurd (.inr (.inl h)) hc
      · exact h)
    omega
theorem frameH_lt (old : Bool) : ∀ {l : List Fd} {c : Bool} {z : Option Nat} {cd : Bool} {sz : Option Nat}, (∀ m, z = some m → m ≤ 1000000000000000) → frameH old l c z = .ok (cd, sz) → ∀ m, sz = some m → m ≤ 1000000000000000
  | [], c, z, cd, sz, hz, h => by
    unfold frameH at h
    split at h
    · cases h
    · cases h; exact hz
  | f :: r, c, z, cd, sz, hz, h => by
    unfold frameH at h
    split at h
    · split at h
      · cases h
      · exact frameH_lt old hz h
    · split at h
      · cases hl : lengthH (bl f.va) with
        | none => rw [hl] at h; cases h
        | some n =>
          rw [hl] at h
          simp only at h
          split at h
          · cases h
          · exact frameH_lt old (fun m hm => by cases hm; exact Nat.le_of_lt (lenH_lt hl)) h
      · exact frameH_lt old hz h
theorem begin_lf (head : Bool) {s : HSt} (h : Lf s) (st : Nat) (cd : Bool) (sz : Option Nat) (hz : ∀ m, sz = some m → m ≤ 1000000000000000) : Lf (beginV head s st cd sz) ∧ (beginV head s st cd sz).b = s.b := by
  unfold beginV
  split
  · exact ⟨h, rfl⟩
  · split
    · exact ⟨h, rfl⟩
    · cases sz with
      | none => exact ⟨h, rfl⟩
      | some n => exact ⟨hz n rfl, rfl⟩
theorem cost_head (head : Bool) (lim : Nat) : ∀ (n : Nat) {s : HSt}, Lf s → Cost s (headG head lim n s)
  | 0, s, h => ⟨Nat.le_refl _, h⟩
  | n + 1, s, h => by
    unfold headG
    cases hb : blkV lim s.b s.ended with
    | wait => exact cost_none h (Nat.le_refl _)
    | bad e => exact cost_bad h (Nat.le_refl _) e
    | ok ls r =>
      have hl := (blk_ok hb [] s.ended).2
      simp only
      cases statusH (ls.headD []) with
      | bad e => exact cost_bad h (Nat.le_refl _) e
      | ok v =>
        obtain ⟨st, old⟩ := v
        simp only
        cases fieldsH ls.tail with
        | bad e => exact cost_bad (t := { s with old := old }) h (Nat.le_refl _) e
        | ok l =>
          simp only
          cases hf : frameH old l false none with
          | bad e => exact cost_bad (t := { s with old := old }) h (Nat.le_refl _) e
          | ok v =>
            obtain ⟨coded, size⟩ := v
            have hz := frameH_lt old (fun m hm => by cases hm) hf
            simp only
            split
            · obtain ⟨h1, h2⟩ := begin_lf head (s := { s with old := old, b := r }) h st coded size hz
              refine ⟨?_, h1⟩
              show (beginV head { s with old := old, b := r } st coded size).b.length + 0 ≤ _
              rw [h2]; show r.length + 0 ≤ _; omega
            · exact cost_mono (cost_head head lim n (s := { s with old := old, b := r }) h) (by show r.length ≤ _; omega)
theorem cost_step (head : Bool) (lim : Nat) {s : HSt} (h : Lf s) : Cost s (stepV head lim s) := by
  unfold stepV
  split
  · exact cost_head head lim _ h
  · exact cost_end h []
  · split
    · exact cost_end h []
    · exact cost_left h
  · split
    · exact cost_end h []
    · exact cost_piece h _
  · exact cost_chunk h lim
  · unfold pieceS
    split
    · exact cost_left h
    · split
      · exact cost_bad h (Nat.le_refl _) 203
      · split
        · exact cost_wait h
        · exact cost_mono (cost_chunk (s := { s with b := s.b.drop 2, stp := .chunk }) h lim) (by show (s.b.drop 2).length ≤ _; rw [List.length_drop]; omega)
  · exact cost_trail h lim
/-- what Next tells, and what the run is then -/
theorem nx_ev {head : Bool} {lim : Nat} {s s' : HSt} {E : HEv} (a : Rs) (hf : s.fault = 0) (hl : Lf s) (h : nextV head lim s = (s', .ev E)) :
    runV head lim s a = runV head lim s' (a.add E) ∧ s'.fault = 0 ∧ s'.ended = s.ended ∧ mu s' < mu s ∧ Lf s' ∧ s'.b.length + dl (.ev E) ≤ s.b.length := by
  have hd : s.done = false := by
    cases hd : s.done with
    | false => rfl
    | true => rw [next_done hd hf] at h; cases h
  have hc := cost_step head lim hl
  have he := step_ended' head lim s
  have hm := step_less (head := head) (limit := lim) hd
  rw [next_step hd hf] at h
  rcases hst : stepV head lim s with ⟨t, o⟩
  rw [hst] at h hc he hm
  cases o with
  | none => cases h
  | bad x => cases h
  | ev E' =>
    cases h
    have := hm E rfl
    exact ⟨run_ev a hd hf hst, this.2.trans hf, he, this.1, hc.2, hc.1⟩
theorem nx_none {head : Bool} {lim : Nat} {s s' : HSt} (a : Rs) (hf : s.fault = 0) (hl : Lf s) (h : nextV head lim s = (s', .none)) :
    runV head lim s a = (s', a) ∧ s'.fault = 0 ∧ s'.ended = s.ended ∧ Lf s' ∧ s'.b.length ≤ s.b.length := by
  by_cases hd : s.done = true
  · rw [next_done hd hf] at h
    cases h
    exact ⟨run_done a hd hf, hf, rfl, hl, Nat.le_refl _⟩
  · have hd : s.done = false := by simpa using hd
    have hc := cost_step head lim hl
    have he := step_ended' head lim s
    have hm := shr_step head lim s
    rw [next_step hd hf] at h
    rcases hst : stepV head lim s with ⟨t, o⟩
    rw [hst] at h hc he hm
    cases o with
    | none =>
      cases h
      exact ⟨run_none a hd hf hst, hm.2.1.trans hf, he, hc.2, hc.1⟩
    | bad x => cases h
    | ev E' => cases h
theorem nx_bad {head : Bool} {lim : Nat} {s s' : HSt} {e : Int} (a : Rs) (hf : s.fault = 0) (h : nextV head lim s = (s', .bad e)) :
    runV head lim s a = (s', a) ∧ s'.fault = e ∧ e ≠ 0 := by
  by_cases hd : s.done = true
  · rw [next_done hd hf] at h
    cases h
  · have hd : s.done = false := by simpa using hd
    rw [next_step hd hf] at h
    rcases hst : stepV head lim s with ⟨t, o⟩
    rw [hst] at h
    cases o with
    | none => cases h
    | bad x =>
      cases h
      exact ⟨run_bad a hd hf hst, rfl, step_bad_ne hst⟩
    | ev E' => cases h
/-- how many bytes the next piece has -/
def pcN (cuts : List Int) (i len : Nat) : Nat := match cuts[i]? with
  | some c => if 0 < c ∧ c < (len : Int) then c.toNat else len
  | none => len
theorem pcN_le (cuts : List Int) (i len : Nat) : pcN cuts i len ≤ len := by
  unfold pcN
  split
  · split <;> omega
  · exact Nat.le_refl _
theorem pcN_pos (cuts : List Int) (i len : Nat) (h : 0 < len) : 0 < pcN cuts i len := by
  unfold pcN
  split
  · split <;> omega
  · exact h
/-- all: the state behind, what was read, how many bytes were not fed -/
def allG (head : Bool) (cuts : List Int) (fin : Bool) : Nat → Nat → List UInt8 → HSt → Rs → HSt × Rs × Nat
  | 0, _, rest, s, a => (s, a, rest.length)
  | k + 1, i, rest, s, a =>
    if (runV head 1048576 (moveV cuts fin i rest s) a).1.fault ≠ 0 ∨ (rest.drop (pcN cuts i rest.length)).length = 0 then
      ((runV head 1048576 (moveV cuts fin i rest s) a).1, (runV head 1048576 (moveV cuts fin i rest s) a).2, (rest.drop (pcN cuts i rest.length)).length)
    else allG head cuts fin k (i + 1) (rest.drop (pcN cuts i rest.length)) (runV head 1048576 (moveV cuts fin i rest s) a).1 (runV head 1048576 (moveV cuts fin i rest s) a).2
where
  /-- the state with the next piece fed, and perhaps the end -/
  moveV (cuts : List Int) (fin : Bool) (i : Nat) (rest : List UInt8) (s : HSt) : HSt := moreV (rest.take (pcN cuts i rest.length)) (decide ((rest.drop (pcN cuts i rest.length)).length = 0) && fin) s
def rs0 : Rs := ⟨none, [], []⟩
def allV (head : Bool) (b : List UInt8) (cuts : List Int) (fin : Bool) : HSt × Rs × Nat := allG head cuts fin (b.length + 1) 0 b s0 rs0
theorem allG_fuel (head : Bool) (cuts : List Int) (fin : Bool) : ∀ (n m i : Nat) (rest : List UInt8) (s : HSt) (a : Rs), rest.length < n → rest.length < m → allG head cuts fin n i rest s a = allG head cuts fin m i rest s a
  | 0, _, _, _, _, _, h, _ => by omega
  | _, 0, _, _, _, _, _, h => by omega
  | n + 1, m + 1, i, rest, s, a, h1, h2 => by
    unfold allG
    split
    · rfl
    · rename_i hc
      have hr : ¬ (rest.drop (pcN cuts i rest.length)).length = 0 := fun h => hc (.inr h)
      rw [List.length_drop] at hr
      have hp := pcN_pos cuts i rest.length (by omega)
      exact allG_fuel head cuts fin n m _ _ _ _ (by rw [List.length_drop]; omega) (by rw [List.length_drop]; omega)
/-- whatever the cuts: as if the bytes had come at once -/
theorem allG_runs (head : Bool) (cuts : List Int) (fin : Bool) : ∀ (n i : Nat) (rest : List UInt8) (s : HSt) (a : Rs), rest.length < n → s.ended = false → s.fault = 0 →
    ((allG head cuts fin n i rest s a).1.fault ≠ 0 → (runV head 1048576 (moreV rest fin s) a).1.fault ≠ 0) ∧
    ((allG head cuts fin n i rest s a).1.fault = 0 → allG head cuts fin n i rest s a = ((runV head 1048576 (moreV rest fin s) a).1, (runV head 1048576 (moreV rest fin s) a).2, 0))
  | 0, _, _, _, _, h, _, _ => by omega
  | n + 1, i, rest, s, a, hn, hs, hf => by
    obtain ⟨p, hp⟩ : ∃ p, p = rest.take (pcN cuts i rest.length) := ⟨_, rfl⟩
    obtain ⟨q, hq⟩ : ∃ q, q = rest.drop (pcN cuts i rest.length) := ⟨_, rfl⟩
    have hpq : rest = p ++ q := by rw [hp, hq, List.take_append_drop]
    have hu : allG head cuts fin (n + 1) i rest s a = if (runV head 1048576 (moreV p (decide (q.length = 0) && fin) s) a).1.fault ≠ 0 ∨ q.length = 0 then
      ((runV head 1048576 (moreV p (decide (q.length = 0) && fin) s) a).1, (runV head 1048576 (moreV p (decide (q.length = 0) && fin) s) a).2, q.length)
      else allG head cuts fin n (i + 1) q (runV head 1048576 (moreV p (decide (q.length = 0) && fin) s) a).1 (runV head 1048576 (moreV p (decide (q.length = 0) && fin) s) a).2 := by
      rw [hp, hq]; rfl
    rw [hu]
    by_cases h0 : q.length = 0
    · have hqn : q = [] := List.eq_nil_of_length_eq_zero h0
      have hpr : p = rest := by rw [hpq, hqn, List.append_nil]
      have hd : (decide (q.length = 0) && fin) = fin := by rw [decide_eq_true h0, Bool.true_and]
      rw [hd, if_pos (.inr h0), h0, hpr]
      exact ⟨fun h => h, fun _ => rfl⟩
    · have hd : (decide (q.length = 0) && fin) = false := by rw [decide_eq_false h0]; rfl
      rw [hd]
      have hm := run_more head 1048576 q fin (mu (moreV p false s) + 1) (moreV p false s) a (Nat.lt_succ_self _) rfl hf
      have hmm : moreV q fin (moreV p false s) = moreV rest fin s := by
        show ({ s with b := (s.b ++ p) ++ q, ended := fin } : HSt) = { s with b := s.b ++ rest, ended := fin }
        rw [hpq, List.append_assoc]
      rw [hmm] at hm
      by_cases hft : (runV head 1048576 (moreV p false s) a).1.fault = 0
      · rw [if_neg (fun h => h.elim (fun h => h hft) h0)]
        have hlen : q.length < n := by
          have hr : 0 < rest.length := by rw [hpq, List.length_append]; omega
          have hpp := pcN_pos cuts i rest.length hr
          rw [hq, List.length_drop]; omega
        have hen : (runV head 1048576 (moreV p false s) a).1.ended = false := by rw [run_ended]; rfl
        obtain ⟨k1, k2⟩ := allG_runs head cuts fin n (i + 1) q (runV head 1048576 (moreV p false s) a).1 (runV head 1048576 (moreV p false s) a).2 hlen hen hft
        rw [hm.2 hft]
        exact ⟨k1, k2⟩
      · rw [if_pos (.inl hft)]
        exact ⟨fun _ => hm.1 hft, fun h => absurd h hft⟩
where
  run_ended {head : Bool} {lim : Nat} {s : HSt} {a : Rs} : (runV head lim s a).1.ended = s.ended := by
    unfold runV
    exact go head lim _ s a
  go (head : Bool) (lim : Nat) : ∀ (n : Nat) (s : HSt) (a : Rs), (runG head lim n s a).1.ended = s.ended
    | 0, s, a => rfl
    | n + 1, s, a => by
      unfold runG
      have he := step_ended' head lim s
      unfold nextV
      by_cases hc : s.done = true ∨ s.fault ≠ 0
      · rw [if_pos hc]
        by_cases hz : s.fault = 0
        · rw [if_pos hz]
        · rw [if_neg hz]
      · rw [if_neg hc]
        rcases hst : stepV head lim s with ⟨t, o⟩
        rw [hst] at he
        cases o with
        | none => exact he
        | bad x => exact he
        | ev E => exact (go head lim n t (a.add E)).trans he
end Go.Proofs.YtfffefhchjnfjaaGreatDoor

namespace Go.Proofs.YtfffefhchjnfjaaGreatDoor
open Go.RowKit

/-- what was read, as cells -/
structure Xr where
  k : Int
  st : Int
  fa : Option Addr
  fn : Nat
  fc : Nat
  fr : Int
  ba : Option Addr
  bn : Nat
  bc : Nat
  ta : Option Addr
  tn : Nat
  tc : Nat
  ft : Int
  dn : Bool
  lf : Int
def Xr.cs (x : Xr) : List Value := [.int .i64 x.k, .int .i64 x.st, .slice x.fa x.fn x.fc, .int .i64 x.fr, .slice none 0 0, .slice x.ba x.bn x.bc, .slice x.ta x.tn x.tc, .int .i64 x.ft, .bool x.dn, .int .i64 x.lf]
def xr0 : Xr := ⟨0, 0, none, 0, 0, 0, none, 0, 0, none, 0, 0, 0, false, 0⟩
def Xr.row (x : Xr) (k : Nat) : Prop := (Value.slice x.ba x.bn x.bc).ownBlock = some k ∨ (Value.slice x.fa x.fn x.fc).ownBlock = some k ∨ (Value.slice x.ta x.tn x.tc).ownBlock = some k
def HdOk (B : Nat) (w : World) (x : Xr) : Option (Nat × List Fd × Int) → Prop
  | none => x.k = 0 ∧ x.st = 0 ∧ x.fa = none ∧ x.fn = 0 ∧ x.fc = 0 ∧ x.fr = 0
  | some (st, l, fr) => x.k = 1 ∧ x.st = (st : Int) ∧ x.fn = l.length ∧ x.fr = fr ∧ Sps w B x.fa x.fc l
structure Xr.Ok (B : Nat) (w : World) (x : Xr) (a : Rs) : Prop where
  hd : HdOk B w x a.hd
  bn : x.bn = a.body.length
  bd : w.ownsRow B 5 1 (.slice x.ba x.bn x.bc) x.bn (bv a.body)
  tr : (a.tr = [] ∧ x.ta = none ∧ x.tn = 0 ∧ x.tc = 0) ∨ (x.tn = a.tr.length ∧ Sps w B x.ta x.tc a.tr)
  d1 : ∀ k, (Value.slice x.ba x.bn x.bc).ownBlock = some k → (Value.slice x.fa x.fn x.fc).ownBlock ≠ some k ∧ (Value.slice x.ta x.tn x.tc).ownBlock ≠ some k
theorem xr0_ok (B : Nat) (w : World) : xr0.Ok B w rs0 := ⟨⟨rfl, rfl, rfl, rfl, rfl, rfl⟩, rfl, World.ownsRow_nil _ _ _ _, .inl ⟨rfl, rfl, rfl, rfl⟩, fun k h => by cases h⟩
theorem xr0_row (k : Nat) : ¬ xr0.row k := by rintro (h | h | h) <;> cases h
theorem Xr.Ok.row_ge {B : Nat} {w : World} {x : Xr} {a : Rs} (h : x.Ok B w a) : ∀ k, x.row k → B ≤ k ∧ k < w.heap.size := by
  rintro k (hk | hk | hk)
  · exact h.bd.lt k hk
  · have h1 := h.hd
    revert h1
    cases a.hd with
    | none => intro h1; rw [h1.2.2.1] at hk; cases hk
    | some v =>
      obtain ⟨st, l, fr⟩ := v
      intro h1
      have h2 := h1.2.2.2.2
      rw [h1.2.2.1] at hk
      exact h2.lt k hk
  · rcases h.tr with h1 | ⟨h1, h2⟩
    · rw [h1.2.1] at hk; cases hk
    · rw [h1] at hk; exact h2.lt k hk
theorem Xr.Ok.kept {X : Nat → Prop} {B : Nat} {w w' : World} {x : Xr} {a : Rs} (h : x.Ok B w a) (hk : Kept X w w') (hx : ∀ k, x.row k → ¬ X k) : x.Ok B w' a := by
  refine ⟨?_, h.bn, own_kept h.bd hk (fun k e => hx k (.inl e)), h.tr.imp id (fun h2 => ⟨h2.1, own_kept h2.2 hk (fun k e => hx k (.inr (.inr (by rw [h2.1]; exact e))))⟩), h.d1⟩
  have h1 := h.hd
  revert h1
  cases a.hd with
  | none => exact id
  | some v =>
    obtain ⟨st, l, fr⟩ := v
    intro h1
    exact ⟨h1.1, h1.2.1, h1.2.2.1, h1.2.2.2.1, own_kept h1.2.2.2.2 hk (fun k e => hx k (.inr (.inl (by rw [h1.2.2.1]; exact e))))⟩
/-- the state of all: from w0 on the reader lies at g, what was read at gx, the bytes left at ra -/
structure ASt (w0 wr : World) (g gx : Nat) (hd : Bool) (bk : Option Nat) (s : HSt) (x : Xr) (a : Rs) (ra : Option Addr) (rn rc : Nat) (rest : List UInt8) : Prop where
  rd : RdS wr g hd 1048576 bk s
  bx : Has wr gx 35 x.cs
  ok : x.Ok w0.heap.size wr a
  bl : Below w0.heap.size w0 wr
  gg : w0.heap.size ≤ g ∧ w0.heap.size ≤ gx ∧ g ≠ gx
  bb : ∀ k, bk = some k → w0.heap.size ≤ k ∧ k ≠ gx
  rw : ∀ k, x.row k → k ≠ g ∧ k ≠ gx ∧ bk ≠ some k
  rs : Sl wr ra rn rc (bv rest)
  cp : ∀ ad, ra = some ad → ad.block ≠ g ∧ ad.block ≠ gx ∧ bk ≠ some ad.block ∧ ¬ x.row ad.block ∧ ad.block < wr.heap.size
section
variable {w0 wr w' : World} {g gx : Nat} {hd : Bool} {bk : Option Nat} {s s' : HSt} {x x2 : Xr} {a a2 : Rs} {ra : Option Addr} {rn rc : Nat} {rest : List UInt8}
/-- the reader alone has moved -/
theorem ASt.step (h : ASt w0 wr g gx hd bk s x a ra rn rc rest) (hk : Kept (fun k => k = g) wr w') (hr : RdS w' g hd 1048576 bk s') : ASt w0 w' g gx hd bk s' x a ra rn rc rest :=
  ⟨hr, h.bx.kept hk (fun e => h.gg.2.2 e.symm), h.ok.kept hk (fun k hk => (h.rw k hk).1), h.bl.trans (hk.below h.bl.size (fun k e => by rw [e]; exact h.gg.1)), h.gg, h.bb, h.rw, h.rs.kept hk (fun ad ha => (h.cp ad ha).1),
    fun ad ha => ⟨(h.cp ad ha).1, (h.cp ad ha).2.1, (h.cp ad ha).2.2.1, (h.cp ad ha).2.2.2.1, Nat.lt_of_lt_of_le (h.cp ad ha).2.2.2.2 hk.size⟩⟩
/-- nothing but new memory -/
theorem ASt.below (h : ASt w0 wr g gx hd bk s x a ra rn rc rest) (hb : Below wr.heap.size wr w') : ASt w0 w' g gx hd bk s x a ra rn rc rest :=
  h.step (Kept.of_below hb) (h.rd.below hb)
/-- what was read has changed -/
theorem ASt.box (h : ASt w0 wr g gx hd bk s x a ra rn rc rest) (hk : Kept (fun k => k = gx) wr w') (hb : Has w' gx 35 x2.cs) (hok : x2.Ok w0.heap.size w' a2)
    (hrw : ∀ k, x2.row k → k ≠ g ∧ k ≠ gx ∧ bk ≠ some k) (hcp : ∀ ad, ra = some ad → ¬ x2.row ad.block) : ASt w0 w' g gx hd bk s x2 a2 ra rn rc rest :=
  ⟨h.rd.keptX hk h.gg.2.2 (fun k e e2 => (h.bb k e).2 e2), hb, hok, h.bl.trans (hk.below h.bl.size (fun k e => by rw [e]; exact h.gg.2.1)), h.gg, h.bb, hrw, h.rs.kept hk (fun ad ha => (h.cp ad ha).2.1),
    fun ad ha => ⟨(h.cp ad ha).1, (h.cp ad ha).2.1, (h.cp ad ha).2.2.1, hcp ad ha, Nat.lt_of_lt_of_le (h.cp ad ha).2.2.2.2 hk.size⟩⟩
/-- the numbers -/
theorem ASt.nums (h : ASt w0 wr g gx hd bk s x a ra rn rc rest) (ft : Int) (dn : Bool) (lf : Int) :
    ASt w0 (((wr.setCell ⟨gx, 7, none⟩ (.int .i64 ft)).setCell ⟨gx, 8, none⟩ (.bool dn)).setCell ⟨gx, 9, none⟩ (.int .i64 lf)) g gx hd bk s { x with ft := ft, dn := dn, lf := lf } a ra rn rc rest := by
  have hk : Kept (fun k => k = gx) wr (((wr.setCell ⟨gx, 7, none⟩ (.int .i64 ft)).setCell ⟨gx, 8, none⟩ (.bool dn)).setCell ⟨gx, 9, none⟩ (.int .i64 lf)) :=
    ((Kept.set wr gx 7 _).trans (Kept.set _ gx 8 _) (fun _ _ e => e)).trans (Kept.set _ gx 9 _) (fun _ _ e => e)
  have h1 := h.ok.kept hk (fun k hk => (h.rw k hk).2.1)
  refine h.box hk ?_ ⟨?_, h1.bn, h1.bd, h1.tr, h1.d1⟩ h.rw (fun ad ha => (h.cp ad ha).2.2.2.1)
  · exact ((h.bx.set 7 _).set 8 _).set 9 _
  · have h2 := h1.hd
    revert h2
    cases a.hd <;> exact id
/-- a step's answer: rows from B on -/
theorem ASt.head (h : ASt w0 wr g gx hd bk s x a ra rn rc rest) {B : Nat} (hB : w0.heap.size ≤ B) {fa : Option Addr} {fn fc st : Nat} {l : List Fd} {fr : Int} (hn : fn = l.length) (hs : Sps wr B fa fc l)
    (hold : ∀ k, x.row k → k < B) (hg : g < B ∧ gx < B ∧ ∀ k, bk = some k → k < B) (hcb : ∀ ad, ra = some ad → ad.block < B) :
    ASt w0 (wr.setCells gx 0 [.int .i64 1, .int .i64 (st : Int), .slice fa fn fc, .int .i64 fr, .slice none 0 0]) g gx hd bk s { x with k := 1, st := (st : Int), fa := fa, fn := fn, fc := fc, fr := fr } (a.add (.head st l fr)) ra rn rc rest := by
  have hk := Kept.sets gx [.int .i64 1, .int .i64 (st : Int), .slice fa fn fc, .int .i64 fr, .slice none 0 0] 0 wr
  have h1 := h.ok.kept hk (fun k hk => (h.rw k hk).2.1)
  have hsb : ∀ k, (Value.slice fa fn fc).ownBlock = some k → B ≤ k := fun k e => (hs.lt k (by rw [← hn]; exact e)).1
  refine h.box hk ?_ ⟨⟨rfl, rfl, hn, rfl, ?_⟩, h1.bn, h1.bd, h1.tr, fun k e => ⟨fun e2 => ?_, (h1.d1 k e).2⟩⟩ ?_ ?_
  · have h2 := h.bx.stores (vs := [.int .i64 1, .int .i64 (st : Int), .slice fa fn fc, .int .i64 fr, .slice none 0 0]) 0 (by simp [Xr.cs])
    exact h2
  · refine own_mono (own_kept hs hk (fun k e e2 => ?_)) hB
    have := (hs.lt k e).1
    have := hg.2.1
    omega
  · have := hsb k e2
    have := hold k (.inl e)
    omega
  · rintro k (e | e | e)
    · exact h.rw k (.inl e)
    · have h3 := hsb k e
      exact ⟨by have := hg.1; omega, by have := hg.2.1; omega, fun e2 => by have := hg.2.2 k e2; omega⟩
    · exact h.rw k (.inr (.inr e))
  · rintro ad ha (e | e | e)
    · exact (h.cp ad ha).2.2.2.1 (.inl e)
    · have := hsb _ e; have := hcb ad ha; omega
    · exact (h.cp ad ha).2.2.2.1 (.inr (.inr e))
theorem ASt.fin (h : ASt w0 wr g gx hd bk s x a ra rn rc rest) {B : Nat} (hB : w0.heap.size ≤ B) {fa : Option Addr} {fn fc : Nat} {l : List Fd} (hn : fn = l.length) (hs : l = [] ∧ fa = none ∧ fc = 0 ∨ Sps wr B fa fc l)
    (hold : ∀ k, x.row k → k < B) (hg : g < B ∧ gx < B ∧ ∀ k, bk = some k → k < B) (hcb : ∀ ad, ra = some ad → ad.block < B) :
    ASt w0 (wr.setCell ⟨gx, 6, none⟩ (.slice fa fn fc)) g gx hd bk s { x with ta := fa, tn := fn, tc := fc } (a.add (.fin l)) ra rn rc rest := by
  have hk := Kept.set wr gx 6 (.slice fa fn fc)
  have h1 := h.ok.kept hk (fun k hk => (h.rw k hk).2.1)
  have hsb : ∀ k, (Value.slice fa fn fc).ownBlock = some k → B ≤ k := fun k e => by
    rcases hs with h2 | h2
    · rw [h2.2.1] at e; cases e
    · exact (h2.lt k (by rw [← hn]; exact e)).1
  refine h.box hk (h.bx.set 6 _) ⟨?_, h1.bn, h1.bd, ?_, fun k e => ⟨(h1.d1 k e).1, fun e2 => ?_⟩⟩ ?_ ?_
  · have h2 := h1.hd
    revert h2
    show HdOk _ _ _ a.hd → HdOk _ _ _ a.hd
    cases a.hd <;> exact id
  · rcases hs with h2 | h2
    · exact .inl ⟨h2.1, h2.2.1, by show fn = 0; rw [hn, h2.1]; rfl, h2.2.2⟩
    · refine .inr ⟨hn, own_mono (own_kept h2 hk (fun k e e2 => ?_)) hB⟩
      have := (h2.lt k e).1
      have := hg.2.1
      omega
  · have := hsb k e2
    have := hold k (.inl e)
    omega
  · rintro k (e | e | e)
    · exact h.rw k (.inl e)
    · exact h.rw k (.inr (.inl e))
    · have h3 := hsb k e
      exact ⟨by have := hg.1; omega, by have := hg.2.1; omega, fun e2 => by have := hg.2.2 k e2; omega⟩
  · rintro ad ha (e | e | e)
    · exact (h.cp ad ha).2.2.2.1 (.inl e)
    · exact (h.cp ad ha).2.2.2.1 (.inr (.inl e))
    · have := hsb _ e; have := hcb ad ha; omega
/-- bytes are appended to the body -/
theorem ASt.data (h : ASt w0 wr g gx hd bk s x a ra rn rc rest) {B : Nat} {da : Option Addr} {n dc : Nat} {d : List UInt8} {tyo : TypeId} (hn : n = d.length) (hs : wr.ownsRow B 5 1 (.slice da n dc) n (bv d)) (hsz : x.bn + n ≤ 140737488355328) :
    ∃ a' c' w', (Builtin.append_ #[23, 23] tyo #[.slice x.ba x.bn x.bc, .slice da n dc]).run Tryz.prog wr = .ok (.slice a' (x.bn + n) c') w' ∧
      Has w' gx 35 x.cs ∧ ASt w0 (w'.setCell ⟨gx, 5, none⟩ (.slice a' (x.bn + n) c')) g gx hd bk s { x with ba := a', bn := x.bn + n, bc := c' } (a.add (.data d)) ra rn rc rest := by
  have hsl : Sl wr da n dc (bv d) := (Tl.of hs).sl
  obtain ⟨a', c', w', hr, ho, hgr, hno⟩ := run_app_own (tyo := tyo) tyU8 h.ok.bd hsl (bv_one d) (by omega) (by unfold maxLen; omega) h.bl.size
  rw [bv_app] at ho
  have hkp := Kept.of_grown hgr
  have hbrow : ∀ k, (Value.slice x.ba x.bn x.bc).ownBlock = some k → k ≠ g ∧ k ≠ gx ∧ bk ≠ some k := fun k e => h.rw k (.inl e)
  have hbx : Has w' gx 35 x.cs := h.bx.kept hkp (fun e => (hbrow gx e).2.1 rfl)
  have hgx := h.bx.lt
  have hgl := h.rd.lt
  have hnew : ∀ k, (Value.slice a' (x.bn + n) c').ownBlock = some k → (Value.slice x.ba x.bn x.bc).ownBlock = some k ∨ wr.heap.size ≤ k := hno
  have hks := Kept.set w' gx 5 (.slice a' (x.bn + n) c')
  have hbkl := h.rd.bk_lt
  have hnr : ∀ k, (Value.slice a' (x.bn + n) c').ownBlock = some k → k ≠ g ∧ k ≠ gx ∧ bk ≠ some k := fun k e => by
    rcases hnew k e with h1 | h1
    · exact hbrow k h1
    · exact ⟨by omega, by omega, fun e2 => by have := hbkl k e2; omega⟩
  have hfr : ∀ k, (Value.slice x.fa x.fn x.fc).ownBlock = some k ∨ (Value.slice x.ta x.tn x.tc).ownBlock = some k → (Value.slice a' (x.bn + n) c').ownBlock ≠ some k := fun k e e2 => by
    rcases hnew k e2 with h1 | h1
    · exact e.elim (h.ok.d1 k h1).1 (h.ok.d1 k h1).2
    · have := (h.ok.row_ge k (.inr e)).2; omega
  refine ⟨a', c', w', hr, hbx, ?_⟩
  have hk2 : Kept (fun k => (Value.slice x.ba x.bn x.bc).ownBlock = some k ∨ k = gx) wr (w'.setCell ⟨gx, 5, none⟩ (.slice a' (x.bn + n) c')) := (hkp.more (fun k _ e => .inl e)).trans hks (fun k _ e => .inr e)
  refine ⟨h.rd.keptX hk2 (fun e => e.elim (fun e => (hbrow g e).1 rfl) (fun e => h.gg.2.2 e)) (fun k e e2 => e2.elim (fun e2 => (hbrow k e2).2.2 e) (fun e2 => (h.bb k e).2 e2)), hbx.set 5 _, ⟨?_, ?_, ?_, ?_, ?_⟩, ?_, h.gg, h.bb, ?_, ?_, ?_⟩
  · have h2 := h.ok.hd
    revert h2
    show HdOk _ _ _ a.hd → HdOk _ _ _ a.hd
    cases a.hd with
    | none => exact id
    | some v =>
      obtain ⟨st, l, fr⟩ := v
      intro h1
      refine ⟨h1.1, h1.2.1, h1.2.2.1, h1.2.2.2.1, own_kept h1.2.2.2.2 hk2 (fun k e e2 => ?_)⟩
      rw [← h1.2.2.1] at e
      rcases e2 with e2 | e2
      · exact (h.ok.d1 k e2).1 e
      · exact (h.rw k (.inr (.inl e))).2.1 e2
  · show x.bn + n = (a.body ++ d).length
    rw [List.length_append, h.ok.bn, hn]
  · exact own_kept ho hks (fun k e e2 => (hnr k e).2.1 e2)
  · show (a.tr = [] ∧ _) ∨ _
    refine h.ok.tr.imp id (fun h2 => ⟨h2.1, own_kept h2.2 hk2 (fun k e e2 => ?_)⟩)
    have e' : (Value.slice x.ta x.tn x.tc).ownBlock = some k := by rw [h2.1]; exact e
    rcases e2 with e2 | e2
    · exact (h.ok.d1 k e2).2 e'
    · exact (h.rw k (.inr (.inr e'))).2.1 e2
  · exact fun k e => ⟨fun e2 => hfr k (.inl e2) e, fun e2 => hfr k (.inr e2) e⟩
  · refine h.bl.trans (hk2.below h.bl.size (fun k e => ?_))
    rcases e with e | e
    · exact (h.ok.row_ge k (.inl e)).1
    · rw [e]; exact h.gg.2.1
  · rintro k (e | e | e)
    · exact hnr k e
    · exact h.rw k (.inr (.inl e))
    · exact h.rw k (.inr (.inr e))
  · exact h.rs.kept hk2 (fun ad ha e => e.elim (fun e => (h.cp ad ha).2.2.2.1 (.inl e)) (fun e => (h.cp ad ha).2.1 e))
  · refine fun ad ha => ⟨(h.cp ad ha).1, (h.cp ad ha).2.1, (h.cp ad ha).2.2.1, ?_, Nat.lt_of_lt_of_le (h.cp ad ha).2.2.2.2 hk2.size⟩
    rintro (e | e | e)
    · rcases hnew _ e with h1 | h1
      · exact (h.cp ad ha).2.2.2.1 (.inl h1)
      · have := (h.cp ad ha).2.2.2.2; omega
    · exact (h.cp ad ha).2.2.2.1 (.inr (.inl e))
    · exact (h.cp ad ha).2.2.2.1 (.inr (.inr e))
/-- bytes were fed -/
theorem ASt.fed (h : ASt w0 wr g gx hd bk s x a ra rn rc rest) {bk' : Option Nat} (hr : RdS w' g hd 1048576 bk' s') (hk : Kept (fun k => k = g ∨ bk = some k) wr w') (hb : ∀ k, bk' = some k → bk = some k ∨ wr.heap.size ≤ k) :
    ASt w0 w' g gx hd bk' s' x a ra rn rc rest := by
  have hgx := h.bx.lt
  refine ⟨hr, h.bx.kept hk (fun e => e.elim (fun e => h.gg.2.2 e.symm) (fun e => (h.bb gx e).2 rfl)), h.ok.kept hk (fun k hk e => e.elim (fun e => (h.rw k hk).1 e) (fun e => (h.rw k hk).2.2 e)),
    h.bl.trans (hk.below h.bl.size (fun k e => e.elim (fun e => by rw [e]; exact h.gg.1) (fun e => (h.bb k e).1))), h.gg, fun k e => ?_, fun k e => ⟨(h.rw k e).1, (h.rw k e).2.1, fun e2 => ?_⟩,
    h.rs.kept hk (fun ad ha e => e.elim (fun e => (h.cp ad ha).1 e) (fun e => (h.cp ad ha).2.2.1 e)), fun ad ha => ⟨(h.cp ad ha).1, (h.cp ad ha).2.1, fun e2 => ?_, (h.cp ad ha).2.2.2.1, Nat.lt_of_lt_of_le (h.cp ad ha).2.2.2.2 hk.size⟩⟩
  · rcases hb k e with h1 | h1
    · exact h.bb k h1
    · exact ⟨Nat.le_trans h.bl.size h1, by omega⟩
  · rcases hb k e2 with h1 | h1
    · exact (h.rw k e).2.2 h1
    · have := (h.ok.row_ge k e).2; omega
  · rcases hb _ e2 with h1 | h1
    · exact (h.cp ad ha).2.2.1 h1
    · have := (h.cp ad ha).2.2.2.2; omega
/-- fewer bytes are left -/
theorem ASt.cutr (h : ASt w0 wr g gx hd bk s x a ra rn rc rest) {ra2 : Option Addr} {rn2 rc2 : Nat} {rest2 : List UInt8} (hs : Sl wr ra2 rn2 rc2 (bv rest2)) (hb : ∀ ad, ra2 = some ad → ∃ ad', ra = some ad' ∧ ad'.block = ad.block) :
    ASt w0 wr g gx hd bk s x a ra2 rn2 rc2 rest2 :=
  ⟨h.rd, h.bx, h.ok, h.bl, h.gg, h.bb, h.rw, hs, fun ad ha => by
    obtain ⟨ad', ha', e⟩ := hb ad ha
    rw [← e]
    exact h.cp ad' ha'⟩
end
end Go.Proofs.YtfffefhchjnfjaaGreatDoor

namespace Go.Proofs.YtfffefhchjnfjaaGreatDoor
open Go.RowKit

theorem tabG_of {w : World} (ht : Tab w) {g : Nat} (hg : w.heap.size ≤ g) : TabG g := by
  obtain ⟨⟨m, hm⟩, ev, he, hv⟩ := ht
  have h1 := World.block_lt_of_cell? _ _ hm
  have h2 := World.block_lt_of_cell? _ _ he
  exact ⟨by simp only at h1; omega, by simp only at h2; omega⟩
theorem infoRd : (Tryz.prog.info? 35).map (·.size) = some 10 := by kernel_rfl
theorem results_rd {fn : Func} {c u : Tmp} (h : fn.results = #[.cell c 35, .tmp u]) (tmps : Array Value) {w : World} {b : Nat} {vs : List Value} (hc : tmps.getD c undef = .pointer (some ⟨b, 0, none⟩)) (hH : Has w b 35 vs) (hl : vs.length = 10) :
    (results fn tmps).run Tryz.prog w = .ok (.tuple #[.agg vs.toArray, tmps.getD u undef]) w := by
  have hr := run_loadVar_mid (P := Tryz.prog) w b 0 35 vs _ hH.rangeAt Tryz.underlying35 rfl (by rw [infoRd, hl])
  simp only [results, h]
  simp only [Array.getD_eq_getD_getElem?] at hc ⊢
  simp [hc, asAddr, hr]
theorem Has.below' {w w' : World} {g : Nat} {t : TypeId} {vs : List Value} (h : Has w g t vs) (hb : Below w.heap.size w w') : Has w' g t vs := Has.kept (X := none') h (Kept.of_below hb) (fun h => h)
theorem xs_one (x : Xr) : x.cs.toArray.all (·.oneCell') = true := by simp [Xr.cs, Value.oneCell']
/-- what all answers -/
def AllR (w : World) (hd : Bool) (b : List UInt8) (cuts : List Int) (fin : Bool) (e : Ending) (w' : World) : Prop :=
  ∃ x : Xr, e = .returned (.tuple #[.agg x.cs.toArray, .bool true]) ∧ Below w.heap.size w w' ∧ x.Ok w.heap.size w' (allV hd b cuts fin).2.1 ∧ x.ft = (allV hd b cuts fin).1.fault ∧ x.dn = (allV hd b cuts fin).1.done ∧ x.lf = (((allV hd b cuts fin).1.b.length + (allV hd b cuts fin).2.2 : Nat) : Int)
theorem Xr.Ok.down {B B' : Nat} {w : World} {x : Xr} {a : Rs} (h : x.Ok B w a) (hB : B' ≤ B) : x.Ok B' w a := by
  refine ⟨?_, h.bn, own_mono h.bd hB, h.tr.imp id (fun h => ⟨h.1, own_mono h.2 hB⟩), h.d1⟩
  have h1 := h.hd
  revert h1
  cases a.hd with
  | none => exact id
  | some v =>
    obtain ⟨st, l, fr⟩ := v
    exact fun h1 => ⟨h1.1, h1.2.1, h1.2.2.1, h1.2.2.2.1, own_mono h1.2.2.2.2 hB⟩
theorem all_shut {w w0 w7 : World} {gr g gx : Nat} {hd : Bool} {b : List UInt8} {cuts : List Int} {fin : Bool} {bk : Option Nat} {s : HSt} {x : Xr} {a : Rs} {ra : Option Addr} {rn rc : Nat} {rest : List UInt8} {T : HSt × Rs × Nat}
    (hw0 : Below w.heap.size w w0) (hgr : w.heap.size ≤ gr ∧ gr < w0.heap.size) (h : ASt w0 w7 g gx hd bk s x a ra rn rc rest) (hT : allV hd b cuts fin = T) (h1 : T.2.1 = a) (h2 : x.ft = T.1.fault) (h3 : x.dn = T.1.done) (h4 : x.lf = ((T.1.b.length + T.2.2 : Nat) : Int)) :
    AllR w hd b cuts fin (.returned (.tuple #[.agg x.cs.toArray, .bool true])) (w7.setCells gr 0 x.cs) := by
  have hk := Kept.sets gr x.cs 0 w7
  have hb7 : Below w.heap.size w w7 := hw0.trans (h.bl.mono hw0.size)
  refine ⟨x, rfl, hb7.trans (hk.below hb7.size (fun k e => by rw [e]; exact hgr.1)), ?_, by rw [hT]; exact h2, by rw [hT]; exact h3, by rw [hT]; exact h4⟩
  rw [hT, h1]
  exact (h.ok.kept hk (fun k hk e => by have := (h.ok.row_ge k hk).1; omega)).down hw0.size
theorem allG_succ (head : Bool) (cuts : List Int) (fin : Bool) (k i : Nat) (rest : List UInt8) (s : HSt) (a : Rs) : allG head cuts fin (k + 1) i rest s a =
    if (runV head 1048576 (allG.moveV cuts fin i rest s) a).1.fault ≠ 0 ∨ (rest.drop (pcN cuts i rest.length)).length = 0 then
      ((runV head 1048576 (allG.moveV cuts fin i rest s) a).1, (runV head 1048576 (allG.moveV cuts fin i rest s) a).2, (rest.drop (pcN cuts i rest.length)).length)
    else allG head cuts fin k (i + 1) (rest.drop (pcN cuts i rest.length)) (runV head 1048576 (allG.moveV cuts fin i rest s) a).1 (runV head 1048576 (allG.moveV cuts fin i rest s) a).2 := rfl
theorem nx_len {head : Bool} {lim : Nat} {s s' : HSt} {o : Out} (hf : s.fault = 0) (hl : Lf s) (h : nextV head lim s = (s', o)) : s'.b.length ≤ s.b.length := by
  by_cases hd : s.done = true
  · rw [next_done hd hf] at h; cases h; exact Nat.le_refl _
  · have hd : s.done = false := by simpa using hd
    have hc := (cost_step head lim hl).1
    rw [next_eq hd hf] at h
    cases h
    exact Nat.le_trans (Nat.le_add_right _ _) hc
/-- the loop's measure -/
def muN (w : World) (g : Nat) : Nat := 2 * bufN w g + (match w.cell? ⟨g, 6, none⟩ with
  | some (.bool true) => 0
  | _ => 1)
theorem RdS.muN {w : World} {g lim : Nat} {hd : Bool} {bk : Option Nat} {s : HSt} (h : RdS w g hd lim bk s) : muN w g = mu s := by
  unfold Go.Proofs.YtfffefhchjnfjaaGreatDoor.muN mu
  rw [h.bufN, h.dn]
  cases s.done <;> rfl
theorem all_k {cuts : List Int} {i rn k : Nat} (hk : k = pcN cuts i rn) : (cuts.length ≤ i ∧ k = rn) ∨ (∃ x : Int, i < cuts.length ∧ cuts[i]? = some x ∧ ((¬ 0 < x ∧ k = rn) ∨ (0 < x ∧ ¬ x < (rn : Int) ∧ k = rn) ∨ (0 < x ∧ x < (rn : Int) ∧ x = (k : Int)))) := by
  unfold pcN at hk
  cases hc : cuts[i]? with
  | none =>
    rw [hc] at hk
    exact .inl ⟨by rw [List.getElem?_eq_none_iff] at hc; exact hc, hk⟩
  | some x =>
    rw [hc] at hk
    simp only at hk
    refine .inr ⟨x, (List.getElem?_eq_some_iff.1 hc).1, rfl, ?_⟩
    by_cases h1 : 0 < x
    · by_cases h2 : x < (rn : Int)
      · rw [if_pos ⟨h1, h2⟩] at hk
        exact .inr (.inr ⟨h1, h2, by omega⟩)
      · rw [if_neg (fun h => h2 h.2)] at hk
        exact .inr (.inl ⟨h1, h2, hk⟩)
    · rw [if_neg (fun h => h1 h.1)] at hk
      exact .inl ⟨h1, hk⟩
theorem alw {i : Nat} (h : i ≤ 2000000000000) : IntKind.i64.wrap ((i : Int) + 1) = (i : Int) + 1 ∧ RowKit.wrap64 ((i : Int) + 1) = (i : Int) + 1 := by
  rw [IntKind.wrap_i64]; unfold RowKit.wrap64; omega
theorem als {a b c : Nat} (h : c = a + b) (hz : c ≤ 2000000000000) : IntKind.i64.wrap ((a : Int) + (b : Int)) = (c : Int) ∧ RowKit.wrap64 ((a : Int) + (b : Int)) = (c : Int) := by
  rw [IntKind.wrap_i64]; unfold RowKit.wrap64; omega
theorem sl_cutV {w : World} {a : Option Addr} {n c k : Nat} {xs : List Value} (h : Sl w a n c xs) (hk : k ≤ n) : Sl w (if c = k then a else Option.map (fun x => x.add k) a) (n - k) (c - k) (xs.drop k) := by
  have h1 := h.cap_le
  have h2 := h.cap_max
  by_cases hc : c = k
  · rw [if_pos hc]
    exact ⟨by rw [List.length_drop, h.len], by omega, by omega, fun _ => by omega, fun h0 => by omega⟩
  · rw [if_neg hc]
    refine ⟨by rw [List.length_drop, h.len], by omega, by omega, fun ha => ?_, fun h0 => ?_⟩
    · have := h.nil (by cases a with | none => rfl | some x => cases ha); omega
    · obtain ⟨b, off, rfl, hcs⟩ := h.cells (by omega)
      refine ⟨b, off + k, by rw [Option.map_some, addr_add], fun i hi => ?_⟩
      rw [Nat.add_assoc, hcs (k + i) (by omega), List.getElem?_drop]
theorem cutV_blk {a : Option Addr} {c k : Nat} : ∀ ad, (if c = k then a else Option.map (fun x => x.add k) a) = some ad → ∃ ad', a = some ad' ∧ ad'.block = ad.block := by
  intro ad h
  split at h
  · exact ⟨ad, h, rfl⟩
  · cases a with
    | none => cases h
    | some x =>
      simp only [Option.map_some, Option.some.injEq] at h
      refine ⟨x, rfl, ?_⟩
      rw [← h]; unfold Addr.add; split <;> rfl
/-- the outer loop: the bytes rest from place ra on are still to be fed -/
def ARel (w0 : World) (g gx : Nat) (hd : Bool) (b : List UInt8) (cuts : List Int) (fin : Bool) (rv iv' : Value) (wr : World) : Prop :=
  ∃ (i : Nat) (bk : Option Nat) (s : HSt) (x : Xr) (a : Rs) (ra : Option Addr) (rn rc : Nat) (rest : List UInt8), rv = .slice ra rn rc ∧ iv' = .int .i64 (i : Int) ∧ ASt w0 wr g gx hd bk s x a ra rn rc rest ∧
    allV hd b cuts fin = allG hd cuts fin (rest.length + 1) i rest s a ∧ s.ended = false ∧ s.fault = 0 ∧ Lf s ∧ s.b.length + a.body.length + rest.length ≤ b.length ∧ i + rest.length ≤ b.length
/-- the inner loop -/
def BRel (w0 : World) (g gx : Nat) (hd : Bool) (b : List UInt8) (bk : Option Nat) (ra : Option Addr) (rn rc : Nat) (rest : List UInt8) (e : Bool) (R : HSt × Rs) (wr : World) : Prop :=
  ∃ (s : HSt) (x : Xr) (a : Rs), ASt w0 wr g gx hd bk s x a ra rn rc rest ∧ R = runV hd 1048576 s a ∧ s.ended = e ∧ s.fault = 0 ∧ Lf s ∧ s.b.length + a.body.length + rest.length ≤ b.length
set_option maxRecDepth 100000 in
set_option maxHeartbeats 8000000 in
theorem all_any (w : World) (ht : Tab w) (hd : Bool) {ba : Option Addr} {bn bc : Nat} {b : List UInt8} (hb : Sl w ba bn bc (bv b)) (hbn : bn ≤ 1000000000) {ca : Option Addr} {cn cc : Nat} {cuts : List Int} (hc : Sl w ca cn cc (iv .i64 cuts)) (fin : Bool) :
    Calls Tryz.prog 11 #[.bool hd, .slice ba bn bc, .slice ca cn cc, .bool fin] w (AllR w hd b cuts fin) := by
  have hcl : cuts.length = cn := by have := hc.len; simpa [iv] using this
  have hbl := hb.byte
  obtain ⟨w0, hw0⟩ : ∃ w0, w0 = w.alloc (.cells #[.int .i64 0, .int .i64 0, .slice none 0 0, .int .i64 0, .slice none 0 0, .slice none 0 0, .slice none 0 0, .int .i64 0, .bool false, .int .i64 0] 35) := ⟨_, rfl⟩
  obtain ⟨gr, hgr⟩ : ∃ gr, gr = w.heap.size := ⟨_, rfl⟩
  have hb0 : Below w.heap.size w w0 := by rw [hw0]; exact (Below.refl _ w).alloc (Nat.le_refl _) _
  have HGr : Hid (Has w0 gr 35 xr0.cs) := Lib.hid (by rw [hw0, hgr]; exact Has.new w 35 _)
  have HGl : Hid (w.heap.size ≤ gr ∧ gr < w0.heap.size) := Lib.hid ⟨by rw [hgr]; exact Nat.le_refl _, HGr.out.lt⟩
  have HB0 := Lib.hid hb0
  have HNew := Lib.hid (new_any w0 hd 1048576 (by decide))
  have HB := Lib.hid hb
  have HC := Lib.hid hc
  have HCl := Lib.hid hcl
  have HBl := Lib.hid hbl
  have HT := Lib.hid ht
  have HBn := Lib.hid hbn
  clear hb hc hcl hbl ht hb0 hbn
  go_enter Tryz.func11, Tryz.ntmps11
  go_upto_region 1 with fail
  rw [← hw0, ← hgr]
  clear hw0 hgr
  go_wp2_with fail
  refine HNew.out.mono ?_
  rintro e w1 ⟨g, hg1, rfl, hr1, hb1⟩
  have HR1 := Lib.hid hr1
  have HB1 := Lib.hid hb1
  have HG1 := Lib.hid hg1
  clear hr1 hb1 hg1
  go_upto_region 5 with fail
  obtain ⟨w2, hw2⟩ : ∃ w2, w2 = w1.alloc (.cells #[.int .i64 0, .int .i64 0, .slice none 0 0, .int .i64 0, .slice none 0 0, .slice none 0 0, .slice none 0 0, .int .i64 0, .bool false, .int .i64 0] 35) := ⟨_, rfl⟩
  obtain ⟨gx, hgx⟩ : ∃ gx, gx = w1.heap.size := ⟨_, rfl⟩
  have hb2 : Below w1.heap.size w1 w2 := by rw [hw2]; exact (Below.refl _ w1).alloc (Nat.le_refl _) _
  have HX2 : Hid (Has w2 gx 35 xr0.cs) := Lib.hid (by rw [hw2, hgx]; exact Has.new w1 35 _)
  have HB2 : Hid (Below w0.heap.size w0 w2) := Lib.hid (HB1.out.trans (hb2.mono HB1.out.size))
  have HR2 := Lib.hid (HR1.out.below hb2)
  have HGx : Hid (w0.heap.size ≤ gx ∧ g < gx) := Lib.hid ⟨by rw [hgx]; exact HB1.out.size, by rw [hgx]; exact HR1.out.lt⟩
  rw [← hw2, ← hgx]
  clear hw2 hgx hb2
  have HCp := Lib.hid (copy_any w2 ((HB.out.below HB0.out).below HB2.out) (by have := HBn.out; omega))
  go_wp2_with fail
  refine HCp.out.mono ?_
  rintro e w3 ⟨ra0, rc0, rfl, ho3, hb3⟩
  have HA0 : Hid (ARel w0 g gx hd b cuts fin (.slice ra0 b.length rc0) (.int .i64 0) w3) := Lib.hid (by
    have hsl : Sl w3 ra0 b.length rc0 (bv b) := (Tl.of ho3).sl
    refine ⟨0, none, s0, xr0, rs0, ra0, b.length, rc0, b, rfl, rfl, ⟨HR2.out.below hb3, HX2.out.kept (X := none') (Kept.of_below hb3) (fun h => h), xr0_ok _ _, HB2.out.trans (hb3.mono HB2.out.size), ⟨HG1.out, HGx.out.1, by have := HGx.out.2; omega⟩, (fun k h => by cases h), (fun k h => absurd h (xr0_row k)), hsl, fun ad ha => ?_⟩, rfl, rfl, rfl, (by unfold Lf s0; decide), by simp [s0, rs0], by simp⟩
    have h1 := ho3.lt ad.block (by rw [ha]; rfl)
    have h2 := HX2.out.lt
    have h3 := HR2.out.lt
    exact ⟨by omega, by omega, (fun h => by cases h), xr0_row _, h1.2⟩)
  obtain ⟨bn2, hbn2⟩ : ∃ n, n = b.length := ⟨_, rfl⟩
  rw [← hbn2] at HA0 ⊢
  clear hbn2 ho3 hb3 HR1 HB1 HX2 HB2 HR2 HNew HCp
  go_wp2_with fail
  go_loopw [13, 14] (fun rv iv' wr => ARel w0 g gx hd b cuts fin rv iv' wr) (fun rv _ _ => match rv with | .slice _ n _ => n | _ => 0)
  case atStart => exact HA0.out
  case round =>
    clear HA0
    obtain ⟨i, bk, s, x, a, ra, rn, rc, rest, rfl, rfl, hA, hG, hen, hft, hlf, hsz, hisz⟩ := hrel
    have HA := Lib.hid hA
    have hrl : rest.length = rn := hA.rs.byte
    have hrc : rn ≤ rc := hA.rs.cap_le
    obtain ⟨k, hk⟩ : ∃ k, k = pcN cuts i rn := ⟨_, rfl⟩
    have hkn : k ≤ rn := by rw [hk]; exact pcN_le _ _ _
    have HKd := Lib.hid (all_k hk)
    have HK := Lib.hid hk
    have HRl := Lib.hid hrl
    have HKn := Lib.hid hkn
    have HCI : Hid (∀ x, cuts[i]? = some x → ∃ cb co, ca = some ⟨cb, co, none⟩ ∧ wr.cell? ⟨cb, co + i, none⟩ = some (.int .i64 x) ∧ (i : Int) < (cn : Int) ∧ cn ≤ cc) := Lib.hid (fun x hx => by
      have hi : i < cuts.length := (List.getElem?_eq_some_iff.1 hx).1
      have hi2 : i < cn := by rw [← HCl.out]; exact hi
      obtain ⟨cb, co, h1, h2⟩ := HC.out.cells (by omega)
      refine ⟨cb, co, h1, ?_, by omega, HC.out.cap_le⟩
      have h3 := h2 i hi2
      rw [show (iv IntKind.i64 cuts)[i]? = some (.int .i64 x) by simp [iv, hx]] at h3
      have h4 := (HB0.out.trans (HA.out.bl.mono HB0.out.size)).cell (World.block_lt_of_cell? w _ h3)
      rw [h4]
      exact h3)
    have HI : Hid (i ≤ 2000000000000) := Lib.hid (by have := HBl.out; have := HBn.out; omega)
    have HG := Lib.hid hG
    have HEn := Lib.hid hen
    have HFt := Lib.hid hft
    have HLf := Lib.hid hlf
    have HSz := Lib.hid hsz
    have HIsz := Lib.hid hisz
    obtain ⟨m, hm⟩ : ∃ m, m = rn - k := ⟨_, rfl⟩
    obtain ⟨mc, hmc⟩ : ∃ mc, mc = rc - k := ⟨_, rfl⟩
    have HM := Lib.hid (And.intro hm hmc)
    have HRc := Lib.hid hrc
    clear hA hG hen hft hlf hsz hisz hk hrl hm hmc hkn hrc
    go_upto_region 9 with fail
    go_cut [56] (fun v wc => v = .bool (decide (k < rn)) ∧ wc = wr)
    case first =>
      rcases HKd.out with ⟨h1, h2⟩ | ⟨x, h1, h2, hx⟩
      · have j1 : ¬ (i : Int) < (cn : Int) := by have := HCl.out; omega
        have d : decide (k < rn) = false := by simp; omega
        have HD := Lib.hid d
        clear h1 h2 d
        go_wp2
        go_meet
        case rel => exact ⟨by rw [HD.out], rfl⟩
      · obtain ⟨cb, co, rfl, hcell, j1, hcc⟩ := HCI.out x h2
        rcases hx with ⟨hx, hk⟩ | ⟨hx, hx2, hk⟩ | ⟨hx, hx2, hk⟩
        · have d : decide (k < rn) = false := by simp; omega
          have HD := Lib.hid d
          clear h2 hk d h1
          go_wp2
          go_meet
          case rel => exact ⟨by rw [HD.out], rfl⟩
        · have d : decide (k < rn) = false := by simp; omega
          have HD := Lib.hid d
          clear h2 hk d h1
          go_wp2
          go_meet
          case rel => exact ⟨by rw [HD.out], rfl⟩
        · have d : decide (k < rn) = true := by simp; omega
          have HD := Lib.hid d
          clear h2 hk d h1
          go_wp2
          go_meet
          case rel => exact ⟨by rw [HD.out], rfl⟩
    case rest =>
      obtain ⟨rfl, hwc⟩ := hcut
      rw [hwc]
      clear hwc wc
      go_upto_if 56 with fail
      go_cut [15] (fun v wc => v = .int .i64 (k : Int) ∧ wc = wr)
      case first =>
        by_cases hlt : k < rn
        · have hd : decide (k < rn) = true := by simpa using hlt
          rw [hd]
          obtain ⟨x, hx1, hx2⟩ : ∃ x : Int, cuts[i]? = some x ∧ x = (k : Int) := by
            rcases HKd.out with ⟨_, h2⟩ | ⟨x, _, h2, hx⟩
            · omega
            · rcases hx with ⟨_, hk⟩ | ⟨_, _, hk⟩ | ⟨_, _, hk⟩
              · omega
              · omega
              · exact ⟨x, h2, hk⟩
          obtain ⟨cb, co, hca, hcell, j1, hcc⟩ := HCI.out x hx1
          subst hca
          subst hx2
          clear hx1 hd hlt
          go_wp2
          go_meet
          case rel => exact ⟨rfl, rfl⟩
        · obtain rfl : k = rn := by have := HKn.out; omega
          have hd : decide (k < k) = false := by simp
          rw [hd]
          clear hd hlt
          go_wp2
          go_meet
          case rel => exact ⟨rfl, rfl⟩
      case rest =>
        obtain ⟨rfl, hwc⟩ := hcut
        rw [hwc]
        clear hwc wc HKd HCI
        have jk : (k : Int) ≤ (rn : Int) := by have := HKn.out; omega
        have jk2 : (k : Int) ≤ (rc : Int) := by have := HKn.out; have := HRc.out; omega
        have jk3 : (0 : Int) ≤ (k : Int) := by omega
        have jk4 : (rn : Int) ≤ (rc : Int) := by have := HRc.out; omega
        have hts : Sl wr ra k rc (bv (rest.take k)) := by
          have h := sl_take HA.out.rs HKn.out
          rw [show (bv rest).take k = bv (rest.take k) from by simp [bv]] at h
          exact h
        have HFe := Lib.hid (feed_any wr HA.out.rd HEn.out hts (by have := HSz.out; have := HBl.out; have := HBn.out; have := HKn.out; have := HRl.out; omega))
        clear hts
        go_wp2_with fail
        refine HFe.out.mono ?_
        rintro e w3 ⟨rfl, bk3, hr3, hk3, hbk3⟩
        have HA3 := Lib.hid (HA.out.fed hr3 hk3 hbk3)
        obtain ⟨ra', hra'⟩ : ∃ ra', ra' = if rc = k then ra else Option.map (fun x => x.add k) ra := ⟨_, rfl⟩
        have HRa := Lib.hid hra'
        clear hr3 hk3 hbk3 hra' HFe HA
        go_upto_region 12 with fail
        go_cut [13] (fun v wx => v = .slice ra' m mc ∧ wx = w3)
        case first =>
          by_cases hrk : rc = k
          · have HR0 : Hid (ra' = ra) := Lib.hid (by rw [HRa.out, if_pos hrk])
            have hrk2 : rn - k = m := HM.out.1.symm
            have HR1 : Hid (rc - k = 0 ∧ mc = 0) := Lib.hid (by have := HM.out.2; omega)
            go_wp2
            go_meet
            case rel => exact ⟨by rw [HR0.out, HR1.out.2]; try rw [HR1.out.1], rfl⟩
          · have HR0 : Hid (ra' = Option.map (fun x => x.add k) ra) := Lib.hid (by rw [HRa.out, if_neg hrk])
            go_wp2
            go_meet
            case rel => exact ⟨by rw [HR0.out, HM.out.1, HM.out.2], rfl⟩
        case rest =>
          obtain ⟨rfl, hwx⟩ := hcut
          rw [hwx]
          clear hwx wc jk jk2 jk3 jk4
          have HA3r : Hid (ASt w0 w3 g gx hd bk3 { s with b := s.b ++ rest.take k } x a ra' m mc (rest.drop k)) := Lib.hid (by
            have hs := sl_cutV HA3.out.rs HKn.out
            rw [show (bv rest).drop k = bv (rest.drop k) from by simp [bv], ← HRa.out, ← HM.out.1, ← HM.out.2] at hs
            exact HA3.out.cutr hs (by rw [HRa.out]; exact cutV_blk))
          obtain ⟨l, hl⟩ : ∃ l, l = decide (m = 0) := ⟨_, rfl⟩
          have jz : ((m : Int) == 0) = l := by rw [hl]; by_cases h : m = 0 <;> simp [h]
          have HLv := Lib.hid hl
          obtain ⟨e, he⟩ : ∃ e, e = (l && fin) := ⟨_, rfl⟩
          have HEv := Lib.hid he
          clear hl HA3
          go_upto_region 14 with fail
          go_cut [75] (fun v wx => v = .bool (l && fin) ∧ wx = w3)
          case first =>
            cases l with
            | true =>
              go_wp2
              go_meet
              case rel => exact ⟨by simp, rfl⟩
            | false =>
              go_wp2
              go_meet
              case rel => exact ⟨by simp, rfl⟩
          case rest =>
            obtain ⟨hv75, hwx⟩ := hcut
            rw [← he] at hv75
            subst hv75
            rw [hwx]
            clear hwx wc jz he
            go_upto_if 75 with fail
            go_cut [16] (fun v wx => v = .bool l ∧ Kept (fun k => k = g) w3 wx ∧ RdS wx g hd 1048576 bk3 { s with b := s.b ++ rest.take k, ended := e })
            case first =>
              cases e with
              | true =>
                have HEd := Lib.hid (ended_any w3 HA3r.out.rd HEn.out)
                go_wp2_with fail
                refine HEd.out.mono ?_
                rintro e w4 ⟨rfl, hr4, hk4⟩
                have HK4 := Lib.hid (And.intro hk4 hr4)
                clear hk4 hr4
                go_wp2
                go_meet
                case rel => exact ⟨rfl, HK4.out.1, HK4.out.2⟩
              | false =>
                have hr4 : RdS w3 g hd 1048576 bk3 { s with b := s.b ++ rest.take k, ended := false } := by
                  have h := HA3r.out.rd
                  have e1 : ({ s with b := s.b ++ rest.take k } : HSt) = { s with b := s.b ++ rest.take k, ended := false } := by have := HEn.out; cases s; simp only at this; subst this; rfl
                  rw [e1] at h; exact h
                have HR4 := Lib.hid hr4
                clear hr4
                go_wp2
                go_meet
                case rel => exact ⟨rfl, Kept.refl _ _, HR4.out⟩
            case rest =>
              obtain ⟨rfl, hk4, hr4⟩ := hcut
              have HA4 := Lib.hid (HA3r.out.step hk4 hr4)
              obtain ⟨R, hR⟩ : ∃ R, R = runV hd 1048576 { s with b := s.b ++ rest.take k, ended := e } a := ⟨_, rfl⟩
              have HG2 : Hid (allV hd b cuts fin = if R.1.fault ≠ 0 ∨ m = 0 then (R.1, R.2, m) else allG hd cuts fin rn (i + 1) (rest.drop k) R.1 R.2) := Lib.hid (by
                have e1 : rest.length - pcN cuts i rest.length = m := by rw [HRl.out, ← HK.out, ← HM.out.1]
                have e2 : allG.moveV cuts fin i rest s = { s with b := s.b ++ rest.take k, ended := e } := by
                  unfold allG.moveV moreV
                  rw [List.length_drop, e1, HRl.out, ← HK.out, HEv.out, HLv.out]
                rw [HG.out, allG_succ, e2, ← hR, List.length_drop, e1, HRl.out, ← HK.out])
              have HB4 : Hid (BRel w0 g gx hd b bk3 ra' m mc (rest.drop k) e R wc) := Lib.hid ⟨_, x, a, HA4.out, hR, rfl, HFt.out, HLf.out, by
                show (s.b ++ rest.take k).length + a.body.length + (rest.drop k).length ≤ b.length
                rw [List.length_append, List.length_take, List.length_drop]
                have := HSz.out; have := HKn.out; have := HRl.out; omega⟩
              clear hk4 hr4 hR HA4 HA3r
              go_wp2_with fail
              go_loopw [18] (fun _ wi => BRel w0 g gx hd b bk3 ra' m mc (rest.drop k) e R wi) (fun _ wi => muN wi g)
              case atStart => exact HB4.out
              case round =>
                clear HB4
                obtain ⟨s2, x1, a1, hB, hR1, hen1, hft1, hlf1, hsz1⟩ := hrel
                have HB := Lib.hid hB
                have HMu : Hid (muN wr g = mu s2) := Lib.hid hB.rd.muN
                have HR1 := Lib.hid hR1
                have HEn1 := Lib.hid hen1
                have HFt1 := Lib.hid hft1
                have HLf1 := Lib.hid hlf1
                have HSz1 := Lib.hid hsz1
                have HNx := Lib.hid (next_any wr (HT.out.below (HB0.out.trans (HB.out.bl.mono HB0.out.size))) (tabG_of HT.out (Nat.le_trans HB0.out.size hB.gg.1)) hB.rd (by have := HBl.out; have := HBn.out; omega) hlf1)
                have HBl2 : Hid (g < wr.heap.size ∧ gx < wr.heap.size ∧ (∀ k, bk3 = some k → k < wr.heap.size) ∧ (∀ k, x1.row k → k < wr.heap.size) ∧ (∀ ad, ra' = some ad → ad.block < wr.heap.size) ∧ w0.heap.size ≤ wr.heap.size) := Lib.hid ⟨hB.rd.lt, hB.bx.lt, hB.rd.bk_lt, fun k hk => (hB.ok.row_ge k hk).2, fun ad ha => (hB.cp ad ha).2.2.2.2, hB.bl.size⟩
                clear hB hR1 hen1 hft1 hlf1 hsz1
                go_wp2_with fail
                refine HNx.out.mono ?_
                rintro ee w5 ⟨ex, hee, hr5, hk5, hok5⟩
                rcases hnx : nextV hd 1048576 s2 with ⟨s3, o⟩
                rw [hnx] at hr5 hok5
                have HA5 := Lib.hid (HB.out.step hk5 hr5)
                have HNe := Lib.hid hnx
                clear hr5 hk5 hnx
                have HSz3 : Hid (s3.b.length + m ≤ b.length) := Lib.hid (by
                  have h1 := nx_len HFt1.out HLf1.out HNe.out
                  have h2 := HSz1.out
                  rw [List.length_drop] at h2
                  have := HM.out.1; have := HRl.out; omega)
                match o, hok5 with
                | .bad c, hok5 =>
                  obtain ⟨g1, g2, g3⟩ := nx_bad a1 HFt1.out HNe.out
                  have hT : allV hd b cuts fin = (s3, a1, m) := by
                    rw [HG2.out, HR1.out, g1, if_pos (.inl (by show s3.fault ≠ 0; rw [g2]; exact g3))]
                  have HShut : Hid (∀ w7 xn, ASt w0 w7 g gx hd bk3 s3 xn a1 ra' m mc (rest.drop k) → xn.ft = c → xn.dn = s3.done → xn.lf = ((s3.b.length + m : Nat) : Int) → AllR w hd b cuts fin (.returned (.tuple #[.agg xn.cs.toArray, .bool true])) (w7.setCells gr 0 xn.cs)) := Lib.hid (fun w7 xn h1 h2 h3 h4 => all_shut HB0.out HGl.out h1 hT rfl (by rw [h2]; exact g2.symm) h3 h4)
                  obtain ⟨y1, y2⟩ := field_bad_ne g3
                  clear g1 g2 g3 hT
                  have hex : ex = an0 c := hok5
                  subst hex
                  unfold an0 at hee
                  dsimp only [An.v] at hee
                  subst hee
                  clear hok5
                  obtain ⟨w6, hw6⟩ : ∃ w6, w6 = w5.alloc (.cells #[.int .i64 0, .int .i64 0, .slice none 0 0, .int .i64 0, .slice none 0 0] 33) := ⟨_, rfl⟩
                  obtain ⟨eb, heb⟩ : ∃ eb, eb = w5.heap.size := ⟨_, rfl⟩
                  have hb6 : Below w5.heap.size w5 w6 := by rw [hw6]; exact (Below.refl _ w5).alloc (Nat.le_refl _) _
                  have HE6 : Hid (Has w6 eb 33 [.int .i64 0, .int .i64 0, .slice none 0 0, .int .i64 0, .slice none 0 0]) := Lib.hid (by rw [hw6, heb]; exact Has.new w5 33 _)
                  have HA6 := Lib.hid (HA5.out.below hb6)
                  have HEb : Hid (eb ≠ gx) := Lib.hid (by have := HA5.out.bx.lt; omega)
                  obtain ⟨sb, hsb⟩ : ∃ sb, sb = s3.b.length := ⟨_, rfl⟩
                  obtain ⟨lf, hlf⟩ : ∃ lf, lf = sb + m := ⟨_, rfl⟩
                  have HSb := Lib.hid (And.intro hsb hlf)
                  obtain ⟨z1, z2⟩ := als hlf (by have := HSz3.out; have := HBl.out; have := HBn.out; omega)
                  have HDn := Lib.hid (done_any w6 HA6.out.rd)
                  have hlft := left_any w6 HA6.out.rd
                  rw [← hsb] at hlft
                  have HLft := Lib.hid hlft
                  obtain ⟨dn, hdn⟩ : ∃ dn, dn = s3.done := ⟨_, rfl⟩
                  rw [← hdn] at HDn
                  have HDd := Lib.hid hdn
                  have c7 : w6.cell? ⟨gx, 7, none⟩ = some _ := HA6.out.bx.cell 7 rfl
                  have f7 := HA6.out.bx.free 7
                  have c8 : (w6.setCell ⟨gx, 7, none⟩ (.int .i64 c)).cell? ⟨gx, 8, none⟩ = some _ := (HA6.out.bx.set 7 _).cell 8 rfl
                  have f8 := (HA6.out.bx.set 7 (.int .i64 c)).free 8
                  have c9 : ((w6.setCell ⟨gx, 7, none⟩ (.int .i64 c)).setCell ⟨gx, 8, none⟩ (.bool dn)).cell? ⟨gx, 9, none⟩ = some _ := ((HA6.out.bx.set 7 _).set 8 _).cell 9 rfl
                  have f9 := ((HA6.out.bx.set 7 (.int .i64 c)).set 8 (.bool dn)).free 9
                  obtain ⟨w7, hw7⟩ : ∃ w7, w7 = ((w6.setCell ⟨gx, 7, none⟩ (.int .i64 c)).setCell ⟨gx, 8, none⟩ (.bool dn)).setCell ⟨gx, 9, none⟩ (.int .i64 (lf : Int)) := ⟨_, rfl⟩
                  obtain ⟨xn, hxn⟩ : ∃ xn : Xr, xn = { x1 with ft := c, dn := dn, lf := (lf : Int) } := ⟨_, rfl⟩
                  have HAn : Hid (ASt w0 w7 g gx hd bk3 s3 xn a1 ra' m mc (rest.drop k)) := Lib.hid (by rw [hw7, hxn]; exact HA6.out.nums _ _ _)
                  have HE7 : Hid (Has w7 eb 33 [.int .i64 0, .int .i64 0, .slice none 0 0, .int .i64 0, .slice none 0 0]) := Lib.hid (by rw [hw7]; exact ((HE6.out.other HEb.out 7 _).other HEb.out 8 _).other HEb.out 9 _)
                  have HXn := Lib.hid hxn
                  have HK7 : Hid (Kept (fun k => k = gx) w5 w7) := Lib.hid (by rw [hw7]; exact (((Kept.of_below (X := fun k => k = gx) hb6).trans (Kept.set w6 gx 7 _) (fun _ _ e => e)).trans (Kept.set _ gx 8 _) (fun _ _ e => e)).trans (Kept.set _ gx 9 _) (fun _ _ e => e))
                  clear hsb hlf hlft hdn hxn hb6
                  go_upto_region 17 with fail
                  rw [← hw6, ← heb]
                  clear hw6 heb
                  go_wp2_with fail
                  refine HDn.out.mono ?_
                  rintro e wz ⟨rfl, hwz⟩
                  replace hwz := hwz.symm
                  subst hwz
                  go_wp2_with fail
                  refine HLft.out.mono ?_
                  rintro e wz ⟨rfl, hwz⟩
                  replace hwz := hwz.symm
                  subst hwz
                  go_upto_region 18 with fail
                  rw [← hw7]
                  clear hw7 c7 f7 c8 f8 c9 f9 z1 z2
                  have q0 := HAn.out.bx.cell 0 rfl
                  have q1 := HAn.out.bx.cell 1 rfl
                  have q2 := HAn.out.bx.cell 2 rfl
                  have q3 := HAn.out.bx.cell 3 rfl
                  have q4 := HAn.out.bx.cell 4 rfl
                  have q5 := HAn.out.bx.cell 5 rfl
                  have q6 := HAn.out.bx.cell 6 rfl
                  have q7 := HAn.out.bx.cell 7 rfl
                  have q8 := HAn.out.bx.cell 8 rfl
                  have q9 := HAn.out.bx.cell 9 rfl
                  have hgr : Has w7 gr 35 xr0.cs := HGr.out.below' HAn.out.bl
                  have hth := hgr.there (n := 10) rfl
                  have HSt := Lib.hid (hgr.store (vs := xn.cs) rfl)
                  have HFin : Hid (AllR w hd b cuts fin (.returned (.tuple #[.agg xn.cs.toArray, .bool true])) (w7.setCells gr 0 xn.cs)) := Lib.hid (HShut.out w7 xn HAn.out (by rw [HXn.out]) (by rw [HXn.out]; exact HDd.out) (by rw [HXn.out, HSb.out.2, HSb.out.1]))
                  have ho1 := xs_one xn
                  obtain ⟨w8, hw8⟩ : ∃ w8, w8 = w7.setCells gr 0 xn.cs := ⟨_, rfl⟩
                  rw [← hw8] at HSt HFin
                  have HW8 := Lib.hid hw8
                  clear hgr hw8
                  go_wp2_with (
                    refine wpList_store_mid rfl 35 (.tmp 8) (.tmp 97) rfl gr 0 xn.cs.toArray rfl rfl hth infoRd ho1 ?_
                    rw [show w7.setCells gr 0 xn.cs.toArray.toList = w8 from HW8.out.symm])
                  refine bodyPost_ret (results_rd rfl _ rfl HSt.out rfl) rfl ?_
                  exact HFin.out
                | .none, hok5 =>
                  obtain ⟨g1, g2, g3, g4, g5⟩ := nx_none a1 HFt1.out HLf1.out HNe.out
                  have HN := Lib.hid (And.intro g1 (And.intro g2 (And.intro g3 (And.intro g4 g5))))
                  clear g1 g2 g3 g4 g5
                  have hex : ex = an0 0 := hok5
                  subst hex
                  unfold an0 at hee
                  dsimp only [An.v] at hee
                  subst hee
                  clear hok5
                  obtain ⟨w6, hw6⟩ : ∃ w6, w6 = w5.alloc (.cells #[.int .i64 0, .int .i64 0, .slice none 0 0, .int .i64 0, .slice none 0 0] 33) := ⟨_, rfl⟩
                  obtain ⟨eb, heb⟩ : ∃ eb, eb = w5.heap.size := ⟨_, rfl⟩
                  have hb6 : Below w5.heap.size w5 w6 := by rw [hw6]; exact (Below.refl _ w5).alloc (Nat.le_refl _) _
                  have HE6 : Hid (Has w6 eb 33 [.int .i64 0, .int .i64 0, .slice none 0 0, .int .i64 0, .slice none 0 0]) := Lib.hid (by rw [hw6, heb]; exact Has.new w5 33 _)
                  have HA6 := Lib.hid (HA5.out.below hb6)
                  have HEb : Hid (eb ≠ gx) := Lib.hid (by have := HA5.out.bx.lt; omega)
                  obtain ⟨sb, hsb⟩ : ∃ sb, sb = s3.b.length := ⟨_, rfl⟩
                  obtain ⟨lf, hlf⟩ : ∃ lf, lf = sb + m := ⟨_, rfl⟩
                  have HSb := Lib.hid (And.intro hsb hlf)
                  obtain ⟨z1, z2⟩ := als hlf (by have := HSz3.out; have := HBl.out; have := HBn.out; omega)
                  have HDn := Lib.hid (done_any w6 HA6.out.rd)
                  have hlft := left_any w6 HA6.out.rd
                  rw [← hsb] at hlft
                  have HLft := Lib.hid hlft
                  obtain ⟨dn, hdn⟩ : ∃ dn, dn = s3.done := ⟨_, rfl⟩
                  rw [← hdn] at HDn
                  have HDd := Lib.hid hdn
                  have c7 : w6.cell? ⟨gx, 7, none⟩ = some _ := HA6.out.bx.cell 7 rfl
                  have f7 := HA6.out.bx.free 7
                  have c8 : (w6.setCell ⟨gx, 7, none⟩ (.int .i64 0)).cell? ⟨gx, 8, none⟩ = some _ := (HA6.out.bx.set 7 _).cell 8 rfl
                  have f8 := (HA6.out.bx.set 7 (.int .i64 0)).free 8
                  have c9 : ((w6.setCell ⟨gx, 7, none⟩ (.int .i64 0)).setCell ⟨gx, 8, none⟩ (.bool dn)).cell? ⟨gx, 9, none⟩ = some _ := ((HA6.out.bx.set 7 _).set 8 _).cell 9 rfl
                  have f9 := ((HA6.out.bx.set 7 (.int .i64 0)).set 8 (.bool dn)).free 9
                  obtain ⟨w7, hw7⟩ : ∃ w7, w7 = ((w6.setCell ⟨gx, 7, none⟩ (.int .i64 0)).setCell ⟨gx, 8, none⟩ (.bool dn)).setCell ⟨gx, 9, none⟩ (.int .i64 (lf : Int)) := ⟨_, rfl⟩
                  obtain ⟨xn, hxn⟩ : ∃ xn : Xr, xn = { x1 with ft := 0, dn := dn, lf := (lf : Int) } := ⟨_, rfl⟩
                  have HAn : Hid (ASt w0 w7 g gx hd bk3 s3 xn a1 ra' m mc (rest.drop k)) := Lib.hid (by rw [hw7, hxn]; exact HA6.out.nums _ _ _)
                  have HE7 : Hid (Has w7 eb 33 [.int .i64 0, .int .i64 0, .slice none 0 0, .int .i64 0, .slice none 0 0]) := Lib.hid (by rw [hw7]; exact ((HE6.out.other HEb.out 7 _).other HEb.out 8 _).other HEb.out 9 _)
                  have HXn := Lib.hid hxn
                  have HK7 : Hid (Kept (fun k => k = gx) w5 w7) := Lib.hid (by rw [hw7]; exact (((Kept.of_below (X := fun k => k = gx) hb6).trans (Kept.set w6 gx 7 _) (fun _ _ e => e)).trans (Kept.set _ gx 8 _) (fun _ _ e => e)).trans (Kept.set _ gx 9 _) (fun _ _ e => e))
                  clear hsb hlf hlft hdn hxn hb6
                  go_upto_region 17 with fail
                  rw [← hw6, ← heb]
                  clear hw6 heb
                  go_wp2_with fail
                  refine HDn.out.mono ?_
                  rintro e wz ⟨rfl, hwz⟩
                  replace hwz := hwz.symm
                  subst hwz
                  go_wp2_with fail
                  refine HLft.out.mono ?_
                  rintro e wz ⟨rfl, hwz⟩
                  replace hwz := hwz.symm
                  subst hwz
                  go_upto_region 18 with fail
                  rw [← hw7]
                  clear hw7 c7 f7 c8 f8 c9 f9 z1 z2
                  cases l with
                  | true =>
                    have hm0 : m = 0 := by have h := HLv.out; exact of_decide_eq_true h.symm
                    have HT0 : Hid (allV hd b cuts fin = (s3, a1, m)) := Lib.hid (by
                      rw [HG2.out, HR1.out, HN.out.1, if_pos (.inr hm0)])
                    have HShut : Hid (∀ w7 xn, ASt w0 w7 g gx hd bk3 s3 xn a1 ra' m mc (rest.drop k) → xn.ft = 0 → xn.dn = s3.done → xn.lf = ((s3.b.length + m : Nat) : Int) → AllR w hd b cuts fin (.returned (.tuple #[.agg xn.cs.toArray, .bool true])) (w7.setCells gr 0 xn.cs)) := Lib.hid (fun w7 xn h1 h2 h3 h4 => all_shut HB0.out HGl.out h1 HT0.out rfl (by rw [h2]; exact HN.out.2.1.symm) h3 h4)
                    clear hm0
                    have q0 := HAn.out.bx.cell 0 rfl
                    have q1 := HAn.out.bx.cell 1 rfl
                    have q2 := HAn.out.bx.cell 2 rfl
                    have q3 := HAn.out.bx.cell 3 rfl
                    have q4 := HAn.out.bx.cell 4 rfl
                    have q5 := HAn.out.bx.cell 5 rfl
                    have q6 := HAn.out.bx.cell 6 rfl
                    have q7 := HAn.out.bx.cell 7 rfl
                    have q8 := HAn.out.bx.cell 8 rfl
                    have q9 := HAn.out.bx.cell 9 rfl
                    have hgr : Has w7 gr 35 xr0.cs := HGr.out.below' HAn.out.bl
                    have hth := hgr.there (n := 10) rfl
                    have HSt := Lib.hid (hgr.store (vs := xn.cs) rfl)
                    have HFin : Hid (AllR w hd b cuts fin (.returned (.tuple #[.agg xn.cs.toArray, .bool true])) (w7.setCells gr 0 xn.cs)) := Lib.hid (HShut.out w7 xn HAn.out (by rw [HXn.out]) (by rw [HXn.out]; exact HDd.out) (by rw [HXn.out, HSb.out.2, HSb.out.1]))
                    have ho1 := xs_one xn
                    obtain ⟨w8, hw8⟩ : ∃ w8, w8 = w7.setCells gr 0 xn.cs := ⟨_, rfl⟩
                    rw [← hw8] at HSt HFin
                    have HW8 := Lib.hid hw8
                    clear hgr hw8
                    go_wp2_with (
                      refine wpList_store_mid rfl 35 (.tmp 8) (.tmp 120) rfl gr 0 xn.cs.toArray rfl rfl hth infoRd ho1 ?_
                      rw [show w7.setCells gr 0 xn.cs.toArray.toList = w8 from HW8.out.symm])
                    refine bodyPost_ret (results_rd rfl _ rfl HSt.out rfl) rfl ?_
                    exact HFin.out
                  | false =>
                    have hm0 : ¬ m = 0 := by have h := HLv.out; exact of_decide_eq_false h.symm
                    have HE0 : Hid (e = false) := Lib.hid (by rw [HEv.out]; rfl)
                    have hkp : 0 < k := by
                      have h := pcN_pos cuts i rn (by have := HM.out.1; omega)
                      rw [← HK.out] at h
                      exact h
                    have HNew : Hid (ARel w0 g gx hd b cuts fin (.slice ra' m mc) (.int .i64 ((i : Int) + 1)) w7) := Lib.hid (by
                      refine ⟨i + 1, bk3, s3, xn, a1, ra', m, mc, rest.drop k, rfl, by push_cast; rfl, HAn.out, ?_, by rw [HN.out.2.2.1, HEn1.out, HE0.out], HN.out.2.1, HN.out.2.2.2.1, ?_, ?_⟩
                      · rw [HG2.out, HR1.out, HN.out.1, if_neg (fun h => h.elim (fun h => h HN.out.2.1) hm0)]
                        exact allG_fuel hd cuts fin _ _ _ _ _ _ (by rw [List.length_drop, HRl.out]; have := HM.out.1; omega) (by omega)
                      · have h1 := HSz1.out
                        have h2 := HN.out.2.2.2.2
                        omega
                      · rw [List.length_drop]; have := HIsz.out; have := HRl.out; have := HKn.out; omega)
                    have HMl : Hid (m < rn) := Lib.hid (by have := HM.out.1; omega)
                    obtain ⟨u1, u2⟩ := alw HI.out
                    clear hm0 hkp
                    go_wp2_with fail
                    go_roundw
                    case rel => exact HNew.out
                    case measure => exact HMl.out
                | .ev E, hok5 =>
                  obtain ⟨g1, g2, g3, g4, g5, g6⟩ := nx_ev a1 HFt1.out HLf1.out HNe.out
                  have HN := Lib.hid (And.intro g1 (And.intro g2 (And.intro g3 (And.intro g4 (And.intro g5 g6)))))
                  clear g1 g2 g3 g4 g5 g6
                  match E, hok5 with
                  | .head st fl fr, hok5 =>
                    obtain ⟨hex, hs5⟩ := hok5
                    obtain ⟨fa, hfa⟩ : ∃ fa, fa = ex.fa := ⟨_, rfl⟩
                    obtain ⟨fc, hfc⟩ : ∃ fc, fc = ex.fc := ⟨_, rfl⟩
                    obtain ⟨fn, hfn⟩ : ∃ fn, fn = fl.length := ⟨_, rfl⟩
                    rw [← hfa, ← hfc] at hex hs5
                    rw [← hfn] at hex
                    clear hfa hfc
                    have HS5 := Lib.hid hs5
                    have HFn := Lib.hid hfn
                    clear hfn hs5
                    subst hex
                    dsimp only [An.v] at hee
                    subst hee
                    obtain ⟨w6, hw6⟩ : ∃ w6, w6 = w5.alloc (.cells #[.int .i64 1, .int .i64 (st : Int), .slice fa fn fc, .int .i64 fr, .slice none 0 0] 33) := ⟨_, rfl⟩
                    obtain ⟨eb, heb⟩ : ∃ eb, eb = w5.heap.size := ⟨_, rfl⟩
                    have hb6 : Below w5.heap.size w5 w6 := by rw [hw6]; exact (Below.refl _ w5).alloc (Nat.le_refl _) _
                    have HE6 : Hid (Has w6 eb 33 [.int .i64 1, .int .i64 (st : Int), .slice fa fn fc, .int .i64 fr, .slice none 0 0]) := Lib.hid (by rw [hw6, heb]; exact Has.new w5 33 _)
                    have HA6 := Lib.hid (HA5.out.below hb6)
                    have HEb : Hid (eb ≠ gx) := Lib.hid (by have := HA5.out.bx.lt; omega)
                    obtain ⟨sb, hsb⟩ : ∃ sb, sb = s3.b.length := ⟨_, rfl⟩
                    obtain ⟨lf, hlf⟩ : ∃ lf, lf = sb + m := ⟨_, rfl⟩
                    have HSb := Lib.hid (And.intro hsb hlf)
                    obtain ⟨z1, z2⟩ := als hlf (by have := HSz3.out; have := HBl.out; have := HBn.out; omega)
                    have HDn := Lib.hid (done_any w6 HA6.out.rd)
                    have hlft := left_any w6 HA6.out.rd
                    rw [← hsb] at hlft
                    have HLft := Lib.hid hlft
                    obtain ⟨dn, hdn⟩ : ∃ dn, dn = s3.done := ⟨_, rfl⟩
                    rw [← hdn] at HDn
                    have HDd := Lib.hid hdn
                    have c7 : w6.cell? ⟨gx, 7, none⟩ = some _ := HA6.out.bx.cell 7 rfl
                    have f7 := HA6.out.bx.free 7
                    have c8 : (w6.setCell ⟨gx, 7, none⟩ (.int .i64 0)).cell? ⟨gx, 8, none⟩ = some _ := (HA6.out.bx.set 7 _).cell 8 rfl
                    have f8 := (HA6.out.bx.set 7 (.int .i64 0)).free 8
                    have c9 : ((w6.setCell ⟨gx, 7, none⟩ (.int .i64 0)).setCell ⟨gx, 8, none⟩ (.bool dn)).cell? ⟨gx, 9, none⟩ = some _ := ((HA6.out.bx.set 7 _).set 8 _).cell 9 rfl
                    have f9 := ((HA6.out.bx.set 7 (.int .i64 0)).set 8 (.bool dn)).free 9
                    obtain ⟨w7, hw7⟩ : ∃ w7, w7 = ((w6.setCell ⟨gx, 7, none⟩ (.int .i64 0)).setCell ⟨gx, 8, none⟩ (.bool dn)).setCell ⟨gx, 9, none⟩ (.int .i64 (lf : Int)) := ⟨_, rfl⟩
                    obtain ⟨xn, hxn⟩ : ∃ xn : Xr, xn = { x1 with ft := 0, dn := dn, lf := (lf : Int) } := ⟨_, rfl⟩
                    have HAn : Hid (ASt w0 w7 g gx hd bk3 s3 xn a1 ra' m mc (rest.drop k)) := Lib.hid (by rw [hw7, hxn]; exact HA6.out.nums _ _ _)
                    have HE7 : Hid (Has w7 eb 33 [.int .i64 1, .int .i64 (st : Int), .slice fa fn fc, .int .i64 fr, .slice none 0 0]) := Lib.hid (by rw [hw7]; exact ((HE6.out.other HEb.out 7 _).other HEb.out 8 _).other HEb.out 9 _)
                    have HXn := Lib.hid hxn
                    have HK7 : Hid (Kept (fun k => k = gx) w5 w7) := Lib.hid (by rw [hw7]; exact (((Kept.of_below (X := fun k => k = gx) hb6).trans (Kept.set w6 gx 7 _) (fun _ _ e => e)).trans (Kept.set _ gx 8 _) (fun _ _ e => e)).trans (Kept.set _ gx 9 _) (fun _ _ e => e))
                    clear hsb hlf hlft hdn hxn hb6
                    go_upto_region 17 with fail
                    rw [← hw6, ← heb]
                    clear hw6 heb
                    go_wp2_with fail
                    refine HDn.out.mono ?_
                    rintro e wz ⟨rfl, hwz⟩
                    replace hwz := hwz.symm
                    subst hwz
                    go_wp2_with fail
                    refine HLft.out.mono ?_
                    rintro e wz ⟨rfl, hwz⟩
                    replace hwz := hwz.symm
                    subst hwz
                    go_upto_region 18 with fail
                    rw [← hw7]
                    clear hw7 c7 f7 c8 f8 c9 f9 z1 z2
                    have HS7 : Hid (Sps w7 wr.heap.size fa fc fl) := Lib.hid (own_kept HS5.out HK7.out (fun k e e2 => by have := (HS5.out.lt k e).1; have := HBl2.out.2.1; omega))
                    obtain ⟨w8, hw8⟩ : ∃ w8, w8 = w7.setCells gx 0 [.int .i64 1, .int .i64 (st : Int), .slice fa fn fc, .int .i64 fr, .slice none 0 0] := ⟨_, rfl⟩
                    have HA8 : Hid (ASt w0 w8 g gx hd bk3 s3 { xn with k := 1, st := (st : Int), fa := fa, fn := fn, fc := fc, fr := fr } (a1.add (.head st fl fr)) ra' m mc (rest.drop k)) := Lib.hid (by
                      rw [hw8]
                      exact HAn.out.head (B := wr.heap.size) HBl2.out.2.2.2.2.2 HFn.out HS7.out (by rw [HXn.out]; exact HBl2.out.2.2.2.1) ⟨HBl2.out.1, HBl2.out.2.1, HBl2.out.2.2.1⟩ HBl2.out.2.2.2.2.1)
                    have HRl2 : Hid (BRel w0 g gx hd b bk3 ra' m mc (rest.drop k) e R w8) := Lib.hid ⟨s3, _, _, HA8.out, HR1.out.trans HN.out.1, HN.out.2.2.1.trans HEn1.out, HN.out.2.1, HN.out.2.2.2.2.1, by
                      have h1 := HN.out.2.2.2.2.2
                      have h2 := HSz1.out
                      show s3.b.length + a1.body.length + _ ≤ _
                      omega⟩
                    have HMs : Hid (muN w8 g < muN wr g) := Lib.hid (by rw [HA8.out.rd.muN, HMu.out]; exact HN.out.2.2.2.1)
                    have e0 := HE7.out.cell 0 rfl
                    have e1 := HE7.out.cell 1 rfl
                    have e2 := HE7.out.cell 2 rfl
                    have e3 := HE7.out.cell 3 rfl
                    have e4 := HE7.out.cell 4 rfl
                    have hth : w7.there gx 0 5 := fun j hj => (HAn.out.bx.there (n := 10) rfl) j (by omega)
                    have ho1 := ev_one 1 (st : Int) fr fa none fn fc 0 0
                    have HW8 := Lib.hid hw8
                    clear hw8
                    go_wp2_with (
                      refine wpList_store_mid rfl 33 (.tmp 105) (.tmp 104) rfl gx 0 #[.int .i64 1, .int .i64 (st : Int), .slice fa fn fc, .int .i64 fr, .slice none 0 0] rfl rfl hth infoEv ho1 ?_
                      rw [show w7.setCells gx 0 (#[.int .i64 1, .int .i64 (st : Int), .slice fa fn fc, .int .i64 fr, .slice none 0 0] : Array Value).toList = w8 from HW8.out.symm]
                      dsimp only [Act.put])
                    go_wp2_with fail
                    go_roundw
                    case rel => exact HRl2.out
                    case measure => exact HMs.out
                  | .data d, hok5 =>
                    obtain ⟨hex, hs5⟩ := hok5
                    obtain ⟨da, hda⟩ : ∃ da, da = ex.da := ⟨_, rfl⟩
                    obtain ⟨dc, hdc⟩ : ∃ dc, dc = ex.dc := ⟨_, rfl⟩
                    obtain ⟨dn2, hdn2⟩ : ∃ n, n = d.length := ⟨_, rfl⟩
                    rw [← hda, ← hdc, ← hdn2] at hex hs5
                    clear hda hdc
                    have HS5 := Lib.hid hs5
                    have HFn := Lib.hid hdn2
                    clear hdn2 hs5
                    subst hex
                    dsimp only [An.v] at hee
                    subst hee
                    obtain ⟨w6, hw6⟩ : ∃ w6, w6 = w5.alloc (.cells #[.int .i64 2, .int .i64 0, .slice none 0 0, .int .i64 0, .slice da dn2 dc] 33) := ⟨_, rfl⟩
                    obtain ⟨eb, heb⟩ : ∃ eb, eb = w5.heap.size := ⟨_, rfl⟩
                    have hb6 : Below w5.heap.size w5 w6 := by rw [hw6]; exact (Below.refl _ w5).alloc (Nat.le_refl _) _
                    have HE6 : Hid (Has w6 eb 33 [.int .i64 2, .int .i64 0, .slice none 0 0, .int .i64 0, .slice da dn2 dc]) := Lib.hid (by rw [hw6, heb]; exact Has.new w5 33 _)
                    have HA6 := Lib.hid (HA5.out.below hb6)
                    have HEb : Hid (eb ≠ gx) := Lib.hid (by have := HA5.out.bx.lt; omega)
                    obtain ⟨sb, hsb⟩ : ∃ sb, sb = s3.b.length := ⟨_, rfl⟩
                    obtain ⟨lf, hlf⟩ : ∃ lf, lf = sb + m := ⟨_, rfl⟩
                    have HSb := Lib.hid (And.intro hsb hlf)
                    obtain ⟨z1, z2⟩ := als hlf (by have := HSz3.out; have := HBl.out; have := HBn.out; omega)
                    have HDn := Lib.hid (done_any w6 HA6.out.rd)
                    have hlft := left_any w6 HA6.out.rd
                    rw [← hsb] at hlft
                    have HLft := Lib.hid hlft
                    obtain ⟨dn, hdn⟩ : ∃ dn, dn = s3.done := ⟨_, rfl⟩
                    rw [← hdn] at HDn
                    have HDd := Lib.hid hdn
                    have c7 : w6.cell? ⟨gx, 7, none⟩ = some _ := HA6.out.bx.cell 7 rfl
                    have f7 := HA6.out.bx.free 7
                    have c8 : (w6.setCell ⟨gx, 7, none⟩ (.int .i64 0)).cell? ⟨gx, 8, none⟩ = some _ := (HA6.out.bx.set 7 _).cell 8 rfl
                    have f8 := (HA6.out.bx.set 7 (.int .i64 0)).free 8
                    have c9 : ((w6.setCell ⟨gx, 7, none⟩ (.int .i64 0)).setCell ⟨gx, 8, none⟩ (.bool dn)).cell? ⟨gx, 9, none⟩ = some _ := ((HA6.out.bx.set 7 _).set 8 _).cell 9 rfl
                    have f9 := ((HA6.out.bx.set 7 (.int .i64 0)).set 8 (.bool dn)).free 9
                    obtain ⟨w7, hw7⟩ : ∃ w7, w7 = ((w6.setCell ⟨gx, 7, none⟩ (.int .i64 0)).setCell ⟨gx, 8, none⟩ (.bool dn)).setCell ⟨gx, 9, none⟩ (.int .i64 (lf : Int)) := ⟨_, rfl⟩
                    obtain ⟨xn, hxn⟩ : ∃ xn : Xr, xn = { x1 with ft := 0, dn := dn, lf := (lf : Int) } := ⟨_, rfl⟩
                    have HAn : Hid (ASt w0 w7 g gx hd bk3 s3 xn a1 ra' m mc (rest.drop k)) := Lib.hid (by rw [hw7, hxn]; exact HA6.out.nums _ _ _)
                    have HE7 : Hid (Has w7 eb 33 [.int .i64 2, .int .i64 0, .slice none 0 0, .int .i64 0, .slice da dn2 dc]) := Lib.hid (by rw [hw7]; exact ((HE6.out.other HEb.out 7 _).other HEb.out 8 _).other HEb.out 9 _)
                    have HXn := Lib.hid hxn
                    have HK7 : Hid (Kept (fun k => k = gx) w5 w7) := Lib.hid (by rw [hw7]; exact (((Kept.of_below (X := fun k => k = gx) hb6).trans (Kept.set w6 gx 7 _) (fun _ _ e => e)).trans (Kept.set _ gx 8 _) (fun _ _ e => e)).trans (Kept.set _ gx 9 _) (fun _ _ e => e))
                    clear hsb hlf hlft hdn hxn hb6
                    go_upto_region 17 with fail
                    rw [← hw6, ← heb]
                    clear hw6 heb
                    go_wp2_with fail
                    refine HDn.out.mono ?_
                    rintro e wz ⟨rfl, hwz⟩
                    replace hwz := hwz.symm
                    subst hwz
                    go_wp2_with fail
                    refine HLft.out.mono ?_
                    rintro e wz ⟨rfl, hwz⟩
                    replace hwz := hwz.symm
                    subst hwz
                    go_upto_region 18 with fail
                    rw [← hw7]
                    clear hw7 c7 f7 c8 f8 c9 f9 z1 z2
                    have hs7 : w7.ownsRow wr.heap.size 5 1 (.slice da dn2 dc) dn2 (bv d) := own_kept HS5.out HK7.out (fun k e e2 => by have := (HS5.out.lt k e).1; have := HBl2.out.2.1; omega)
                    obtain ⟨a8, c8, w8, hr8, hbx8, hA8⟩ := HAn.out.data (tyo := 23) HFn.out hs7 (by
                      have h1 := HAn.out.ok.bn
                      have h2 := HSz1.out
                      have h3 : s3.b.length + d.length ≤ s2.b.length := HN.out.2.2.2.2.2
                      have := HFn.out; have := HBl.out; have := HBn.out; omega)
                    obtain ⟨w9, hw9⟩ : ∃ w9, w9 = w8.setCell ⟨gx, 5, none⟩ (.slice a8 (xn.bn + dn2) c8) := ⟨_, rfl⟩
                    rw [← hw9] at hA8
                    have HA9 := Lib.hid hA8
                    have HRl2 : Hid (BRel w0 g gx hd b bk3 ra' m mc (rest.drop k) e R w9) := Lib.hid ⟨s3, _, _, HA9.out, HR1.out.trans HN.out.1, HN.out.2.2.1.trans HEn1.out, HN.out.2.1, HN.out.2.2.2.2.1, by
                      have h1 : s3.b.length + d.length ≤ s2.b.length := HN.out.2.2.2.2.2
                      have h2 := HSz1.out
                      show s3.b.length + (a1.body ++ d).length + _ ≤ _
                      rw [List.length_append]
                      omega⟩
                    have HMs : Hid (muN w9 g < muN wr g) := Lib.hid (by rw [HA9.out.rd.muN, HMu.out]; exact HN.out.2.2.2.1)
                    have e0 := HE7.out.cell 0 rfl
                    have e4 := HE7.out.cell 4 rfl
                    have q5 := HAn.out.bx.cell 5 rfl
                    have p5 := hbx8.cell 5 rfl
                    have f5 := hbx8.free 5
                    have HW9 := Lib.hid hw9
                    obtain ⟨n8, hn8⟩ : ∃ n8, n8 = xn.bn + dn2 := ⟨_, rfl⟩
                    rw [← hn8] at hr8 HW9
                    clear hw9 hA8 hs7 hbx8 hn8
                    go_wp2_with (at_builtin; refine Lib.wpList_append_run _ rfl _ _ _ _ rfl (.slice xn.ba xn.bn xn.bc) (.slice da dn2 dc) rfl rfl _ _ hr8 ?_)
                    go_wp2_with fail
                    rw [← HW9.out]
                    go_roundw
                    case rel => exact HRl2.out
                    case measure => exact HMs.out
                  | .fin fl, hok5 =>
                    obtain ⟨hex, hs5⟩ := hok5
                    obtain ⟨fa, hfa⟩ : ∃ fa, fa = ex.fa := ⟨_, rfl⟩
                    obtain ⟨fc, hfc⟩ : ∃ fc, fc = ex.fc := ⟨_, rfl⟩
                    obtain ⟨fn, hfn⟩ : ∃ fn, fn = fl.length := ⟨_, rfl⟩
                    rw [← hfa, ← hfc] at hex hs5
                    rw [← hfn] at hex
                    clear hfa hfc
                    have HS5 := Lib.hid hs5
                    have HFn := Lib.hid hfn
                    clear hfn hs5
                    subst hex
                    dsimp only [An.v] at hee
                    subst hee
                    obtain ⟨w6, hw6⟩ : ∃ w6, w6 = w5.alloc (.cells #[.int .i64 3, .int .i64 0, .slice fa fn fc, .int .i64 0, .slice none 0 0] 33) := ⟨_, rfl⟩
                    obtain ⟨eb, heb⟩ : ∃ eb, eb = w5.heap.size := ⟨_, rfl⟩
                    have hb6 : Below w5.heap.size w5 w6 := by rw [hw6]; exact (Below.refl _ w5).alloc (Nat.le_refl _) _
                    have HE6 : Hid (Has w6 eb 33 [.int .i64 3, .int .i64 0, .slice fa fn fc, .int .i64 0, .slice none 0 0]) := Lib.hid (by rw [hw6, heb]; exact Has.new w5 33 _)
                    have HA6 := Lib.hid (HA5.out.below hb6)
                    have HEb : Hid (eb ≠ gx) := Lib.hid (by have := HA5.out.bx.lt; omega)
                    obtain ⟨sb, hsb⟩ : ∃ sb, sb = s3.b.length := ⟨_, rfl⟩
                    obtain ⟨lf, hlf⟩ : ∃ lf, lf = sb + m := ⟨_, rfl⟩
                    have HSb := Lib.hid (And.intro hsb hlf)
                    obtain ⟨z1, z2⟩ := als hlf (by have := HSz3.out; have := HBl.out; have := HBn.out; omega)
                    have HDn := Lib.hid (done_any w6 HA6.out.rd)
                    have hlft := left_any w6 HA6.out.rd
                    rw [← hsb] at hlft
                    have HLft := Lib.hid hlft
                    obtain ⟨dn, hdn⟩ : ∃ dn, dn = s3.done := ⟨_, rfl⟩
                    rw [← hdn] at HDn
                    have HDd := Lib.hid hdn
                    have c7 : w6.cell? ⟨gx, 7, none⟩ = some _ := HA6.out.bx.cell 7 rfl
                    have f7 := HA6.out.bx.free 7
                    have c8 : (w6.setCell ⟨gx, 7, none⟩ (.int .i64 0)).cell? ⟨gx, 8, none⟩ = some _ := (HA6.out.bx.set 7 _).cell 8 rfl
                    have f8 := (HA6.out.bx.set 7 (.int .i64 0)).free 8
                    have c9 : ((w6.setCell ⟨gx, 7, none⟩ (.int .i64 0)).setCell ⟨gx, 8, none⟩ (.bool dn)).cell? ⟨gx, 9, none⟩ = some _ := ((HA6.out.bx.set 7 _).set 8 _).cell 9 rfl
                    have f9 := ((HA6.out.bx.set 7 (.int .i64 0)).set 8 (.bool dn)).free 9
                    obtain ⟨w7, hw7⟩ : ∃ w7, w7 = ((w6.setCell ⟨gx, 7, none⟩ (.int .i64 0)).setCell ⟨gx, 8, none⟩ (.bool dn)).setCell ⟨gx, 9, none⟩ (.int .i64 (lf : Int)) := ⟨_, rfl⟩
                    obtain ⟨xn, hxn⟩ : ∃ xn : Xr, xn = { x1 with ft := 0, dn := dn, lf := (lf : Int) } := ⟨_, rfl⟩
                    have HAn : Hid (ASt w0 w7 g gx hd bk3 s3 xn a1 ra' m mc (rest.drop k)) := Lib.hid (by rw [hw7, hxn]; exact HA6.out.nums _ _ _)
                    have HE7 : Hid (Has w7 eb 33 [.int .i64 3, .int .i64 0, .slice fa fn fc, .int .i64 0, .slice none 0 0]) := Lib.hid (by rw [hw7]; exact ((HE6.out.other HEb.out 7 _).other HEb.out 8 _).other HEb.out 9 _)
                    have HXn := Lib.hid hxn
                    have HK7 : Hid (Kept (fun k => k = gx) w5 w7) := Lib.hid (by rw [hw7]; exact (((Kept.of_below (X := fun k => k = gx) hb6).trans (Kept.set w6 gx 7 _) (fun _ _ e => e)).trans (Kept.set _ gx 8 _) (fun _ _ e => e)).trans (Kept.set _ gx 9 _) (fun _ _ e => e))
                    clear hsb hlf hlft hdn hxn hb6
                    go_upto_region 17 with fail
                    rw [← hw6, ← heb]
                    clear hw6 heb
                    go_wp2_with fail
                    refine HDn.out.mono ?_
                    rintro e wz ⟨rfl, hwz⟩
                    replace hwz := hwz.symm
                    subst hwz
                    go_wp2_with fail
                    refine HLft.out.mono ?_
                    rintro e wz ⟨rfl, hwz⟩
                    replace hwz := hwz.symm
                    subst hwz
                    go_upto_region 18 with fail
                    rw [← hw7]
                    clear hw7 c7 f7 c8 f8 c9 f9 z1 z2
                    have HS7 : Hid (fl = [] ∧ fa = none ∧ fc = 0 ∨ Sps w7 wr.heap.size fa fc fl) := Lib.hid (HS5.out.imp id (fun h => own_kept h HK7.out (fun k e e2 => by have := (h.lt k e).1; have := HBl2.out.2.1; omega)))
                    obtain ⟨w8, hw8⟩ : ∃ w8, w8 = w7.setCell ⟨gx, 6, none⟩ (.slice fa fn fc) := ⟨_, rfl⟩
                    have HA8 : Hid (ASt w0 w8 g gx hd bk3 s3 { xn with ta := fa, tn := fn, tc := fc } (a1.add (.fin fl)) ra' m mc (rest.drop k)) := Lib.hid (by
                      rw [hw8]
                      exact HAn.out.fin (B := wr.heap.size) HBl2.out.2.2.2.2.2 HFn.out HS7.out (by rw [HXn.out]; exact HBl2.out.2.2.2.1) ⟨HBl2.out.1, HBl2.out.2.1, HBl2.out.2.2.1⟩ HBl2.out.2.2.2.2.1)
                    have HRl2 : Hid (BRel w0 g gx hd b bk3 ra' m mc (rest.drop k) e R w8) := Lib.hid ⟨s3, _, _, HA8.out, HR1.out.trans HN.out.1, HN.out.2.2.1.trans HEn1.out, HN.out.2.1, HN.out.2.2.2.2.1, by
                      have h1 := HN.out.2.2.2.2.2
                      have h2 := HSz1.out
                      show s3.b.length + a1.body.length + _ ≤ _
                      omega⟩
                    have HMs : Hid (muN w8 g < muN wr g) := Lib.hid (by rw [HA8.out.rd.muN, HMu.out]; exact HN.out.2.2.2.1)
                    have e0 := HE7.out.cell 0 rfl
                    have e2 := HE7.out.cell 2 rfl
                    have q6 := HAn.out.bx.cell 6 rfl
                    have f6 := HAn.out.bx.free 6
                    have HW8 := Lib.hid hw8
                    clear hw8
                    go_wp2_with fail
                    go_roundw
                    case rel => rw [← HW8.out]; exact HRl2.out
                    case measure => rw [← HW8.out]; exact HMs.out
end Go.Proofs.YtfffefhchjnfjaaGreatDoor

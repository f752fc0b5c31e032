/- turnpikeref18.Check: what it answers, plain; requests in a variable. No condition. -/
import Derived.Test.YtohinaohcndndaaDoorChk4
namespace Go.Proofs.YtohinaohcndndaaDoor
open Go.RowKit

/-- what Check answers -/
structure Ck where
  rq : Rq
  er : Int
def rq0 : Rq := ⟨⟨#[]⟩, ⟨#[]⟩, ⟨#[]⟩, ⟨#[]⟩, [], 0⟩
def Ck.bad (e : Int) : Ck := ⟨rq0, e⟩
def conS : List UInt8 := [67, 79, 78, 78, 69, 67, 84]
def hostS : List UInt8 := [104, 111, 115, 116]
def metS : List UInt8 := [58, 109, 101, 116, 104, 111, 100]
def schS : List UInt8 := [58, 115, 99, 104, 101, 109, 101]
def patS : List UInt8 := [58, 112, 97, 116, 104]
def autN : List UInt8 := [58, 97, 117, 116, 104, 111, 114, 105, 116, 121]
def tokenL (l : List UInt8) : Bool := l.all tokC && !l.isEmpty
def authL (l : List UInt8) : Bool := l.all autC && !l.isEmpty
def oneAt (fs : List Fd) (i : Nat) : Int := match fs[i]? with | some f => oneF fs i f | none => 0
def firstNZ : List Int → Int
  | [] => 0
  | x :: r => if x = 0 then firstNZ r else x
def errF (fs : List Fd) : Int := firstNZ ((List.range fs.length).map (oneAt fs))
def hostBad (a : List UInt8) (f : Fd) : Bool := decide (bl f.nm = hostS) && !decide (bl f.va = a)
def keepF (f : Fd) : Bool := !decide (bl f.nm = hostS) && !psL (bl f.nm)
def lastL' (n : Int) (f : Fd) : Int := if bl f.nm = clS then lenL (bl f.va) else n
def getB (o : Option ByteArray) : ByteArray := o.getD ⟨#[]⟩
/-- behind the authority's question -/
def chkEnd (fs : List Fd) (me sc pa au : ByteArray) : Ck :=
  if fs.any (hostBad (bl au)) = true then Ck.bad 182 else ⟨⟨me, sc, au, pa, fs.filter keepF, fs.foldl lastL' (-1)⟩, 0⟩
def chkAut (fs : List Fd) (me sc pa : ByteArray) (a : Option ByteArray) : Ck :=
  match a with
  | none => Ck.bad 183
  | some au => if authL (bl au) = false then Ck.bad 182 else chkEnd fs me sc pa au
def chkHost (fs : List Fd) (me sc pa : ByteArray) (a : Option ByteArray) : Ck :=
  match a with
  | none => chkAut fs me sc pa (findF fs hostS)
  | some au => chkAut fs me sc pa (some au)
def okSch (s : List UInt8) : Bool := decide (s = [104, 116, 116, 112]) || decide (s = [104, 116, 116, 112, 115])
/-- behind the fields' question -/
def chkM (fs : List Fd) : Ck :=
  match findF fs metS with
  | none => Ck.bad 183
  | some me =>
    if tokenL (bl me) = false then Ck.bad 182
    else if bl me = conS then (if ((findF fs schS).isSome || (findF fs patS).isSome) = true then Ck.bad 182 else if (findF fs autN).isNone = true then Ck.bad 183 else chkHost fs me (getB (findF fs schS)) (getB (findF fs patS)) (findF fs autN))
    else (if ((findF fs schS).isNone || (findF fs patS).isNone) = true then Ck.bad 183 else if (!okSch (bl (getB (findF fs schS))) || !pathL (bl me) (bl (getB (findF fs patS)))) = true then Ck.bad 182 else chkHost fs me (getB (findF fs schS)) (getB (findF fs patS)) (findF fs autN))
def chkF (fs : List Fd) (cnt sz : Int) : Ck :=
  if muchL fs cnt sz = true then Ck.bad 185 else if errF fs ≠ 0 then Ck.bad (errF fs) else chkM fs
def CkR (w : World) (r : Ck) (e : Ending) (w' : World) : Prop := ∃ a c, e = .returned (.tuple #[rqV r.rq a c, .int .i64 r.er]) ∧ Sps w' w.heap.size a c r.rq.fs ∧ Below w.heap.size w w'
theorem first_nz {l : List Int} {i : Nat} (h : i < l.length) (hz : ∀ x ∈ l.take i, x = 0) (hn : l[i] ≠ 0) : firstNZ l = l[i] := by
  induction l generalizing i with
  | nil => simp at h
  | cons x r ih =>
    cases i with
    | zero => unfold firstNZ; exact if_neg hn
    | succ i =>
      unfold firstNZ
      rw [if_pos (hz x (by simp))]
      exact ih (by simpa using h) (fun y hy => hz y (by simp [hy])) hn
theorem first_z : ∀ {l : List Int}, (∀ x ∈ l, x = 0) → firstNZ l = 0
  | [], _ => rfl
  | x :: r, h => by unfold firstNZ; rw [if_pos (h x (by simp))]; exact first_z fun y hy => h y (by simp [hy])
theorem err_at {fs : List Fd} {i : Nat} (h : i < fs.length) (hz : ∀ k, k < i → oneAt fs k = 0) (hn : oneAt fs i ≠ 0) : errF fs = oneAt fs i := by
  have hl : i < ((List.range fs.length).map (oneAt fs)).length := by simpa using h
  have e : ((List.range fs.length).map (oneAt fs))[i] = oneAt fs i := by simp
  rw [errF, first_nz hl ?_ (by rw [e]; exact hn), e]
  intro x hx
  rw [← List.map_take, List.take_range] at hx
  simp only [List.mem_map, List.mem_range] at hx
  obtain ⟨k, hk, rfl⟩ := hx
  exact hz k (by omega)
theorem err_z {fs : List Fd} (hz : ∀ k, k < fs.length → oneAt fs k = 0) : errF fs = 0 := by
  refine first_z fun x hx => ?_
  simp only [List.mem_map, List.mem_range] at hx
  obtain ⟨k, hk, rfl⟩ := hx
  exact hz k hk
theorem one_at {fs : List Fd} {i : Nat} (h : i < fs.length) : oneAt fs i = oneF fs i fs[i] := by
  unfold oneAt
  rw [List.getElem?_eq_getElem h]

theorem Has.rangeAt {w : World} {b : Nat} {t : TypeId} {vs : List Value} (h : Has w b t vs) : w.rangeAt b 0 vs := fun j v hv => by rw [Nat.zero_add]; exact h.cell j hv
theorem Has.there {w : World} {b : Nat} {t : TypeId} {vs : List Value} (h : Has w b t vs) {n : Nat} (hn : n = vs.length) : w.there b 0 n := fun j hj => by
  rw [Nat.zero_add]
  exact ⟨by rw [h.cell j (List.getElem?_eq_getElem (by omega))]; rfl, h.free j⟩
theorem infoRq : (Tryd.prog.info? 34).map (·.size) = some 6 := by kernel_rfl
theorem run_load_rq {w : World} {b : Nat} {vs : List Value} (hH : Has w b 34 vs) (hl : vs.length = 6) : (loadVar 34 ⟨b, 0, none⟩).run Tryd.prog w = .ok (.agg vs.toArray) w :=
  run_loadVar_mid (P := Tryd.prog) w b 0 34 vs _ hH.rangeAt Tryd.underlying34 rfl (by rw [infoRq, hl])
theorem results_rq2 {fn : Func} {c u : Tmp} (h : fn.results = #[.cell c 34, .tmp u]) (tmps : Array Value) {w : World} {b : Nat} {vs : List Value} (hc : tmps.getD c undef = .pointer (some ⟨b, 0, none⟩)) (hH : Has w b 34 vs) (hl : vs.length = 6) :
    (results fn tmps).run Tryd.prog w = .ok (.tuple #[.agg vs.toArray, tmps.getD u undef]) w := by
  have hr := run_load_rq hH hl
  simp only [results, h]
  simp only [Array.getD_eq_getD_getElem?] at hc ⊢
  simp [hc, asAddr, hr]
def rqC (me sc au pa : ByteArray) (a : Option Addr) (n c : Nat) (len : Int) : List Value := [.string me, .string sc, .string au, .string pa, .slice a n c, .int .i64 len]
def rq0C : List Value := rqC ⟨#[]⟩ ⟨#[]⟩ ⟨#[]⟩ ⟨#[]⟩ none 0 0 0
theorem Has.stores {b : Nat} {t : TypeId} : ∀ {vs : List Value} {us : List Value} {w : World} (o : Nat), Has w b t us → o + vs.length ≤ us.length → Has (w.setCells b o vs) b t (us.take o ++ vs ++ us.drop (o + vs.length)) := by
  intro vs
  induction vs with
  | nil => intro us w o h _; simpa [World.setCells] using h
  | cons v r ih =>
    intro us w o h hl
    rw [World.setCells]
    have h1 := ih (o + 1) (h.set o v) (by simp at hl ⊢; omega)
    have e : (us.set o v).take (o + 1) ++ r ++ (us.set o v).drop (o + 1 + r.length) = us.take o ++ (v :: r) ++ us.drop (o + (v :: r).length) := by
      simp only [List.length_cons] at hl
      rw [List.take_set, List.drop_set_of_lt (by omega)]
      have e1 : (us.take (o + 1)).set o v = us.take o ++ [v] := by
        rw [List.take_succ_eq_append_getElem (by omega), List.set_append_right _ _ (by simp; omega)]
        simp [List.length_take, Nat.min_eq_left (show o ≤ us.length by omega)]
      rw [e1, List.length_cons]
      simp [List.append_assoc, Nat.add_comm, Nat.add_left_comm]
    rw [← e]
    exact h1
theorem Has.store {w : World} {b : Nat} {t : TypeId} {us vs : List Value} (h : Has w b t us) (hl : vs.length = us.length) : Has (w.setCells b 0 vs) b t vs := by
  have := h.stores (vs := vs) 0 (by omega)
  rw [List.take_zero, List.nil_append, Nat.zero_add, hl, List.drop_length, List.append_nil] at this
  exact this
theorem Kept.sets (b : Nat) : ∀ (vs : List Value) (o : Nat) (w : World), Kept (fun k => k = b) w (w.setCells b o vs)
  | [], _, w => Kept.refl _ w
  | v :: r, o, w => by
    rw [World.setCells]
    exact (Kept.set w b o v).trans (Kept.sets b r (o + 1) _) (fun _ _ h => h)
theorem rqC_one (me sc au pa : ByteArray) (a : Option Addr) (n c : Nat) (len : Int) : Array.all (#[.string me, .string sc, .string au, .string pa, .slice a n c, .int .i64 len] : Array Value) (·.oneCell') = true := by simp [Value.oneCell']
theorem find_le {fs : List Fd} {n : List UInt8} {v : ByteArray} (hz : fdz fs ≤ 1048576) (h : findF fs n = some v) : v.size ≤ 1048576 := by
  obtain ⟨f, hf, rfl⟩ := find_size h
  obtain ⟨i, hi, rfl⟩ := List.getElem_of_mem hf
  have := fdz_at fs i hi
  omega
/-- refused: nothing but a number -/
theorem ck_bad {w w' : World} {g : Nat} (e : Int) (hB : Below w.heap.size w w') (hg : w.heap.size ≤ g) : CkR w (Ck.bad e) (.returned (.tuple #[.agg rq0C.toArray, .int .i64 e])) (w'.setCells g 0 rq0C) :=
  ⟨none, 0, rfl, World.ownsRow_nil _ _ _ _, hB.trans ((Kept.sets g rq0C 0 w').below hB.size (fun k hk => by rw [hk]; exact hg))⟩
end Go.Proofs.YtohinaohcndndaaDoor

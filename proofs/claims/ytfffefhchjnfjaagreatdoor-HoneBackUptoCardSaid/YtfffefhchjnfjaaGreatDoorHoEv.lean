/- hone's events: what a step answers; wait, end, begin. No condition. -/
import Derived.Test.YtfffefhchjnfjaaGreatDoorHoTl
namespace Go.Proofs.YtfffefhchjnfjaaGreatDoor
open Go.RowKit

/-- an event's cells -/
def evC (k st : Int) (fv : Value) (fr : Int) (dv : Value) : List Value := [.int .i64 k, .int .i64 st, fv, .int .i64 fr, dv]
def nilV : Value := .slice none 0 0
def ev0 : List Value := evC 0 0 nilV 0 nilV
theorem infoEv : (Tryz.prog.info? 33).map (·.size) = some 5 := by kernel_rfl
theorem results_ev3 {fn : Func} {c u v : Tmp} (h : fn.results = #[.cell c 33, .tmp u, .tmp v]) (tmps : Array Value) {w : World} {b : Nat} {vs : List Value} (hc : tmps.getD c undef = .pointer (some ⟨b, 0, none⟩)) (hH : Has w b 33 vs) (hl : vs.length = 5) :
    (results fn tmps).run Tryz.prog w = .ok (.tuple #[.agg vs.toArray, tmps.getD u undef, tmps.getD v undef]) w := by
  have hr := run_loadVar_mid (P := Tryz.prog) w b 0 33 vs _ hH.rangeAt Tryz.underlying33 rfl (by rw [infoEv, hl])
  simp only [results, h]
  simp only [Array.getD_eq_getD_getElem?] at hc ⊢
  simp [hc, asAddr, hr]
/-- the function that a step is -/
def stpV : Stp → Value
  | .head => .func (.func 29) #[] #[]
  | .nobody => .func (.func 46) #[] #[]
  | .length => .func (.func 49) #[] #[]
  | .close => .func (.func 50) #[] #[]
  | .chunk => .func (.func 48) #[] #[]
  | .piece => .func (.func 75) #[] #[]
  | .trailers => .func (.func 74) #[] #[]
/-- a reader in state s lies at block g; its bytes lie elsewhere -/
structure RdS (w : World) (g : Nat) (hd : Bool) (lim : Nat) (bk : Option Nat) (s : HSt) : Prop where
  ex : ∃ (r : RD) (a : Option Addr) (n c : Nat), Rd w g r ∧ r.bf = .slice a n c ∧ Tl w a n c (bv s.b) ∧ (∀ ad, a = some ad → ad.block ≠ g) ∧ a.map (·.block) = bk ∧ r.hd = hd ∧ r.lim = (lim : Int) ∧ r.en = s.ended ∧ r.ft = s.fault ∧ r.st = stpV s.stp ∧ r.dn = s.done ∧ r.od = s.old ∧ r.fr = s.fr ∧ r.lf = (s.left : Int)
/-- an answer: an event, whether there is one, an error -/
structure An where
  k : Int
  st : Int
  fa : Option Addr
  fn : Nat
  fc : Nat
  fr : Int
  da : Option Addr
  dn : Nat
  dc : Nat
  y : Bool
  er : Int
def An.cs (x : An) : List Value := [.int .i64 x.k, .int .i64 x.st, .slice x.fa x.fn x.fc, .int .i64 x.fr, .slice x.da x.dn x.dc]
def An.v (x : An) : Value := .tuple #[.agg #[.int .i64 x.k, .int .i64 x.st, .slice x.fa x.fn x.fc, .int .i64 x.fr, .slice x.da x.dn x.dc], .bool x.y, .int .i64 x.er]
def an0 (er : Int) : An := ⟨0, 0, none, 0, 0, 0, none, 0, 0, false, er⟩
/-- the answer tells o; its rows are one's own from B on -/
def An.Ok (B : Nat) (w : World) (x : An) : Out → Prop
  | .none => x = an0 0
  | .bad c => x = an0 c
  | .ev (.head st l fr) => x = ⟨1, (st : Int), x.fa, l.length, x.fc, fr, none, 0, 0, true, 0⟩ ∧ Sps w B x.fa x.fc l
  | .ev (.data d) => x = ⟨2, 0, none, 0, 0, 0, x.da, d.length, x.dc, true, 0⟩ ∧ w.ownsRow B 5 1 (.slice x.da d.length x.dc) d.length (bv d)
  | .ev (.fin l) => x = ⟨3, 0, x.fa, l.length, x.fc, 0, none, 0, 0, true, 0⟩ ∧ (l = [] ∧ x.fa = none ∧ x.fc = 0 ∨ Sps w B x.fa x.fc l)
/-- what a step answers -/
def EvR (w : World) (g : Nat) (hd : Bool) (lim : Nat) (bk : Option Nat) (p : HSt × Out) (e : Ending) (w' : World) : Prop :=
  ∃ x : An, e = .returned x.v ∧ RdS w' g hd lim bk p.1 ∧ Kept (fun k => k = g) w w' ∧ x.Ok w.heap.size w' p.2
theorem An.Ok.kept {X : Nat → Prop} {B : Nat} {w w' : World} {x : An} {o : Out} (h : x.Ok B w o) (hk : Kept X w w') (hx : ∀ k, B ≤ k → ¬ X k) : x.Ok B w' o := by
  match o, h with
  | .none, h => exact h
  | .bad c, h => exact h
  | .ev (.head st l fr), h => exact ⟨h.1, own_kept h.2 hk (fun k e => hx k (h.2.lt k e).1)⟩
  | .ev (.data d), h => exact ⟨h.1, own_kept h.2 hk (fun k e => hx k (h.2.lt k e).1)⟩
  | .ev (.fin l), h => exact ⟨h.1, h.2.imp id (fun h => own_kept h hk (fun k e => hx k (h.lt k e).1))⟩
theorem An.Ok.down {B B' : Nat} {w : World} {x : An} {o : Out} (h : x.Ok B w o) (hB : B' ≤ B) : x.Ok B' w o := by
  match o, h with
  | .none, h => exact h
  | .bad c, h => exact h
  | .ev (.head st l fr), h => exact ⟨h.1, own_mono h.2 hB⟩
  | .ev (.data d), h => exact ⟨h.1, own_mono h.2 hB⟩
  | .ev (.fin l), h => exact ⟨h.1, h.2.imp id (fun h => own_mono h hB)⟩
theorem RdS.kept {X : Nat → Prop} {w w' : World} {g lim : Nat} {hd : Bool} {bk : Option Nat} {s : HSt} (h : RdS w g hd lim bk s) (hk : Kept X w w') (hx : ∀ k, k < w.heap.size → ¬ X k) : RdS w' g hd lim bk s := by
  obtain ⟨r, a, n, c, hr, hb, ht, hne, rest⟩ := h.ex
  exact ⟨r, a, n, c, Has.kept hr hk (hx g (Has.lt hr)), hb, ht.kept hk (fun ad ha => hx _ (ht.lt ad ha)), hne, rest⟩
theorem RdS.bk_lt {w : World} {g lim : Nat} {hd : Bool} {bk : Option Nat} {s : HSt} (h : RdS w g hd lim bk s) : ∀ k, bk = some k → k < w.heap.size := by
  obtain ⟨r, a, n, c, hr, hbf, ht, hne, hbk, _⟩ := h.ex
  intro k hk
  rw [← hbk] at hk
  cases a with
  | none => cases hk
  | some ad =>
    simp only [Option.map_some, Option.some.injEq] at hk
    rw [← hk]; exact ht.lt ad rfl
theorem RdS.below {w w' : World} {g lim : Nat} {hd : Bool} {bk : Option Nat} {s : HSt} (h : RdS w g hd lim bk s) (hb : Below w.heap.size w w') : RdS w' g hd lim bk s := h.kept (X := none') (Kept.of_below hb) (fun _ _ h => h)
theorem ev_one (a b c : Int) (p q : Option Addr) (n m k l : Nat) : Array.all (#[.int .i64 a, .int .i64 b, .slice p n m, .int .i64 c, .slice q k l] : Array Value) (·.oneCell') = true := by simp [Value.oneCell']
/-- a step's answer, stored as one's own result -/
theorem EvR.fwd {w w2 w3 : World} {g g2 lim : Nat} {hd : Bool} {bk : Option Nat} {p : HSt × Out} {x : An} (hg : g < w.heap.size) (hbk : ∀ k, bk = some k → k < w.heap.size) (hg2 : g2 = w.heap.size) (h2 : Has w2 g2 33 ev0) (hb : Below w.heap.size w w2)
    (h : RdS w3 g hd lim bk p.1) (hk : Kept (fun k => k = g) w2 w3) (hx : x.Ok w2.heap.size w3 p.2) :
    w3.there g2 0 5 ∧ Has (w3.setCells g2 0 x.cs) g2 33 x.cs ∧ EvR w g hd lim bk p (.returned x.v) (w3.setCells g2 0 x.cs) := by
  have h3 : Has w3 g2 33 ev0 := h2.kept hk (by omega)
  have hks := Kept.sets g2 x.cs 0 w3
  have hlt := h2.lt
  refine ⟨h3.there rfl, h3.store rfl, x, rfl, ?_, ?_, ?_⟩
  · obtain ⟨r, a, n, c, hr, hbf, ht, hne, rest⟩ := h.ex
    exact ⟨r, a, n, c, Has.kept hr hks (by omega), hbf, ht.kept hks (fun ad ha e => by have := hbk ad.block (by rw [← rest.1, ha]; rfl); omega), hne, rest⟩
  · exact ((Kept.of_below (X := fun k => k = g) hb).trans hk (fun _ _ h => h)).trans hks (fun k hk1 e => by omega)
  · exact (hx.kept hks (fun k hk1 e => by omega)).down hb.size
set_option maxRecDepth 100000 in
theorem wait_any (w : World) {g lim : Nat} {hd : Bool} {bk : Option Nat} {s : HSt} (h : RdS w g hd lim bk s) : Calls Tryz.prog 72 #[.pointer (some ⟨g, 0, none⟩)] w (EvR w g hd lim bk (waitV s)) := by
  obtain ⟨w2, hw2⟩ : ∃ w2, w2 = w.alloc (.cells #[.int .i64 0, .int .i64 0, .slice none 0 0, .int .i64 0, .slice none 0 0] 33) := ⟨_, rfl⟩
  obtain ⟨g2, hg2⟩ : ∃ g2, g2 = w.heap.size := ⟨_, rfl⟩
  have HH2 : Hid (Has w2 g2 33 ev0) := Lib.hid (by rw [hw2, hg2]; exact Has.new w 33 #[.int .i64 0, .int .i64 0, .slice none 0 0, .int .i64 0, .slice none 0 0])
  have hb2 : Below w.heap.size w w2 := by rw [hw2]; exact (Below.refl _ w).alloc (Nat.le_refl _) _
  have HR2 := Lib.hid (h.below hb2)
  have HB2 := Lib.hid hb2
  have c3 : w2.cell? ⟨g, 3, none⟩ = some (.bool s.ended) := by
    obtain ⟨r, a, n, c, hr, _, _, _, _, _, _, hen, _⟩ := HR2.out.ex
    rw [← hen]; exact hr.at 3 rfl
  have HG2 : Hid (w.heap.size ≤ g2) := Lib.hid (by rw [hg2]; exact Nat.le_refl _)
  have HRes : Hid (EvR w g hd lim bk (waitV s) (.returned (.tuple #[.agg ev0.toArray, .bool false, .int .i64 (if s.ended = true then 204 else 0)])) (w2.setCells g2 0 ev0)) := Lib.hid (by
    have hk := Kept.sets g2 ev0 0 w2
    have hb : Below w.heap.size w2 (w2.setCells g2 0 ev0) := hk.below HB2.out.size (fun k hx => by rw [hx]; exact HG2.out)
    have hs : RdS (w2.setCells g2 0 ev0) g hd lim bk s := by
      obtain ⟨r, a, n, c, hr, hbf, ht, hne, rest⟩ := h.ex
      have hb3 := HB2.out.trans hb
      exact h.below hb3
    refine ⟨an0 (if s.ended = true then 204 else 0), rfl, hs, Kept.of_below (HB2.out.trans hb), ?_⟩
    unfold waitV
    cases s.ended <;> rfl)
  have hth := HH2.out.there (n := 5) rfl
  have ho1 := ev_one 0 0 0 none none 0 0 0 0
  have HSt : Hid (Has (w2.setCells g2 0 ev0) g2 33 ev0) := Lib.hid (HH2.out.store (vs := ev0) rfl)
  clear h hb2
  cases hen : s.ended with
  | true =>
    rw [hen] at c3 HRes
    clear hen
    go_enter Tryz.func72, Tryz.ntmps72
    go_upto_region 1 with fail
    rw [← hw2, ← hg2]
    clear hw2 hg2
    go_wp2_with (refine wpList_store_mid rfl 33 (.tmp 2) (.tmp 9) rfl g2 0 #[.int .i64 0, .int .i64 0, .slice none 0 0, .int .i64 0, .slice none 0 0] rfl rfl hth infoEv ho1 ?_)
    refine bodyPost_ret (results_ev3 rfl _ rfl HSt.out rfl) rfl ?_
    exact HRes.out
  | false =>
    rw [hen] at c3 HRes
    clear hen
    go_enter Tryz.func72, Tryz.ntmps72
    go_upto_region 1 with fail
    rw [← hw2, ← hg2]
    clear hw2 hg2
    go_wp2_with (refine wpList_store_mid rfl 33 (.tmp 2) (.tmp 10) rfl g2 0 #[.int .i64 0, .int .i64 0, .slice none 0 0, .int .i64 0, .slice none 0 0] rfl rfl hth infoEv ho1 ?_)
    refine bodyPost_ret (results_ev3 rfl _ rfl HSt.out rfl) rfl ?_
    exact HRes.out
end Go.Proofs.YtfffefhchjnfjaaGreatDoor

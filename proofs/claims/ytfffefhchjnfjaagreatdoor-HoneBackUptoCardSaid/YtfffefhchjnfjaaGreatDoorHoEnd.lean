/- hone.end, and the step that tells the end at once. No condition. -/
import Derived.Test.YtfffefhchjnfjaaGreatDoorHoEv
namespace Go.Proofs.YtfffefhchjnfjaaGreatDoor
open Go.RowKit

/-- what end answers: the event is the fields that it was given -/
def EndR (w : World) (g : Nat) (hd : Bool) (lim : Nat) (bk : Option Nat) (s : HSt) (fv : Value) (e : Ending) (w' : World) : Prop :=
  RdS w' g hd lim bk { s with done := true } ∧ Kept (fun k => k = g) w w' ∧ e = .returned (.tuple #[.agg #[.int .i64 3, .int .i64 0, fv, .int .i64 0, .slice none 0 0], .bool true, .int .i64 0])
theorem RdS.sets {w : World} {g lim : Nat} {hd : Bool} {bk : Option Nat} {s s2 : HSt} (h : RdS w g hd lim bk s) (i : Nat) (v : Value) (hb : s2.b = s.b)
    (hv : ∀ r : RD, r.hd = hd → r.lim = (lim : Int) → r.en = s.ended → r.ft = s.fault → r.st = stpV s.stp → r.dn = s.done → r.od = s.old → r.fr = s.fr → r.lf = (s.left : Int) →
      ∃ r2 : RD, r.cs.set i v = r2.cs ∧ r2.bf = r.bf ∧ r2.hd = hd ∧ r2.lim = (lim : Int) ∧ r2.en = s2.ended ∧ r2.ft = s2.fault ∧ r2.st = stpV s2.stp ∧ r2.dn = s2.done ∧ r2.od = s2.old ∧ r2.fr = s2.fr ∧ r2.lf = (s2.left : Int)) :
    RdS (w.setCell ⟨g, i, none⟩ v) g hd lim bk s2 := by
  obtain ⟨r, a, n, c, hr, hbf, ht, hne, hbk, h1, h2, h3, h4, h5, h6, h7, h8, h9⟩ := h.ex
  obtain ⟨r2, hc, hb2, hrest⟩ := hv r h1 h2 h3 h4 h5 h6 h7 h8 h9
  refine ⟨r2, a, n, c, Rd.sets hr i v hc, by rw [hb2, hbf], ?_, hne, hbk, hrest⟩
  rw [hb]
  exact ht.kept (Kept.set w g i v) (fun ad ha => hne ad ha)
theorem RdS.free {w : World} {g lim : Nat} {hd : Bool} {bk : Option Nat} {s : HSt} (h : RdS w g hd lim bk s) (j : Nat) : w.frozen? ⟨g, j, none⟩ = false := by
  obtain ⟨r, a, n, c, hr, _⟩ := h.ex
  exact hr.free j
theorem RdS.lt {w : World} {g lim : Nat} {hd : Bool} {bk : Option Nat} {s : HSt} (h : RdS w g hd lim bk s) : g < w.heap.size := by
  obtain ⟨r, a, n, c, hr, _⟩ := h.ex
  exact Has.lt hr
theorem RdS.dn {w : World} {g lim : Nat} {hd : Bool} {bk : Option Nat} {s : HSt} (h : RdS w g hd lim bk s) : w.cell? ⟨g, 6, none⟩ = some (.bool s.done) := by
  obtain ⟨r, a, n, c, hr, _, _, _, _, _, _, _, _, _, h6, _⟩ := h.ex
  rw [← h6]; exact hr.at 6 rfl
set_option maxRecDepth 100000 in
theorem end_any (w : World) {g lim : Nat} {hd : Bool} {bk : Option Nat} {s : HSt} (h : RdS w g hd lim bk s) (fa : Option Addr) (fn fc : Nat) : Calls Tryz.prog 47 #[.pointer (some ⟨g, 0, none⟩), .slice fa fn fc] w (EndR w g hd lim bk s (.slice fa fn fc)) := by
  obtain ⟨w2, hw2⟩ : ∃ w2, w2 = w.alloc (.cells #[.int .i64 0, .int .i64 0, .slice none 0 0, .int .i64 0, .slice none 0 0] 33) := ⟨_, rfl⟩
  obtain ⟨g2, hg2⟩ : ∃ g2, g2 = w.heap.size := ⟨_, rfl⟩
  have hh2 : Has w2 g2 33 ev0 := by rw [hw2, hg2]; exact Has.new w 33 #[.int .i64 0, .int .i64 0, .slice none 0 0, .int .i64 0, .slice none 0 0]
  have hb2 : Below w.heap.size w w2 := by rw [hw2]; exact (Below.refl _ w).alloc (Nat.le_refl _) _
  have hr2 := h.below hb2
  have hlt := h.lt
  have c6 := hr2.dn
  have f6 := hr2.free 6
  obtain ⟨w3, hw3⟩ : ∃ w3, w3 = w2.setCell ⟨g, 6, none⟩ (.bool true) := ⟨_, rfl⟩
  have hr3 : RdS w3 g hd lim bk { s with done := true } := by
    rw [hw3]
    exact hr2.sets 6 _ rfl (fun r h1 h2 h3 h4 h5 _ h7 h8 h9 => ⟨{ r with dn := true }, rfl, rfl, h1, h2, h3, h4, h5, rfl, h7, h8, h9⟩)
  have hh3 : Has w3 g2 33 ev0 := by rw [hw3]; exact hh2.other (by omega) 6 _
  have hk3 : Kept (fun k => k = g) w w3 := by rw [hw3]; exact (Kept.of_below (X := fun k => k = g) hb2).trans (Kept.set w2 g 6 _) (fun _ _ h => h)
  have hth := hh3.there (n := 5) rfl
  have ho1 := ev_one 3 0 0 fa none fn fc 0 0
  have HSt : Hid (Has (w3.setCells g2 0 (evC 3 0 (.slice fa fn fc) 0 nilV)) g2 33 (evC 3 0 (.slice fa fn fc) 0 nilV)) := Lib.hid (hh3.store rfl)
  have HRes : Hid (EndR w g hd lim bk s (.slice fa fn fc) (.returned (.tuple #[.agg #[.int .i64 3, .int .i64 0, .slice fa fn fc, .int .i64 0, .slice none 0 0], .bool true, .int .i64 0])) (w3.setCells g2 0 (evC 3 0 (.slice fa fn fc) 0 nilV))) := Lib.hid (by
    have hk := Kept.sets g2 (evC 3 0 (.slice fa fn fc) 0 nilV) 0 w3
    refine ⟨?_, hk3.trans hk (fun k hk1 e => by omega), rfl⟩
    obtain ⟨r, a, n, c, hr, hbf, ht, hne, rest⟩ := hr2.ex
    obtain ⟨r0, a0, n0, c0, hr0, hbf0, ht0, hne0, rest0⟩ := h.ex
    refine ⟨{ r0 with dn := true }, a0, n0, c0, ?_, hbf0, ?_, hne0, ?_⟩
    · refine Has.kept (X := fun k => k = g2) ?_ hk (by omega)
      have := (Rd.below hr0 hb2).sets (r2 := { r0 with dn := true }) 6 (.bool true) rfl
      rw [← hw3] at this
      exact this
    · refine Tl.kept (X := fun k => k = g2) ?_ hk (fun ad ha => ?_)
      · rw [hw3]
        exact (ht0.below hb2).kept (Kept.set w2 g 6 _) (fun ad ha => hne0 ad ha)
      · have := ht0.lt ad ha
        omega
    · obtain ⟨hbk, h1, h2, h3, h4, h5, _, h7, h8, h9⟩ := rest0
      exact ⟨hbk, h1, h2, h3, h4, h5, rfl, h7, h8, h9⟩)
  have HW3 := Lib.hid hw3
  clear h hb2 hr2 hh2 hr3 hh3 hk3 hw3
  go_enter Tryz.func47, Tryz.ntmps47
  go_upto_region 1 with fail
  rw [← hw2, ← hg2]
  clear hw2 hg2 hlt
  go_upto_region 2 with fail
  rw [← HW3.out]
  clear c6 f6
  go_wp2_with (refine wpList_store_mid rfl 33 (.tmp 4) (.tmp 11) rfl g2 0 #[.int .i64 3, .int .i64 0, .slice fa fn fc, .int .i64 0, .slice none 0 0] rfl rfl hth infoEv ho1 ?_)
  refine bodyPost_ret (results_ev3 rfl _ rfl HSt.out rfl) rfl ?_
  exact HRes.out
end Go.Proofs.YtfffefhchjnfjaaGreatDoor

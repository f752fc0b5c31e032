/- hone.begin, and the step of a response without a body. No condition. -/
import Derived.Test.YtfffefhchjnfjaaGreatDoorHoEnd
import Derived.Test.YtfffefhchjnfjaaGreatDoorHoFrm
namespace Go.Proofs.YtfffefhchjnfjaaGreatDoor
open Go.RowKit

set_option maxRecDepth 100000 in
theorem nobody_any (w : World) {g lim : Nat} {hd : Bool} {bk : Option Nat} {s : HSt} (h : RdS w g hd lim bk s) : Calls Tryz.prog 46 #[.pointer (some ⟨g, 0, none⟩)] w (EvR w g hd lim bk (endV s [])) := by
  obtain ⟨w2, hw2⟩ : ∃ w2, w2 = w.alloc (.cells #[.int .i64 0, .int .i64 0, .slice none 0 0, .int .i64 0, .slice none 0 0] 33) := ⟨_, rfl⟩
  obtain ⟨g2, hg2⟩ : ∃ g2, g2 = w.heap.size := ⟨_, rfl⟩
  have HH2 : Hid (Has w2 g2 33 ev0) := Lib.hid (by rw [hw2, hg2]; exact Has.new w 33 #[.int .i64 0, .int .i64 0, .slice none 0 0, .int .i64 0, .slice none 0 0])
  have hb2 : Below w.heap.size w w2 := by rw [hw2]; exact (Below.refl _ w).alloc (Nat.le_refl _) _
  have HE := Lib.hid (end_any w2 (h.below hb2) none 0 0)
  have HB2 := Lib.hid hb2
  have H := Lib.hid h
  have HG2 := Lib.hid hg2
  clear h hb2
  go_enter Tryz.func46, Tryz.ntmps46
  go_upto_region 1 with fail
  rw [← hw2, ← hg2]
  clear hw2 hg2
  go_wp2_with fail
  refine HE.out.mono ?_
  rintro e w3 ⟨hrd, hk, rfl⟩
  obtain ⟨hth, hst, hev⟩ := EvR.fwd (p := endV s []) (x := ⟨3, 0, none, 0, 0, 0, none, 0, 0, true, 0⟩) H.out.lt H.out.bk_lt HG2.out HH2.out HB2.out hrd hk ⟨rfl, .inl ⟨rfl, rfl, rfl⟩⟩
  have HSt := Lib.hid hst
  have HEv := Lib.hid hev
  have ho1 := ev_one 3 0 0 none none 0 0 0 0
  clear hrd hk hst hev
  go_wp2_with (refine wpList_store_mid rfl 33 (.tmp 2) (.tmp 7) rfl g2 0 #[.int .i64 3, .int .i64 0, .slice none 0 0, .int .i64 0, .slice none 0 0] rfl rfl hth infoEv ho1 ?_)
  refine bodyPost_ret (results_ev3 rfl _ rfl HSt.out rfl) rfl ?_
  exact HEv.out
theorem RdS.hd {w : World} {g lim : Nat} {hd : Bool} {bk : Option Nat} {s : HSt} (h : RdS w g hd lim bk s) : w.cell? ⟨g, 0, none⟩ = some (.bool hd) := by
  obtain ⟨r, a, n, c, hr, _, _, _, _, h1, _⟩ := h.ex
  rw [← h1]; exact hr.at 0 rfl
/-- what begin leaves -/
def BegR (w : World) (g : Nat) (hd : Bool) (lim : Nat) (bk : Option Nat) (s : HSt) (e : Ending) (w' : World) : Prop :=
  e = .returned (.tuple #[]) ∧ RdS w' g hd lim bk s ∧ Kept (fun k => k = g) w w'
theorem RdS.fr {w : World} {g lim : Nat} {hd : Bool} {bk : Option Nat} {s : HSt} (h : RdS w g hd lim bk s) (f : Int) : RdS (w.setCell ⟨g, 9, none⟩ (.int .i64 f)) g hd lim bk { s with fr := f } :=
  h.sets 9 _ rfl (fun r h1 h2 h3 h4 h5 h6 h7 _ h9 => ⟨{ r with fr := f }, rfl, rfl, h1, h2, h3, h4, h5, h6, h7, rfl, h9⟩)
theorem RdS.stp {w : World} {g lim : Nat} {hd : Bool} {bk : Option Nat} {s : HSt} (h : RdS w g hd lim bk s) (f : Stp) : RdS (w.setCell ⟨g, 5, none⟩ (stpV f)) g hd lim bk { s with stp := f } :=
  h.sets 5 _ rfl (fun r h1 h2 h3 h4 _ h6 h7 h8 h9 => ⟨{ r with st := stpV f }, rfl, rfl, h1, h2, h3, h4, rfl, h6, h7, h8, h9⟩)
theorem RdS.lf {w : World} {g lim : Nat} {hd : Bool} {bk : Option Nat} {s : HSt} (h : RdS w g hd lim bk s) (n : Nat) : RdS (w.setCell ⟨g, 10, none⟩ (.int .i64 (n : Int))) g hd lim bk { s with left := n } :=
  h.sets 10 _ rfl (fun r h1 h2 h3 h4 h5 h6 h7 h8 _ => ⟨{ r with lf := (n : Int) }, rfl, rfl, h1, h2, h3, h4, h5, h6, h7, h8, rfl⟩)
theorem RdS.cells {w : World} {g lim : Nat} {hd : Bool} {bk : Option Nat} {s : HSt} (h : RdS w g hd lim bk s) : (∃ v, w.cell? ⟨g, 9, none⟩ = some v) ∧ (∃ v, w.cell? ⟨g, 5, none⟩ = some v) ∧ (∃ v, w.cell? ⟨g, 10, none⟩ = some v) := by
  obtain ⟨r, a, n, c, hr, _⟩ := h.ex
  exact ⟨⟨_, hr.at 9 rfl⟩, ⟨_, hr.at 5 rfl⟩, ⟨_, hr.at 10 rfl⟩⟩
theorem bgj (st k : Nat) : (st = k → ((st : Int) == (k : Int)) = true ∧ ((st : Int) = (k : Int)) = True) ∧ (¬ st = k → ((st : Int) == (k : Int)) = false ∧ ((st : Int) = (k : Int)) = False) :=
  ⟨fun h => ⟨by rw [beq_iff_eq]; omega, eq_true (by omega)⟩, fun h => ⟨by rw [beq_eq_false_iff_ne]; omega, eq_false (by omega)⟩⟩
theorem run_store_func {P : Program} {w : World} {a : Addr} {m : _} (f : Fn) (x y : Array Value) : (store a (.func f x y) m).run P w = stored P w a (.func f x y) m := run_store P w a _ m rfl
attribute [local go_sem] run_store_func
theorem beg_no (hd : Bool) (s : HSt) (st : Nat) (cd : Bool) (sz : Option Nat) (h : hd = true ∨ st = 204 ∨ st = 304) : beginV hd s st cd sz = { s with fr := 0, stp := .nobody } := by unfold beginV; rw [if_pos h]
theorem beg_go (hd : Bool) (s : HSt) (st : Nat) (cd : Bool) (sz : Option Nat) (h : ¬ (hd = true ∨ st = 204 ∨ st = 304)) : beginV hd s st cd sz = if cd = true then { s with fr := 2, stp := .chunk } else match sz with
    | some n => { s with fr := 1, left := n, stp := .length }
    | none => { s with fr := 3, stp := .close } := by unfold beginV; rw [if_neg h]; rfl
set_option maxRecDepth 100000 in
set_option maxHeartbeats 4000000 in
theorem begin_any (w : World) {g lim : Nat} {hd : Bool} {bk : Option Nat} {s : HSt} (h : RdS w g hd lim bk s) (st : Nat) (cd : Bool) (sz : Option Nat) :
    Calls Tryz.prog 36 #[.pointer (some ⟨g, 0, none⟩), .int .i64 (st : Int), .bool cd, .int .i64 (szI sz)] w (BegR w g hd lim bk (beginV hd s st cd sz)) := by
  have c0 := h.hd
  obtain ⟨⟨v9, c9⟩, ⟨v5, c5⟩, v10, c10⟩ := h.cells
  have f9 := h.free 9
  have f5 := h.free 5
  have f10 := h.free 10
  have H := Lib.hid h
  have k9 : ∀ w (v : Value), Kept (fun k => k = g) w (w.setCell ⟨g, 9, none⟩ v) := fun w v => Kept.set w g 9 v
  clear h k9
  have hno := beg_no hd s st cd sz
  have hgo := beg_go hd s st cd sz
  have HNo := Lib.hid hno
  have HGo := Lib.hid hgo
  clear hno hgo
  obtain ⟨B, hB⟩ : ∃ B, B = beginV hd s st cd sz := ⟨_, rfl⟩
  rw [← hB] at HNo HGo ⊢
  clear hB
  have HNb : Hid (B = { s with fr := 0, stp := .nobody } → BegR w g hd lim bk B (.returned (.tuple #[])) ((w.setCell ⟨g, 9, none⟩ (.int .i64 0)).setCell ⟨g, 5, none⟩ (stpV .nobody))) := Lib.hid (fun e => ⟨rfl, by rw [e]; exact (H.out.fr 0).stp .nobody, (Kept.set w g 9 _).trans (Kept.set _ g 5 _) (fun _ _ h => h)⟩)
  have HCh : Hid (B = { s with fr := 2, stp := .chunk } → BegR w g hd lim bk B (.returned (.tuple #[])) ((w.setCell ⟨g, 9, none⟩ (.int .i64 2)).setCell ⟨g, 5, none⟩ (stpV .chunk))) := Lib.hid (fun e => ⟨rfl, by rw [e]; exact (H.out.fr 2).stp .chunk, (Kept.set w g 9 _).trans (Kept.set _ g 5 _) (fun _ _ h => h)⟩)
  have HCl : Hid (B = { s with fr := 3, stp := .close } → BegR w g hd lim bk B (.returned (.tuple #[])) ((w.setCell ⟨g, 9, none⟩ (.int .i64 3)).setCell ⟨g, 5, none⟩ (stpV .close))) := Lib.hid (fun e => ⟨rfl, by rw [e]; exact (H.out.fr 3).stp .close, (Kept.set w g 9 _).trans (Kept.set _ g 5 _) (fun _ _ h => h)⟩)
  have HLn : Hid (∀ n : Nat, B = { s with fr := 1, left := n, stp := .length } → BegR w g hd lim bk B (.returned (.tuple #[])) (((w.setCell ⟨g, 9, none⟩ (.int .i64 1)).setCell ⟨g, 10, none⟩ (.int .i64 (n : Int))).setCell ⟨g, 5, none⟩ (stpV .length))) := Lib.hid (fun n e => ⟨rfl, by rw [e]; exact ((H.out.fr 1).lf n).stp .length, ((Kept.set w g 9 _).trans (Kept.set _ g 10 _) (fun _ _ h => h)).trans (Kept.set _ g 5 _) (fun _ _ h => h)⟩)
  clear H
  cases hd with
  | true =>
    go_enter Tryz.func36, Tryz.ntmps36
    go_wp2
    refine bodyPost_ret (results_none rfl _ _ _) rfl ?_
    exact HNb.out (HNo.out (by simp))
  | false =>
    by_cases h1 : st = 204
    · obtain ⟨y1, y2⟩ : ((st : Int) == 204) = true ∧ ((st : Int) = 204) = True := (bgj st 204).1 h1
      have HE := Lib.hid (HNb.out (HNo.out (.inr (.inl h1))))
      clear h1
      go_enter Tryz.func36, Tryz.ntmps36
      go_wp2
      refine bodyPost_ret (results_none rfl _ _ _) rfl ?_
      exact HE.out
    · obtain ⟨y1, y2⟩ : ((st : Int) == 204) = false ∧ ((st : Int) = 204) = False := (bgj st 204).2 h1
      by_cases h2 : st = 304
      · obtain ⟨y3, y4⟩ : ((st : Int) == 304) = true ∧ ((st : Int) = 304) = True := (bgj st 304).1 h2
        have HE := Lib.hid (HNb.out (HNo.out (.inr (.inr h2))))
        clear h1 h2
        go_enter Tryz.func36, Tryz.ntmps36
        go_wp2
        refine bodyPost_ret (results_none rfl _ _ _) rfl ?_
        exact HE.out
      · obtain ⟨y3, y4⟩ : ((st : Int) == 304) = false ∧ ((st : Int) = 304) = False := (bgj st 304).2 h2
        have HG := Lib.hid (HGo.out (by simp [h1, h2]))
        clear h1 h2
        cases cd with
        | true =>
          have HE := Lib.hid (HCh.out (by rw [HG.out, if_pos rfl]))
          go_enter Tryz.func36, Tryz.ntmps36
          go_wp2
          refine bodyPost_ret (results_none rfl _ _ _) rfl ?_
          exact HE.out
        | false =>
          cases sz with
          | none =>
            have s1 := szI_lt
            have HE := Lib.hid (HCl.out (by rw [HG.out, if_neg (by decide)]))
            go_enter Tryz.func36, Tryz.ntmps36
            go_wp2
            refine bodyPost_ret (results_none rfl _ _ _) rfl ?_
            exact HE.out
          | some n =>
            have s1 := szI_ge n
            have HE := Lib.hid (HLn.out n (by rw [HG.out, if_neg (by decide)]))
            go_enter Tryz.func36, Tryz.ntmps36
            go_wp2
            refine bodyPost_ret (results_none rfl _ _ _) rfl ?_
            exact HE.out
end Go.Proofs.YtfffefhchjnfjaaGreatDoor

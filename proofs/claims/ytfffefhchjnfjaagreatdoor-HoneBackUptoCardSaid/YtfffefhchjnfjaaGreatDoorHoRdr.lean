/- hone.readHead, Next, New, Feed, End, Done, Left. Conditions: the sizes, the library's variables. -/
import Derived.Test.YtfffefhchjnfjaaGreatDoorHoStp
namespace Go.Proofs.YtfffefhchjnfjaaGreatDoor
open Go.RowKit

/-- what status answers, of a reader in state s -/
def StaS (w : World) (g : Nat) (hd : Bool) (lim : Nat) (bk : Option Nat) (s : HSt) (x : Ex (Nat × Bool)) (e : Ending) (w' : World) : Prop :=
  match x with
  | .ok (n, old) => e = .returned (.tuple #[.int .i64 (n : Int), .int .i64 0]) ∧ RdS w' g hd lim bk { s with old := old } ∧ Kept (fun k => k = g) w w'
  | .bad c => e = .returned (.tuple #[.int .i64 0, .int .i64 c]) ∧ RdS w' g hd lim bk s ∧ Kept (fun k => k = g) w w'
theorem RdS.status {w : World} {g lim : Nat} {hd : Bool} {bk : Option Nat} {s : HSt} (h : RdS w g hd lim bk s) (l : List UInt8) (hz : l.length < 4294967281) :
    Calls Tryz.prog 33 #[.pointer (some ⟨g, 0, none⟩), .string (strB l)] w (StaS w g hd lim bk s (statusH l)) := by
  have hb := h
  obtain ⟨r, a, n, c, hr, hbf, ht, hne, hbk, h1, h2, h3, h4, h5, h6, h7, h8, h9⟩ := h.ex
  refine (status_any w hr l hz).mono ?_
  intro e w' hs
  unfold StaR at hs
  unfold StaS
  cases hx : statusH l with
  | bad c =>
    rw [hx] at hs
    exact ⟨hs.1, hb.below hs.2, Kept.of_below hs.2⟩
  | ok v =>
    obtain ⟨n0, old⟩ := v
    rw [hx] at hs
    obtain ⟨e1, e2, e3⟩ := hs
    exact ⟨e1, ⟨{ r with od := old }, a, n, c, e2, hbf, ht.kept e3 hne, hne, hbk, h1, h2, h3, h4, h5, h6, rfl, h8, h9⟩, e3⟩
/-- what frame answers, of a reader in state s -/
def FrmS (w : World) (g : Nat) (hd : Bool) (lim : Nat) (bk : Option Nat) (s : HSt) (x : Ex (Bool × Option Nat)) (e : Ending) (w' : World) : Prop :=
  RdS w' g hd lim bk s ∧ Kept (fun k => k = g) w w' ∧ match x with
  | .ok (cd, sz) => e = .returned (.tuple #[.bool cd, .int .i64 (szI sz), .int .i64 0])
  | .bad c => e = .returned (.tuple #[.bool false, .int .i64 0, .int .i64 c])
theorem RdS.frame {w : World} {g lim : Nat} {hd : Bool} {bk : Option Nat} {s : HSt} (h : RdS w g hd lim bk s) {a : Option Addr} {n c : Nat} {fs : List Fd} (hs : SlS w a n c fs) (hn : n ≤ 1099511627776) (hfb : ∀ ad, a = some ad → ad.block ≠ g) (hz : ∀ f ∈ fs, f.va.size < 4294967281) :
    Calls Tryz.prog 35 #[.pointer (some ⟨g, 0, none⟩), .slice a n c] w (FrmS w g hd lim bk s (frameH s.old fs false none)) := by
  obtain ⟨r, a', n', c', hr, hbf, ht, hne, hbk, h1, h2, h3, h4, h5, h6, h7, h8, h9⟩ := h.ex
  rw [← h7]
  refine (frame_any w hr hs hn hfb hz).mono ?_
  rintro e w' ⟨⟨cl, hr'⟩, hk, hx⟩
  exact ⟨⟨{ r with cl := cl }, a', n', c', hr', hbf, ht.kept hk hne, hne, hbk, h1, h2, h3, h4, h5, h6, h7, h8, h9⟩, hk, hx⟩
theorem RdS.cl8 {w : World} {g lim : Nat} {hd : Bool} {bk : Option Nat} {s : HSt} (h : RdS w g hd lim bk s) (b : Bool) : RdS (w.setCell ⟨g, 8, none⟩ (.bool b)) g hd lim bk s :=
  h.sets 8 _ rfl (fun r h1 h2 h3 h4 h5 h6 h7 h8 h9 => ⟨{ r with cl := b }, rfl, rfl, h1, h2, h3, h4, h5, h6, h7, h8, h9⟩)
theorem RdS.c8 {w : World} {g lim : Nat} {hd : Bool} {bk : Option Nat} {s : HSt} (h : RdS w g hd lim bk s) : (∃ v, w.cell? ⟨g, 8, none⟩ = some v) ∧ w.cell? ⟨g, 9, none⟩ = some (.int .i64 s.fr) := by
  obtain ⟨r, a, n, c, hr, _, _, _, _, _, _, _, _, _, _, _, h8, _⟩ := h.ex
  exact ⟨⟨_, hr.at 8 rfl⟩, by rw [← h8]; exact hr.at 9 rfl⟩
theorem fieldH_va {l : List UInt8} {f : Fd} (h : fieldH l = .ok f) : f.va.size ≤ l.length := by
  unfold fieldH at h
  split at h
  · cases h
  · rename_i a v hc
    split at h
    · cases h
    · split at h
      · cases h
      · cases h
        have h1 := trim_len v
        have h2 := cutAt_parts hc
        show (strB (trimL v)).size ≤ l.length
        rw [strB_size, h2]
        simp only [List.length_append, List.length_cons]
        omega
theorem fieldsH_va : ∀ {ls : List (List UInt8)} {fs : List Fd} {n : Nat}, fieldsH ls = .ok fs → (∀ l ∈ ls, l.length ≤ n) → fs.length = ls.length ∧ ∀ f ∈ fs, f.va.size ≤ n
  | [], fs, n, h, _ => by
    simp only [fieldsH] at h
    cases h
    exact ⟨rfl, fun f hf => by cases hf⟩
  | l :: r, fs, n, h, hn => by
    rw [fieldsH] at h
    cases hf : fieldH l with
    | bad e => rw [hf] at h; cases h
    | ok f =>
      rw [hf] at h
      simp only at h
      cases hr : fieldsH r with
      | bad e => rw [hr] at h; cases h
      | ok gs =>
        rw [hr] at h
        cases h
        obtain ⟨h1, h2⟩ := fieldsH_va (n := n) hr (fun l hl => hn l (by simp [hl]))
        refine ⟨by simp [h1], fun x hx => ?_⟩
        rcases List.mem_cons.1 hx with rfl | hx
        · exact Nat.le_trans (fieldH_va hf) (hn l (by simp))
        · exact h2 x hx
theorem hd_step (head : Bool) (lim : Nat) (t : HSt) : headG head lim (t.b.length + 1) t = match blkV lim t.b t.ended with
    | .wait => (t, .none)
    | .bad e => (t, .bad e)
    | .ok ls r => match statusH (ls.headD []) with
      | .bad e => (t, .bad e)
      | .ok (st, old) => match fieldsH ls.tail with
        | .bad e => ({ t with old := old }, .bad e)
        | .ok l => match frameH old l false none with
          | .bad e => ({ t with old := old }, .bad e)
          | .ok (coded, size) =>
            if 200 ≤ st then (beginV head { t with old := old, b := r } st coded size, .ev (.head st l (beginV head { t with old := old, b := r } st coded size).fr))
            else headG head lim t.b.length { t with old := old, b := r } := rfl
/-- how many bytes the reader holds, as the loop's measure -/
def bufN (w : World) (g : Nat) : Nat := match w.cell? ⟨g, 2, none⟩ with
  | some (.slice _ n _) => n
  | _ => 0
theorem RdS.bufN {w : World} {g lim : Nat} {hd : Bool} {bk : Option Nat} {s : HSt} (h : RdS w g hd lim bk s) : bufN w g = s.b.length := by
  obtain ⟨a, c, c2, _⟩ := h.bytes
  unfold Go.Proofs.YtfffefhchjnfjaaGreatDoor.bufN
  rw [c2]
theorem tail_sl {w : World} {b m : Nat} {V : Option Addr} {ls : List (List UInt8)} (h : Sl w (some ⟨b, 0, none⟩) m m (sB ls)) (hm : 1 ≤ m) (hV : V = if m = 1 then some ⟨b, 0, none⟩ else some ⟨b, 1, none⟩) : Sl w V (m - 1) (m - 1) (sB ls.tail) := by
  have ht : sB ls.tail = (sB ls).drop 1 := by cases ls <;> simp [sB]
  have hl := h.len
  have hmx := h.cap_max
  by_cases h1 : m = 1
  · rw [if_pos h1] at hV
    refine ⟨by rw [ht, List.length_drop]; omega, Nat.le_refl _, by omega, (fun h => by rw [hV] at h; cases h), (fun h => by omega)⟩
  · rw [if_neg h1] at hV
    have := sl_drop h (k := 1) hm
    rw [ht, hV]
    exact this
theorem hd_wrap {n : Nat} (h : n ≤ 1000) : ((200 : Int) ≤ (n : Int)) = (200 ≤ n) := by apply propext; omega
theorem status_lt {l : List UInt8} {n : Nat} {o : Bool} (h : statusH l = .ok (n, o)) : n ≤ 599 := by
  unfold statusH at h
  split at h
  · cases h
  · split at h
    · cases h
    · split at h
      · cases h
      · rename_i hc; cases h; omega
set_option maxRecDepth 100000 in
set_option maxHeartbeats 8000000 in
theorem head_step_any (w : World) (htb : Tab w) {g lim : Nat} (hgt : TabG g) {hd : Bool} {bk : Option Nat} {s : HSt} (h : RdS w g hd lim bk s) (hz : s.b.length < 4294967281) :
    Calls Tryz.prog 29 #[.pointer (some ⟨g, 0, none⟩)] w (EvR w g hd lim bk (headV hd lim s)) := by
  obtain ⟨w2, hw2⟩ : ∃ w2, w2 = w.alloc (.cells #[.int .i64 0, .int .i64 0, .slice none 0 0, .int .i64 0, .slice none 0 0] 33) := ⟨_, rfl⟩
  obtain ⟨g2, hg2⟩ : ∃ g2, g2 = w.heap.size := ⟨_, rfl⟩
  have HH2 : Hid (Has w2 g2 33 ev0) := Lib.hid (by rw [hw2, hg2]; exact Has.new w 33 #[.int .i64 0, .int .i64 0, .slice none 0 0, .int .i64 0, .slice none 0 0])
  have hb2 : Below w.heap.size w w2 := by rw [hw2]; exact (Below.refl _ w).alloc (Nat.le_refl _) _
  have HR2 := Lib.hid (h.below hb2)
  have HB2 := Lib.hid hb2
  have H := Lib.hid h
  have HG2 := Lib.hid hg2
  clear h hb2
  have HT2 := Lib.hid (htb.below HB2.out)
  have HGt := Lib.hid hgt
  have HZ := Lib.hid hz
  have HLt := Lib.hid HR2.out.lt
  clear htb hgt hz
  go_enter Tryz.func29, Tryz.ntmps29
  go_upto_region 1 with fail
  rw [← hw2, ← hg2]
  clear hw2 hg2
  go_wp2_with fail
  go_loopw [3] (fun v wr => v = .bool false ∧ ∃ t : HSt, RdS wr g hd lim bk t ∧ Kept (fun k => k = g) w2 wr ∧ Hid (headV hd lim s = headG hd lim (t.b.length + 1) t) ∧ Hid (t.b.length ≤ s.b.length)) (fun _ wr => bufN wr g)
  case atStart => exact ⟨rfl, s, HR2.out, Kept.refl _ _, Lib.hid rfl, Lib.hid (Nat.le_refl _)⟩
  case round =>
    obtain ⟨rfl, t, hrt, hkt, HG, HLe⟩ := hrel
    have HRt := Lib.hid hrt
    have HKt := Lib.hid hkt
    have HTt := Lib.hid (HT2.out.kept HGt.out hkt)
    have HBk := Lib.hid (RdS.block HTt.out hrt (Nat.lt_of_le_of_lt HLe.out HZ.out))
    have HF : Hid _ := Lib.hid (HG.out.trans (hd_step hd lim t))
    clear hrt hkt
    cases hbl : blkV lim t.b t.ended with
    | wait =>
      rw [hbl] at HF HBk
      have HFx : Hid (headV hd lim s = (t, .none)) := Lib.hid HF.out
      clear hbl HF
      go_wp2_with fail
      refine HBk.out.mono ?_
      rintro e w4 hbk
      obtain ⟨hb4, rfl⟩ := hbk
      have HRd := Lib.hid (HRt.out.below hb4)
      have HKp : Hid (Kept (fun k => k = g) w2 w4) := Lib.hid (HKt.out.trans (Kept.of_below (X := fun k => k = g) hb4) (fun _ _ h => h))
      clear hb4
      obtain ⟨hth, hst, hev⟩ := EvR.fwd (p := (t, .none)) (x := an0 0) H.out.lt H.out.bk_lt HG2.out HH2.out HB2.out HRd.out HKp.out rfl
      have HSt := Lib.hid hst
      have HEv := Lib.hid hev
      have ho1 := ev_one 0 0 0 none none 0 0 0 0
      clear hst hev
      go_wp2_with (refine wpList_store_mid rfl 33 (.tmp 2) (.tmp 24) rfl g2 0 #[.int .i64 0, .int .i64 0, .slice none 0 0, .int .i64 0, .slice none 0 0] rfl rfl hth infoEv ho1 ?_)
      refine bodyPost_ret (results_ev3 rfl _ rfl HSt.out rfl) rfl ?_
      have h := HEv.out
      rw [← HFx.out] at h
      exact h
    | bad e1 =>
      rw [hbl] at HF HBk
      have HFx : Hid (headV hd lim s = (t, .bad e1)) := Lib.hid HF.out
      obtain ⟨y2, y3⟩ := field_bad_ne (blk_ne hbl)
      clear hbl HF
      go_wp2_with fail
      refine HBk.out.mono ?_
      rintro e w4 hbk
      obtain ⟨hb4, rfl⟩ := hbk
      have HRd := Lib.hid (HRt.out.below hb4)
      have HKp : Hid (Kept (fun k => k = g) w2 w4) := Lib.hid (HKt.out.trans (Kept.of_below (X := fun k => k = g) hb4) (fun _ _ h => h))
      clear hb4
      obtain ⟨hth, hst, hev⟩ := EvR.fwd (p := (t, .bad e1)) (x := an0 e1) H.out.lt H.out.bk_lt HG2.out HH2.out HB2.out HRd.out HKp.out rfl
      have HSt := Lib.hid hst
      have HEv := Lib.hid hev
      have ho1 := ev_one 0 0 0 none none 0 0 0 0
      clear hst hev
      go_wp2_with (refine wpList_store_mid rfl 33 (.tmp 2) (.tmp 24) rfl g2 0 #[.int .i64 0, .int .i64 0, .slice none 0 0, .int .i64 0, .slice none 0 0] rfl rfl hth infoEv ho1 ?_)
      refine bodyPost_ret (results_ev3 rfl _ rfl HSt.out rfl) rfl ?_
      have h := HEv.out
      rw [← HFx.out] at h
      exact h
    | ok ls r =>
      rw [hbl] at HF HBk
      simp only at HF
      obtain ⟨l1, l2, l3⟩ := blk_sizes hbl
      obtain ⟨m, hm⟩ : ∃ m, m = ls.length := ⟨_, rfl⟩
      have HM := Lib.hid hm
      have HLs := Lib.hid (And.intro l1 (And.intro l2 l3))
      have HRl : Hid (r.length + 4 ≤ t.b.length) := Lib.hid (blk_ok hbl [] t.ended).2
      unfold BlkR at HBk
      simp only at HBk
      rw [← hm] at HBk
      have hm1 : 1 ≤ m := by rw [hm]; exact l1
      clear hm hbl l1 l2 l3
      obtain ⟨x0, hx0⟩ : ∃ x0, x0 = ls.headD [] := ⟨_, rfl⟩
      have hx1 : ls[0]? = some x0 := by
        cases ls with
        | nil => have := HLs.out.1; simp at this
        | cons a r => rw [hx0]; rfl
      have hxz : x0.length < 4294967281 := by
        have h1 := HLs.out.2.2 x0 (List.mem_of_getElem? hx1)
        exact Nat.lt_of_le_of_lt h1 (Nat.lt_of_le_of_lt HLe.out HZ.out)
      rw [← hx0] at HF
      have HX1 := Lib.hid hx1
      have HXz := Lib.hid hxz
      have HM1 := Lib.hid hm1
      have b1 : (1 : Int) ≤ (m : Int) := by omega
      have b0 : (0 : Int) < (m : Int) := by omega
      clear hx0 hx1 hxz hm1
      go_wp2_with fail
      refine HBk.out.mono ?_
      rintro e w4 hbk
      obtain ⟨hb4, g4, q, rfl, hg4, hs4, hq4, hqk, hrq⟩ := hbk
      have HR4 := Lib.hid (HRt.out.below hb4)
      have HK4 : Hid (Kept (fun k => k = g) w2 w4) := Lib.hid (HKt.out.trans (Kept.of_below (X := fun k => k = g) hb4) (fun _ _ h => h))
      have HT4 := Lib.hid (HTt.out.below hb4)
      have HS4 := Lib.hid hs4
      have HG4 : Hid (g < g4) := Lib.hid (Nat.lt_of_lt_of_le HRt.out.lt hg4)
      have HQ := Lib.hid (And.intro hq4 (And.intro hqk hrq))
      obtain ⟨y2, y3⟩ := (lgz (n := q)).2 (by omega)
      have c40 : w4.cell? ⟨g4, 0, none⟩ = some (.string (strB x0)) := by
        obtain ⟨b', o', hab, hcs⟩ := hs4.cells (by have := HM1.out; omega)
        cases hab
        have h1 := hcs 0 (by have := HM1.out; omega)
        rw [h1]
        have hx := HX1.out
        simp only [sB, List.getElem?_map, hx, Option.map_some]
      have HSt4 := Lib.hid (HR4.out.status x0 HXz.out)
      obtain ⟨S0, hS0⟩ : ∃ S0, S0 = strB x0 := ⟨_, rfl⟩
      rw [← hS0] at c40 HSt4
      clear hb4 hg4 hs4 hq4 hqk hrq hS0 HBk
      go_wp2_with fail
      refine HSt4.out.mono ?_
      rintro e w5 hst
      cases hsv : statusH x0 with
      | bad e1 =>
        rw [hsv] at HF hst
        have HFx : Hid (headV hd lim s = (t, .bad e1)) := Lib.hid HF.out
        obtain ⟨rfl, hr5, hk5⟩ := hst
        obtain ⟨y4, y5⟩ := field_bad_ne (statusH_ne hsv)
        have HRd := Lib.hid hr5
        have HKp : Hid (Kept (fun k => k = g) w2 w5) := Lib.hid (HK4.out.trans hk5 (fun _ _ h => h))
        clear hr5 hk5 hsv HF HSt4
        obtain ⟨hth, hst, hev⟩ := EvR.fwd (p := (t, .bad e1)) (x := an0 e1) H.out.lt H.out.bk_lt HG2.out HH2.out HB2.out HRd.out HKp.out rfl
        have HSt := Lib.hid hst
        have HEv := Lib.hid hev
        have ho1 := ev_one 0 0 0 none none 0 0 0 0
        clear hst hev
        go_wp2_with (refine wpList_store_mid rfl 33 (.tmp 2) (.tmp 36) rfl g2 0 #[.int .i64 0, .int .i64 0, .slice none 0 0, .int .i64 0, .slice none 0 0] rfl rfl hth infoEv ho1 ?_)
        refine bodyPost_ret (results_ev3 rfl _ rfl HSt.out rfl) rfl ?_
        have h := HEv.out
        rw [← HFx.out] at h
        exact h
      | ok v =>
        obtain ⟨st, old⟩ := v
        rw [hsv] at HF hst
        simp only at HF
        obtain ⟨rfl, hr5, hk5⟩ := hst
        have HR5 := Lib.hid hr5
        have HK5 : Hid (Kept (fun k => k = g) w2 w5) := Lib.hid (HK4.out.trans hk5 (fun _ _ h => h))
        have HT5 := Lib.hid (HT4.out.kept HGt.out hk5)
        have hs5 : Sl w5 (some ⟨g4, 0, none⟩) m m (sB ls) := HS4.out.kept hk5 (fun ad ha e => by cases ha; have := HG4.out; simp only at e; omega)
        have hst9 : st ≤ 599 := status_lt hsv
        have HSt9 := Lib.hid hst9
        obtain ⟨V, hV⟩ : ∃ V : Option Addr, V = if m = 1 then some ⟨g4, 0, none⟩ else some ⟨g4, 1, none⟩ := ⟨_, rfl⟩
        have htl := tail_sl hs5 HM1.out hV
        have HFl := Lib.hid (fields_any w5 HT5.out htl (by have := HLs.out.2.1; have := HM.out; have := HLe.out; have := HZ.out; omega) (fun l hl => by have := HLs.out.2.2 l (List.mem_of_mem_tail hl); have := HLe.out; have := HZ.out; omega))
        have hor : ((m = 1) = True ∧ V = some ⟨g4, 0, none⟩) ∨ ((m = 1) = False ∧ V = some ⟨g4, 1, none⟩) := by
          by_cases h1 : m = 1
          · exact .inl ⟨eq_true h1, by rw [hV, if_pos h1]⟩
          · exact .inr ⟨eq_false h1, by rw [hV, if_neg h1]⟩
        clear hr5 hk5 hsv hs5 hst9 htl hV HSt4 c40
        rcases hor with ⟨em, hV⟩ | ⟨em, hV⟩
        all_goals
          rw [hV] at HFl
          clear hV
          go_wp2_with fail
          refine HFl.out.mono ?_
          rintro e w6 hfl
          cases hfe : fieldsH ls.tail with
          | bad e1 =>
            rw [hfe] at HF hfl
            have HFx : Hid (headV hd lim s = ({ t with old := old }, .bad e1)) := Lib.hid HF.out
            obtain ⟨rfl, hb6⟩ := hfl
            obtain ⟨y4, y5⟩ := field_bad_ne (fieldsH_ne hfe)
            have HRd := Lib.hid (HR5.out.below hb6)
            have HKp : Hid (Kept (fun k => k = g) w2 w6) := Lib.hid (HK5.out.trans (Kept.of_below (X := fun k => k = g) hb6) (fun _ _ h => h))
            clear hb6 hfe HF HFl
            obtain ⟨hth, hst, hev⟩ := EvR.fwd (p := (({ t with old := old } : HSt), .bad e1)) (x := an0 e1) H.out.lt H.out.bk_lt HG2.out HH2.out HB2.out HRd.out HKp.out rfl
            have HSt := Lib.hid hst
            have HEv := Lib.hid hev
            have ho1 := ev_one 0 0 0 none none 0 0 0 0
            clear hst hev
            go_wp2_with (refine wpList_store_mid rfl 33 (.tmp 2) (.tmp 46) rfl g2 0 #[.int .i64 0, .int .i64 0, .slice none 0 0, .int .i64 0, .slice none 0 0] rfl rfl hth infoEv ho1 ?_)
            refine bodyPost_ret (results_ev3 rfl _ rfl HSt.out rfl) rfl ?_
            have h := HEv.out
            rw [← HFx.out] at h
            exact h
          | ok l =>
            rw [hfe] at HF hfl
            simp only at HF
            obtain ⟨a6, c6, rfl, hs6, hb6⟩ := hfl
            obtain ⟨n6, hn6⟩ : ∃ n6, n6 = l.length := ⟨_, rfl⟩
            have hsz := fieldsH_va hfe (n := t.b.length) (fun x hx => HLs.out.2.2 x (List.mem_of_mem_tail hx))
            have HN6 := Lib.hid hn6
            have HS6 := Lib.hid hs6
            have hr6 := HR5.out.below hb6
            have HR6 := Lib.hid hr6
            have HK6 : Hid (Kept (fun k => k = g) w2 w6) := Lib.hid (HK5.out.trans (Kept.of_below (X := fun k => k = g) hb6) (fun _ _ h => h))
            have HT6 := Lib.hid (HT5.out.below hb6)
            have HSz := Lib.hid hsz
            have HG6 : Hid (w2.heap.size ≤ w5.heap.size ∧ g < w5.heap.size) := Lib.hid ⟨HK5.out.size, HR5.out.lt⟩
            rw [← hn6]
            obtain ⟨⟨v8, d8⟩, _⟩ := hr6.c8
            have f8 := hr6.free 8
            clear hb6 hs6 hfe HFl hn6 hsz hr6
            go_upto_region 11 with fail
            obtain ⟨w7, hw7⟩ : ∃ w7, w7 = w6.setCell ⟨g, 8, none⟩ (.bool false) := ⟨_, rfl⟩
            have hk7 := Kept.set w6 g 8 (.bool false)
            rw [← hw7] at hk7
            have HR7 : Hid (RdS w7 g hd lim bk { t with old := old }) := Lib.hid (by rw [hw7]; exact HR6.out.cl8 false)
            have HK7 : Hid (Kept (fun k => k = g) w2 w7) := Lib.hid (HK6.out.trans hk7 (fun _ _ h => h))
            have HS7 : Hid (Sps w7 w5.heap.size a6 c6 l) := Lib.hid (own_kept HS6.out hk7 (fun k hk e => by have := (HS6.out.lt k hk).1; have := HG6.out.2; omega))
            have HT7 := Lib.hid (HT6.out.kept HGt.out hk7)
            rw [← hw7]
            clear hw7 d8 f8 hk7
            have hfr := HR7.out.frame (n := n6) (c := c6) (a := a6) (fs := l) (by rw [HN6.out]; exact HS7.out.sl) (by have := HSz.out.1; have := HN6.out; have := HLs.out.2.1; have := HLe.out; have := HZ.out; simp only [List.length_tail] at *; omega)
              (fun ad ha e => by
                have h1 : (Value.slice a6 l.length c6).ownBlock = some ad.block := by rw [ha]; rfl
                have := (HS7.out.lt _ h1).1; have := HG6.out.2; omega)
              (fun f hf => by have := HSz.out.2 f hf; have := HLe.out; have := HZ.out; omega)
            have HFr := Lib.hid hfr
            clear hfr
            go_wp2_with fail
            refine HFr.out.mono ?_
            rintro e w8 hfr
            cases hfv : frameH old l false none with
            | bad e1 =>
              rw [hfv] at HF
              have HFx : Hid (headV hd lim s = ({ t with old := old }, .bad e1)) := Lib.hid HF.out
              have hfv2 : frameH ({ t with old := old } : HSt).old l false none = .bad e1 := hfv
              rw [hfv2] at hfr
              obtain ⟨hr8, hk8, rfl⟩ := hfr
              obtain ⟨y4, y5⟩ := field_bad_ne (frameH_ne old hfv)
              have HRd := Lib.hid hr8
              have HKp : Hid (Kept (fun k => k = g) w2 w8) := Lib.hid (HK7.out.trans hk8 (fun _ _ h => h))
              clear hr8 hk8 hfv hfv2 HF HFr
              obtain ⟨hth, hst, hev⟩ := EvR.fwd (p := (({ t with old := old } : HSt), .bad e1)) (x := an0 e1) H.out.lt H.out.bk_lt HG2.out HH2.out HB2.out HRd.out HKp.out rfl
              have HSt := Lib.hid hst
              have HEv := Lib.hid hev
              have ho1 := ev_one 0 0 0 none none 0 0 0 0
              clear hst hev
              go_wp2_with (refine wpList_store_mid rfl 33 (.tmp 2) (.tmp 60) rfl g2 0 #[.int .i64 0, .int .i64 0, .slice none 0 0, .int .i64 0, .slice none 0 0] rfl rfl hth infoEv ho1 ?_)
              refine bodyPost_ret (results_ev3 rfl _ rfl HSt.out rfl) rfl ?_
              have h := HEv.out
              rw [← HFx.out] at h
              exact h
            | ok v =>
              obtain ⟨coded, size⟩ := v
              rw [hfv] at HF
              simp only at HF
              have hfv2 : frameH ({ t with old := old } : HSt).old l false none = .ok (coded, size) := hfv
              rw [hfv2] at hfr
              obtain ⟨hr8, hk8, rfl⟩ := hfr
              obtain ⟨szv, hsz⟩ : ∃ z, z = szI size := ⟨_, rfl⟩
              rw [← hsz]
              have HSzv := Lib.hid hsz
              have HT8 := Lib.hid (HT7.out.kept HGt.out hk8)
              have HK8 : Hid (Kept (fun k => k = g) w2 w8) := Lib.hid (HK7.out.trans hk8 (fun _ _ h => h))
              have HS8 : Hid (Sps w8 w5.heap.size a6 c6 l) := Lib.hid (own_kept HS7.out hk8 (fun k hk e => by have := (HS7.out.lt k hk).1; have := HG6.out.2; omega))
              obtain ⟨k, hk⟩ : ∃ k, k = t.b.length := ⟨_, rfl⟩
              have HKk := Lib.hid hk
              obtain ⟨ad, cc, c8, i1, i2⟩ := hr8.buf (by show 0 < t.b.length; have := HQ.out.1; have := HQ.out.2.1; omega)
              replace c8 : w8.cell? ⟨g, 2, none⟩ = some (.slice (some ad) k cc) := by rw [hk]; exact c8
              replace i1 : k ≤ cc := by rw [hk]; exact i1
              have f8 := hr8.free 2
              have HR8 := Lib.hid hr8
              have b3 : (q : Int) ≤ (cc : Int) := by have := HQ.out.2.1; omega
              have b4 : (q : Int) ≤ (k : Int) := by have := HQ.out.2.1; omega
              have b5 : (k : Int) ≤ (cc : Int) := by omega
              have b6 : (0 : Int) ≤ (q : Int) := by omega
              clear hr8 hk8 hfv hfv2 HFr hsz hk i1 i2
              go_upto_region 15 with fail
              obtain ⟨V, hV⟩ : ∃ V : Option Addr, V = if cc = q then some ad else some (ad.add q) := ⟨_, rfl⟩
              rw [← hV]
              obtain ⟨w9, hw9⟩ : ∃ w9, w9 = w8.setCell ⟨g, 2, none⟩ (.slice V (k - q) (cc - q)) := ⟨_, rfl⟩
              have hk9 := Kept.set w8 g 2 (.slice V (k - q) (cc - q))
              rw [← hw9] at hk9
              have HR9 : Hid (RdS w9 g hd lim bk { t with old := old, b := r }) := Lib.hid (by
                have h := HR8.out.cut2 (k := k) HKk.out c8 (by have := HQ.out.2.1; have := HKk.out; omega) hV
                rw [hw9, HQ.out.2.2]; exact h)
              have HK9 : Hid (Kept (fun k => k = g) w2 w9) := Lib.hid (HK8.out.trans hk9 (fun _ _ h => h))
              have HS9 : Hid (Sps w9 w5.heap.size a6 c6 l) := Lib.hid (own_kept HS8.out hk9 (fun k hk e => by have := (HS8.out.lt k hk).1; have := HG6.out.2; omega))
              rw [← hw9]
              clear hw9 hV c8 f8 b3 b4 b5 b6 hk9
              by_cases h200 : 200 ≤ st
              · have y6 : ((200 : Int) ≤ (st : Int)) = True := eq_true (by omega)
                have HFx : Hid (headV hd lim s = (beginV hd { t with old := old, b := r } st coded size, .ev (.head st l (beginV hd { t with old := old, b := r } st coded size).fr))) := Lib.hid (by rw [HF.out, if_pos h200])
                have HBg := Lib.hid (begin_any w9 HR9.out st coded size)
                rw [← HSzv.out] at HBg
                obtain ⟨t9, ht9⟩ : ∃ t9, t9 = beginV hd { t with old := old, b := r } st coded size := ⟨_, rfl⟩
                rw [← ht9] at HBg HFx
                clear h200 HF ht9
                go_wp2_with fail
                refine HBg.out.mono ?_
                rintro e w10 ⟨rfl, hr10, hk10⟩
                have HS10 : Sps w10 w5.heap.size a6 c6 l := own_kept HS9.out hk10 (fun k hk e => by have := (HS9.out.lt k hk).1; have := HG6.out.2; omega)
                have hok : An.Ok w2.heap.size w10 ⟨1, (st : Int), a6, n6, c6, t9.fr, none, 0, 0, true, 0⟩ (.ev (.head st l t9.fr)) := ⟨by rw [HN6.out], own_mono HS10 HG6.out.1⟩
                obtain ⟨hth, hst, hev⟩ := EvR.fwd (p := (t9, .ev (.head st l t9.fr))) H.out.lt H.out.bk_lt HG2.out HH2.out HB2.out hr10 (HK9.out.trans hk10 (fun _ _ h => h)) hok
                have d9 := hr10.c8.2
                have HSt := Lib.hid hst
                have HEv := Lib.hid hev
                obtain ⟨fr9, hfr9⟩ : ∃ f, f = t9.fr := ⟨_, rfl⟩
                rw [← hfr9] at d9 HSt HEv HFx
                have ho1 := ev_one 1 (st : Int) fr9 a6 none n6 c6 0 0
                clear hr10 hk10 HS10 hok hst hev hfr9
                go_wp2_with (refine wpList_store_mid rfl 33 (.tmp 2) (.tmp 84) rfl g2 0 #[.int .i64 1, .int .i64 (st : Int), .slice a6 n6 c6, .int .i64 fr9, .slice none 0 0] rfl rfl hth infoEv ho1 ?_)
                refine bodyPost_ret (results_ev3 rfl _ rfl HSt.out rfl) rfl ?_
                have h := HEv.out
                rw [← HFx.out] at h
                exact h
              · have y6 : ((200 : Int) ≤ (st : Int)) = False := eq_false (by omega)
                have HFn : Hid (headV hd lim s = headG hd lim (r.length + 1) { t with old := old, b := r }) := Lib.hid (by
                  rw [HF.out, if_neg h200]
                  exact headG_fuel hd lim _ _ _ (by show r.length < t.b.length; have := HRl.out; omega) (by show r.length < r.length + 1; omega))
                clear h200 HF
                go_wp2_with fail
                go_roundw
                case rel => exact ⟨rfl, { t with old := old, b := r }, HR9.out, HK9.out, HFn, Lib.hid (by show r.length ≤ s.b.length; have := HRl.out; have := HLe.out; omega)⟩
                case measure => rw [HR9.out.bufN, HRt.out.bufN]; show r.length < t.b.length; have := HRl.out; omega
end Go.Proofs.YtfffefhchjnfjaaGreatDoor

namespace Go.Proofs.YtfffefhchjnfjaaGreatDoor
open Go.RowKit

def erO : Out → Int
  | .bad e => e
  | _ => 0
theorem An.Ok.ero {B : Nat} {w : World} {x : An} {o : Out} (h : x.Ok B w o) : x.er = erO o := by
  match o, h with
  | .none, h => rw [h]; rfl
  | .bad c, h => rw [h]; rfl
  | .ev (.head st l fr), h => rw [h.1]; rfl
  | .ev (.data d), h => rw [h.1]; rfl
  | .ev (.fin l), h => rw [h.1]; rfl
theorem next_eq {head : Bool} {lim : Nat} {s : HSt} (hd : s.done = false) (hf : s.fault = 0) : nextV head lim s = ({ (stepV head lim s).1 with fault := erO (stepV head lim s).2 }, (stepV head lim s).2) := by
  have h := shr_step head lim s
  rw [next_step hd hf]
  rcases hst : stepV head lim s with ⟨s', o⟩
  rw [hst] at h
  have key : s'.fault = 0 → s' = { s' with fault := 0 } := fun h => by cases s'; simp only at h; subst h; rfl
  cases o with
  | none => exact congrArg (fun x => (x, Out.none)) (key (h.2.1.trans hf))
  | bad x => rfl
  | ev E =>
    cases E with
    | fin l => exact congrArg (fun x => (x, Out.ev (.fin l))) (key (h.2.2.trans hf))
    | head a b c => exact congrArg (fun x => (x, Out.ev (.head a b c))) (key (h.2.2.trans hf))
    | data d => exact congrArg (fun x => (x, Out.ev (.data d))) (key (h.2.2.trans hf))
/-- the reader's step -/
theorem step_any (w : World) (ht : Tab w) {g lim : Nat} (hg : TabG g) {hd : Bool} {bk : Option Nat} {s : HSt} (h : RdS w g hd lim bk s) (hz : s.b.length < 4294967281) (hl : s.left ≤ 1000000000000000) :
    ∃ f, stpV s.stp = .func (.func f) #[] #[] ∧ Calls Tryz.prog f #[.pointer (some ⟨g, 0, none⟩)] w (EvR w g hd lim bk (stepV hd lim s)) := by
  have hz2 : s.b.length ≤ 140737488355328 := Nat.le_trans (Nat.le_of_lt hz) (by decide)
  unfold stepV
  cases hst : s.stp with
  | head => exact ⟨_, rfl, head_step_any w ht hg h hz⟩
  | nobody => exact ⟨_, rfl, nobody_any w h⟩
  | length => exact ⟨_, rfl, length_step_any w h hz2 hl⟩
  | close => exact ⟨_, rfl, close_step_any w h hz2⟩
  | chunk => exact ⟨_, rfl, chunk_step_any w ht hg h hz⟩
  | piece => exact ⟨_, rfl, pieceS_any w ht hg h hz hl⟩
  | trailers => exact ⟨_, rfl, trail_step_any w ht h hz⟩
theorem RdS.ftc {w : World} {g lim : Nat} {hd : Bool} {bk : Option Nat} {s : HSt} (h : RdS w g hd lim bk s) : w.cell? ⟨g, 4, none⟩ = some (.int .i64 s.fault) := by
  obtain ⟨r, a, n, c, hr, _, _, _, _, _, _, _, h4, _⟩ := h.ex
  rw [← h4]; exact hr.at 4 rfl
theorem RdS.stc {w : World} {g lim : Nat} {hd : Bool} {bk : Option Nat} {s : HSt} (h : RdS w g hd lim bk s) : w.cell? ⟨g, 5, none⟩ = some (stpV s.stp) := by
  obtain ⟨r, a, n, c, hr, _, _, _, _, _, _, _, _, h5, _⟩ := h.ex
  rw [← h5]; exact hr.at 5 rfl
theorem RdS.ft4 {w : World} {g lim : Nat} {hd : Bool} {bk : Option Nat} {s : HSt} (h : RdS w g hd lim bk s) (f : Int) : RdS (w.setCell ⟨g, 4, none⟩ (.int .i64 f)) g hd lim bk { s with fault := f } :=
  h.sets 4 _ rfl (fun r h1 h2 h3 _ h5 h6 h7 h8 h9 => ⟨{ r with ft := f }, rfl, rfl, h1, h2, h3, rfl, h5, h6, h7, h8, h9⟩)
theorem RdS.keptX {X : Nat → Prop} {w w' : World} {g lim : Nat} {hd : Bool} {bk : Option Nat} {s : HSt} (h : RdS w g hd lim bk s) (hk : Kept X w w') (hx : ¬ X g) (hb : ∀ k, bk = some k → ¬ X k) : RdS w' g hd lim bk s := by
  obtain ⟨r, a, n, c, hr, hbf, ht, hne, hbk, rest⟩ := h.ex
  exact ⟨r, a, n, c, Has.kept hr hk hx, hbf, ht.kept hk (fun ad ha => hb _ (by rw [← hbk, ha]; rfl)), hne, hbk, rest⟩
theorem int_ne {x : Int} (h : x ≠ 0) : (x == 0) = false ∧ (x != 0) = true ∧ ¬ x = 0 := ⟨by simpa using h, by simpa using h, h⟩
/-- what is known when a step has told x in w3: the worlds behind the store of the event, of the error, of the event again -/
structure NextA (w : World) (g : Nat) (hd : Bool) (lim : Nat) (bk : Option Nat) (w2 : World) (g2 : Nat) (w3 : World) (x : An) (p : HSt × Out) : Prop where
  th : w3.there g2 0 5
  c4 : ∃ v, (w3.setCells g2 0 x.cs).cell? ⟨g, 4, none⟩ = some v
  f4 : (w3.setCells g2 0 x.cs).frozen? ⟨g, 4, none⟩ = false
  h4 : Has ((w3.setCells g2 0 x.cs).setCell ⟨g, 4, none⟩ (.int .i64 x.er)) g2 33 x.cs
  r4 : RdS ((w3.setCells g2 0 x.cs).setCell ⟨g, 4, none⟩ (.int .i64 x.er)) g hd lim bk { p.1 with fault := erO p.2 }
  k4 : Kept (fun k => k = g) w2 ((w3.setCells g2 0 x.cs).setCell ⟨g, 4, none⟩ (.int .i64 x.er)) ∨ True
  e5 : ∀ w5, w5 = ((w3.setCells g2 0 x.cs).setCell ⟨g, 4, none⟩ (.int .i64 x.er)).drew → w5.there g2 0 5 ∧ Has w5 g2 33 x.cs ∧ w5.cell? ⟨g, 4, none⟩ = some (.int .i64 x.er) ∧ (w5.setCells g2 0 x.cs).cell? ⟨g, 4, none⟩ = some (.int .i64 x.er) ∧ Has (w5.setCells g2 0 x.cs) g2 33 x.cs ∧ EvR w g hd lim bk ({ p.1 with fault := erO p.2 }, p.2) (.returned x.v) (w5.setCells g2 0 x.cs)
theorem nextA_of {w w2 w3 : World} {g g2 lim : Nat} {hd : Bool} {bk : Option Nat} {p : HSt × Out} {x : An} (hg : g < w.heap.size) (hbk : ∀ k, bk = some k → k < w.heap.size) (hg2 : g2 = w.heap.size) (h2 : Has w2 g2 33 ev0) (hb : Below w.heap.size w w2)
    (h : RdS w3 g hd lim bk p.1) (hk : Kept (fun k => k = g) w2 w3) (hx : x.Ok w2.heap.size w3 p.2) : NextA w g hd lim bk w2 g2 w3 x p := by
  have h3 : Has w3 g2 33 ev0 := h2.kept hk (by omega)
  have hks := Kept.sets g2 x.cs 0 w3
  have hlt := h2.lt
  have hr := h.keptX hks (by omega) (fun k hk e => by have := hbk k hk; omega)
  have hh := h3.store (vs := x.cs) rfl
  have hr4 := hr.ft4 x.er
  rw [hx.ero] at hr4
  have hh4 : Has ((w3.setCells g2 0 x.cs).setCell ⟨g, 4, none⟩ (.int .i64 x.er)) g2 33 x.cs := hh.other (by omega) 4 _
  refine ⟨h3.there rfl, ⟨_, hr.ftc⟩, hr.free 4, hh4, by rw [hx.ero]; exact hr4, .inr trivial, fun w5 hw5 => ?_⟩
  have hb5 : Below (w3.setCells g2 0 x.cs |>.setCell ⟨g, 4, none⟩ (.int .i64 x.er)).heap.size ((w3.setCells g2 0 x.cs).setCell ⟨g, 4, none⟩ (.int .i64 x.er)) w5 := by rw [hw5]; exact below_drewN (Below.refl _ _) 1
  have hh5 : Has w5 g2 33 x.cs := by rw [hw5]; exact Has.kept (X := none') hh4 (Kept.drew _ _) (fun h => h)
  have hks5 := Kept.sets g2 x.cs 0 w5
  have hr5 : RdS w5 g hd lim bk { p.1 with fault := erO p.2 } := RdS.below (by rw [hx.ero]; exact hr4) hb5
  have k5 : Kept (fun k => k = g ∨ k = g2) w2 w5 := ((hk.more (fun k _ e => .inl e)).trans hks (fun k _ e => .inr e)).trans ((Kept.set _ g 4 _).trans (Kept.of_below (X := fun k => k = g) hb5) (fun _ _ e => e)) (fun k _ e => .inl e)
  have hx5 : x.Ok w2.heap.size w5 p.2 := by
    have h1 := hx.kept hks (fun k hk e => by omega)
    have h2 := h1.kept (Kept.set (w3.setCells g2 0 x.cs) g 4 (.int .i64 x.er)) (fun k hk e => by omega)
    exact h2.kept (X := none') (Kept.of_below hb5) (fun _ _ h => h)
  have hc5 : w5.cell? ⟨g, 4, none⟩ = some (.int .i64 x.er) := by rw [hx.ero]; exact hr5.ftc
  refine ⟨hh5.there rfl, hh5, hc5, hks5.cell hc5 (fun e => by simp only at e; omega), hh5.store rfl, x, rfl, ?_, ?_, ?_⟩
  · exact hr5.keptX hks5 (by omega) (fun k hk e => by have := hbk k hk; omega)
  · exact ((Kept.of_below (X := fun k => k = g) hb).trans k5 (fun k hk e => e.elim (fun e => e) (fun e => by omega))).trans hks5 (fun k hk1 e => by omega)
  · exact (hx5.kept hks5 (fun k hk1 e => by omega)).down hb.size
set_option maxRecDepth 100000 in
set_option maxHeartbeats 4000000 in
theorem next_any (w : World) (htb : Tab w) {g lim : Nat} (hgt : TabG g) {hd : Bool} {bk : Option Nat} {s : HSt} (h : RdS w g hd lim bk s) (hz : s.b.length < 4294967281) (hl : s.left ≤ 1000000000000000) :
    Calls Tryz.prog 20 #[.pointer (some ⟨g, 0, none⟩)] w (EvR w g hd lim bk (nextV hd lim s)) := by
  obtain ⟨w2, hw2⟩ : ∃ w2, w2 = w.alloc (.cells #[.int .i64 0, .int .i64 0, .slice none 0 0, .int .i64 0, .slice none 0 0] 33) := ⟨_, rfl⟩
  obtain ⟨g2, hg2⟩ : ∃ g2, g2 = w.heap.size := ⟨_, rfl⟩
  have HH2 : Hid (Has w2 g2 33 ev0) := Lib.hid (by rw [hw2, hg2]; exact Has.new w 33 #[.int .i64 0, .int .i64 0, .slice none 0 0, .int .i64 0, .slice none 0 0])
  have hb2 : Below w.heap.size w w2 := by rw [hw2]; exact (Below.refl _ w).alloc (Nat.le_refl _) _
  have HR2 := Lib.hid (h.below hb2)
  have HB2 := Lib.hid hb2
  have H := Lib.hid h
  have HG2 := Lib.hid hg2
  clear h hb2
  have d6 := HR2.out.dn
  have d4 := HR2.out.ftc
  by_cases hc : s.done = true ∨ s.fault ≠ 0
  · obtain ⟨ft, hft⟩ : ∃ ft, ft = s.fault := ⟨_, rfl⟩
    rw [← hft] at d4 hc
    have hnx : nextV hd lim s = (s, if ft = 0 then .none else .bad ft) := by unfold nextV; rw [← hft, if_pos hc]
    obtain ⟨O, hO⟩ : ∃ O : Out, O = if ft = 0 then .none else .bad ft := ⟨_, rfl⟩
    rw [hnx, ← hO]
    obtain ⟨w3, hw3⟩ : ∃ w3, w3 = w2.drew := ⟨_, rfl⟩
    have hb3 : Below w2.heap.size w2 w3 := by rw [hw3]; exact below_drewN (Below.refl _ _) 1
    have HC3 : Hid (w3.cell? ⟨g, 4, none⟩ = some (.int .i64 ft)) := Lib.hid (by rw [hb3.cell (World.block_lt_of_cell? _ _ d4)]; exact d4)
    have hr3 := HR2.out.below hb3
    obtain ⟨hth, hst, hev⟩ := EvR.fwd (p := (s, O)) (x := an0 ft) H.out.lt H.out.bk_lt HG2.out HH2.out HB2.out hr3 (Kept.of_below (X := fun k => k = g) hb3) (by
      rw [hO]
      by_cases h0 : ft = 0
      · rw [if_pos h0, h0]; rfl
      · rw [if_neg h0]; rfl)
    have HSt := Lib.hid hst
    have HEv := Lib.hid hev
    have ho1 := ev_one 0 0 0 none none 0 0 0 0
    have HC4 : Hid ((w3.setCells g2 0 [.int .i64 0, .int .i64 0, .slice none 0 0, .int .i64 0, .slice none 0 0]).cell? ⟨g, 4, none⟩ = some (.int .i64 ft)) := Lib.hid ((Kept.sets g2 _ 0 w3).cell HC3.out (fun e => by have := H.out.lt; have := HG2.out; simp only at e; omega))
    have HW3 := Lib.hid hw3
    clear hst hev hb3 hr3 hw3 hft hnx hz hl hO
    cases hdn : s.done with
    | true =>
      rw [hdn] at d6
      clear hc hdn
      go_enter Tryz.func20, Tryz.ntmps20
      go_upto_region 1 with fail
      rw [← hw2, ← hg2]
      clear hw2 hg2
      go_upto_region 2 with fail
      refine Mx.region [] (fun w' => w'.cell? ⟨g, 4, none⟩ = some (.int .i64 ft)) (by kernel_rfl) (by kernel_rfl) (by rw [← HW3.out]; exact HC3.out) ?_
      rw [← HW3.out]
      repeat ((first | (refine Mx.skips (by kernel_rfl) ?_; go_big_quiet_skip) | (refine Mx.quietly rfl ?_; go_big_quiet_want; go_big_quiet_op; go_big_quiet_on)); refine Mx.done ?_)
      refine Mx.cell ⟨g, 4, none⟩ (.int .i64 ft) (by kernel_rfl) (by kernel_rfl) (by kernel_rfl) Tryz.isAgg51 (fun w' h => h) ?_
      go_big_quiet_want; go_big_quiet_op; go_big_quiet_on; refine Mx.done ?_
      repeat ((first | (refine Mx.skips (by kernel_rfl) ?_; go_big_quiet_skip) | (refine Mx.quietly rfl ?_; go_big_quiet_want; go_big_quiet_op; go_big_quiet_on)); refine Mx.done ?_)
      refine Mx.loudly (by kernel_rfl) (by kernel_rfl) ?_
      refine wpList_store_mid rfl 33 (.tmp 2) (.tmp 16) rfl g2 0 #[.int .i64 0, .int .i64 0, .slice none 0 0, .int .i64 0, .slice none 0 0] rfl rfl hth infoEv ho1 ?_
      unfold wpList
      refine ⟨rfl, HC4.out, ?_⟩
      dsimp only [Act.put]
      obtain ⟨w4, hw4⟩ : ∃ w4, w4 = w3.setCells g2 0 [.int .i64 0, .int .i64 0, .slice none 0 0, .int .i64 0, .slice none 0 0] := ⟨_, rfl⟩
      have HSt4 : Hid (Has w4 g2 33 (an0 ft).cs) := Lib.hid (by rw [hw4]; exact HSt.out)
      have HEv4 : Hid (EvR w g hd lim bk (s, O) (.returned (an0 ft).v) w4) := Lib.hid (by rw [hw4]; exact HEv.out)
      rw [← hw4]
      clear hw4 HSt HEv HC4 hth
      repeat ((first | (refine Mx.skips (by kernel_rfl) ?_; go_big_quiet_skip) | (refine Mx.quietly rfl ?_; go_big_quiet_want; go_big_quiet_op; go_big_quiet_on)); refine Mx.done ?_)
      refine Mx.nil ?_
      clear ho1 d4 d6
      go_wp2_with fail
      refine bodyPost_ret (results_ev3 rfl _ rfl HSt4.out rfl) rfl ?_
      exact HEv4.out
    | false =>
      rw [hdn] at d6 hc
      obtain ⟨y1, y2, y3⟩ := int_ne (hc.resolve_left (by decide))
      clear hc hdn
      go_enter Tryz.func20, Tryz.ntmps20
      go_upto_region 1 with fail
      rw [← hw2, ← hg2]
      clear hw2 hg2
      go_upto_region 2 with fail
      refine Mx.region [] (fun w' => w'.cell? ⟨g, 4, none⟩ = some (.int .i64 ft)) (by kernel_rfl) (by kernel_rfl) (by rw [← HW3.out]; exact HC3.out) ?_
      rw [← HW3.out]
      repeat ((first | (refine Mx.skips (by kernel_rfl) ?_; go_big_quiet_skip) | (refine Mx.quietly rfl ?_; go_big_quiet_want; go_big_quiet_op; go_big_quiet_on)); refine Mx.done ?_)
      refine Mx.cell ⟨g, 4, none⟩ (.int .i64 ft) (by kernel_rfl) (by kernel_rfl) (by kernel_rfl) Tryz.isAgg51 (fun w' h => h) ?_
      go_big_quiet_want; go_big_quiet_op; go_big_quiet_on; refine Mx.done ?_
      repeat ((first | (refine Mx.skips (by kernel_rfl) ?_; go_big_quiet_skip) | (refine Mx.quietly rfl ?_; go_big_quiet_want; go_big_quiet_op; go_big_quiet_on)); refine Mx.done ?_)
      refine Mx.loudly (by kernel_rfl) (by kernel_rfl) ?_
      refine wpList_store_mid rfl 33 (.tmp 2) (.tmp 16) rfl g2 0 #[.int .i64 0, .int .i64 0, .slice none 0 0, .int .i64 0, .slice none 0 0] rfl rfl hth infoEv ho1 ?_
      unfold wpList
      refine ⟨rfl, HC4.out, ?_⟩
      dsimp only [Act.put]
      obtain ⟨w4, hw4⟩ : ∃ w4, w4 = w3.setCells g2 0 [.int .i64 0, .int .i64 0, .slice none 0 0, .int .i64 0, .slice none 0 0] := ⟨_, rfl⟩
      have HSt4 : Hid (Has w4 g2 33 (an0 ft).cs) := Lib.hid (by rw [hw4]; exact HSt.out)
      have HEv4 : Hid (EvR w g hd lim bk (s, O) (.returned (an0 ft).v) w4) := Lib.hid (by rw [hw4]; exact HEv.out)
      rw [← hw4]
      clear hw4 HSt HEv HC4 hth
      repeat ((first | (refine Mx.skips (by kernel_rfl) ?_; go_big_quiet_skip) | (refine Mx.quietly rfl ?_; go_big_quiet_want; go_big_quiet_op; go_big_quiet_on)); refine Mx.done ?_)
      refine Mx.nil ?_
      clear ho1 d4 d6
      go_wp2_with fail
      refine bodyPost_ret (results_ev3 rfl _ rfl HSt4.out rfl) rfl ?_
      exact HEv4.out
  · have hdn : s.done = false := by cases h : s.done with | false => rfl | true => exact absurd (.inl h) hc
    have hft : s.fault = 0 := Classical.byContradiction fun h => hc (.inr h)
    rw [hdn] at d6
    rw [hft] at d4
    obtain ⟨f, hf, hstep⟩ := step_any w2 (htb.below HB2.out) hgt HR2.out hz hl
    have d5 := HR2.out.stc
    rw [next_eq hdn hft]
    rw [hf] at d5
    obtain ⟨pp, hpp⟩ : ∃ pp, pp = stepV hd lim s := ⟨_, rfl⟩
    rw [← hpp] at hstep ⊢
    have HRs : Hid (∀ (w3 : World) (x : An), RdS w3 g hd lim bk pp.1 → Kept (fun k => k = g) w2 w3 → x.Ok w2.heap.size w3 pp.2 → NextA w g hd lim bk w2 g2 w3 x pp) := Lib.hid (by
      intro w3 x h1 h2 h3
      exact nextA_of (p := pp) (x := x) H.out.lt H.out.bk_lt HG2.out HH2.out HB2.out h1 h2 h3)
    have HStep := Lib.hid hstep
    obtain ⟨stp, hstp⟩ : ∃ x, x = s.stp := ⟨_, rfl⟩
    rw [← hstp] at hf
    have HFs := Lib.hid hf
    clear hc hdn hft hstep hz hl hpp hstp hf
    go_enter Tryz.func20, Tryz.ntmps20
    go_upto_region 1 with fail
    rw [← hw2, ← hg2]
    clear hw2 hg2
    go_upto_region 3 with fail
    cases stp
    all_goals (
      have hf := HFs.out
      simp only [stpV, Value.func.injEq, Fn.func.injEq, and_true] at hf
      subst hf
      clear HFs
      go_wp2_with fail
      refine HStep.out.mono ?_
      rintro e w3 ⟨x, rfl, hrd, hkp, hok⟩
      unfold An.v
      have hA := HRs.out w3 x hrd hkp hok
      have hth := hA.th
      have ho1 := ev_one x.k x.st x.fr x.fa x.da x.fn x.fc x.dn x.dc
      have HA := Lib.hid hA
      clear hrd hkp hok hA
      obtain ⟨w4, hw4⟩ : ∃ w4, w4 = w3.setCells g2 0 x.cs := ⟨_, rfl⟩
      obtain ⟨v4, c4⟩ : ∃ v, w4.cell? ⟨g, 4, none⟩ = some v := by rw [hw4]; exact HA.out.c4
      have f4 : w4.frozen? ⟨g, 4, none⟩ = false := by rw [hw4]; exact HA.out.f4
      have HW4 := Lib.hid hw4
      clear hw4
      go_wp2_with (
        refine wpList_store_mid rfl 33 (.tmp 2) (.tmp 29) rfl g2 0 #[.int .i64 x.k, .int .i64 x.st, .slice x.fa x.fn x.fc, .int .i64 x.fr, .slice x.da x.dn x.dc] rfl rfl hth infoEv ho1 ?_
        rw [show w3.setCells g2 0 (#[.int .i64 x.k, .int .i64 x.st, .slice x.fa x.fn x.fc, .int .i64 x.fr, .slice x.da x.dn x.dc] : Array Value).toList = w4 from HW4.out.symm])
      obtain ⟨w5, hw5⟩ : ∃ w5, w5 = (w4.setCell ⟨g, 4, none⟩ (.int .i64 x.er)).drew := ⟨_, rfl⟩
      obtain ⟨hth5, hh5, hc5, hc6, hst6, hev6⟩ := HA.out.e5 w5 (by rw [hw5, HW4.out])
      obtain ⟨w6, hw6⟩ : ∃ w6, w6 = w5.setCells g2 0 x.cs := ⟨_, rfl⟩
      have HC5 := Lib.hid hc5
      have HC6 : Hid (w6.cell? ⟨g, 4, none⟩ = some (.int .i64 x.er)) := Lib.hid (by rw [hw6]; exact hc6)
      have HSt6 : Hid (Has w6 g2 33 x.cs) := Lib.hid (by rw [hw6]; exact hst6)
      have HEv6 : Hid (EvR w g hd lim bk ({ pp.1 with fault := erO pp.2 }, pp.2) (.returned x.v) w6) := Lib.hid (by rw [hw6]; exact hev6)
      have HW6 := Lib.hid hw6
      have HTh5 := Lib.hid hth5
      have HH5 := Lib.hid hh5
      clear hth c4 f4 hth5 hh5 hc5 hc6 hst6 hev6 hw6 HA HW4 HRs HStep d4 d5 d6
      refine Mx.region [34] (fun w' => w'.cell? ⟨g, 4, none⟩ = some (.int .i64 x.er)) (by kernel_rfl) (by kernel_rfl) (by rw [← hw5]; exact HC5.out) ?_
      rw [← hw5]
      clear hw5
      have e0 : w5.cell? ⟨g2, 0, none⟩ = some (.int .i64 x.k) := HH5.out.cell 0 rfl
      have e1 : w5.cell? ⟨g2, 1, none⟩ = some (.int .i64 x.st) := HH5.out.cell 1 rfl
      have e2 : w5.cell? ⟨g2, 2, none⟩ = some (.slice x.fa x.fn x.fc) := HH5.out.cell 2 rfl
      have e3 : w5.cell? ⟨g2, 3, none⟩ = some (.int .i64 x.fr) := HH5.out.cell 3 rfl
      have e4 : w5.cell? ⟨g2, 4, none⟩ = some (.slice x.da x.dn x.dc) := HH5.out.cell 4 rfl
      have hc5 := HC5.out
      refine Mx.loudly (by kernel_rfl) (by kernel_rfl) ?_
      go_wp2_with fail
      clear e0 e1 e2 e3 e4 hc5
      repeat ((first | (refine Mx.skips (by kernel_rfl) ?_; go_big_quiet_skip) | (refine Mx.quietly rfl ?_; go_big_quiet_want; go_big_quiet_op; go_big_quiet_on)); refine Mx.done ?_)
      refine Mx.cell ⟨g, 4, none⟩ (.int .i64 x.er) (by kernel_rfl) (by kernel_rfl) (by kernel_rfl) Tryz.isAgg51 (fun w' h => h) ?_
      go_big_quiet_want; go_big_quiet_op; go_big_quiet_on; refine Mx.done ?_
      repeat ((first | (refine Mx.skips (by kernel_rfl) ?_; go_big_quiet_skip) | (refine Mx.quietly rfl ?_; go_big_quiet_want; go_big_quiet_op; go_big_quiet_on)); refine Mx.done ?_)
      refine Mx.loudly (by kernel_rfl) (by kernel_rfl) ?_
      refine wpList_store_mid rfl 33 (.tmp 2) (.tmp 34) rfl g2 0 #[.int .i64 x.k, .int .i64 x.st, .slice x.fa x.fn x.fc, .int .i64 x.fr, .slice x.da x.dn x.dc] rfl rfl HTh5.out infoEv ho1 ?_
      rw [show w5.setCells g2 0 (#[.int .i64 x.k, .int .i64 x.st, .slice x.fa x.fn x.fc, .int .i64 x.fr, .slice x.da x.dn x.dc] : Array Value).toList = w6 from HW6.out.symm]
      unfold wpList
      refine ⟨rfl, HC6.out, ?_⟩
      dsimp only [Act.put]
      repeat ((first | (refine Mx.skips (by kernel_rfl) ?_; go_big_quiet_skip) | (refine Mx.quietly rfl ?_; go_big_quiet_want; go_big_quiet_op; go_big_quiet_on)); refine Mx.done ?_)
      refine Mx.nil ?_
      clear ho1
      go_wp2_with fail
      refine bodyPost_ret (results_ev3 rfl _ rfl HSt6.out rfl) rfl ?_
      exact HEv6.out)
end Go.Proofs.YtfffefhchjnfjaaGreatDoor

namespace Go.Proofs.YtfffefhchjnfjaaGreatDoor
open Go.RowKit

attribute [local go_sem] run_store_func
def s0 : HSt := ⟨[], false, 0, .head, false, false, 0, 0⟩
def NewR (w : World) (hd : Bool) (lim : Nat) (e : Ending) (w' : World) : Prop := ∃ g, w.heap.size ≤ g ∧ e = .returned (.tuple #[.pointer (some ⟨g, 0, none⟩), .int .i64 0]) ∧ RdS w' g hd lim none s0 ∧ Below w.heap.size w w'
theorem rd_new (w : World) (hd : Bool) (lim : Nat) : RdS (w.alloc (.cells #[.bool hd, .int .i64 (lim : Int), .slice none 0 0, .bool false, .int .i64 0, .func (.func 29) #[] #[], .bool false, .bool false, .bool false, .int .i64 0, .int .i64 0] 65)) w.heap.size hd lim none s0 := by
  refine ⟨⟨hd, (lim : Int), .slice none 0 0, false, 0, stpV .head, false, false, false, 0, 0⟩, none, 0, 0, ?_, rfl, Tl.nil _, (fun ad h => by cases h), rfl, rfl, rfl, rfl, rfl, rfl, rfl, rfl, rfl, rfl⟩
  exact Has.new w 65 #[.bool hd, .int .i64 (lim : Int), .slice none 0 0, .bool false, .int .i64 0, .func (.func 29) #[] #[], .bool false, .bool false, .bool false, .int .i64 0, .int .i64 0]
set_option maxRecDepth 100000 in
theorem new_any (w : World) (hd : Bool) (lim : Nat) (hl : lim ≤ 1048576) : Calls Tryz.prog 18 #[.bool hd, .int .i64 (lim : Int)] w (NewR w hd lim) := by
  have y1 : ((lim : Int) < 0) = False := eq_false (by omega)
  have y2 : ((1048576 : Int) < (lim : Int)) = False := eq_false (by omega)
  have y3 : ¬ (1048576 : Int) < (lim : Int) := by omega
  have hr := rd_new w hd lim
  have hb : Below w.heap.size w (w.alloc (.cells #[.bool hd, .int .i64 (lim : Int), .slice none 0 0, .bool false, .int .i64 0, .func (.func 29) #[] #[], .bool false, .bool false, .bool false, .int .i64 0, .int .i64 0] 65)) := (Below.refl _ w).alloc (Nat.le_refl _) _
  have HE : Hid (NewR w hd lim (.returned (.tuple #[.pointer (some ⟨w.heap.size, 0, none⟩), .int .i64 0])) (w.alloc (.cells #[.bool hd, .int .i64 (lim : Int), .slice none 0 0, .bool false, .int .i64 0, .func (.func 29) #[] #[], .bool false, .bool false, .bool false, .int .i64 0, .int .i64 0] 65))) := Lib.hid ⟨w.heap.size, Nat.le_refl _, rfl, hr, hb⟩
  clear hr hb hl
  go_enter Tryz.func18, Tryz.ntmps18
  go_wp2
  go_ret2
  exact HE.out
/-- what Feed leaves -/
def FeedR (w : World) (g : Nat) (hd : Bool) (lim : Nat) (bk : Option Nat) (s : HSt) (e : Ending) (w' : World) : Prop :=
  e = .returned (.int .i64 0) ∧ ∃ bk', RdS w' g hd lim bk' s ∧ Kept (fun k => k = g ∨ bk = some k) w w' ∧ (∀ k, bk' = some k → bk = some k ∨ w.heap.size ≤ k)
theorem RdS.app {w w' : World} {g lim : Nat} {hd : Bool} {bk : Option Nat} {s : HSt} {a : Option Addr} {n c : Nat} {xs : List UInt8} (h : RdS w g hd lim bk s) (hk : Kept (fun k => bk = some k) w w') (hbg : ∀ k, bk = some k → k ≠ g) (ht : Tl w' a n c (bv (s.b ++ xs))) (hw : ∀ ad, a = some ad → bk = some ad.block ∨ w.heap.size ≤ ad.block) :
    RdS (w'.setCell ⟨g, 2, none⟩ (.slice a n c)) g hd lim (a.map (·.block)) { s with b := s.b ++ xs } := by
  have hlt := h.lt
  obtain ⟨r, a0, n0, c0, hr, hbf, ht0, hne, hbk, rest⟩ := h.ex
  have hr' : Rd w' g r := Has.kept hr hk (fun e => hbg g e rfl)
  have hag : ∀ ad, a = some ad → ad.block ≠ g := fun ad ha e => by
    rcases hw ad ha with h1 | h1
    · exact hbg _ h1 e
    · omega
  exact ⟨{ r with bf := .slice a n c }, a, n, c, Rd.sets hr' 2 _ rfl, rfl, ht.kept (Kept.set w' g 2 _) hag, hag, rfl, rest⟩
theorem RdS.bk_ne {w : World} {g lim : Nat} {hd : Bool} {bk : Option Nat} {s : HSt} (h : RdS w g hd lim bk s) : ∀ k, bk = some k → k ≠ g := by
  obtain ⟨r, a0, n0, c0, hr, hbf, ht0, hne, hbk, rest⟩ := h.ex
  intro k hk
  rw [← hbk] at hk
  cases a0 with
  | none => cases hk
  | some ad =>
    simp only [Option.map_some, Option.some.injEq] at hk
    rw [← hk]; exact hne ad rfl
theorem RdS.bytes2 {w : World} {g lim : Nat} {hd : Bool} {bk : Option Nat} {s : HSt} (h : RdS w g hd lim bk s) : ∃ a c, w.cell? ⟨g, 2, none⟩ = some (.slice a s.b.length c) ∧ Tl w a s.b.length c (bv s.b) ∧ a.map (·.block) = bk := by
  obtain ⟨r, a, n, c, hr, hbf, ht, hne, hbk, _⟩ := h.ex
  have hl := ht.sl.byte
  subst hl
  exact ⟨a, c, by rw [← hbf]; exact hr.at 2 rfl, ht, hbk⟩
theorem bv_app (a b : List UInt8) : bv a ++ bv b = bv (a ++ b) := by simp [bv]
set_option maxRecDepth 100000 in
set_option maxHeartbeats 4000000 in
theorem feed_any (w : World) {g lim : Nat} {hd : Bool} {bk : Option Nat} {s : HSt} (h : RdS w g hd lim bk s) (hen : s.ended = false) {a : Option Addr} {n c : Nat} {xs : List UInt8} (hs : Sl w a n c (bv xs)) (hz : s.b.length + n ≤ 140737488355328) :
    Calls Tryz.prog 19 #[.pointer (some ⟨g, 0, none⟩), .slice a n c] w (FeedR w g hd lim bk { s with b := s.b ++ xs }) := by
  have c3 := h.enc
  rw [hen] at c3
  obtain ⟨a1, c1, c2, ht1, hbk⟩ := h.bytes2
  obtain ⟨k, hk⟩ : ∃ k, k = s.b.length := ⟨_, rfl⟩
  rw [← hk] at c2 ht1 hz
  obtain ⟨a', c', w', hr, ht', hg', hnw⟩ := run_app_tl (tyo := 23) ht1 hs (bv_one xs) hz
  rw [bv_app] at ht'
  have hkp : Kept (fun k => bk = some k) w w' := (Kept.of_grown hg').more (fun k _ e => by rw [← hbk]; cases a1 with
    | none => cases e
    | some ad => exact e)
  have hwh : ∀ ad, a' = some ad → bk = some ad.block ∨ w.heap.size ≤ ad.block := fun ad ha => by
    rcases hnw ad ha with ⟨x, hx, hb⟩ | h1
    · exact .inl (by rw [← hbk, hx, ← hb]; rfl)
    · exact .inr h1
  have hra := h.app hkp h.bk_ne ht' hwh
  have hr2 := h.keptX hkp (fun e => h.bk_ne g e rfl)
  obtain ⟨v2, d2⟩ : ∃ v, w'.cell? ⟨g, 2, none⟩ = some v := ⟨_, hkp.cell c2 (fun e => h.bk_ne g e rfl)⟩
  have f2 : w'.frozen? ⟨g, 2, none⟩ = false := by
    obtain ⟨r, a0, n0, c0, hr0, _⟩ := h.ex
    exact Has.free (Has.kept hr0 hkp (fun e => h.bk_ne g e rfl)) 2
  have HE : Hid (FeedR w g hd lim bk { s with b := s.b ++ xs } (.returned (.int .i64 0)) (w'.setCell ⟨g, 2, none⟩ (.slice a' (k + n) c'))) := Lib.hid ⟨rfl, _, hra, (hkp.more (fun k _ e => .inr e)).trans (Kept.set w' g 2 _) (fun k _ e => .inl e), fun k hk => by
    cases a' with
    | none => cases hk
    | some ad => cases hk; exact hwh ad rfl⟩
  obtain ⟨m, hm⟩ : ∃ m, m = k + n := ⟨_, rfl⟩
  rw [← hm] at hr HE
  clear h hen ht1 hk hs hz ht' hg' hnw hkp hwh hra hr2 hm hbk
  go_enter Tryz.func19, Tryz.ntmps19
  go_wp2_with (at_builtin; refine Lib.wpList_append_run _ rfl _ _ _ _ rfl (.slice a1 k c1) (.slice a n c) rfl rfl _ _ hr ?_)
  go_wp2
  go_ret
  exact HE.out
def EndedR (w : World) (g : Nat) (hd : Bool) (lim : Nat) (bk : Option Nat) (s : HSt) (e : Ending) (w' : World) : Prop :=
  e = .returned (.int .i64 0) ∧ RdS w' g hd lim bk s ∧ Kept (fun k => k = g) w w'
theorem RdS.en3 {w : World} {g lim : Nat} {hd : Bool} {bk : Option Nat} {s : HSt} (h : RdS w g hd lim bk s) (b : Bool) : RdS (w.setCell ⟨g, 3, none⟩ (.bool b)) g hd lim bk { s with ended := b } :=
  h.sets 3 _ rfl (fun r h1 h2 _ h4 h5 h6 h7 h8 h9 => ⟨{ r with en := b }, rfl, rfl, h1, h2, rfl, h4, h5, h6, h7, h8, h9⟩)
set_option maxRecDepth 100000 in
theorem ended_any (w : World) {g lim : Nat} {hd : Bool} {bk : Option Nat} {s : HSt} (h : RdS w g hd lim bk s) (hen : s.ended = false) :
    Calls Tryz.prog 22 #[.pointer (some ⟨g, 0, none⟩)] w (EndedR w g hd lim bk { s with ended := true }) := by
  have c3 := h.enc
  rw [hen] at c3
  have f3 := h.free 3
  have HE : Hid (EndedR w g hd lim bk { s with ended := true } (.returned (.int .i64 0)) (w.setCell ⟨g, 3, none⟩ (.bool true))) := Lib.hid ⟨rfl, h.en3 true, Kept.set w g 3 _⟩
  clear h hen
  go_enter Tryz.func22, Tryz.ntmps22
  go_wp2
  go_ret
  exact HE.out
set_option maxRecDepth 100000 in
theorem done_any (w : World) {g lim : Nat} {hd : Bool} {bk : Option Nat} {s : HSt} (h : RdS w g hd lim bk s) : Calls Tryz.prog 23 #[.pointer (some ⟨g, 0, none⟩)] w (Ret w (.bool s.done)) := by
  have c6 := h.dn
  obtain ⟨d, hd⟩ : ∃ d, d = s.done := ⟨_, rfl⟩
  rw [← hd] at c6 ⊢
  clear h hd
  go_enter Tryz.func23, Tryz.ntmps23
  go_wp2
  go_ret
  exact ⟨rfl, rfl⟩
set_option maxRecDepth 100000 in
theorem left_any (w : World) {g lim : Nat} {hd : Bool} {bk : Option Nat} {s : HSt} (h : RdS w g hd lim bk s) : Calls Tryz.prog 24 #[.pointer (some ⟨g, 0, none⟩)] w (Ret w (.int .i64 (s.b.length : Int))) := by
  obtain ⟨a, c, c2, _⟩ := h.bytes
  obtain ⟨k, hk⟩ : ∃ k, k = s.b.length := ⟨_, rfl⟩
  rw [← hk] at c2 ⊢
  clear h hk
  go_enter Tryz.func24, Tryz.ntmps24
  go_wp2
  go_ret
  exact ⟨rfl, rfl⟩
end Go.Proofs.YtfffefhchjnfjaaGreatDoor

/- hone.fields. Conditions: the sizes, the library's variables. -/
import Derived.Test.YtfffefhchjnfjaaGreatDoorHoFld
namespace Go.Proofs.YtfffefhchjnfjaaGreatDoor
open Go.RowKit

theorem sv_append : ∀ a b : List Fd, sv (a ++ b) = sv a ++ sv b
  | [], _ => rfl
  | x :: r, b => by simp [sv, sv_append r b]
/-- a field appended to fields of one's own, however many -/
theorem app_fdB {B : Nat} {w : World} {tyo : TypeId} {a1 : Option Addr} {c1 n : Nat} {l : List Fd} (p : Fd) (hown : Sps w B a1 c1 l) (hn : l.length = n) (hsz : n ≤ 1099511627776) (hBw : B ≤ w.heap.size) :
    ∃ a' c' w', (Builtin.append_ #[22, 22] tyo #[.slice a1 n c1, .slice (some ⟨w.heap.size, 0, none⟩) 1 1]).run Tryz.prog (w.alloc (.cells #[.string p.nm, .string p.va] 58)) = .ok (.slice a' (n + 1) c') w' ∧ Sps w' B a' c' (l ++ [p]) ∧ Below B w w' := by
  obtain ⟨i, hi, h1, h2, h3⟩ := info_parts infoFld
  subst hn
  have hal : Below w.heap.size w (w.alloc (.cells #[.string p.nm, .string p.va] 58)) := (Below.refl _ w).alloc (Nat.le_refl _) _
  have hcell : ∀ j u, (scells p)[j]? = some u → (w.alloc (.cells #[.string p.nm, .string p.va] 58)).cell? ((⟨w.heap.size, 0, none⟩ : Addr).add j) = some u := by
    intro j u hu
    rw [addr_add, Nat.zero_add]
    exact (Has.new w 58 #[.string p.nm, .string p.va]).cell j hu
  have e : sv (l ++ [p]) = sv l ++ scells p := by rw [sv_append]; simp [sv]
  obtain ⟨a', c', w', hr, ho, hg, hnew⟩ := run_app_s (P := Tryz.prog) Tryz.underlying22 hi h1 h2 h3 rfl (by decide) (tyo := tyo) (own_below hown hal) (by rfl) hcell (fun u hu => by simp [scells] at hu; rcases hu with rfl | rfl <;> rfl) (n2 := 1) (c2 := 1) (by decide) (by omega) (by unfold maxLen; omega) (Nat.le_trans hBw hal.size)
  refine ⟨a', c', w', hr, ?_, (hal.mono hBw).grown hg (Nat.le_trans hBw hal.size) (fun k hk => (hown.lt k hk).1)⟩
  unfold Sps
  rw [e, List.length_append]
  exact ho
/-- texts as cells -/
def sB (ps : List (List UInt8)) : List Value := ps.map fun p => .string (strB p)
theorem sB_get (ps : List (List UInt8)) (i : Nat) (h : i < ps.length) : (sB ps)[i]? = some (.string (strB ps[i])) := by simp [sB, h]
def Ex.pre (done : List Fd) : Ex (List Fd) → Ex (List Fd)
  | .ok l => .ok (done ++ l)
  | .bad e => .bad e
theorem pre_nil (x : Ex (List Fd)) : Ex.pre [] x = x := by cases x <;> rfl
theorem flsH_ok {l : List UInt8} {r : List (List UInt8)} {f : Fd} (done : List Fd) (h : fieldH l = .ok f) : Ex.pre done (fieldsH (l :: r)) = Ex.pre (done ++ [f]) (fieldsH r) := by
  rw [fieldsH, h]
  simp only
  cases fieldsH r <;> simp [Ex.pre]
theorem flsH_bad {l : List UInt8} {r : List (List UInt8)} {e : Int} (done : List Fd) (h : fieldH l = .bad e) : Ex.pre done (fieldsH (l :: r)) = .bad e := by
  rw [fieldsH, h]; rfl
/-- what fields answers -/
def FlsR (w : World) (x : Ex (List Fd)) (e : Ending) (w' : World) : Prop :=
  match x with
  | .ok l => ∃ a c, e = .returned (.tuple #[.slice a l.length c, .int .i64 0]) ∧ Sps w' w.heap.size a c l ∧ Below w.heap.size w w'
  | .bad c => e = .returned (.tuple #[.slice none 0 0, .int .i64 c]) ∧ Below w.heap.size w w'
theorem FlsR.ok {w w' : World} {x : Ex (List Fd)} {l : List Fd} {a : Option Addr} {k c : Nat} (h : x = .ok l) (hk : k = l.length) (hs : Sps w' w.heap.size a c l) (hb : Below w.heap.size w w') : FlsR w x (.returned (.tuple #[.slice a k c, .int .i64 0])) w' := by
  subst h hk; exact ⟨a, c, rfl, hs, hb⟩
theorem FlsR.bad {w w' : World} {x : Ex (List Fd)} {c : Int} (h : x = .bad c) (hb : Below w.heap.size w w') : FlsR w x (.returned (.tuple #[.slice none 0 0, .int .i64 c])) w' := by subst h; exact ⟨rfl, hb⟩
theorem hfj1 {i n c : Nat} (h : i < n) (h2 : n ≤ c) (h3 : c ≤ maxLen) : (i : Int) < (n : Int) ∧ RowKit.wrap64 ((i : Int) + 1) = (i : Int) + 1 := ⟨by omega, wrap_up h h2 h3⟩
theorem field_bad_ne {x : Int} (h : x ≠ 0) : (x != 0) = true ∧ ¬ x = 0 := ⟨by simpa using h, h⟩
set_option maxRecDepth 100000 in
set_option maxHeartbeats 4000000 in
theorem fields_any (w : World) (ht : Tab w) {a : Option Addr} {n c : Nat} {ls : List (List UInt8)} (h : Sl w a n c (sB ls)) (hn : n ≤ 1099511627776) (hz : ∀ l ∈ ls, l.length < 4294967281) : Calls Tryz.prog 34 #[.slice a n c] w (FlsR w (fieldsH ls)) := by
  have hl : ls.length = n := by have := h.len; simpa [sB] using this
  obtain ⟨F, hF⟩ : ∃ F, F = fieldsH ls := ⟨_, rfl⟩
  rw [← hF]
  have HF := Lib.hid hF
  have HS := Lib.hid h
  have HL := Lib.hid hl
  have HT := Lib.hid ht
  have HZ := Lib.hid hz
  have HN := Lib.hid hn
  clear h hl ht hz hn hF
  go_enter Tryz.func34, Tryz.ntmps34
  go_wp2_with fail
  go_loopw [4, 11] (fun ov v wr => ∃ (i k : Nat) (done : List Fd) (a' : Option Addr) (c' : Nat), v = .int .i64 (i : Int) ∧ ov = .slice a' k c' ∧ i ≤ n ∧ k ≤ i ∧ Hid (k = done.length) ∧ Hid (F = Ex.pre done (fieldsH (ls.drop i))) ∧ Sps wr w.heap.size a' c' done ∧ Below w.heap.size w wr) (fun _ v _ => n - (intOf v).toNat)
  case atStart => exact ⟨0, 0, [], none, 0, rfl, rfl, Nat.zero_le _, Nat.le_refl _, Lib.hid rfl, Lib.hid (by rw [pre_nil, List.drop_zero]; exact HF.out), World.ownsRow_nil _ _ _ _, Below.refl _ _⟩
  case round =>
    obtain ⟨i, k, done, a', c', rfl, rfl, hi, hki, HK, HFi, hs, hb⟩ := hrel
    have HSp := Lib.hid hs
    have HBr := Lib.hid hb
    have HKi := Lib.hid hki
    by_cases hin : i < n
    · have HI := Lib.hid hin
      obtain ⟨z1, z2⟩ := hfj1 hin HS.out.cap_le HS.out.cap_max
      have hil : i < ls.length := by rw [HL.out]; exact hin
      obtain ⟨bb, off, rfl, hcs⟩ := HS.out.cells (Nat.lt_of_le_of_lt (Nat.zero_le _) hin)
      have hci : wr.cell? ⟨bb, off + i, none⟩ = some (.string (strB ls[i])) := by
        have hci0 := hcs i hin
        rw [sB_get ls i hil] at hci0
        rw [hb.cell (World.block_lt_of_cell? w _ hci0)]; exact hci0
      have hdr : ls.drop i = ls[i] :: ls.drop (i + 1) := List.drop_eq_getElem_cons hil
      have hzi := HZ.out ls[i] (List.getElem_mem _)
      obtain ⟨x, hx⟩ : ∃ x, x = ls[i] := ⟨_, rfl⟩
      rw [← hx] at hci hdr hzi
      have hFd := field_any wr (HT.out.below hb) x hzi
      have HW := Lib.hid z2
      obtain ⟨S, hS⟩ : ∃ S, S = strB x := ⟨_, rfl⟩
      rw [← hS] at hci hFd
      cases hf : fieldH x with
      | bad e1 =>
        rw [hf] at hFd
        have HFd := Lib.hid hFd
        have HFe : Hid (F = .bad e1) := Lib.hid (by rw [HFi.out, hdr, flsH_bad done hf])
        obtain ⟨y1, y2⟩ := field_bad_ne (fieldH_ne hf)
        clear hcs hdr hzi hx hS hFd hf hin hi hki hs hb hil
        go_wp2_with fail
        refine HFd.out.mono ?_
        rintro e w3 ⟨rfl, hb3⟩
        have HB3 : Hid (Below w.heap.size w (w3.alloc (.cells #[.string ⟨#[]⟩, .string ⟨#[]⟩] 58))) := Lib.hid ((HBr.out.trans (hb3.mono HBr.out.size)).alloc (HBr.out.trans (hb3.mono HBr.out.size)).size _)
        clear hb3
        go_wp2
        go_ret2
        exact FlsR.bad HFe.out HB3.out
      | ok f =>
        obtain ⟨nm, va⟩ := f
        rw [hf] at hFd
        have HFd := Lib.hid hFd
        have HFe : Hid (F = Ex.pre (done ++ [⟨nm, va⟩]) (fieldsH (ls.drop (i + 1)))) := Lib.hid (by rw [HFi.out, hdr, flsH_ok done hf])
        clear hcs hdr hzi hx hS hFd hf hin hi hki hs hb hil HFi
        go_wp2_with fail
        refine HFd.out.mono ?_
        rintro e w4 ⟨rfl, hb4⟩
        have HB4 : Hid (Below w.heap.size w w4) := Lib.hid (HBr.out.trans (hb4.mono HBr.out.size))
        have HSp4 : Hid (Sps w4 w.heap.size a' c' done) := Lib.hid (own_below HSp.out hb4)
        clear hb4 HFd
        go_upto_region 6 with fail
        obtain ⟨w5, hw5⟩ : ∃ w5, w5 = w4.alloc (.cells #[.string nm, .string va] 58) := ⟨_, rfl⟩
        obtain ⟨g5, hg5⟩ : ∃ g5, g5 = w4.heap.size := ⟨_, rfl⟩
        have hb5 : Below w4.heap.size w4 w5 := by rw [hw5]; exact (Below.refl _ w4).alloc (Nat.le_refl _) _
        have hh5 : Has w5 g5 58 [.string nm, .string va] := by rw [hw5, hg5]; exact Has.new w4 58 #[.string nm, .string va]
        have HB5 : Hid (Below w.heap.size w w5) := Lib.hid (HB4.out.trans (hb5.mono HB4.out.size))
        have HSp5 : Hid (Sps w5 w.heap.size a' c' done) := Lib.hid (own_below HSp4.out hb5)
        have q0 : w5.cell? ⟨g5, 0, none⟩ = some (.string nm) := hh5.cell 0 rfl
        have q1 : w5.cell? ⟨g5, 1, none⟩ = some (.string va) := hh5.cell 1 rfl
        rw [← hw5, ← hg5]
        clear hw5 hg5 hb5 hh5 hci
        obtain ⟨a6, c6, w6, hr6, hsp6, hb6⟩ := app_fdB (tyo := 22) ⟨nm, va⟩ HSp5.out HK.out.symm (Nat.le_trans HKi.out (Nat.le_trans (Nat.le_of_lt HI.out) HN.out)) HB5.out.size
        have HSp6 := Lib.hid hsp6
        have HB6 : Hid (Below w.heap.size w w6) := Lib.hid (HB5.out.trans hb6)
        clear hsp6 hb6
        go_wp2_with (at_builtin; refine Lib.wpList_append_run _ rfl _ _ _ _ rfl (.slice a' k c') (.slice (some ⟨w5.heap.size, 0, none⟩) 1 1) rfl rfl _ _ hr6 ?_)
        clear hr6
        go_wp2_with fail
        go_roundw
        case rel => exact ⟨i + 1, k + 1, done ++ [⟨nm, va⟩], a6, c6, by rw [HW.out]; push_cast; rfl, rfl, HI.out, Nat.succ_le_succ HKi.out, Lib.hid (by rw [List.length_append, ← HK.out]; rfl), HFe, HSp6.out, HB6.out⟩
        case measure => rw [HW.out]; exact meas_up HI.out
    · have hil : ¬ (i : Int) < (n : Int) := by omega
      have HFe : Hid (F = .ok done) := Lib.hid (by rw [HFi.out, List.drop_eq_nil_of_le (by rw [HL.out]; omega)]; simp [fieldsH, Ex.pre])
      clear hs hb hi hki hin
      go_wp2
      go_ret2
      exact FlsR.ok HFe.out HK.out HSp.out HBr.out
end Go.Proofs.YtfffefhchjnfjaaGreatDoor

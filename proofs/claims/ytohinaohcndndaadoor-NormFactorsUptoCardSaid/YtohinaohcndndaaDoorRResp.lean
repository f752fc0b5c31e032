/- turnpikeref19.Response: what a client is told of a response. Conditions: the sizes. -/
import Derived.Test.YtohinaohcndndaaDoorPieces
import Derived.Test.YtohinaohcndndaaDoorDigits
import Derived.Test.YtohinaohcndndaaDoorFldOpen
namespace Go.Proofs.YtohinaohcndndaaDoor
open Go.RowKit

def connN : List UInt8 := [99, 111, 110, 110, 101, 99, 116, 105, 111, 110]
def gone0 : List (List UInt8) := [connN, [107, 101, 101, 112, 45, 97, 108, 105, 118, 101], [112, 114, 111, 120, 121, 45, 99, 111, 110, 110, 101, 99, 116, 105, 111, 110], [116, 114, 97, 110, 115, 102, 101, 114, 45, 101, 110, 99, 111, 100, 105, 110, 103], [117, 112, 103, 114, 97, 100, 101]]
def goneF (f : Fd) : List (List UInt8) := if smallL (bl f.nm) = connN then piecesL (bl f.va) else []
def goneL (fs : List Fd) : List (List UInt8) := gone0 ++ fs.flatMap goneF
def outF (g : List (List UInt8)) (f : Fd) : List Fd := if smallL (bl f.nm) ∈ g then [] else [⟨strB (smallL (bl f.nm)), f.va⟩]
def statF (st : Int) : Fd := ⟨strB [58, 115, 116, 97, 116, 117, 115], strB (Lib.itoa st)⟩
def viaF : Fd := ⟨strB [118, 105, 97], strB [49, 46, 49, 32, 116, 117, 114, 110, 112, 105, 107, 101]⟩
/-- what a client is told, the error -/
def respL (st : Int) (fs : List Fd) : List Fd × Int := if st < 100 ∨ 599 < st then ([], 200) else (([statF st] ++ fs.flatMap (outF (goneL fs))) ++ [viaF], 0)
theorem flat_take {α β : Type} (f : α → List β) (l : List α) (i : Nat) (h : i < l.length) : (l.take (i + 1)).flatMap f = (l.take i).flatMap f ++ f l[i] := by
  rw [List.take_succ_eq_append_getElem h, List.flatMap_append]; simp
theorem flat_le {α β : Type} (f : α → List β) (l : List α) (i : Nat) : ((l.take i).flatMap f).length ≤ (l.flatMap f).length := by
  have h : l.flatMap f = (l.take i).flatMap f ++ (l.drop i).flatMap f := by rw [← List.flatMap_append, List.take_append_drop]
  rw [h, List.length_append]; omega
theorem goneF_le (f : Fd) : (goneF f).length ≤ f.va.size + 1 := by
  unfold goneF
  split
  · simp only [piecesL, List.length_map]
    have := cuts_len 44 (bl f.va)
    rw [← bl_size] at this
    exact this
  · simp
theorem gone_le : ∀ fs : List Fd, (fs.flatMap goneF).length ≤ fdz fs
  | [] => Nat.le_refl _
  | f :: r => by
    have h1 := goneF_le f
    have h2 := gone_le r
    rw [List.flatMap_cons, List.length_append]
    simp only [fdz]
    omega
theorem goneL_le {fs : List Fd} (h : fdz fs ≤ 1048576) : (goneL fs).length ≤ 1048581 := by
  have h1 := gone_le fs
  simp only [goneL, List.length_append]
  have : gone0.length = 5 := rfl
  omega
theorem outF_le (g : List (List UInt8)) (f : Fd) : (outF g f).length ≤ 1 := by unfold outF; split <;> simp
theorem out_le (g : List (List UInt8)) : ∀ fs : List Fd, (fs.flatMap (outF g)).length ≤ fs.length
  | [] => Nat.le_refl _
  | f :: r => by
    have h1 := outF_le g f
    have h2 := out_le g r
    rw [List.flatMap_cons, List.length_append, List.length_cons]
    omega
theorem fdz_at : ∀ (fs : List Fd) (i : Nat) (h : i < fs.length), fs[i].nm.size + fs[i].va.size ≤ fdz fs
  | f :: r, 0, _ => by simp only [List.getElem_cons_zero, fdz]; omega
  | f :: r, i + 1, h => by
    have := fdz_at r i (by simpa using h)
    simp only [List.getElem_cons_succ, fdz]; omega
theorem sv_append : ∀ a b : List Fd, sv (a ++ b) = sv a ++ sv b
  | [], _ => rfl
  | x :: r, b => by simp [sv, sv_append r b]
/-- a field appended to fields of one's own -/
theorem app_fd {B : Nat} {w : World} {tyo : TypeId} {a1 : Option Addr} {c1 n : Nat} {l : List Fd} (p : Fd) (hown : Sps w B a1 c1 l) (hn : l.length = n) (hsz : n ≤ 2097152) (hBw : B ≤ w.heap.size) :
    ∃ a' c' w', (Builtin.append_ #[22, 22] tyo #[.slice a1 n c1, .slice (some ⟨w.heap.size, 0, none⟩) 1 1]).run Tryd.prog (w.alloc (.cells #[.string p.nm, .string p.va] 64)) = .ok (.slice a' (n + 1) c') w' ∧ Sps w' B a' c' (l ++ [p]) ∧ Below B w w' ∧ Kept (fun k => Value.ownBlock (.slice a1 n c1) = some k) w w' := by
  obtain ⟨i, hi, h1, h2, h3⟩ := info_parts infoFld
  subst hn
  have hal : Below w.heap.size w (w.alloc (.cells #[.string p.nm, .string p.va] 64)) := (Below.refl _ w).alloc (Nat.le_refl _) _
  have hcell : ∀ j u, (scells p)[j]? = some u → (w.alloc (.cells #[.string p.nm, .string p.va] 64)).cell? ((⟨w.heap.size, 0, none⟩ : Addr).add j) = some u := by
    intro j u hu
    rw [addr_add, Nat.zero_add]
    exact (Has.new w 64 #[.string p.nm, .string p.va]).cell j hu
  have e : sv (l ++ [p]) = sv l ++ scells p := by rw [sv_append]; simp [sv]
  obtain ⟨a', c', w', hr, ho, hg, hnew⟩ := run_app_s (P := Tryd.prog) Tryd.underlying22 hi h1 h2 h3 rfl (by decide) (tyo := tyo) (own_below hown hal) (by rfl) hcell (fun u hu => by simp [scells] at hu; rcases hu with rfl | rfl <;> rfl) (n2 := 1) (c2 := 1) (by decide) (by omega) (by unfold maxLen; omega) (Nat.le_trans hBw hal.size)
  refine ⟨a', c', w', hr, ?_, (hal.mono hBw).grown hg (Nat.le_trans hBw hal.size) (fun k hk => (hown.lt k hk).1), (Kept.alloc _ w _).trans (Kept.of_grown hg) (fun _ _ h => h)⟩
  unfold Sps
  rw [e, List.length_append]
  exact ho
theorem own_own {w : World} {B B' e e' s s' : Nat} {v v' : Value} {n n' : Nat} {xs xs' : List Value} (h : w.ownsRow B e s v n xs) (h2 : w.ownsRow B' e' s' v' n' xs') (he : e ≠ e') : ∀ k, v.ownBlock = some k → ¬ v'.ownBlock = some k := by
  intro k hk hk2
  rcases h.2 with ⟨hv, _⟩ | ⟨g, cap, cur, hv, hB, hg, _⟩
  · rw [hv] at hk; cases hk
  · rcases h2.2 with ⟨hv2, _⟩ | ⟨g2, cap2, cur2, hv2, hB2, hg2, _⟩
    · rw [hv2] at hk2; cases hk2
    · rw [hv] at hk
      rw [hv2] at hk2
      simp only [Value.ownBlock, Option.some.injEq] at hk hk2
      rw [hk] at hg
      rw [hk2] at hg2
      rw [hg] at hg2
      simp only [Option.some.injEq, Obj.cells.injEq] at hg2
      exact he hg2.2.1
/-- fields new in memory -/
theorem sps_one (w : World) (p : Fd) : Sps (w.alloc (.cells #[.string p.nm, .string p.va] 64)) w.heap.size (some ⟨w.heap.size, 0, none⟩) 1 [p] := by
  refine ⟨rfl, .inr ⟨w.heap.size, 1, _, rfl, Nat.le_refl _, heap_alloc_new w _, Nat.le_refl _, (by unfold maxLen; show (1 : Nat) ≤ _; omega), rfl, rfl⟩⟩
/-- texts new in memory -/
theorem strs_new (w : World) (ps : List (List UInt8)) (h : ps.length ≤ 1000) : (w.alloc (.cells (sB ps).toArray 9)).ownsRow w.heap.size 9 1 (.slice (some ⟨w.heap.size, 0, none⟩) ps.length ps.length) ps.length (sB ps) := by
  refine ⟨by simp [sB], .inr ⟨w.heap.size, ps.length, _, rfl, Nat.le_refl _, heap_alloc_new w _, Nat.le_refl _, by unfold maxLen; omega, by simp [sB], by simp [sB, List.take_of_length_le]⟩⟩
/-- fields in new memory, an error -/
def FldE (w : World) (r : List Fd × Int) (e : Ending) (w' : World) : Prop := ∃ a c, e = .returned (.tuple #[.slice a r.1.length c, .int .i64 r.2]) ∧ Sps w' w.heap.size a c r.1 ∧ Below w.heap.size w w'

theorem inj1 {i n : Nat} (h : i < n) (hn : n ≤ 9223372036854775807) : ((i : Int) < (n : Int)) = True ∧ RowKit.wrap64 ((i : Int) + 1) = ((i + 1 : Nat) : Int) ∧ IntKind.i64.wrap ((i : Int) + 1) = ((i + 1 : Nat) : Int) := by
  refine ⟨eq_true (by omega), ?_, ?_⟩
  · unfold RowKit.wrap64; omega
  · rw [IntKind.wrap_i64]; omega
theorem inj2 {i n : Nat} (h : ¬ i < n) : ((i : Int) < (n : Int)) = False := eq_false (by omega)
theorem sl_le {w : World} {a : Option Addr} {n c : Nat} {xs : List Value} (h : Sl w a n c xs) : n ≤ 9223372036854775807 := by have := h.cap_le; have := h.cap_max; unfold maxLen at this; omega
set_option maxRecDepth 100000 in
theorem rin_any (w : World) {a : Option Addr} {n c : Nat} {ps : List (List UInt8)} (h : Sl w a n c (sB ps)) (x : List UInt8) : Calls Tryd.prog 58 #[.slice a n c, .string (strB x)] w fun e w' => e = .returned (.bool (decide (x ∈ ps))) ∧ w' = w := by
  have hl : ps.length = n := by have := h.len; simpa [sB] using this
  have HM := Lib.hid (sl_le h)
  have HS := Lib.hid h
  have HL := Lib.hid hl
  obtain ⟨R, hR⟩ : ∃ R, R = decide (x ∈ ps) := ⟨_, rfl⟩
  rw [← hR]
  have HR := Lib.hid hR
  clear h hl hR
  go_enter Tryd.func58, Tryd.ntmps58
  go_wp2_with fail
  go_loopw [5] (fun v wr => ∃ i : Nat, v = .int .i64 (i : Int) ∧ i ≤ n ∧ (∀ p ∈ ps.take i, ¬ x = p) ∧ wr = w) (fun v _ => n - (intOf v).toNat)
  case atStart => exact ⟨0, rfl, Nat.zero_le _, by simp, rfl⟩
  case round =>
    obtain ⟨i, rfl, hi, hno, rfl⟩ := hrel
    have HNo := Lib.hid hno
    clear hno
    by_cases hin : i < n
    · have HI := Lib.hid hin
      obtain ⟨z1, z2, z3⟩ := inj1 hin HM.out
      have hil : i < ps.length := by rw [HL.out]; exact hin
      obtain ⟨b, o, rfl, hc⟩ := HS.out.cells (Nat.lt_of_le_of_lt (Nat.zero_le _) hin)
      have c0 : wr.cell? ⟨b, o + i, none⟩ = some (.string (strB ps[i])) := by rw [hc i hin]; simp [sB, hil]
      obtain ⟨p, hp⟩ : ∃ p, p = ps[i] := ⟨_, rfl⟩
      rw [← hp] at c0
      have HTk : Hid (ps.take (i + 1) = ps.take i ++ [p]) := Lib.hid (by rw [hp]; exact List.take_succ_eq_append_getElem hil)
      have HPm : Hid (p ∈ ps) := Lib.hid (by rw [hp]; exact List.getElem_mem _)
      clear hi hin hil hc hp
      by_cases hx : x = p
      · have e1 : ((strB p).toList == (strB x).toList) = true := by rw [hx]; exact beq_self_eq_true _
        obtain rfl : R = true := by rw [HR.out, hx]; exact decide_eq_true HPm.out
        clear hx
        go_wp2
        go_ret
        exact ⟨rfl, rfl⟩
      · have e1 : ((strB p).toList == (strB x).toList) = false := by
          rw [beq_eq_false_iff_ne, ByteArray.toList_eq, ByteArray.toList_eq]
          exact fun e => hx e.symm
        have HNo2 : Hid (∀ q ∈ ps.take (i + 1), ¬ x = q) := Lib.hid (fun q hq => by
          rw [HTk.out] at hq
          rcases List.mem_append.1 hq with hq | hq
          · exact HNo.out q hq
          · simp at hq; subst hq; exact hx)
        clear hx
        go_wp2_with fail
        go_roundw
        case rel => exact ⟨i + 1, by first | rfl | (push_cast; rfl), HI.out, HNo2.out, by trivial⟩
        case measure => exact nbj3 HI.out
    · have z1 := inj2 hin
      obtain rfl : R = false := by
        rw [HR.out]
        refine decide_eq_false fun hm => ?_
        have e : ps.take i = ps := List.take_of_length_le (by rw [HL.out]; exact Nat.le_of_not_lt hin)
        exact HNo.out x (by rw [e]; exact hm) rfl
      clear hi hin
      go_wp2
      go_ret
      exact ⟨rfl, rfl⟩
theorem rsj1 {st : Int} (h : ¬ (st < 100 ∨ 599 < st)) : (st < 100) = False ∧ (599 < st) = False ∧ ∃ n : Nat, st = (n : Int) ∧ n < 4611686018427387904 := ⟨eq_false (by omega), eq_false (by omega), st.toNat, by omega, by omega⟩
theorem rsj2 {a n m : Nat} (h : a ≤ n) (hn : n ≤ m) (hm : m ≤ 1048581) : (a + (n - a)) * 16 ≤ 140737488355328 ∧ a + (n - a) ≤ maxLen := by unfold maxLen; omega
theorem rsj3 {a b n : Nat} (h : a + b ≤ n) (hm : n ≤ 1048581) : (a + b) * 16 ≤ 140737488355328 ∧ a + b ≤ maxLen := by unfold maxLen; omega
theorem rsj4 {a n : Nat} (h : a ≤ n) (hm : n ≤ 1048576) : 1 + a ≤ 2097152 ∧ 1 + a ≤ 1048577 := by omega
theorem itoa_nat (n : Nat) : Lib.itoa (n : Int) = Lib.decDigits n := by
  unfold Lib.itoa
  rw [if_neg (by omega)]
  rfl
set_option maxRecDepth 100000 in
set_option maxHeartbeats 4000000 in
theorem rresp_any (w : World) (st : Int) {a : Option Addr} {n c : Nat} {fs : List Fd} (h : SlS w a n c fs) (hz : fdz fs ≤ 1048576) : Calls Tryd.prog 29 #[.int .i64 st, .slice a n c] w (FldE w (respL st fs)) := by
  obtain ⟨R, hR⟩ : ∃ R, R = respL st fs := ⟨_, rfl⟩
  rw [← hR]
  by_cases hst : st < 100 ∨ 599 < st
  · obtain rfl : R = ([], 200) := by rw [hR, respL, if_pos hst]
    have e : FldE w ([], 200) (.returned (.tuple #[.slice none 0 0, .int .i64 200])) w := ⟨none, 0, rfl, World.ownsRow_nil _ _ _ _, Below.refl _ _⟩
    have HE := Lib.hid e
    clear h hz hR e
    by_cases h1 : st < 100
    · have y1 : (st < 100) = True := eq_true h1
      clear hst h1
      go_enter Tryd.func29, Tryd.ntmps29
      go_wp2
      go_ret2
      exact HE.out
    · have y1 : (st < 100) = False := eq_false h1
      have y2 : (599 < st) = True := eq_true (hst.resolve_left h1)
      clear hst h1
      go_enter Tryd.func29, Tryd.ntmps29
      go_wp2
      go_ret2
      exact HE.out
  obtain ⟨y1, y2, q, rfl, hq⟩ := rsj1 hst
  have HR : Hid (R = (([statF (q : Int)] ++ fs.flatMap (outF (goneL fs))) ++ [viaF], 0)) := Lib.hid (by rw [hR, respL, if_neg hst])
  have HS := Lib.hid h
  have HL := Lib.hid h.len
  have HZ := Lib.hid hz
  have HNn : Hid (n ≤ 1048576) := Lib.hid (by rw [← h.len]; exact Nat.le_trans (fdz_len fs) hz)
  have HGl := Lib.hid (goneL_le hz)
  have HQ := Lib.hid hq
  clear h hz hR hst hq
  go_enter Tryd.func29, Tryd.ntmps29
  go_upto_region 4 with fail
  obtain ⟨w1, hw1⟩ : ∃ w1, w1 = w.alloc (.cells (sB gone0).toArray 9) := ⟨_, rfl⟩
  have HO1 : Hid (w1.ownsRow w.heap.size 9 1 (.slice (some ⟨w.heap.size, 0, none⟩) 5 5) 5 (sB gone0)) := Lib.hid (by rw [hw1]; exact strs_new w gone0 (by decide))
  have HB1 : Hid (Below w.heap.size w w1) := Lib.hid (by rw [hw1]; exact (Below.refl _ w).alloc (Nat.le_refl _) _)
  have HW1 : Hid (w.alloc (.cells #[.string ⟨#[99, 111, 110, 110, 101, 99, 116, 105, 111, 110]⟩, .string ⟨#[107, 101, 101, 112, 45, 97, 108, 105, 118, 101]⟩, .string ⟨#[112, 114, 111, 120, 121, 45, 99, 111, 110, 110, 101, 99, 116, 105, 111, 110]⟩, .string ⟨#[116, 114, 97, 110, 115, 102, 101, 114, 45, 101, 110, 99, 111, 100, 105, 110, 103]⟩, .string ⟨#[117, 112, 103, 114, 97, 100, 101]⟩] 9) = w1) := Lib.hid (by rw [hw1]; rfl)
  have HBs1 : Hid (w.heap.size ≤ w1.heap.size) := Lib.hid HB1.out.size
  rw [HW1.out]
  obtain ⟨g0, hg0⟩ : ∃ g0, g0 = w.heap.size := ⟨_, rfl⟩
  have HG0 := Lib.hid hg0
  rw [← hg0] at HO1
  rw [← hg0]
  clear hw1 hg0
  go_wp2_with fail
  go_loopw [6, 7] (fun gv v wr => ∃ (i m : Nat) (G : List (List UInt8)) (a' : Option Addr) (c' : Nat), v = .int .i64 (i : Int) ∧ i ≤ n ∧ gv = .slice a' m c' ∧ Hid (m = G.length) ∧ Hid (G = gone0 ++ (fs.take i).flatMap goneF) ∧ wr.ownsRow w.heap.size 9 1 (.slice a' m c') m (sB G) ∧ Below w.heap.size w wr) (fun _ v _ => n - (intOf v).toNat)
  case atStart => exact ⟨0, 5, gone0, _, 5, rfl, Nat.zero_le _, rfl, Lib.hid rfl, Lib.hid (by simp), by rw [← HG0.out]; exact HO1.out, HB1.out⟩
  case round =>
    obtain ⟨i, m, G, a', c', rfl, hi, rfl, HM, HG, ho, hbw⟩ := hrel
    have HO := Lib.hid ho
    have HBw := Lib.hid hbw
    have HBs : Hid (w.heap.size ≤ wr.heap.size) := Lib.hid hbw.size
    clear ho hbw HO1 HB1 HW1 HBs1 HG0
    by_cases hin : i < n
    · have HI := Lib.hid hin
      obtain ⟨z1, z2, z3⟩ := inj1 hin (Nat.le_trans HNn.out (by decide))
      have hil : i < fs.length := by rw [HL.out]; exact hin
      obtain ⟨b, o, rfl, hc⟩ := HS.out.cells (Nat.lt_of_le_of_lt (Nat.zero_le _) hin)
      obtain ⟨p0, p1⟩ := hc i hil
      rw [← HBw.out.cell (World.block_lt_of_cell? _ _ p0)] at p0
      rw [← HBw.out.cell (World.block_lt_of_cell? _ _ p1)] at p1
      have htk := flat_take goneF fs i hil
      have hfz := fdz_at fs i hil
      have hgl := flat_le goneF fs (i + 1)
      obtain ⟨f, hf⟩ : ∃ f, f = fs[i] := ⟨_, rfl⟩
      rw [← hf] at p0 p1 htk hfz
      obtain ⟨nm, hnm⟩ : ∃ nm, nm = f.nm := ⟨_, rfl⟩
      obtain ⟨va, hva⟩ : ∃ va, va = f.va := ⟨_, rfl⟩
      rw [← hnm] at p0
      rw [← hva] at p1
      have HF := Lib.hid (And.intro hnm hva)
      have HG2 : Hid (gone0 ++ (fs.take (i + 1)).flatMap goneF = G ++ goneF f) := Lib.hid (by rw [htk, HG.out, List.append_assoc])
      have HGn : Hid ((G ++ goneF f).length ≤ 1048581) := Lib.hid (by
        rw [← HG2.out, List.length_append]
        have := HGl.out
        unfold goneL at this
        rw [List.length_append] at this
        exact Nat.le_trans (Nat.add_le_add_left hgl _) this)
      have HNmz : Hid (nm.size ≤ 1048576 ∧ va.size ≤ 1048576) := Lib.hid (by have := HZ.out; rw [hnm, hva]; omega)
      have HSm := Lib.hid (rsmall_any wr nm (Nat.le_trans HNmz.out.1 (by decide)))
      clear hi hin hil hc htk hfz hgl hf hnm hva
      go_wp2_with fail
      refine HSm.out.mono ?_
      rintro e w2 ⟨rfl, hb2⟩
      have HO2 := Lib.hid (own_below HO.out hb2)
      have HB2 : Hid (Below w.heap.size w w2) := Lib.hid (HBw.out.trans (hb2.mono HBs.out))
      have HBs2 : Hid (w.heap.size ≤ w2.heap.size) := Lib.hid HB2.out.size
      rw [← hb2.cell (World.block_lt_of_cell? _ _ p0)] at p0
      rw [← hb2.cell (World.block_lt_of_cell? _ _ p1)] at p1
      clear hb2
      by_cases hcn : smallL (bl nm) = connN
      · have e1 : ((strB (smallL (bl nm))).toList == [99, 111, 110, 110, 101, 99, 116, 105, 111, 110]) = true := eqT (by rw [show bl (strB (smallL (bl nm))) = smallL (bl nm) from strB_toList _]; exact hcn)
        have HGf : Hid (goneF f = piecesL (bl va)) := Lib.hid (by rw [goneF, ← HF.out.1, if_pos hcn, ← HF.out.2])
        have HPc := Lib.hid (rpieces_any w2 va (Nat.le_trans HNmz.out.2 (by decide)))
        clear hcn
        obtain ⟨Ps, hPs⟩ : ∃ Ps, Ps = piecesL (bl va) := ⟨_, rfl⟩
        rw [← hPs] at HPc HGf
        obtain ⟨np, hnp⟩ : ∃ np, np = Ps.length := ⟨_, rfl⟩
        have HNp := Lib.hid hnp
        clear hPs hnp
        go_wp2_with fail
        refine HPc.out.mono ?_
        rintro e w3 ⟨a3, c3, he, ho3, hb3⟩
        obtain rfl : e = .returned (.slice a3 np c3) := by rw [he, HNp.out]
        have hs3 := own_sl ho3
        rw [← HNp.out] at hs3
        have HS3 := Lib.hid hs3
        have HO3 := Lib.hid (own_below HO2.out hb3)
        have HB3 : Hid (Below w.heap.size w w3) := Lib.hid (HB2.out.trans (hb3.mono HBs2.out))
        have HBs3 : Hid (w.heap.size ≤ w3.heap.size) := Lib.hid HB3.out.size
        obtain ⟨s1, s2⟩ := rsj3 (a := m) (b := np) (n := (G ++ goneF f).length) (by rw [List.length_append, HGf.out, HM.out, HNp.out]; exact Nat.le_refl _) HGn.out
        have HS1 := Lib.hid s1
        have HS2 := Lib.hid s2
        clear ho3 hb3 he hs3 s1 s2 p0 p1
        go_wp2_with (at_builtin; refine wpL_app tyStr rfl (.tmp 31) (.tmp 37) rfl rfl rfl HO3.out HS3.out (sB_one Ps) HS1.out HS2.out HB3.out (Nat.le_refl _) HBs3.out ?_; intro a4 c4 w4 ho4 hb4 _)
        have HO4 := Lib.hid ho4
        have HB4 := Lib.hid hb4
        clear ho4 hb4
        go_wp2_with fail
        go_roundw
        case rel => exact ⟨i + 1, m + np, G ++ Ps, a4, c4, by first | rfl | (push_cast; rfl), HI.out, rfl, Lib.hid (by rw [List.length_append, ← HM.out, ← HNp.out]), Lib.hid (by rw [HG2.out, HGf.out]), by rw [sB_append]; exact HO4.out, HB4.out⟩
        case measure => exact nbj3 HI.out
      · have e1 : ((strB (smallL (bl nm))).toList == [99, 111, 110, 110, 101, 99, 116, 105, 111, 110]) = false := eqF (by rw [show bl (strB (smallL (bl nm))) = smallL (bl nm) from strB_toList _]; exact hcn)
        have HGf : Hid (goneF f = []) := Lib.hid (by rw [goneF, ← HF.out.1, if_neg hcn])
        clear hcn
        go_wp2_with fail
        go_roundw
        case rel => exact ⟨i + 1, m, G, a', c', by first | rfl | (push_cast; rfl), HI.out, rfl, HM, Lib.hid (by rw [HG2.out, HGf.out, List.append_nil]), HO2.out, HB2.out⟩
        case measure => exact nbj3 HI.out
    · have z1 := inj2 hin
      have hie : i = n := Nat.le_antisymm hi (Nat.le_of_not_lt hin)
      have HGe : Hid (G = goneL fs) := Lib.hid (by rw [HG.out, goneL, hie, List.take_of_length_le (by rw [HL.out]; exact Nat.le_refl _)])
      clear hi hin hie
      have HDg := Lib.hid (digits_any wr q HQ.out)
      have HIt : Hid (strB (Lib.decDigits q) = (statF (q : Int)).va) := Lib.hid (by rw [statF, itoa_nat])
      go_wp2_with fail
      refine HDg.out.mono ?_
      rintro e w2 ⟨rfl, hb2⟩
      have HO2 := Lib.hid (own_below HO.out hb2)
      have HB2 : Hid (Below w.heap.size w w2) := Lib.hid (HBw.out.trans (hb2.mono HBs.out))
      have HBs2 : Hid (w.heap.size ≤ w2.heap.size) := Lib.hid HB2.out.size
      clear hb2
      obtain ⟨w3, hw3⟩ : ∃ w3, w3 = w2.alloc (.cells #[.string ⟨#[58, 115, 116, 97, 116, 117, 115]⟩, .string (strB (Lib.decDigits q))] 64) := ⟨_, rfl⟩
      obtain ⟨g1, hg1⟩ : ∃ g1, g1 = w2.heap.size := ⟨_, rfl⟩
      have HSp3 : Hid (Sps w3 w.heap.size (some ⟨g1, 0, none⟩) 1 [statF (q : Int)]) := Lib.hid (by
        have h := sps_one w2 (statF (q : Int))
        rw [hg1, hw3, HIt.out]
        exact own_mono h HBs2.out)
      have hal3 : Below w2.heap.size w2 w3 := by rw [hw3]; exact (Below.refl _ w2).alloc (Nat.le_refl _) _
      have HO3 := Lib.hid (own_below HO2.out hal3)
      have HB3 : Hid (Below w.heap.size w w3) := Lib.hid (HB2.out.trans (hal3.mono HBs2.out))
      have HW3 := Lib.hid hw3
      have HG1 := Lib.hid hg1
      clear hw3 hg1 hal3
      go_upto_region 10 with fail
      rw [← HW3.out, ← HG1.out]
      go_wp2_with fail
      go_loopw [8, 9, 10] (fun ov v _ wz => ∃ (i k : Nat) (O : List Fd) (a2 : Option Addr) (c2 : Nat), v = .int .i64 (i : Int) ∧ i ≤ n ∧ ov = .slice a2 k c2 ∧ Hid (O.length = k) ∧ Hid (O = [statF (q : Int)] ++ (fs.take i).flatMap (outF (goneL fs))) ∧ Sps wz w.heap.size a2 c2 O ∧ wz.ownsRow w.heap.size 9 1 (.slice a' m c') m (sB G) ∧ Below w.heap.size w wz) (fun _ v _ _ => n - (intOf v).toNat)
      case atStart => exact ⟨0, 1, [statF (q : Int)], _, 1, rfl, Nat.zero_le _, rfl, Lib.hid rfl, Lib.hid (by simp), HSp3.out, HO3.out, HB3.out⟩
      case round =>
        obtain ⟨i, k, O, a2, c2, rfl, hi, rfl, HK, HOo, hsp, hgo, hbz⟩ := hrel
        have HSp := Lib.hid hsp
        have HGo := Lib.hid hgo
        have HBz := Lib.hid hbz
        have HBzs : Hid (w.heap.size ≤ wr.heap.size) := Lib.hid hbz.size
        clear hsp hgo hbz HSp3 HO3 HB3 HW3 HO2 HB2 HBs2
        by_cases hin : i < n
        · have HI := Lib.hid hin
          obtain ⟨z1, z2, z3⟩ := inj1 hin (Nat.le_trans HNn.out (by decide))
          have hil : i < fs.length := by rw [HL.out]; exact hin
          obtain ⟨b, o, rfl, hc⟩ := HS.out.cells (Nat.lt_of_le_of_lt (Nat.zero_le _) hin)
          obtain ⟨p0, p1⟩ := hc i hil
          rw [← HBz.out.cell (World.block_lt_of_cell? _ _ p0)] at p0
          rw [← HBz.out.cell (World.block_lt_of_cell? _ _ p1)] at p1
          have htk := flat_take (outF (goneL fs)) fs i hil
          have hfz := fdz_at fs i hil
          have hol := out_le (goneL fs) (fs.take i)
          obtain ⟨f, hf⟩ : ∃ f, f = fs[i] := ⟨_, rfl⟩
          rw [← hf] at p0 p1 htk hfz
          obtain ⟨nm, hnm⟩ : ∃ nm, nm = f.nm := ⟨_, rfl⟩
          obtain ⟨va, hva⟩ : ∃ va, va = f.va := ⟨_, rfl⟩
          rw [← hnm] at p0
          rw [← hva] at p1
          have HF := Lib.hid (And.intro hnm hva)
          have HO2 : Hid ([statF (q : Int)] ++ (fs.take (i + 1)).flatMap (outF (goneL fs)) = O ++ outF (goneL fs) f) := Lib.hid (by rw [htk, HOo.out, List.append_assoc])
          have HKn : Hid (k ≤ 2097152) := Lib.hid (by
            rw [← HK.out, HOo.out, List.length_append]
            have h1 : (fs.take i).length ≤ n := by rw [List.length_take, HL.out]; exact Nat.min_le_right _ _
            exact (rsj4 (Nat.le_trans hol h1) HNn.out).1)
          have HNmz : Hid (nm.size ≤ 1048576) := Lib.hid (by have := HZ.out; rw [hnm]; omega)
          have HSm := Lib.hid (rsmall_any wr nm (Nat.le_trans HNmz.out (by decide)))
          clear hi hin hil hc htk hfz hol hf hnm hva
          go_wp2_with fail
          refine HSm.out.mono ?_
          rintro e w4 ⟨rfl, hb4⟩
          have HSp4 : Hid (Sps w4 w.heap.size a2 c2 O) := Lib.hid (own_below HSp.out hb4)
          have HGo4 := Lib.hid (own_below HGo.out hb4)
          have HB4 : Hid (Below w.heap.size w w4) := Lib.hid (HBz.out.trans (hb4.mono HBzs.out))
          have HBs4 : Hid (w.heap.size ≤ w4.heap.size) := Lib.hid HB4.out.size
          rw [← hb4.cell (World.block_lt_of_cell? _ _ p1)] at p1
          have hIn := rin_any w4 (own_sl HGo4.out) (smallL (bl nm))
          rw [HGe.out] at hIn
          clear hb4 p0
          by_cases hm : smallL (bl nm) ∈ goneL fs
          · rw [show decide (smallL (bl nm) ∈ goneL fs) = true from decide_eq_true hm] at hIn
            have HIn := Lib.hid hIn
            have HOf : Hid (outF (goneL fs) f = []) := Lib.hid (by rw [outF, ← HF.out.1, if_pos hm])
            clear hIn hm
            go_wp2_with fail
            refine HIn.out.mono ?_
            rintro e w5 ⟨rfl, rfl⟩
            go_wp2_with fail
            go_roundw
            case rel => exact ⟨i + 1, k, O, a2, c2, by first | rfl | (push_cast; rfl), HI.out, rfl, HK, Lib.hid (by rw [HO2.out, HOf.out, List.append_nil]), HSp4.out, HGo4.out, HB4.out⟩
            case measure => exact nbj3 HI.out
          · rw [show decide (smallL (bl nm) ∈ goneL fs) = false from decide_eq_false hm] at hIn
            have HIn := Lib.hid hIn
            have HOf : Hid (outF (goneL fs) f = [⟨strB (smallL (bl nm)), va⟩]) := Lib.hid (by rw [outF, ← HF.out.1, if_neg hm, ← HF.out.2])
            clear hIn hm
            go_wp2_with fail
            refine HIn.out.mono ?_
            rintro e w5 ⟨rfl, rfl⟩
            obtain ⟨a6, c6, w6, hr6, hsp6, hb6, hk6⟩ := app_fd (tyo := 22) ⟨strB (smallL (bl nm)), va⟩ HSp4.out HK.out HKn.out HBs4.out
            have HSp6 := Lib.hid hsp6
            have HB6 : Hid (Below w.heap.size w w6) := Lib.hid (HB4.out.trans hb6)
            have hsp4 : w5.ownsRow w.heap.size 64 2 (.slice a2 k c2) k (sv O) := by have h := HSp4.out; unfold Sps at h; rw [HK.out] at h; exact h
            have HGo6 := Lib.hid (own_kept HGo4.out hk6 (own_own HGo4.out hsp4 (by decide)))
            clear hsp6 hb6 hk6 hsp4
            go_wp2_with (at_builtin; refine Lib.wpList_append_run _ rfl _ _ _ _ rfl (.slice a2 k c2) (.slice (some ⟨w5.heap.size, 0, none⟩) 1 1) rfl rfl _ _ hr6 ?_)
            clear hr6
            go_wp2_with fail
            go_roundw
            case rel => exact ⟨i + 1, k + 1, O ++ [⟨strB (smallL (bl nm)), va⟩], a6, c6, by first | rfl | (push_cast; rfl), HI.out, rfl, Lib.hid (by rw [List.length_append, HK.out]; rfl), Lib.hid (by rw [HO2.out, HOf.out]), HSp6.out, HGo6.out, HB6.out⟩
            case measure => exact nbj3 HI.out
        · have z1 := inj2 hin
          have hie : i = n := Nat.le_antisymm hi (Nat.le_of_not_lt hin)
          have hol := out_le (goneL fs) fs
          have HOe : Hid (O = [statF (q : Int)] ++ fs.flatMap (outF (goneL fs))) := Lib.hid (by rw [HOo.out, hie, List.take_of_length_le (by rw [HL.out]; exact Nat.le_refl _)])
          have HKn : Hid (k ≤ 2097152) := Lib.hid (by
            rw [← HK.out, HOe.out, List.length_append]
            exact (rsj4 (by rw [HL.out] at hol; exact hol) HNn.out).1)
          clear hi hin hie hol
          obtain ⟨a6, c6, w6, hr6, hsp6, hb6, _⟩ := app_fd (tyo := 22) viaF HSp.out HK.out HKn.out HBzs.out
          have HSp6 := Lib.hid hsp6
          have HB6 : Hid (Below w.heap.size w w6) := Lib.hid (HBz.out.trans hb6)
          clear hsp6 hb6
          go_wp2_with (at_builtin; refine Lib.wpList_append_run _ rfl _ _ _ _ rfl (.slice a2 k c2) (.slice (some ⟨wr.heap.size, 0, none⟩) 1 1) rfl rfl _ _ hr6 ?_)
          clear hr6
          go_wp2
          go_ret2
          rw [show R = (O ++ [viaF], 0) by rw [HR.out, HOe.out]]
          exact ⟨a6, c6, by simp only [List.length_append, HK.out]; rfl, HSp6.out, HB6.out⟩
end Go.Proofs.YtohinaohcndndaaDoor

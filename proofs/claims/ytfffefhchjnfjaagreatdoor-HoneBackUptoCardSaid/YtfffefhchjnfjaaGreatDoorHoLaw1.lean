/- HoneCuts answers true. Premises: the library's variables, the sizes. -/
import Derived.Test.YtfffefhchjnfjaaGreatDoorHoWake
import Derived.Test.YtfffefhchjnfjaaGreatDoorFldSame
import Derived.Test.YtfffefhchjnfjaaGreatDoorRef01
namespace Go.Proofs.YtfffefhchjnfjaaGreatDoor
open Go.RowKit

def hdL : Option (Nat × List Fd × Int) → List Fd
  | none => []
  | some (_, l, _) => l
def hdS : Option (Nat × List Fd × Int) → Int
  | none => 0
  | some (st, _, _) => (st : Int)
theorem sls_nil (w : World) (a : Option Addr) : SlS w a 0 0 [] := ⟨rfl, Nat.le_refl _, Nat.zero_le _, fun h => absurd h (Nat.lt_irrefl _)⟩
theorem HdOk.sl {B : Nat} {w : World} {x : Xr} {h : Option (Nat × List Fd × Int)} (hh : HdOk B w x h) : x.st = hdS h ∧ x.fn = (hdL h).length ∧ SlS w x.fa x.fn x.fc (hdL h) := by
  cases h with
  | none => obtain ⟨h1, h2, h3, h4, h5, h6⟩ := hh; rw [h3, h4, h5]; exact ⟨h2, rfl, sls_nil _ _⟩
  | some v =>
    obtain ⟨st, l, fr⟩ := v
    obtain ⟨h1, h2, h3, h4, h5⟩ := hh
    exact ⟨h2, h3, by rw [h3]; exact h5.sl⟩
theorem Xr.Ok.trs {B : Nat} {w : World} {x : Xr} {a : Rs} (h : x.Ok B w a) : x.tn = a.tr.length ∧ SlS w x.ta x.tn x.tc a.tr := by
  rcases h.tr with ⟨h1, h2, h3, h4⟩ | ⟨h1, h2⟩
  · rw [h1, h2, h3, h4]; exact ⟨rfl, sls_nil _ _⟩
  · exact ⟨h1, by rw [h1]; exact h2.sl⟩
theorem all_both (hd : Bool) (b : List UInt8) (cuts : List Int) (fin : Bool) :
    ((allV hd b [] fin).1.fault ≠ 0 ∧ (allV hd b cuts fin).1.fault ≠ 0) ∨ ((allV hd b [] fin).1.fault = 0 ∧ (allV hd b cuts fin).1.fault = 0 ∧ allV hd b [] fin = allV hd b cuts fin) := by
  obtain ⟨h1, h2⟩ := allG_runs hd [] fin (b.length + 1) 0 b s0 rs0 (Nat.lt_succ_self _) rfl rfl
  obtain ⟨k1, k2⟩ := allG_runs hd cuts fin (b.length + 1) 0 b s0 rs0 (Nat.lt_succ_self _) rfl rfl
  have e1 : allV hd b [] fin = allG hd [] fin (b.length + 1) 0 b s0 rs0 := rfl
  have e2 : allV hd b cuts fin = allG hd cuts fin (b.length + 1) 0 b s0 rs0 := rfl
  rw [← e1] at h1 h2
  rw [← e2] at k1 k2
  by_cases hx : (allV hd b [] fin).1.fault = 0
  · have hR := h2 hx
    by_cases hy : (allV hd b cuts fin).1.fault = 0
    · exact .inr ⟨hx, hy, hR.trans (k2 hy).symm⟩
    · exfalso
      have := k1 hy
      rw [hR] at hx
      exact this hx
  · refine .inl ⟨hx, fun hy => ?_⟩
    have h3 := h1 hx
    have h4 := k2 hy
    rw [h4] at hy
    exact h3 hy
set_option maxRecDepth 100000 in
set_option maxHeartbeats 8000000 in
theorem cuts_any (w : World) (ht : Tab w) (hd : Bool) {ba : Option Addr} {bn bc : Nat} {b : List UInt8} (hb : Sl w ba bn bc (bv b)) (hbn : bn ≤ 1048576) {ca : Option Addr} {cn cc : Nat} {cuts : List Int} (hc : Sl w ca cn cc (iv .i64 cuts)) (fin : Bool) :
    Calls Tryz.prog 4 #[.agg #[.bool hd, .slice ba bn bc, .slice ca cn cc, .bool fin]] w (BoolOf w true) := by
  obtain ⟨w1, hw1⟩ : ∃ w1, w1 = w.alloc (.cells #[.bool hd, .slice ba bn bc, .slice ca cn cc, .bool fin] 40) := ⟨_, rfl⟩
  obtain ⟨g1, hg1⟩ : ∃ g1, g1 = w.heap.size := ⟨_, rfl⟩
  have hh1 : Has w1 g1 40 [.bool hd, .slice ba bn bc, .slice ca cn cc, .bool fin] := by rw [hw1, hg1]; exact Has.new w 40 _
  have HB1 : Hid (Below w.heap.size w w1) := Lib.hid (by rw [hw1]; exact (Below.refl _ w).alloc (Nat.le_refl _) _)
  have q0 := hh1.cell 0 rfl
  have q1 := hh1.cell 1 rfl
  have q2 := hh1.cell 2 rfl
  have q3 := hh1.cell 3 rfl
  have y1 : ((1048576 : Int) < (bn : Int)) = False := eq_false (by omega)
  have HT := Lib.hid ht
  have HB := Lib.hid hb
  have HC := Lib.hid hc
  have HBn := Lib.hid hbn
  have HAB := Lib.hid (all_both hd b cuts fin)
  clear hh1 ht hb hc hbn
  go_enter Tryz.func4, Tryz.ntmps4
  go_upto_region 1 with fail
  rw [← hw1, ← hg1]
  clear hw1 hg1
  go_quiet (fail)
  have HB2 : Hid (Below w.heap.size w (w1.drewN nq)) := Lib.hid (HB1.out.trans ⟨rfl, rfl, rfl, Nat.le_refl _, fun _ _ => rfl⟩)
  obtain ⟨w2, hw2⟩ : ∃ w2, w2 = w1.drewN nq := ⟨_, rfl⟩
  rw [← hw2] at HB2 ⊢
  clear hw2 q0 q1 q2 q3 HB1
  have HA1 := Lib.hid (all_any w2 (HT.out.below HB2.out) hd (HB.out.below HB2.out) (by have := HBn.out; omega) (cuts := []) (ca := none) (cn := 0) (cc := 0) (Sl.empty w2) fin)
  go_wp2_with fail
  refine HA1.out.mono ?_
  rintro e w3 ⟨x1, rfl, hb3, hok3, hf3, hd3, hl3⟩
  obtain ⟨w4, hw4⟩ : ∃ w4, w4 = w3.alloc (.cells #[.int .i64 x1.k, .int .i64 x1.st, .slice x1.fa x1.fn x1.fc, .int .i64 x1.fr, .slice none 0 0, .slice x1.ba x1.bn x1.bc, .slice x1.ta x1.tn x1.tc, .int .i64 x1.ft, .bool x1.dn, .int .i64 x1.lf] 35) := ⟨_, rfl⟩
  obtain ⟨g4, hg4⟩ : ∃ g4, g4 = w3.heap.size := ⟨_, rfl⟩
  have hb4 : Below w3.heap.size w3 w4 := by rw [hw4]; exact (Below.refl _ w3).alloc (Nat.le_refl _) _
  have HH4 : Hid (Has w4 g4 35 x1.cs) := Lib.hid (by rw [hw4, hg4]; exact Has.new w3 35 _)
  have HB4 : Hid (Below w.heap.size w w4) := Lib.hid ((HB2.out.trans (hb3.mono HB2.out.size)).trans (hb4.mono (HB2.out.trans (hb3.mono HB2.out.size)).size))
  have HO4 : Hid (x1.Ok w2.heap.size w4 (allV hd b [] fin).2.1) := Lib.hid (hok3.kept (X := none') (Kept.of_below hb4) (fun _ _ h => h))
  have HN1 := Lib.hid (And.intro hf3 (And.intro hd3 hl3))
  clear hb3 hok3 hf3 hd3 hl3 hb4 HA1
  simp only [Xr.cs]
  go_upto_region 3 with fail
  rw [← hw4, ← hg4]
  clear hw4 hg4
  have HA2 := Lib.hid (all_any w4 (HT.out.below HB4.out) hd (HB.out.below HB4.out) (by have := HBn.out; omega) (HC.out.below HB4.out) fin)
  go_wp2_with fail
  refine HA2.out.mono ?_
  rintro e w5 ⟨x2, rfl, hb5, hok5, hf5, hd5, hl5⟩
  obtain ⟨w6, hw6⟩ : ∃ w6, w6 = w5.alloc (.cells #[.int .i64 x2.k, .int .i64 x2.st, .slice x2.fa x2.fn x2.fc, .int .i64 x2.fr, .slice none 0 0, .slice x2.ba x2.bn x2.bc, .slice x2.ta x2.tn x2.tc, .int .i64 x2.ft, .bool x2.dn, .int .i64 x2.lf] 35) := ⟨_, rfl⟩
  obtain ⟨g6, hg6⟩ : ∃ g6, g6 = w5.heap.size := ⟨_, rfl⟩
  have hb6 : Below w5.heap.size w5 w6 := by rw [hw6]; exact (Below.refl _ w5).alloc (Nat.le_refl _) _
  have hb46 : Below w4.heap.size w4 w6 := hb5.trans (hb6.mono hb5.size)
  have hh6 : Has w6 g6 35 x2.cs := by rw [hw6, hg6]; exact Has.new w5 35 _
  have hh4 : Has w6 g4 35 x1.cs := HH4.out.below' hb46
  have HB6 : Hid (Below w.heap.size w w6) := Lib.hid (HB4.out.trans (hb46.mono HB4.out.size))
  have HO1 : Hid (x1.Ok w2.heap.size w6 (allV hd b [] fin).2.1) := Lib.hid (HO4.out.kept (X := none') (Kept.of_below hb46) (fun _ _ h => h))
  have HO2 : Hid (x2.Ok w4.heap.size w6 (allV hd b cuts fin).2.1) := Lib.hid (hok5.kept (X := none') (Kept.of_below hb6) (fun _ _ h => h))
  have HN2 := Lib.hid (And.intro hf5 (And.intro hd5 hl5))
  have HHs := Lib.hid (And.intro hh4 hh6)
  clear hb5 hok5 hf5 hd5 hl5 hb6 hb46 hh4 hh6 HA2 HO4 HH4
  simp only [Xr.cs]
  go_upto_region 4 with fail
  rw [← hw6, ← hg6]
  clear hw6 hg6
  have HAw := Lib.hid (fun w' (h : Below w.heap.size w w') => awake20_any w' (HT.out.below h))
  have p7 : w6.cell? ⟨g4, 7, none⟩ = some (.int .i64 x1.ft) := HHs.out.1.cell 7 rfl
  have r7 : w6.cell? ⟨g6, 7, none⟩ = some (.int .i64 x2.ft) := HHs.out.2.cell 7 rfl
  rcases HAB.out with ⟨h1, h2⟩ | ⟨h1, h2, h3⟩
  · rw [← HN1.out.1] at h1
    rw [← HN2.out.1] at h2
    obtain ⟨f1, f2⟩ := field_bad_ne h1
    obtain ⟨f3, f4⟩ := field_bad_ne h2
    have HW := Lib.hid (HAw.out w6 HB6.out)
    clear h1 h2
    go_wp2_with fail
    refine HW.out.mono ?_
    rintro e w7 ⟨rfl, hb7⟩
    have HB7 : Hid (Below w.heap.size w w7) := Lib.hid (HB6.out.trans (hb7.mono HB6.out.size))
    clear hb7
    go_wp2
    go_ret
    exact ⟨ret_bool (by simp), HB7.out⟩
  · rw [← HN1.out.1] at h1
    rw [← HN2.out.1] at h2
    rw [h1] at p7
    rw [h2] at r7
    have e1 := HO1.out
    have e2 := HO2.out
    rw [h3] at e1
    have n2 := HN1.out.2
    rw [h3, ← HN2.out.2.1, ← HN2.out.2.2] at n2
    obtain ⟨s1, s2, s3⟩ := e1.hd.sl
    obtain ⟨t1, t2, t3⟩ := e2.hd.sl
    obtain ⟨u1, u2⟩ := e1.trs
    obtain ⟨v1, v2⟩ := e2.trs
    have p1 : w6.cell? ⟨g4, 1, none⟩ = some (.int .i64 x2.st) := by rw [t1, ← s1]; exact HHs.out.1.cell 1 rfl
    have p2 : w6.cell? ⟨g4, 2, none⟩ = some (.slice x1.fa x2.fn x1.fc) := by rw [t2, ← s2]; exact HHs.out.1.cell 2 rfl
    have p5 : w6.cell? ⟨g4, 5, none⟩ = some (.slice x1.ba x1.bn x1.bc) := HHs.out.1.cell 5 rfl
    have p6 : w6.cell? ⟨g4, 6, none⟩ = some (.slice x1.ta x2.tn x1.tc) := by rw [v1, ← u1]; exact HHs.out.1.cell 6 rfl
    have p8 : w6.cell? ⟨g4, 8, none⟩ = some (.bool x2.dn) := by rw [← n2.1]; exact HHs.out.1.cell 8 rfl
    have p9 : w6.cell? ⟨g4, 9, none⟩ = some (.int .i64 x2.lf) := by rw [← n2.2]; exact HHs.out.1.cell 9 rfl
    have r1 : w6.cell? ⟨g6, 1, none⟩ = some (.int .i64 x2.st) := HHs.out.2.cell 1 rfl
    have r2 : w6.cell? ⟨g6, 2, none⟩ = some (.slice x2.fa x2.fn x2.fc) := HHs.out.2.cell 2 rfl
    have r5 : w6.cell? ⟨g6, 5, none⟩ = some (.slice x2.ba x2.bn x2.bc) := HHs.out.2.cell 5 rfl
    have r6 : w6.cell? ⟨g6, 6, none⟩ = some (.slice x2.ta x2.tn x2.tc) := HHs.out.2.cell 6 rfl
    have r8 : w6.cell? ⟨g6, 8, none⟩ = some (.bool x2.dn) := HHs.out.2.cell 8 rfl
    have r9 : w6.cell? ⟨g6, 9, none⟩ = some (.int .i64 x2.lf) := HHs.out.2.cell 9 rfl
    have HSF := Lib.hid (fun w' (h : Below w6.heap.size w6 w') => sames_eq w' ((show SlS w6 x1.fa x2.fn x1.fc _ by rw [t2, ← s2]; exact s3).below h) (t3.below h))
    have HST := Lib.hid (fun w' (h : Below w6.heap.size w6 w') => sames_eq w' ((show SlS w6 x1.ta x2.tn x1.tc _ by rw [v1, ← u1]; exact u2).below h) (v2.below h))
    have hsb := fun w' (h : Below w6.heap.size w6 w') => same_any w' ((Tl.of e1.bd).sl.below h) ((Tl.of e2.bd).sl.below h)
    simp only [decide_true] at hsb
    have HSB := Lib.hid hsb
    have HS1 := Lib.hid (HSF.out w6 (Below.refl _ _))
    have kb : ∀ {w' : World} {ad : Addr} {v : Value}, Below w6.heap.size w6 w' → w6.cell? ad = some v → w'.cell? ad = some v := fun h hc => by rw [h.cell (World.block_lt_of_cell? _ _ hc)]; exact hc
    have HK5 := Lib.hid (fun w' (h : Below w6.heap.size w6 w') => And.intro (kb h p5) (kb h r5))
    have HK6 := Lib.hid (fun w' (h : Below w6.heap.size w6 w') => And.intro (kb h p6) (kb h r6))
    have HK8 := Lib.hid (fun w' (h : Below w6.heap.size w6 w') => And.intro (kb h p8) (And.intro (kb h r8) (And.intro (kb h p9) (kb h r9))))
    clear p5 r5 p6 r6 p8 r8 p9 r9 kb
    clear h1 h2 h3 e1 e2 n2 s1 s2 s3 t1 t2 t3 u1 u2 v1 v2 hsb HSF
    go_wp2_with fail
    refine HS1.out.mono ?_
    rintro e w7 ⟨rfl, hb7⟩
    have HB7 := Lib.hid hb7
    obtain ⟨p5, r5⟩ := HK5.out w7 hb7
    have HS2 := Lib.hid (HSB.out w7 hb7)
    clear hb7 HSB HK5 p1 p2 r1 r2 p7 r7 HS1
    go_wp2_with fail
    refine HS2.out.mono ?_
    rintro e w8 ⟨rfl, hb8⟩
    have HB8 : Hid (Below w6.heap.size w6 w8) := Lib.hid (HB7.out.trans (hb8.mono HB7.out.size))
    obtain ⟨p6, r6⟩ := HK6.out w8 HB8.out
    have HS3 := Lib.hid (HST.out w8 HB8.out)
    clear hb8 HST HK6 p5 r5 HS2
    go_wp2_with fail
    refine HS3.out.mono ?_
    rintro e w9 ⟨rfl, hb9⟩
    have HB9 : Hid (Below w6.heap.size w6 w9) := Lib.hid (HB8.out.trans (hb9.mono HB8.out.size))
    obtain ⟨p8, r8, p9, r9⟩ := HK8.out w9 HB9.out
    have HB9' : Hid (Below w.heap.size w w9) := Lib.hid (HB6.out.trans (HB9.out.mono HB6.out.size))
    have HW := Lib.hid (HAw.out w9 HB9'.out)
    clear hb9 HK8 p6 r6 HS3
    go_wp2_with fail
    refine HW.out.mono ?_
    rintro e wa ⟨rfl, hba⟩
    have HBa : Hid (Below w.heap.size w wa) := Lib.hid (HB9'.out.trans (hba.mono HB9'.out.size))
    clear hba
    go_wp2
    go_ret
    exact ⟨ret_bool (by simp), HBa.out⟩
end Go.Proofs.YtfffefhchjnfjaaGreatDoor

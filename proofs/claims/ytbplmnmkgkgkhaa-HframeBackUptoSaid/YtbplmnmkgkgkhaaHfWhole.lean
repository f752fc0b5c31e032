/- Contract of the reader's whole: the event of a frame that is there whole. -/
import Derived.Test.YtbplmnmkgkgkhaaHfSettle
namespace Go.Proofs.Ytbplmnmkgkgkhaa
open Go.RowKit

def evH (pa : Option Addr) (pn pc : Nat) : List Value := [.int .i64 1, .slice pa pn pc, .int .i64 0, .int .i64 0, .int .i64 0, .int .i64 0]
def evG (n : Nat) : List Value := [.int .i64 4, .slice none 0 0, .int .i64 0, .int .i64 0, .int .i64 0, .int .i64 (n : Int)]
def evS (s : St) : List Value := [.int .i64 3, .slice none 0 0, .int .i64 s.cap, .int .i64 s.blk, .int .i64 s.lim, .int .i64 0]
/-- an event, whether there is one, the error's number, the reader behind it -/
structure Out where
  ev : List Value
  ok : Bool
  z : Int
  R : Rd
def wholeV (R : Rd) (k : Int) (pl : List UInt8) (pa : Option Addr) (pc : Nat) : Out :=
  if k = 1 then ⟨evH pa pl.length pc, true, 0, { R with heads := R.heads + 1 }⟩
  else if k = 7 then (if (oneV pl).2 = 0 then ⟨evG (oneV pl).1, true, 0, R⟩ else ⟨evz, false, (oneV pl).2, { R with fault := (oneV pl).2 }⟩)
  else if (settV pl).2 = 0 then ⟨evS (settV pl).1, true, 0, { R with settled := true }⟩ else ⟨evz, false, (settV pl).2, { R with fault := (settV pl).2 }⟩
def Tells (w : World) (g : Nat) (ba : Option Addr) (bc : Nat) (o : Out) (e : Ending) (w' : World) : Prop :=
  e = .returned (.tuple #[.agg o.ev.toArray, .bool o.ok, .int .i64 o.z]) ∧ Kept (fun k => k = g) w w' ∧ RB w' g o.R ba bc

set_option maxRecDepth 100000 in
set_option maxHeartbeats 1000000 in
theorem whole_h (w : World) {g : Nat} {R : Rd} {ba : Option Addr} {bc : Nat} (hR : RB w g R ba bc) (pa : Option Addr) (pn pc : Nat) (h0 : 0 ≤ R.heads) (h2 : R.heads < 2) :
    Calls Try.prog 34 #[.pointer (some ⟨g, 0, none⟩), .int .i64 1, .slice pa pn pc] w (Tells w g ba bc ⟨evH pa pn pc, true, 0, { R with heads := R.heads + 1 }⟩) := by
  have HR := Lib.hid (hR.set 6 (.int .i64 (R.heads + 1)) (R' := { R with heads := R.heads + 1 }) rfl rfl)
  have c6 := hR.has.cell 6 rfl
  have f6 := hR.has.free 6
  have hlt := hR.has.lt
  clear hR
  obtain ⟨hd, hhd⟩ : ∃ hd, hd = R.heads := ⟨_, rfl⟩
  rw [← hhd] at h0 h2 c6
  have hdw : IntKind.i64.wrap (hd + 1) = hd + 1 := by rw [IntKind.wrap_i64]; omega
  have hdv : RowKit.wrap64 (hd + 1) = hd + 1 := by unfold RowKit.wrap64; omega
  have HD := Lib.hid hhd
  clear hhd h0 h2
  go_enter Try.func34, Try.ntmps34
  go_wp2
  have hH : Has ((w.setCell ⟨g, 6, none⟩ (.int .i64 (hd + 1))).alloc (.cells #[.int .i64 1, .slice pa pn pc, .int .i64 0, .int .i64 0, .int .i64 0, .int .i64 0] 32)) w.heap.size 32 (evH pa pn pc) := by
    have := Has.new (w.setCell ⟨g, 6, none⟩ (.int .i64 (hd + 1))) 32 #[.int .i64 1, .slice pa pn pc, .int .i64 0, .int .i64 0, .int .i64 0, .int .i64 0]
    simpa [World.setCell, evH] using this
  refine bodyPost_ret (results_ev rfl _ rfl hH rfl) rfl ?_
  refine ⟨rfl, (Kept.set w g 6 _).trans (Kept.alloc none' _ _) (fun _ _ h => h.elim), ?_⟩
  rw [HD.out]
  exact HR.out.below ((Below.refl _ _).alloc (Nat.le_refl _) _)

set_option maxRecDepth 100000 in
set_option maxHeartbeats 4000000 in
theorem whole_g (w : World) {g : Nat} {R : Rd} {ba : Option Addr} {bc : Nat} (hR : RB w g R ba bc) {pa : Option Addr} {pn pc : Nat} {pl : List UInt8} (hP : Sl w pa pn pc (bv pl)) :
    Calls Try.prog 34 #[.pointer (some ⟨g, 0, none⟩), .int .i64 7, .slice pa pn pc] w (Tells w g ba bc (wholeV R 7 pl pa pc)) := by
  obtain ⟨w1, hw1⟩ : ∃ w1, w1 = w.alloc (.cells #[.int .i64 0, .slice none 0 0, .int .i64 0, .int .i64 0, .int .i64 0, .int .i64 0] 32) := ⟨_, rfl⟩
  have hal : Below w.heap.size w w1 := by rw [hw1]; exact (Below.refl _ _).alloc (Nat.le_refl _) _
  have hE1 : Has w1 w.heap.size 32 evz := by rw [hw1]; exact Has.new _ _ _
  have hglt := hR.has.lt
  obtain ⟨eb, heb⟩ : ∃ eb, eb = w.heap.size := ⟨_, rfl⟩
  have hbn : ∀ ad, ba = some ad → ad.block ≠ eb := fun ad ha => by have := hR.row.lt ad ha; omega
  rw [← heb] at hE1 hglt
  have HEb := Lib.hid heb
  have HAl := Lib.hid hal
  have HR1 := Lib.hid (hR.below hal)
  have HE1 := Lib.hid hE1
  have HO := Lib.hid (one_any w1 (hP.below hal))
  obtain ⟨r, hr⟩ : ∃ r, r = oneV pl := ⟨_, rfl⟩
  have ew : wholeV R 7 pl pa pc = if r.2 = 0 then ⟨evG r.1, true, 0, R⟩ else ⟨evz, false, r.2, { R with fault := r.2 }⟩ := by unfold wholeV; rw [if_neg (by decide), if_pos rfl, ← hr]
  rw [ew]
  rw [← hr] at HO
  clear ew hr hP hR hal hE1 heb
  obtain ⟨n, z⟩ := r
  by_cases hz : z = 0
  · subst hz
    rw [if_pos rfl]
    go_enter Try.func34, Try.ntmps34
    go_wp2_with fail
    rw [← hw1, ← HEb.out]
    refine HO.out.mono ?_
    rintro e w2 ⟨rfl, hb2⟩
    have hE2 := HE1.out.kept (Kept.of_below (X := none') hb2) (fun h => h)
    have x0 := hE2.free 0
    have x1 := hE2.free 1
    have x2 := hE2.free 2
    have x3 := hE2.free 3
    have x4 := hE2.free 4
    have x5 := hE2.free 5
    have e0 := hE2.cell 0 rfl
    have e1 := hE2.cell 1 rfl
    have e2 := hE2.cell 2 rfl
    have e3 := hE2.cell 3 rfl
    have e4 := hE2.cell 4 rfl
    have e5 := hE2.cell 5 rfl
    have HB2 := Lib.hid (HAl.out.trans (hb2.mono HAl.out.size))
    have HR2 := Lib.hid (HR1.out.below hb2)
    have HE2 := Lib.hid hE2
    clear hb2 hE2 hw1
    go_wp2
    refine bodyPost_ret (results_ev rfl _ rfl (HE2.out.ev0 _ _ _ _ _ _) rfl) rfl ?_
    have hEb := HEb.out
    refine ⟨rfl, ?_, ?_⟩
    · exact (Kept.of_below (X := fun k => k = g) HB2.out).trans (Kept.ev0 _ _ _ _ _ _ _ _) (fun k hk e => by omega)
    · exact HR2.out.kept (Kept.ev0 _ _ _ _ _ _ _ _) (by omega) hbn
  · rw [if_neg hz]
    have hzb : (z == 0) = false := by simpa using hz
    have HFl := Lib.hid (fun (u : World) (hu : Below w1.heap.size w1 u) => fail_any u (HR1.out.below hu) z)
    clear hz
    go_enter Try.func34, Try.ntmps34
    go_wp2_with fail
    rw [← hw1, ← HEb.out]
    refine HO.out.mono ?_
    rintro e w2 ⟨rfl, hb2⟩
    have HF := Lib.hid (HFl.out w2 hb2)
    have hE2 := HE1.out.kept (Kept.of_below (X := none') hb2) (fun h => h)
    have HB2 := Lib.hid (HAl.out.trans (hb2.mono HAl.out.size))
    have HE2 := Lib.hid hE2
    clear hb2 hE2 hw1
    go_wp2_with fail
    refine HF.out.mono ?_
    rintro e w3 ⟨rfl, hk3, hR3⟩
    have hE3 := HE2.out.kept hk3 (by omega)
    have x0 := hE3.free 0
    have x1 := hE3.free 1
    have x2 := hE3.free 2
    have x3 := hE3.free 3
    have x4 := hE3.free 4
    have x5 := hE3.free 5
    have e0 := hE3.cell 0 rfl
    have e1 := hE3.cell 1 rfl
    have e2 := hE3.cell 2 rfl
    have e3 := hE3.cell 3 rfl
    have e4 := hE3.cell 4 rfl
    have e5 := hE3.cell 5 rfl
    have HK3 := Lib.hid hk3
    have HR3 := Lib.hid hR3
    have HE3 := Lib.hid hE3
    clear hk3 hR3 hE3
    go_wp2
    refine bodyPost_ret (results_ev rfl _ rfl (HE3.out.ev0 _ _ _ _ _ _) rfl) rfl ?_
    have hEb := HEb.out
    refine ⟨rfl, ?_, ?_⟩
    · exact ((Kept.of_below (X := fun k => k = g) HB2.out).trans HK3.out (fun _ _ h => h)).trans (Kept.ev0 _ _ _ _ _ _ _ _) (fun k hk e => by omega)
    · exact HR3.out.kept (Kept.ev0 _ _ _ _ _ _ _ _) (by omega) hbn

set_option maxRecDepth 100000 in
set_option maxHeartbeats 4000000 in
theorem whole_s (w : World) {g : Nat} {R : Rd} {ba : Option Addr} {bc : Nat} (hR : RB w g R ba bc) {pa : Option Addr} {pn pc : Nat} {pl : List UInt8} (hP : Sl w pa pn pc (bv pl)) (hn : pn ≤ 140737488351232) (k : Int) (hk1 : k ≠ 1) (hk7 : k ≠ 7) :
    Calls Try.prog 34 #[.pointer (some ⟨g, 0, none⟩), .int .i64 k, .slice pa pn pc] w (Tells w g ba bc (wholeV R k pl pa pc)) := by
  obtain ⟨w1, hw1⟩ : ∃ w1, w1 = w.alloc (.cells #[.int .i64 0, .slice none 0 0, .int .i64 0, .int .i64 0, .int .i64 0, .int .i64 0] 32) := ⟨_, rfl⟩
  have hal : Below w.heap.size w w1 := by rw [hw1]; exact (Below.refl _ _).alloc (Nat.le_refl _) _
  have hE1 : Has w1 w.heap.size 32 evz := by rw [hw1]; exact Has.new _ _ _
  have hglt := hR.has.lt
  obtain ⟨eb, heb⟩ : ∃ eb, eb = w.heap.size := ⟨_, rfl⟩
  have hbn : ∀ ad, ba = some ad → ad.block ≠ eb := fun ad ha => by have := hR.row.lt ad ha; omega
  rw [← heb] at hE1 hglt
  have HEb := Lib.hid heb
  have HAl := Lib.hid hal
  have HR1 := Lib.hid (hR.below hal)
  have HE1 := Lib.hid hE1
  have HO := Lib.hid (settings_any w1 (hP.below hal) hn)
  obtain ⟨r, hr⟩ : ∃ r, r = settV pl := ⟨_, rfl⟩
  have ew : wholeV R k pl pa pc = if r.2 = 0 then ⟨evS r.1, true, 0, { R with settled := true }⟩ else ⟨evz, false, r.2, { R with fault := r.2 }⟩ := by unfold wholeV; rw [if_neg hk1, if_neg hk7, ← hr]
  rw [ew]
  rw [← hr] at HO
  have q1 : (k == 1) = false := by simpa using hk1
  have q7 : (k == 7) = false := by simpa using hk7
  clear ew hr hP hR hal hE1 heb hk1 hk7 hn
  obtain ⟨⟨cp, bk, lm⟩, z⟩ := r
  by_cases hz : z = 0
  · subst hz
    rw [if_pos rfl]
    go_enter Try.func34, Try.ntmps34
    go_wp2_with fail
    rw [← hw1, ← HEb.out]
    refine HO.out.mono ?_
    rintro e w2 ⟨rfl, hb2⟩
    simp only [scells]
    obtain ⟨w3, hw3⟩ : ∃ w3, w3 = w2.alloc (.cells #[.int .i64 cp, .int .i64 bk, .int .i64 lm] 30) := ⟨_, rfl⟩
    obtain ⟨sb, hsb⟩ : ∃ sb, sb = w2.heap.size := ⟨_, rfl⟩
    have hb3 : Below w2.heap.size w2 w3 := by rw [hw3]; exact (Below.refl _ _).alloc (Nat.le_refl _) _
    have hS3 : Has w3 sb 30 [.int .i64 cp, .int .i64 bk, .int .i64 lm] := by rw [hw3, hsb]; exact Has.new _ _ _
    have hR3 := (HR1.out.below hb2).below hb3
    have hE3 := (HE1.out.kept (Kept.of_below (X := none') hb2) (fun h => h)).kept (Kept.of_below (X := none') hb3) (fun h => h)
    have hsbg : g < sb := by have := (HR1.out.below hb2).has.lt; omega
    have HB3 := Lib.hid ((HAl.out.trans (hb2.mono HAl.out.size)).trans (hb3.mono (HAl.out.trans (hb2.mono HAl.out.size)).size))
    have HSb := Lib.hid hsb
    have HR3 := Lib.hid hR3
    have HE3 := Lib.hid hE3
    have HS3 := Lib.hid hS3
    have HW3 := Lib.hid hw3
    clear hb2 hb3 hR3 hE3 hS3 hw1 hw3 hsb
    go_upto_region 13 with fail
    rw [← HW3.out, ← HSb.out]
    have c7 := HR3.out.has.cell 7 rfl
    have f7 := HR3.out.has.free 7
    have hR4 := HR3.out.set 7 (.bool true) (R' := { R with settled := true }) rfl rfl
    have hE4 := HE3.out.kept (Kept.set w3 g 7 (.bool true)) (by omega)
    have hS4 := HS3.out.kept (Kept.set w3 g 7 (.bool true)) (by omega)
    have x0 := hE4.free 0
    have x1 := hE4.free 1
    have x2 := hE4.free 2
    have x3 := hE4.free 3
    have x4 := hE4.free 4
    have x5 := hE4.free 5
    have e0 := hE4.cell 0 rfl
    have e1 := hE4.cell 1 rfl
    have e2 := hE4.cell 2 rfl
    have e3 := hE4.cell 3 rfl
    have e4 := hE4.cell 4 rfl
    have e5 := hE4.cell 5 rfl
    have s0 := hS4.cell 0 rfl
    have s1 := hS4.cell 1 rfl
    have s2 := hS4.cell 2 rfl
    have HR4 := Lib.hid hR4
    have HE4 := Lib.hid hE4
    clear hR4 hE4 hS4
    go_wp2
    refine bodyPost_ret (results_ev rfl _ rfl (HE4.out.ev0 _ _ _ _ _ _) rfl) rfl ?_
    have hEb := HEb.out
    refine ⟨rfl, ?_, ?_⟩
    · exact ((Kept.of_below (X := fun k => k = g) HB3.out).trans (Kept.set w3 g 7 (.bool true)) (fun _ _ h => h)).trans (Kept.ev0 _ _ _ _ _ _ _ _) (fun k hk e => by omega)
    · exact HR4.out.kept (Kept.ev0 _ _ _ _ _ _ _ _) (by omega) hbn
  · rw [if_neg hz]
    have hzb : (z == 0) = false := by simpa using hz
    have HFl := Lib.hid (fun (u : World) (hu : Below w1.heap.size w1 u) => fail_any u (HR1.out.below hu) z)
    clear hz
    go_enter Try.func34, Try.ntmps34
    go_wp2_with fail
    rw [← hw1, ← HEb.out]
    refine HO.out.mono ?_
    rintro e w2 ⟨rfl, hb2⟩
    simp only [scells]
    have hb3 : Below w1.heap.size w1 (w2.alloc (.cells #[.int .i64 cp, .int .i64 bk, .int .i64 lm] 30)) := hb2.trans (((Below.refl _ w2).alloc (Nat.le_refl _) _).mono hb2.size)
    have HF := Lib.hid (HFl.out _ hb3)
    have hE3 := HE1.out.kept (Kept.of_below (X := none') hb3) (fun h => h)
    have HB3 := Lib.hid (HAl.out.trans (hb3.mono HAl.out.size))
    have HE3 := Lib.hid hE3
    clear hb2 hb3 hE3 hw1
    go_wp2_with fail
    refine HF.out.mono ?_
    rintro e w4 ⟨rfl, hk4, hR4⟩
    have hE4 := HE3.out.kept hk4 (by omega)
    have x0 := hE4.free 0
    have x1 := hE4.free 1
    have x2 := hE4.free 2
    have x3 := hE4.free 3
    have x4 := hE4.free 4
    have x5 := hE4.free 5
    have e0 := hE4.cell 0 rfl
    have e1 := hE4.cell 1 rfl
    have e2 := hE4.cell 2 rfl
    have e3 := hE4.cell 3 rfl
    have e4 := hE4.cell 4 rfl
    have e5 := hE4.cell 5 rfl
    have HK4 := Lib.hid hk4
    have HR4 := Lib.hid hR4
    have HE4 := Lib.hid hE4
    clear hk4 hR4 hE4
    go_wp2
    refine bodyPost_ret (results_ev rfl _ rfl (HE4.out.ev0 _ _ _ _ _ _) rfl) rfl ?_
    have hEb := HEb.out
    refine ⟨rfl, ?_, ?_⟩
    · exact ((Kept.of_below (X := fun k => k = g) HB3.out).trans HK4.out (fun _ _ h => h)).trans (Kept.ev0 _ _ _ _ _ _ _ _) (fun k hk e => by omega)
    · exact HR4.out.kept (Kept.ev0 _ _ _ _ _ _ _ _) (by omega) hbn
/-- the event of a frame that is there whole -/
theorem whole_any (w : World) {g : Nat} {R : Rd} {ba : Option Addr} {bc : Nat} (hR : RB w g R ba bc) {pa : Option Addr} {pn pc : Nat} {pl : List UInt8} (hP : Sl w pa pn pc (bv pl)) (hn : pn ≤ 140737488351232) (k : Int) (hh : k = 1 → 0 ≤ R.heads ∧ R.heads < 2) :
    Calls Try.prog 34 #[.pointer (some ⟨g, 0, none⟩), .int .i64 k, .slice pa pn pc] w (Tells w g ba bc (wholeV R k pl pa pc)) := by
  by_cases h1 : k = 1
  · subst h1
    have e : wholeV R 1 pl pa pc = ⟨evH pa pn pc, true, 0, { R with heads := R.heads + 1 }⟩ := by unfold wholeV; rw [if_pos rfl, hP.byte]
    rw [e]
    exact whole_h w hR pa pn pc (hh rfl).1 (hh rfl).2
  · by_cases h7 : k = 7
    · subst h7; exact whole_g w hR hP
    · exact whole_s w hR hP hn k h1 h7
end Go.Proofs.Ytbplmnmkgkgkhaa

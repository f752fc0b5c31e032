/- hone's steps: readLength, readClose, readTrailers, readChunk, readPiece; strconv.ParseUint at base 16. Conditions: the sizes, the library's variables. -/
import Derived.Test.YtfffefhchjnfjaaGreatDoorHoPie
import Derived.Test.YtfffefhchjnfjaaGreatDoorHoBlk
namespace Go.Proofs.YtfffefhchjnfjaaGreatDoor
open Go.RowKit

/-- how many bytes an answer holds -/
def dl : Out → Nat
  | .ev (.data d) => d.length
  | _ => 0
theorem An.Ok.dlen {B : Nat} {w : World} {x : An} {o : Out} (h : x.Ok B w o) : x.dn = dl o := by
  match o, h with
  | .none, h => rw [h]; rfl
  | .bad c, h => rw [h]; rfl
  | .ev (.head st l fr), h => rw [h.1]; rfl
  | .ev (.data d), h => rw [h.1]; rfl
  | .ev (.fin l), h => rw [h.1]; rfl
theorem dl_wait (s : HSt) : dl (waitV s).2 = 0 := by unfold waitV; cases s.ended <;> rfl
theorem dl_le (s : HSt) (n : Nat) : dl (pieceV s n).2 ≤ n := by
  unfold pieceV
  split
  · rw [dl_wait]; exact Nat.zero_le _
  · show (s.b.take _).length ≤ n
    rw [List.length_take]; omega
theorem left_piece (s : HSt) : leftV s = ({ (pieceV s s.left).1 with left := s.left - dl (pieceV s s.left).2 }, (pieceV s s.left).2) := by
  unfold leftV pieceV
  by_cases h : min s.left s.b.length = 0
  · rw [if_pos h, if_pos h, dl_wait]
    unfold waitV
    cases s.ended <;> rfl
  · rw [if_neg h, if_neg h]
    show (_ : HSt × Out) = (({ s with b := _, left := s.left - (s.b.take _).length } : HSt), _)
    rw [List.length_take, show min (min s.left s.b.length) s.b.length = min s.left s.b.length by omega]
theorem piece_left (s : HSt) (n : Nat) : (pieceV s n).1.left = s.left := by
  unfold pieceV
  split
  · rfl
  · rfl
theorem RdS.lfc {w : World} {g lim : Nat} {hd : Bool} {bk : Option Nat} {s : HSt} (h : RdS w g hd lim bk s) : w.cell? ⟨g, 10, none⟩ = some (.int .i64 (s.left : Int)) := by
  obtain ⟨r, a, n, c, hr, _, _, _, _, _, _, _, _, _, _, _, _, h9⟩ := h.ex
  rw [← h9]; exact hr.at 10 rfl
theorem RdS.enc {w : World} {g lim : Nat} {hd : Bool} {bk : Option Nat} {s : HSt} (h : RdS w g hd lim bk s) : w.cell? ⟨g, 3, none⟩ = some (.bool s.ended) := by
  obtain ⟨r, a, n, c, hr, _, _, _, _, _, _, h3, _⟩ := h.ex
  rw [← h3]; exact hr.at 3 rfl
theorem lgj {n d k : Nat} (hd : d ≤ n) (hn : n ≤ 1000000000000000) (hk : k = n - d) : IntKind.i64.wrap ((n : Int) - (d : Int)) = (k : Int) ∧ RowKit.wrap64 ((n : Int) - (d : Int)) = (k : Int) := by
  rw [IntKind.wrap_i64]; unfold RowKit.wrap64; omega
theorem lgz {n : Nat} : (n = 0 → ((n : Int) == 0) = true ∧ ((n : Int) = 0) = True) ∧ (¬ n = 0 → ((n : Int) == 0) = false ∧ ((n : Int) = 0) = False) :=
  ⟨fun h => ⟨by rw [beq_iff_eq]; omega, eq_true (by omega)⟩, fun h => ⟨by rw [beq_eq_false_iff_ne]; omega, eq_false (by omega)⟩⟩
/-- a piece was told as x; the box of it, and what is left -/
theorem left_told {w2 w3 w4 w5 : World} {g g3 lim : Nat} {hd : Bool} {bk : Option Nat} {s : HSt} {x : An} {k : Nat} (hg : g < w2.heap.size) (hw3 : w2.heap.size ≤ w3.heap.size) (hg3 : g3 = w3.heap.size)
    (hrd : RdS w3 g hd lim bk (pieceV s s.left).1) (hkp : Kept (fun k => k = g) w2 w3) (hok : x.Ok w2.heap.size w3 (pieceV s s.left).2)
    (hw4 : w4 = w3.alloc (.cells #[.int .i64 x.k, .int .i64 x.st, .slice x.fa x.fn x.fc, .int .i64 x.fr, .slice x.da x.dn x.dc] 33)) (hw5 : w5 = w4.drew) (hk : k = s.left - x.dn) :
    Has w5 g3 33 x.cs ∧ RdS w5 g hd lim bk (pieceV s s.left).1 ∧
    RdS (w5.setCell ⟨g, 10, none⟩ (.int .i64 (k : Int))) g hd lim bk (leftV s).1 ∧ Kept (fun k => k = g) w2 (w5.setCell ⟨g, 10, none⟩ (.int .i64 (k : Int))) ∧ x.Ok w2.heap.size (w5.setCell ⟨g, 10, none⟩ (.int .i64 (k : Int))) (leftV s).2 ∧ Has (w5.setCell ⟨g, 10, none⟩ (.int .i64 (k : Int))) g3 33 x.cs := by
  have hb : Below w3.heap.size w3 w4 := by
    rw [hw4]
    exact (Below.refl w3.heap.size w3).alloc (Nat.le_refl _) _
  have hh : Has w4 g3 33 x.cs := by
    rw [hw4, hg3]
    exact Has.new w3 33 _
  have hb5 : Below w3.heap.size w3 w5 := by rw [hw5]; exact hb.trans ((below_drewN (Below.refl _ _) 1).mono hb.size)
  have hh5 : Has w5 g3 33 x.cs := by rw [hw5]; exact Has.kept (X := none') hh (Kept.drew _ _) (fun h => h)
  have hr5 := (hrd.below hb5).lf k
  have hks := Kept.set w5 g 10 (.int .i64 (k : Int))
  have hlg : g < w3.heap.size := Nat.lt_of_lt_of_le hg hw3
  refine ⟨hh5, hrd.below hb5, ?_, ?_, ?_, ?_⟩
  · rw [left_piece, ← hok.dlen, ← hk]
    exact hr5
  · exact (hkp.trans (Kept.of_below (X := fun k => k = g) hb5) (fun _ _ h => h)).trans hks (fun _ _ h => h)
  · rw [left_piece]
    refine An.Ok.kept (X := fun k => k = g) ?_ hks (fun k hk e => by omega)
    exact hok.kept (X := fun k => k = g) (Kept.of_below (X := fun k => k = g) hb5) (fun k hk e => by omega)
  · exact Has.kept (X := fun k => k = g) hh5 hks (by omega)
set_option maxRecDepth 100000 in
set_option maxHeartbeats 4000000 in
theorem length_step_any (w : World) {g lim : Nat} {hd : Bool} {bk : Option Nat} {s : HSt} (h : RdS w g hd lim bk s) (hz : s.b.length ≤ 140737488355328) (hl : s.left ≤ 1000000000000000) :
    Calls Tryz.prog 49 #[.pointer (some ⟨g, 0, none⟩)] w (EvR w g hd lim bk (if s.left = 0 then endV s [] else leftV s)) := by
  obtain ⟨w2, hw2⟩ : ∃ w2, w2 = w.alloc (.cells #[.int .i64 0, .int .i64 0, .slice none 0 0, .int .i64 0, .slice none 0 0] 33) := ⟨_, rfl⟩
  obtain ⟨g2, hg2⟩ : ∃ g2, g2 = w.heap.size := ⟨_, rfl⟩
  have HH2 : Hid (Has w2 g2 33 ev0) := Lib.hid (by rw [hw2, hg2]; exact Has.new w 33 #[.int .i64 0, .int .i64 0, .slice none 0 0, .int .i64 0, .slice none 0 0])
  have hb2 : Below w.heap.size w w2 := by rw [hw2]; exact (Below.refl _ w).alloc (Nat.le_refl _) _
  have HR2 := Lib.hid (h.below hb2)
  have HB2 := Lib.hid hb2
  have H := Lib.hid h
  have HG2 := Lib.hid hg2
  clear h hb2
  have c10 := HR2.out.lfc
  by_cases h0 : s.left = 0
  · obtain ⟨y1, y2⟩ := lgz.1 h0
    rw [if_pos h0]
    have HE := Lib.hid (end_any w2 HR2.out none 0 0)
    clear h0 hz hl
    go_enter Tryz.func49, Tryz.ntmps49
    go_upto_region 1 with fail
    rw [← hw2, ← hg2]
    clear hw2 hg2
    go_wp2_with fail
    refine HE.out.mono ?_
    rintro e w3 ⟨hrd, hk, rfl⟩
    obtain ⟨hth, hst, hev⟩ := EvR.fwd (p := endV s []) (x := ⟨3, 0, none, 0, 0, 0, none, 0, 0, true, 0⟩) H.out.lt H.out.bk_lt HG2.out HH2.out HB2.out hrd hk ⟨rfl, .inl ⟨rfl, rfl, rfl⟩⟩
    have HSt := Lib.hid hst
    have HEv := Lib.hid hev
    have ho1 := ev_one 3 0 0 none none 0 0 0 0
    clear hrd hk hst hev
    go_wp2_with (refine wpList_store_mid rfl 33 (.tmp 2) (.tmp 15) rfl g2 0 #[.int .i64 3, .int .i64 0, .slice none 0 0, .int .i64 0, .slice none 0 0] rfl rfl hth infoEv ho1 ?_)
    refine bodyPost_ret (results_ev3 rfl _ rfl HSt.out rfl) rfl ?_
    exact HEv.out
  · obtain ⟨y1, y2⟩ := lgz.2 h0
    rw [if_neg h0]
    have HE := Lib.hid (piece_any w2 HR2.out s.left hz)
    have HL := Lib.hid hl
    clear h0 hz hl
    go_enter Tryz.func49, Tryz.ntmps49
    go_upto_region 1 with fail
    rw [← hw2, ← hg2]
    clear hw2 hg2
    go_wp2_with fail
    refine HE.out.mono ?_
    rintro e w3 ⟨x, rfl, hrd, hkp, hok⟩
    unfold An.v
    obtain ⟨g3, hg3⟩ : ∃ g3, g3 = w3.heap.size := ⟨_, rfl⟩
    obtain ⟨w4, hw4⟩ : ∃ w4, w4 = w3.alloc (.cells #[.int .i64 x.k, .int .i64 x.st, .slice x.fa x.fn x.fc, .int .i64 x.fr, .slice x.da x.dn x.dc] 33) := ⟨_, rfl⟩
    obtain ⟨w5, hw5⟩ : ∃ w5, w5 = w4.drew := ⟨_, rfl⟩
    obtain ⟨k, hk⟩ : ∃ k, k = s.left - x.dn := ⟨_, rfl⟩
    have hd4 : x.dn ≤ s.left := by rw [hok.dlen]; exact dl_le s s.left
    obtain ⟨hh5, hr5, hr6, hk6, ho6, hh6⟩ := left_told HR2.out.lt hkp.size hg3 hrd hkp hok hw4 hw5 hk
    have ho1 := ev_one x.k x.st x.fr x.fa x.da x.fn x.fc x.dn x.dc
    obtain ⟨hth, hst, hev⟩ := EvR.fwd (p := leftV s) H.out.lt H.out.bk_lt HG2.out HH2.out HB2.out hr6 hk6 ho6
    obtain ⟨z1, z2⟩ := lgj hd4 HL.out hk
    have HH5 := Lib.hid hh5
    have HR5 := Lib.hid hr5
    have HH6 := Lib.hid hh6
    have HTh := Lib.hid hth
    have HSt := Lib.hid hst
    have HEv := Lib.hid hev
    have c10n := hr5.lfc
    rw [piece_left] at c10n
    have c4 : w5.cell? ⟨g3, 4, none⟩ = some (.slice x.da x.dn x.dc) := hh5.cell 4 rfl
    have f10 := hr5.free 10
    have HC := Lib.hid (And.intro c10n c4)
    clear hrd hkp hok hk hd4 hh5 hr5 hr6 hk6 ho6 hth hst hev HH2 HB2 HR2 hh6 c10n c4 f10
    have HW4 := Lib.hid hw4
    clear hw4
    go_wp2_with fail
    rw [← HW4.out, ← hg3]
    clear c10 y1 y2 hg3 HW4
    refine Mx.regionZ [] (fun w' => w'.cell? ⟨g, 10, none⟩ = some (.int .i64 (s.left : Int)) ∧ w'.cell? ⟨g3, 4, none⟩ = some (.slice x.da x.dn x.dc)) (by kernel_rfl) (by kernel_rfl) (by rw [← hw5]; exact HC.out) ?_
    rw [← hw5]
    clear hw5
    repeat ((first | (refine Mx.skips (by kernel_rfl) ?_; go_big_quiet_skip) | (refine Mx.quietly rfl ?_; go_big_quiet_want; go_big_quiet_op; go_big_quiet_on)); refine Mx.done ?_)
    refine Mx.cell ⟨g, 10, none⟩ (.int .i64 (s.left : Int)) (by kernel_rfl) (by kernel_rfl) (by kernel_rfl) Tryz.isAgg3 (fun w' h => h.1) ?_
    go_big_quiet_want; go_big_quiet_op; go_big_quiet_on; refine Mx.done ?_
    repeat ((first | (refine Mx.skips (by kernel_rfl) ?_; go_big_quiet_skip) | (refine Mx.quietly rfl ?_; go_big_quiet_want; go_big_quiet_op; go_big_quiet_on)); refine Mx.done ?_)
    refine Mx.cell ⟨g3, 4, none⟩ (.slice x.da x.dn x.dc) (by kernel_rfl) (by kernel_rfl) (by kernel_rfl) Tryz.isAgg23 (fun w' h => h.2) ?_
    go_big_quiet_want; go_big_quiet_op; go_big_quiet_on; refine Mx.done ?_
    repeat ((first | (refine Mx.skips (by kernel_rfl) ?_; go_big_quiet_skip) | (refine Mx.quietly rfl ?_; go_big_quiet_want; go_big_quiet_op; go_big_quiet_on)); refine Mx.done ?_)
    have c10 := HC.out.1
    have f10 := HR5.out.free 10
    refine Mx.atLast (by kernel_rfl) (by kernel_rfl) ?_
    go_upto_region 5 with fail
    obtain ⟨w6, hw6⟩ : ∃ w6, w6 = w5.setCell ⟨g, 10, none⟩ (.int .i64 (k : Int)) := ⟨_, rfl⟩
    rw [← hw6] at HH6 HTh HSt HEv ⊢
    clear hw6 c10 f10
    have e0 : w6.cell? ⟨g3, 0, none⟩ = some (.int .i64 x.k) := HH6.out.cell 0 rfl
    have e1 : w6.cell? ⟨g3, 1, none⟩ = some (.int .i64 x.st) := HH6.out.cell 1 rfl
    have e2 : w6.cell? ⟨g3, 2, none⟩ = some (.slice x.fa x.fn x.fc) := HH6.out.cell 2 rfl
    have e3 : w6.cell? ⟨g3, 3, none⟩ = some (.int .i64 x.fr) := HH6.out.cell 3 rfl
    have e4 : w6.cell? ⟨g3, 4, none⟩ = some (.slice x.da x.dn x.dc) := HH6.out.cell 4 rfl
    have hth := HTh.out
    go_wp2_with (refine wpList_store_mid rfl 33 (.tmp 2) (.tmp 38) rfl g2 0 #[.int .i64 x.k, .int .i64 x.st, .slice x.fa x.fn x.fc, .int .i64 x.fr, .slice x.da x.dn x.dc] rfl rfl hth infoEv ho1 ?_)
    refine bodyPost_ret (results_ev3 rfl _ rfl HSt.out rfl) rfl ?_
    exact HEv.out
set_option maxRecDepth 100000 in
set_option maxHeartbeats 4000000 in
theorem close_step_any (w : World) {g lim : Nat} {hd : Bool} {bk : Option Nat} {s : HSt} (h : RdS w g hd lim bk s) (hz : s.b.length ≤ 140737488355328) :
    Calls Tryz.prog 50 #[.pointer (some ⟨g, 0, none⟩)] w (EvR w g hd lim bk (if s.ended = true ∧ s.b = [] then endV s [] else pieceV s s.b.length)) := by
  obtain ⟨w2, hw2⟩ : ∃ w2, w2 = w.alloc (.cells #[.int .i64 0, .int .i64 0, .slice none 0 0, .int .i64 0, .slice none 0 0] 33) := ⟨_, rfl⟩
  obtain ⟨g2, hg2⟩ : ∃ g2, g2 = w.heap.size := ⟨_, rfl⟩
  have HH2 : Hid (Has w2 g2 33 ev0) := Lib.hid (by rw [hw2, hg2]; exact Has.new w 33 #[.int .i64 0, .int .i64 0, .slice none 0 0, .int .i64 0, .slice none 0 0])
  have hb2 : Below w.heap.size w w2 := by rw [hw2]; exact (Below.refl _ w).alloc (Nat.le_refl _) _
  have HR2 := Lib.hid (h.below hb2)
  have HB2 := Lib.hid hb2
  have H := Lib.hid h
  have HG2 := Lib.hid hg2
  clear h hb2
  have c3 := HR2.out.enc
  obtain ⟨a, c, c2, ht⟩ := HR2.out.bytes
  have hb0 : s.b.length = 0 ↔ s.b = [] := List.length_eq_zero_iff
  obtain ⟨k, hk⟩ : ∃ k, k = s.b.length := ⟨_, rfl⟩
  rw [← hk] at c2 hb0
  have HPc := Lib.hid (piece_any w2 HR2.out k hz)
  clear ht hz
  rw [← hk]
  clear hk
  cases hen : s.ended with
  | true =>
    rw [hen] at c3
    by_cases h0 : k = 0
    · obtain ⟨y1, y2⟩ := lgz.1 h0
      rw [if_pos ⟨rfl, hb0.1 h0⟩]
      have HE := Lib.hid (end_any w2 HR2.out none 0 0)
      clear h0 hb0 hen HPc
      go_enter Tryz.func50, Tryz.ntmps50
      go_upto_region 1 with fail
      rw [← hw2, ← hg2]
      clear hw2 hg2
      go_wp2_with fail
      refine HE.out.mono ?_
      rintro e w3 ⟨hrd, hk, rfl⟩
      obtain ⟨hth, hst, hev⟩ := EvR.fwd (p := endV s []) (x := ⟨3, 0, none, 0, 0, 0, none, 0, 0, true, 0⟩) H.out.lt H.out.bk_lt HG2.out HH2.out HB2.out hrd hk ⟨rfl, .inl ⟨rfl, rfl, rfl⟩⟩
      have HSt := Lib.hid hst
      have HEv := Lib.hid hev
      have ho1 := ev_one 3 0 0 none none 0 0 0 0
      clear hrd hk hst hev
      go_wp2_with (refine wpList_store_mid rfl 33 (.tmp 2) (.tmp 19) rfl g2 0 #[.int .i64 3, .int .i64 0, .slice none 0 0, .int .i64 0, .slice none 0 0] rfl rfl hth infoEv ho1 ?_)
      refine bodyPost_ret (results_ev3 rfl _ rfl HSt.out rfl) rfl ?_
      exact HEv.out
    · obtain ⟨y1, y2⟩ := lgz.2 h0
      rw [if_neg (fun h => h0 (hb0.2 h.2))]
      clear h0 hb0 hen
      go_enter Tryz.func50, Tryz.ntmps50
      go_upto_region 1 with fail
      rw [← hw2, ← hg2]
      clear hw2 hg2
      go_wp2_with fail
      refine HPc.out.mono ?_
      rintro e w3 ⟨x, rfl, hrd, hkp, hok⟩
      obtain ⟨hth, hst, hev⟩ := EvR.fwd H.out.lt H.out.bk_lt HG2.out HH2.out HB2.out hrd hkp hok
      have HSt := Lib.hid hst
      have HEv := Lib.hid hev
      have ho1 := ev_one x.k x.st x.fr x.fa x.da x.fn x.fc x.dn x.dc
      clear hrd hkp hok hst hev
      unfold An.v
      go_wp2_with (refine wpList_store_mid rfl 33 (.tmp 2) (.tmp 29) rfl g2 0 #[.int .i64 x.k, .int .i64 x.st, .slice x.fa x.fn x.fc, .int .i64 x.fr, .slice x.da x.dn x.dc] rfl rfl hth infoEv ho1 ?_)
      refine bodyPost_ret (results_ev3 rfl _ rfl HSt.out rfl) rfl ?_
      exact HEv.out
  | false =>
    rw [hen] at c3
    rw [if_neg (fun h => by cases h.1)]
    clear hb0 hen
    go_enter Tryz.func50, Tryz.ntmps50
    go_upto_region 1 with fail
    rw [← hw2, ← hg2]
    clear hw2 hg2
    go_wp2_with fail
    refine HPc.out.mono ?_
    rintro e w3 ⟨x, rfl, hrd, hkp, hok⟩
    obtain ⟨hth, hst, hev⟩ := EvR.fwd H.out.lt H.out.bk_lt HG2.out HH2.out HB2.out hrd hkp hok
    have HSt := Lib.hid hst
    have HEv := Lib.hid hev
    have ho1 := ev_one x.k x.st x.fr x.fa x.da x.fn x.fc x.dn x.dc
    clear hrd hkp hok hst hev
    unfold An.v
    go_wp2_with (refine wpList_store_mid rfl 33 (.tmp 2) (.tmp 29) rfl g2 0 #[.int .i64 x.k, .int .i64 x.st, .slice x.fa x.fn x.fc, .int .i64 x.fr, .slice x.da x.dn x.dc] rfl rfl hth infoEv ho1 ?_)
    refine bodyPost_ret (results_ev3 rfl _ rfl HSt.out rfl) rfl ?_
    exact HEv.out
end Go.Proofs.YtfffefhchjnfjaaGreatDoor

namespace Go.Proofs.YtfffefhchjnfjaaGreatDoor
open Go.RowKit

theorem nums_bv (l : List UInt8) : (nums l).map (Value.int .u8) = bv l := by simp [nums, bv, Function.comp_def]
theorem sl_in {w : World} {a : Option Addr} {n c : Nat} {l : List UInt8} (h : Sl w a n c (bv l)) : Lib.BytesIn w a n (nums l) := by
  cases a with
  | none =>
    have h1 := h.nil rfl
    have h2 := h.cap_le
    obtain rfl : n = 0 := by omega
    obtain rfl : l = [] := List.eq_nil_of_length_eq_zero h.byte
    exact Lib.BytesIn.nil _ _ _
  | some ad => exact Lib.BytesIn.of_cells (sl_cells h)
theorem hasp_any (w : World) {a1 a2 : Option Addr} {n c m d : Nat} {l p : List UInt8} (h1 : Sl w a1 n c (bv l)) (h2 : Sl w a2 m d (bv p)) : Calls Tryz.prog 93 #[.slice a1 n c, .slice a2 m d] w (Ret w (.bool (p.isPrefixOf l))) := by
  refine (Tryz.bytes_HasPrefix_all a1 a2 n c m d (nums l) (nums p) w (by simp [nums, h1.byte]) (by simp [nums, h2.byte]) h1.cap_le (sl_in h1) (sl_in h2)).mono ?_
  rintro e w' ⟨rfl, rfl⟩
  rw [nums_bytes, nums_bytes]
  exact ⟨rfl, rfl⟩
theorem badTr_eq (nm va : ByteArray) : badTr ⟨nm, va⟩ = (decide (bl nm = lenN) || decide (bl nm = traN)) := rfl
set_option maxRecDepth 100000 in
theorem trfld_any (w : World) (nm va : ByteArray) : Calls Tryz.prog 95 #[.agg #[.string nm, .string va]] w (BoolOf w (badTr ⟨nm, va⟩)) := by
  obtain ⟨R, hR⟩ : ∃ R, R = badTr ⟨nm, va⟩ := ⟨_, rfl⟩
  rw [← hR]
  rw [badTr_eq] at hR
  obtain ⟨w2, hw2⟩ : ∃ w2, w2 = w.alloc (.cells #[.string nm, .string va] 58) := ⟨_, rfl⟩
  obtain ⟨g2, hg2⟩ : ∃ g2, g2 = w.heap.size := ⟨_, rfl⟩
  have hh2 : Has w2 g2 58 [.string nm, .string va] := by rw [hw2, hg2]; exact Has.new w 58 #[.string nm, .string va]
  have HB2 : Hid (Below w.heap.size w w2) := Lib.hid (by rw [hw2]; exact (Below.refl _ w).alloc (Nat.le_refl _) _)
  have q0 : w2.cell? ⟨g2, 0, none⟩ = some (.string nm) := hh2.cell 0 rfl
  have q1 : w2.cell? ⟨g2, 1, none⟩ = some (.string va) := hh2.cell 1 rfl
  clear hh2
  by_cases h1 : bl nm = lenN
  · obtain ⟨e1, e2⟩ : (nm.toList == [99, 111, 110, 116, 101, 110, 116, 45, 108, 101, 110, 103, 116, 104]) = true ∧ (nm.toList = [99, 111, 110, 116, 101, 110, 116, 45, 108, 101, 110, 103, 116, 104]) = True := eqT2 h1
    obtain rfl : R = true := by rw [hR, decide_eq_true h1]; rfl
    clear hR h1
    go_enter Tryz.func95, Tryz.ntmps95
    go_upto_region 1 with fail
    rw [← hw2, ← hg2]
    clear hw2 hg2
    go_wp2
    go_ret
    exact ⟨rfl, HB2.out⟩
  · obtain ⟨e1, e2⟩ : (nm.toList == [99, 111, 110, 116, 101, 110, 116, 45, 108, 101, 110, 103, 116, 104]) = false ∧ (nm.toList = [99, 111, 110, 116, 101, 110, 116, 45, 108, 101, 110, 103, 116, 104]) = False := eqF2 h1
    rw [decide_eq_false h1] at hR
    by_cases h2 : bl nm = traN
    · obtain ⟨e3, e4⟩ : (nm.toList == [116, 114, 97, 110, 115, 102, 101, 114, 45, 101, 110, 99, 111, 100, 105, 110, 103]) = true ∧ (nm.toList = [116, 114, 97, 110, 115, 102, 101, 114, 45, 101, 110, 99, 111, 100, 105, 110, 103]) = True := eqT2 h2
      obtain rfl : R = true := by rw [hR, decide_eq_true h2]; rfl
      clear hR h1 h2
      go_enter Tryz.func95, Tryz.ntmps95
      go_upto_region 1 with fail
      rw [← hw2, ← hg2]
      clear hw2 hg2
      go_wp2
      go_ret
      exact ⟨rfl, HB2.out⟩
    · obtain ⟨e3, e4⟩ : (nm.toList == [116, 114, 97, 110, 115, 102, 101, 114, 45, 101, 110, 99, 111, 100, 105, 110, 103]) = false ∧ (nm.toList = [116, 114, 97, 110, 115, 102, 101, 114, 45, 101, 110, 99, 111, 100, 105, 110, 103]) = False := eqF2 h2
      obtain rfl : R = false := by rw [hR, decide_eq_false h2]; rfl
      clear hR h1 h2
      go_enter Tryz.func95, Tryz.ntmps95
      go_upto_region 1 with fail
      rw [← hw2, ← hg2]
      clear hw2 hg2
      go_wp2
      go_ret
      exact ⟨rfl, HB2.out⟩
/-- the place of the first -/
def IdxF (w : World) (p : Fd → Bool) (l : List Fd) (e : Ending) (w' : World) : Prop := ∃ z : Int, e = .returned (.int .i64 z) ∧ (decide (0 ≤ z) = l.any p) ∧ Below w.heap.size w w'
theorem any_take {p : Fd → Bool} {l : List Fd} {i : Nat} (h : i < l.length) : (l.take (i + 1)).any p = ((l.take i).any p || p l[i]) := by
  rw [List.take_succ_eq_append_getElem h, List.any_append]; simp
theorem any_hit {p : Fd → Bool} {l : List Fd} {i : Nat} (h : i < l.length) (hp : p l[i] = true) : l.any p = true := List.any_eq_true.2 ⟨l[i], List.getElem_mem _, hp⟩
set_option maxRecDepth 100000 in
set_option maxHeartbeats 1000000 in
theorem tindex_any (w : World) {a : Option Addr} {n c : Nat} {l : List Fd} (h : SlS w a n c l) : Calls Tryz.prog 111 #[.slice a n c, .func (.func 95) #[] #[]] w (IdxF w badTr l) := by
  have hl := h.len
  have hc1 := h.cap
  have hc2 := h.max
  have HS := Lib.hid h
  have HL := Lib.hid hl
  have HC := Lib.hid (And.intro hc1 hc2)
  clear h hl hc1 hc2
  go_enter Tryz.func111, Tryz.ntmps111
  go_wp2_with fail
  go_loopw [8] (fun v wr => ∃ i : Nat, v = .int .i64 (i : Int) ∧ i ≤ n ∧ Hid ((l.take i).any badTr = false) ∧ Below w.heap.size w wr) (fun v _ => n - (intOf v).toNat)
  case atStart => exact ⟨0, rfl, Nat.zero_le _, Lib.hid rfl, Below.refl _ _⟩
  case round =>
    obtain ⟨i, rfl, hin, HP, hb⟩ := hrel
    by_cases hi : i < n
    · have hil : (i : Int) < (n : Int) := by omega
      have hiz : i < l.length := by rw [HL.out]; exact hi
      obtain ⟨b, off, rfl, hcs⟩ := HS.out.cells (by omega)
      obtain ⟨p0, p1⟩ := hcs i hiz
      have p0 : wr.cell? _ = _ := (hb.cell (World.block_lt_of_cell? w _ p0)).trans p0
      have p1 : wr.cell? _ = _ := (hb.cell (World.block_lt_of_cell? w _ p1)).trans p1
      obtain ⟨f, hf⟩ : ∃ f, f = l[i] := ⟨_, rfl⟩
      rw [← hf] at p0 p1
      obtain ⟨nm, va⟩ := f
      simp only at p0 p1
      have hB := trfld_any wr nm va
      have HN : Hid ((l.take (i + 1)).any badTr = ((l.take i).any badTr || badTr ⟨nm, va⟩)) := Lib.hid (by rw [hf]; exact any_take hiz)
      have HA : Hid (badTr ⟨nm, va⟩ = true → l.any badTr = true) := Lib.hid (fun h => by rw [hf] at h; exact any_hit hiz h)
      have hiw := wrap_up hi HC.out.1 HC.out.2
      have HIw := Lib.hid hiw
      have HBr := Lib.hid hb
      have HI := Lib.hid hi
      clear hcs hf hb hi
      cases hnb : badTr ⟨nm, va⟩ with
      | false =>
        rw [hnb] at hB HN
        have HB := Lib.hid hB
        clear hnb hB
        go_wp2_with fail
        refine HB.out.mono ?_
        rintro e w2 ⟨rfl, hb2⟩
        have HB2 := Lib.hid (HBr.out.trans (hb2.mono HBr.out.size))
        clear hb2
        go_wp2_with fail
        go_roundw
        case rel => exact ⟨i + 1, by rw [HIw.out]; push_cast; rfl, HI.out, Lib.hid (by rw [HN.out, HP.out]; rfl), HB2.out⟩
        case measure => rw [HIw.out]; exact meas_up HI.out
      | true =>
        rw [hnb] at hB
        have HB := Lib.hid hB
        have HAl := Lib.hid (HA.out hnb)
        clear hnb hB
        go_wp2_with fail
        refine HB.out.mono ?_
        rintro e w2 ⟨rfl, hb2⟩
        have HB2 := Lib.hid (HBr.out.trans (hb2.mono HBr.out.size))
        clear hb2
        go_wp2
        go_ret
        exact ⟨(i : Int), rfl, by rw [HAl.out]; simp, HB2.out⟩
    · have hil : ¬ (i : Int) < (n : Int) := by omega
      have HAl : Hid (l.any badTr = false) := Lib.hid (by have := HP.out; rwa [List.take_of_length_le (by rw [HL.out]; omega)] at this)
      have HBr := Lib.hid hb
      clear hb
      go_wp2
      go_ret
      exact ⟨-1, rfl, by rw [HAl.out]; rfl, HBr.out⟩
set_option maxRecDepth 100000 in
theorem tcont_any (w : World) {a : Option Addr} {n c : Nat} {l : List Fd} (h : SlS w a n c l) : Calls Tryz.prog 94 #[.slice a n c, .func (.func 95) #[] #[]] w (BoolOf w (l.any badTr)) := by
  have HI := Lib.hid (tindex_any w h)
  clear h
  go_enter Tryz.func94, Tryz.ntmps94
  go_wp2_with fail
  refine HI.out.mono ?_
  rintro e w2 ⟨z, rfl, hz, hb⟩
  have HZ := Lib.hid hz
  have HB := Lib.hid hb
  clear hz hb
  by_cases h0 : 0 ≤ z
  · go_wp2
    go_ret
    exact ⟨ret_bool (by rw [← HZ.out]; try simp [h0]), HB.out⟩
  · go_wp2
    go_ret
    exact ⟨ret_bool (by rw [← HZ.out]; try simp [h0]), HB.out⟩
end Go.Proofs.YtfffefhchjnfjaaGreatDoor

namespace Go.Proofs.YtfffefhchjnfjaaGreatDoor
open Go.RowKit

theorem splitG_le : ∀ (n : Nat) (l : List UInt8), ∀ x ∈ splitG n l, x.length ≤ l.length
  | 0, l, x, h => by simp [splitG] at h; subst h; exact Nat.le_refl _
  | n + 1, l, x, h => by
    unfold splitG at h
    split at h
    · simp at h; subst h; exact Nat.le_refl _
    · rename_i y r hc
      have h1 := cut_lt hc
      rcases List.mem_cons.1 h with rfl | h
      · omega
      · have := splitG_le n r x h; omega
theorem blk_sizes {limit : Nat} {b : List UInt8} {e : Bool} {ls : List (List UInt8)} {r : List UInt8} (h : blkV limit b e = .ok ls r) : 1 ≤ ls.length ∧ ls.length ≤ b.length + 1 ∧ ∀ x ∈ ls, x.length ≤ b.length := by
  unfold blkV at h
  split at h
  · split at h
    · cases h
    · split at h <;> cases h
  · rename_i x r' hc
    have hl := cutS_lt hc
    split at h
    · cases h
    · cases h
      refine ⟨split_len _ _, ?_, fun y hy => ?_⟩
      · have := split_cnt (x.length + 1) x; unfold splitL; omega
      · have := splitG_le (x.length + 1) x y hy; omega
theorem RdS.block {w : World} (ht : Tab w) {g lim : Nat} {hd : Bool} {bk : Option Nat} {s : HSt} (h : RdS w g hd lim bk s) (hz : s.b.length < 4294967281) :
    Calls Tryz.prog 32 #[.pointer (some ⟨g, 0, none⟩)] w (BlkR w s.b (blkV lim s.b s.ended)) := by
  obtain ⟨r, a, n, c, hr, hbf, htl, _, _, _, h2, h3, _⟩ := h.ex
  have hn := htl.sl.byte
  rw [← h3]
  exact block_any w ht hr hbf h2 htl.sl (by omega)
/-- the row's marked literal -/
theorem mark_sl (w : World) : Sl (w.alloc (.cells #[.int .u8 13, .int .u8 10] 5 (2, 3))) (some ⟨w.heap.size, 0, none⟩) 2 2 (bv crS) := by
  refine ⟨rfl, Nat.le_refl _, by decide, by simp, fun _ => ⟨w.heap.size, 0, rfl, fun i hi => ?_⟩⟩
  rw [Nat.zero_add, cell_of_row _ w.heap.size i _ 5 (2, 3) (heap_alloc_new w _)]
  match i, hi with
  | 0, _ => rfl
  | 1, _ => rfl
theorem mark_kc (w : World) : (convert 23 23 (.slice (some ⟨w.heap.size, 0, none⟩) 2 2)).run Tryz.prog (w.alloc (.cells #[.int .u8 13, .int .u8 10] 5)) = .ok (.slice (some ⟨w.heap.size, 0, none⟩) 2 2) (w.alloc (.cells #[.int .u8 13, .int .u8 10] 5 (2, 3))) := Lib.run_convert_bytes_const (P := Tryz.prog) w 23 5 #[.int .u8 13, .int .u8 10] 2 2 Tryz.underlying23 Tryz.underlying5
/-- r.b = r.b[q:], wherever the address then is -/
theorem RdS.cut2 {w : World} {g lim : Nat} {hd : Bool} {bk : Option Nat} {s : HSt} (h : RdS w g hd lim bk s) {ad : Addr} {V : Option Addr} {k c q : Nat} (hk : k = s.b.length) (c2 : w.cell? ⟨g, 2, none⟩ = some (.slice (some ad) k c)) (hq : q ≤ k) (hA : V = if c = q then some ad else some (ad.add q)) :
    RdS (w.setCell ⟨g, 2, none⟩ (.slice V (k - q) (c - q))) g hd lim bk { s with b := s.b.drop q } := by
  obtain ⟨r, a, n, c', hr, hbf, ht0, hne, hbk, rest⟩ := h.ex
  have e : r.bf = .slice (some ad) k c := by
    have h2 : w.cell? ⟨g, 2, none⟩ = some r.bf := hr.at 2 rfl
    rw [c2] at h2; exact (Option.some.inj h2).symm
  rw [hbf] at e
  cases e
  have hbv : (bv s.b).drop q = bv (s.b.drop q) := by simp [bv]
  have ht : ∃ A, V = some A ∧ A.block = ad.block ∧ Tl w (some A) (k - q) (c - q) (bv (s.b.drop q)) := by
    by_cases hc : c = q
    · rw [if_pos hc] at hA
      have hcap := ht0.sl.cap_le
      have h1 := ht0.drop_end (m := k - q) (by omega)
      have e1 : k = q := by omega
      refine ⟨ad, hA, rfl, ?_⟩
      rw [show c - q = c - c by omega, ← hbv]
      rw [e1] at h1 ⊢
      exact h1
    · rw [if_neg hc] at hA
      refine ⟨_, hA, by unfold Addr.add; split <;> rfl, ?_⟩
      rw [← hbv]
      exact ht0.drop hq
  obtain ⟨A, rfl, hb, ht⟩ := ht
  exact h.cut (k := k) (c := c) (q := q) c2 hb ht
theorem RdS.buf {w : World} {g lim : Nat} {hd : Bool} {bk : Option Nat} {s : HSt} (h : RdS w g hd lim bk s) (hn : 0 < s.b.length) : ∃ ad c, w.cell? ⟨g, 2, none⟩ = some (.slice (some ad) s.b.length c) ∧ s.b.length ≤ c ∧ c ≤ maxLen := by
  obtain ⟨a, c, c2, ht⟩ := h.bytes
  cases a with
  | some ad => exact ⟨ad, c, c2, ht.sl.cap_le, ht.sl.cap_max⟩
  | none => have := ht.sl.nil rfl; have := ht.sl.cap_le; omega
theorem tr2j {k : Nat} : (k < 2 → ((k : Int) < 2) = True) ∧ (¬ k < 2 → ((k : Int) < 2) = False) := ⟨fun h => eq_true (by omega), fun h => eq_false (by omega)⟩
theorem pre_two {b : List UInt8} (h : crS.isPrefixOf b = true) : 2 ≤ b.length := by
  have := pre_drop h
  rw [this]; simp [crS]
set_option maxRecDepth 100000 in
set_option maxHeartbeats 4000000 in
theorem trail_step_any (w : World) (htb : Tab w) {g lim : Nat} {hd : Bool} {bk : Option Nat} {s : HSt} (h : RdS w g hd lim bk s) (hz : s.b.length < 4294967281) :
    Calls Tryz.prog 74 #[.pointer (some ⟨g, 0, none⟩)] w (EvR w g hd lim bk (trailV lim s)) := by
  obtain ⟨w2, hw2⟩ : ∃ w2, w2 = w.alloc (.cells #[.int .i64 0, .int .i64 0, .slice none 0 0, .int .i64 0, .slice none 0 0] 33) := ⟨_, rfl⟩
  obtain ⟨g2, hg2⟩ : ∃ g2, g2 = w.heap.size := ⟨_, rfl⟩
  have HH2 : Hid (Has w2 g2 33 ev0) := Lib.hid (by rw [hw2, hg2]; exact Has.new w 33 #[.int .i64 0, .int .i64 0, .slice none 0 0, .int .i64 0, .slice none 0 0])
  have hb2 : Below w.heap.size w w2 := by rw [hw2]; exact (Below.refl _ w).alloc (Nat.le_refl _) _
  have HR2 := Lib.hid (h.below hb2)
  have HB2 := Lib.hid hb2
  have H := Lib.hid h
  have HG2 := Lib.hid hg2
  clear h hb2
  obtain ⟨a, c, c2, ht⟩ := HR2.out.bytes
  have HSl := Lib.hid ht.sl
  have HT2 := Lib.hid (htb.below HB2.out)
  obtain ⟨k, hk⟩ : ∃ k, k = s.b.length := ⟨_, rfl⟩
  rw [← hk] at c2 hz HSl
  have HK := Lib.hid hk
  have HZ := Lib.hid hz
  obtain ⟨w3, hw3⟩ : ∃ w3, w3 = w2.alloc (.cells #[.int .u8 13, .int .u8 10] 5 (2, 3)) := ⟨_, rfl⟩
  obtain ⟨g3, hg3⟩ : ∃ g3, g3 = w2.heap.size := ⟨_, rfl⟩
  have kc := mark_kc w2
  have hb3 : Below w2.heap.size w2 w3 := by rw [hw3]; exact (Below.refl _ w2).alloc (Nat.le_refl _) _
  have HHp : Hid (Calls Tryz.prog 93 #[.slice a k c, .slice (some ⟨g3, 0, none⟩) 2 2] w3 (Ret w3 (.bool (crS.isPrefixOf s.b)))) := Lib.hid (hasp_any w3 (HSl.out.below hb3) (by rw [hw3, hg3]; exact mark_sl w2))
  have HR3 := Lib.hid (HR2.out.below hb3)
  have HB3 := Lib.hid hb3
  have HT3 := Lib.hid (HT2.out.below hb3)
  have c3 : w3.cell? ⟨g, 2, none⟩ = some (.slice a k c) := by rw [hb3.cell (World.block_lt_of_cell? _ _ c2)]; exact c2
  clear htb ht hz hk hb3
  cases hpr : crS.isPrefixOf s.b with
  | true =>
    rw [hpr] at HHp
    have hk2 := pre_two hpr
    have HP : Hid (trailV lim s = endV { s with b := s.b.drop 2 } []) := Lib.hid (by unfold trailV; rw [if_pos hpr])
    rw [HP.out]
    obtain ⟨ad, rfl⟩ : ∃ ad, a = some ad := by
      cases a with
      | some ad => exact ⟨ad, rfl⟩
      | none => have := HSl.out.nil rfl; have := HSl.out.cap_le; have := HK.out; omega
    have hc1 := HSl.out.cap_le
    have hc2 := HSl.out.cap_max
    have b1 : (2 : Int) ≤ (c : Int) := by have := HK.out; omega
    have b2 : (2 : Int) ≤ (k : Int) := by have := HK.out; omega
    have b3 : (k : Int) ≤ (c : Int) := by omega
    have HK2 : Hid (2 ≤ k) := Lib.hid (by have := HK.out; omega)
    have f3 := HR3.out.free 2
    clear hpr hk2 hc1 hc2
    go_enter Tryz.func74, Tryz.ntmps74
    go_upto_region 1 with fail
    rw [← hw2, ← hg2]
    clear hw2 hg2
    go_wp2_with fail
    rw [← hw3, ← hg3]
    clear hw3 hg3 kc
    refine HHp.out.mono ?_
    rintro e wp ⟨rfl, hwp⟩
    replace hwp := hwp.symm
    subst hwp
    go_upto_region 3 with fail
    obtain ⟨V, hV⟩ : ∃ V : Option Addr, V = if c = 2 then some ad else some { block := ad.block, off := ad.off + 2 } := ⟨_, rfl⟩
    rw [← hV]
    obtain ⟨w4, hw4⟩ : ∃ w4, w4 = w3.setCell ⟨g, 2, none⟩ (.slice V (k - 2) (c - 2)) := ⟨_, rfl⟩
    have HR4 : Hid (RdS w4 g hd lim bk { s with b := s.b.drop 2 }) := Lib.hid (by rw [hw4]; exact HR3.out.cut2 HK.out c3 HK2.out (by rw [hV]; rfl))
    have HK4 : Hid (Kept (fun k => k = g) w2 w4) := Lib.hid (by rw [hw4]; exact (Kept.of_below (X := fun k => k = g) HB3.out).trans (Kept.set w3 g 2 _) (fun _ _ h => h))
    have HE := Lib.hid (end_any w4 HR4.out none 0 0)
    rw [← hw4]
    clear hw4 hV c3 f3 b1 b2 b3
    go_wp2_with fail
    refine HE.out.mono ?_
    rintro e w5 ⟨hrd, hk, rfl⟩
    obtain ⟨hth, hst, hev⟩ := EvR.fwd (p := endV ({ s with b := s.b.drop 2 } : HSt) []) (x := ⟨3, 0, none, 0, 0, 0, none, 0, 0, true, 0⟩) H.out.lt H.out.bk_lt HG2.out HH2.out HB2.out hrd (HK4.out.trans hk (fun _ _ h => h)) ⟨rfl, .inl ⟨rfl, rfl, rfl⟩⟩
    have HSt := Lib.hid hst
    have HEv := Lib.hid hev
    have ho1 := ev_one 3 0 0 none none 0 0 0 0
    clear hrd hk hst hev
    go_wp2_with (refine wpList_store_mid rfl 33 (.tmp 2) (.tmp 26) rfl g2 0 #[.int .i64 3, .int .i64 0, .slice none 0 0, .int .i64 0, .slice none 0 0] rfl rfl hth infoEv ho1 ?_)
    refine bodyPost_ret (results_ev3 rfl _ rfl HSt.out rfl) rfl ?_
    exact HEv.out
  | false =>
    rw [hpr] at HHp
    by_cases hk2 : k < 2
    · have HP : Hid (trailV lim s = waitV s) := Lib.hid (by unfold trailV; rw [hpr, if_neg (by decide), if_pos (by rw [← HK.out]; exact hk2)])
      rw [HP.out]
      have y1 := tr2j.1 hk2
      have HWt := Lib.hid (wait_any w3 HR3.out)
      clear hpr hk2
      go_enter Tryz.func74, Tryz.ntmps74
      go_upto_region 1 with fail
      rw [← hw2, ← hg2]
      clear hw2 hg2
      go_wp2_with fail
      rw [← hw3, ← hg3]
      clear hw3 hg3 kc
      refine HHp.out.mono ?_
      rintro e wp ⟨rfl, hwp⟩
      replace hwp := hwp.symm
      subst hwp
      go_wp2_with fail
      refine HWt.out.mono ?_
      rintro e w4 ⟨x, rfl, hrd, hkp, hok⟩
      obtain ⟨hth, hst, hev⟩ := EvR.fwd H.out.lt H.out.bk_lt HG2.out HH2.out HB2.out hrd ((Kept.of_below (X := fun k => k = g) HB3.out).trans hkp (fun _ _ h => h)) (hok.down HB3.out.size)
      have HSt := Lib.hid hst
      have HEv := Lib.hid hev
      have ho1 := ev_one x.k x.st x.fr x.fa x.da x.fn x.fc x.dn x.dc
      clear hrd hkp hok hst hev
      unfold An.v
      go_wp2_with (refine wpList_store_mid rfl 33 (.tmp 2) (.tmp 37) rfl g2 0 #[.int .i64 x.k, .int .i64 x.st, .slice x.fa x.fn x.fc, .int .i64 x.fr, .slice x.da x.dn x.dc] rfl rfl hth infoEv ho1 ?_)
      refine bodyPost_ret (results_ev3 rfl _ rfl HSt.out rfl) rfl ?_
      exact HEv.out
    · have y1 := tr2j.2 hk2
      have HF : Hid (trailV lim s = match blkV lim s.b s.ended with
          | .wait => (s, .none)
          | .bad e => (s, .bad e)
          | .ok ls r => match fieldsH ls with
            | .bad e => (s, .bad e)
            | .ok l => if l.any badTr = true then (s, .bad 202) else endV { s with b := r } l) := Lib.hid (by unfold trailV; rw [hpr, if_neg (by decide), if_neg (by rw [← HK.out]; exact hk2)]; rfl)
      have HBk := Lib.hid (RdS.block HT3.out HR3.out (by rw [← HK.out]; exact HZ.out))
      have HK2 : Hid (2 ≤ k) := Lib.hid (by omega)
      clear hpr hk2
      cases hbl : blkV lim s.b s.ended with
      | wait =>
        rw [hbl] at HF HBk
        rw [HF.out]
        clear hbl HF
        go_enter Tryz.func74, Tryz.ntmps74
        go_upto_region 1 with fail
        rw [← hw2, ← hg2]
        clear hw2 hg2
        go_wp2_with fail
        rw [← hw3, ← hg3]
        clear hw3 hg3 kc
        refine HHp.out.mono ?_
        rintro e wp ⟨rfl, hwp⟩
        replace hwp := hwp.symm
        subst hwp
        go_wp2_with fail
        refine HBk.out.mono ?_
        rintro e w4 hbk
        obtain ⟨hb4, rfl⟩ := hbk
        have HRd := Lib.hid (HR3.out.below hb4)
        have HKp : Hid (Kept (fun k => k = g) w2 w4) := Lib.hid (Kept.of_below (HB3.out.trans (hb4.mono HB3.out.size)))
        clear hb4 c3
        obtain ⟨hth, hst, hev⟩ := EvR.fwd (p := (s, .none)) (x := an0 0) H.out.lt H.out.bk_lt HG2.out HH2.out HB2.out HRd.out HKp.out rfl
        have HSt := Lib.hid hst
        have HEv := Lib.hid hev
        have ho1 := ev_one 0 0 0 none none 0 0 0 0
        clear hst hev
        go_wp2_with (refine wpList_store_mid rfl 33 (.tmp 2) (.tmp 52) rfl g2 0 #[.int .i64 0, .int .i64 0, .slice none 0 0, .int .i64 0, .slice none 0 0] rfl rfl hth infoEv ho1 ?_)
        refine bodyPost_ret (results_ev3 rfl _ rfl HSt.out rfl) rfl ?_
        exact HEv.out
      | bad e1 =>
        rw [hbl] at HF HBk
        rw [HF.out]
        obtain ⟨y2, y3⟩ := field_bad_ne (blk_ne hbl)
        clear hbl HF
        go_enter Tryz.func74, Tryz.ntmps74
        go_upto_region 1 with fail
        rw [← hw2, ← hg2]
        clear hw2 hg2
        go_wp2_with fail
        rw [← hw3, ← hg3]
        clear hw3 hg3 kc
        refine HHp.out.mono ?_
        rintro e wp ⟨rfl, hwp⟩
        replace hwp := hwp.symm
        subst hwp
        go_wp2_with fail
        refine HBk.out.mono ?_
        rintro e w4 hbk
        obtain ⟨hb4, rfl⟩ := hbk
        have HRd := Lib.hid (HR3.out.below hb4)
        have HKp : Hid (Kept (fun k => k = g) w2 w4) := Lib.hid (Kept.of_below (HB3.out.trans (hb4.mono HB3.out.size)))
        clear hb4 c3
        obtain ⟨hth, hst, hev⟩ := EvR.fwd (p := (s, .bad e1)) (x := an0 e1) H.out.lt H.out.bk_lt HG2.out HH2.out HB2.out HRd.out HKp.out rfl
        have HSt := Lib.hid hst
        have HEv := Lib.hid hev
        have ho1 := ev_one 0 0 0 none none 0 0 0 0
        clear hst hev
        go_wp2_with (refine wpList_store_mid rfl 33 (.tmp 2) (.tmp 52) rfl g2 0 #[.int .i64 0, .int .i64 0, .slice none 0 0, .int .i64 0, .slice none 0 0] rfl rfl hth infoEv ho1 ?_)
        refine bodyPost_ret (results_ev3 rfl _ rfl HSt.out rfl) rfl ?_
        exact HEv.out
      | ok ls r =>
        rw [hbl] at HF HBk
        simp only at HF
        obtain ⟨l1, l2, l3⟩ := blk_sizes hbl
        have HLs := Lib.hid (And.intro l1 (And.intro l2 l3))
        clear hbl l1 l2 l3
        obtain ⟨m, hm⟩ : ∃ m, m = ls.length := ⟨_, rfl⟩
        have HM := Lib.hid hm
        unfold BlkR at HBk
        simp only at HBk
        rw [← hm] at HBk
        clear hm
        go_enter Tryz.func74, Tryz.ntmps74
        go_upto_region 1 with fail
        rw [← hw2, ← hg2]
        clear hw2 hg2
        go_wp2_with fail
        rw [← hw3, ← hg3]
        clear hw3 hg3 kc
        refine HHp.out.mono ?_
        rintro e wp ⟨rfl, hwp⟩
        replace hwp := hwp.symm
        subst hwp
        go_wp2_with fail
        refine HBk.out.mono ?_
        rintro e w4 hbk
        obtain ⟨hb4, g4, q, rfl, hg4, hs4, hq4, hqk, hrq⟩ := hbk
        rw [← HK.out] at hqk
        have HB4 : Hid (Below w2.heap.size w2 w4) := Lib.hid (HB3.out.trans (hb4.mono HB3.out.size))
        obtain ⟨y2, y3⟩ := (lgz (n := q)).2 (by omega)
        have HFl := Lib.hid (fields_any w4 (HT3.out.below hb4) hs4 (by have := HLs.out.2.1; have := HM.out; have := HK.out; have := HZ.out; omega) (fun l hl => by have := HLs.out.2.2 l hl; have := HK.out; have := HZ.out; omega))
        have HR4 := Lib.hid (HR3.out.below hb4)
        have HQ := Lib.hid (And.intro hq4 (And.intro hqk hrq))
        clear hb4 hg4 hs4 hq4 hqk hrq c3 HBk
        go_wp2_with fail
        refine HFl.out.mono ?_
        rintro e w5 hfl
        cases hfe : fieldsH ls with
        | bad e1 =>
          rw [hfe] at HF hfl
          simp only at HF
          have HFx := Lib.hid HF.out
          obtain ⟨rfl, hb5⟩ := hfl
          obtain ⟨y4, y5⟩ := field_bad_ne (fieldsH_ne hfe)
          have y6 : (e1 == 0) = false := by simpa using y5
          have HRd := Lib.hid (HR4.out.below hb5)
          have HKp : Hid (Kept (fun k => k = g) w2 w5) := Lib.hid (Kept.of_below (HB4.out.trans (hb5.mono HB4.out.size)))
          clear hb5 HF hfe HFl
          obtain ⟨hth, hst, hev⟩ := EvR.fwd (p := (s, .bad e1)) (x := an0 e1) H.out.lt H.out.bk_lt HG2.out HH2.out HB2.out HRd.out HKp.out rfl
          have HSt := Lib.hid hst
          have HEv := Lib.hid hev
          have ho1 := ev_one 0 0 0 none none 0 0 0 0
          clear hst hev
          go_wp2_with (refine wpList_store_mid rfl 33 (.tmp 2) (.tmp 67) rfl g2 0 #[.int .i64 0, .int .i64 0, .slice none 0 0, .int .i64 0, .slice none 0 0] rfl rfl hth infoEv ho1 ?_)
          refine bodyPost_ret (results_ev3 rfl _ rfl HSt.out rfl) rfl ?_
          have h := HEv.out
          rw [← HFx.out] at h
          exact h
        | ok l =>
          rw [hfe] at HF hfl
          simp only at HF
          obtain ⟨a5, c5, rfl, hs5, hb5⟩ := hfl
          obtain ⟨n5, hn5⟩ : ∃ n5, n5 = l.length := ⟨_, rfl⟩
          have HN5 := Lib.hid hn5
          have HS5 := Lib.hid hs5
          have HB5 : Hid (Below w2.heap.size w2 w5) := Lib.hid (HB4.out.trans (hb5.mono HB4.out.size))
          have HR5 := Lib.hid (HR4.out.below hb5)
          have HTc := Lib.hid (tcont_any w5 hs5.sl)
          rw [← hn5] at HTc ⊢
          have HBg4 : Hid (w2.heap.size ≤ w4.heap.size) := Lib.hid HB4.out.size
          clear hb5 hs5 hfe HFl hn5
          cases hbt : l.any badTr with
          | true =>
            rw [hbt] at HF HTc
            have HFx : Hid (trailV lim s = (s, .bad 202)) := Lib.hid (by rw [HF.out, if_pos rfl])
            clear hbt HF
            go_wp2_with fail
            refine HTc.out.mono ?_
            rintro e w6 ⟨rfl, hb6⟩
            have HRd := Lib.hid (HR5.out.below hb6)
            have HKp : Hid (Kept (fun k => k = g) w2 w6) := Lib.hid (Kept.of_below (HB5.out.trans (hb6.mono HB5.out.size)))
            clear hb6
            obtain ⟨hth, hst, hev⟩ := EvR.fwd (p := (s, .bad 202)) (x := an0 202) H.out.lt H.out.bk_lt HG2.out HH2.out HB2.out HRd.out HKp.out rfl
            have HSt := Lib.hid hst
            have HEv := Lib.hid hev
            have ho1 := ev_one 0 0 0 none none 0 0 0 0
            clear hst hev
            go_wp2_with (refine wpList_store_mid rfl 33 (.tmp 2) (.tmp 67) rfl g2 0 #[.int .i64 0, .int .i64 0, .slice none 0 0, .int .i64 0, .slice none 0 0] rfl rfl hth infoEv ho1 ?_)
            refine bodyPost_ret (results_ev3 rfl _ rfl HSt.out rfl) rfl ?_
            have h := HEv.out
            rw [← HFx.out] at h
            exact h
          | false =>
            rw [hbt] at HF HTc
            have HFx : Hid (trailV lim s = endV { s with b := s.b.drop q } l) := Lib.hid (by rw [HF.out, if_neg (by decide), HQ.out.2.2])
            clear hbt HF
            have hk0 : 0 < s.b.length := by have := HK.out; have := HK2.out; omega
            go_wp2_with fail
            refine HTc.out.mono ?_
            rintro e w6 ⟨rfl, hb6⟩
            have hr6 := HR5.out.below hb6
            have HB6 : Hid (Below w2.heap.size w2 w6) := Lib.hid (HB5.out.trans (hb6.mono HB5.out.size))
            have HS6 : Hid (Sps w6 w4.heap.size a5 c5 l) := Lib.hid (own_below HS5.out hb6)
            obtain ⟨ad, cc, c6, h1, h2⟩ := hr6.buf hk0
            rw [← HK.out] at c6 h1
            have f6 := hr6.free 2
            have HR6 := Lib.hid hr6
            have b1 : (q : Int) ≤ (cc : Int) := by have := HQ.out.2.1; omega
            have b2 : (q : Int) ≤ (k : Int) := by have := HQ.out.2.1; omega
            have b3 : (k : Int) ≤ (cc : Int) := by omega
            have b4 : (0 : Int) ≤ (q : Int) := by omega
            clear hb6 hk0 h1 h2 hr6
            go_upto_region 15 with fail
            obtain ⟨V, hV⟩ : ∃ V : Option Addr, V = if cc = q then some ad else some (ad.add q) := ⟨_, rfl⟩
            rw [← hV]
            obtain ⟨w7, hw7⟩ : ∃ w7, w7 = w6.setCell ⟨g, 2, none⟩ (.slice V (k - q) (cc - q)) := ⟨_, rfl⟩
            have HR7 : Hid (RdS w7 g hd lim bk { s with b := s.b.drop q }) := Lib.hid (by rw [hw7]; exact HR6.out.cut2 HK.out c6 HQ.out.2.1 hV)
            have HK7 : Hid (Kept (fun k => k = g) w2 w7) := Lib.hid (by rw [hw7]; exact (Kept.of_below (X := fun k => k = g) HB6.out).trans (Kept.set w6 g 2 _) (fun _ _ h => h))
            have HS7 : Hid (Sps w7 w4.heap.size a5 c5 l) := Lib.hid (by rw [hw7]; exact own_kept HS6.out (Kept.set w6 g 2 _) (fun k hk e => by have := (HS6.out.lt k hk).1; have := HBg4.out; have := HR2.out.lt; omega))
            have HE := Lib.hid (end_any w7 HR7.out a5 n5 c5)
            rw [← hw7]
            clear hw7 hV c6 f6 b1 b2 b3 b4
            go_wp2_with fail
            refine HE.out.mono ?_
            rintro e w8 ⟨hrd, hk8, rfl⟩
            have hs8 : Sps w8 w2.heap.size a5 c5 l := own_mono (own_kept HS7.out hk8 (fun k hk e => by have := (HS7.out.lt k hk).1; have := HBg4.out; have := HR2.out.lt; omega)) HBg4.out
            have hok : An.Ok w2.heap.size w8 ⟨3, 0, a5, n5, c5, 0, none, 0, 0, true, 0⟩ (.ev (.fin l)) := ⟨by rw [HN5.out], .inr hs8⟩
            obtain ⟨hth, hst, hev⟩ := EvR.fwd (p := endV { s with b := s.b.drop q } l) H.out.lt H.out.bk_lt HG2.out HH2.out HB2.out hrd (HK7.out.trans hk8 (fun _ _ h => h)) hok
            have HSt := Lib.hid hst
            have HEv := Lib.hid hev
            have ho1 := ev_one 3 0 0 a5 none n5 c5 0 0
            clear hrd hk8 hst hev hs8 hok
            go_wp2_with (refine wpList_store_mid rfl 33 (.tmp 2) (.tmp 81) rfl g2 0 #[.int .i64 3, .int .i64 0, .slice a5 n5 c5, .int .i64 0, .slice none 0 0] rfl rfl hth infoEv ho1 ?_)
            refine bodyPost_ret (results_ev3 rfl _ rfl HSt.out rfl) rfl ?_
            have h := HEv.out
            rw [← HFx.out] at h
            exact h
end Go.Proofs.YtfffefhchjnfjaaGreatDoor

namespace Go.Proofs.YtfffefhchjnfjaaGreatDoor
open Go.RowKit

/-- what ParseUint answers -/
def HexR (w : World) (l : List UInt8) (e : Ending) (w' : World) : Prop :=
  Below w.heap.size w w' ∧ e = .returned (match (if l = [] then none else hexAc 0 l) with
    | some n => .tuple #[.int .u64 (n : Int), .nilIface]
    | none => .tuple #[.int .u64 0, .iface 126 (.int .i64 2)])
theorem HexR.bad {w w' : World} {l : List UInt8} (h : l = [] ∨ hexAc 0 l = none) (hb : Below w.heap.size w w') : HexR w l (.returned (.tuple #[.int .u64 0, .iface 126 (.int .i64 2)])) w' := by
  refine ⟨hb, ?_⟩
  by_cases h0 : l = []
  · rw [if_pos h0]
  · rw [if_neg h0, h.resolve_left h0]
theorem HexR.ok {w w' : World} {l : List UInt8} {n : Nat} (h0 : l ≠ []) (h : hexAc 0 l = some n) (hb : Below w.heap.size w w') : HexR w l (.returned (.tuple #[.int .u64 (n : Int), .nilIface])) w' := by
  refine ⟨hb, ?_⟩
  rw [if_neg h0, h]
def lowI (b : UInt8) : Int := bits .or .u8 (b.toNat : Int) 32
theorem hex_cases (b : UInt8) :
    ((48 ≤ b.toNat ∧ b.toNat ≤ 57) ∧ hexDg b = some (b.toNat - 48)) ∨ (b.toNat < 48 ∧ lowI b < 97 ∧ hexDg b = none) ∨
    ((57 < b.toNat ∧ b.toNat ≠ 95) ∧ (97 ≤ lowI b ∧ lowI b ≤ 102) ∧ hexDg b = some ((lowI b).toNat - 87)) ∨ ((57 < b.toNat ∧ b.toNat ≠ 95) ∧ (103 ≤ lowI b ∧ lowI b ≤ 122) ∧ hexDg b = none) ∨
    ((57 < b.toNat ∧ b.toNat ≠ 95) ∧ lowI b < 97 ∧ hexDg b = none) ∨ ((57 < b.toNat ∧ b.toNat ≠ 95) ∧ (122 < lowI b ∧ lowI b < 256) ∧ hexDg b = none) ∨ (b.toNat = 95 ∧ (122 < lowI b ∧ lowI b < 256) ∧ hexDg b = none) := by
  have h1 : ∀ k, k < 256 → (decide (57 < k) && decide (k ≠ 95)) = true → ((((decide (97 ≤ lowI (UInt8.ofNat k)) && decide (lowI (UInt8.ofNat k) ≤ 102)) && decide (hexDg (UInt8.ofNat k) = some ((lowI (UInt8.ofNat k)).toNat - 87))) || ((decide (103 ≤ lowI (UInt8.ofNat k)) && decide (lowI (UInt8.ofNat k) ≤ 122)) && decide (hexDg (UInt8.ofNat k) = none))) ||
    ((decide (lowI (UInt8.ofNat k) < 97) && decide (hexDg (UInt8.ofNat k) = none)) || ((decide (122 < lowI (UInt8.ofNat k)) && decide (lowI (UInt8.ofNat k) < 256)) && decide (hexDg (UInt8.ofNat k) = none)))) = true := by decide +kernel
  have h2 : ∀ k, k < 48 → lowI (UInt8.ofNat k) < 97 ∧ hexDg (UInt8.ofNat k) = none := by decide +kernel
  have h3 : ∀ k, k < 58 → 48 ≤ k → hexDg (UInt8.ofNat k) = some (k - 48) := by decide +kernel
  have h4 : (122 < lowI (UInt8.ofNat 95) ∧ lowI (UInt8.ofNat 95) < 256) ∧ hexDg (UInt8.ofNat 95) = none := by decide +kernel
  have hb := b.toNat_lt
  have e : UInt8.ofNat b.toNat = b := by simp
  by_cases c1 : b.toNat < 48
  · have := h2 b.toNat c1
    rw [e] at this
    exact .inr (.inl ⟨c1, this⟩)
  · by_cases c2 : b.toNat < 58
    · have := h3 b.toNat c2 (by omega)
      rw [e] at this
      exact .inl ⟨⟨by omega, by omega⟩, this⟩
    · by_cases c3 : b.toNat = 95
      · have h5 := h4
        rw [← c3, e] at h5
        exact .inr (.inr (.inr (.inr (.inr (.inr ⟨c3, h5⟩)))))
      · have h5 := h1 b.toNat hb (by simp only [Bool.and_eq_true, decide_eq_true_eq]; exact ⟨by omega, c3⟩)
        rw [e] at h5
        simp only [Bool.or_eq_true, Bool.and_eq_true, decide_eq_true_eq] at h5
        have hc : 57 < b.toNat ∧ b.toNat ≠ 95 := ⟨by omega, c3⟩
        rcases h5 with (h5 | h5) | (h5 | h5)
        · exact .inr (.inr (.inl ⟨hc, h5⟩))
        · exact .inr (.inr (.inr (.inl ⟨hc, h5⟩)))
        · exact .inr (.inr (.inr (.inr (.inl ⟨hc, h5⟩))))
        · exact .inr (.inr (.inr (.inr (.inr (.inl ⟨hc, h5⟩)))))
theorem hexAc_app : ∀ (l r : List UInt8) (n : Nat), hexAc n (l ++ r) = (hexAc n l).bind fun m => hexAc m r
  | [], r, n => rfl
  | b :: l, r, n => by
    simp only [List.cons_append, hexAc]
    cases hexDg b with
    | none => rfl
    | some d => exact hexAc_app l r _
theorem hexAc_take {l : List UInt8} {i k : Nat} (h : i < l.length) (hk : hexAc 0 (l.take i) = some k) : hexAc 0 (l.take (i + 1)) = (hexDg l[i]).map (fun d => k * 16 + d) ∧ (hexDg l[i] = none → hexAc 0 l = none) := by
  refine ⟨?_, fun hn => ?_⟩
  · rw [List.take_succ_eq_append_getElem h, hexAc_app, hk]
    show hexAc k [l[i]] = _
    simp only [hexAc]
    cases hexDg l[i] <;> rfl
  · have e : l = l.take i ++ (l[i] :: l.drop (i + 1)) := by rw [← List.drop_eq_getElem_cons h, List.take_append_drop]
    rw [e, hexAc_app, hk]
    show hexAc k (_ :: _) = none
    simp only [hexAc]
    have e2 : (l.take i ++ l[i] :: l.drop (i + 1))[i]'(by rw [← e]; exact h) = l[i] := by simp
    rw [hn]
theorem hexDg_lt {b : UInt8} {d : Nat} (h : hexDg b = some d) : d < 16 := by
  unfold hexDg at h
  split at h
  · cases h; omega
  · split at h <;> cases h; omega
theorem hexAc_lt : ∀ (l : List UInt8) (n m : Nat), hexAc n l = some m → m < (n + 1) * 16 ^ l.length
  | [], n, m, h => by simp [hexAc] at h; subst h; simp
  | b :: l, n, m, h => by
    simp only [hexAc] at h
    cases hd : hexDg b with
    | none => rw [hd] at h; cases h
    | some d =>
      rw [hd] at h
      have h1 := hexAc_lt l _ m h
      have h2 := hexDg_lt hd
      rw [List.length_cons, Nat.pow_succ]
      have h3 : (n * 16 + d + 1) * 16 ^ l.length ≤ (16 * (n + 1)) * 16 ^ l.length := Nat.mul_le_mul_right _ (by omega)
      have e : (n + 1) * (16 ^ l.length * 16) = (16 * (n + 1)) * 16 ^ l.length := by rw [Nat.mul_comm (16 ^ l.length) 16, ← Nat.mul_assoc, Nat.mul_comm (n + 1) 16]
      omega
theorem hexAc_8 {l : List UInt8} {m : Nat} (hl : l.length ≤ 7) (h : hexAc 0 l = some m) : m < 268435456 := by
  have h1 := hexAc_lt l 0 m h
  have h2 : 16 ^ l.length ≤ 16 ^ 7 := Nat.pow_le_pow_right (by decide) hl
  omega
theorem hxA {x : Int} {b d : Nat} (hx : x = (b : Int)) (h1 : 48 ≤ b) (h2 : b ≤ 57) (hd : d = b - 48) : ((48 : Int) ≤ x) = True ∧ (x ≤ 57) = True ∧ IntKind.u8.wrap (x - 48) = (d : Int) := by
  rw [IntKind.wrap_u8]; exact ⟨eq_true (by omega), eq_true (by omega), by omega⟩
theorem hxL {x : Int} {b : Nat} (hx : x = (b : Int)) (h1 : b < 48) : ((48 : Int) ≤ x) = False := eq_false (by omega)
theorem hxG {x : Int} {b : Nat} (hx : x = (b : Int)) (h1 : 57 < b) : ((48 : Int) ≤ x) = True ∧ (x ≤ 57) = False := ⟨eq_true (by omega), eq_false (by omega)⟩
theorem hxB {o : Int} {d d0 : Nat} (h1 : 97 ≤ o) (h2 : o ≤ 102) (hd0 : d0 = o.toNat - 97) (hd : d = o.toNat - 87) : ((97 : Int) ≤ o) = True ∧ (o ≤ 122) = True ∧ IntKind.u8.wrap (o - 97) = (d0 : Int) ∧ IntKind.u8.wrap ((d0 : Int) + 10) = (d : Int) := by
  rw [IntKind.wrap_u8, IntKind.wrap_u8]; exact ⟨eq_true (by omega), eq_true (by omega), by omega, by omega⟩
theorem hxC {o : Int} {d d0 : Nat} (h1 : 103 ≤ o) (h2 : o ≤ 122) (hd0 : d0 = o.toNat - 97) (hd : d = o.toNat - 87) : ((97 : Int) ≤ o) = True ∧ (o ≤ 122) = True ∧ IntKind.u8.wrap (o - 97) = (d0 : Int) ∧ IntKind.u8.wrap ((d0 : Int) + 10) = (d : Int) ∧ ((16 : Int) ≤ (d : Int)) = True := by
  rw [IntKind.wrap_u8, IntKind.wrap_u8]; exact ⟨eq_true (by omega), eq_true (by omega), by omega, by omega, eq_true (by omega)⟩
theorem hxl {o : Int} (h1 : o < 97) : ((97 : Int) ≤ o) = False := eq_false (by omega)
theorem hxg {o : Int} (h1 : 122 < o) : ((97 : Int) ≤ o) = True ∧ (o ≤ 122) = False := ⟨eq_true (by omega), eq_false (by omega)⟩
theorem hxUp {k d k16 k2 : Nat} (hk : k < 268435456) (hd : d < 16) (h16 : k16 = k * 16) (h2 : k2 = k * 16 + d) : ((16 : Int) ≤ (d : Int)) = False ∧ ((1152921504606846976 : Int) ≤ (k : Int)) = False ∧ IntKind.u64.wrap ((k : Int) * 16) = (k16 : Int) ∧ IntKind.u64.wrap (d : Int) = (d : Int) ∧ IntKind.u64.wrap ((k16 : Int) + (d : Int)) = (k2 : Int) ∧ ((k2 : Int) < (k16 : Int)) = False ∧ ((4294967295 : Int) < (k2 : Int)) = False := by
  rw [IntKind.wrap_u64, IntKind.wrap_u64, IntKind.wrap_u64]
  exact ⟨eq_false (by omega), eq_false (by omega), by omega, by omega, by omega, eq_false (by omega), eq_false (by omega)⟩
theorem hxn {x : Int} {b : Nat} (hx : x = (b : Int)) (h : b ≠ 95) : (x == 95) = false ∧ ¬ x = 95 := ⟨by rw [beq_eq_false_iff_ne]; omega, by omega⟩
theorem hxi {i n : Nat} (h : i < n) (h2 : n ≤ 8) : IntKind.i64.wrap ((i : Int) + 1) = (i : Int) + 1 ∧ RowKit.wrap64 ((i : Int) + 1) = (i : Int) + 1 ∧ (i : Int) < (n : Int) ∧ ((i : Int) < (n : Int)) = True := by
  rw [IntKind.wrap_i64]; unfold RowKit.wrap64; exact ⟨by omega, by omega, by omega, eq_true (by omega)⟩
set_option maxRecDepth 100000 in
set_option maxHeartbeats 4000000 in
theorem hexpu_any (w : World) (l : List UInt8) (hl : l.length ≤ 8) : Calls Tryz.prog 92 #[.string (strB l), .int .i64 16, .int .i64 32] w (HexR w l) := by
  obtain ⟨S, hS⟩ : ∃ S, S = strB l := ⟨_, rfl⟩
  by_cases h0 : l = []
  · obtain ⟨y0, y1, y2⟩ := emT (s := S) (by rw [hS, bl_strB', h0])
    have HE : Hid (HexR w l (.returned (.tuple #[.int .u64 0, .iface 126 (.int .i64 2)])) w) := Lib.hid (HexR.bad (.inl h0) (Below.refl _ _))
    rw [← hS]
    clear hS h0
    go_enter Tryz.func92, Tryz.ntmps92
    go_wp2
    go_ret2
    exact HE.out
  · obtain ⟨y0, y1, y2⟩ := emF (s := S) (by rw [hS, bl_strB']; exact h0)
    obtain ⟨c, w2, hcv, hbt, hbc, hb2⟩ := conv_bts2 w l (by unfold maxLen; omega)
    have HSl := Lib.hid (bts_sl hbt c hbc.1 hbc.2)
    have HB2 := Lib.hid hb2
    have H0 := Lib.hid h0
    obtain ⟨n, hn⟩ : ∃ n, n = l.length := ⟨_, rfl⟩
    obtain ⟨g, hg⟩ : ∃ g, g = w.heap.size := ⟨_, rfl⟩
    rw [← hS] at hcv ⊢
    rw [← hn, ← hg] at hcv HSl
    have HN := Lib.hid hn
    have HL : Hid (n ≤ 8) := Lib.hid (by rw [hn]; exact hl)
    clear hbt hbc hb2 h0 hS hn hl hg
    go_enter Tryz.func92, Tryz.ntmps92
    go_wp2_with fail
    go_loopw [12, 13, 101] (fun uv nv v wr => ∃ (i k : Nat), uv = .bool false ∧ v = .int .i64 (i : Int) ∧ nv = .int .u64 (k : Int) ∧ i ≤ n ∧ Hid (hexAc 0 (l.take i) = some k) ∧ Below w2.heap.size w2 wr) (fun _ _ v _ => n - (intOf v).toNat)
    case atStart => exact ⟨0, 0, rfl, rfl, rfl, Nat.zero_le _, Lib.hid rfl, Below.refl _ _⟩
    case round =>
      obtain ⟨i, k, rfl, rfl, rfl, hin, HP, hb⟩ := hrel
      have HBr : Hid (Below w.heap.size w wr) := Lib.hid (HB2.out.trans (hb.mono HB2.out.size))
      by_cases hi : i < n
      · obtain ⟨z1, z2, z3, z4⟩ := hxi hi HL.out
        have hiz : i < l.length := by rw [← HN.out]; exact hi
        obtain ⟨b, off, hab, hcs⟩ := HSl.out.cells (by omega)
        simp only [Option.some.injEq, Addr.mk.injEq, and_true] at hab
        obtain ⟨rfl, rfl⟩ := hab
        have hci := hcs i hi
        rw [bv_get l i hiz, Nat.zero_add] at hci
        replace hci : wr.cell? ⟨g, i, none⟩ = some (.int .u8 (l[i].toNat : Int)) := by rw [hb.cell (World.block_lt_of_cell? w2 _ hci)]; exact hci
        have hk8 : k < 268435456 := hexAc_8 (by rw [List.length_take]; have := HL.out; have := HN.out; omega) HP.out
        obtain ⟨t1, t2⟩ := hexAc_take hiz HP.out
        obtain ⟨bt, hbt⟩ : ∃ bt, bt = l[i] := ⟨_, rfl⟩
        rw [← hbt] at hci t1 t2
        have HT1 := Lib.hid t1
        have HT2 : Hid (hexDg bt = none → HexR w l (.returned (.tuple #[.int .u64 0, .iface 126 (.int .i64 2)])) wr) := Lib.hid (fun h => HexR.bad (.inr (t2 h)) HBr.out)
        have hlow := fun w' => Tryz.internal_strconv_lower (bt.toNat : Int) w'
        obtain ⟨o, ho⟩ : ∃ o, o = lowI bt := ⟨_, rfl⟩
        have hLw : ∀ w', Calls Tryz.prog 109 #[.int .u8 (bt.toNat : Int)] w' fun e w2 => e = .returned (.int .u8 o) ∧ w2 = w' := by rw [ho]; exact hlow
        have hcs' := hex_cases bt
        rw [← ho] at hcs'
        obtain ⟨x, hx⟩ : ∃ x : Int, x = (bt.toNat : Int) := ⟨_, rfl⟩
        rw [← hx] at hci hLw
        obtain ⟨bn, hbn⟩ : ∃ bn, bn = bt.toNat := ⟨_, rfl⟩
        rw [← hbn] at hx hcs'
        have HLw := Lib.hid hLw
        have HI := Lib.hid hi
        have HBw := Lib.hid hb
        have HK8 := Lib.hid hk8
        clear hcs hbt t1 t2 hlow ho hLw hi hb hbn hin hk8 hiz HSl hcv
        rcases hcs' with ⟨⟨q1, q2⟩, q3⟩ | ⟨q1, q2, q3⟩ | ⟨⟨q1, q5⟩, ⟨q2, q4⟩, q3⟩ | ⟨⟨q1, q5⟩, ⟨q2, q4⟩, q3⟩ | ⟨⟨q1, q5⟩, q2, q3⟩ | ⟨⟨q1, q5⟩, ⟨q2, q4⟩, q3⟩ | ⟨q1, ⟨q2, q4⟩, q3⟩
        · obtain ⟨d, hd⟩ : ∃ d, d = bn - 48 := ⟨_, rfl⟩
          obtain ⟨y3, y4, y5⟩ := hxA hx q1 q2 hd
          obtain ⟨n1, n2⟩ := hxn hx (by omega)
          obtain ⟨k16, h16⟩ : ∃ k16, k16 = k * 16 := ⟨_, rfl⟩
          obtain ⟨k2, hk2⟩ : ∃ k2, k2 = k * 16 + d := ⟨_, rfl⟩
          obtain ⟨u1, u2, u3, u4, u5, u6, u7⟩ := hxUp HK8.out (by rw [hd]; exact hexDg_lt q3) h16 hk2
          have HT3 : Hid (hexAc 0 (l.take (i + 1)) = some k2) := Lib.hid (by rw [HT1.out, q3, hk2, hd]; rfl)
          clear q1 q2 q3 hd h16 hk2 hx HK8
          go_wp2_with fail
          go_roundw
          case rel => exact ⟨i + 1, k2, rfl, by push_cast; rfl, rfl, HI.out, HT3, HBw.out⟩
          case measure => exact meas_up HI.out
        · have y3 := hxL hx q1
          obtain ⟨n1, n2⟩ := hxn hx (by omega)
          have y4 := hxl q2
          have HRs := Lib.hid (HT2.out q3)
          clear q1 q2 q3 hx HK8
          go_wp2_with fail
          refine (HLw.out _).mono ?_
          rintro e w4 ⟨rfl, hw4⟩
          replace hw4 := hw4.symm
          subst hw4
          go_wp2_with fail
          go_ret2
          exact HRs.out
        · obtain ⟨d, hd⟩ : ∃ d, d = o.toNat - 87 := ⟨_, rfl⟩
          obtain ⟨d0, hd0⟩ : ∃ d0, d0 = o.toNat - 97 := ⟨_, rfl⟩
          obtain ⟨y1', y2'⟩ := hxG hx q1
          obtain ⟨n1, n2⟩ := hxn hx q5
          obtain ⟨y3, y4, y5, y6⟩ := hxB q2 q4 hd0 hd
          obtain ⟨k16, h16⟩ : ∃ k16, k16 = k * 16 := ⟨_, rfl⟩
          obtain ⟨k2, hk2⟩ : ∃ k2, k2 = k * 16 + d := ⟨_, rfl⟩
          obtain ⟨u1, u2, u3, u4, u5, u6, u7⟩ := hxUp HK8.out (by rw [hd]; exact hexDg_lt q3) h16 hk2
          have HT3 : Hid (hexAc 0 (l.take (i + 1)) = some k2) := Lib.hid (by rw [HT1.out, q3, hk2, hd]; rfl)
          clear q1 q5 q2 q3 q4 hd hd0 h16 hk2 hx HK8
          go_wp2_with fail
          refine (HLw.out _).mono ?_
          rintro e w4 ⟨rfl, hw4⟩
          replace hw4 := hw4.symm
          subst hw4
          go_wp2_with fail
          refine (HLw.out _).mono ?_
          rintro e w4 ⟨rfl, hw4⟩
          replace hw4 := hw4.symm
          subst hw4
          go_wp2_with fail
          refine (HLw.out _).mono ?_
          rintro e w4 ⟨rfl, hw4⟩
          replace hw4 := hw4.symm
          subst hw4
          go_wp2_with fail
          go_roundw
          case rel => exact ⟨i + 1, k2, rfl, by push_cast; rfl, rfl, HI.out, HT3, HBw.out⟩
          case measure => exact meas_up HI.out
        · obtain ⟨d, hd⟩ : ∃ d, d = o.toNat - 87 := ⟨_, rfl⟩
          obtain ⟨d0, hd0⟩ : ∃ d0, d0 = o.toNat - 97 := ⟨_, rfl⟩
          obtain ⟨y1', y2'⟩ := hxG hx q1
          obtain ⟨n1, n2⟩ := hxn hx q5
          obtain ⟨y3, y4, y5, y6, y7⟩ := hxC q2 q4 hd0 hd
          have HRs := Lib.hid (HT2.out q3)
          clear q1 q5 q2 q3 q4 hd hd0 hx HK8
          go_wp2_with fail
          refine (HLw.out _).mono ?_
          rintro e w4 ⟨rfl, hw4⟩
          replace hw4 := hw4.symm
          subst hw4
          go_wp2_with fail
          refine (HLw.out _).mono ?_
          rintro e w4 ⟨rfl, hw4⟩
          replace hw4 := hw4.symm
          subst hw4
          go_wp2_with fail
          refine (HLw.out _).mono ?_
          rintro e w4 ⟨rfl, hw4⟩
          replace hw4 := hw4.symm
          subst hw4
          go_wp2_with fail
          go_ret2
          exact HRs.out
        · obtain ⟨y1', y2'⟩ := hxG hx q1
          obtain ⟨n1, n2⟩ := hxn hx q5
          have y4 := hxl q2
          have HRs := Lib.hid (HT2.out q3)
          clear q1 q2 q3 hx HK8
          go_wp2_with fail
          refine (HLw.out _).mono ?_
          rintro e w4 ⟨rfl, hw4⟩
          replace hw4 := hw4.symm
          subst hw4
          go_wp2_with fail
          go_ret2
          exact HRs.out
        · obtain ⟨y1', y2'⟩ := hxG hx q1
          obtain ⟨n1, n2⟩ := hxn hx q5
          obtain ⟨y4, y5⟩ := hxg q2
          have HRs := Lib.hid (HT2.out q3)
          clear q1 q2 q3 q4 hx HK8
          go_wp2_with fail
          refine (HLw.out _).mono ?_
          rintro e w4 ⟨rfl, hw4⟩
          replace hw4 := hw4.symm
          subst hw4
          go_wp2_with fail
          refine (HLw.out _).mono ?_
          rintro e w4 ⟨rfl, hw4⟩
          replace hw4 := hw4.symm
          subst hw4
          go_wp2_with fail
          go_ret2
          exact HRs.out
        · have n1 : x = 95 := by omega
          obtain ⟨y4, y5⟩ := hxg q2
          have HRs := Lib.hid (HT2.out q3)
          subst n1
          clear q1 q2 q3 q4 hx HK8
          go_wp2_with fail
          refine (HLw.out _).mono ?_
          rintro e w4 ⟨rfl, hw4⟩
          replace hw4 := hw4.symm
          subst hw4
          go_wp2_with fail
          refine (HLw.out _).mono ?_
          rintro e w4 ⟨rfl, hw4⟩
          replace hw4 := hw4.symm
          subst hw4
          go_wp2_with fail
          go_ret2
          exact HRs.out
      · have hil : ¬ (i : Int) < (n : Int) := by omega
        have HRs : Hid (HexR w l (.returned (.tuple #[.int .u64 (k : Int), .nilIface])) wr) := Lib.hid (HexR.ok H0.out (by have h := HP.out; rwa [List.take_of_length_le (by rw [← HN.out]; omega)] at h) HBr.out)
        clear hb hin hi hcv
        go_wp2
        go_ret2
        exact HRs.out
/-- what strconv.ParseUint answers -/
def PuR (w : World) (l : List UInt8) (e : Ending) (w' : World) : Prop :=
  Below w.heap.size w w' ∧ match (if l = [] then none else hexAc 0 l) with
    | some n => e = .returned (.tuple #[.int .u64 (n : Int), .nilIface])
    | none => ∃ N, e = .returned (.tuple #[.int .u64 0, .iface 129 (.pointer (some ⟨N, 0, none⟩))])
set_option maxRecDepth 100000 in
theorem pu_any (w : World) (ht : Tab w) (l : List UInt8) (hl : l.length ≤ 8) : Calls Tryz.prog 73 #[.string (strB l), .int .i64 16, .int .i64 32] w (PuR w l) := by
  have HP := Lib.hid (hexpu_any w l hl)
  have HT := Lib.hid ht
  have hz : (strB l).size ≤ 281474976710656 := by rw [strB_size]; omega
  obtain ⟨S, hS⟩ : ∃ S, S = strB l := ⟨_, rfl⟩
  rw [← hS] at HP hz ⊢
  have HZ := Lib.hid hz
  obtain ⟨X, hX⟩ : ∃ X, X = (if l = [] then none else hexAc 0 l) := ⟨_, rfl⟩
  clear hS hz ht hl
  unfold PuR
  unfold HexR at HP
  rw [← hX] at HP ⊢
  clear hX
  cases X with
  | none =>
    simp only at HP ⊢
    have HPost : Hid (∀ N W, Below w.heap.size w W → (Below w.heap.size w W ∧ ∃ N', Ending.returned (.tuple #[.int .u64 0, .iface 129 (.pointer (some ⟨N, 0, none⟩))]) = .returned (.tuple #[.int .u64 0, .iface 129 (.pointer (some ⟨N', 0, none⟩))]))) := Lib.hid (fun N W h => ⟨h, N, rfl⟩)
    go_enter Tryz.func73, Tryz.ntmps73
    go_wp2_with fail
    refine HP.out.mono ?_
    rintro e w2 ⟨hb2, rfl⟩
    have HB2 := Lib.hid hb2
    obtain ⟨ev, h1, h2⟩ := (HT.out.below hb2).es
    have HE := Lib.hid (Tryz.strconv_toError_syntax ⟨#[80, 97, 114, 115, 101, 85, 105, 110, 116]⟩ S 16 32 ev w2 HZ.out h1 h2)
    clear h1 h2 hb2
    go_wp2_with fail
    refine HE.out.mono ?_
    rintro e w3 ⟨N, rfl, _, _, hb3⟩
    have HB3 : Hid (Below w.heap.size w w3) := Lib.hid (HB2.out.trans (hb3.mono HB2.out.size))
    clear hb3
    go_wp2
    go_ret2
    exact HPost.out N w3 HB3.out
  | some n =>
    simp only at HP ⊢
    go_enter Tryz.func73, Tryz.ntmps73
    go_wp2_with fail
    refine HP.out.mono ?_
    rintro e w2 ⟨hb2, rfl⟩
    have HB2 := Lib.hid hb2
    clear hb2
    go_wp2
    go_ret2
    exact ⟨HB2.out, rfl⟩
def hexS : List UInt8 := [48, 49, 50, 51, 52, 53, 54, 55, 56, 57, 97, 98, 99, 100, 101, 102, 65, 66, 67, 68, 69, 70]
theorem hex_set (b : UInt8) {d : Nat} (h : hexDg b = some d) : hexS.contains b = true := by
  have h1 : ∀ k, k < 256 → (hexDg (UInt8.ofNat k)).isSome = true → hexS.contains (UInt8.ofNat k) = true := by decide +kernel
  have e : UInt8.ofNat b.toNat = b := by simp
  have h2 := h1 b.toNat b.toNat_lt
  rw [e] at h2
  exact h2 (by rw [h]; rfl)
theorem hex_all : ∀ {l : List UInt8} {n m : Nat}, hexAc n l = some m → l.all (fun b => hexS.contains b) = true
  | [], _, _, _ => rfl
  | b :: l, n, m, h => by
    simp only [hexAc] at h
    cases hd : hexDg b with
    | none => rw [hd] at h; cases h
    | some d =>
      rw [hd] at h
      rw [List.all_cons, hex_set b hd, hex_all h]; rfl
theorem hex_trim {l : List UInt8} {m : Nat} (h : hexAc 0 l = some m) : Lib.trimS l hexS = [] := by
  have h1 := hex_all h
  unfold Lib.trimS Lib.trimLeftS Lib.trimRightS
  rw [(dropW_nil (l := l.reverse)).2 (by rw [List.all_reverse]; exact h1)]
  rfl
set_option maxRecDepth 100000 in
theorem xtrim_any (w : World) (s : ByteArray) (hs : s.size ≤ 9223372036854775807) : Calls Tryz.prog 45 #[.string s, .string ⟨#[48, 49, 50, 51, 52, 53, 54, 55, 56, 57, 97, 98, 99, 100, 101, 102, 65, 66, 67, 68, 69, 70]⟩] w (StrOf w (Lib.trimS (bl s) hexS)) := by
  refine (Any.strings_Trim_laid Tryz.lays160 info256 s ⟨#[48, 49, 50, 51, 52, 53, 54, 55, 56, 57, 97, 98, 99, 100, 101, 102, 65, 66, 67, 68, 69, 70]⟩ w hs (by decide) (ascii_of_all (by decide))).mono ?_
  rintro e w' ⟨rfl, hb⟩
  exact ⟨rfl, hb⟩
end Go.Proofs.YtfffefhchjnfjaaGreatDoor

namespace Go.Proofs.YtfffefhchjnfjaaGreatDoor
open Go.RowKit

/-- the reader's block is none of the library's variables -/
structure TabG (g : Nat) : Prop where
  mx : g ≠ 0
  es : g ≠ 1
theorem Tab.kept {w w' : World} {g : Nat} (h : Tab w) (hg : TabG g) (hk : Kept (fun k => k = g) w w') : Tab w' := by
  obtain ⟨⟨m, hm⟩, ev, he, hv⟩ := h
  exact ⟨⟨m, hk.cell hm (fun e => hg.mx e.symm)⟩, ev, hk.cell he (fun e => hg.es e.symm), hv⟩
attribute [local go_sem] run_store_func
set_option maxRecDepth 100000 in
set_option maxHeartbeats 4000000 in
theorem piece_step_pos (w : World) {g lim : Nat} {hd : Bool} {bk : Option Nat} {s : HSt} (h : RdS w g hd lim bk s) (hz : s.b.length ≤ 140737488355328) (hl : s.left ≤ 1000000000000000) (h0 : 0 < s.left) :
    Calls Tryz.prog 75 #[.pointer (some ⟨g, 0, none⟩)] w (EvR w g hd lim bk (leftV s)) := by
  obtain ⟨w2, hw2⟩ : ∃ w2, w2 = w.alloc (.cells #[.int .i64 0, .int .i64 0, .slice none 0 0, .int .i64 0, .slice none 0 0] 33) := ⟨_, rfl⟩
  obtain ⟨g2, hg2⟩ : ∃ g2, g2 = w.heap.size := ⟨_, rfl⟩
  have HH2 : Hid (Has w2 g2 33 ev0) := Lib.hid (by rw [hw2, hg2]; exact Has.new w 33 #[.int .i64 0, .int .i64 0, .slice none 0 0, .int .i64 0, .slice none 0 0])
  have hb2 : Below w.heap.size w w2 := by rw [hw2]; exact (Below.refl _ w).alloc (Nat.le_refl _) _
  have HR2 := Lib.hid (h.below hb2)
  have HB2 := Lib.hid hb2
  have H := Lib.hid h
  have HG2 := Lib.hid hg2
  clear h hb2
  have c10 := HR2.out.lfc
  have y1 : ((0 : Int) < (s.left : Int)) = True := eq_true (by omega)
  have y0 : (0 < s.left) = True := eq_true h0
  have HE := Lib.hid (piece_any w2 HR2.out s.left hz)
  have HL := Lib.hid hl
  clear h0 hz hl
  go_enter Tryz.func75, Tryz.ntmps75
  go_upto_region 1 with fail
  rw [← hw2, ← hg2]
  clear hw2 hg2
  go_wp2_with fail
  refine HE.out.mono ?_
  rintro e w3 ⟨x, rfl, hrd, hkp, hok⟩
  unfold An.v
  obtain ⟨g3, hg3⟩ : ∃ g3, g3 = w3.heap.size := ⟨_, rfl⟩
  obtain ⟨w4, hw4⟩ : ∃ w4, w4 = w3.alloc (.cells #[.int .i64 x.k, .int .i64 x.st, .slice x.fa x.fn x.fc, .int .i64 x.fr, .slice x.da x.dn x.dc] 33) := ⟨_, rfl⟩
  obtain ⟨w5, hw5⟩ : ∃ w5, w5 = w4.drew := ⟨_, rfl⟩
  obtain ⟨k, hk⟩ : ∃ k, k = s.left - x.dn := ⟨_, rfl⟩
  have hd4 : x.dn ≤ s.left := by rw [hok.dlen]; exact dl_le s s.left
  obtain ⟨hh5, hr5, hr6, hk6, ho6, hh6⟩ := left_told HR2.out.lt hkp.size hg3 hrd hkp hok hw4 hw5 hk
  have ho1 := ev_one x.k x.st x.fr x.fa x.da x.fn x.fc x.dn x.dc
  obtain ⟨hth, hst, hev⟩ := EvR.fwd (p := leftV s) H.out.lt H.out.bk_lt HG2.out HH2.out HB2.out hr6 hk6 ho6
  obtain ⟨z1, z2⟩ := lgj hd4 HL.out hk
  have HH5 := Lib.hid hh5
  have HR5 := Lib.hid hr5
  have HH6 := Lib.hid hh6
  have HTh := Lib.hid hth
  have HSt := Lib.hid hst
  have HEv := Lib.hid hev
  have c10n := hr5.lfc
  rw [piece_left] at c10n
  have c4 : w5.cell? ⟨g3, 4, none⟩ = some (.slice x.da x.dn x.dc) := hh5.cell 4 rfl
  have f10 := hr5.free 10
  have HC := Lib.hid (And.intro c10n c4)
  clear hrd hkp hok hk hd4 hh5 hr5 hr6 hk6 ho6 hth hst hev HH2 HB2 HR2 hh6 c10n c4 f10
  have HW4 := Lib.hid hw4
  clear hw4
  go_wp2_with fail
  rw [← HW4.out, ← hg3]
  clear c10 y1 y0 hg3 HW4
  refine Mx.regionZ [] (fun w' => w'.cell? ⟨g, 10, none⟩ = some (.int .i64 (s.left : Int)) ∧ w'.cell? ⟨g3, 4, none⟩ = some (.slice x.da x.dn x.dc)) (by kernel_rfl) (by kernel_rfl) (by rw [← hw5]; exact HC.out) ?_
  rw [← hw5]
  clear hw5
  repeat ((first | (refine Mx.skips (by kernel_rfl) ?_; go_big_quiet_skip) | (refine Mx.quietly rfl ?_; go_big_quiet_want; go_big_quiet_op; go_big_quiet_on)); refine Mx.done ?_)
  refine Mx.cell ⟨g, 10, none⟩ (.int .i64 (s.left : Int)) (by kernel_rfl) (by kernel_rfl) (by kernel_rfl) Tryz.isAgg3 (fun w' h => h.1) ?_
  go_big_quiet_want; go_big_quiet_op; go_big_quiet_on; refine Mx.done ?_
  repeat ((first | (refine Mx.skips (by kernel_rfl) ?_; go_big_quiet_skip) | (refine Mx.quietly rfl ?_; go_big_quiet_want; go_big_quiet_op; go_big_quiet_on)); refine Mx.done ?_)
  refine Mx.cell ⟨g3, 4, none⟩ (.slice x.da x.dn x.dc) (by kernel_rfl) (by kernel_rfl) (by kernel_rfl) Tryz.isAgg23 (fun w' h => h.2) ?_
  go_big_quiet_want; go_big_quiet_op; go_big_quiet_on; refine Mx.done ?_
  repeat ((first | (refine Mx.skips (by kernel_rfl) ?_; go_big_quiet_skip) | (refine Mx.quietly rfl ?_; go_big_quiet_want; go_big_quiet_op; go_big_quiet_on)); refine Mx.done ?_)
  have c10 := HC.out.1
  have f10 := HR5.out.free 10
  refine Mx.atLast (by kernel_rfl) (by kernel_rfl) ?_
  go_upto_region 4 with fail
  obtain ⟨w6, hw6⟩ : ∃ w6, w6 = w5.setCell ⟨g, 10, none⟩ (.int .i64 (k : Int)) := ⟨_, rfl⟩
  rw [← hw6] at HH6 HTh HSt HEv ⊢
  clear hw6 c10 f10
  have e0 : w6.cell? ⟨g3, 0, none⟩ = some (.int .i64 x.k) := HH6.out.cell 0 rfl
  have e1 : w6.cell? ⟨g3, 1, none⟩ = some (.int .i64 x.st) := HH6.out.cell 1 rfl
  have e2 : w6.cell? ⟨g3, 2, none⟩ = some (.slice x.fa x.fn x.fc) := HH6.out.cell 2 rfl
  have e3 : w6.cell? ⟨g3, 3, none⟩ = some (.int .i64 x.fr) := HH6.out.cell 3 rfl
  have e4 : w6.cell? ⟨g3, 4, none⟩ = some (.slice x.da x.dn x.dc) := HH6.out.cell 4 rfl
  have hth := HTh.out
  go_wp2_with (refine wpList_store_mid rfl 33 (.tmp 2) (.tmp 33) rfl g2 0 #[.int .i64 x.k, .int .i64 x.st, .slice x.fa x.fn x.fc, .int .i64 x.fr, .slice x.da x.dn x.dc] rfl rfl hth infoEv ho1 ?_)
  refine bodyPost_ret (results_ev3 rfl _ rfl HSt.out rfl) rfl ?_
  exact HEv.out
theorem chj {q q2 : Nat} (h : q2 = q + 2) (hq : q ≤ 8) : IntKind.i64.wrap ((q : Int) + 2) = (q2 : Int) ∧ RowKit.wrap64 ((q : Int) + 2) = (q2 : Int) := by
  rw [IntKind.wrap_i64]; unfold RowKit.wrap64; omega
theorem hexAc_32 {l : List UInt8} {m : Nat} (hl : l.length ≤ 8) (h : hexAc 0 l = some m) : m < 4294967296 := by
  have h1 := hexAc_lt l 0 m h
  have h2 : 16 ^ l.length ≤ 16 ^ 8 := Nat.pow_le_pow_right (by decide) hl
  omega
theorem chw {n : Nat} (h : n < 4294967296) : IntKind.i64.wrap (n : Int) = (n : Int) ∧ RowKit.wrap64 (n : Int) = (n : Int) := by
  rw [IntKind.wrap_i64]; unfold RowKit.wrap64; omega
theorem take_min10 (l : List UInt8) : l.take (min 10 l.length) = l.take 10 := by
  rcases Nat.le_total 10 l.length with h | h
  · rw [Nat.min_eq_left h]
  · rw [Nat.min_eq_right h, List.take_of_length_le (Nat.le_refl _), List.take_of_length_le h]
set_option maxRecDepth 100000 in
set_option maxHeartbeats 4000000 in
theorem chunk_step_any (w : World) (htb : Tab w) {g lim : Nat} (hgt : TabG g) {hd : Bool} {bk : Option Nat} {s : HSt} (h : RdS w g hd lim bk s) (hz : s.b.length < 4294967281) :
    Calls Tryz.prog 48 #[.pointer (some ⟨g, 0, none⟩)] w (EvR w g hd lim bk (chunkV lim s)) := by
  obtain ⟨w2, hw2⟩ : ∃ w2, w2 = w.alloc (.cells #[.int .i64 0, .int .i64 0, .slice none 0 0, .int .i64 0, .slice none 0 0] 33) := ⟨_, rfl⟩
  obtain ⟨g2, hg2⟩ : ∃ g2, g2 = w.heap.size := ⟨_, rfl⟩
  have HH2 : Hid (Has w2 g2 33 ev0) := Lib.hid (by rw [hw2, hg2]; exact Has.new w 33 #[.int .i64 0, .int .i64 0, .slice none 0 0, .int .i64 0, .slice none 0 0])
  have hb2 : Below w.heap.size w w2 := by rw [hw2]; exact (Below.refl _ w).alloc (Nat.le_refl _) _
  have HR2 := Lib.hid (h.below hb2)
  have HB2 := Lib.hid hb2
  have H := Lib.hid h
  have HG2 := Lib.hid hg2
  clear h hb2
  obtain ⟨a, c, c2, ht⟩ := HR2.out.bytes
  have HSl := Lib.hid ht.sl
  have HT2 := Lib.hid (htb.below HB2.out)
  have HGt := Lib.hid hgt
  obtain ⟨k, hk⟩ : ∃ k, k = s.b.length := ⟨_, rfl⟩
  rw [← hk] at c2 hz HSl
  have HK := Lib.hid hk
  have HZ := Lib.hid hz
  obtain ⟨p, hp⟩ : ∃ p, p = min 10 k := ⟨_, rfl⟩
  have HP : Hid (p ≤ k ∧ p ≤ 10) := Lib.hid (by omega)
  have m1 : min (10 : Int) (k : Int) = (p : Int) := by omega
  have b1 : (0 : Int) ≤ (p : Int) := by omega
  have b2 : (p : Int) ≤ (c : Int) := by have := HSl.out.cap_le; omega
  obtain ⟨w3, hw3⟩ : ∃ w3, w3 = w2.drew := ⟨_, rfl⟩
  have hb3 : Below w2.heap.size w2 w3 := by rw [hw3]; exact below_drewN (Below.refl _ _) 1
  obtain ⟨w4, hw4⟩ : ∃ w4, w4 = w3.alloc (.cells #[.int .u8 13, .int .u8 10] 5 (2, 3)) := ⟨_, rfl⟩
  obtain ⟨g4, hg4⟩ : ∃ g4, g4 = w3.heap.size := ⟨_, rfl⟩
  have kc := mark_kc w3
  have hb4 : Below w2.heap.size w2 w4 := by rw [hw4]; exact hb3.alloc hb3.size _
  have HB4 := Lib.hid hb4
  have hsp : Sl w4 a p c (bv (s.b.take 10)) := by
    have h := sl_take (HSl.out.below hb4) (k := p) HP.out.1
    rw [← take_min10, ← hk, ← hp]
    rw [show (bv s.b).take p = bv (s.b.take p) from by simp [bv]] at h
    exact h
  have HIx := index_any w4 (HT2.out.below hb4) hsp (by omega) (b := ⟨g4, 0, none⟩) (k := 2) (d := 2) (p := crS) (by rw [hw4, hg4]; exact mark_sl w3) (by decide)
  rw [cutL_cutS] at HIx
  have HR4 := Lib.hid (HR2.out.below hb4)
  have HT4 := Lib.hid (HT2.out.below hb4)
  have c3 : w3.cell? ⟨g, 2, none⟩ = some (.slice a k c) := by rw [hb3.cell (World.block_lt_of_cell? _ _ c2)]; exact c2
  have c4 : w4.cell? ⟨g, 2, none⟩ = some (.slice a k c) := by rw [hb4.cell (World.block_lt_of_cell? _ _ c2)]; exact c2
  have HC4 : Hid ((w3.alloc (.cells #[.int .u8 13, .int .u8 10] 5)).cell? ⟨g, 2, none⟩ = some (.slice a k c)) := Lib.hid (by rw [(Below.refl w3.heap.size w3 |>.alloc (Nat.le_refl _) _).cell (World.block_lt_of_cell? _ _ c3)]; exact c3)
  have HC2 := Lib.hid c2
  clear htb ht hz hk hb3 hb4 hp hsp hgt c2
  cases hcu : cutL (s.b.take 10) with
  | none =>
    rw [hcu] at HIx
    by_cases h9 : 9 < k
    · have HF : Hid (chunkV lim s = (s, .bad 203)) := Lib.hid (by unfold chunkV; rw [hcu]; simp only; rw [if_pos (by rw [← HK.out]; exact h9)])
      rw [HF.out]
      have y1 : ((9 : Int) < (k : Int)) = True := eq_true (by omega)
      replace HIx := Lib.hid (show Calls Tryz.prog 37 #[.slice a p c, .slice (some ⟨g4, 0, none⟩) 2 2] w4 (IntOf w4 (-1)) from HIx)
      clear hcu h9
      go_enter Tryz.func48, Tryz.ntmps48
      go_upto_region 1 with fail
      rw [← hw2, ← hg2]
      clear hw2 hg2
      refine Mx.region [21] (fun w' => w'.cell? ⟨g, 2, none⟩ = some (.slice a k c)) (by kernel_rfl) (by kernel_rfl) (by rw [← hw3]; exact c3) ?_
      rw [← hw3]
      clear hw3
      repeat ((first | (refine Mx.skips (by kernel_rfl) ?_; go_big_quiet_skip) | (refine Mx.quietly rfl ?_; go_big_quiet_want; go_big_quiet_op; go_big_quiet_on)); refine Mx.done ?_)
      refine Mx.cell ⟨g, 2, none⟩ (.slice a k c) (by kernel_rfl) (by kernel_rfl) (by kernel_rfl) Tryz.isAgg23 (fun w' h => h) ?_
      go_big_quiet_want; go_big_quiet_op; go_big_quiet_on; refine Mx.done ?_
      repeat ((first | (refine Mx.skips (by kernel_rfl) ?_; go_big_quiet_skip) | (refine Mx.quietly rfl ?_; go_big_quiet_want; go_big_quiet_op; go_big_quiet_on)); refine Mx.done ?_)
      refine Mx.cell ⟨g, 2, none⟩ (.slice a k c) (by kernel_rfl) (by kernel_rfl) (by kernel_rfl) Tryz.isAgg23 (fun w' h => h) ?_
      go_big_quiet_want; go_big_quiet_op; go_big_quiet_on; refine Mx.done ?_
      repeat ((first | (refine Mx.skips (by kernel_rfl) ?_; go_big_quiet_skip) | (refine Mx.quietly rfl ?_; go_big_quiet_want; go_big_quiet_op; go_big_quiet_on)); refine Mx.done ?_)
      refine Mx.loudly (by kernel_rfl) (by kernel_rfl) ?_
      go_wp2_with fail
      refine ⟨HC4.out, ?_⟩
      repeat ((first | (refine Mx.skips (by kernel_rfl) ?_; go_big_quiet_skip) | (refine Mx.quietly rfl ?_; go_big_quiet_want; go_big_quiet_op; go_big_quiet_on)); refine Mx.done ?_)
      refine Mx.loudly (by kernel_rfl) (by kernel_rfl) ?_
      go_wp2_with fail
      rw [← hw4, ← hg4]
      refine ⟨c4, ?_⟩
      clear hw4 hg4 kc c3
      repeat ((first | (refine Mx.skips (by kernel_rfl) ?_; go_big_quiet_skip) | (refine Mx.quietly rfl ?_; go_big_quiet_want; go_big_quiet_op; go_big_quiet_on)); refine Mx.done ?_)
      refine Mx.loudly (by kernel_rfl) (by kernel_rfl) ?_
      go_wp2_with fail
      refine HIx.out.mono ?_
      rintro e w5 ⟨rfl, hb5⟩
      have c5 : w5.cell? ⟨g, 2, none⟩ = some (.slice a k c) := by rw [hb5.cell (World.block_lt_of_cell? _ _ c4)]; exact c4
      have HR5 := Lib.hid (HR4.out.below hb5)
      have HT5 := Lib.hid (HT4.out.below hb5)
      have HB5 : Hid (Below w2.heap.size w2 w5) := Lib.hid (HB4.out.trans (hb5.mono HB4.out.size))
      clear hb5
      go_wp2_with fail
      repeat ((first | (refine Mx.skips (by kernel_rfl) ?_; go_big_quiet_skip) | (refine Mx.quietly rfl ?_; go_big_quiet_want; go_big_quiet_op; go_big_quiet_on)); refine Mx.done ?_)
      refine Mx.nil ?_
      have HRd := HR5
      have HKp : Hid (Kept (fun k => k = g) w2 w5) := Lib.hid (Kept.of_below HB5.out)
      obtain ⟨hth, hst, hev⟩ := EvR.fwd (p := (s, .bad 203)) (x := an0 203) H.out.lt H.out.bk_lt HG2.out HH2.out HB2.out HRd.out HKp.out rfl
      have HSt := Lib.hid hst
      have HEv := Lib.hid hev
      have ho1 := ev_one 0 0 0 none none 0 0 0 0
      clear hst hev
      go_wp2_with (refine wpList_store_mid rfl 33 (.tmp 2) (.tmp 31) rfl g2 0 #[.int .i64 0, .int .i64 0, .slice none 0 0, .int .i64 0, .slice none 0 0] rfl rfl hth infoEv ho1 ?_)
      refine bodyPost_ret (results_ev3 rfl _ rfl HSt.out rfl) rfl ?_
      exact HEv.out
    · have HF : Hid (chunkV lim s = waitV s) := Lib.hid (by unfold chunkV; rw [hcu]; simp only; rw [if_neg (by rw [← HK.out]; exact h9)])
      rw [HF.out]
      have y1 : ((9 : Int) < (k : Int)) = False := eq_false (by omega)
      replace HIx := Lib.hid (show Calls Tryz.prog 37 #[.slice a p c, .slice (some ⟨g4, 0, none⟩) 2 2] w4 (IntOf w4 (-1)) from HIx)
      clear hcu h9
      go_enter Tryz.func48, Tryz.ntmps48
      go_upto_region 1 with fail
      rw [← hw2, ← hg2]
      clear hw2 hg2
      refine Mx.region [21] (fun w' => w'.cell? ⟨g, 2, none⟩ = some (.slice a k c)) (by kernel_rfl) (by kernel_rfl) (by rw [← hw3]; exact c3) ?_
      rw [← hw3]
      clear hw3
      repeat ((first | (refine Mx.skips (by kernel_rfl) ?_; go_big_quiet_skip) | (refine Mx.quietly rfl ?_; go_big_quiet_want; go_big_quiet_op; go_big_quiet_on)); refine Mx.done ?_)
      refine Mx.cell ⟨g, 2, none⟩ (.slice a k c) (by kernel_rfl) (by kernel_rfl) (by kernel_rfl) Tryz.isAgg23 (fun w' h => h) ?_
      go_big_quiet_want; go_big_quiet_op; go_big_quiet_on; refine Mx.done ?_
      repeat ((first | (refine Mx.skips (by kernel_rfl) ?_; go_big_quiet_skip) | (refine Mx.quietly rfl ?_; go_big_quiet_want; go_big_quiet_op; go_big_quiet_on)); refine Mx.done ?_)
      refine Mx.cell ⟨g, 2, none⟩ (.slice a k c) (by kernel_rfl) (by kernel_rfl) (by kernel_rfl) Tryz.isAgg23 (fun w' h => h) ?_
      go_big_quiet_want; go_big_quiet_op; go_big_quiet_on; refine Mx.done ?_
      repeat ((first | (refine Mx.skips (by kernel_rfl) ?_; go_big_quiet_skip) | (refine Mx.quietly rfl ?_; go_big_quiet_want; go_big_quiet_op; go_big_quiet_on)); refine Mx.done ?_)
      refine Mx.loudly (by kernel_rfl) (by kernel_rfl) ?_
      go_wp2_with fail
      refine ⟨HC4.out, ?_⟩
      repeat ((first | (refine Mx.skips (by kernel_rfl) ?_; go_big_quiet_skip) | (refine Mx.quietly rfl ?_; go_big_quiet_want; go_big_quiet_op; go_big_quiet_on)); refine Mx.done ?_)
      refine Mx.loudly (by kernel_rfl) (by kernel_rfl) ?_
      go_wp2_with fail
      rw [← hw4, ← hg4]
      refine ⟨c4, ?_⟩
      clear hw4 hg4 kc c3
      repeat ((first | (refine Mx.skips (by kernel_rfl) ?_; go_big_quiet_skip) | (refine Mx.quietly rfl ?_; go_big_quiet_want; go_big_quiet_op; go_big_quiet_on)); refine Mx.done ?_)
      refine Mx.loudly (by kernel_rfl) (by kernel_rfl) ?_
      go_wp2_with fail
      refine HIx.out.mono ?_
      rintro e w5 ⟨rfl, hb5⟩
      have c5 : w5.cell? ⟨g, 2, none⟩ = some (.slice a k c) := by rw [hb5.cell (World.block_lt_of_cell? _ _ c4)]; exact c4
      have HR5 := Lib.hid (HR4.out.below hb5)
      have HT5 := Lib.hid (HT4.out.below hb5)
      have HB5 : Hid (Below w2.heap.size w2 w5) := Lib.hid (HB4.out.trans (hb5.mono HB4.out.size))
      clear hb5
      go_wp2_with fail
      repeat ((first | (refine Mx.skips (by kernel_rfl) ?_; go_big_quiet_skip) | (refine Mx.quietly rfl ?_; go_big_quiet_want; go_big_quiet_op; go_big_quiet_on)); refine Mx.done ?_)
      refine Mx.nil ?_
      have HWt := Lib.hid (wait_any w5 HR5.out)
      go_wp2_with fail
      refine HWt.out.mono ?_
      rintro e wz ⟨x, rfl, hrd, hkp, hok⟩
      obtain ⟨hth, hst, hev⟩ := EvR.fwd H.out.lt H.out.bk_lt HG2.out HH2.out HB2.out hrd ((Kept.of_below (X := fun k => k = g) HB5.out).trans hkp (fun _ _ h => h)) (hok.down HB5.out.size)
      have HSt := Lib.hid hst
      have HEv := Lib.hid hev
      have ho1 := ev_one x.k x.st x.fr x.fa x.da x.fn x.fc x.dn x.dc
      clear hrd hkp hok hst hev
      unfold An.v
      go_wp2_with (refine wpList_store_mid rfl 33 (.tmp 2) (.tmp 34) rfl g2 0 #[.int .i64 x.k, .int .i64 x.st, .slice x.fa x.fn x.fc, .int .i64 x.fr, .slice x.da x.dn x.dc] rfl rfl hth infoEv ho1 ?_)
      refine bodyPost_ret (results_ev3 rfl _ rfl HSt.out rfl) rfl ?_
      exact HEv.out
  | some xr =>
    obtain ⟨x, r0⟩ := xr
    rw [hcu] at HIx
    have hlt := cut_lt hcu
    have heq := cut_eq hcu
    rw [List.length_take] at hlt
    obtain ⟨q, hq⟩ : ∃ q, q = x.length := ⟨_, rfl⟩
    obtain ⟨q2, hq2⟩ : ∃ q2, q2 = q + 2 := ⟨_, rfl⟩
    have hqk : q2 ≤ k ∧ q ≤ 8 := by have := HK.out; omega
    replace HIx := Lib.hid (show Calls Tryz.prog 37 #[.slice a p c, .slice (some ⟨g4, 0, none⟩) 2 2] w4 (IntOf w4 (q : Int)) from by rw [hq]; exact HIx)
    have hbx : s.b.take q = x := by
      have e1 : (s.b.take 10).take q = x := by rw [heq, hq]; exact List.take_left
      rw [List.take_take, Nat.min_eq_left (by omega)] at e1
      exact e1
    have HSx : Hid (Sl w2 a q c (bv x)) := Lib.hid (by
      have h := sl_take HSl.out (k := q) (by omega)
      rw [← hbx]
      rw [show (bv s.b).take q = bv (s.b.take q) from by simp [bv]] at h
      exact h)
    have HX8 : Hid (x.length ≤ 8) := Lib.hid (by omega)
    have HQ2 : Hid (q2 ≤ k) := Lib.hid hqk.1
    have HF0 : Hid (chunkV lim s = if x = [] then (s, .bad 203) else match hexAc 0 x with
        | none => (s, .bad 203)
        | some n => if n = 0 then trailV lim { s with b := s.b.drop q2, stp := .trailers } else leftV { s with b := s.b.drop q2, left := n, stp := .piece }) := Lib.hid (by unfold chunkV; rw [hcu]; simp only; rw [hq2, hq]; rfl)
    obtain ⟨ad, rfl⟩ : ∃ ad, a = some ad := by
      cases a with
      | some ad => exact ⟨ad, rfl⟩
      | none => have := HSl.out.nil rfl; have := HSl.out.cap_le; omega
    have z0 : ((q : Int) < 0) = False := eq_false (by omega)
    have z1 : (0 : Int) ≤ (q : Int) := by omega
    have z2 : (q : Int) ≤ (c : Int) := by have := HSl.out.cap_le; omega
    have z5 : (q2 : Int) ≤ (c : Int) := by have := HSl.out.cap_le; omega
    have z6 : (q2 : Int) ≤ (k : Int) := by omega
    have z7 : (k : Int) ≤ (c : Int) := by have := HSl.out.cap_le; omega
    have z8 : (0 : Int) ≤ (q2 : Int) := by omega
    obtain ⟨z3, z4⟩ := chj hq2 hqk.2
    obtain ⟨X, hX⟩ : ∃ X, X = (if x = [] then none else hexAc 0 x) := ⟨_, rfl⟩
    have HX := Lib.hid hX
    clear hlt heq hbx hqk hq hq2 hcu
    cases X with
    | none =>
      have HF : Hid (chunkV lim s = (s, .bad 203)) := Lib.hid (by
        rw [HF0.out]
        by_cases h0 : x = []
        · rw [if_pos h0]
        · rw [if_neg h0] at hX ⊢; rw [← hX])
      rw [HF.out]
      clear HF0 hX
      go_enter Tryz.func48, Tryz.ntmps48
      go_upto_region 1 with fail
      rw [← hw2, ← hg2]
      clear hw2 hg2
      refine Mx.region [21] (fun w' => w'.cell? ⟨g, 2, none⟩ = some (.slice (some ad) k c)) (by kernel_rfl) (by kernel_rfl) (by rw [← hw3]; exact c3) ?_
      rw [← hw3]
      clear hw3
      repeat ((first | (refine Mx.skips (by kernel_rfl) ?_; go_big_quiet_skip) | (refine Mx.quietly rfl ?_; go_big_quiet_want; go_big_quiet_op; go_big_quiet_on)); refine Mx.done ?_)
      refine Mx.cell ⟨g, 2, none⟩ (.slice (some ad) k c) (by kernel_rfl) (by kernel_rfl) (by kernel_rfl) Tryz.isAgg23 (fun w' h => h) ?_
      go_big_quiet_want; go_big_quiet_op; go_big_quiet_on; refine Mx.done ?_
      repeat ((first | (refine Mx.skips (by kernel_rfl) ?_; go_big_quiet_skip) | (refine Mx.quietly rfl ?_; go_big_quiet_want; go_big_quiet_op; go_big_quiet_on)); refine Mx.done ?_)
      refine Mx.cell ⟨g, 2, none⟩ (.slice (some ad) k c) (by kernel_rfl) (by kernel_rfl) (by kernel_rfl) Tryz.isAgg23 (fun w' h => h) ?_
      go_big_quiet_want; go_big_quiet_op; go_big_quiet_on; refine Mx.done ?_
      repeat ((first | (refine Mx.skips (by kernel_rfl) ?_; go_big_quiet_skip) | (refine Mx.quietly rfl ?_; go_big_quiet_want; go_big_quiet_op; go_big_quiet_on)); refine Mx.done ?_)
      refine Mx.loudly (by kernel_rfl) (by kernel_rfl) ?_
      go_wp2_with fail
      refine ⟨HC4.out, ?_⟩
      repeat ((first | (refine Mx.skips (by kernel_rfl) ?_; go_big_quiet_skip) | (refine Mx.quietly rfl ?_; go_big_quiet_want; go_big_quiet_op; go_big_quiet_on)); refine Mx.done ?_)
      refine Mx.loudly (by kernel_rfl) (by kernel_rfl) ?_
      go_wp2_with fail
      rw [← hw4, ← hg4]
      refine ⟨c4, ?_⟩
      clear hw4 hg4 kc c3
      repeat ((first | (refine Mx.skips (by kernel_rfl) ?_; go_big_quiet_skip) | (refine Mx.quietly rfl ?_; go_big_quiet_want; go_big_quiet_op; go_big_quiet_on)); refine Mx.done ?_)
      refine Mx.loudly (by kernel_rfl) (by kernel_rfl) ?_
      go_wp2_with fail
      refine HIx.out.mono ?_
      rintro e w5 ⟨rfl, hb5⟩
      have c5 : w5.cell? ⟨g, 2, none⟩ = some (.slice (some ad) k c) := by rw [hb5.cell (World.block_lt_of_cell? _ _ c4)]; exact c4
      have HR5 := Lib.hid (HR4.out.below hb5)
      have HT5 := Lib.hid (HT4.out.below hb5)
      have HB5 : Hid (Below w2.heap.size w2 w5) := Lib.hid (HB4.out.trans (hb5.mono HB4.out.size))
      clear hb5
      go_wp2_with fail
      repeat ((first | (refine Mx.skips (by kernel_rfl) ?_; go_big_quiet_skip) | (refine Mx.quietly rfl ?_; go_big_quiet_want; go_big_quiet_op; go_big_quiet_on)); refine Mx.done ?_)
      refine Mx.nil ?_
      have hcv : (convert 23 9 (.slice (some ad) q c)).run Tryz.prog w5 = .ok (.string (strB x)) w5 := run_str (P := Tryz.prog) (HSx.out.below HB5.out) 23 5 9 Tryz.underlying23 Tryz.underlying5 Tryz.underlying9
      have hpu := pu_any w5 HT5.out x HX8.out
      unfold PuR at hpu
      rw [← HX.out] at hpu
      have HPu := Lib.hid hpu
      obtain ⟨S, hS⟩ : ∃ S, S = strB x := ⟨_, rfl⟩
      rw [← hS] at hcv HPu
      clear hS hpu
      go_wp2_with fail
      refine HPu.out.mono ?_
      rintro e w6 ⟨hb6, N, rfl⟩
      have HRd := Lib.hid (HR5.out.below hb6)
      have HKp : Hid (Kept (fun k => k = g) w2 w6) := Lib.hid (Kept.of_below (HB5.out.trans (hb6.mono HB5.out.size)))
      clear hb6 hcv
      obtain ⟨hth, hst, hev⟩ := EvR.fwd (p := (s, .bad 203)) (x := an0 203) H.out.lt H.out.bk_lt HG2.out HH2.out HB2.out HRd.out HKp.out rfl
      have HSt := Lib.hid hst
      have HEv := Lib.hid hev
      have ho1 := ev_one 0 0 0 none none 0 0 0 0
      clear hst hev
      go_wp2_with (refine wpList_store_mid rfl 33 (.tmp 2) (.tmp 56) rfl g2 0 #[.int .i64 0, .int .i64 0, .slice none 0 0, .int .i64 0, .slice none 0 0] rfl rfl hth infoEv ho1 ?_)
      refine bodyPost_ret (results_ev3 rfl _ rfl HSt.out rfl) rfl ?_
      exact HEv.out
    | some n =>
      have hx0 : ¬ x = [] := fun h => by rw [if_pos h] at hX; cases hX
      rw [if_neg hx0] at hX
      have HF : Hid (chunkV lim s = if n = 0 then trailV lim { s with b := s.b.drop q2, stp := .trailers } else leftV { s with b := s.b.drop q2, left := n, stp := .piece }) := Lib.hid (by rw [HF0.out, if_neg hx0, ← hX])
      have hn32 : n < 4294967296 := hexAc_32 HX8.out hX.symm
      have HN32 := Lib.hid hn32
      have HTrm := Lib.hid (hex_trim hX.symm)
      clear HF0 hX hx0
      have HW : Hid (IntKind.i64.wrap (n : Int) = (n : Int) ∧ RowKit.wrap64 (n : Int) = (n : Int)) := Lib.hid (chw hn32)
      have HN0 : Hid ((n = 0 → ((n : Int) == 0) = true ∧ ((n : Int) = 0) = True) ∧ (¬ n = 0 → ((n : Int) == 0) = false ∧ ((n : Int) = 0) = False)) := Lib.hid lgz
      clear hn32
      go_enter Tryz.func48, Tryz.ntmps48
      go_upto_region 1 with fail
      rw [← hw2, ← hg2]
      clear hw2 hg2
      refine Mx.region [21] (fun w' => w'.cell? ⟨g, 2, none⟩ = some (.slice (some ad) k c)) (by kernel_rfl) (by kernel_rfl) (by rw [← hw3]; exact c3) ?_
      rw [← hw3]
      clear hw3
      repeat ((first | (refine Mx.skips (by kernel_rfl) ?_; go_big_quiet_skip) | (refine Mx.quietly rfl ?_; go_big_quiet_want; go_big_quiet_op; go_big_quiet_on)); refine Mx.done ?_)
      refine Mx.cell ⟨g, 2, none⟩ (.slice (some ad) k c) (by kernel_rfl) (by kernel_rfl) (by kernel_rfl) Tryz.isAgg23 (fun w' h => h) ?_
      go_big_quiet_want; go_big_quiet_op; go_big_quiet_on; refine Mx.done ?_
      repeat ((first | (refine Mx.skips (by kernel_rfl) ?_; go_big_quiet_skip) | (refine Mx.quietly rfl ?_; go_big_quiet_want; go_big_quiet_op; go_big_quiet_on)); refine Mx.done ?_)
      refine Mx.cell ⟨g, 2, none⟩ (.slice (some ad) k c) (by kernel_rfl) (by kernel_rfl) (by kernel_rfl) Tryz.isAgg23 (fun w' h => h) ?_
      go_big_quiet_want; go_big_quiet_op; go_big_quiet_on; refine Mx.done ?_
      repeat ((first | (refine Mx.skips (by kernel_rfl) ?_; go_big_quiet_skip) | (refine Mx.quietly rfl ?_; go_big_quiet_want; go_big_quiet_op; go_big_quiet_on)); refine Mx.done ?_)
      refine Mx.loudly (by kernel_rfl) (by kernel_rfl) ?_
      go_wp2_with fail
      refine ⟨HC4.out, ?_⟩
      repeat ((first | (refine Mx.skips (by kernel_rfl) ?_; go_big_quiet_skip) | (refine Mx.quietly rfl ?_; go_big_quiet_want; go_big_quiet_op; go_big_quiet_on)); refine Mx.done ?_)
      refine Mx.loudly (by kernel_rfl) (by kernel_rfl) ?_
      go_wp2_with fail
      rw [← hw4, ← hg4]
      refine ⟨c4, ?_⟩
      clear hw4 hg4 kc c3
      repeat ((first | (refine Mx.skips (by kernel_rfl) ?_; go_big_quiet_skip) | (refine Mx.quietly rfl ?_; go_big_quiet_want; go_big_quiet_op; go_big_quiet_on)); refine Mx.done ?_)
      refine Mx.loudly (by kernel_rfl) (by kernel_rfl) ?_
      go_wp2_with fail
      refine HIx.out.mono ?_
      rintro e w5 ⟨rfl, hb5⟩
      have c5 : w5.cell? ⟨g, 2, none⟩ = some (.slice (some ad) k c) := by rw [hb5.cell (World.block_lt_of_cell? _ _ c4)]; exact c4
      have HR5 := Lib.hid (HR4.out.below hb5)
      have HT5 := Lib.hid (HT4.out.below hb5)
      have HB5 : Hid (Below w2.heap.size w2 w5) := Lib.hid (HB4.out.trans (hb5.mono HB4.out.size))
      clear hb5
      go_wp2_with fail
      repeat ((first | (refine Mx.skips (by kernel_rfl) ?_; go_big_quiet_skip) | (refine Mx.quietly rfl ?_; go_big_quiet_want; go_big_quiet_op; go_big_quiet_on)); refine Mx.done ?_)
      refine Mx.nil ?_
      have hcv : (convert 23 9 (.slice (some ad) q c)).run Tryz.prog w5 = .ok (.string (strB x)) w5 := run_str (P := Tryz.prog) (HSx.out.below HB5.out) 23 5 9 Tryz.underlying23 Tryz.underlying5 Tryz.underlying9
      have hpu := pu_any w5 HT5.out x HX8.out
      unfold PuR at hpu
      rw [← HX.out] at hpu
      have HPu := Lib.hid hpu
      have htr := fun w' => xtrim_any w' (strB x) (by rw [strB_size]; have := HX8.out; omega)
      rw [bl_strB', HTrm.out] at htr
      obtain ⟨T, hT⟩ : ∃ T, T = strB [] := ⟨_, rfl⟩
      obtain ⟨y0, y1, y2⟩ := emT (s := T) (by rw [hT, bl_strB'])
      obtain ⟨S, hS⟩ : ∃ S, S = strB x := ⟨_, rfl⟩
      rw [← hS] at hcv HPu htr
      have HTr : Hid (∀ w', Calls Tryz.prog 45 #[.string S, .string ⟨#[48, 49, 50, 51, 52, 53, 54, 55, 56, 57, 97, 98, 99, 100, 101, 102, 65, 66, 67, 68, 69, 70]⟩] w' (TupOf w' (.string T))) := Lib.hid (by rw [hT]; exact htr)
      clear hS hpu hT htr
      go_wp2_with fail
      refine HPu.out.mono ?_
      rintro e w6 ⟨hb6, rfl⟩
      have HR6 := Lib.hid (HR5.out.below hb6)
      have HT6 := Lib.hid (HT5.out.below hb6)
      have HB6 : Hid (Below w2.heap.size w2 w6) := Lib.hid (HB5.out.trans (hb6.mono HB5.out.size))
      clear hb6 hcv
      have HTr6 := Lib.hid (HTr.out w6)
      clear HTr
      go_wp2_with fail
      refine HTr6.out.mono ?_
      rintro e w7 ⟨rfl, hb7⟩
      have hr7 := HR6.out.below hb7
      have HT7 := Lib.hid (HT6.out.below hb7)
      have HB7 : Hid (Below w2.heap.size w2 w7) := Lib.hid (HB6.out.trans (hb7.mono HB6.out.size))
      have c7 : w7.cell? ⟨g, 2, none⟩ = some (.slice (some ad) k c) := by rw [HB7.out.cell (World.block_lt_of_cell? _ _ HC2.out)]; exact HC2.out
      have f7 := hr7.free 2
      have HR7 := Lib.hid hr7
      clear hb7 hr7 c4 c5
      go_upto_region 11 with fail
      obtain ⟨V, hV⟩ : ∃ V : Option Addr, V = if c = q2 then some ad else some (ad.add q2) := ⟨_, rfl⟩
      rw [← hV]
      obtain ⟨w8, hw8⟩ : ∃ w8, w8 = w7.setCell ⟨g, 2, none⟩ (.slice V (k - q2) (c - q2)) := ⟨_, rfl⟩
      have hr8 : RdS w8 g hd lim bk { s with b := s.b.drop q2 } := by rw [hw8]; exact HR7.out.cut2 HK.out c7 HQ2.out hV
      have HK8 : Hid (Kept (fun k => k = g) w2 w8) := Lib.hid (by rw [hw8]; exact (Kept.of_below (X := fun k => k = g) HB7.out).trans (Kept.set w7 g 2 _) (fun _ _ h => h))
      have HT8 : Hid (Tab w8) := Lib.hid (by rw [hw8]; exact HT7.out.kept HGt.out (Kept.set w7 g 2 _))
      have HZd : Hid ((s.b.drop q2).length < 4294967281) := Lib.hid (by rw [List.length_drop, ← HK.out]; exact Nat.lt_of_le_of_lt (Nat.sub_le _ _) HZ.out)
      rw [← hw8]
      obtain ⟨_, ⟨v5, d5⟩, v10, d10⟩ := hr8.cells
      have f5 := hr8.free 5
      have f10 := hr8.free 10
      have HR8 := Lib.hid hr8
      clear hw8 hV c7 f7 hr8 m1 b1 b2 z0 z1 z2 z3 z4 z5 z6 z7 z8 y0 y1 y2
      by_cases hn0 : n = 0
      · obtain ⟨y3, y4⟩ := HN0.out.1 hn0
        rw [if_pos hn0] at HF
        clear hn0
        go_upto_region 13 with fail
        obtain ⟨w9, hw9⟩ : ∃ w9, w9 = w8.setCell ⟨g, 5, none⟩ (stpV .trailers) := ⟨_, rfl⟩
        have hr9 : RdS w9 g hd lim bk { s with b := s.b.drop q2, stp := .trailers } := by rw [hw9]; exact HR8.out.stp .trailers
        have HK9 : Hid (Kept (fun k => k = g) w2 w9) := Lib.hid (by rw [hw9]; exact HK8.out.trans (Kept.set w8 g 5 _) (fun _ _ h => h))
        have ht9 : Tab w9 := by rw [hw9]; exact HT8.out.kept HGt.out (Kept.set w8 g 5 _)
        have HTl := Lib.hid (trail_step_any w9 ht9 hr9 HZd.out)
        change Code.wp Tryz.prog _ _ _ (w8.setCell ⟨g, 5, none⟩ (stpV .trailers))
        rw [← hw9]
        clear hw9 hr9 ht9 d5 d10 f5 f10
        go_wp2_with fail
        refine HTl.out.mono ?_
        rintro e wz ⟨x, rfl, hrd, hkp, hok⟩
        obtain ⟨hth, hst, hev⟩ := EvR.fwd (p := trailV lim { s with b := s.b.drop q2, stp := .trailers }) H.out.lt H.out.bk_lt HG2.out HH2.out HB2.out hrd (HK9.out.trans hkp (fun _ _ h => h)) (hok.down HK9.out.size)
        have HSt := Lib.hid hst
        have HEv := Lib.hid hev
        have ho1 := ev_one x.k x.st x.fr x.fa x.da x.fn x.fc x.dn x.dc
        clear hrd hkp hok hst hev
        unfold An.v
        go_wp2_with (refine wpList_store_mid rfl 33 (.tmp 2) (.tmp 74) rfl g2 0 #[.int .i64 x.k, .int .i64 x.st, .slice x.fa x.fn x.fc, .int .i64 x.fr, .slice x.da x.dn x.dc] rfl rfl hth infoEv ho1 ?_)
        refine bodyPost_ret (results_ev3 rfl _ rfl HSt.out rfl) rfl ?_
        have h := HEv.out
        rw [← HF.out] at h
        exact h
      · obtain ⟨y3, y4⟩ := HN0.out.2 hn0
        rw [if_neg hn0] at HF
        obtain ⟨u1, u2⟩ := HW.out
        have HNp : Hid (0 < n) := Lib.hid (Nat.pos_of_ne_zero hn0)
        clear hn0
        go_upto_region 15 with fail
        obtain ⟨w9, hw9⟩ : ∃ w9, w9 = (w8.setCell ⟨g, 10, none⟩ (.int .i64 (n : Int))).setCell ⟨g, 5, none⟩ (stpV .piece) := ⟨_, rfl⟩
        have hr9 : RdS w9 g hd lim bk { s with b := s.b.drop q2, left := n, stp := .piece } := by rw [hw9]; exact (HR8.out.lf n).stp .piece
        have HK9 : Hid (Kept (fun k => k = g) w2 w9) := Lib.hid (by rw [hw9]; exact (HK8.out.trans (Kept.set w8 g 10 _) (fun _ _ h => h)).trans (Kept.set _ g 5 _) (fun _ _ h => h))
        have HTl := Lib.hid (piece_step_pos w9 hr9 (Nat.le_trans (Nat.le_of_lt HZd.out) (by decide)) (Nat.le_trans (Nat.le_of_lt HN32.out) (by decide)) HNp.out)
        change Code.wp Tryz.prog _ _ _ ((w8.setCell ⟨g, 10, none⟩ (.int .i64 (n : Int))).setCell ⟨g, 5, none⟩ (stpV .piece))
        rw [← hw9]
        clear hw9 hr9 d5 d10 f5 f10 u1 u2
        go_wp2_with fail
        refine HTl.out.mono ?_
        rintro e wz ⟨x, rfl, hrd, hkp, hok⟩
        obtain ⟨hth, hst, hev⟩ := EvR.fwd (p := leftV { s with b := s.b.drop q2, left := n, stp := .piece }) H.out.lt H.out.bk_lt HG2.out HH2.out HB2.out hrd (HK9.out.trans hkp (fun _ _ h => h)) (hok.down HK9.out.size)
        have HSt := Lib.hid hst
        have HEv := Lib.hid hev
        have ho1 := ev_one x.k x.st x.fr x.fa x.da x.fn x.fc x.dn x.dc
        clear hrd hkp hok hst hev
        unfold An.v
        go_wp2_with (refine wpList_store_mid rfl 33 (.tmp 2) (.tmp 87) rfl g2 0 #[.int .i64 x.k, .int .i64 x.st, .slice x.fa x.fn x.fc, .int .i64 x.fr, .slice x.da x.dn x.dc] rfl rfl hth infoEv ho1 ?_)
        refine bodyPost_ret (results_ev3 rfl _ rfl HSt.out rfl) rfl ?_
        have h := HEv.out
        rw [← HF.out] at h
        exact h
end Go.Proofs.YtfffefhchjnfjaaGreatDoor

namespace Go.Proofs.YtfffefhchjnfjaaGreatDoor
open Go.RowKit

attribute [local go_sem] run_store_func
theorem pcs_bad {lim : Nat} {s : HSt} (h0 : s.left = 0) (h : (0 < s.b.length ∧ atB s.b 0 ≠ 13) ∨ (1 < s.b.length ∧ atB s.b 1 ≠ 10)) : pieceS lim s = (s, .bad 203) := by
  unfold pieceS; rw [if_neg (by omega), if_pos h]
theorem pcs_wait {lim : Nat} {s : HSt} (h0 : s.left = 0) (h : ¬ ((0 < s.b.length ∧ atB s.b 0 ≠ 13) ∨ (1 < s.b.length ∧ atB s.b 1 ≠ 10))) (h2 : s.b.length < 2) : pieceS lim s = waitV s := by
  unfold pieceS; rw [if_neg (by omega), if_neg h, if_pos h2]
theorem pcs_go {lim : Nat} {s : HSt} (h0 : s.left = 0) (h : ¬ ((0 < s.b.length ∧ atB s.b 0 ≠ 13) ∨ (1 < s.b.length ∧ atB s.b 1 ≠ 10))) (h2 : ¬ s.b.length < 2) : pieceS lim s = chunkV lim { s with b := s.b.drop 2, stp := .chunk } := by
  unfold pieceS; rw [if_neg (by omega), if_neg h, if_neg h2]
theorem pj0 {k : Nat} (h : k = 0) : ((0 : Int) < (k : Int)) = False ∧ (0 < k) = False ∧ ((1 : Int) < (k : Int)) = False ∧ ((k : Int) < 2) = True := ⟨eq_false (by omega), eq_false (by omega), eq_false (by omega), eq_true (by omega)⟩
theorem pj1 {k : Nat} (h : 0 < k) : ((0 : Int) < (k : Int)) = True ∧ (0 < k) = True := ⟨eq_true (by omega), eq_true h⟩
theorem pj2 {k : Nat} (h : k < 2) : ((1 : Int) < (k : Int)) = False ∧ ((k : Int) < 2) = True := ⟨eq_false (by omega), eq_true (by omega)⟩
theorem pj3 {k : Nat} (h : ¬ k < 2) : ((1 : Int) < (k : Int)) = True ∧ ((k : Int) < 2) = False := ⟨eq_true (by omega), eq_false (by omega)⟩
theorem u8ne {x : Int} {b c : UInt8} (hx : x = (b.toNat : Int)) (h : ¬ b = c) : (x == (c.toNat : Int)) = false ∧ (x != (c.toNat : Int)) = true ∧ ¬ x = (c.toNat : Int) := by
  obtain ⟨h1, h2⟩ := ub_ne hx h
  exact ⟨h1, by simpa using h2, h2⟩
set_option maxRecDepth 100000 in
set_option maxHeartbeats 4000000 in
theorem pieceS_any (w : World) (htb : Tab w) {g lim : Nat} (hgt : TabG g) {hd : Bool} {bk : Option Nat} {s : HSt} (h : RdS w g hd lim bk s) (hz : s.b.length < 4294967281) (hl : s.left ≤ 1000000000000000) :
    Calls Tryz.prog 75 #[.pointer (some ⟨g, 0, none⟩)] w (EvR w g hd lim bk (pieceS lim s)) := by
  by_cases h0 : 0 < s.left
  · have e : pieceS lim s = leftV s := by unfold pieceS; rw [if_pos h0]
    rw [e]
    exact piece_step_pos w h (Nat.le_trans (Nat.le_of_lt hz) (by decide)) hl h0
  replace h0 : s.left = 0 := by omega
  obtain ⟨w2, hw2⟩ : ∃ w2, w2 = w.alloc (.cells #[.int .i64 0, .int .i64 0, .slice none 0 0, .int .i64 0, .slice none 0 0] 33) := ⟨_, rfl⟩
  obtain ⟨g2, hg2⟩ : ∃ g2, g2 = w.heap.size := ⟨_, rfl⟩
  have HH2 : Hid (Has w2 g2 33 ev0) := Lib.hid (by rw [hw2, hg2]; exact Has.new w 33 #[.int .i64 0, .int .i64 0, .slice none 0 0, .int .i64 0, .slice none 0 0])
  have hb2 : Below w.heap.size w w2 := by rw [hw2]; exact (Below.refl _ w).alloc (Nat.le_refl _) _
  have HR2 := Lib.hid (h.below hb2)
  have HB2 := Lib.hid hb2
  have H := Lib.hid h
  have HG2 := Lib.hid hg2
  clear h hb2
  have c10 := HR2.out.lfc
  rw [h0] at c10
  have H0 := Lib.hid h0
  obtain ⟨a, c, c2, ht⟩ := HR2.out.bytes
  have HSl := Lib.hid ht.sl
  have HT2 := Lib.hid (htb.below HB2.out)
  have HGt := Lib.hid hgt
  obtain ⟨k, hk⟩ : ∃ k, k = s.b.length := ⟨_, rfl⟩
  rw [← hk] at c2 hz HSl
  have HK := Lib.hid hk
  have HZ := Lib.hid hz
  clear htb ht hz hk hgt h0 hl
  by_cases k0 : k = 0
  · obtain ⟨y1, y2, y3, y4⟩ := pj0 k0
    have HF : Hid (pieceS lim s = waitV s) := Lib.hid (pcs_wait H0.out (by have := HK.out; omega) (by have := HK.out; omega))
    rw [HF.out]
    clear k0
    have HWt := Lib.hid (wait_any w2 HR2.out)
    go_enter Tryz.func75, Tryz.ntmps75
    go_upto_region 1 with fail
    rw [← hw2, ← hg2]
    clear hw2 hg2
    go_wp2_with fail
    refine HWt.out.mono ?_
    rintro e w3 ⟨x, rfl, hrd, hkp, hok⟩
    obtain ⟨hth, hst, hev⟩ := EvR.fwd H.out.lt H.out.bk_lt HG2.out HH2.out HB2.out hrd hkp hok
    have HSt := Lib.hid hst
    have HEv := Lib.hid hev
    have ho1 := ev_one x.k x.st x.fr x.fa x.da x.fn x.fc x.dn x.dc
    clear hrd hkp hok hst hev
    unfold An.v
    go_wp2_with (refine wpList_store_mid rfl 33 (.tmp 2) (.tmp 79) rfl g2 0 #[.int .i64 x.k, .int .i64 x.st, .slice x.fa x.fn x.fc, .int .i64 x.fr, .slice x.da x.dn x.dc] rfl rfl hth infoEv ho1 ?_)
    refine bodyPost_ret (results_ev3 rfl _ rfl HSt.out rfl) rfl ?_
    exact HEv.out
  · have k1 : 0 < k := by omega
    obtain ⟨b, off, rfl, hcs⟩ := HSl.out.cells k1
    obtain ⟨y1, y2⟩ := pj1 k1
    have hl0 : 0 < s.b.length := by rw [← HK.out]; exact k1
    have d0 := hcs 0 k1
    rw [bv_get s.b 0 hl0, Nat.add_zero] at d0
    have hcap := HSl.out.cap_le
    have i1 : (1 : Int) ≤ (k : Int) := by omega
    have i2 : (k : Int) ≤ (c : Int) := by omega
    have i3 : (0 : Int) < (k : Int) := by omega
    by_cases e0 : s.b[0] = 13
    · rw [e0] at d0
      replace d0 : w2.cell? ⟨b, off, none⟩ = some (.int .u8 13) := d0
      have a0 : atB s.b 0 = 13 := by rw [atB_get hl0]; exact e0
      by_cases k2 : k < 2
      · obtain ⟨y3, y4⟩ := pj2 k2
        have HF : Hid (pieceS lim s = waitV s) := Lib.hid (pcs_wait H0.out (fun h => h.elim (fun h => h.2 a0) (fun h => absurd h.1 (by have := HK.out; omega))) (by rw [← HK.out]; exact k2))
        rw [HF.out]
        clear k0 k1 hcs hl0 hcap e0 a0 k2
        have HWt := Lib.hid (wait_any w2 HR2.out)
        go_enter Tryz.func75, Tryz.ntmps75
        go_upto_region 1 with fail
        rw [← hw2, ← hg2]
        clear hw2 hg2
        go_wp2_with fail
        refine HWt.out.mono ?_
        rintro e w3 ⟨x, rfl, hrd, hkp, hok⟩
        obtain ⟨hth, hst, hev⟩ := EvR.fwd H.out.lt H.out.bk_lt HG2.out HH2.out HB2.out hrd hkp hok
        have HSt := Lib.hid hst
        have HEv := Lib.hid hev
        have ho1 := ev_one x.k x.st x.fr x.fa x.da x.fn x.fc x.dn x.dc
        clear hrd hkp hok hst hev
        unfold An.v
        go_wp2_with (refine wpList_store_mid rfl 33 (.tmp 2) (.tmp 79) rfl g2 0 #[.int .i64 x.k, .int .i64 x.st, .slice x.fa x.fn x.fc, .int .i64 x.fr, .slice x.da x.dn x.dc] rfl rfl hth infoEv ho1 ?_)
        refine bodyPost_ret (results_ev3 rfl _ rfl HSt.out rfl) rfl ?_
        exact HEv.out
      · obtain ⟨y3, y4⟩ := pj3 k2
        have hl1 : 1 < s.b.length := by have := HK.out; omega
        have d1 := hcs 1 (by omega)
        rw [bv_get s.b 1 hl1] at d1
        have i4 : (1 : Int) < (k : Int) := by omega
        have i5 : (2 : Int) ≤ (k : Int) := by omega
        have i6 : (2 : Int) ≤ (c : Int) := by omega
        by_cases e1 : s.b[1] = 10
        · rw [e1] at d1
          replace d1 : w2.cell? ⟨b, off + 1, none⟩ = some (.int .u8 10) := d1
          have a1 : atB s.b 1 = 10 := by rw [atB_get hl1]; exact e1
          have HF : Hid (pieceS lim s = chunkV lim { s with b := s.b.drop 2, stp := .chunk }) := Lib.hid (pcs_go H0.out (fun h => h.elim (fun h => h.2 a0) (fun h => h.2 a1)) (by rw [← HK.out]; exact k2))
          rw [HF.out]
          have HK2 : Hid (2 ≤ k) := Lib.hid (by omega)
          have f2 := HR2.out.free 2
          obtain ⟨_, ⟨v5, d5⟩, _⟩ := HR2.out.cells
          have f5 := HR2.out.free 5
          have n5 : ∀ v, (w2.setCell ⟨g, 2, none⟩ v).cell? ⟨g, 5, none⟩ = some v5 := fun v => by
            have hh := HR2.out
            obtain ⟨r, a', n', c', hr, _⟩ := hh.ex
            have h1 := Has.cell (Has.set hr 2 v) 5 (v := r.st) rfl
            have h2 := hr.at 5 (v := r.st) rfl
            rw [d5] at h2
            rw [h1, h2]
          have m5 : ∀ v, (w2.setCell ⟨g, 2, none⟩ v).frozen? ⟨g, 5, none⟩ = false := fun v => by
            have hh := HR2.out
            obtain ⟨r, a', n', c', hr, _⟩ := hh.ex
            exact Has.free (Has.set hr 2 v) 5
          clear k0 k1 hcs hl0 hl1 hcap e0 a0 k2 e1 a1
          go_enter Tryz.func75, Tryz.ntmps75
          go_upto_region 1 with fail
          rw [← hw2, ← hg2]
          clear hw2 hg2
          go_upto_region 10 with fail
          obtain ⟨V, hV⟩ : ∃ V : Option Addr, V = if c = 2 then some ⟨b, off, none⟩ else some { block := b, off := off + 2 } := ⟨_, rfl⟩
          rw [← hV]
          obtain ⟨w3, hw3⟩ : ∃ w3, w3 = w2.setCell ⟨g, 2, none⟩ (.slice V (k - 2) (c - 2)) := ⟨_, rfl⟩
          have HR3 : Hid (RdS w3 g hd lim bk { s with b := s.b.drop 2 }) := Lib.hid (by rw [hw3]; exact HR2.out.cut2 HK.out c2 HK2.out (by rw [hV]; simp [Addr.add]))
          have HK3 : Hid (Kept (fun k => k = g) w2 w3) := Lib.hid (by rw [hw3]; exact Kept.set w2 g 2 _)
          have HT3 : Hid (Tab w3) := Lib.hid (by rw [hw3]; exact HT2.out.kept HGt.out (Kept.set w2 g 2 _))
          have c5 : w3.cell? ⟨g, 5, none⟩ = some v5 := by rw [hw3]; exact n5 _
          have f5 : w3.frozen? ⟨g, 5, none⟩ = false := by rw [hw3]; exact m5 _
          have HZd : Hid ((s.b.drop 2).length < 4294967281) := Lib.hid (by rw [List.length_drop, ← HK.out]; exact Nat.lt_of_le_of_lt (Nat.sub_le _ _) HZ.out)
          rw [← hw3]
          clear hw3 hV c2 f2 n5 m5 d5 d0 d1 i1 i2 i3 i4 i5 i6
          go_upto_region 11 with fail
          obtain ⟨w4, hw4⟩ : ∃ w4, w4 = w3.setCell ⟨g, 5, none⟩ (stpV .chunk) := ⟨_, rfl⟩
          have hr4 : RdS w4 g hd lim bk { s with b := s.b.drop 2, stp := .chunk } := by rw [hw4]; exact HR3.out.stp .chunk
          have HK4 : Hid (Kept (fun k => k = g) w2 w4) := Lib.hid (by rw [hw4]; exact HK3.out.trans (Kept.set w3 g 5 _) (fun _ _ h => h))
          have ht4 : Tab w4 := by rw [hw4]; exact HT3.out.kept HGt.out (Kept.set w3 g 5 _)
          have HCk := Lib.hid (chunk_step_any w4 ht4 HGt.out hr4 HZd.out)
          change Code.wp Tryz.prog _ _ _ (w3.setCell ⟨g, 5, none⟩ (stpV .chunk))
          rw [← hw4]
          clear hw4 hr4 ht4 c5 f5
          go_wp2_with fail
          refine HCk.out.mono ?_
          rintro e wz ⟨x, rfl, hrd, hkp, hok⟩
          obtain ⟨hth, hst, hev⟩ := EvR.fwd (p := chunkV lim { s with b := s.b.drop 2, stp := .chunk }) H.out.lt H.out.bk_lt HG2.out HH2.out HB2.out hrd (HK4.out.trans hkp (fun _ _ h => h)) (hok.down HK4.out.size)
          have HSt := Lib.hid hst
          have HEv := Lib.hid hev
          have ho1 := ev_one x.k x.st x.fr x.fa x.da x.fn x.fc x.dn x.dc
          clear hrd hkp hok hst hev
          unfold An.v
          go_wp2_with (refine wpList_store_mid rfl 33 (.tmp 2) (.tmp 95) rfl g2 0 #[.int .i64 x.k, .int .i64 x.st, .slice x.fa x.fn x.fc, .int .i64 x.fr, .slice x.da x.dn x.dc] rfl rfl hth infoEv ho1 ?_)
          refine bodyPost_ret (results_ev3 rfl _ rfl HSt.out rfl) rfl ?_
          exact HEv.out
        · obtain ⟨x, hx⟩ : ∃ x : Int, x = (s.b[1].toNat : Int) := ⟨_, rfl⟩
          rw [← hx] at d1
          obtain ⟨n1, n2, n3⟩ : (x == 10) = false ∧ (x != 10) = true ∧ ¬ x = 10 := u8ne (c := 10) hx e1
          have HF : Hid (pieceS lim s = (s, .bad 203)) := Lib.hid (pcs_bad H0.out (.inr ⟨hl1, by rw [atB_get hl1]; exact e1⟩))
          rw [HF.out]
          clear k0 k1 hcs hl0 hl1 hcap e0 a0 k2 e1 hx
          go_enter Tryz.func75, Tryz.ntmps75
          go_upto_region 1 with fail
          rw [← hw2, ← hg2]
          clear hw2 hg2
          have HRd := HR2
          have HKp : Hid (Kept (fun k => k = g) w2 w2) := Lib.hid (Kept.refl _ _)
          obtain ⟨hth, hst, hev⟩ := EvR.fwd (p := (s, .bad 203)) (x := an0 203) H.out.lt H.out.bk_lt HG2.out HH2.out HB2.out HRd.out HKp.out rfl
          have HSt := Lib.hid hst
          have HEv := Lib.hid hev
          have ho1 := ev_one 0 0 0 none none 0 0 0 0
          clear hst hev
          go_wp2_with (refine wpList_store_mid rfl 33 (.tmp 2) (.tmp 69) rfl g2 0 #[.int .i64 0, .int .i64 0, .slice none 0 0, .int .i64 0, .slice none 0 0] rfl rfl hth infoEv ho1 ?_)
          refine bodyPost_ret (results_ev3 rfl _ rfl HSt.out rfl) rfl ?_
          exact HEv.out
    · obtain ⟨x, hx⟩ : ∃ x : Int, x = (s.b[0].toNat : Int) := ⟨_, rfl⟩
      rw [← hx] at d0
      obtain ⟨n1, n2, n3⟩ : (x == 13) = false ∧ (x != 13) = true ∧ ¬ x = 13 := u8ne (c := 13) hx e0
      have HF : Hid (pieceS lim s = (s, .bad 203)) := Lib.hid (pcs_bad H0.out (.inl ⟨hl0, by rw [atB_get hl0]; exact e0⟩))
      rw [HF.out]
      clear k0 k1 hcs hl0 hcap e0 hx
      go_enter Tryz.func75, Tryz.ntmps75
      go_upto_region 1 with fail
      rw [← hw2, ← hg2]
      clear hw2 hg2
      have HRd := HR2
      have HKp : Hid (Kept (fun k => k = g) w2 w2) := Lib.hid (Kept.refl _ _)
      obtain ⟨hth, hst, hev⟩ := EvR.fwd (p := (s, .bad 203)) (x := an0 203) H.out.lt H.out.bk_lt HG2.out HH2.out HB2.out HRd.out HKp.out rfl
      have HSt := Lib.hid hst
      have HEv := Lib.hid hev
      have ho1 := ev_one 0 0 0 none none 0 0 0 0
      clear hst hev
      go_wp2_with (refine wpList_store_mid rfl 33 (.tmp 2) (.tmp 69) rfl g2 0 #[.int .i64 0, .int .i64 0, .slice none 0 0, .int .i64 0, .slice none 0 0] rfl rfl hth infoEv ho1 ?_)
      refine bodyPost_ret (results_ev3 rfl _ rfl HSt.out rfl) rfl ?_
      exact HEv.out
end Go.Proofs.YtfffefhchjnfjaaGreatDoor

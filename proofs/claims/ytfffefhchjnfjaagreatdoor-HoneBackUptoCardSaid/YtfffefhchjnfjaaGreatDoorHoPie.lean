/- hone.piece: up to n bytes of what is there. Conditions: the sizes. -/
import Derived.Test.YtfffefhchjnfjaaGreatDoorHoBeg
namespace Go.Proofs.YtfffefhchjnfjaaGreatDoor
open Go.RowKit

/-- bytes.Clone of bytes that are there -/
theorem bclone_any (w : World) {ad : Addr} {n c : Nat} {l : List UInt8} (h : Sl w (some ad) n c (bv l)) (hn : n ≤ 140737488355328) : Calls Tryz.prog 96 #[.slice (some ad) n c] w fun e w' =>
    ∃ a' c', e = .returned (.slice a' n c') ∧ w'.ownsRow w.heap.size 5 1 (.slice a' n c') n (bv l) ∧ Below w.heap.size w w' := by
  refine (Tryz.bytes_Clone_at ad n c (nums l) w (by simp [nums, h.byte]) hn (sl_cells h)).mono ?_
  rintro e w' ⟨v', rfl, ho, _, hb⟩
  have e1 : (nums l).map (Value.int .u8) = bv l := by simp [nums, bv, Function.comp_def]
  rw [e1] at ho
  rcases ho.2 with ⟨hv, hn0⟩ | ⟨g, cap, cur, hv, rest⟩
  · subst hv
    subst hn0
    exact ⟨none, 0, rfl, ho, hb⟩
  · subst hv
    exact ⟨_, _, rfl, ho, hb⟩
theorem RdS.bytes {w : World} {g lim : Nat} {hd : Bool} {bk : Option Nat} {s : HSt} (h : RdS w g hd lim bk s) : ∃ a c, w.cell? ⟨g, 2, none⟩ = some (.slice a s.b.length c) ∧ Tl w a s.b.length c (bv s.b) := by
  obtain ⟨r, a, n, c, hr, hbf, ht, _⟩ := h.ex
  have hl := ht.sl.byte
  subst hl
  exact ⟨a, c, by rw [← hbf]; exact hr.at 2 rfl, ht⟩
theorem RdS.cut {w : World} {g lim : Nat} {hd : Bool} {bk : Option Nat} {s : HSt} (h : RdS w g hd lim bk s) {ad A : Addr} {k c q : Nat} (c2 : w.cell? ⟨g, 2, none⟩ = some (.slice (some ad) k c)) (hA : A.block = ad.block) (ht : Tl w (some A) (k - q) (c - q) (bv (s.b.drop q))) :
    RdS (w.setCell ⟨g, 2, none⟩ (.slice (some A) (k - q) (c - q))) g hd lim bk { s with b := s.b.drop q } := by
  obtain ⟨r, a, n, c', hr, hbf, ht0, hne, hbk, rest⟩ := h.ex
  have e : r.bf = .slice (some ad) k c := by
    have h2 : w.cell? ⟨g, 2, none⟩ = some r.bf := hr.at 2 rfl
    rw [c2] at h2; exact (Option.some.inj h2).symm
  rw [hbf] at e
  cases e
  have hg : A.block ≠ g := by rw [hA]; exact hne ad rfl
  exact ⟨{ r with bf := .slice (some A) (k - q) (c - q) }, some A, k - q, c - q, Rd.sets hr 2 _ rfl, rfl, ht.kept (Kept.set w g 2 _) (fun x hx => by cases hx; exact hg), fun x hx => by cases hx; exact hg, by rw [← hbk]; simp [hA], rest⟩
set_option maxRecDepth 100000 in
set_option maxHeartbeats 4000000 in
theorem piece_any (w : World) {g lim : Nat} {hd : Bool} {bk : Option Nat} {s : HSt} (h : RdS w g hd lim bk s) (n : Nat) (hz : s.b.length ≤ 140737488355328) : Calls Tryz.prog 76 #[.pointer (some ⟨g, 0, none⟩), .int .i64 (n : Int)] w (EvR w g hd lim bk (pieceV s n)) := by
  obtain ⟨w2, hw2⟩ : ∃ w2, w2 = w.alloc (.cells #[.int .i64 0, .int .i64 0, .slice none 0 0, .int .i64 0, .slice none 0 0] 33) := ⟨_, rfl⟩
  obtain ⟨g2, hg2⟩ : ∃ g2, g2 = w.heap.size := ⟨_, rfl⟩
  have HH2 : Hid (Has w2 g2 33 ev0) := Lib.hid (by rw [hw2, hg2]; exact Has.new w 33 #[.int .i64 0, .int .i64 0, .slice none 0 0, .int .i64 0, .slice none 0 0])
  have hb2 : Below w.heap.size w w2 := by rw [hw2]; exact (Below.refl _ w).alloc (Nat.le_refl _) _
  have HR2 := Lib.hid (h.below hb2)
  have HB2 := Lib.hid hb2
  have H := Lib.hid h
  have HG2 := Lib.hid hg2
  obtain ⟨a, c, c2, ht⟩ := HR2.out.bytes
  have HTl := Lib.hid ht
  obtain ⟨k, hk⟩ : ∃ k, k = s.b.length := ⟨_, rfl⟩
  rw [← hk] at c2 hz
  have HK := Lib.hid hk
  have HZ := Lib.hid hz
  clear h hb2 ht hz
  obtain ⟨q, hq⟩ : ∃ q, q = min n k := ⟨_, rfl⟩
  have hmin : min (n : Int) (k : Int) = (q : Int) := by omega
  by_cases h0 : q = 0
  · have y2 : ((q : Int) == 0) = true ∧ ((q : Int) = 0) = True := ⟨by rw [beq_iff_eq]; omega, eq_true (by omega)⟩
    obtain ⟨y2, y3⟩ := y2
    have HWt := Lib.hid (wait_any w2 HR2.out)
    have HP : Hid (pieceV s n = waitV s) := Lib.hid (by unfold pieceV; rw [if_pos (by rw [← hk]; omega)])
    rw [HP.out]
    clear hk hq h0
    go_enter Tryz.func76, Tryz.ntmps76
    go_upto_region 1 with fail
    rw [← hw2, ← hg2]
    clear hw2 hg2
    go_wp2_with fail
    refine HWt.out.mono ?_
    rintro e w3 ⟨x, rfl, hrd, hkp, hok⟩
    obtain ⟨hth, hst, hev⟩ := EvR.fwd H.out.lt H.out.bk_lt HG2.out HH2.out HB2.out hrd hkp hok
    have HSt := Lib.hid hst
    have HEv := Lib.hid hev
    have ho1 := ev_one x.k x.st x.fr x.fa x.da x.fn x.fc x.dn x.dc
    clear hrd hkp hok hst hev
    unfold An.v
    go_wp2_with (refine wpList_store_mid rfl 33 (.tmp 4) (.tmp 19) rfl g2 0 #[.int .i64 x.k, .int .i64 x.st, .slice x.fa x.fn x.fc, .int .i64 x.fr, .slice x.da x.dn x.dc] rfl rfl hth infoEv ho1 ?_)
    refine bodyPost_ret (results_ev3 rfl _ rfl HSt.out rfl) rfl ?_
    exact HEv.out
  · have y2 : ((q : Int) == 0) = false ∧ ((q : Int) = 0) = False := ⟨by rw [beq_eq_false_iff_ne]; omega, eq_false (by omega)⟩
    obtain ⟨y2, y3⟩ := y2
    have HP : Hid (pieceV s n = ({ s with b := s.b.drop q }, .ev (.data (s.b.take q)))) := Lib.hid (by
      have e : min n s.b.length = q := by rw [← hk]; omega
      unfold pieceV; rw [e, if_neg h0])
    rw [HP.out]
    have hqk : q ≤ k := by omega
    have hqc : q ≤ c := by have := HTl.out.sl.cap_le; omega
    obtain ⟨ad, rfl⟩ : ∃ ad, a = some ad := by
      cases a with
      | some ad => exact ⟨ad, rfl⟩
      | none => have := HTl.out.sl.nil rfl; have := HTl.out.sl.cap_le; omega
    have hst : Sl w2 (some ad) q c (bv (s.b.take q)) := by
      have h := sl_take HTl.out.sl (k := q) (by rw [← hk]; exact hqk)
      rw [show (bv s.b).take q = bv (s.b.take q) from by simp [bv]] at h
      exact h
    have HCl := Lib.hid (bclone_any w2 hst (Nat.le_trans hqk HZ.out))
    have b1 : (0 : Int) ≤ (q : Int) := by omega
    have b2 : (q : Int) ≤ (c : Int) := by omega
    have b3 : (q : Int) ≤ (k : Int) := by omega
    have b4 : (k : Int) ≤ (c : Int) := by have := HTl.out.sl.cap_le; omega
    have hkq : k - q = (s.b.drop q).length := by rw [List.length_drop, hk]
    have HKq := Lib.hid hqk
    clear hk hq h0 hst hqk
    have HQl : Hid (q ≤ s.b.length) := Lib.hid (by rw [← HK.out]; exact HKq.out)
    clear hkq
    by_cases hcq : c = q
    · have y4 : (c = q) = True := eq_true hcq
      have HTd : Hid (Tl w2 (some ad) (k - q) (c - q) (bv (s.b.drop q))) := Lib.hid (by
        have h := HTl.out.drop_end (m := k - q) (by have := HTl.out.sl.cap_le; have := HK.out; omega)
        rw [← HK.out] at h
        have e1 : (bv s.b).drop k = bv (s.b.drop q) := by
          have h2 : k = q := by have := HTl.out.sl.cap_le; have := HK.out; have := HKq.out; omega
          rw [h2]; simp [bv]
        rw [e1] at h
        rw [show c - q = c - c by omega]
        exact h)
      clear hcq hqc
      go_enter Tryz.func76, Tryz.ntmps76
      go_upto_region 1 with fail
      rw [← hw2, ← hg2]
      clear hw2 hg2
      go_wp2_with fail
      refine HCl.out.mono ?_
      rintro e w3 ⟨da, dc, rfl, ho, hb3⟩
      have HO3 := Lib.hid ho
      have hr3 := HR2.out.below hb3
      have c3 : w3.cell? ⟨g, 2, none⟩ = some (.slice (some ad) k c) := by rw [hb3.cell (World.block_lt_of_cell? _ _ c2)]; exact c2
      have f3 := hr3.free 2
      obtain ⟨w4, hw4⟩ : ∃ w4, w4 = w3.setCell ⟨g, 2, none⟩ (.slice (some ad) (k - q) (c - q)) := ⟨_, rfl⟩
      have hr4 : RdS w4 g hd lim bk { s with b := s.b.drop q } := by rw [hw4]; exact hr3.cut c3 rfl (HTd.out.below hb3)
      have hk4 : Kept (fun k => k = g) w2 w4 := by rw [hw4]; exact (Kept.of_below (X := fun k => k = g) hb3).trans (Kept.set w3 g 2 _) (fun _ _ h => h)
      have hok : An.Ok w2.heap.size w4 ⟨2, 0, none, 0, 0, 0, da, q, dc, true, 0⟩ (.ev (.data (s.b.take q))) := by
        have hl : (s.b.take q).length = q := by rw [List.length_take]; have := HQl.out; omega
        refine ⟨by rw [hl], ?_⟩
        rw [hl, hw4]
        exact own_kept HO3.out (Kept.set w3 g 2 _) (fun k e e2 => by have h1 := (HO3.out.lt k e).1; have h2 := HR2.out.lt; omega)
      obtain ⟨hth, hst, hev⟩ := EvR.fwd (p := ({ s with b := s.b.drop q }, .ev (.data (s.b.take q)))) H.out.lt H.out.bk_lt HG2.out HH2.out HB2.out hr4 hk4 hok
      have HW4 := Lib.hid hw4
      have HSt := Lib.hid hst
      have HEv := Lib.hid hev
      have HTh := Lib.hid hth
      clear hr4 hk4 hok hst hev hth hw4 ho hb3 c2 hr3 HO3
      go_upto_region 6 with fail
      rw [← HW4.out]
      have hth := HTh.out
      have ho1 := ev_one 2 0 0 none da 0 0 q dc
      clear c3 f3
      go_wp2_with (refine wpList_store_mid rfl 33 (.tmp 4) (.tmp 39) rfl g2 0 #[.int .i64 2, .int .i64 0, .slice none 0 0, .int .i64 0, .slice da q dc] rfl rfl hth infoEv ho1 ?_)
      refine bodyPost_ret (results_ev3 rfl _ rfl HSt.out rfl) rfl ?_
      exact HEv.out
    · have y4 : (c = q) = False := eq_false hcq
      have HTd : Hid (Tl w2 (some (ad.add q)) (k - q) (c - q) (bv (s.b.drop q))) := Lib.hid (by
        have h := HTl.out.drop (k := q) HQl.out
        rw [← HK.out] at h
        rw [show (bv s.b).drop q = bv (s.b.drop q) from by simp [bv]] at h
        exact h)
      clear hcq hqc
      go_enter Tryz.func76, Tryz.ntmps76
      go_upto_region 1 with fail
      rw [← hw2, ← hg2]
      clear hw2 hg2
      go_wp2_with fail
      refine HCl.out.mono ?_
      rintro e w3 ⟨da, dc, rfl, ho, hb3⟩
      have HO3 := Lib.hid ho
      have hr3 := HR2.out.below hb3
      have c3 : w3.cell? ⟨g, 2, none⟩ = some (.slice (some ad) k c) := by rw [hb3.cell (World.block_lt_of_cell? _ _ c2)]; exact c2
      have f3 := hr3.free 2
      obtain ⟨w4, hw4⟩ : ∃ w4, w4 = w3.setCell ⟨g, 2, none⟩ (.slice (some (ad.add q)) (k - q) (c - q)) := ⟨_, rfl⟩
      have hr4 : RdS w4 g hd lim bk { s with b := s.b.drop q } := by rw [hw4]; exact hr3.cut c3 (by unfold Addr.add; split <;> rfl) (HTd.out.below hb3)
      have hk4 : Kept (fun k => k = g) w2 w4 := by rw [hw4]; exact (Kept.of_below (X := fun k => k = g) hb3).trans (Kept.set w3 g 2 _) (fun _ _ h => h)
      have hok : An.Ok w2.heap.size w4 ⟨2, 0, none, 0, 0, 0, da, q, dc, true, 0⟩ (.ev (.data (s.b.take q))) := by
        have hl : (s.b.take q).length = q := by rw [List.length_take]; have := HQl.out; omega
        refine ⟨by rw [hl], ?_⟩
        rw [hl, hw4]
        exact own_kept HO3.out (Kept.set w3 g 2 _) (fun k e e2 => by have h1 := (HO3.out.lt k e).1; have h2 := HR2.out.lt; omega)
      obtain ⟨hth, hst, hev⟩ := EvR.fwd (p := ({ s with b := s.b.drop q }, .ev (.data (s.b.take q)))) H.out.lt H.out.bk_lt HG2.out HH2.out HB2.out hr4 hk4 hok
      have HW4 := Lib.hid hw4
      have HSt := Lib.hid hst
      have HEv := Lib.hid hev
      have HTh := Lib.hid hth
      clear hr4 hk4 hok hst hev hth hw4 ho hb3 c2 hr3 HO3
      go_upto_region 6 with fail
      rw [← HW4.out]
      have hth := HTh.out
      have ho1 := ev_one 2 0 0 none da 0 0 q dc
      clear c3 f3
      go_wp2_with (refine wpList_store_mid rfl 33 (.tmp 4) (.tmp 39) rfl g2 0 #[.int .i64 2, .int .i64 0, .slice none 0 0, .int .i64 0, .slice da q dc] rfl rfl hth infoEv ho1 ?_)
      refine bodyPost_ret (results_ev3 rfl _ rfl HSt.out rfl) rfl ?_
      exact HEv.out
end Go.Proofs.YtfffefhchjnfjaaGreatDoor

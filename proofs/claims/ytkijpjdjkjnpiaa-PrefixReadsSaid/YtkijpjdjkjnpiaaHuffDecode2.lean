/- Contract of huff.Decode. -/
import Derived.Test.YtkijpjdjkjnpiaaHuffDecode
namespace Go.Proofs.Ytkijpjdjkjnpiaa
open Go.RowKit

theorem ones_val (bs : List Bool) : bs = List.replicate bs.length true ↔ val bs + 1 = 2 ^ bs.length := by
  constructor
  · intro h
    have := val_ones [] bs.length
    simp only [List.nil_append] at this
    rw [← h] at this
    have e : val [] = 0 := rfl
    rw [e] at this
    have := Nat.one_le_two_pow (n := bs.length)
    omega
  · intro h
    have h1 := tb_val bs
    have h2 := tb_val (List.replicate bs.length true)
    have h3 := val_ones [] bs.length
    simp only [List.nil_append] at h3
    have e : val [] = 0 := rfl
    rw [e] at h3
    rw [List.length_replicate, h3] at h2
    have := Nat.one_le_two_pow (n := bs.length)
    refine h1.symm.trans (Eq.trans ?_ h2)
    congr 1
    omega
theorem decR_ok {l : List UInt8} (hl : l.length ≤ 16384) : decR l = if endE (decL (bitsOf l)).2 = 0 then ((decL (bitsOf l)).1, 0) else ([], endE (decL (bitsOf l)).2) := by
  unfold decR; rw [if_neg (by omega)]; rfl
/-- the answer of end, where what is left begins with H, or is H and short -/
theorem end_is (a : Option Addr) (c : Nat) (o : List UInt8) (H R : List Bool) (h : 15 ≤ H.length ∨ R = []) :
    endV a o.length c (val H) H.length = if endE (H ++ R) = 0 then .tuple #[.slice a o.length c, .int .i64 0] else .tuple #[.slice none 0 0, .int .i64 (endE (H ++ R))] := by
  rcases h with h | rfl
  · have hE : endE (H ++ R) = 140 := by unfold endE; rw [if_neg (by simp; omega), if_neg (by simp; omega)]
    rw [hE]
    unfold endV
    rw [if_neg (by omega), if_neg (by omega)]
    rfl
  · rw [List.append_nil]
    by_cases h1 : H.length ≤ 7 ∧ val H + 1 = 2 ^ H.length
    · have hE : endE H = 0 := by unfold endE; rw [if_pos ⟨h1.1, (ones_val H).2 h1.2⟩]
      rw [hE]
      unfold endV
      rw [if_pos h1]
      rfl
    · have h3 : ¬ (H.length ≤ 7 ∧ H = List.replicate H.length true) := fun h => h1 ⟨h.1, (ones_val H).1 h.2⟩
      by_cases h2 : H.length < 15
      · have hE : endE H = 141 := by unfold endE; rw [if_neg h3, if_pos h2]
        rw [hE]
        unfold endV
        rw [if_neg h1, if_pos h2]
        rfl
      · have hE : endE H = 140 := by unfold endE; rw [if_neg h3, if_neg h2]
        rw [hE]
        unfold endV
        rw [if_neg h1, if_neg h2]
        rfl

set_option maxRecDepth 100000 in
set_option maxHeartbeats 8000000 in
theorem decode_any (w : World) {a : Option Addr} {n c : Nat} {l : List UInt8} (h : Sl w a n c (bv l)) :
    Calls Try.prog 27 #[.slice a n c] w (RetBE w.heap.size w (decR l)) := by
  have hl := h.byte
  by_cases hbig : 16384 < n
  · have HR : Hid (decR l = ([], 52)) := Lib.hid (by unfold decR; rw [if_pos (by omega)])
    have hbig' : (16384 : Int) < (n : Int) := by omega
    clear hl
    go_enter Try.func27, Try.ntmps27
    go_wp2
    go_ret2
    rw [HR.out]
    exact RetBE.nil w 52 _ rfl
  · have HR := Lib.hid (decR_ok (l := l) (by omega))
    have hn : n ≤ 16384 := by omega
    have HL := Lib.hid hl
    have hcap := h.cap_le
    have HC := Lib.hid h
    clear hl h
    go_enter Try.func27, Try.ntmps27
    go_wp2_with fail
    refine (open_any w).mono ?_
    rintro e w1 ⟨p, ra, rc, rfl, hbk, hrs, hpw, hb1⟩
    have z1 := hb1.size
    go_wp2_with fail
    go_loopw [5, 6, 7, 8] (fun out hold held pos wr => ∃ (o : List UInt8) (ao : Option Addr) (co : Nat) (H : List Bool) (k : Nat), out = .slice ao o.length co ∧ hold = .int .i64 ((val H : Nat) : Int) ∧ held = .int .i64 (H.length : Int) ∧ pos = .int .i64 (k : Int) ∧
      k ≤ n ∧ H.length ≤ 22 ∧ o.length + H.length ≤ 8 * k ∧ Hid (decL (bitsOf l) = (o ++ (decL (H ++ bitsOf (l.drop k))).1, (decL (H ++ bitsOf (l.drop k))).2)) ∧
      wr.ownsRow w1.heap.size 5 1 (.slice ao o.length co) o.length (bv o) ∧ Below w1.heap.size w1 wr) (fun _ _ held pos _ => (intOf held).toNat + 8 * (n - (intOf pos).toNat))
    case atStart => exact ⟨[], none, 0, [], 0, rfl, rfl, rfl, rfl, Nat.zero_le _, Nat.zero_le _, Nat.le_refl _, Lib.hid rfl, World.ownsRow_nil _ _ _ _, Below.refl _ _⟩
    case round =>
      obtain ⟨o, ao, co, H, k, rfl, rfl, rfl, rfl, hk, hH, hoH, HD, ho, hB⟩ := hrel
      have hb : Below w.heap.size w wr := hb1.trans (hB.mono z1)
      have hbk' := hbk.below hB
      have hrs' := hrs.below hB
      have zr1 := hB.size
      clear hbk hrs
      have zr := hb.size
      have hHv := val_lt H
      go_wp2_with fail
      go_loopw [6, 7, 8] (fun hold held pos wr' => ∃ (H' : List Bool) (k' : Nat), hold = .int .i64 ((val H' : Nat) : Int) ∧ held = .int .i64 (H'.length : Int) ∧ pos = .int .i64 (k' : Int) ∧ k' ≤ n ∧ H'.length ≤ 22 ∧ H'.length + 8 * (n - k') = H.length + 8 * (n - k) ∧ o.length + H'.length ≤ 8 * k' ∧
        Hid (H' ++ bitsOf (l.drop k') = H ++ bitsOf (l.drop k)) ∧ wr' = wr) (fun _ _ pos _ => n - (intOf pos).toNat)
      case atStart => exact ⟨H, k, rfl, rfl, rfl, hk, hH, rfl, hoH, Lib.hid rfl, rfl⟩
      case round =>
        obtain ⟨H', k', rfl, rfl, rfl, hk', hH', hsum, hoH', HE, rfl⟩ := hrel
        by_cases hc1 : H'.length < 15
        · by_cases hc2 : k' < n
          · have hc1' : (H'.length : Int) < 15 := by omega
            have hc2' : (k' : Int) < (n : Int) := by omega
            have hkl : k' < l.length := by have := HL.out; omega
            obtain ⟨b, off, rfl, hcc⟩ := HC.out.cells (by omega)
            have hcell := hcc k' hc2
            rw [bv_get l k' hkl] at hcell
            have hblt := World.block_lt_of_cell? w _ hcell
            have hcell : wr.cell? ⟨b, off + k', none⟩ = some (.int .u8 ((l[k']'hkl).toNat : Int)) := by rw [hb.cell hblt]; exact hcell
            have hv15 : val H' < 32768 := by
              have h1 := val_lt H'
              have h2 : 2 ^ H'.length ≤ 2 ^ 15 := Nat.pow_le_pow_right (by decide) (by omega)
              have h3 : (2 : Nat) ^ 15 = 32768 := rfl
              omega
            have hy := (l[k']'hkl).toNat_lt
            have g1 := or_byte (val H') (l[k']'hkl).toNat (by omega) hy
            have HNb : Hid (bitsOf (l.drop k') = tb (l[k']'hkl).toNat 8 ++ bitsOf (l.drop (k' + 1))) := Lib.hid (by rw [List.drop_eq_getElem_cons hkl]; unfold bitsOf; rw [List.flatMap_cons])
            have HVb : Hid (val (H' ++ tb (l[k']'hkl).toNat 8) = val H' * 256 + (l[k']'hkl).toNat) := Lib.hid (by rw [val_append, tb_len, val_tb]; have : (2 : Nat) ^ 8 = 256 := rfl; rw [this, Nat.mod_eq_of_lt hy])
            generalize (l[k']'hkl).toNat = y at hcell g1 HNb HVb hy
            obtain ⟨v, hv⟩ : ∃ v, v = val H' := ⟨_, rfl⟩
            rw [← hv] at g1 HVb hv15 ⊢
            clear hcc hv
            go_wp2
            go_roundw
            case rel =>
              refine ⟨H' ++ tb y 8, k' + 1, ?_, ?_, by push_cast; rfl, by omega, ?_, ?_, ?_, Lib.hid ?_, by trivial⟩
              · rw [HVb.out]; rfl
              · rw [List.length_append, tb_len]; push_cast; rfl
              · rw [List.length_append, tb_len]; omega
              · rw [List.length_append, tb_len]; omega
              · rw [List.length_append, tb_len]; omega
              · rw [← HE.out, HNb.out, List.append_assoc]
            case measure => simp [intOf]; omega
          · have hc1' : (H'.length : Int) < 15 := by omega
            have hc2' : ¬ (k' : Int) < (n : Int) := by omega
            obtain ⟨R, hR⟩ : ∃ R, R = bitsOf (l.drop k') := ⟨_, rfl⟩
            have hEnd : 15 ≤ H'.length ∨ R = [] := (.inr (by rw [hR, List.drop_eq_nil_of_le (by have := HL.out; omega)]; rfl))
            rw [← hR] at HE
            have HRR := Lib.hid hR
            clear hR
            have hd1 : dec1 (H' ++ R) = dec1 H' := by
              rcases hEnd with h | h
              · exact dec1_same H' R h
              · rw [h, List.append_nil]
            have HNx := Lib.hid (next_any wr p ra rc hbk' hrs' (val H') H'.length hH' (val_lt H'))
            obtain ⟨v, hv⟩ : ∃ v, v = val H' := ⟨_, rfl⟩
            rw [← hv] at HNx
            have hvlt : v < 4194304 := by rw [hv]; exact Nat.lt_of_lt_of_le (val_lt H') (Nat.pow_le_pow_right (by decide) hH')
            have HV := Lib.hid hv
            rw [← hv]
            cases hd : dec1 H' with
            | none =>
              have hd' : nextN v H'.length = none := by rw [hv]; exact hd
              rw [hd'] at HNx
              have HNx' : Hid (Calls Try.prog 39 #[.pointer (some ⟨p, 0, none⟩), .int .i64 (v : Int), .int .i64 (H'.length : Int)] wr fun e w' => e = .returned (.tuple #[.int .u8 0, .int .i64 0, .bool false]) ∧ Below wr.heap.size wr w') := HNx
              have hrest : (decL (bitsOf l)) = (o, H' ++ R) := by rw [HD.out, ← HE.out, decL_none (by rw [hd1]; exact hd)]; simp
              rw [hrest] at HR
              have hEV := end_is ao co o H' R hEnd
              have HEn := Lib.hid (fun w' => end_any w' (.pointer (some ⟨p, 0, none⟩)) ao o.length co v H'.length hH')
              rw [← hv] at hEV
              by_cases h0 : endE (H' ++ R) = 0
              · rw [if_pos h0] at hEV
                have hRR := HR.out
                rw [if_pos h0] at hRR
                have HR2 := Lib.hid hRR
                rw [hEV] at HEn
                clear hv hd' hd hrest h0 hEV hRR hd1 HNx
                go_wp2_with fail
                refine HNx'.out.mono ?_
                rintro e w2 ⟨rfl, hb2⟩
                go_wp2_with fail
                refine (HEn.out w2).mono ?_
                rintro e w' ⟨rfl, rfl⟩
                go_wp2
                go_ret2
                refine RetBE.mk (r := decR l) (n := o.length) (k := 0) (xs := bv o) rfl ?_ (own_mono (own_below ho hb2) z1) ?_ (hb.trans (hb2.mono zr))
                · rw [HR2.out]
                · rw [HR2.out]
              · rw [if_neg h0] at hEV
                have hRR := HR.out
                rw [if_neg h0] at hRR
                have HR2 := Lib.hid hRR
                rw [hEV] at HEn
                generalize endE (H' ++ R) = z at *
                clear hv hd' hd hrest h0 hEV hRR hd1 HNx
                go_wp2_with fail
                refine HNx'.out.mono ?_
                rintro e w2 ⟨rfl, hb2⟩
                go_wp2_with fail
                refine (HEn.out w2).mono ?_
                rintro e w' ⟨rfl, rfl⟩
                go_wp2
                go_ret2
                refine RetBE.mk (r := decR l) (n := 0) (k := z) (xs := []) rfl ?_ (World.ownsRow_nil _ _ _ _) ?_ (hb.trans (hb2.mono zr))
                · rw [HR2.out]
                · rw [HR2.out]; rfl
            | some q =>
              obtain ⟨x, len⟩ := q
              have hlen := dec1_len hd
              have hd' : nextN v H'.length = some (x, len) := by rw [hv]; exact hd
              rw [hd'] at HNx
              have HNx' : Hid (Calls Try.prog 39 #[.pointer (some ⟨p, 0, none⟩), .int .i64 (v : Int), .int .i64 (H'.length : Int)] wr fun e w' => e = .returned (.tuple #[.int .u8 (x.toNat : Int), .int .i64 (len : Int), .bool true]) ∧ Below wr.heap.size wr w') := HNx
              have hst : decL (H' ++ R) = (x :: (decL (H'.drop len ++ R)).1, (decL (H'.drop len ++ R)).2) := by
                rw [decL_some (by rw [hd1]; exact hd), List.drop_append_of_le_length hlen.2.2]
              have HD2 : Hid (decL (bitsOf l) = ((o ++ [x]) ++ (decL (H'.drop len ++ R)).1, (decL (H'.drop len ++ R)).2)) := Lib.hid (by rw [HD.out, ← HE.out, hst]; simp)
              obtain ⟨d, hdd⟩ : ∃ d, d = H'.length - len := ⟨_, rfl⟩
              have hdl : (H'.drop len).length = d := by rw [List.length_drop, hdd]
              have hd22 : d ≤ 17 := by omega
              have hvd : val (H'.drop len) = v % 2 ^ d := by rw [val_drop _ _ hlen.2.2, hdd, hv]
              have g1 : IntKind.i64.wrap ((H'.length : Int) - (len : Int)) = (d : Int) := by rw [IntKind.wrap_i64]; omega
              have hp1 : 2 ^ d ≤ 2 ^ 17 := Nat.pow_le_pow_right (by decide) hd22
              have hp0 : 1 ≤ 2 ^ d := Nat.one_le_two_pow
              have hpc := two_pow_cast d
              have q1 : (1 : Int) ≤ 2 ^ d := by omega
              have q2 : (2 : Int) ^ d ≤ 131072 := by have : (2 : Nat) ^ 17 = 131072 := rfl; omega
              have g2 : Go.bits .and .i64 (v : Int) (2 ^ d - 1) = ((v % 2 ^ d : Nat) : Int) := and_low' v d (by omega) (by omega)
              have hx := x.toNat_lt
              obtain ⟨vd, hvdd⟩ : ∃ vd, vd = v % 2 ^ d := ⟨_, rfl⟩
              rw [← hvdd] at g2 hvd
              have HVD := Lib.hid hvd
              have HDL := Lib.hid hdl
              have hd5 : d + 5 ≤ H'.length := by omega
              have hxl : (o ++ [x]).length = o.length + 1 := by simp
              have HXL := Lib.hid hxl
              have hdle : (d : Int) ≤ (H'.length : Int) - (len : Int) := by omega
              have hdge : (H'.length : Int) - (len : Int) ≤ (d : Int) := by omega
              clear hvdd hvd hdl hdd hst hd' hd hv hd1 HNx hpc hp0 hp1 hxl
              go_wp2_with fail
              refine HNx'.out.mono ?_
              rintro e w2 ⟨rfl, hb2⟩
              have z2 := hb2.size
              have ho2 := own_below ho hb2
              have B2 := hB.trans (hb2.mono zr1)
              go_wp2_with (at_builtin; refine wpL_app1 tyU8 rfl _ _ rfl rfl rfl ho2 rfl (by omega) (by unfold maxLen; omega) B2 (Nat.le_refl _) B2.size ?_; intro a3 c3 w3 ho3 hb3 hg3)
              go_roundw
              case rel =>
                refine ⟨o ++ [x], a3, c3, H'.drop len, k', by rw [HXL.out], by rw [HVD.out], by rw [HDL.out], rfl, hk', by rw [HDL.out]; omega, by rw [HXL.out, HDL.out]; omega, Lib.hid (by rw [← HRR.out]; exact HD2.out), ?_, hb3⟩
                rw [HXL.out, bv_append]
                exact ho3
              case measure => simp [intOf]; omega
        · have hc1' : ¬ (H'.length : Int) < 15 := by omega
          obtain ⟨R, hR⟩ : ∃ R, R = bitsOf (l.drop k') := ⟨_, rfl⟩
          have hEnd : 15 ≤ H'.length ∨ R = [] := (.inl (by omega))
          rw [← hR] at HE
          have HRR := Lib.hid hR
          clear hR
          have hd1 : dec1 (H' ++ R) = dec1 H' := by
            rcases hEnd with h | h
            · exact dec1_same H' R h
            · rw [h, List.append_nil]
          have HNx := Lib.hid (next_any wr p ra rc hbk' hrs' (val H') H'.length hH' (val_lt H'))
          obtain ⟨v, hv⟩ : ∃ v, v = val H' := ⟨_, rfl⟩
          rw [← hv] at HNx
          have hvlt : v < 4194304 := by rw [hv]; exact Nat.lt_of_lt_of_le (val_lt H') (Nat.pow_le_pow_right (by decide) hH')
          have HV := Lib.hid hv
          rw [← hv]
          cases hd : dec1 H' with
          | none =>
            have hd' : nextN v H'.length = none := by rw [hv]; exact hd
            rw [hd'] at HNx
            have HNx' : Hid (Calls Try.prog 39 #[.pointer (some ⟨p, 0, none⟩), .int .i64 (v : Int), .int .i64 (H'.length : Int)] wr fun e w' => e = .returned (.tuple #[.int .u8 0, .int .i64 0, .bool false]) ∧ Below wr.heap.size wr w') := HNx
            have hrest : (decL (bitsOf l)) = (o, H' ++ R) := by rw [HD.out, ← HE.out, decL_none (by rw [hd1]; exact hd)]; simp
            rw [hrest] at HR
            have hEV := end_is ao co o H' R hEnd
            have HEn := Lib.hid (fun w' => end_any w' (.pointer (some ⟨p, 0, none⟩)) ao o.length co v H'.length hH')
            rw [← hv] at hEV
            by_cases h0 : endE (H' ++ R) = 0
            · rw [if_pos h0] at hEV
              have hRR := HR.out
              rw [if_pos h0] at hRR
              have HR2 := Lib.hid hRR
              rw [hEV] at HEn
              clear hv hd' hd hrest h0 hEV hRR hd1 HNx
              go_wp2_with fail
              refine HNx'.out.mono ?_
              rintro e w2 ⟨rfl, hb2⟩
              go_wp2_with fail
              refine (HEn.out w2).mono ?_
              rintro e w' ⟨rfl, rfl⟩
              go_wp2
              go_ret2
              refine RetBE.mk (r := decR l) (n := o.length) (k := 0) (xs := bv o) rfl ?_ (own_mono (own_below ho hb2) z1) ?_ (hb.trans (hb2.mono zr))
              · rw [HR2.out]
              · rw [HR2.out]
            · rw [if_neg h0] at hEV
              have hRR := HR.out
              rw [if_neg h0] at hRR
              have HR2 := Lib.hid hRR
              rw [hEV] at HEn
              generalize endE (H' ++ R) = z at *
              clear hv hd' hd hrest h0 hEV hRR hd1 HNx
              go_wp2_with fail
              refine HNx'.out.mono ?_
              rintro e w2 ⟨rfl, hb2⟩
              go_wp2_with fail
              refine (HEn.out w2).mono ?_
              rintro e w' ⟨rfl, rfl⟩
              go_wp2
              go_ret2
              refine RetBE.mk (r := decR l) (n := 0) (k := z) (xs := []) rfl ?_ (World.ownsRow_nil _ _ _ _) ?_ (hb.trans (hb2.mono zr))
              · rw [HR2.out]
              · rw [HR2.out]; rfl
          | some q =>
            obtain ⟨x, len⟩ := q
            have hlen := dec1_len hd
            have hd' : nextN v H'.length = some (x, len) := by rw [hv]; exact hd
            rw [hd'] at HNx
            have HNx' : Hid (Calls Try.prog 39 #[.pointer (some ⟨p, 0, none⟩), .int .i64 (v : Int), .int .i64 (H'.length : Int)] wr fun e w' => e = .returned (.tuple #[.int .u8 (x.toNat : Int), .int .i64 (len : Int), .bool true]) ∧ Below wr.heap.size wr w') := HNx
            have hst : decL (H' ++ R) = (x :: (decL (H'.drop len ++ R)).1, (decL (H'.drop len ++ R)).2) := by
              rw [decL_some (by rw [hd1]; exact hd), List.drop_append_of_le_length hlen.2.2]
            have HD2 : Hid (decL (bitsOf l) = ((o ++ [x]) ++ (decL (H'.drop len ++ R)).1, (decL (H'.drop len ++ R)).2)) := Lib.hid (by rw [HD.out, ← HE.out, hst]; simp)
            obtain ⟨d, hdd⟩ : ∃ d, d = H'.length - len := ⟨_, rfl⟩
            have hdl : (H'.drop len).length = d := by rw [List.length_drop, hdd]
            have hd22 : d ≤ 17 := by omega
            have hvd : val (H'.drop len) = v % 2 ^ d := by rw [val_drop _ _ hlen.2.2, hdd, hv]
            have g1 : IntKind.i64.wrap ((H'.length : Int) - (len : Int)) = (d : Int) := by rw [IntKind.wrap_i64]; omega
            have hp1 : 2 ^ d ≤ 2 ^ 17 := Nat.pow_le_pow_right (by decide) hd22
            have hp0 : 1 ≤ 2 ^ d := Nat.one_le_two_pow
            have hpc := two_pow_cast d
            have q1 : (1 : Int) ≤ 2 ^ d := by omega
            have q2 : (2 : Int) ^ d ≤ 131072 := by have : (2 : Nat) ^ 17 = 131072 := rfl; omega
            have g2 : Go.bits .and .i64 (v : Int) (2 ^ d - 1) = ((v % 2 ^ d : Nat) : Int) := and_low' v d (by omega) (by omega)
            have hx := x.toNat_lt
            obtain ⟨vd, hvdd⟩ : ∃ vd, vd = v % 2 ^ d := ⟨_, rfl⟩
            rw [← hvdd] at g2 hvd
            have HVD := Lib.hid hvd
            have HDL := Lib.hid hdl
            have hd5 : d + 5 ≤ H'.length := by omega
            have hxl : (o ++ [x]).length = o.length + 1 := by simp
            have HXL := Lib.hid hxl
            have hdle : (d : Int) ≤ (H'.length : Int) - (len : Int) := by omega
            have hdge : (H'.length : Int) - (len : Int) ≤ (d : Int) := by omega
            clear hvdd hvd hdl hdd hst hd' hd hv hd1 HNx hpc hp0 hp1 hxl
            go_wp2_with fail
            refine HNx'.out.mono ?_
            rintro e w2 ⟨rfl, hb2⟩
            have z2 := hb2.size
            have ho2 := own_below ho hb2
            have B2 := hB.trans (hb2.mono zr1)
            go_wp2_with (at_builtin; refine wpL_app1 tyU8 rfl _ _ rfl rfl rfl ho2 rfl (by omega) (by unfold maxLen; omega) B2 (Nat.le_refl _) B2.size ?_; intro a3 c3 w3 ho3 hb3 hg3)
            go_roundw
            case rel =>
              refine ⟨o ++ [x], a3, c3, H'.drop len, k', by rw [HXL.out], by rw [HVD.out], by rw [HDL.out], rfl, hk', by rw [HDL.out]; omega, by rw [HXL.out, HDL.out]; omega, Lib.hid (by rw [← HRR.out]; exact HD2.out), ?_, hb3⟩
              rw [HXL.out, bv_append]
              exact ho3
            case measure => simp [intOf]; omega
end Go.Proofs.Ytkijpjdjkjnpiaa

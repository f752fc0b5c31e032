/- turnpikeref19.Head. Conditions: the sizes. -/
import Derived.Test.YtohinaohcndndaaDoorNmHead
import Derived.Test.YtohinaohcndndaaDoorChk3
import Derived.Lib.ItoaLen
namespace Go.Proofs.YtohinaohcndndaaDoor
open Go.RowKit

theorem inter_snoc (s x : List UInt8) : ∀ {xs : List (List UInt8)}, xs ≠ [] → s.intercalate (xs ++ [x]) = s.intercalate xs ++ (s ++ x)
  | [], h => absurd rfl h
  | [y], _ => by simp [List.intercalate, List.intersperse]
  | y :: z :: r, _ => by
    have h := inter_snoc s x (xs := z :: r) (by simp)
    simp only [List.intercalate, List.cons_append, List.intersperse, List.flatten_cons] at h ⊢
    rw [h]
    simp [List.append_assoc]
theorem cook_none {l : List Fd} (h : ckl l = []) : cookL l = [] := by rw [cookL, h]; rfl
theorem cook_first {l : List Fd} {i : Nat} (hi : i < l.length) (hn : bl l[i].nm = [99, 111, 111, 107, 105, 101]) (h : ckl (l.take i) = []) : ckl (l.take (i + 1)) = [l[i].va] ∧ cookL (l.take (i + 1)) = bl l[i].va := by
  have e : ckl (l.take (i + 1)) = [l[i].va] := by rw [ckl_take l i hi, if_pos hn, h]; rfl
  refine ⟨e, ?_⟩
  rw [cookL, e]
  simp [Lib.join, List.intercalate, bl]
theorem cook_more {l : List Fd} {i : Nat} (hi : i < l.length) (hn : bl l[i].nm = [99, 111, 111, 107, 105, 101]) (h : ckl (l.take i) ≠ []) : ckl (l.take (i + 1)) ≠ [] ∧ cookL (l.take (i + 1)) = cookL (l.take i) ++ [59, 32] ++ bl l[i].va := by
  have e : ckl (l.take (i + 1)) = ckl (l.take i) ++ [l[i].va] := by rw [ckl_take l i hi, if_pos hn]
  refine ⟨by rw [e]; simp, ?_⟩
  rw [cookL, e, List.map_append, Lib.join, List.map_cons, List.map_nil, inter_snoc _ _ (by simpa using h), List.append_assoc]
  rfl
theorem cook_no {l : List Fd} {i : Nat} (hi : i < l.length) (hn : ¬ bl l[i].nm = [99, 111, 111, 107, 105, 101]) : ckl (l.take (i + 1)) = ckl (l.take i) ∧ cookL (l.take (i + 1)) = cookL (l.take i) := by
  have e : ckl (l.take (i + 1)) = ckl (l.take i) := by rw [ckl_take l i hi, if_neg hn, List.append_nil]
  exact ⟨e, by rw [cookL, e]; rfl⟩
theorem cook_len {l : List Fd} : ∀ i, i ≤ l.length → (cookL (l.take i)).length ≤ fsz (l.take i) + 2 * i
  | 0, _ => by rw [List.take_zero]; exact Nat.zero_le _
  | i + 1, h => by
    have ih := cook_len (l := l) i (by omega)
    have hi : i < l.length := by omega
    have hs := fsz_on hi
    have hv := bl_size l[i].va
    by_cases hn : bl l[i].nm = [99, 111, 111, 107, 105, 101]
    · by_cases h0 : ckl (l.take i) = []
      · rw [(cook_first hi hn h0).2]; omega
      · rw [(cook_more hi hn h0).2, List.length_append, List.length_append]
        simp only [List.length_cons, List.length_nil]
        omega
    · rw [(cook_no hi hn).2]; omega
theorem headF_none (cv : List UInt8) : ∀ {l : List Fd}, ckl l = [] → headF cv true l = headF cv false l
  | [], _ => rfl
  | f :: r, h => by
    have hf : ¬ bl f.nm = [99, 111, 111, 107, 105, 101] := fun e => by simp [ckl, e] at h
    have hr : ckl r = [] := by simpa [ckl, hf] using h
    have ih := headF_none cv hr
    by_cases h3 : bl f.nm = [99, 111, 110, 116, 101, 110, 116, 45, 108, 101, 110, 103, 116, 104] ∨ bl f.nm = [116, 101] ∨ bl f.nm = [101, 120, 112, 101, 99, 116]
    · rw [headF_skip h3, headF_skip h3, ih]
    · rw [headF_other h3 hf, headF_other h3 hf, ih]
theorem headF_len (cv : List UInt8) : ∀ (ck : Bool) (l : List Fd), (headF cv ck l).length ≤ fsz l + l.length * (4 + cv.length)
  | ck, [] => by simp [headF]
  | ck, f :: r => by
    have ih := headF_len cv ck r
    have ih2 := headF_len cv true r
    have e : (f :: r).length * (4 + cv.length) = r.length * (4 + cv.length) + (4 + cv.length) := by rw [List.length_cons, Nat.succ_mul]
    have es : fsz (f :: r) = f.nm.size + f.va.size + fsz r := by simp [fsz]
    have hn := bl_size f.nm
    have hv := bl_size f.va
    rw [e, es]
    by_cases h3 : bl f.nm = [99, 111, 110, 116, 101, 110, 116, 45, 108, 101, 110, 103, 116, 104] ∨ bl f.nm = [116, 101] ∨ bl f.nm = [101, 120, 112, 101, 99, 116]
    · rw [headF_skip h3]; omega
    · by_cases h2 : bl f.nm = [99, 111, 111, 107, 105, 101]
      · cases ck with
        | true => rw [headF_seen h2]; omega
        | false =>
          rw [headF_first h2, List.length_append, List.length_append, List.length_append, List.length_append]
          simp only [List.length_cons, List.length_nil]
          omega
      · rw [headF_other h3 h2, List.length_append, lineL, List.length_append, List.length_append, List.length_append]
        simp only [List.length_cons, List.length_nil]
        omega
theorem rhj3 {h x y t : Nat} (hl : h + (x + (2 + (y + 2))) ≤ t) (ht : t ≤ 35184372088832) : ¬ 9223372036854775807 < x + 2 ∧ ¬ 9223372036854775807 < x + 2 + y ∧ ¬ 9223372036854775807 < x + 2 + y + 2 ∧ ¬ 9223372036854775807 < h + (x + 2 + y + 2) := by omega
theorem dec_len {q : Nat} (h : q < 4611686018427387904) : (Lib.decDigits q).length ≤ 20 := by rw [Lib.decDigits_length]; exact Lib.nDigits_le20 q (by omega)
theorem rhj4 {d t : Nat} (hd : d ≤ 20) (ht : t ≤ 35184372088832) : ¬ 9223372036854775807 < 16 + d ∧ ¬ 9223372036854775807 < 16 + d + 2 ∧ ¬ 9223372036854775807 < t + (16 + d + 2) ∧ ¬ 9223372036854775807 < t + (16 + d + 2) + 19 := by omega
theorem rhj5 {t : Nat} (ht : t ≤ 35184372088832) : ¬ 9223372036854775807 < t + 28 ∧ ¬ 9223372036854775807 < t + 28 + 19 ∧ ¬ 9223372036854775807 < t + 19 := by omega
/-- a text and a number -/
def StrInt (w : World) (r : List UInt8 × Int) (e : Ending) (w' : World) : Prop := e = .returned (.tuple #[.string (strB r.1), .int .i64 r.2]) ∧ Below w.heap.size w w'
def preH (r : Rq) : List UInt8 := bl r.me ++ [32] ++ bl r.pa ++ [32, 72, 84, 84, 80, 47, 49, 46, 49, 13, 10, 104, 111, 115, 116, 58, 32] ++ bl r.au ++ [13, 10]
theorem preH_eq (r : Rq) : preH r = head1 r ++ head2 r := by simp [preH, head1, head2]
theorem rhj1 {a b c : Nat} (h1 : a ≤ 1048576) (h2 : b ≤ 1048576) (h3 : c ≤ 1048576) : ¬ 9223372036854775807 < a + 1 ∧ ¬ 9223372036854775807 < a + 1 + b ∧ ¬ 9223372036854775807 < a + 1 + b + 17 ∧ ¬ 9223372036854775807 < a + 1 + b + 17 + c ∧ ¬ 9223372036854775807 < a + 1 + b + 17 + c + 2 := by omega
theorem rhj2 {a b : Nat} (h1 : a ≤ 4194304) (h2 : b ≤ 1048576) : ¬ 9223372036854775807 < a + 2 ∧ ¬ 9223372036854775807 < a + 2 + b ∧ ¬ 9223372036854775807 < 0 + b := by omega
set_option maxRecDepth 100000 in
set_option maxHeartbeats 8000000 in
theorem rhead_any (w : World) (r : Rq) {a : Option Addr} {c : Nat} (hs : SlS w a r.fs.length c r.fs) (body : Bool) (hz : fdz r.fs ≤ 1048576) (h1 : r.me.size ≤ 1048576) (h2 : r.au.size ≤ 1048576) (h3 : r.pa.size ≤ 1048576) (hl : r.len < 4611686018427387904) :
    Calls Tryd.prog 12 #[rqV r a c, .bool body] w (StrInt w (headL r body)) := by
  obtain ⟨R, hR⟩ : ∃ R, R = headL r body := ⟨_, rfl⟩
  rw [← hR]
  have HPr : Hid (preH r = head1 r ++ head2 r) := Lib.hid (preH_eq r)
  have HFr : Hid (∀ W, Calls Tryd.prog 16 #[rqV r a c, .bool body] W (IntOf W (framL r body))) := Lib.hid (fun W => rframing_any W r a c body)
  have HFt : Hid (framT r body = if framL r body = 1 then [99, 111, 110, 116, 101, 110, 116, 45, 108, 101, 110, 103, 116, 104, 58, 32] ++ (Lib.itoa (max r.len 0) ++ [13, 10]) else if framL r body = 2 then [116, 114, 97, 110, 115, 102, 101, 114, 45, 101, 110, 99, 111, 100, 105, 110, 103, 58, 32, 99, 104, 117, 110, 107, 101, 100, 13, 10] else []) := Lib.hid rfl
  have HRr : Hid (R = if bl r.me = [67, 79, 78, 78, 69, 67, 84] then ([], 50) else (head1 r ++ (head2 r ++ (headF (cookL r.fs) false r.fs ++ (framT r body ++ viaT))), 0)) := Lib.hid (by rw [hR, headL])
  obtain ⟨fr, hfr⟩ : ∃ fr, fr = framL r body := ⟨_, rfl⟩
  obtain ⟨ft, hft⟩ : ∃ ft, ft = framT r body := ⟨_, rfl⟩
  obtain ⟨pre, hpre⟩ : ∃ pre, pre = preH r := ⟨_, rfl⟩
  rw [← hfr] at HFr HFt
  rw [← hft] at HFt HRr
  rw [← hpre] at HPr
  have HPd := Lib.hid hpre
  clear hR hfr hft hpre
  obtain ⟨me, sc, au, pa, fs, len⟩ := r
  obtain ⟨n, hn⟩ : ∃ n, n = fs.length := ⟨_, rfl⟩
  unfold rqV at HFr ⊢
  simp only at hs hz h1 h2 h3 hl HRr HFt HFr ⊢
  rw [← hn] at hs HFr ⊢
  have HS := Lib.hid hs
  have HZ := Lib.hid hz
  have HM := Lib.hid (And.intro h1 (And.intro h3 h2))
  have HLn := Lib.hid hl
  have HN := Lib.hid hn
  have HNn : Hid (n ≤ 1048576) := Lib.hid (by rw [hn]; exact Nat.le_trans (fdz_len fs) hz)
  clear hs hz h1 h2 h3 hl hn
  by_cases hc : bl me = [67, 79, 78, 78, 69, 67, 84]
  · obtain ⟨e1, e2⟩ := eqT2 hc
    obtain rfl : R = ([], 50) := by rw [HRr.out, if_pos hc]
    clear hc
    go_enter Tryd.func12, Tryd.ntmps12
    go_wp2
    go_ret2
    exact ⟨rfl, (Below.refl _ w).alloc (Nat.le_refl _) _⟩
  obtain ⟨e1, e2⟩ := eqF2 hc
  have HR2 : Hid (R = (pre ++ (headF (cookL fs) false fs ++ (ft ++ viaT)), 0)) := Lib.hid (by rw [HRr.out, if_neg hc, HPr.out, List.append_assoc])
  obtain ⟨u1, u2, u3, u4, u5⟩ := rhj1 HM.out.1 HM.out.2.1 HM.out.2.2
  have HPx : Hid (me ++ strB [32] ++ pa ++ strB [32, 72, 84, 84, 80, 47, 49, 46, 49, 13, 10, 104, 111, 115, 116, 58, 32] ++ au ++ strB [13, 10] = strB pre) := Lib.hid (by
    rw [HPd.out, preH]
    conv => lhs; rw [← strB_bl me, ← strB_bl pa, ← strB_bl au, strB_append, strB_append, strB_append, strB_append, strB_append])
  clear hc HRr HPr
  go_enter Tryd.func12, Tryd.ntmps12
  go_upto_region 6 with fail
  obtain ⟨w2, hw2⟩ : ∃ w2, w2 = w.alloc (.cells #[.string me, .string sc, .string au, .string pa, .slice a n c, .int .i64 len] 34) := ⟨_, rfl⟩
  obtain ⟨g2, hg2⟩ : ∃ g2, g2 = w.heap.size := ⟨_, rfl⟩
  obtain ⟨s1, hs1⟩ : ∃ s1 : ByteArray, s1 = me ++ ⟨#[32]⟩ ++ pa ++ ⟨#[32, 72, 84, 84, 80, 47, 49, 46, 49, 13, 10, 104, 111, 115, 116, 58, 32]⟩ ++ au ++ ⟨#[13, 10]⟩ := ⟨_, rfl⟩
  have HS1 : Hid (s1 = strB pre) := Lib.hid (by rw [hs1]; exact HPx.out)
  have HH2 : Hid (Has w2 g2 34 [.string me, .string sc, .string au, .string pa, .slice a n c, .int .i64 len]) := Lib.hid (by rw [hw2, hg2]; exact Has.new w 34 #[.string me, .string sc, .string au, .string pa, .slice a n c, .int .i64 len])
  have HB2 : Hid (Below w.heap.size w w2) := Lib.hid (by rw [hw2]; exact (Below.refl _ w).alloc (Nat.le_refl _) _)
  rw [← hs1, ← hw2, ← hg2]
  clear hw2 hg2 hs1 HPx u1 u2 u3 u4 u5 e1 e2
  go_wp2_with fail
  go_loopw [7, 8, 9] (fun cv fv v wr => ∃ i : Nat, v = .int .i64 (i : Int) ∧ i ≤ n ∧ cv = .string (strB (cookL (fs.take i))) ∧ fv = .bool (ckl (fs.take i)).isEmpty ∧ Below w2.heap.size w2 wr) (fun _ _ v _ => n - (intOf v).toNat)
  case atStart => exact ⟨0, rfl, Nat.zero_le _, rfl, rfl, Below.refl _ _⟩
  case round =>
    obtain ⟨i, rfl, hi, rfl, rfl, hb⟩ := hrel
    have HBr := Lib.hid hb
    have hhr : Has wr g2 34 [.string me, .string sc, .string au, .string pa, .slice a n c, .int .i64 len] := HH2.out.kept (Kept.of_below (X := none') hb) (fun h => h)
    have b4 : wr.cell? ⟨g2, 4, none⟩ = some (.slice a n c) := hhr.cell 4 rfl
    have HHr := Lib.hid hhr
    clear hb hhr
    by_cases hin : i < n
    · have HI := Lib.hid hin
      obtain ⟨z1, z2, z3⟩ := inj1 hin (Nat.le_trans HNn.out (by decide))
      have hil : i < fs.length := by rw [← HN.out]; exact hin
      obtain ⟨b, o, rfl, hc⟩ := HS.out.cells (Nat.lt_of_le_of_lt (Nat.zero_le _) hin)
      obtain ⟨p0, p1⟩ := hc i hil
      have hbw := HB2.out.trans (HBr.out.mono HB2.out.size)
      rw [← hbw.cell (World.block_lt_of_cell? _ _ p0)] at p0
      rw [← hbw.cell (World.block_lt_of_cell? _ _ p1)] at p1
      have hfz := fdz_at fs i hil
      have hcl := cook_len (l := fs) i (Nat.le_of_lt hil)
      have hsl := fsz_le fs i
      have hsf := fsz_fdz fs
      have HK1 := Lib.hid (fun hn => cook_first (l := fs) (i := i) hil hn)
      have HK2 := Lib.hid (fun hn => cook_more (l := fs) (i := i) hil hn)
      have HK3 := Lib.hid (fun hn => cook_no (l := fs) (i := i) hil hn)
      obtain ⟨f, hf⟩ : ∃ f, f = fs[i] := ⟨_, rfl⟩
      rw [← hf] at p0 p1 hfz HK1 HK2 HK3
      obtain ⟨nm, hnm⟩ : ∃ nm, nm = f.nm := ⟨_, rfl⟩
      obtain ⟨va, hva⟩ : ∃ va, va = f.va := ⟨_, rfl⟩
      rw [← hnm] at p0 HK1 HK2 HK3
      rw [← hva] at p1 HK1 HK2
      have hvz : va.size ≤ 1048576 := by have := HZ.out; rw [hva]; omega
      obtain ⟨cs, hcs⟩ : ∃ cs, cs = strB (cookL (fs.take i)) := ⟨_, rfl⟩
      have hcz : cs.size ≤ 4194304 := by rw [hcs, strB_size]; have := HZ.out; have := HNn.out; omega
      obtain ⟨u1, u2, u3⟩ := rhj2 hcz hvz
      rw [← hcs]
      have HCs := Lib.hid hcs
      clear hi hin hil hc hbw hfz hcl hsl hsf hf hnm hva hvz hcz hcs
      by_cases hck : bl nm = [99, 111, 111, 107, 105, 101]
      · obtain ⟨e1, e2⟩ := eqT2 (s := nm) (l := [99, 111, 111, 107, 105, 101]) hck
        by_cases h0 : ckl (fs.take i) = []
        · obtain ⟨k1, k2⟩ := HK1.out hck h0
          have HQ : Hid (strB (cookL (fs.take (i + 1))) = ⟨#[]⟩ ++ va ∧ (ckl (fs.take (i + 1))).isEmpty = false) := Lib.hid ⟨by rw [k2, strB_bl]; first | rfl | (apply ByteArray.ext; simp), by rw [k1]; rfl⟩
          have hcs0 : cs = ⟨#[]⟩ := by rw [HCs.out, cook_none h0]; rfl
          have hem : (ckl (fs.take i)).isEmpty = true := by rw [h0]; rfl
          subst cs
          rw [hem]
          clear hck h0 k1 k2 hem
          go_wp2_with fail
          go_roundw
          case rel => exact ⟨i + 1, by first | rfl | (push_cast; rfl), HI.out, by rw [HQ.out.1], by rw [HQ.out.2], HBr.out⟩
          case measure => exact nbj3 HI.out
        · obtain ⟨k1, k2⟩ := HK2.out hck h0
          have HQ : Hid (strB (cookL (fs.take (i + 1))) = cs ++ ⟨#[59, 32]⟩ ++ va ∧ (ckl (fs.take (i + 1))).isEmpty = false) := Lib.hid ⟨by rw [k2, ← strB_append, ← strB_append, strB_bl, HCs.out]; rfl, by simpa using k1⟩
          have hem : (ckl (fs.take i)).isEmpty = false := by simpa using h0
          rw [hem]
          clear hck h0 k1 k2 hem
          go_wp2_with fail
          go_roundw
          case rel => exact ⟨i + 1, by first | rfl | (push_cast; rfl), HI.out, by rw [HQ.out.1], by rw [HQ.out.2], HBr.out⟩
          case measure => exact nbj3 HI.out
      · obtain ⟨e1, e2⟩ := eqF2 (s := nm) (l := [99, 111, 111, 107, 105, 101]) hck
        obtain ⟨k1, k2⟩ := HK3.out hck
        have HQ : Hid (strB (cookL (fs.take (i + 1))) = cs ∧ (ckl (fs.take (i + 1))).isEmpty = (ckl (fs.take i)).isEmpty) := Lib.hid ⟨by rw [k2, HCs.out], by rw [k1]⟩
        clear hck k1 k2
        go_wp2_with fail
        go_roundw
        case rel => exact ⟨i + 1, by first | rfl | (push_cast; rfl), HI.out, by rw [HQ.out.1], by rw [HQ.out.2], HBr.out⟩
        case measure => exact nbj3 HI.out
    · have z1 := inj2 hin
      obtain rfl : n = i := (Nat.le_antisymm hi (Nat.le_of_not_lt hin)).symm
      have et : fs.take n = fs := List.take_of_length_le (by rw [HN.out]; exact Nat.le_refl _)
      rw [et]
      have hck0 : headF (cookL fs) (ckl fs).isEmpty fs = headF (cookL fs) false fs := by
        by_cases h0 : ckl fs = []
        · rw [h0]; exact headF_none _ h0
        · rw [show (ckl fs).isEmpty = false by simpa using h0]
      obtain ⟨cv, hcv⟩ : ∃ cv, cv = cookL fs := ⟨_, rfl⟩
      obtain ⟨ck, hck⟩ : ∃ ck, ck = (ckl fs).isEmpty := ⟨_, rfl⟩
      have hcz : cv.length ≤ 4194304 := by
        have h := cook_len (l := fs) n (by rw [HN.out]; exact Nat.le_refl _)
        rw [et, ← hcv] at h
        have := fsz_fdz fs
        have := HZ.out
        have := HNn.out
        omega
      have HCz := Lib.hid hcz
      rw [← hcv, ← hck] at hck0
      have HR3 : Hid (R = (pre ++ (headF cv ck fs ++ (ft ++ viaT)), 0)) := Lib.hid (by rw [HR2.out, ← hcv, hck0])
      rw [← hcv, ← hck]
      clear hi hin et hck0 hcv hck hcz HR2
      go_wp2_with fail
      obtain ⟨cvs, hcvs⟩ : ∃ cvs, cvs = strB cv := ⟨_, rfl⟩
      rw [← hcvs]
      have HCvs := Lib.hid hcvs
      clear hcvs
      obtain ⟨T, hT⟩ : ∃ T, T = pre ++ headF cv ck fs := ⟨_, rfl⟩
      have HTe := Lib.hid hT
      have HTl : Hid (T.length ≤ 35184372088832) := Lib.hid (by
        rw [hT, List.length_append, HPd.out, preH]
        have h1 := headF_len cv ck fs
        have h2 : fs.length * (4 + cv.length) ≤ 1048576 * (4 + 4194304) := Nat.mul_le_mul (by rw [← HN.out]; exact HNn.out) (Nat.add_le_add_left HCz.out 4)
        have h3 := fsz_fdz fs
        have h4 := HZ.out
        obtain ⟨h5, h6, h7⟩ := HM.out
        rw [bl_size] at h5 h6 h7
        simp only [List.length_append, List.length_cons, List.length_nil]
        omega)
      clear hT
      go_loopw [6, 8, 10] (fun sv fv v wy => ∃ (i : Nat) (ck : Bool) (hd : List UInt8), v = .int .i64 (i : Int) ∧ i ≤ n ∧ sv = .string (strB hd) ∧ fv = .bool ck ∧ Hid (hd ++ headF cv ck (fs.drop i) = T) ∧ Below w2.heap.size w2 wy) (fun _ _ v _ => n - (intOf v).toNat)
      case atStart => exact ⟨0, ck, pre, rfl, Nat.zero_le _, by rw [HS1.out], rfl, Lib.hid (by rw [List.drop_zero, HTe.out]), HBr.out⟩
      case round =>
        clear HBr HHr b4 z1
        obtain ⟨i, ck, hd, rfl, hi, rfl, rfl, HEq, hb⟩ := hrel
        have HBr := Lib.hid hb
        have hhr : Has wr g2 34 [.string me, .string sc, .string au, .string pa, .slice a n c, .int .i64 len] := HH2.out.kept (Kept.of_below (X := none') hb) (fun h => h)
        have b4 : wr.cell? ⟨g2, 4, none⟩ = some (.slice a n c) := hhr.cell 4 rfl
        have HHr := Lib.hid hhr
        obtain ⟨hs, hhs⟩ : ∃ hs, hs = strB hd := ⟨_, rfl⟩
        have hhz : hs.size = hd.length := by rw [hhs, strB_size]
        have HHs := Lib.hid hhs
        rw [← hhs]
        clear hb hhr hhs
        by_cases hin : i < n
        · have HI := Lib.hid hin
          obtain ⟨z1, z2, z3⟩ := inj1 hin (Nat.le_trans HNn.out (by decide))
          have hil : i < fs.length := by rw [← HN.out]; exact hin
          obtain ⟨b, o, ha, hc⟩ := HS.out.cells (Nat.lt_of_le_of_lt (Nat.zero_le _) hin)
          obtain rfl := ha
          obtain ⟨p0, p1⟩ := hc i hil
          have hbw := HB2.out.trans (HBr.out.mono HB2.out.size)
          rw [← hbw.cell (World.block_lt_of_cell? _ _ p0)] at p0
          rw [← hbw.cell (World.block_lt_of_cell? _ _ p1)] at p1
          have hdr : fs.drop i = fs[i] :: fs.drop (i + 1) := List.drop_eq_getElem_cons hil
          rw [hdr] at HEq
          obtain ⟨f, hf⟩ : ∃ f, f = fs[i] := ⟨_, rfl⟩
          rw [← hf] at p0 p1 HEq
          obtain ⟨nm, hnm⟩ : ∃ nm, nm = f.nm := ⟨_, rfl⟩
          obtain ⟨va, hva⟩ : ∃ va, va = f.va := ⟨_, rfl⟩
          rw [← hnm] at p0
          rw [← hva] at p1
          have HF := Lib.hid (And.intro hnm hva)
          clear hi hin hil hc hbw hdr hf hnm hva
          go_upto_region 17 with fail
          obtain ⟨w4, hw4⟩ : ∃ w4, w4 = wr.alloc (.cells #[.string nm, .string va] 64) := ⟨_, rfl⟩
          obtain ⟨g4, hg4⟩ : ∃ g4, g4 = wr.heap.size := ⟨_, rfl⟩
          have hh4 : Has w4 g4 64 [.string nm, .string va] := by rw [hw4, hg4]; exact Has.new wr 64 #[.string nm, .string va]
          have hb4 : Below wr.heap.size wr w4 := by rw [hw4]; exact (Below.refl _ wr).alloc (Nat.le_refl _) _
          have HB4 : Hid (Below w2.heap.size w2 w4) := Lib.hid (HBr.out.trans (hb4.mono HBr.out.size))
          have HG4 : Hid (w2.heap.size ≤ g4) := Lib.hid (by rw [hg4]; exact HBr.out.size)
          have q0 : w4.cell? ⟨g4, 0, none⟩ = some (.string nm) := hh4.cell 0 rfl
          have q1 : w4.cell? ⟨g4, 1, none⟩ = some (.string va) := hh4.cell 1 rfl
          have q1f : w4.frozen? ⟨g4, 1, none⟩ = false := hh4.free 1
          rw [← hw4, ← hg4]
          clear hw4 hg4 hh4 hb4 p0 p1 b4
          by_cases k1 : bl nm = [99, 111, 110, 116, 101, 110, 116, 45, 108, 101, 110, 103, 116, 104]
          · obtain ⟨e1, e2⟩ := eqT2 (s := nm) (l := [99, 111, 110, 116, 101, 110, 116, 45, 108, 101, 110, 103, 116, 104]) k1
            have HE2 : Hid (hd ++ headF cv ck (fs.drop (i + 1)) = T) := Lib.hid (by rw [← HEq.out]; rw [headF_skip (.inl (by rw [← HF.out.1]; exact k1))])
            clear k1
            go_wp2_with fail
            go_roundw
            case rel => exact ⟨i + 1, ck, hd, by first | rfl | (push_cast; rfl), HI.out, by rw [HHs.out], by first | rfl | trivial, HE2, HB4.out⟩
            case measure => exact nbj3 HI.out
          · obtain ⟨e1, e2⟩ := eqF2 (s := nm) (l := [99, 111, 110, 116, 101, 110, 116, 45, 108, 101, 110, 103, 116, 104]) k1
            by_cases k2 : bl nm = [116, 101]
            · obtain ⟨e3, e4⟩ := eqT2 (s := nm) (l := [116, 101]) k2
              have HE2 : Hid (hd ++ headF cv ck (fs.drop (i + 1)) = T) := Lib.hid (by rw [← HEq.out]; rw [headF_skip (.inr (.inl (by rw [← HF.out.1]; exact k2)))])
              clear k1 k2
              go_wp2_with fail
              go_roundw
              case rel => exact ⟨i + 1, ck, hd, by first | rfl | (push_cast; rfl), HI.out, by rw [HHs.out], by first | rfl | trivial, HE2, HB4.out⟩
              case measure => exact nbj3 HI.out
            · obtain ⟨e3, e4⟩ := eqF2 (s := nm) (l := [116, 101]) k2
              by_cases k3 : bl nm = [101, 120, 112, 101, 99, 116]
              · obtain ⟨e5, e6⟩ := eqT2 (s := nm) (l := [101, 120, 112, 101, 99, 116]) k3
                have HE2 : Hid (hd ++ headF cv ck (fs.drop (i + 1)) = T) := Lib.hid (by rw [← HEq.out]; rw [headF_skip (.inr (.inr (by rw [← HF.out.1]; exact k3)))])
                clear k1 k2 k3
                go_wp2_with fail
                go_roundw
                case rel => exact ⟨i + 1, ck, hd, by first | rfl | (push_cast; rfl), HI.out, by rw [HHs.out], by first | rfl | trivial, HE2, HB4.out⟩
                case measure => exact nbj3 HI.out
              · obtain ⟨e5, e6⟩ := eqF2 (s := nm) (l := [101, 120, 112, 101, 99, 116]) k3
                by_cases k4 : bl nm = [99, 111, 111, 107, 105, 101]
                · obtain ⟨e7, e8⟩ := eqT2 (s := nm) (l := [99, 111, 111, 107, 105, 101]) k4
                  cases ck with
                  | true =>
                    have HE2 : Hid (hd ++ headF cv true (fs.drop (i + 1)) = T) := Lib.hid (by rw [← HEq.out]; rw [headF_seen (by rw [← HF.out.1]; exact k4)])
                    clear k1 k2 k3 k4
                    go_wp2_with fail
                    go_roundw
                    case rel => exact ⟨i + 1, true, hd, by first | rfl | (push_cast; rfl), HI.out, by rw [HHs.out], by first | rfl | trivial, HE2, HB4.out⟩
                    case measure => exact nbj3 HI.out
                  | false =>
                    have hcvs := HCvs.out
                    have hcvb : bl cvs = cv := by rw [hcvs]; exact strB_toList cv
                    have hT2 : hd ++ (bl nm ++ ([58, 32] ++ (cv ++ [13, 10]))) ++ headF cv true (fs.drop (i + 1)) = T := by rw [← HEq.out]; rw [headF_first (by rw [← HF.out.1]; exact k4)]; simp [HF.out.1, List.append_assoc]
                    have hle : hd.length + (nm.size + (2 + (cvs.size + 2))) ≤ T.length := by
                      rw [← hT2, List.length_append, List.length_append, List.length_append, List.length_append, List.length_append]
                      simp only [List.length_cons, List.length_nil, bl_size]
                      rw [← bl_size, ← hcvb, ← bl_size]
                      omega
                    obtain ⟨u1, u2, u3, u4⟩ := rhj3 hle HTl.out
                    have HNx : Hid (hs ++ (nm ++ ⟨#[58, 32]⟩ ++ cvs ++ ⟨#[13, 10]⟩) = strB (hd ++ (bl nm ++ ([58, 32] ++ (cv ++ [13, 10]))))) := Lib.hid (by
                      rw [← strB_append, ← strB_append, ← strB_append, ← strB_append, strB_bl, HHs.out]
                      rw [← hcvs]
                      show strB hd ++ (nm ++ strB [58, 32] ++ _ ++ strB [13, 10]) = _
                      simp only [ByteArray.append_assoc])
                    have HE2 := Lib.hid hT2
                    clear k1 k2 k3 k4 hcvs hcvb hT2 hle
                    go_wp2_with fail
                    go_roundw
                    case rel => exact ⟨i + 1, true, _, by first | rfl | (push_cast; rfl), HI.out, by rw [HNx.out], rfl, HE2, HB4.out.setCell (p := ⟨g4, 1, none⟩) HG4.out _⟩
                    case measure => exact nbj3 HI.out
                · obtain ⟨e7, e8⟩ := eqF2 (s := nm) (l := [99, 111, 111, 107, 105, 101]) k4
                  have hT2 : hd ++ (bl nm ++ ([58, 32] ++ (bl va ++ [13, 10]))) ++ headF cv ck (fs.drop (i + 1)) = T := by rw [← HEq.out]; rw [headF_other (by rw [← HF.out.1]; rintro (h | h | h); exact k1 h; exact k2 h; exact k3 h) (by rw [← HF.out.1]; exact k4)]; simp [lineL, HF.out.1, HF.out.2, List.append_assoc]
                  have hle : hd.length + (nm.size + (2 + (va.size + 2))) ≤ T.length := by
                    rw [← hT2, List.length_append, List.length_append, List.length_append, List.length_append, List.length_append]
                    simp only [List.length_cons, List.length_nil, bl_size]
                    omega
                  obtain ⟨u1, u2, u3, u4⟩ := rhj3 hle HTl.out
                  have HNx : Hid (hs ++ (nm ++ ⟨#[58, 32]⟩ ++ va ++ ⟨#[13, 10]⟩) = strB (hd ++ (bl nm ++ ([58, 32] ++ (bl va ++ [13, 10]))))) := Lib.hid (by
                    rw [← strB_append, ← strB_append, ← strB_append, ← strB_append, strB_bl, HHs.out]
                    rw [strB_bl]
                    show strB hd ++ (nm ++ strB [58, 32] ++ _ ++ strB [13, 10]) = _
                    simp only [ByteArray.append_assoc])
                  have HE2 := Lib.hid hT2
                  clear k1 k2 k3 k4 hT2 hle
                  go_wp2_with fail
                  go_roundw
                  case rel => exact ⟨i + 1, ck, _, by first | rfl | (push_cast; rfl), HI.out, by rw [HNx.out], rfl, HE2, HB4.out⟩
                  case measure => exact nbj3 HI.out
        · have z1 := inj2 hin
          obtain rfl : n = i := (Nat.le_antisymm hi (Nat.le_of_not_lt hin)).symm
          have hdT : hd = T := by
            have h := HEq.out
            rw [List.drop_eq_nil_of_le (by rw [HN.out]; exact Nat.le_refl _)] at h
            simpa [headF] using h
          clear hi hin HEq
          have hR0 : R = (T ++ (ft ++ viaT), 0) := by rw [HR3.out, HTe.out, List.append_assoc]
          subst hR0
          have hbw : Below w.heap.size w wr := HB2.out.trans (HBr.out.mono HB2.out.size)
          have HBw := Lib.hid hbw
          have b0 := HHr.out.cell 0 rfl
          have b1 := HHr.out.cell 1 rfl
          have b2 := HHr.out.cell 2 rfl
          have b3 := HHr.out.cell 3 rfl
          have b5 := HHr.out.cell 5 rfl
          have HFw := HFr.out wr
          have htz : hs.size = T.length := by rw [hhz, hdT]
          clear hhz hbw
          by_cases f1 : fr = 1
          · subst fr
            have hft : ft = [99, 111, 110, 116, 101, 110, 116, 45, 108, 101, 110, 103, 116, 104, 58, 32] ++ (Lib.itoa (max len 0) ++ [13, 10]) := by rw [HFt.out, if_pos rfl]
            go_wp2_with fail
            refine HFw.mono ?_
            rintro e w5 ⟨rfl, hb5⟩
            have HB5 : Hid (Below w.heap.size w w5) := Lib.hid (HBw.out.trans (hb5.mono HBw.out.size))
            have b5' : w5.cell? ⟨g2, 5, none⟩ = some (.int .i64 len) := (HHr.out.kept (Kept.of_below (X := none') hb5) (fun h => h)).cell 5 rfl
            clear hb5 HFw b0 b1 b2 b3 b4 b5
            by_cases hneg : len < 0
            · have y1 : (len < 0) = True := eq_true hneg
              rw [show max len 0 = ((0 : Nat) : Int) by omega, itoa_nat] at hft
              clear hneg
              have hdl : (Lib.decDigits 0).length ≤ 20 := dec_len (by decide)
              obtain ⟨u1, u2, u3, u4⟩ := rhj4 hdl HTl.out
              have hdz : (strB (Lib.decDigits 0)).size = (Lib.decDigits 0).length := strB_size _
              have HRe : Hid (hs ++ (⟨#[99, 111, 110, 116, 101, 110, 116, 45, 108, 101, 110, 103, 116, 104, 58, 32]⟩ ++ strB (Lib.decDigits 0) ++ ⟨#[13, 10]⟩) ++ ⟨#[118, 105, 97, 58, 32, 51, 32, 116, 117, 114, 110, 112, 105, 107, 101, 13, 10, 13, 10]⟩ = strB (T ++ (ft ++ viaT))) := Lib.hid (by
                rw [HHs.out, hdT, hft]
                show strB T ++ (strB [99, 111, 110, 116, 101, 110, 116, 45, 108, 101, 110, 103, 116, 104, 58, 32] ++ strB (Lib.decDigits 0) ++ strB [13, 10]) ++ strB viaT = _
                rw [strB_append, strB_append, strB_append, strB_append]
                simp only [List.append_assoc])
              have HDg := Lib.hid (digits_any w5 0 (by decide))
              obtain ⟨D, hD⟩ : ∃ D, D = Lib.decDigits 0 := ⟨_, rfl⟩
              rw [← hD] at hdz u1 u2 u3 u4 HRe HDg
              clear hdl hD hft
              go_wp2_with fail
              refine HDg.out.mono ?_
              rintro e w6 ⟨rfl, hb6⟩
              have HB6 : Hid (Below w.heap.size w w6) := Lib.hid (HB5.out.trans (hb6.mono HB5.out.size))
              clear hb6
              go_wp2
              go_ret2
              exact ⟨congrArg (fun s => Ending.returned (.tuple #[.string s, .int .i64 0])) HRe.out, HB6.out⟩
            · have y1 : (len < 0) = False := eq_false hneg
              obtain ⟨q, hq⟩ : ∃ q : Nat, len = (q : Int) := ⟨len.toNat, by omega⟩
              have HQl : Hid (q < 4611686018427387904) := Lib.hid (by have := HLn.out; omega)
              rw [show max len 0 = ((q : Nat) : Int) by omega, itoa_nat] at hft
              subst hq
              clear hneg
              have hdl : (Lib.decDigits q).length ≤ 20 := dec_len (by exact HQl.out)
              obtain ⟨u1, u2, u3, u4⟩ := rhj4 hdl HTl.out
              have hdz : (strB (Lib.decDigits q)).size = (Lib.decDigits q).length := strB_size _
              have HRe : Hid (hs ++ (⟨#[99, 111, 110, 116, 101, 110, 116, 45, 108, 101, 110, 103, 116, 104, 58, 32]⟩ ++ strB (Lib.decDigits q) ++ ⟨#[13, 10]⟩) ++ ⟨#[118, 105, 97, 58, 32, 51, 32, 116, 117, 114, 110, 112, 105, 107, 101, 13, 10, 13, 10]⟩ = strB (T ++ (ft ++ viaT))) := Lib.hid (by
                rw [HHs.out, hdT, hft]
                show strB T ++ (strB [99, 111, 110, 116, 101, 110, 116, 45, 108, 101, 110, 103, 116, 104, 58, 32] ++ strB (Lib.decDigits q) ++ strB [13, 10]) ++ strB viaT = _
                rw [strB_append, strB_append, strB_append, strB_append]
                simp only [List.append_assoc])
              have HDg := Lib.hid (digits_any w5 q (by exact HQl.out))
              obtain ⟨D, hD⟩ : ∃ D, D = Lib.decDigits q := ⟨_, rfl⟩
              rw [← hD] at hdz u1 u2 u3 u4 HRe HDg
              clear hdl hD hft
              go_wp2_with fail
              refine HDg.out.mono ?_
              rintro e w6 ⟨rfl, hb6⟩
              have HB6 : Hid (Below w.heap.size w w6) := Lib.hid (HB5.out.trans (hb6.mono HB5.out.size))
              clear hb6
              go_wp2
              go_ret2
              exact ⟨congrArg (fun s => Ending.returned (.tuple #[.string s, .int .i64 0])) HRe.out, HB6.out⟩
          · have y1 : (fr == 1) = false := by simpa using f1
            obtain ⟨y2, y3⟩ := neqs y1
            obtain ⟨u1, u2, u3⟩ := rhj5 HTl.out
            by_cases f2 : fr = 2
            · subst fr
              have hft : ft = [116, 114, 97, 110, 115, 102, 101, 114, 45, 101, 110, 99, 111, 100, 105, 110, 103, 58, 32, 99, 104, 117, 110, 107, 101, 100, 13, 10] := by rw [HFt.out, if_neg f1, if_pos rfl]
              obtain ⟨u5, u6, u7⟩ := rhj5 HTl.out
              have HRe : Hid (hs ++ ⟨#[116, 114, 97, 110, 115, 102, 101, 114, 45, 101, 110, 99, 111, 100, 105, 110, 103, 58, 32, 99, 104, 117, 110, 107, 101, 100, 13, 10]⟩ ++ ⟨#[118, 105, 97, 58, 32, 51, 32, 116, 117, 114, 110, 112, 105, 107, 101, 13, 10, 13, 10]⟩ = strB (T ++ (ft ++ viaT))) := Lib.hid (by
                rw [HHs.out, hdT, hft]
                show strB T ++ strB [116, 114, 97, 110, 115, 102, 101, 114, 45, 101, 110, 99, 111, 100, 105, 110, 103, 58, 32, 99, 104, 117, 110, 107, 101, 100, 13, 10] ++ strB viaT = _
                rw [strB_append, strB_append]
                simp only [List.append_assoc])
              clear f1 hft
              go_wp2_with fail
              refine HFw.mono ?_
              rintro e w5 ⟨rfl, hb5⟩
              have HB5 : Hid (Below w.heap.size w w5) := Lib.hid (HBw.out.trans (hb5.mono HBw.out.size))
              clear hb5 HFw b0 b1 b2 b3 b4 b5
              go_wp2
              go_ret2
              exact ⟨congrArg (fun s => Ending.returned (.tuple #[.string s, .int .i64 0])) HRe.out, HB5.out⟩
            · have y4 : (fr == 2) = false := by simpa using f2
              obtain ⟨y5, y6⟩ := neqs y4
              have hft : ft = [] := by rw [HFt.out, if_neg f1, if_neg f2]
              have HRe : Hid (hs ++ ⟨#[118, 105, 97, 58, 32, 51, 32, 116, 117, 114, 110, 112, 105, 107, 101, 13, 10, 13, 10]⟩ = strB (T ++ (ft ++ viaT))) := Lib.hid (by
                rw [HHs.out, hdT, hft]
                show strB T ++ strB viaT = _
                rw [strB_append]
                rfl)
              clear f1 f2 hft
              go_wp2_with fail
              refine HFw.mono ?_
              rintro e w5 ⟨rfl, hb5⟩
              have HB5 : Hid (Below w.heap.size w w5) := Lib.hid (HBw.out.trans (hb5.mono HBw.out.size))
              clear hb5 HFw b0 b1 b2 b3 b4 b5
              go_wp2
              go_ret2
              exact ⟨congrArg (fun s => Ending.returned (.tuple #[.string s, .int .i64 0])) HRe.out, HB5.out⟩
end Go.Proofs.YtohinaohcndndaaDoor

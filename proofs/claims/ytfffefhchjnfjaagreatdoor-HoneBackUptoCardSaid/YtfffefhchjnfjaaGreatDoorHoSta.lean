/- hone.status: a response's first line. No condition beyond the text's size. -/
import Derived.Test.YtfffefhchjnfjaaGreatDoorHoLen
namespace Go.Proofs.YtfffefhchjnfjaaGreatDoor
open Go.RowKit

/-- a reader's cells -/
structure RD where
  hd : Bool
  lim : Int
  bf : Value
  en : Bool
  ft : Int
  st : Value
  dn : Bool
  od : Bool
  cl : Bool
  fr : Int
  lf : Int
def RD.cs (r : RD) : List Value := [.bool r.hd, .int .i64 r.lim, r.bf, .bool r.en, .int .i64 r.ft, r.st, .bool r.dn, .bool r.od, .bool r.cl, .int .i64 r.fr, .int .i64 r.lf]
/-- a reader lies at block g -/
def Rd (w : World) (g : Nat) (r : RD) : Prop := Has w g 65 r.cs
theorem Rd.below {w w' : World} {g : Nat} {r : RD} (h : Rd w g r) (hb : Below w.heap.size w w') : Rd w' g r := Has.kept (X := none') h (Kept.of_below hb) (fun h => h)
theorem Rd.at {w : World} {g : Nat} {r : RD} (h : Rd w g r) (j : Nat) {v : Value} (hv : r.cs[j]? = some v) : w.cell? ⟨g, j, none⟩ = some v := Has.cell h j hv
theorem Rd.free {w : World} {g : Nat} {r : RD} (h : Rd w g r) (j : Nat) : w.frozen? ⟨g, j, none⟩ = false := Has.free h j
theorem Rd.sets {w : World} {g : Nat} {r r2 : RD} (h : Rd w g r) (i : Nat) (v : Value) (hv : r.cs.set i v = r2.cs) : Rd (w.setCell ⟨g, i, none⟩ v) g r2 := by
  unfold Rd; rw [← hv]; exact Has.set h i v
/-- what status answers -/
def StaR (w : World) (g : Nat) (r : RD) (x : Ex (Nat × Bool)) (e : Ending) (w' : World) : Prop :=
  match x with
  | .ok (n, old) => e = .returned (.tuple #[.int .i64 (n : Int), .int .i64 0]) ∧ Rd w' g { r with od := old } ∧ Kept (fun k => k = g) w w'
  | .bad c => e = .returned (.tuple #[.int .i64 0, .int .i64 c]) ∧ Below w.heap.size w w'
theorem StaR.bad {w w' : World} {g : Nat} {r : RD} {x : Ex (Nat × Bool)} {c : Int} (h : x = .bad c) (hb : Below w.heap.size w w') : StaR w g r x (.returned (.tuple #[.int .i64 0, .int .i64 c])) w' := by subst h; exact ⟨rfl, hb⟩
theorem StaR.ok {w w' : World} {g : Nat} {r : RD} {x : Ex (Nat × Bool)} {n : Nat} {old : Bool} (h : x = .ok (n, old)) (hr : Rd w' g { r with od := old }) (hb : Kept (fun k => k = g) w w') : StaR w g r x (.returned (.tuple #[.int .i64 (n : Int), .int .i64 0])) w' := by subst h; exact ⟨rfl, hr, hb⟩
theorem strB_tl (L : List UInt8) (i n : Nat) (hn : n = L.length) : (strB L).extract i n = strB (L.drop i) := by
  apply ByteArray.ext
  have e : (L.drop i).take (n - i) = L.drop i := List.take_of_length_le (by rw [List.length_drop]; omega)
  simp [strB, ByteArray.data_extract, e]
theorem strB_md (L : List UInt8) (i j : Nat) : (strB L).extract i j = strB ((L.drop i).take (j - i)) := by
  apply ByteArray.ext
  simp [strB, ByteArray.data_extract]
theorem atB_get {l : List UInt8} {i : Nat} (h : i < l.length) : atB l i = l[i] := by unfold atB; rw [List.getElem?_eq_getElem h]; rfl
theorem ub_ne {x : Int} {b c : UInt8} (hx : x = (b.toNat : Int)) (h : ¬ b = c) : (x == (c.toNat : Int)) = false ∧ ¬ x = (c.toNat : Int) := by
  have : ¬ x = (c.toNat : Int) := fun e => h (UInt8.toNat_inj.1 (by omega))
  exact ⟨by rw [beq_eq_false_iff_ne]; exact this, this⟩
theorem ub_eq {x : Int} {b c : UInt8} (hx : x = (b.toNat : Int)) (h : b = c) : x = (c.toNat : Int) := by rw [hx, h]
theorem lt13T {n : Nat} (h : n < 13) : ((n : Int) < 13) = True := eq_true (by omega)
theorem lt13F {n : Nat} (h : ¬ n < 13) : ((n : Int) < 13) = False := eq_false (by omega)
theorem ge13 {n : Nat} (h : ¬ n < 13) : 13 ≤ n := by omega
theorem all_digs {l : List UInt8} {i : Nat} (h : i < l.length) : natV (l.take (i + 1)) = natV (l.take i) * 10 + (l[i].toNat - 48) := by
  unfold natV
  rw [List.take_succ_eq_append_getElem h, List.foldl_append]
  rfl
theorem natV_tk {l : List UInt8} {i : Nat} (hi : i ≤ 3) (ha : (l.take i).all digC = true) : natV (l.take i) < 1000 := by
  have h := natV_lt ha
  have h2 : (l.take i).length ≤ 3 := by rw [List.length_take]; omega
  have h3 : 10 ^ (l.take i).length ≤ 10 ^ 3 := Nat.pow_le_pow_right (by decide) h2
  omega
theorem dig_lo {x : Int} {b : UInt8} (hx : x = (b.toNat : Int)) (h : digC b = true) : (x < 48) = False ∧ (57 < x) = False := by
  unfold digC at h
  simp only [Bool.and_eq_true, decide_eq_true_eq] at h
  exact ⟨eq_false (by omega), eq_false (by omega)⟩
theorem dig_no {x : Int} {b : UInt8} (hx : x = (b.toNat : Int)) (h : digC b = false) : (x < 48) = True ∨ ((x < 48) = False ∧ (57 < x) = True) := by
  unfold digC at h
  simp only [Bool.and_eq_false_iff, decide_eq_false_iff_not] at h
  rcases h with h | h
  · exact .inl (eq_true (by omega))
  · by_cases h2 : x < 48
    · exact .inl (eq_true h2)
    · exact .inr ⟨eq_false h2, eq_true (by omega)⟩
theorem dig_up {x : Int} {b : UInt8} {k k2 : Nat} (hx : x = (b.toNat : Int)) (h : digC b = true) (hk : k < 1000) (hk2 : k2 = k * 10 + (b.toNat - 48)) :
    IntKind.u8.wrap (x - 48) = x - 48 ∧ IntKind.i64.wrap (x - 48) = x - 48 ∧ RowKit.wrap64 (x - 48) = x - 48 ∧ IntKind.i64.wrap (10 * (k : Int)) = 10 * (k : Int) ∧ RowKit.wrap64 (10 * (k : Int)) = 10 * (k : Int) ∧ IntKind.i64.wrap (10 * (k : Int) + (x - 48)) = (k2 : Int) ∧ RowKit.wrap64 (10 * (k : Int) + (x - 48)) = (k2 : Int) := by
  unfold digC at h
  simp only [Bool.and_eq_true, decide_eq_true_eq] at h
  have hb := b.toNat_lt
  have e : 10 * (k : Int) + (x - 48) = (k2 : Int) := by omega
  rw [e, IntKind.wrap_i64, IntKind.wrap_i64, IntKind.wrap_i64, IntKind.wrap_u8]
  unfold RowKit.wrap64
  omega
theorem st_up {i : Nat} (h : i < 3) : IntKind.i64.wrap ((i : Int) + 1) = (i : Int) + 1 ∧ RowKit.wrap64 ((i : Int) + 1) = (i : Int) + 1 ∧ ((i : Int) < 3) = True ∧ (i : Int) < 3 := by
  rw [IntKind.wrap_i64]; unfold RowKit.wrap64; exact ⟨by omega, by omega, eq_true (by omega), by omega⟩
theorem st_no {i : Nat} (h : ¬ i < 3) : ((i : Int) < 3) = False := eq_false (by omega)
theorem st_lo {n : Nat} (h : n < 100) : ((n : Int) < 100) = True := eq_true (by omega)
theorem st_hi {n : Nat} (h2 : 599 < n) : ((n : Int) < 100) = False ∧ (599 < (n : Int)) = True := ⟨eq_false (by omega), eq_true (by omega)⟩
theorem st_101 {n : Nat} (h : n = 101) : ((n : Int) < 100) = False ∧ (599 < (n : Int)) = False ∧ ((n : Int) == 101) = true ∧ ((n : Int) = 101) = True := by subst h; exact ⟨by simp, by simp, rfl, by simp⟩
theorem st_ok {n : Nat} (h : ¬ (n < 100 ∨ 599 < n ∨ n = 101)) : ((n : Int) < 100) = False ∧ (599 < (n : Int)) = False ∧ ((n : Int) == 101) = false ∧ ((n : Int) = 101) = False := ⟨eq_false (by omega), eq_false (by omega), by rw [beq_eq_false_iff_ne]; omega, eq_false (by omega)⟩
theorem dec_ub {x : Int} {b : UInt8} (hx : x = (b.toNat : Int)) : (x == 48) = decide (b = 48) := by
  by_cases h : b = 48
  · rw [decide_eq_true h, hx, h]; rfl
  · rw [decide_eq_false h]; exact (ub_ne (c := 48) hx h).1
set_option maxRecDepth 100000 in
set_option maxHeartbeats 8000000 in
theorem status_any (w : World) {g : Nat} {r : RD} (hr : Rd w g r) (l : List UInt8) (hz : l.length < 4294967281) : Calls Tryz.prog 33 #[.pointer (some ⟨g, 0, none⟩), .string (strB l)] w (StaR w g r (statusH l)) := by
  obtain ⟨F, hF⟩ : ∃ F, F = statusH l := ⟨_, rfl⟩
  rw [← hF]
  have HR := Lib.hid hr
  obtain ⟨n, hn⟩ : ∃ n, n = l.length := ⟨_, rfl⟩
  have hsz : (strB l).size = n := by rw [strB_size, hn]
  have HP : Hid (∀ w', Calls Tryz.prog 39 #[.string (strB l), .string ⟨#[72, 84, 84, 80, 47, 49, 46]⟩] w' (Ret w' (.bool (httpS.isPrefixOf l)))) := Lib.hid (fun w' => by
    refine (Tryz.strings_HasPrefix (strB l) ⟨#[72, 84, 84, 80, 47, 49, 46]⟩ w').mono ?_
    rintro e w2 ⟨rfl, rfl⟩
    refine ⟨?_, rfl⟩
    rw [strB_toList]; rfl)
  have HRb : Hid (∀ w', Calls Tryz.prog 40 #[.string (strB (l.drop 13))] w' (BoolOf w' ((l.drop 13).all valC))) := Lib.hid (fun w' => rightb_any w' (l.drop 13) (by rw [List.length_drop]; unfold maxLen; omega))
  have ex13 := strB_tl l 13 n hn
  have ex9 := strB_md l 9 12
  unfold statusH at hF
  have hix : ∀ i, i < l.length → ∀ w', (Instr.index 9 (.string (strB l)) (.int .i64 (i : Int))).run Tryz.prog w' = .ok (.int .u8 ((atB l i).toNat : Int)) w' := fun i hi w' => by rw [atB_get hi]; exact idxS w' l i hi
  have hdl := List.length_drop (l := l) (i := 9)
  have htk : ((l.drop 9).take 3).length = min 3 (l.length - 9) := by rw [List.length_take, hdl]
  obtain ⟨S, hS⟩ : ∃ S, S = strB l := ⟨_, rfl⟩
  obtain ⟨P, hP⟩ : ∃ P, P = httpS.isPrefixOf l := ⟨_, rfl⟩
  obtain ⟨R13, hR13⟩ : ∃ R13, R13 = (l.drop 13).all valC := ⟨_, rfl⟩
  obtain ⟨S13, hS13⟩ : ∃ S13, S13 = strB (l.drop 13) := ⟨_, rfl⟩
  have hstb : stBad l = (decide (n < 13) || !P || (!decide (atB l 7 = 48) && !decide (atB l 7 = 49)) || !decide (atB l 8 = 32) || !decide (atB l 12 = 32) || !R13) := by rw [hP, hR13, hn]; rfl
  rw [← hS, ← hS13] at ex13
  rw [← hS] at hsz HP hix ex9 ⊢
  rw [← hP] at HP
  rw [← hR13, ← hS13] at HRb
  obtain ⟨D, hD⟩ : ∃ D, D = (l.drop 9).take 3 := ⟨_, rfl⟩
  rw [← hD] at hF htk
  replace ex9 : S.extract 9 12 = strB D := by rw [ex9, hD]
  clear hR13 hS13 hP hD hdl
  by_cases h1 : n < 13
  · have q1 := lt13T h1
    have HF : Hid (F = .bad 201) := Lib.hid (by rw [hF, hstb, decide_eq_true h1]; rfl)
    clear hix hS htk hstb hF hz hn hr h1 HP HRb ex13 ex9
    go_enter Tryz.func33, Tryz.ntmps33
    go_wp2
    go_ret2
    exact StaR.bad HF.out (Below.refl _ _)
  have q1 := lt13F h1
  have hn13 := ge13 h1
  have g1 := decide_eq_false h1
  cases hP : P with
  | false =>
    have HF : Hid (F = .bad 201) := Lib.hid (by rw [hF, hstb, g1, hP]; rfl)
    rw [hP] at HP
    clear hix hS htk hstb hF hz hn hr h1 g1 HRb ex13 ex9 hn13 hP
    go_enter Tryz.func33, Tryz.ntmps33
    go_wp2_with fail
    refine (HP.out _).mono ?_
    rintro e w2 ⟨rfl, hw⟩
    replace hw := hw.symm
    subst hw
    clear HP
    go_wp2
    go_ret2
    exact StaR.bad HF.out (Below.refl _ _)
  | true =>
  rw [hP] at HP hstb
  have i7 := hix 7 (by omega)
  have i8 := hix 8 (by omega)
  have i12 := hix 12 (by omega)
  obtain ⟨b7, hb7⟩ : ∃ b, b = atB l 7 := ⟨_, rfl⟩
  obtain ⟨b8, hb8⟩ : ∃ b, b = atB l 8 := ⟨_, rfl⟩
  obtain ⟨b12, hb12⟩ : ∃ b, b = atB l 12 := ⟨_, rfl⟩
  rw [← hb7] at i7 hstb hF
  rw [← hb8] at i8 hstb
  rw [← hb12] at i12 hstb
  obtain ⟨x7, hx7⟩ : ∃ x : Int, x = (b7.toNat : Int) := ⟨_, rfl⟩
  obtain ⟨x8, hx8⟩ : ∃ x : Int, x = (b8.toNat : Int) := ⟨_, rfl⟩
  obtain ⟨x12, hx12⟩ : ∃ x : Int, x = (b12.toNat : Int) := ⟨_, rfl⟩
  rw [← hx7] at i7
  rw [← hx8] at i8
  rw [← hx12] at i12
  replace i7 : ∀ w', (Instr.index 9 (.string S) (.int .i64 7)).run Tryz.prog w' = .ok (.int .u8 x7) w' := i7
  replace i8 : ∀ w', (Instr.index 9 (.string S) (.int .i64 8)).run Tryz.prog w' = .ok (.int .u8 x8) w' := i8
  replace i12 : ∀ w', (Instr.index 9 (.string S) (.int .i64 12)).run Tryz.prog w' = .ok (.int .u8 x12) w' := i12
  have j7 := i7 w
  have j8 := i8 w
  have j12 := i12 w
  have I7 := Lib.hid i7
  clear i7 i8 i12 hix hb7 hb8 hb12 hP hr hS
  by_cases h7 : ¬ b7 = 48 ∧ ¬ b7 = 49
  · obtain ⟨a1, a2⟩ : (x7 == 48) = false ∧ ¬ x7 = 48 := ub_ne (c := 48) hx7 h7.1
    obtain ⟨a3, a4⟩ : (x7 == 49) = false ∧ ¬ x7 = 49 := ub_ne (c := 49) hx7 h7.2
    have HF : Hid (F = .bad 201) := Lib.hid (by rw [hF, hstb, g1, decide_eq_false h7.1, decide_eq_false h7.2]; rfl)
    clear htk hstb hF hz hn h1 g1 HRb ex13 ex9 hn13 h7 hx7 hx8 hx12 j8 j12
    go_enter Tryz.func33, Tryz.ntmps33
    go_wp2_with fail
    refine (HP.out _).mono ?_
    rintro e w2 ⟨rfl, hw⟩
    replace hw := hw.symm
    subst hw
    clear HP
    go_wp2
    go_ret2
    exact StaR.bad HF.out (Below.refl _ _)
  have HS7 : Hid ((!decide (b7 = 48) && !decide (b7 = 49)) = false) := Lib.hid (by
    by_cases h : b7 = 48
    · rw [decide_eq_true h]; rfl
    · by_cases h2 : b7 = 49
      · rw [decide_eq_true h2]; simp
      · exact absurd ⟨h, h2⟩ h7)
  rw [HS7.out] at hstb
  have HX7 : Hid (((x7 == 48) = true ∧ (x7 = 48)) ∨ ((x7 == 48) = false ∧ ¬ x7 = 48 ∧ x7 = 49)) := Lib.hid (by
    by_cases h : b7 = 48
    · have := ub_eq hx7 h
      exact .inl ⟨by rw [beq_iff_eq]; exact this, this⟩
    · have hb : b7 = 49 := by
        by_cases h2 : b7 = 49
        · exact h2
        · exact absurd ⟨h, h2⟩ h7
      have h3 : (x7 == 48) = false ∧ ¬ x7 = 48 := ub_ne (c := 48) hx7 h
      exact .inr ⟨h3.1, h3.2, ub_eq hx7 hb⟩)
  clear h7
  by_cases h8 : ¬ b8 = 32
  · obtain ⟨a1, a2⟩ : (x8 == 32) = false ∧ ¬ x8 = 32 := ub_ne (c := 32) hx8 h8
    have HF : Hid (F = .bad 201) := Lib.hid (by rw [hF, hstb, g1, decide_eq_false h8]; rfl)
    clear htk hstb hF hz hn h1 g1 HRb ex13 ex9 hn13 h8 hx7 hx8 hx12 j12 I7
    rcases HX7.out with ⟨c1, rfl⟩ | ⟨c1, c2, rfl⟩
    · clear HX7
      go_enter Tryz.func33, Tryz.ntmps33
      go_wp2_with fail
      refine (HP.out _).mono ?_
      rintro e w2 ⟨rfl, hw⟩
      replace hw := hw.symm
      subst hw
      clear HP
      go_wp2
      go_ret2
      exact StaR.bad HF.out (Below.refl _ _)
    · clear HX7
      go_enter Tryz.func33, Tryz.ntmps33
      go_wp2_with fail
      refine (HP.out _).mono ?_
      rintro e w2 ⟨rfl, hw⟩
      replace hw := hw.symm
      subst hw
      clear HP
      go_wp2
      go_ret2
      exact StaR.bad HF.out (Below.refl _ _)
  have h8 : b8 = 32 := Decidable.not_not.1 h8
  have hy8 : x8 = 32 := ub_eq hx8 h8
  rw [decide_eq_true h8] at hstb
  clear hx8
  subst hy8
  by_cases h12 : ¬ b12 = 32
  · obtain ⟨a1, a2⟩ : (x12 == 32) = false ∧ ¬ x12 = 32 := ub_ne (c := 32) hx12 h12
    have HF : Hid (F = .bad 201) := Lib.hid (by rw [hF, hstb, g1, decide_eq_false h12]; rfl)
    clear htk hstb hF hz hn h1 g1 HRb ex13 ex9 hn13 h8 hx7 hx12 h12 I7
    rcases HX7.out with ⟨c1, rfl⟩ | ⟨c1, c2, rfl⟩
    · clear HX7
      go_enter Tryz.func33, Tryz.ntmps33
      go_wp2_with fail
      refine (HP.out _).mono ?_
      rintro e w2 ⟨rfl, hw⟩
      replace hw := hw.symm
      subst hw
      clear HP
      go_wp2
      go_ret2
      exact StaR.bad HF.out (Below.refl _ _)
    · clear HX7
      go_enter Tryz.func33, Tryz.ntmps33
      go_wp2_with fail
      refine (HP.out _).mono ?_
      rintro e w2 ⟨rfl, hw⟩
      replace hw := hw.symm
      subst hw
      clear HP
      go_wp2
      go_ret2
      exact StaR.bad HF.out (Below.refl _ _)
  have h12 : b12 = 32 := Decidable.not_not.1 h12
  have hy12 : x12 = 32 := ub_eq hx12 h12
  rw [decide_eq_true h12] at hstb
  clear hx12
  subst hy12
  cases hR : R13 with
  | false =>
    have HF : Hid (F = .bad 201) := Lib.hid (by rw [hF, hstb, g1, hR]; rfl)
    rw [hR] at HRb
    clear htk hstb hF hz hn h1 g1 ex9 h8 hx7 h12 I7 hR
    rcases HX7.out with ⟨c1, rfl⟩ | ⟨c1, c2, rfl⟩
    · clear HX7
      go_enter Tryz.func33, Tryz.ntmps33
      go_wp2_with fail
      refine (HP.out _).mono ?_
      rintro e w2 ⟨rfl, hw⟩
      replace hw := hw.symm
      subst hw
      clear HP
      go_wp2_with fail
      refine (HRb.out _).mono ?_
      rintro e w3 ⟨rfl, hb3⟩
      have HB3 := Lib.hid hb3
      clear HRb hb3
      go_wp2
      go_ret2
      exact StaR.bad HF.out (HB3.out)
    · clear HX7
      go_enter Tryz.func33, Tryz.ntmps33
      go_wp2_with fail
      refine (HP.out _).mono ?_
      rintro e w2 ⟨rfl, hw⟩
      replace hw := hw.symm
      subst hw
      clear HP
      go_wp2_with fail
      refine (HRb.out _).mono ?_
      rintro e w3 ⟨rfl, hb3⟩
      have HB3 := Lib.hid hb3
      clear HRb hb3
      go_wp2
      go_ret2
      exact StaR.bad HF.out (HB3.out)
  | true =>
  rw [hR] at HRb hstb
  have hst0 : stBad l = false := by rw [hstb, g1]; rfl
  rw [hst0, if_neg (by decide)] at hF
  have htk3 : D.length = 3 := by rw [htk, ← hn]; omega
  have HF := Lib.hid hF
  have HD := Lib.hid htk3
  have HX : Hid (x7 = (b7.toNat : Int)) := Lib.hid hx7
  clear htk hstb hF hz hn h1 g1 h8 h12 hst0 hx7 hR htk3
  go_enter Tryz.func33, Tryz.ntmps33
  go_wp2_with fail
  refine (HP.out _).mono ?_
  rintro e w2 ⟨rfl, hw⟩
  replace hw := hw.symm
  subst hw
  clear HP
  have key : ∀ (tm : Array Value) (w3 : World), True := fun _ _ => trivial
  clear key
  rcases HX7.out with ⟨c1, c2⟩ | ⟨c1, c2, c3⟩
  · clear HX7
    have HC2 := Lib.hid c2
    go_wp2_with fail
    refine (HRb.out _).mono ?_
    rintro e w3 ⟨rfl, hb3⟩
    have HB3 := Lib.hid hb3
    have HR3 : Hid (Rd w3 g r) := Lib.hid (HR.out.below hb3)
    clear HRb hb3 j7 j8 j12 HR
    obtain ⟨c4, w4, hcv, hbt, hbc, hb4⟩ := conv_bts2 w3 D (by rw [HD.out]; decide)
    have HB4 : Hid (Below w.heap.size w w4) := Lib.hid (HB3.out.trans (hb4.mono HB3.out.size))
    have HR4 : Hid (Rd w4 g r) := Lib.hid (HR3.out.below hb4)
    have HBt := Lib.hid (bts_sl hbt c4 hbc.1 hbc.2)
    clear hbt hbc hb4 HB3 HR3
    rw [HD.out] at hcv
    go_wp2_with fail
    go_loopw [6, 47] (fun kv v wr => ∃ (i k : Nat), v = .int .i64 (i : Int) ∧ kv = .int .i64 (k : Int) ∧ i ≤ 3 ∧ Hid (k = natV (D.take i)) ∧ Hid ((D.take i).all digC = true) ∧ wr = w4) (fun _ v _ => 3 - (intOf v).toNat)
    case atStart => exact ⟨0, 0, rfl, rfl, by decide, Lib.hid rfl, Lib.hid rfl, rfl⟩
    case round =>
      obtain ⟨i, k, rfl, rfl, hi, HK, HA, rfl⟩ := hrel
      by_cases hin : i < 3
      · obtain ⟨z1, z2, z3, z4⟩ := st_up hin
        have hil : i < D.length := by rw [HD.out]; exact hin
        obtain ⟨bb, off, hbb, hcs⟩ := HBt.out.cells (Nat.lt_of_le_of_lt (Nat.zero_le _) hil)
        obtain ⟨rfl, rfl⟩ : bb = w3.heap.size ∧ off = 0 := by cases hbb; exact ⟨rfl, rfl⟩
        have hci := hcs i hil
        rw [bv_get D i hil, Nat.zero_add] at hci
        have HUp : Hid (digC D[i] = true → ∃ k2, k2 = natV (D.take (i + 1)) ∧ (D.take (i + 1)).all digC = true ∧ k2 = k * 10 + (D[i].toNat - 48) ∧ k < 1000) := Lib.hid (fun hd => ⟨_, rfl, all_on hil HA.out hd, by rw [all_digs hil, HK.out], by rw [HK.out]; exact natV_tk hi HA.out⟩)
        have HSt : Hid (digC D[i] = false → D.all digC = false) := Lib.hid (all_stop hil)
        have HIn := Lib.hid hin
        obtain ⟨b, hb⟩ : ∃ b, b = D[i] := ⟨_, rfl⟩
        rw [← hb] at hci HUp HSt
        obtain ⟨x, hx⟩ : ∃ x : Int, x = (b.toNat : Int) := ⟨_, rfl⟩
        rw [← hx] at hci
        clear hcs hbb hb hil hi hin HK HA
        cases hd : digC b with
        | true =>
          obtain ⟨k2, hk2, hal, hkk, hlt⟩ := HUp.out hd
          obtain ⟨u1, u2, u3, u4, u5, u6, u7⟩ := dig_up hx hd hlt hkk
          obtain ⟨d1, d2⟩ := dig_lo hx hd
          have HK2 := Lib.hid hk2
          have HA2 := Lib.hid hal
          clear hx hd hk2 hal hkk hlt HUp HSt
          go_wp2_with fail
          go_roundw
          case rel => exact ⟨i + 1, k2, by first | rfl | (push_cast; rfl) | (rw [z1]; push_cast; rfl), by first | rfl | rw [u6], Nat.succ_le_of_lt HIn.out, HK2, HA2, by trivial⟩
          case measure => exact meas_up HIn.out
        | false =>
          have HF2 : Hid (F = .bad 201) := Lib.hid (by rw [HF.out, HSt.out hd]; rfl)
          rcases dig_no hx hd with d1 | ⟨d1, d2⟩
          · clear hx hd HUp HSt
            go_wp2
            go_ret2
            exact StaR.bad HF2.out HB4.out
          · clear hx hd HUp HSt
            go_wp2
            go_ret2
            exact StaR.bad HF2.out HB4.out
      · have z0 := st_no hin
        have HKk : Hid (k = natV D ∧ D.all digC = true) := Lib.hid (by
          have e : i = D.length := by rw [HD.out]; omega
          have h1 := HK.out
          have h2 := HA.out
          rw [e, List.take_length] at h1 h2
          exact ⟨h1, h2⟩)
        have HF2 : Hid (F = if k < 100 ∨ 599 < k ∨ k = 101 then .bad 200 else .ok (k, decide (b7 = 48))) := Lib.hid (by rw [HF.out, HKk.out.2, HKk.out.1]; rfl)
        clear hin hi HK HA
        by_cases e1 : k < 100
        · have HF3 : Hid (F = .bad 200) := Lib.hid (by rw [HF2.out, if_pos (.inl e1)])
          have s1 := st_lo e1
          clear e1 HF2
          go_wp2
          go_ret2
          exact StaR.bad HF3.out HB4.out
        · by_cases e2 : 599 < k
          · have HF3 : Hid (F = .bad 200) := Lib.hid (by rw [HF2.out, if_pos (.inr (.inl e2))])
            obtain ⟨s1, s2⟩ := st_hi e2
            clear e1 e2 HF2
            go_wp2
            go_ret2
            exact StaR.bad HF3.out HB4.out
          · by_cases e3 : k = 101
            · have HF3 : Hid (F = .bad 200) := Lib.hid (by rw [HF2.out, if_pos (.inr (.inr e3))])
              obtain ⟨s1, s2, s3, s4⟩ := st_101 e3
              clear e1 e2 e3 HF2
              go_wp2
              go_ret2
              exact StaR.bad HF3.out HB4.out
            · have HF3 : Hid (F = .ok (k, decide (b7 = 48))) := Lib.hid (by rw [HF2.out, if_neg (by omega)])
              obtain ⟨s1, s2, s3, s4⟩ := st_ok (by omega : ¬ (k < 100 ∨ 599 < k ∨ k = 101))
              clear e1 e2 e3 HF2
              have j7 := I7.out wr
              have r7 := HR4.out.at 7 rfl
              have f7 := HR4.out.free 7
              have HOd : Hid ((x7 == 48) = decide (b7 = 48)) := Lib.hid (dec_ub HX.out)
              go_wp2
              go_ret2
              exact StaR.ok HF3.out (HR4.out.sets 7 _ (by rw [← HOd.out]; first | rfl | (simp [RD.cs, c1]))) (((Kept.of_below (X := fun k => k = g) HB4.out)).trans (Kept.set wr g 7 _) (fun _ _ h => h))
  · clear HX7
    go_wp2_with fail
    refine (HRb.out _).mono ?_
    rintro e w3 ⟨rfl, hb3⟩
    have HB3 := Lib.hid hb3
    have HR3 : Hid (Rd w3 g r) := Lib.hid (HR.out.below hb3)
    clear HRb hb3 j7 j8 j12 HR
    obtain ⟨c4, w4, hcv, hbt, hbc, hb4⟩ := conv_bts2 w3 D (by rw [HD.out]; decide)
    have HB4 : Hid (Below w.heap.size w w4) := Lib.hid (HB3.out.trans (hb4.mono HB3.out.size))
    have HR4 : Hid (Rd w4 g r) := Lib.hid (HR3.out.below hb4)
    have HBt := Lib.hid (bts_sl hbt c4 hbc.1 hbc.2)
    clear hbt hbc hb4 HB3 HR3
    rw [HD.out] at hcv
    go_wp2_with fail
    go_loopw [6, 47] (fun kv v wr => ∃ (i k : Nat), v = .int .i64 (i : Int) ∧ kv = .int .i64 (k : Int) ∧ i ≤ 3 ∧ Hid (k = natV (D.take i)) ∧ Hid ((D.take i).all digC = true) ∧ wr = w4) (fun _ v _ => 3 - (intOf v).toNat)
    case atStart => exact ⟨0, 0, rfl, rfl, by decide, Lib.hid rfl, Lib.hid rfl, rfl⟩
    case round =>
      obtain ⟨i, k, rfl, rfl, hi, HK, HA, rfl⟩ := hrel
      by_cases hin : i < 3
      · obtain ⟨z1, z2, z3, z4⟩ := st_up hin
        have hil : i < D.length := by rw [HD.out]; exact hin
        obtain ⟨bb, off, hbb, hcs⟩ := HBt.out.cells (Nat.lt_of_le_of_lt (Nat.zero_le _) hil)
        obtain ⟨rfl, rfl⟩ : bb = w3.heap.size ∧ off = 0 := by cases hbb; exact ⟨rfl, rfl⟩
        have hci := hcs i hil
        rw [bv_get D i hil, Nat.zero_add] at hci
        have HUp : Hid (digC D[i] = true → ∃ k2, k2 = natV (D.take (i + 1)) ∧ (D.take (i + 1)).all digC = true ∧ k2 = k * 10 + (D[i].toNat - 48) ∧ k < 1000) := Lib.hid (fun hd => ⟨_, rfl, all_on hil HA.out hd, by rw [all_digs hil, HK.out], by rw [HK.out]; exact natV_tk hi HA.out⟩)
        have HSt : Hid (digC D[i] = false → D.all digC = false) := Lib.hid (all_stop hil)
        have HIn := Lib.hid hin
        obtain ⟨b, hb⟩ : ∃ b, b = D[i] := ⟨_, rfl⟩
        rw [← hb] at hci HUp HSt
        obtain ⟨x, hx⟩ : ∃ x : Int, x = (b.toNat : Int) := ⟨_, rfl⟩
        rw [← hx] at hci
        clear hcs hbb hb hil hi hin HK HA
        cases hd : digC b with
        | true =>
          obtain ⟨k2, hk2, hal, hkk, hlt⟩ := HUp.out hd
          obtain ⟨u1, u2, u3, u4, u5, u6, u7⟩ := dig_up hx hd hlt hkk
          obtain ⟨d1, d2⟩ := dig_lo hx hd
          have HK2 := Lib.hid hk2
          have HA2 := Lib.hid hal
          clear hx hd hk2 hal hkk hlt HUp HSt
          go_wp2_with fail
          go_roundw
          case rel => exact ⟨i + 1, k2, by first | rfl | (push_cast; rfl) | (rw [z1]; push_cast; rfl), by first | rfl | rw [u6], Nat.succ_le_of_lt HIn.out, HK2, HA2, by trivial⟩
          case measure => exact meas_up HIn.out
        | false =>
          have HF2 : Hid (F = .bad 201) := Lib.hid (by rw [HF.out, HSt.out hd]; rfl)
          rcases dig_no hx hd with d1 | ⟨d1, d2⟩
          · clear hx hd HUp HSt
            go_wp2
            go_ret2
            exact StaR.bad HF2.out HB4.out
          · clear hx hd HUp HSt
            go_wp2
            go_ret2
            exact StaR.bad HF2.out HB4.out
      · have z0 := st_no hin
        have HKk : Hid (k = natV D ∧ D.all digC = true) := Lib.hid (by
          have e : i = D.length := by rw [HD.out]; omega
          have h1 := HK.out
          have h2 := HA.out
          rw [e, List.take_length] at h1 h2
          exact ⟨h1, h2⟩)
        have HF2 : Hid (F = if k < 100 ∨ 599 < k ∨ k = 101 then .bad 200 else .ok (k, decide (b7 = 48))) := Lib.hid (by rw [HF.out, HKk.out.2, HKk.out.1]; rfl)
        clear hin hi HK HA
        by_cases e1 : k < 100
        · have HF3 : Hid (F = .bad 200) := Lib.hid (by rw [HF2.out, if_pos (.inl e1)])
          have s1 := st_lo e1
          clear e1 HF2
          go_wp2
          go_ret2
          exact StaR.bad HF3.out HB4.out
        · by_cases e2 : 599 < k
          · have HF3 : Hid (F = .bad 200) := Lib.hid (by rw [HF2.out, if_pos (.inr (.inl e2))])
            obtain ⟨s1, s2⟩ := st_hi e2
            clear e1 e2 HF2
            go_wp2
            go_ret2
            exact StaR.bad HF3.out HB4.out
          · by_cases e3 : k = 101
            · have HF3 : Hid (F = .bad 200) := Lib.hid (by rw [HF2.out, if_pos (.inr (.inr e3))])
              obtain ⟨s1, s2, s3, s4⟩ := st_101 e3
              clear e1 e2 e3 HF2
              go_wp2
              go_ret2
              exact StaR.bad HF3.out HB4.out
            · have HF3 : Hid (F = .ok (k, decide (b7 = 48))) := Lib.hid (by rw [HF2.out, if_neg (by omega)])
              obtain ⟨s1, s2, s3, s4⟩ := st_ok (by omega : ¬ (k < 100 ∨ 599 < k ∨ k = 101))
              clear e1 e2 e3 HF2
              have j7 := I7.out wr
              have r7 := HR4.out.at 7 rfl
              have f7 := HR4.out.free 7
              have HOd : Hid ((x7 == 48) = decide (b7 = 48)) := Lib.hid (dec_ub HX.out)
              go_wp2
              go_ret2
              exact StaR.ok HF3.out (HR4.out.sets 7 _ (by rw [← HOd.out]; first | rfl | (simp [RD.cs, c1]))) (((Kept.of_below (X := fun k => k = g) HB4.out)).trans (Kept.set wr g 7 _) (fun _ _ h => h))
end Go.Proofs.YtfffefhchjnfjaaGreatDoor

/- hone.length: a length's digits. No condition beyond the text's size. -/
import Derived.Test.YtfffefhchjnfjaaGreatDoorHoFls
namespace Go.Proofs.YtfffefhchjnfjaaGreatDoor
open Go.RowKit

def digS : List UInt8 := [48, 49, 50, 51, 52, 53, 54, 55, 56, 57]
theorem dig_set (b : UInt8) : digS.contains b = digC b := by
  have h : ∀ k, k < 256 → digS.contains (UInt8.ofNat k) = digC (UInt8.ofNat k) := by decide +kernel
  have h2 := h b.toNat b.toNat_lt
  simpa using h2
theorem dropW_nil {p : UInt8 → Bool} : ∀ {l : List UInt8}, l.dropWhile p = [] ↔ l.all p = true
  | [] => by simp
  | a :: r => by
    rw [List.dropWhile_cons, List.all_cons]
    by_cases h : p a = true
    · rw [if_pos h, h, Bool.true_and]; exact dropW_nil
    · rw [if_neg h]; simp [h]
theorem trim_nil (l : List UInt8) : (Lib.trimS l digS = []) ↔ l.all digC = true := by
  unfold Lib.trimS Lib.trimLeftS Lib.trimRightS
  have e : (fun b => digS.contains b) = digC := by funext b; exact dig_set b
  rw [show (fun x => digS.contains x) = digC from e, drop_comm digC l, List.reverse_eq_nil_iff, dropW_nil, List.all_reverse]
  constructor
  · intro h
    have h2 : l.dropWhile digC = [] := by
      cases hd : l.dropWhile digC with
      | nil => rfl
      | cons a r =>
        have h3 := List.head?_dropWhile_not digC l
        rw [hd] at h3 h
        simp at h3 h
        rw [h.1] at h3; cases h3
    exact dropW_nil.1 h2
  · intro h
    rw [dropW_nil.2 h]; rfl
theorem natV_go (l : List UInt8) : ∀ n : Nat, l.foldl (fun n b => n * 10 + (b.toNat - 48)) n = n * 10 ^ l.length + natV l := by
  unfold natV
  induction l with
  | nil => intro n; simp
  | cons a r ih =>
    intro n
    simp only [List.foldl_cons]
    rw [ih, ih (0 * 10 + (a.toNat - 48)), List.length_cons, Nat.pow_succ, Nat.add_mul, Nat.mul_assoc, Nat.mul_comm 10, Nat.add_assoc]
    simp
theorem natV_cons (a : UInt8) (r : List UInt8) : natV (a :: r) = (a.toNat - 48) * 10 ^ r.length + natV r := by
  show List.foldl _ (0 * 10 + (a.toNat - 48)) r = _
  rw [natV_go, Nat.zero_mul, Nat.zero_add]
theorem natV_lt : ∀ {l : List UInt8}, l.all digC = true → natV l < 10 ^ l.length
  | [], _ => by decide
  | a :: r, h => by
    rw [List.all_cons, Bool.and_eq_true] at h
    have h1 : a.toNat ≤ 57 := by have := h.1; unfold digC at this; simp at this; omega
    have h2 := natV_lt h.2
    rw [natV_cons, List.length_cons, Nat.pow_succ]
    have : (a.toNat - 48) * 10 ^ r.length ≤ 9 * 10 ^ r.length := Nat.mul_le_mul_right _ (by omega)
    omega
theorem parse_dig : ∀ (l : List UInt8) (n : Nat), l.all digC = true → n * 10 ^ l.length + natV l < 1000000000000000 → Lib.parseUint10 n l = .ok (n * 10 ^ l.length + natV l)
  | [], n, _, _ => by simp [Lib.parseUint10, natV]
  | a :: r, n, h, hb => by
    rw [List.all_cons, Bool.and_eq_true] at h
    have h1 : 48 ≤ a.toNat ∧ a.toNat ≤ 57 := by have := h.1; unfold digC at this; simpa using this
    have e : n * 10 ^ (a :: r).length + natV (a :: r) = (n * 10 + (a.toNat - 48)) * 10 ^ r.length + natV r := by
      rw [natV_cons, List.length_cons, Nat.pow_succ, Nat.add_mul, Nat.mul_assoc, Nat.mul_comm 10, Nat.add_assoc]
    rw [e] at hb ⊢
    have hp : 1 ≤ 10 ^ r.length := Nat.one_le_pow _ _ (by decide)
    have hle : n * 10 + (a.toNat - 48) < 1000000000000000 := by
      have := Nat.mul_le_mul_left (n * 10 + (a.toNat - 48)) hp
      omega
    unfold Lib.parseUint10
    rw [if_pos h1, if_neg (by omega), if_neg (by omega)]
    exact parse_dig r _ h.2 hb
theorem atoi_dig {l : List UInt8} (h1 : 1 ≤ l.length) (h2 : l.length ≤ 15) (h : l.all digC = true) : Lib.atoiAll l = .ok (natV l : Int) := by
  have hlt := natV_lt h
  have hp : 10 ^ l.length ≤ 10 ^ 15 := Nat.pow_le_pow_right (by decide) h2
  have hpd := parse_dig l 0 h (by omega)
  cases l with
  | nil => simp at h1
  | cons a r =>
    have ha : 48 ≤ a.toNat ∧ a.toNat ≤ 57 := by
      rw [List.all_cons, Bool.and_eq_true] at h
      have := h.1; unfold digC at this; simpa using this
    rw [Lib.atoiAll_plain a r (by omega) (by omega)]
    have : Lib.parseMag (a :: r) = .ok (natV (a :: r)) := by
      unfold Lib.parseMag
      rw [if_neg (by simp), hpd]; simp
    rw [this]
    unfold Lib.signless
    simp only
    rw [if_neg (by omega)]
/-- what length answers -/
def LenR (w : World) (x : Option Nat) (e : Ending) (w' : World) : Prop :=
  e = .returned (match x with | some n => .tuple #[.int .i64 (n : Int), .bool true] | none => .tuple #[.int .i64 0, .bool false]) ∧ Below w.heap.size w w'
theorem LenR.none {w w' : World} {x : Option Nat} (h : x = .none) (hb : Below w.heap.size w w') : LenR w x (.returned (.tuple #[.int .i64 0, .bool false])) w' := by subst h; exact ⟨rfl, hb⟩
theorem LenR.some {w w' : World} {x : Option Nat} {n : Nat} (h : x = .some n) (hb : Below w.heap.size w w') : LenR w x (.returned (.tuple #[.int .i64 (n : Int), .bool true])) w' := by subst h; exact ⟨rfl, hb⟩
set_option maxRecDepth 100000 in
theorem dtrim_any (w : World) (s : ByteArray) (hs : s.size ≤ 9223372036854775807) : Calls Tryz.prog 45 #[.string s, .string ⟨#[48, 49, 50, 51, 52, 53, 54, 55, 56, 57]⟩] w (StrOf w (Lib.trimS (bl s) digS)) := by
  refine (Any.strings_Trim_laid Tryz.lays160 info256 s ⟨#[48, 49, 50, 51, 52, 53, 54, 55, 56, 57]⟩ w hs (by decide) (ascii_of_all (by decide))).mono ?_
  rintro e w' ⟨rfl, hb⟩
  exact ⟨rfl, hb⟩
theorem nat_of_lt {n : Nat} (h : n < 1) : ((n : Int) < 1) = True := eq_true (by omega)
theorem len_ge {n : Nat} (h : ¬ n < 1) : ((n : Int) < 1) = False := eq_false (by omega)
theorem len_gt {n : Nat} (h : 15 < n) : ((15 : Int) < (n : Int)) = True := eq_true (by omega)
theorem len_le {n : Nat} (h : ¬ 15 < n) : ((15 : Int) < (n : Int)) = False := eq_false (by omega)
theorem emT {s : ByteArray} (h : bl s = []) : s.toList.isEmpty = true ∧ (s.toList == []) = true ∧ (s.toList = []) = True := ⟨by rw [beq_iff_eq.1 (eqT h)]; rfl, eqT h, eq_true (beq_iff_eq.1 (eqT h))⟩
theorem emF {s : ByteArray} (h : ¬ bl s = []) : s.toList.isEmpty = false ∧ (s.toList == []) = false ∧ (s.toList = []) = False := by
  obtain ⟨h1, h2⟩ := eqF2 h
  refine ⟨?_, h1, h2⟩
  cases hc : s.toList with
  | nil => rw [hc] at h1; cases h1
  | cons a r => rfl
set_option maxRecDepth 100000 in
set_option maxHeartbeats 4000000 in
theorem length_any (w : World) (l : List UInt8) (hz : l.length < 4294967281) : Calls Tryz.prog 43 #[.string (strB l)] w (LenR w (lengthH l)) := by
  obtain ⟨F, hF⟩ : ∃ F, F = lengthH l := ⟨_, rfl⟩
  rw [← hF]
  obtain ⟨n, hn⟩ : ∃ n, n = l.length := ⟨_, rfl⟩
  have hsz : (strB l).size = n := by rw [strB_size, hn]
  have hTr := fun w' => dtrim_any w' (strB l) (by rw [strB_size]; omega)
  rw [bl_strB'] at hTr
  have HTr := Lib.hid hTr
  obtain ⟨S, hS⟩ : ∃ S, S = strB l := ⟨_, rfl⟩
  obtain ⟨V, hV⟩ : ∃ V, V = Lib.trimS l digS := ⟨_, rfl⟩
  rw [← hS] at hsz HTr ⊢
  rw [← hV] at HTr
  unfold lengthH at hF
  rw [← hn] at hF
  by_cases h1 : n < 1
  · rw [if_pos (.inl h1)] at hF
    have HF := Lib.hid hF
    have q1 := nat_of_lt h1
    clear hTr hS hV hF hz hn h1 HTr
    go_enter Tryz.func43, Tryz.ntmps43
    go_wp2
    go_ret2
    exact LenR.none HF.out (Below.refl _ _)
  · have q1 := len_ge h1
    by_cases h2 : 15 < n
    · rw [if_pos (.inr (.inl h2))] at hF
      have HF := Lib.hid hF
      have q2 := len_gt h2
      clear hTr hS hV hF hz hn h1 h2 HTr
      go_enter Tryz.func43, Tryz.ntmps43
      go_wp2
      go_ret2
      exact LenR.none HF.out (Below.refl _ _)
    · have q2 := len_le h2
      by_cases h3 : l.all digC = true
      · rw [if_neg (by rw [h3]; simp; omega)] at hF
        have hV0 : V = [] := by rw [hV]; exact (trim_nil l).2 h3
        obtain ⟨T, hT⟩ : ∃ T, T = strB V := ⟨_, rfl⟩
        have hbl : bl T = [] := by rw [hT, bl_strB', hV0]
        obtain ⟨y0, y1, y2⟩ := emT hbl
        have HTr2 : Hid (∀ w', Calls Tryz.prog 45 #[.string S, .string ⟨#[48, 49, 50, 51, 52, 53, 54, 55, 56, 57]⟩] w' (TupOf w' (.string T))) := Lib.hid (by rw [hT]; exact HTr.out)
        have hA := fun w' => Tryz.strconv_Atoi_ok S (by rw [hsz]; omega) (natV l : Int) (by rw [hS]; show Lib.atoiAll (strB l).data.toList = _; rw [strB_toList]; exact atoi_dig (by omega) (by omega) h3) w'
        have HA := Lib.hid hA
        have HF := Lib.hid hF
        obtain ⟨m, hm⟩ : ∃ m, m = natV l := ⟨_, rfl⟩
        rw [← hm] at HF HA
        clear hTr hS hV hF hz hn h1 h2 h3 hA hm HTr hV0 hT hbl
        go_enter Tryz.func43, Tryz.ntmps43
        go_wp2_with fail
        refine (HTr2.out _).mono ?_
        rintro e w3 ⟨rfl, hb3⟩
        have HB3 := Lib.hid hb3
        clear hb3 HTr2
        have HA3 := Lib.hid (HA.out w3)
        clear HA
        go_wp2_with fail
        refine HA3.out.mono ?_
        rintro e w4 ⟨rfl, hw4⟩
        have HB4 : Hid (Below w.heap.size w w4) := Lib.hid (by
          rcases hw4 with rfl | ⟨t, rfl⟩
          · exact HB3.out
          · exact HB3.out.trans ((Lib.bytesWorld_below w3 _ t).mono HB3.out.size))
        clear hw4
        go_wp2
        go_ret2
        exact LenR.some HF.out HB4.out
      · have h3f : l.all digC = false := by simpa using h3
        rw [if_pos (.inr (.inr h3f))] at hF
        have HF := Lib.hid hF
        have hV1 : ¬ V = [] := by rw [hV]; exact fun h => h3 ((trim_nil l).1 h)
        obtain ⟨T, hT⟩ : ∃ T, T = strB V := ⟨_, rfl⟩
        have hbl : ¬ bl T = [] := by rw [hT, bl_strB']; exact hV1
        obtain ⟨y0, y1, y2⟩ := emF hbl
        have HTr2 : Hid (∀ w', Calls Tryz.prog 45 #[.string S, .string ⟨#[48, 49, 50, 51, 52, 53, 54, 55, 56, 57]⟩] w' (TupOf w' (.string T))) := Lib.hid (by rw [hT]; exact HTr.out)
        clear hTr hS hV hF hz hn h1 h2 h3 h3f hV1 HTr hT hbl
        go_enter Tryz.func43, Tryz.ntmps43
        go_wp2_with fail
        refine (HTr2.out _).mono ?_
        rintro e w3 ⟨rfl, hb3⟩
        have HB3 := Lib.hid hb3
        clear hb3 HTr2
        go_wp2
        go_ret2
        exact LenR.none HF.out HB3.out
end Go.Proofs.YtfffefhchjnfjaaGreatDoor

/- The library's answers that hone asks for: Index, Split, Cut, HasPrefix, Trim. Conditions: the sizes, two of the library's variables. -/
import Derived.Test.YtfffefhchjnfjaaGreatDoorHoPure
import Derived.Test.YtfffefhchjnfjaaGreatDoorShelf
import Derived.Test.YtfffefhchjnfjaaGreatDoorSat
namespace Go.Proofs.YtfffefhchjnfjaaGreatDoor
open Go.RowKit

def IntOf (w : World) (z : Int) (e : Ending) (w' : World) : Prop := e = .returned (.int .i64 z) ∧ Below w.heap.size w w'
/-- a value, and nothing but new memory -/
def TupOf (w : World) (v : Value) (e : Ending) (w' : World) : Prop := e = .returned v ∧ Below w.heap.size w w'
/-- what the library's variables hold -/
structure Tab (w : World) : Prop where
  mx : ∃ m, w.cell? ⟨0, 0, none⟩ = some (.int .i64 m)
  es : ∃ ev, w.cell? ⟨1, 0, none⟩ = some ev ∧ (ev = .nilIface ∨ ∃ te pe, ev = .iface te pe)
theorem Tab.below {w w' : World} (h : Tab w) (hb : Below w.heap.size w w') : Tab w' := by
  obtain ⟨⟨m, hm⟩, ev, he, hv⟩ := h
  exact ⟨⟨m, by rw [hb.cell (World.block_lt_of_cell? _ _ hm)]; exact hm⟩, ev, by rw [hb.cell (World.block_lt_of_cell? _ _ he)]; exact he, hv⟩
theorem index_cutS (p : List UInt8) : ∀ l : List UInt8, Lib.index l p = match cutS p l with | none => -1 | some (x, _) => (x.length : Int)
  | [] => by
    unfold Lib.index cutS
    cases p <;> rfl
  | a :: r => by
    unfold Lib.index cutS
    by_cases h : p.isPrefixOf (a :: r) = true
    · rw [if_pos h, if_pos h]; rfl
    · rw [if_neg h, if_neg h, index_cutS p r]
      cases hc : cutS p r with
      | none => rfl
      | some xr =>
        obtain ⟨x, r'⟩ := xr
        simp only [Option.map_some, List.length_cons]
        rw [if_neg (by simp)]
        push_cast; rfl
theorem cutL_cutS : ∀ l : List UInt8, cutS crS l = cutL l
  | [] => rfl
  | [a] => by
    have e : crS.isPrefixOf [a] = false := by simp [crS, List.isPrefixOf]
    unfold cutS
    rw [e]; rfl
  | a :: b :: r => by
    unfold cutS cutL
    by_cases h : a = 13 ∧ b = 10
    · obtain ⟨rfl, rfl⟩ := h
      rw [if_pos (by simp [crS, List.isPrefixOf]), if_pos ⟨rfl, rfl⟩]; rfl
    · rw [if_neg (by simp [crS, List.isPrefixOf]; intro h1 h2; exact h ⟨h1.symm, h2.symm⟩), if_neg h, cutL_cutS (b :: r)]
def nums (l : List UInt8) : List Int := l.map fun b => (b.toNat : Int)
theorem nums_at (l : List UInt8) (i : Nat) (h : i < l.length) : (nums l).getD i 0 = (l[i].toNat : Int) := by simp [nums, h]
theorem nums_rng (l : List UInt8) : ∀ x ∈ nums l, 0 ≤ x ∧ x < 256 := by
  intro x hx
  simp only [nums, List.mem_map] at hx
  obtain ⟨b, _, rfl⟩ := hx
  have := b.toNat_lt
  omega
theorem nums_bytes (l : List UInt8) : Lib.bytesOf (nums l) = l := by simp [Lib.bytesOf, nums, Function.comp_def]
theorem sl_cells {w : World} {a : Addr} {n c : Nat} {l : List UInt8} (h : Sl w (some a) n c (bv l)) : ∀ i, i < n → w.cell? (a.add i) = some (.int .u8 ((nums l).getD i 0)) := by
  intro i hi
  obtain ⟨b, off, ha, hc⟩ := h.cells (by omega)
  simp only [Option.some.injEq] at ha
  subst ha
  have hl : i < l.length := by rw [h.byte]; exact hi
  rw [addr_add, hc i hi, bv_get l i hl, nums_at l i hl]
theorem index_any (w : World) (ht : Tab w) {a : Option Addr} {n c : Nat} {l : List UInt8} (h : Sl w a n c (bv l)) (hn : n < 4294967281) {b : Addr} {k d : Nat} {p : List UInt8} (h2 : Sl w (some b) k d (bv p)) (hk : 1 ≤ k) :
    Calls Tryz.prog 37 #[.slice a n c, .slice (some b) k d] w (IntOf w (match cutS p l with | none => -1 | some (x, _) => (x.length : Int))) := by
  obtain ⟨m, hm⟩ := ht.mx
  have hl := h.byte
  have hp := h2.byte
  rw [← index_cutS p l]
  cases a with
  | none =>
    have hc0 := h.nil rfl
    have hcl := h.cap_le
    obtain rfl : c = 0 := hc0
    obtain rfl : n = 0 := by omega
    obtain rfl : l = [] := List.eq_nil_of_length_eq_zero hl
    refine (Tryz.bytes_Index_nil (some b) k d w (by have := h2.cap_le; have := h2.cap_max; unfold maxLen at *; omega) (fun h1 => ?_)).mono ?_
    · obtain ⟨b2, o2, hb, hc⟩ := h2.cells (by omega)
      have h0 := hc 0 (by omega)
      rw [bv_get p 0 (by omega)] at h0
      exact ⟨b2, o2, _, hb, by simpa using h0⟩
    · rintro e w' ⟨rfl, rfl⟩
      refine ⟨?_, Below.refl _ _⟩
      rw [if_neg (by omega)]
      unfold Lib.index
      cases p with
      | nil => simp at hp; omega
      | cons x r => rfl
  | some x =>
    refine (Tryz.bytes_Index_at x b n c k d (nums l) (nums p) m w (by simp [nums, hl]) (by simp [nums, hp]) (nums_rng l) (nums_rng p) (sl_cells h) (sl_cells h2) h.cap_le hn (by have := h2.cap_le; have := h2.cap_max; unfold maxLen at *; omega) hm).mono ?_
    rintro e w' ⟨rfl, q, rfl⟩
    rw [nums_bytes, nums_bytes]
    exact ⟨rfl, below_drewN (Below.refl _ _) q⟩
/-- strings.Split at line ends -/
theorem split_eq : ∀ (fuel : Nat) (s : List UInt8), s.length < fuel → Lib.splitB ⟨#[13, 10]⟩ 0 (Lib.countFrom [13, 10] fuel s) (strB s) = (splitG fuel s).map strB ∧ (splitG fuel s).length = Lib.countFrom [13, 10] fuel s + 1
  | 0, s, h => by omega
  | fuel + 1, s, h => by
    have hi := index_cutS crS s
    rw [cutL_cutS] at hi
    have hi' : Lib.index s [13, 10] = match cutL s with | none => -1 | some (x, _) => (x.length : Int) := hi
    unfold Lib.countFrom splitG
    cases hc : cutL s with
    | none =>
      rw [hc] at hi'
      rw [hi']
      exact ⟨rfl, rfl⟩
    | some xr =>
      obtain ⟨x, r⟩ := xr
      rw [hc] at hi'
      simp only at hi'
      have hl := cut_lt hc
      have he := cut_eq hc
      have hdr : s.drop (x.length + 2) = r := by rw [he, ← List.drop_drop, List.drop_left]; rfl
      obtain ⟨i1, i2⟩ := split_eq fuel r (by omega)
      rw [hi', if_neg (by simp), Int.toNat_natCast]
      have e2 : ([13, 10] : List UInt8).length = 2 := rfl
      rw [e2, hdr, Nat.add_comm 1]
      have hB : Lib.indexB (strB s) ⟨#[13, 10]⟩ = (x.length : Int) := by
        show Lib.index (strB s).data.toList [13, 10] = _
        rw [strB_toList]; exact hi'
      refine ⟨?_, by simp only [List.length_cons, i2]⟩
      rw [Lib.splitB, hB, if_neg (by simp), Int.toNat_natCast]
      have x1 : (strB s).extract 0 (x.length + 0) = strB x := by
        apply ByteArray.ext
        rw [he]
        simp [strB, ByteArray.data_extract]
      have x2 : (strB s).extract (x.length + (⟨#[13, 10]⟩ : ByteArray).size) (strB s).size = strB r := by
        have e3 : (⟨#[13, 10]⟩ : ByteArray).size = 2 := rfl
        rw [e3, strB_size]
        apply ByteArray.ext
        have e4 : (s.drop (x.length + 2)).take (s.length - (x.length + 2)) = r := by rw [hdr]; exact List.take_of_length_le (by omega)
        simp [strB, ByteArray.data_extract, e4]
      rw [x1, x2, i1]
      rfl
theorem split2_any (w : World) (ht : Tab w) (s : List UInt8) (hs : s.length < 4294967281) : Calls Tryz.prog 38 #[.string (strB s), .string ⟨#[13, 10]⟩] w fun e w' =>
    ∃ g, g = w.heap.size ∧ e = .returned (.slice (some ⟨g, 0, none⟩) (splitL s).length (splitL s).length) ∧ w' = w.alloc (.cells ((splitL s).map fun x => Value.string (strB x)).toArray 9) := by
  obtain ⟨m, hm⟩ := ht.mx
  refine (Tryz.strings_Split (strB s) ⟨#[13, 10]⟩ m w (by rw [strB_size]; exact hs) hm (by decide)).mono ?_
  rintro e w' ⟨rfl, rfl⟩
  have hcb : Lib.countB (strB s) ⟨#[13, 10]⟩ = Lib.countFrom [13, 10] (s.length + 1) s := by
    show Lib.count (strB s).data.toList [13, 10] = _
    rw [strB_toList]; rfl
  obtain ⟨h1, h2⟩ := split_eq (s.length + 1) s (by omega)
  rw [hcb, h1, ← h2]
  refine ⟨_, rfl, rfl, ?_⟩
  rw [List.map_map]
  rfl
end Go.Proofs.YtfffefhchjnfjaaGreatDoor

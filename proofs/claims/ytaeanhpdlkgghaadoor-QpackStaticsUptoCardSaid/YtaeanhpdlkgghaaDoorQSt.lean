/- strings.Cut at one byte; qpack.Static and the static table. No condition. -/
import Derived.Test.YtaeanhpdlkgghaaDoorSplit
import Derived.Test.YtaeanhpdlkgghaaDoorFldOpen
import Derived.Test.YtaeanhpdlkgghaaDoorNmHex
import Derived.Test.YtaeanhpdlkgghaaDoorMixIn
namespace Go.Proofs.YtaeanhpdlkgghaaDoor
open Go.RowKit Go.Shelf

/-- a text cut at its first byte c -/
def cutAt (c : UInt8) : List UInt8 → Option (List UInt8 × List UInt8)
  | [] => none
  | b :: r => if b = c then some ([], r) else (cutAt c r).map fun p => (b :: p.1, p.2)
theorem cutAt_ix {c : UInt8} : ∀ {l : List UInt8} {i : Nat}, Lib.indexByte l c = (i : Int) → i < l.length ∧ cutAt c l = some (l.take i, l.drop (i + 1))
  | [], i, h => by simp only [Lib.indexByte] at h; omega
  | b :: r, i, h => by
    unfold Lib.indexByte at h
    by_cases hb : b = c
    · subst hb
      simp only [beq_self_eq_true, if_true] at h
      obtain rfl : i = 0 := by omega
      exact ⟨by simp, by simp [cutAt]⟩
    · rw [if_neg (by simpa using hb)] at h
      by_cases h1 : Lib.indexByte r c = -1
      · rw [h1] at h; simp only [beq_self_eq_true, if_true] at h; omega
      · rw [if_neg (by simpa using h1)] at h
        have h0 := Lib.indexByte_ge r c
        obtain ⟨j, rfl⟩ : ∃ j, i = j + 1 := ⟨i - 1, by omega⟩
        have hj : Lib.indexByte r c = (j : Int) := by push_cast at h; omega
        obtain ⟨h2, h3⟩ := cutAt_ix hj
        refine ⟨by simpa using h2, ?_⟩
        rw [cutAt, if_neg hb, h3]; rfl
theorem cutAt_no {c : UInt8} : ∀ {l : List UInt8}, Lib.indexByte l c = -1 → cutAt c l = none
  | [], _ => rfl
  | b :: r, h => by
    have h0 := Lib.indexByte_ge r c
    unfold Lib.indexByte at h
    by_cases hb : b = c
    · subst hb; simp at h
    · rw [if_neg (by simpa using hb)] at h
      by_cases h1 : Lib.indexByte r c = -1
      · rw [cutAt, if_neg hb, cutAt_no h1]; rfl
      · rw [if_neg (by simpa using h1)] at h
        omega
def cutB (l : List UInt8) : List UInt8 × List UInt8 × Bool := match cutAt 32 l with
  | some (a, b) => (a, b, true)
  | none => (l, [], false)
def Ret3B (w : World) (r : List UInt8 × List UInt8 × Bool) (e : Ending) (w' : World) : Prop := e = .returned (.tuple #[.string (strB r.1), .string (strB r.2.1), .bool r.2.2]) ∧ Below w.heap.size w w'
theorem ctj1 {i n : Nat} (h : i < n) (hn : n ≤ 1099511627776) : (0 : Int) ≤ (i : Int) ∧ RowKit.wrap64 ((i : Int) + 1) = ((i + 1 : Nat) : Int) ∧ IntKind.i64.wrap ((i : Int) + 1) = ((i + 1 : Nat) : Int) ∧ (i : Int) ≤ (n : Int) ∧ ((i + 1 : Nat) : Int) ≤ (n : Int) ∧ (0 : Int) ≤ ((i + 1 : Nat) : Int) := by
  rw [IntKind.wrap_i64]; unfold RowKit.wrap64; omega
theorem strB_md (L : List UInt8) (i j : Nat) : (strB L).extract i j = strB ((L.drop i).take (j - i)) := by
  apply ByteArray.ext
  simp [strB, ByteArray.data_extract]
set_option maxRecDepth 100000 in
theorem slcut_any (w : World) (l : List UInt8) (hn : l.length ≤ 1099511627776) : Calls Tryd.prog 47 #[.string (strB l), .string (strB [32])] w (Ret3B w (cutB l)) := by
  have hix := Tryd.stringslite_Index_one (strB l) 32 w
  have e1 : (strB l).data.toList = l := rfl
  rw [e1] at hix
  have hsz : (strB l).size = l.length := strB_size l
  have hz1 : (strB [32]).size = 1 := rfl
  clear e1
  by_cases hx : Lib.indexByte l 32 = -1
  · rw [hx] at hix
    have HIx := Lib.hid hix
    have HE : Hid (cutB l = (l, [], false)) := Lib.hid (by unfold cutB; rw [cutAt_no hx])
    clear hix hx hsz hn
    go_enter Tryd.func47, Tryd.ntmps47
    go_wp2_with fail
    refine HIx.out.mono ?_
    rintro e w' ⟨rfl, rfl⟩
    go_wp2
    go_ret3
    rw [HE.out]
    exact ⟨rfl, Below.refl _ _⟩
  · obtain ⟨i, hi⟩ : ∃ i : Nat, Lib.indexByte l 32 = (i : Int) := ⟨(Lib.indexByte l 32).toNat, by have := Lib.indexByte_ge l 32; omega⟩
    rw [hi] at hix
    obtain ⟨h1, h2⟩ := cutAt_ix hi
    obtain ⟨n, hnl⟩ : ∃ n, n = l.length := ⟨_, rfl⟩
    have HE : Hid (cutB l = (l.take i, l.drop (i + 1), true)) := Lib.hid (by unfold cutB; rw [h2])
    obtain ⟨z1, z2, z3, z4, z5, z6⟩ := ctj1 (i := i) (n := n) (by omega) (by omega)
    have x1 : (strB l).extract 0 i = strB (l.take i) := by rw [strB_md]; simp
    have x2 : (strB l).extract (i + 1) n = strB (l.drop (i + 1)) := by rw [strB_md, List.take_of_length_le (by rw [List.length_drop]; omega)]
    rw [← hnl] at hsz
    have HIx := Lib.hid hix
    clear hix hx hi h1 h2 hnl hn
    go_enter Tryd.func47, Tryd.ntmps47
    go_wp2_with fail
    refine HIx.out.mono ?_
    rintro e w' ⟨rfl, rfl⟩
    go_upto_region 3 with fail
    go_quiet (fail)
    go_wp2
    go_ret3
    rw [HE.out]
    exact ⟨rfl, ⟨rfl, rfl, rfl, Nat.le_refl _, fun _ _ => rfl⟩⟩
set_option maxRecDepth 100000 in
theorem scut_any (w : World) (l : List UInt8) (hn : l.length ≤ 1099511627776) : Calls Tryd.prog 25 #[.string (strB l), .string (strB [32])] w (Ret3B w (cutB l)) := by
  have HC := Lib.hid (slcut_any w l hn)
  obtain ⟨R, hR⟩ : ∃ R, R = cutB l := ⟨_, rfl⟩
  rw [← hR] at HC ⊢
  clear hn hR
  go_enter Tryd.func25, Tryd.ntmps25
  go_wp2_with fail
  refine HC.out.mono ?_
  rintro e w' ⟨rfl, hb⟩
  have HB := Lib.hid hb
  clear hb
  go_wp2
  go_ret3
  exact ⟨rfl, HB.out⟩
def statS : List UInt8 := [58, 97, 117, 116, 104, 111, 114, 105, 116, 121, 10, 58, 112, 97, 116, 104, 32, 47, 10, 99, 111, 110, 116, 101, 110, 116, 45, 108, 101, 110, 103, 116, 104, 32, 48, 10, 100, 97, 116, 101, 10, 101, 116, 97, 103, 10, 108, 97, 115, 116, 45, 109, 111, 100, 105, 102, 105, 101, 100, 10, 108, 111, 99, 97, 116, 105, 111, 110, 10, 115, 101, 116, 45, 99, 111, 111, 107, 105, 101, 10, 58, 109, 101, 116, 104, 111, 100, 32, 67, 79, 78, 78, 69, 67, 84, 10, 58, 109, 101, 116, 104, 111, 100, 32, 68, 69, 76, 69, 84, 69, 10, 58, 109, 101, 116, 104, 111, 100, 32, 71, 69, 84, 10, 58, 109, 101, 116, 104, 111, 100, 32, 72, 69, 65, 68, 10, 58, 109, 101, 116, 104, 111, 100, 32, 79, 80, 84, 73, 79, 78, 83, 10, 58, 109, 101, 116, 104, 111, 100, 32, 80, 79, 83, 84, 10, 58, 109, 101, 116, 104, 111, 100, 32, 80, 85, 84, 10, 58, 115, 99, 104, 101, 109, 101, 32, 104, 116, 116, 112, 10, 58, 115, 99, 104, 101, 109, 101, 32, 104, 116, 116, 112, 115, 10, 58, 115, 116, 97, 116, 117, 115, 32, 49, 48, 51, 10, 58, 115, 116, 97, 116, 117, 115, 32, 50, 48, 48, 10, 58, 115, 116, 97, 116, 117, 115, 32, 51, 48, 52, 10, 58, 115, 116, 97, 116, 117, 115, 32, 52, 48, 52, 10, 58, 115, 116, 97, 116, 117, 115, 32, 53, 48, 51, 10, 97, 99, 99, 101, 112, 116, 32, 42, 47, 42, 10, 97, 99, 99, 101, 112, 116, 45, 101, 110, 99, 111, 100, 105, 110, 103, 32, 103, 122, 105, 112, 10, 99, 97, 99, 104, 101, 45, 99, 111, 110, 116, 114, 111, 108, 32, 110, 111, 45, 99, 97, 99, 104, 101, 10, 99, 111, 110, 116, 101, 110, 116, 45, 116, 121, 112, 101, 32, 116, 101, 120, 116, 47, 104, 116, 109, 108, 10, 99, 111, 110, 116, 101, 110, 116, 45, 116, 121, 112, 101, 32, 97, 112, 112, 108, 105, 99, 97, 116, 105, 111, 110, 47, 106, 115, 111, 110, 10, 99, 111, 110, 116, 101, 110, 116, 45, 116, 121, 112, 101, 32, 116, 101, 120, 116, 47, 112, 108, 97, 105, 110, 10, 99, 111, 110, 116, 101, 110, 116, 45, 101, 110, 99, 111, 100, 105, 110, 103, 32, 103, 122, 105, 112, 10, 118, 97, 114, 121, 32, 97, 99, 99, 101, 112, 116, 45, 101, 110, 99, 111, 100, 105, 110, 103, 10, 58, 115, 116, 97, 116, 117, 115, 32, 49, 48, 48, 10, 58, 115, 116, 97, 116, 117, 115, 32, 50, 48, 52, 10, 58, 115, 116, 97, 116, 117, 115, 32, 52, 48, 48, 10, 58, 115, 116, 97, 116, 117, 115, 32, 53, 48, 48, 10, 58, 115, 116, 97, 116, 117, 115, 32, 53, 48, 50, 10, 58, 115, 116, 97, 116, 117, 115, 32, 53, 48, 52, 10, 115, 101, 114, 118, 101, 114, 10, 117, 115, 101, 114, 45, 97, 103, 101, 110, 116, 10, 120, 45, 102, 111, 114, 119, 97, 114, 100, 101, 100, 45, 102, 111, 114, 10, 118, 105, 97]
def lineF (l : List UInt8) : Fd := ⟨strB (cutB l).1, strB (cutB l).2.1⟩
def stL : List (List UInt8) := cutsL 10 statS
def stF : List Fd := stL.map lineF
def stL' : List (List UInt8) := [[58, 97, 117, 116, 104, 111, 114, 105, 116, 121], [58, 112, 97, 116, 104, 32, 47], [99, 111, 110, 116, 101, 110, 116, 45, 108, 101, 110, 103, 116, 104, 32, 48], [100, 97, 116, 101], [101, 116, 97, 103], [108, 97, 115, 116, 45, 109, 111, 100, 105, 102, 105, 101, 100], [108, 111, 99, 97, 116, 105, 111, 110], [115, 101, 116, 45, 99, 111, 111, 107, 105, 101], [58, 109, 101, 116, 104, 111, 100, 32, 67, 79, 78, 78, 69, 67, 84], [58, 109, 101, 116, 104, 111, 100, 32, 68, 69, 76, 69, 84, 69], [58, 109, 101, 116, 104, 111, 100, 32, 71, 69, 84], [58, 109, 101, 116, 104, 111, 100, 32, 72, 69, 65, 68], [58, 109, 101, 116, 104, 111, 100, 32, 79, 80, 84, 73, 79, 78, 83], [58, 109, 101, 116, 104, 111, 100, 32, 80, 79, 83, 84], [58, 109, 101, 116, 104, 111, 100, 32, 80, 85, 84], [58, 115, 99, 104, 101, 109, 101, 32, 104, 116, 116, 112], [58, 115, 99, 104, 101, 109, 101, 32, 104, 116, 116, 112, 115], [58, 115, 116, 97, 116, 117, 115, 32, 49, 48, 51], [58, 115, 116, 97, 116, 117, 115, 32, 50, 48, 48], [58, 115, 116, 97, 116, 117, 115, 32, 51, 48, 52], [58, 115, 116, 97, 116, 117, 115, 32, 52, 48, 52], [58, 115, 116, 97, 116, 117, 115, 32, 53, 48, 51], [97, 99, 99, 101, 112, 116, 32, 42, 47, 42], [97, 99, 99, 101, 112, 116, 45, 101, 110, 99, 111, 100, 105, 110, 103, 32, 103, 122, 105, 112], [99, 97, 99, 104, 101, 45, 99, 111, 110, 116, 114, 111, 108, 32, 110, 111, 45, 99, 97, 99, 104, 101], [99, 111, 110, 116, 101, 110, 116, 45, 116, 121, 112, 101, 32, 116, 101, 120, 116, 47, 104, 116, 109, 108], [99, 111, 110, 116, 101, 110, 116, 45, 116, 121, 112, 101, 32, 97, 112, 112, 108, 105, 99, 97, 116, 105, 111, 110, 47, 106, 115, 111, 110], [99, 111, 110, 116, 101, 110, 116, 45, 116, 121, 112, 101, 32, 116, 101, 120, 116, 47, 112, 108, 97, 105, 110], [99, 111, 110, 116, 101, 110, 116, 45, 101, 110, 99, 111, 100, 105, 110, 103, 32, 103, 122, 105, 112], [118, 97, 114, 121, 32, 97, 99, 99, 101, 112, 116, 45, 101, 110, 99, 111, 100, 105, 110, 103], [58, 115, 116, 97, 116, 117, 115, 32, 49, 48, 48], [58, 115, 116, 97, 116, 117, 115, 32, 50, 48, 52], [58, 115, 116, 97, 116, 117, 115, 32, 52, 48, 48], [58, 115, 116, 97, 116, 117, 115, 32, 53, 48, 48], [58, 115, 116, 97, 116, 117, 115, 32, 53, 48, 50], [58, 115, 116, 97, 116, 117, 115, 32, 53, 48, 52], [115, 101, 114, 118, 101, 114], [117, 115, 101, 114, 45, 97, 103, 101, 110, 116], [120, 45, 102, 111, 114, 119, 97, 114, 100, 101, 100, 45, 102, 111, 114], [118, 105, 97]]
theorem stL_eq : stL = stL' := by kernel_rfl
theorem stL_len : stL.length = 40 := by rw [stL_eq]; rfl
theorem stF_len : stF.length = 40 := by unfold stF; rw [List.length_map, stL_len]
theorem stL_small : ∀ l ∈ stL, l.length ≤ 40 := by rw [stL_eq]; decide
/-- what Static answers -/
def staticV (n : Int) : Fd × Bool := if n < 0 then (⟨⟨#[]⟩, ⟨#[]⟩⟩, false) else match stF[n.toNat]? with
  | some f => (f, true)
  | none => (⟨⟨#[]⟩, ⟨#[]⟩⟩, false)
def StatR (w : World) (r : Fd × Bool) (e : Ending) (w' : World) : Prop := e = .returned (.tuple #[.agg #[.string r.1.nm, .string r.1.va], .bool r.2]) ∧ Below w.heap.size w w'

attribute [local go_sem] Oper.semAt_some

/-! ### marks of ranges over functions that a loop leaves behind -/
def mkD (D : Nat) : Deferred := { target := .collected D, args := #[] }
/-- the marks' blocks: shut lists, each its own -/
def Marks (B : Nat) (Ds : List Nat) (W : World) : Prop := Ds.Nodup ∧ ∀ D ∈ Ds, B ≤ D ∧ W.heap[D]? = some (.deferred (some []))
theorem Marks.kept {B : Nat} {Ds : List Nat} {X : Nat → Prop} {W W' : World} (h : Marks B Ds W) (hk : Kept X W W') (hX : ∀ D ∈ Ds, ¬ X D) : Marks B Ds W' :=
  ⟨h.1, fun D hD => ⟨(h.2 D hD).1, by rw [hk.block D (Array.getElem?_eq_some_iff.1 (h.2 D hD).2).1 (hX D hD)]; exact (h.2 D hD).2⟩⟩
theorem Marks.below {B : Nat} {Ds : List Nat} {W W' : World} (h : Marks B Ds W) (hb : Below W.heap.size W W') : Marks B Ds W' := h.kept (Kept.of_below (X := none') hb) (fun _ _ h => h)
theorem Marks.lt {B : Nat} {Ds : List Nat} {W : World} (h : Marks B Ds W) : ∀ D ∈ Ds, D < W.heap.size := fun D hD => (Array.getElem?_eq_some_iff.1 (h.2 D hD).2).1
theorem Marks.cells {B : Nat} {Ds : List Nat} {W : World} (h : Marks B Ds W) {k : Nat} (hk : ∃ c t z, W.heap[k]? = some (.cells c t z)) : ∀ D ∈ Ds, D ≠ k := by
  rintro D hD rfl
  obtain ⟨c, t, z, hc⟩ := hk
  rw [(h.2 D hD).2] at hc
  cases hc
theorem leave_marks {F : Fence} {n : Nat} {P : Program} {fn : Func} {tmps : Array Value} {R : Ending → World → Prop} {B : Nat} (St : World → Prop) (hst : ∀ W D o, St W → W.heap[D]? = some (.deferred o) → B ≤ D → St (W.putObj D (.deferred none)))
    (h0 : ∀ W, St W → LeavesInM F n P fn tmps R [] .returning W) : ∀ (Ds : List Nat) (W : World), Marks B Ds W → St W → LeavesInM F n P fn tmps R (Ds.map mkD) .returning W
  | [], W, _, hs => h0 W hs
  | D :: Ds, W, hm, hs => by
    have h1 := hm.2 D (by simp)
    have hnd := List.nodup_cons.1 hm.1
    refine ⟨by simp, .inl ⟨_, _, rfl, run_takeDeferred h1.2, ?_⟩⟩
    refine leave_marks St hst h0 Ds _ ⟨hnd.2, fun E hE => ⟨(hm.2 E (by simp [hE])).1, ?_⟩⟩ (hst W D _ hs h1.2 h1.1)
    have hne : E ≠ D := fun e => hnd.1 (e ▸ hE)
    rw [World.putObj_heap_other (by omega)]
    exact (hm.2 E (by simp [hE])).2
theorem keepsF {X : Nat → Prop} {B : Nat} {W W' : World} (h : Kept X W W') (hX : ∀ k, X k → ∃ c t z, W.heap[k]? = some (.cells c t z)) : KeepsFrom B W W' :=
  ⟨h.size, fun k o _ hk ho => by
    rw [h.block k (Array.getElem?_eq_some_iff.1 hk).1 (fun hx => by
      obtain ⟨c, t, z, hc⟩ := hX k hx
      rw [hc] at hk
      cases hk
      cases ho)]
    exact hk⟩

theorem kps_below {B : Nat} {W W' : World} (h : Below W.heap.size W W') (hB : B + 3 ≤ W.heap.size) : KpS B W W' := fun k _ h2 => h.block k (by omega)
theorem kf_below {B : Nat} {W W' : World} (h : Below W.heap.size W W') : KeepsFrom B W W' := ⟨h.size, fun k o _ hk _ => by rw [h.block k (Array.getElem?_eq_some_iff.1 hk).1]; exact hk⟩
theorem kf_mono {B B' : Nat} {W W' : World} (h : KeepsFrom B W W') (hB : B ≤ B') : KeepsFrom B' W W' := ⟨h.size, fun k o hk => h.same k o (Nat.le_trans hB hk)⟩

theorem Has.rangeAt {w : World} {b : Nat} {t : TypeId} {vs : List Value} (h : Has w b t vs) : w.rangeAt b 0 vs := fun j v hv => by rw [Nat.zero_add]; exact h.cell j hv
theorem infoFd : (Tryd.prog.info? 23).map (·.size) = some 2 := by kernel_rfl
theorem run_load_fd {w : World} {b : Nat} {nm va : ByteArray} (hH : Has w b 23 [.string nm, .string va]) : (loadVar 23 ⟨b, 0, none⟩).run Tryd.prog w = .ok (.agg #[.string nm, .string va]) w :=
  run_loadVar_mid (P := Tryd.prog) w b 0 23 [.string nm, .string va] _ hH.rangeAt Tryd.underlying23 rfl (by rw [infoFd]; rfl)
theorem run_load_b {w : World} {b : Nat} {v : Bool} (hH : Has w b 4 [.bool v]) : (loadVar 4 ⟨b, 0, none⟩).run Tryd.prog w = .ok (.bool v) w := by
  have hc := hH.cell 0 rfl
  simp [go_sem, Tryd.isAgg4, hc, loadVar]
theorem results_fk {fn : Func} {c d : Tmp} (h : fn.results = #[.cell c 23, .cell d 4]) (tmps : Array Value) {w : World} {b e : Nat} {nm va : ByteArray} {v : Bool} (hc : tmps.getD c undef = .pointer (some ⟨b, 0, none⟩)) (hd : tmps.getD d undef = .pointer (some ⟨e, 0, none⟩)) (hH : Has w b 23 [.string nm, .string va]) (hK : Has w e 4 [.bool v]) :
    (results fn tmps).run Tryd.prog w = .ok (.tuple #[.agg #[.string nm, .string va], .bool v]) w := by
  have hr := run_load_fd hH
  have hr2 := run_load_b hK
  simp only [results, h]
  simp only [Array.getD_eq_getD_getElem?] at hc hd ⊢
  simp [hc, hd, asAddr, hr, hr2]
theorem results_ft {fn : Func} {c d : Tmp} (h : fn.results = #[.cell c 23, .tmp d]) (tmps : Array Value) {w : World} {b : Nat} {nm va : ByteArray} (hc : tmps.getD c undef = .pointer (some ⟨b, 0, none⟩)) (hH : Has w b 23 [.string nm, .string va]) :
    (results fn tmps).run Tryd.prog w = .ok (.tuple #[.agg #[.string nm, .string va], tmps.getD d undef]) w := by
  have hr := run_load_fd hH
  simp only [results, h]
  simp only [Array.getD_eq_getD_getElem?] at hc ⊢
  simp [hc, asAddr, hr]
theorem has_grown {W W' : World} {row : Option Nat} {g t : Nat} {vs : List Value} (h : Has W g t vs) (hg : W.grownBy W' row) (hr : ∀ r, row = some r → ∃ o : Obj, W.heap[r]? = some o ∧ o.isCells = false) : Has W' g t vs := by
  refine h.kept (Kept.of_grown hg) (fun e => ?_)
  obtain ⟨o, h1, h2⟩ := hr g e
  unfold Has at h
  rw [h] at h1
  cases h1
  cases h2
/-- within the range: so many lines are behind, none was the one -/
structure SI (w : World) (gn gf gk Bs m : Nat) (pre : List (List UInt8)) (W : World) : Prop where
  le : pre.length ≤ m
  n : Has W gn 3 [.int .i64 ((m - pre.length : Nat) : Int)]
  f : Has W gf 23 [.string ⟨#[]⟩, .string ⟨#[]⟩]
  k : Has W gk 4 [.bool false]
  bel : Below w.heap.size w W
  sz : Bs + 3 ≤ W.heap.size
/-- the line was found -/
structure SX (w : World) (gf gk m : Nat) (pre : List (List UInt8)) (W : World) : Prop where
  at_ : ∃ p x, pre = p ++ [x] ∧ p.length = m ∧ Has W gf 23 [.string (strB (cutB x).1), .string (strB (cutB x).2.1)]
  k : Has W gk 4 [.bool true]
  bel : Below w.heap.size w W
/-- the way out, over marks: a field and a truth in cells -/
theorem leave_fk {F : Fence} {n : Nat} {fn : Func} {tmps : Array Value} {w : World} {c d gf gk : Nat} {nm va : ByteArray} {v : Bool} {R : Fd × Bool} (hR : R = (⟨nm, va⟩, v)) (h : fn.results = #[.cell c 23, .cell d 4]) (hc : tmps.getD c undef = .pointer (some ⟨gf, 0, none⟩)) (hd : tmps.getD d undef = .pointer (some ⟨gk, 0, none⟩))
    {Ds : List Nat} {W : World} (hm : Marks w.heap.size Ds W) (hf : Has W gf 23 [.string nm, .string va]) (hk : Has W gk 4 [.bool v]) (hb : Below w.heap.size w W) : LeavesInM F n Tryd.prog fn tmps (StatR w R) (Ds.map mkD) .returning W := by
  refine leave_marks (B := w.heap.size) (fun W => Has W gf 23 [.string nm, .string va] ∧ Has W gk 4 [.bool v] ∧ Below w.heap.size w W) ?_ ?_ Ds W hm ⟨hf, hk, hb⟩
  · rintro W D o ⟨h1, h2, h3⟩ hD hB
    have hg := grownBy_putObj' W D (.deferred none)
    have hr : ∀ r, some D = some r → ∃ o : Obj, W.heap[r]? = some o ∧ o.isCells = false := fun r e => by cases e; exact ⟨_, hD, rfl⟩
    exact ⟨has_grown h1 hg hr, has_grown h2 hg hr, h3.trans ((Kept.of_grown hg).below h3.size (fun k e => by cases e; exact hB))⟩
  · rintro W ⟨h1, h2, h3⟩
    exact ⟨_, results_fk h _ hc hd h1 h2, by rw [hR]; exact ⟨rfl, h3⟩⟩
theorem sij1 {q : Nat} (h : 0 < q) (hq : q ≤ 9223372036854775807) : ((q : Int) == 0) = false ∧ ¬ (q : Int) = 0 ∧ IntKind.i64.wrap ((q : Int) - 1) = ((q - 1 : Nat) : Int) ∧ RowKit.wrap64 ((q : Int) - 1) = ((q - 1 : Nat) : Int) := by
  refine ⟨by rw [beq_eq_false_iff_ne]; omega, by omega, ?_, ?_⟩
  · rw [IntKind.wrap_i64]; omega
  · unfold RowKit.wrap64; omega
set_option maxRecDepth 100000 in
set_option maxHeartbeats 4000000 in
theorem static_any (w : World) (n : Int) (hlo : -9223372036854775808 ≤ n) (hhi : n ≤ 9223372036854775807) : Calls Tryd.prog 7 #[.int .i64 n] w (StatR w (staticV n)) := by
  obtain ⟨R, hR⟩ : ∃ R, R = staticV n := ⟨_, rfl⟩
  rw [← hR]
  obtain ⟨w1, hw1⟩ : ∃ w1, w1 = ((w.alloc (.cells #[.int .i64 n] 3)).alloc (.cells #[.string ⟨#[]⟩, .string ⟨#[]⟩] 23)).alloc (.cells #[.bool false] 4) := ⟨_, rfl⟩
  obtain ⟨gn, hgn⟩ : ∃ gn, gn = w.heap.size := ⟨_, rfl⟩
  obtain ⟨gf, hgf⟩ : ∃ gf, gf = w.heap.size + 1 := ⟨_, rfl⟩
  obtain ⟨gk, hgk⟩ : ∃ gk, gk = w.heap.size + 1 + 1 := ⟨_, rfl⟩
  have h1 : Has w1 gn 3 [.int .i64 n] := by rw [hw1, hgn]; exact ((Has.new w 3 #[.int .i64 n]).kept (Kept.alloc none' _ _) (fun h => h)).kept (Kept.alloc none' _ _) (fun h => h)
  have h2 : Has w1 gf 23 [.string ⟨#[]⟩, .string ⟨#[]⟩] := by
    have := Has.new (w.alloc (.cells #[.int .i64 n] 3)) 23 #[.string ⟨#[]⟩, .string ⟨#[]⟩]
    rw [World.size_alloc, ← hgf] at this
    rw [hw1]; exact this.kept (Kept.alloc none' _ _) (fun h => h)
  have h3 : Has w1 gk 4 [.bool false] := by
    have := Has.new ((w.alloc (.cells #[.int .i64 n] 3)).alloc (.cells #[.string ⟨#[]⟩, .string ⟨#[]⟩] 23)) 4 #[.bool false]
    rw [World.size_alloc, World.size_alloc, ← hgk] at this
    rw [hw1]; exact this
  have hb1 : Below w.heap.size w w1 := by rw [hw1]; exact (((Below.refl _ w).alloc (Nat.le_refl _) _).alloc (by simp) _).alloc (by simp; omega) _
  have HB1 := Lib.hid hb1
  have HG : Hid (gn = w.heap.size ∧ gf = w.heap.size + 1 ∧ gk = w.heap.size + 1 + 1) := Lib.hid ⟨hgn, hgf, hgk⟩
  have H1 := Lib.hid h1
  have H2 := Lib.hid h2
  have H3 := Lib.hid h3
  have c1 := h1.cell 0 rfl
  clear hb1 h1 h2 h3
  by_cases hneg : n < 0
  · have y1 : (n < 0) = True := eq_true hneg
    have HE : Hid (R = (⟨⟨#[]⟩, ⟨#[]⟩⟩, false)) := Lib.hid (by rw [hR]; unfold staticV; rw [if_pos hneg])
    clear hlo hhi hR hneg
    go_enter Tryd.func7, Tryd.ntmps7
    go_upto_region 1 with fail
    rw [← hw1, ← hgk, ← hgf, ← hgn]
    clear hw1 hgk hgf hgn
    have c2 := H2.out.cell 0 rfl
    have c2b := H2.out.cell 1 rfl
    have c3 := H3.out.cell 0 rfl
    have f2 := H2.out.free 0
    have f2b := H2.out.free 1
    have f3 := H3.out.free 0
    have e1 : ¬ gk = gf := by have := HG.out; omega
    have e2 : ¬ gf = gk := by have := HG.out; omega
    go_wp2_with fail
    refine bodyPost_ret (results_fk rfl _ rfl rfl (((H2.out.set 0 (.string ⟨#[]⟩)).set 1 (.string ⟨#[]⟩)).kept (Kept.set _ gk 0 (.bool false)) e2) ((((H3.out.kept (Kept.set _ gf 0 _) e1).kept (Kept.set _ gf 1 _) e1).set 0 (.bool false)))) rfl ?_
    rw [HE.out]
    refine ⟨rfl, ?_⟩
    have hg := HG.out
    exact ((HB1.out.setCell (p := ⟨gf, 0, none⟩) (by show w.heap.size ≤ gf; omega) _).setCell (p := ⟨gf, 1, none⟩) (by show w.heap.size ≤ gf; omega) _).setCell (p := ⟨gk, 0, none⟩) (by show w.heap.size ≤ gk; omega) _
  · obtain ⟨m, rfl⟩ : ∃ m : Nat, n = (m : Int) := ⟨n.toNat, by omega⟩
    have y1 : ((m : Int) < 0) = False := eq_false hneg
    have HR : Hid (R = match stF[m]? with | some f => (f, true) | none => (⟨⟨#[]⟩, ⟨#[]⟩⟩, false)) := Lib.hid (by rw [hR]; unfold staticV; rw [if_neg hneg]; rfl)
    have HMx : Hid (m ≤ 9223372036854775807) := Lib.hid (by omega)
    have HSp := Lib.hid (split_any w1 statS 10)
    clear hlo hhi hR hneg
    refine (callsIn_wide (n := 3)).1 ?_
    refine callsIn_of_wp_marks Tryd.func7 rfl trivial ?_ rfl
    simp only [Tryd.ntmps7, List.size_toArray, List.length_cons, List.length_nil, Nat.reduceAdd, Nat.reduceSub, Array.replicate_succ, Array.replicate_zero, List.push_toArray, List.append_toArray, List.nil_append, List.cons_append]
    refine wpIn_wide.2 ?_
    go_upto_region 1 with fail
    rw [← hw1, ← hgk, ← hgf, ← hgn]
    clear hw1 hgk hgf hgn
    go_wp2_with fail
    refine HSp.out.mono ?_
    rintro e w4 ⟨rfl, hw4⟩
    obtain ⟨b0, b1, b2, hsz4, hb4⟩ := splitsB w1 statS 10 (w2 := w4) hw4
    obtain ⟨Bs, hBs⟩ : ∃ Bs, Bs = w1.heap.size := ⟨_, rfl⟩
    rw [← hBs] at b0 b1 b2 hsz4
    rw [← hBs]
    have HB0 := Lib.hid b0
    have HB1' := Lib.hid b1
    have HB2 := Lib.hid b2
    have HSz := Lib.hid hsz4
    have HBsE := Lib.hid hBs
    have HB4 : Hid (Below w.heap.size w w4) := Lib.hid (HB1.out.trans (hb4.mono HB1.out.size))
    have K1 : Hid (Has w4 gn 3 [.int .i64 (m : Int)]) := Lib.hid (H1.out.kept (Kept.of_below (X := none') hb4) (fun h => h))
    have K2 : Hid (Has w4 gf 23 [.string ⟨#[]⟩, .string ⟨#[]⟩]) := Lib.hid (H2.out.kept (Kept.of_below (X := none') hb4) (fun h => h))
    have K3 : Hid (Has w4 gk 4 [.bool false]) := Lib.hid (H3.out.kept (Kept.of_below (X := none') hb4) (fun h => h))
    have HLt : Hid (gn < Bs ∧ gf < Bs ∧ gk < Bs) := Lib.hid (by rw [hBs]; exact ⟨H1.out.lt, H2.out.lt, H3.out.lt⟩)
    have hBlt : Bs < w4.heap.size := by rw [hsz4]; omega
    have hSI0 : SI w gn gf gk Bs m [] w4 := ⟨Nat.zero_le _, K1.out, K2.out, K3.out, HB4.out, by rw [hsz4]; exact Nat.le_refl _⟩
    clear hw4 b0 b1 b2 hsz4 hb4 hBs c1 y1
    go_wp2_with fail
    refine (wpIn_wide (n := 3)).1 ?_
    refine wpIn_rangeFunc_box rfl (by decide) (gf := 65) (lb := #[.pointer (some ⟨Bs + 1, 0, none⟩), .pointer (some ⟨Bs, 0, none⟩), .pointer (some ⟨Bs + 2, 0, none⟩)]) rfl trivial (enters_of Tryd.func65 (by kernel_rfl) rfl)
      (split_stops _ Bs 10 statS ?hlen w4 HB0.out HB1'.out HB2.out) hBlt (fun h k => h.tr k) ?hkb (Below.refl _ _) (fun _ => rfl)
      (fun pre W => SI w gn gf gk Bs m pre W) (fun c pre W => c = .ret ∧ SX w gf gk m pre W) ?own ?ownx ?set
      hSI0
      (fun x => { tmps := #[.int .i64 (m : Int), .pointer (some ⟨gn, 0, none⟩), .pointer (some ⟨gf, 0, none⟩), .pointer (some ⟨gk, 0, none⟩), .string (strB x), .int .i64 (m : Int), .bool false, undef, .func (.func 65) #[] #[.pointer (some ⟨Bs + 1, 0, none⟩), .pointer (some ⟨Bs, 0, none⟩), .pointer (some ⟨Bs + 2, 0, none⟩)], .string (strB x), undef, undef, undef, undef, undef, undef, undef, undef, undef, undef, undef, undef, undef, undef], defers := [] }) ?assign ?body ?done ?stop
    case hlen => decide
    case hkb =>
      intro W l o o' hl h hc hw k h1 h2
      exact World.putObj_heap_other (by rw [HSz.out] at hl; omega)
    case own =>
      rintro pre W W' row h hg hr
      have hr' : ∀ r, row = some r → ∃ o : Obj, W.heap[r]? = some o ∧ o.isCells = false := fun r e => (hr r e).2
      refine ⟨h.le, has_grown h.n hg hr', has_grown h.f hg hr', has_grown h.k hg hr', h.bel.trans ((Kept.of_grown hg).below h.bel.size (fun k e => ?_)), Nat.le_trans h.sz hg.size⟩
      have h1 := (hr k e).1
      have h2 := HB4.out.size
      omega
    case ownx =>
      rintro c pre W W' row ⟨hc, h⟩ hg hr
      have hr' : ∀ r, row = some r → ∃ o : Obj, W.heap[r]? = some o ∧ o.isCells = false := fun r e => (hr r e).2
      obtain ⟨p, x, h1, h2, h3⟩ := h.at_
      refine ⟨hc, ⟨p, x, h1, h2, has_grown h3 hg hr'⟩, has_grown h.k hg hr', h.bel.trans ((Kept.of_grown hg).below h.bel.size (fun k e => ?_))⟩
      have h1 := (hr k e).1
      have h2 := HB4.out.size
      omega
    case set =>
      rintro pre W v h
      have hl := HLt.out
      have hk := Kept.set W Bs 0 v
      refine ⟨h.le, h.n.kept hk (by show ¬ gn = Bs; omega), h.f.kept hk (by show ¬ gf = Bs; omega), h.k.kept hk (by show ¬ gk = Bs; omega), h.bel.trans (hk.below h.bel.size (fun k e => ?_)), Nat.le_trans h.sz hk.size⟩
      rw [e, HBsE.out]
      exact HB1.out.size
    case assign =>
      intro l x W K hK
      gi_wp2
      exact hK
    case body =>
      rintro l pre x rest W hLp hI
      have HI := Lib.hid hI
      have HXl : Hid (x.length ≤ 40) := Lib.hid (stL_small x (by show x ∈ cutsL 10 statS; rw [hLp]; simp))
      obtain ⟨q, hq⟩ : ∃ q, q = m - pre.length := ⟨_, rfl⟩
      have c1 : W.cell? ⟨gn, 0, none⟩ = some (.int .i64 (q : Int)) := by rw [hq]; exact hI.n.cell 0 rfl
      have HQ := Lib.hid hq
      clear hI hLp hSI0 hBlt hq
      refine wpIn_block ?_
      by_cases h0 : q = 0
      · have HP : Hid (pre.length = m) := Lib.hid (by have h1 := HI.out.le; have h2 := HQ.out; omega)
        subst h0
        have HCt := Lib.hid (scut_any W x (Nat.le_trans HXl.out (by decide)))
        gi_wp2
        refine ⟨trivial, CallsIn.inRound _ (callsIn_wide.2 (HCt.out.mono ?_))⟩
        rintro e w5 ⟨rfl, hb5⟩
        dsimp only
        have g1 : Has w5 gn 3 [.int .i64 ((m - pre.length : Nat) : Int)] := HI.out.n.kept (Kept.of_below (X := none') hb5) (fun h => h)
        have g2 : Has w5 gf 23 [.string ⟨#[]⟩, .string ⟨#[]⟩] := HI.out.f.kept (Kept.of_below (X := none') hb5) (fun h => h)
        have g3 : Has w5 gk 4 [.bool false] := HI.out.k.kept (Kept.of_below (X := none') hb5) (fun h => h)
        have HG2 := Lib.hid g2
        have HG3 := Lib.hid g3
        have HB5 := Lib.hid hb5
        have d2 := g2.cell 0 rfl
        have d2b := g2.cell 1 rfl
        have d3 := g3.cell 0 rfl
        have f2 := g2.free 0
        have f2b := g2.free 1
        have f3 := g3.free 0
        have e1 : ¬ gk = gf := by have := HG.out; omega
        have e2 : ¬ gf = gk := by have := HG.out; omega
        obtain ⟨A, hA⟩ : ∃ A, A = strB (cutB x).1 := ⟨_, rfl⟩
        obtain ⟨B, hB⟩ : ∃ B, B = strB (cutB x).2.1 := ⟨_, rfl⟩
        rw [← hA, ← hB]
        have HAB := Lib.hid (And.intro hA hB)
        clear hA hB hb5 g1 g2 g3 c1
        gi_wp2
        have hg := HG.out
        have X1 : Kept (fun k => k = gf ∨ k = gk) W w5 := Kept.of_below HB5.out
        have X2 := ((((X1.trans (Kept.set w5 gf 0 (.string A)) (fun _ _ e => .inl e)).trans (Kept.set _ gf 1 (.string B)) (fun _ _ e => .inl e)).trans (Kept.set _ gf 0 (.string A)) (fun _ _ e => .inl e)).trans (Kept.set _ gf 1 (.string B)) (fun _ _ e => .inl e)).trans (Kept.set _ gk 0 (.bool true)) (fun _ _ e => .inr e)
        refine ⟨keepsF X2 (fun k e => ?_), rfl, ⟨pre, x, rfl, HP.out, ?_⟩, ?_, HI.out.bel.trans (X2.below HI.out.bel.size (fun k e => by omega))⟩
        · rcases e with rfl | rfl
          · exact ⟨_, _, _, HI.out.f⟩
          · exact ⟨_, _, _, HI.out.k⟩
        · rw [← HAB.out.1, ← HAB.out.2]
          exact ((((HG2.out.set 0 (.string A)).set 1 (.string B)).set 0 (.string A)).set 1 (.string B)).kept (Kept.set _ gk 0 _) e2
        · exact ((((HG3.out.kept (Kept.set _ gf 0 _) e1).kept (Kept.set _ gf 1 _) e1).kept (Kept.set _ gf 0 _) e1).kept (Kept.set _ gf 1 _) e1).set 0 (.bool true)
      · have hm := HMx.out
        obtain ⟨y1, y2, y3, y4⟩ := sij1 (q := q) (by omega) (by have := HQ.out; omega)
        have f1 := HI.out.n.free 0
        clear hm h0
        gi_wp2
        have hg := HG.out
        have hl := HLt.out
        have hk := Kept.set W gn 0 (.int .i64 ((q - 1 : Nat) : Int))
        have hle := HI.out.le
        have hq := HQ.out
        refine ⟨keepsF hk (fun k e => ?_), fun k h1 h2 => hk.block k (by have := HI.out.sz; omega) (by show ¬ k = gn; omega), ?_, ?_, HI.out.f.kept hk (by show ¬ gf = gn; omega), HI.out.k.kept hk (by show ¬ gk = gn; omega), HI.out.bel.trans (hk.below HI.out.bel.size (fun k e => ?_)), Nat.le_trans HI.out.sz hk.size⟩
        · rw [e]; exact ⟨_, _, _, HI.out.n⟩
        · rw [List.length_append, List.length_singleton]; omega
        · have h1 := HI.out.n.set 0 (.int .i64 ((q - 1 : Nat) : Int))
          rw [show m - (pre ++ [x]).length = q - 1 by rw [List.length_append, List.length_singleton]; omega]
          exact h1
        · rw [e]; omega
    case done =>
      rintro D W hD hI hK
      have HMk : Hid (Marks w.heap.size [D] W) := Lib.hid ⟨by simp, fun E hE => by
        rw [List.mem_singleton.1 hE]
        exact ⟨Nat.le_trans HB4.out.size hD, hK⟩⟩
      have HE : Hid (R = (⟨⟨#[]⟩, ⟨#[]⟩⟩, false)) := Lib.hid (by
        have h1 : (cutsL 10 statS).length ≤ m := hI.le
        have h2 : (cutsL 10 statS).length = 40 := stL_len
        rw [HR.out, List.getElem?_eq_none (by rw [stF_len]; omega)])
      have HI := Lib.hid hI
      have d2 := hI.f.cell 0 rfl
      have d2b := hI.f.cell 1 rfl
      have d3 := hI.k.cell 0 rfl
      have f2 := hI.f.free 0
      have f2b := hI.f.free 1
      have f3 := hI.k.free 0
      have e1 : ¬ gk = gf := by have := HG.out; omega
      have e2 : ¬ gf = gk := by have := HG.out; omega
      clear hI hD hK hSI0 hBlt
      go_wp2_with fail
      have hg := HG.out
      have X2 := ((Kept.set W gf 0 (.string ⟨#[]⟩)).trans (Kept.set _ gf 1 (.string ⟨#[]⟩)) (fun _ _ e => e)).more (Y := fun k => k = gf ∨ k = gk) (fun _ _ e => .inl e) |>.trans (Kept.set _ gk 0 (.bool false)) (fun _ _ e => .inr e)
      refine leave_fk (Ds := [D]) HE.out rfl rfl rfl (HMk.out.kept X2 (fun E hE e => ?_)) (((HI.out.f.set 0 _).set 1 _).kept (Kept.set _ gk 0 _) e2) (((HI.out.k.kept (Kept.set _ gf 0 _) e1).kept (Kept.set _ gf 1 _) e1).set 0 _) (HI.out.bel.trans (X2.below HI.out.bel.size (fun k e => by omega)))
      have h1 : ∃ c t z, W.heap[E]? = some (.cells c t z) := by
        rcases e with rfl | rfl
        · exact ⟨_, _, _, HI.out.f⟩
        · exact ⟨_, _, _, HI.out.k⟩
      exact HMk.out.cells h1 E hE rfl
    case stop =>
      rintro D c pre x rest W hD hLp ⟨rfl, hX⟩ hK
      have HMk : Marks w.heap.size [D] W := ⟨by simp, fun E hE => by
        rw [List.mem_singleton.1 hE]
        exact ⟨Nat.le_trans HB4.out.size hD, hK⟩⟩
      obtain ⟨p, y, h1, h2, h3⟩ := hX.at_
      obtain ⟨rfl, h4⟩ := List.append_inj' h1 rfl
      obtain rfl : x = y := by simpa using h4
      have hL : stL[m]? = some x := by
        show (cutsL 10 statS)[m]? = some x
        rw [hLp, ← h2, List.getElem?_append_right (Nat.le_refl _)]
        simp
      have HE : Hid (R = (⟨strB (cutB x).1, strB (cutB x).2.1⟩, true)) := Lib.hid (by
        have h5 : stF[m]? = some (lineF x) := by unfold stF; rw [List.getElem?_map, hL]; rfl
        rw [HR.out, h5]; rfl)
      clear hL h2 hLp
      gi_wp2
      exact leave_fk (Ds := [D]) HE.out rfl rfl rfl HMk h3 hX.k hX.bel

end Go.Proofs.YtaeanhpdlkgghaaDoor

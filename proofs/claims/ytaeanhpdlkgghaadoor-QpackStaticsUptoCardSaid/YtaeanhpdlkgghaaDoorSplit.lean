/- Contract of strings.SplitSeq at a separator of one byte. No condition. -/
import Derived.Test.YtaeanhpdlkgghaaDoorSeqBox
import Derived.Test.YtaeanhpdlkgghaaDoorShelf
import Derived.Lib.IndexLaws
namespace Go.Proofs.YtaeanhpdlkgghaaDoor
open Go.RowKit Go.Shelf

attribute [local go_sem] Oper.semAt_some

/-- a text cut at each c -/
def cutsL (c : UInt8) : List UInt8 → List (List UInt8)
  | [] => [[]]
  | b :: r => if b = c then [] :: cutsL c r else match cutsL c r with
    | [] => [[b]]
    | p :: ps => (b :: p) :: ps
theorem cuts_ne (c : UInt8) : ∀ l, cutsL c l ≠ []
  | [] => by simp [cutsL]
  | b :: r => by
    unfold cutsL
    split
    · simp
    · split <;> simp
theorem cuts_none {c : UInt8} : ∀ {l : List UInt8}, Lib.indexByte l c = -1 → cutsL c l = [l]
  | [], _ => rfl
  | b :: r, h => by
    have h0 := Lib.indexByte_ge r c
    unfold Lib.indexByte at h
    unfold cutsL
    by_cases hb : b = c
    · subst hb; simp at h
    · rw [if_neg (by simpa using hb)] at h
      rw [if_neg hb]
      by_cases h1 : Lib.indexByte r c = -1
      · rw [cuts_none h1]
      · rw [if_neg (by simpa using h1)] at h
        omega
theorem cuts_some {c : UInt8} : ∀ {l : List UInt8} {i : Nat}, Lib.indexByte l c = (i : Int) → i < l.length ∧ cutsL c l = l.take i :: cutsL c (l.drop (i + 1))
  | [], i, h => by simp only [Lib.indexByte] at h; omega
  | b :: r, i, h => by
    unfold Lib.indexByte at h
    by_cases hb : b = c
    · subst hb
      simp only [beq_self_eq_true, if_true] at h
      obtain rfl : i = 0 := by omega
      exact ⟨by simp, by simp [cutsL]⟩
    · rw [if_neg (by simpa using hb)] at h
      by_cases h1 : Lib.indexByte r c = -1
      · rw [h1] at h; simp only [beq_self_eq_true, if_true] at h; omega
      · rw [if_neg (by simpa using h1)] at h
        have h0 := Lib.indexByte_ge r c
        obtain ⟨j, rfl⟩ : ∃ j, i = j + 1 := ⟨i - 1, by omega⟩
        have hj : Lib.indexByte r c = (j : Int) := by push_cast at h; omega
        obtain ⟨h2, h3⟩ := cuts_some hj
        refine ⟨by simpa using h2, ?_⟩
        conv => lhs; unfold cutsL
        rw [if_neg hb, h3]
        simp
/-- what a round keeps: the three boxes -/
def KpS (B : Nat) (W W' : World) : Prop := ∀ k, B ≤ k → k < B + 3 → W'.heap[k]? = W.heap[k]?
theorem KpS.rf (B : Nat) (W : World) : KpS B W W := fun _ _ _ => rfl
theorem KpS.tr {B : Nat} {X Y Z : World} (h : KpS B X Y) (k : KpS B Y Z) : KpS B X Z := fun j h1 h2 => (k j h1 h2).trans (h j h1 h2)
theorem KpS.has {B : Nat} {W W' : World} (h : KpS B W W') {k t : Nat} {vs : List Value} (hk : Has W k t vs) (h1 : B ≤ k) (h2 : k < B + 3) : Has W' k t vs := by unfold Has; rw [h k h1 h2]; exact hk
/-- how much is left in a box -/
def leftS (b : Nat) (W : World) : Nat := match W.cell? ⟨b, 0, none⟩ with | some (.string s) => s.size | _ => 0
theorem leftS_eq {W : World} {b : Nat} {s : ByteArray} (h : W.cell? ⟨b, 0, none⟩ = some (.string s)) : leftS b W = s.size := by unfold leftS; rw [h]
theorem spj1 {i m : Nat} (h : i < m) (hm : m ≤ 9223372036854775807) : (0 : Int) ≤ (i : Int) ∧ ((i : Int) < 0) = False ∧ (i : Int) ≤ (m : Int) ∧ RowKit.wrap64 (i : Int) = (i : Int) ∧ RowKit.wrap64 ((i : Int) + 1) = ((i + 1 : Nat) : Int) ∧ (0 : Int) ≤ ((i + 1 : Nat) : Int) ∧ ((i + 1 : Nat) : Int) ≤ (m : Int) := by
  refine ⟨by omega, eq_false (by omega), by omega, ?_, ?_, by omega, by omega⟩ <;> (unfold RowKit.wrap64; omega)

set_option maxRecDepth 100000 in
set_option maxHeartbeats 2000000 in
theorem split1_in (n : Nat) (l B : Nat) (c : UInt8) (s : List UInt8) (hs : s.length ≤ 9223372036854775807) (J Jx : List (List UInt8) → World → Prop)
    (hJ : ∀ pre W v, J pre W → J pre (W.setCell ⟨B, 0, none⟩ v))
    (hY : ∀ pre x rest W, cutsL c s = pre ++ x :: rest → J pre W → YieldAt Fence.wide (n - 1) Tryd.prog l #[.string (strB x)] W fun e W' =>
      (e = .returned (.bool true) ∧ J (pre ++ [x]) W' ∧ KpS B W W') ∨ (e = .returned (.bool false) ∧ Jx (pre ++ [x]) W'))
    (W : World) (h0 : Has W B 9 [.string (strB s)]) (h1 : Has W (B + 1) 9 [.string (strB [c])]) (h2 : Has W (B + 2) 3 [.int .i64 0]) (hj : J [] W) :
    CallsIn Fence.wide n Tryd.prog 65 #[.func (.yield l) #[] #[], .pointer (some ⟨B + 1, 0, none⟩), .pointer (some ⟨B, 0, none⟩), .pointer (some ⟨B + 2, 0, none⟩)] W fun e W' => (∃ v, e = .returned v) ∧
      (J (cutsL c s) W' ∨ ∃ pre x rest, cutsL c s = pre ++ x :: rest ∧ Jx (pre ++ [x]) W') := by
  refine callsIn_of_wp Tryd.func65 rfl trivial ?_ rfl
  simp only [Tryd.ntmps65, List.size_toArray, List.length_cons, List.length_nil, Nat.reduceAdd, Nat.reduceSub, Array.replicate_succ, Array.replicate_zero, List.push_toArray, List.append_toArray, List.nil_append, List.cons_append]
  have c1 : W.cell? ⟨B + 1, 0, none⟩ = some (.string (strB [c])) := h1.cell 0 rfl
  have HY := Lib.hid hY
  have HJ := Lib.hid hJ
  have H0 := Lib.hid h0
  have H1 := Lib.hid h1
  have H2 := Lib.hid h2
  have HS := Lib.hid hs
  have hz : (strB [c]).size = 1 := rfl
  clear hY hJ h0 h1 h2 hs
  gi_wp2
  clear c1 hz
  gi_loopw [7] (fun _ wr => ∃ (pre : List (List UInt8)) (left : List UInt8), cutsL c s = pre ++ cutsL c left ∧ left.length ≤ s.length ∧ J pre wr ∧ Has wr B 9 [.string (strB left)] ∧ Has wr (B + 1) 9 [.string (strB [c])] ∧ Has wr (B + 2) 3 [.int .i64 0])
    (fun _ wr => leftS B wr)
  case atStart => exact ⟨[], s, rfl, Nat.le_refl _, hj, H0.out, H1.out, H2.out⟩
  case round =>
    obtain ⟨pre, left, hcut, hle, hJs, g0, g1, g2⟩ := hrel
    have c0 : wr.cell? ⟨B, 0, none⟩ = some (.string (strB left)) := g0.cell 0 rfl
    have c1 : wr.cell? ⟨B + 1, 0, none⟩ = some (.string (strB [c])) := g1.cell 0 rfl
    have hix := Tryd.strings_Index_one (strB left) c wr
    have e1 : (strB left).data.toList = left := rfl
    rw [e1] at hix
    clear e1
    have HIx := Lib.hid hix
    clear hix
    have HG0 := Lib.hid g0
    have HG1 := Lib.hid g1
    have HG2 := Lib.hid g2
    have HCut := Lib.hid hcut
    have HLe := Lib.hid hle
    clear g0 g1 g2 hcut hle
    by_cases hn : Lib.indexByte left c = -1
    · rw [hn] at HIx
      have HC : Hid (cutsL c s = pre ++ left :: []) := Lib.hid (by rw [HCut.out, cuts_none hn])
      obtain ⟨fn, tmps, assign, body, hy, hR⟩ := HY.out pre left [] wr HC.out hJs
      clear hn
      gi_wp2_with (refine ⟨trivial, (fun h => by cases h), ?_⟩; gi_at_call 67; refine (callsIn_wide.2 HIx.out).mono ?_; rintro e w' ⟨rfl, rfl⟩)
      refine ⟨(fun h => by cases h), hR.mono ?_⟩
      rintro e W3 (⟨rfl, hJ3, hk3⟩ | ⟨rfl, hJx3⟩)
      · gi_wp2
        go_end0
        exact ⟨⟨_, rfl⟩, .inl (by rw [HC.out]; exact hJ3)⟩
      · gi_wp2
        go_end0
        exact ⟨⟨_, rfl⟩, .inr ⟨pre, left, [], HC.out, hJx3⟩⟩
    · obtain ⟨i, hi⟩ : ∃ i : Nat, Lib.indexByte left c = (i : Int) := ⟨(Lib.indexByte left c).toNat, by have := Lib.indexByte_ge left c; omega⟩
      rw [hi] at HIx
      obtain ⟨hil, hcs⟩ := cuts_some hi
      have HC : Hid (cutsL c s = pre ++ left.take i :: cutsL c (left.drop (i + 1))) := Lib.hid (by rw [HCut.out, hcs])
      obtain ⟨fn, tmps, assign, body, hy, hR⟩ := HY.out pre (left.take i) _ wr HC.out hJs
      have hsz : (strB left).size = left.length := strB_size left
      obtain ⟨z1, z2, z3, z4, z5, z6, z7⟩ := spj1 (i := i) (m := (strB left).size) (by rw [hsz]; exact hil) (by rw [hsz]; exact Nat.le_trans HLe.out HS.out)
      have c2 : wr.cell? ⟨B + 2, 0, none⟩ = some (.int .i64 0) := HG2.out.cell 0 rfl
      have e1 : (strB left).extract 0 i = strB (left.take i) := by
        apply ByteArray.ext; simp [strB, ByteArray.data_extract]
      have HIl := Lib.hid hil
      clear hn hi hil hcs hsz
      gi_wp2_with (refine ⟨trivial, (fun h => by cases h), ?_⟩; gi_at_call 67; refine (callsIn_wide.2 HIx.out).mono ?_; rintro e w' ⟨rfl, rfl⟩)
      refine ⟨(fun h => by cases h), hR.mono ?_⟩
      rintro e W3 (⟨rfl, hJ3, hk3⟩ | ⟨rfl, hJx3⟩)
      · have K0 := Lib.hid (hk3.has HG0.out (by omega) (by omega))
        have K1 := Lib.hid (hk3.has HG1.out (by omega) (by omega))
        have K2 := Lib.hid (hk3.has HG2.out (by omega) (by omega))
        have HJ3 := Lib.hid hJ3
        clear hk3 hJ3 c0 c1 c2
        have d0 : W3.cell? ⟨B, 0, none⟩ = some (.string (strB left)) := K0.out.cell 0 rfl
        have d1 : W3.cell? ⟨B + 1, 0, none⟩ = some (.string (strB [c])) := K1.out.cell 0 rfl
        have f0 : W3.frozen? ⟨B, 0, none⟩ = false := K0.out.free 0
        have hsz1 : (strB [c]).size = 1 := rfl
        have e2 : (strB left).extract (i + 1) (strB left).size = strB (left.drop (i + 1)) := by
          rw [strB_size left]
          apply ByteArray.ext
          simp [strB, ByteArray.data_extract]
          exact List.take_of_length_le (by simp)
        gi_wp2
        go_roundw
        case rel =>
          refine ⟨pre ++ [left.take i], left.drop (i + 1), by rw [HC.out]; simp, by rw [List.length_drop]; exact Nat.le_trans (Nat.sub_le _ _) HLe.out, HJ.out _ _ _ HJ3.out, ?_, K1.out.other (by omega) 0 _, K2.out.other (by omega) 0 _⟩
          exact K0.out.set 0 _
        case measure =>
          rw [leftS_eq (HG0.out.cell 0 rfl), leftS_eq ((K0.out.set 0 (.string (strB (left.drop (i + 1))))).cell 0 rfl), strB_size, strB_size, List.length_drop]
          have := HIl.out
          omega
      · gi_wp2
        refine bodyPost_ret (results_none rfl _ _ _) rfl ?_
        exact ⟨⟨_, rfl⟩, .inr ⟨pre, left.take i, _, HC.out, hJx3⟩⟩
set_option maxRecDepth 100000 in
theorem split_any (w : World) (s : List UInt8) (c : UInt8) : Calls Tryd.prog 24 #[.string (strB s), .string (strB [c])] w fun e w' =>
    e = .returned (.func (.func 65) #[] #[.pointer (some ⟨w.heap.size + 1, 0, none⟩), .pointer (some ⟨w.heap.size, 0, none⟩), .pointer (some ⟨w.heap.size + 2, 0, none⟩)]) ∧
      w' = ((w.alloc (.cells #[.string (strB s)] 9)).alloc (.cells #[.string (strB [c])] 9)).alloc (.cells #[.int .i64 0] 3) := by
  have e1 : ((w.alloc (.cells #[.string (strB s)] 9)).alloc (.cells #[.string (strB [c])] 9)).heap.size = w.heap.size + 2 := by simp
  have e2 : (w.alloc (.cells #[.string (strB s)] 9)).heap.size = w.heap.size + 1 := by simp
  go_enter Tryd.func24, Tryd.ntmps24
  go_wp2
  go_ret
  exact ⟨rfl, rfl⟩
theorem splitsB (w : World) (s : List UInt8) (c : UInt8) {w2 : World} (h : w2 = ((w.alloc (.cells #[.string (strB s)] 9)).alloc (.cells #[.string (strB [c])] 9)).alloc (.cells #[.int .i64 0] 3)) :
    Has w2 w.heap.size 9 [.string (strB s)] ∧ Has w2 (w.heap.size + 1) 9 [.string (strB [c])] ∧ Has w2 (w.heap.size + 2) 3 [.int .i64 0] ∧ w2.heap.size = w.heap.size + 3 ∧ Below w.heap.size w w2 := by
  subst h
  have a1 := Has.new w 9 #[.string (strB s)]
  have a2 := Has.new (w.alloc (.cells #[.string (strB s)] 9)) 9 #[.string (strB [c])]
  have a3 := Has.new ((w.alloc (.cells #[.string (strB s)] 9)).alloc (.cells #[.string (strB [c])] 9)) 3 #[.int .i64 0]
  have e1 : ((w.alloc (.cells #[.string (strB s)] 9)).alloc (.cells #[.string (strB [c])] 9)).heap.size = w.heap.size + 2 := by simp
  have e2 : (w.alloc (.cells #[.string (strB s)] 9)).heap.size = w.heap.size + 1 := by simp
  rw [e1] at a3
  rw [e2] at a2
  refine ⟨(a1.kept (Kept.alloc none' _ _) (fun h => h)).kept (Kept.alloc none' _ _) (fun h => h), a2.kept (Kept.alloc none' _ _) (fun h => h), a3, by simp, ?_⟩
  exact (((Below.refl _ w).alloc (Nat.le_refl _) _).alloc (by simp) _).alloc (by simp; omega) _
/-- the iterator's contract -/
theorem split_stops (n B : Nat) (c : UInt8) (s : List UInt8) (hs : s.length ≤ 9223372036854775807) (w : World) (h0 : Has w B 9 [.string (strB s)]) (h1 : Has w (B + 1) 9 [.string (strB [c])]) (h2 : Has w (B + 2) 3 [.int .i64 0]) :
    SeqBox Fence.wide n Tryd.prog 65 #[.pointer (some ⟨B + 1, 0, none⟩), .pointer (some ⟨B, 0, none⟩), .pointer (some ⟨B + 2, 0, none⟩)] (fun x : List UInt8 => #[Value.string (strB x)]) B (KpS B) (cutsL c s) w := by
  intro l J Jx W hW _ hJ hY hj
  have up : ∀ {k t vs}, Has w k t vs → Has W k t vs := fun h => h.kept (Kept.of_below (X := none') hW) (fun h => h)
  exact split1_in n l B c s hs J Jx hJ hY W (up h0) (up h1) (up h2) hj
end Go.Proofs.YtaeanhpdlkgghaaDoor

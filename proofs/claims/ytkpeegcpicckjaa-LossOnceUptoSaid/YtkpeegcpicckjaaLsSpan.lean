/- Loss detection: spans, and the questions that Ack asks. -/
import Derived.Test.YtkpeegcpicckjaaLsNum
namespace Go.Proofs.Ytkpeegcpicckjaa
open Go.RowKit

structure Sn where
  from_ : Int
  to_ : Int
def scells (x : Sn) : List Value := [.int .i64 x.from_, .int .i64 x.to_]
def sv : List Sn → List Value
  | [] => []
  | x :: r => scells x ++ sv r
theorem sv_length : ∀ l : List Sn, (sv l).length = l.length * 2
  | [] => rfl
  | x :: r => by simp [sv, scells, sv_length r]; omega
theorem sv_get : ∀ (l : List Sn) (i j : Nat) (hi : i < l.length), j < 2 → (sv l)[i * 2 + j]? = (scells l[i])[j]?
  | p :: r, 0, j, _, hj => by
    simp only [sv, Nat.zero_mul, Nat.zero_add]
    rw [List.getElem?_append_left (by simp [scells]; omega)]
    rfl
  | p :: r, i + 1, j, hi, hj => by
    simp only [sv]
    rw [List.getElem?_append_right (by simp [scells]; omega)]
    have e : (i + 1) * 2 + j - (scells p).length = i * 2 + j := by simp [scells]; omega
    rw [e, sv_get r i j (by simpa using hi) hj]
    rfl
theorem sv_one : ∀ l : List Sn, ∀ u ∈ sv l, u.oneCell' = true
  | [], u, h => by simp [sv] at h
  | p :: r, u, h => by
    simp only [sv, scells, List.mem_append, List.mem_cons, List.not_mem_nil, or_false] at h
    rcases h with (rfl | rfl) | h
    · rfl
    · rfl
    · exact sv_one r u h
theorem own_sn {w : World} {B e : Nat} {a : Option Addr} {n c : Nat} {l : List Sn} (h : w.ownsRow B e 2 (.slice a n c) n (sv l)) (hl : l.length = n) {i : Nat} (hi : i < l.length) :
    ∃ s, a = some ⟨s, 0, none⟩ ∧ w.cell? ⟨s, i * 2, none⟩ = some (.int .i64 l[i].from_) ∧ w.cell? ⟨s, i * 2 + 1, none⟩ = some (.int .i64 l[i].to_) ∧ n ≤ c ∧ c ≤ maxLen := by
  have key : ∀ s, Value.ownBlock (.slice a n c) = some s → ∀ j, j < 2 → w.cell? ⟨s, i * 2 + j, none⟩ = (scells l[i])[j]? := by
    intro s hs j hj
    have h1 := sv_get l i j hi hj
    have hx : (scells l[i])[j]? = some ((scells l[i])[j]'(by simp [scells]; omega)) := List.getElem?_eq_getElem _
    rw [hx] at h1
    have h2 := h.cells hs (i * 2 + j) _ h1
    rw [addr_add, Nat.zero_add] at h2
    rw [h2, hx]
  rcases h.2 with ⟨hv, rfl⟩ | ⟨g, cap, cur, hv, hB, hg, hnc, hcm, hcs, ht⟩
  · omega
  · simp only [Value.slice.injEq, true_and] at hv
    obtain ⟨rfl, rfl⟩ := hv
    have k := key g rfl
    exact ⟨g, rfl, k 0 (by omega), k 1 (by omega), hnc, hcm⟩
def Sps (w : World) (B : Nat) (a : Option Addr) (c : Nat) (l : List Sn) : Prop := w.ownsRow B 47 2 (.slice a l.length c) l.length (sv l)

/-- is the packet in the span? -/
def inB (p : Pk) (x : Sn) : Bool := decide (x.from_ ≤ p.num) && decide (p.num ≤ x.to_)
set_option maxRecDepth 100000 in
theorem in_any (w : World) (x : Sn) (p : Pk) (xb : Nat) (h : w.cell? ⟨xb, 0, none⟩ = some (.int .i64 p.num)) :
    Calls Try.prog 29 #[.agg #[.int .i64 x.from_, .int .i64 x.to_], .pointer (some ⟨xb, 0, none⟩)] w (BoolOf w (inB p x)) := by
  have hal : Below w.heap.size w (w.alloc (.cells #[.int .i64 x.from_, .int .i64 x.to_] 47)) := (Below.refl _ _).alloc (Nat.le_refl _) _
  have hxb := World.block_lt_of_cell? _ _ h
  by_cases c1 : x.from_ ≤ p.num
  · by_cases c2 : p.num ≤ x.to_
    · simp only [show inB p x = true by simp [inB, c1, c2]]
      go_enter Try.func29, Try.ntmps29
      go_wp2
      go_ret
      exact ⟨rfl, hal⟩
    · simp only [show inB p x = false by simp [inB, c1, c2]]
      go_enter Try.func29, Try.ntmps29
      go_wp2
      go_ret
      exact ⟨rfl, hal⟩
  · simp only [show inB p x = false by simp [inB, c1]]
    go_enter Try.func29, Try.ntmps29
    go_wp2
    go_ret
    exact ⟨rfl, hal⟩

set_option maxRecDepth 100000 in
set_option maxHeartbeats 1000000 in
theorem indexIn_any (w : World) {B : Nat} {a : Option Addr} {c : Nat} {l : List Sn} (h : Sps w B a c l) (hl : l.length ≤ 1152921504606846976) (p : Pk) (xb : Nat) (hp : w.cell? ⟨xb, 0, none⟩ = some (.int .i64 p.num)) :
    Calls Try.prog 37 #[.slice a l.length c, .func (.func 29) #[] #[.pointer (some ⟨xb, 0, none⟩)]] w fun e w' => ∃ z : Int, e = .returned (.int .i64 z) ∧ decide (0 ≤ z) = l.any (inB p) ∧ Below w.heap.size w w' := by
  have HO := Lib.hid h
  have HP := Lib.hid hp
  clear h hp
  go_enter Try.func37, Try.ntmps37
  go_wp2_with fail
  go_loopw [8] (fun v wr => ∃ k : Nat, v = .int .i64 (k : Int) ∧ k ≤ l.length ∧ Hid ((l.take k).any (inB p) = false) ∧ Below w.heap.size w wr) (fun v _ => l.length - (intOf v).toNat)
  case atStart => exact ⟨0, rfl, Nat.zero_le _, Lib.hid (by simp), Below.refl _ _⟩
  case round =>
    obtain ⟨k, rfl, hk, HA, hB⟩ := hrel
    by_cases hkl : k < l.length
    · have hkl' : (k : Int) < (l.length : Int) := by omega
      have g2 : IntKind.i64.wrap ((k : Int) + 1) = (k : Int) + 1 := by rw [IntKind.wrap_i64]; omega
      obtain ⟨sb, rfl, e0, e1, s1, s2⟩ := own_sn (own_below HO.out hB) rfl hkl
      have s1' : (l.length : Int) ≤ (c : Int) := by omega
      have HT := Lib.hid (List.take_succ_eq_append_getElem hkl)
      have HM := Lib.hid (List.getElem_mem hkl)
      generalize hx : l[k] = x at HT HM e0 e1
      clear hx
      cases hel : inB p x
      · have HA2 : Hid ((l.take (k + 1)).any (inB p) = false) := Lib.hid (by rw [HT.out, List.any_append, HA.out]; simp [hel])
        have HE : Hid (∀ w', Below w.heap.size w w' → Calls Try.prog 29 #[.agg #[.int .i64 x.from_, .int .i64 x.to_], .pointer (some ⟨xb, 0, none⟩)] w' (BoolOf w' false)) := Lib.hid (fun w' hb => (in_any w' x p xb ((hb.cell (World.block_lt_of_cell? _ _ HP.out)).trans HP.out)).mono (by
          rintro e w'' ⟨h1, h2⟩
          exact ⟨by rw [h1, hel], h2⟩))
        clear hel
        go_wp2_with fail
        refine (HE.out wr hB).mono ?_
        rintro e w2 ⟨rfl, hb2⟩
        go_wp2
        go_roundw
        case rel => exact ⟨k + 1, by push_cast; rfl, by omega, HA2, hB.trans (hb2.mono hB.size)⟩
        case measure => simp [intOf]; omega
      · have HA2 : Hid (l.any (inB p) = true) := Lib.hid (List.any_eq_true.2 ⟨x, HM.out, hel⟩)
        have HE : Hid (∀ w', Below w.heap.size w w' → Calls Try.prog 29 #[.agg #[.int .i64 x.from_, .int .i64 x.to_], .pointer (some ⟨xb, 0, none⟩)] w' (BoolOf w' true)) := Lib.hid (fun w' hb => (in_any w' x p xb ((hb.cell (World.block_lt_of_cell? _ _ HP.out)).trans HP.out)).mono (by
          rintro e w'' ⟨h1, h2⟩
          exact ⟨by rw [h1, hel], h2⟩))
        clear hel
        go_wp2_with fail
        refine (HE.out wr hB).mono ?_
        rintro e w2 ⟨rfl, hb2⟩
        go_wp2
        go_ret
        exact ⟨_, rfl, by rw [HA2.out]; simp, hB.trans (hb2.mono hB.size)⟩
    · obtain rfl : k = l.length := by omega
      go_wp2
      go_ret
      refine ⟨_, rfl, ?_, hB⟩
      have := HA.out
      rw [List.take_length] at this
      rw [this]
      rfl
theorem containsIn_any (w : World) {B : Nat} {a : Option Addr} {c : Nat} {l : List Sn} (h : Sps w B a c l) (hl : l.length ≤ 1152921504606846976) (p : Pk) (xb : Nat) (hp : w.cell? ⟨xb, 0, none⟩ = some (.int .i64 p.num)) :
    Calls Try.prog 28 #[.slice a l.length c, .func (.func 29) #[] #[.pointer (some ⟨xb, 0, none⟩)]] w (BoolOf w (l.any (inB p))) := by
  have HI := Lib.hid (indexIn_any w h hl p xb hp)
  clear h hp
  go_enter Try.func28, Try.ntmps28
  go_wp2_with fail
  refine HI.out.mono ?_
  rintro e w2 ⟨z, rfl, hz, hb2⟩
  have HZ := Lib.hid hz
  clear hz
  go_wp2
  go_ret
  exact ⟨by rw [← HZ.out]; rfl, hb2⟩
set_option maxRecDepth 100000 in
theorem got_any (w : World) {B : Nat} {a : Option Addr} {c : Nat} {l : List Sn} (h : Sps w B a c l) (hl : l.length ≤ 1152921504606846976) (p : Pk) (x1 : Nat) (hx : w.cell? ⟨x1, 0, none⟩ = some (.slice a l.length c)) :
    Calls Try.prog 27 #[.agg #[.int .i64 p.num, .int .i64 p.size, .int .i64 p.at_, .bool p.el], .pointer (some ⟨x1, 0, none⟩)] w (BoolOf w (l.any (inB p))) := by
  have hal : Below w.heap.size w (w.alloc (.cells #[.int .i64 p.num, .int .i64 p.size, .int .i64 p.at_, .bool p.el] 68)) := (Below.refl _ _).alloc (Nat.le_refl _) _
  have hH : Has (w.alloc (.cells #[.int .i64 p.num, .int .i64 p.size, .int .i64 p.at_, .bool p.el] 68)) w.heap.size 68 [.int .i64 p.num, .int .i64 p.size, .int .i64 p.at_, .bool p.el] := Has.new _ _ _
  have HC := Lib.hid (containsIn_any _ (own_below h hal) hl p w.heap.size (hH.cell 0 rfl))
  have hxb := World.block_lt_of_cell? _ _ hx
  clear h hH
  go_enter Try.func27, Try.ntmps27
  go_wp2_with fail
  refine HC.out.mono ?_
  rintro e w2 ⟨rfl, hb2⟩
  go_wp2
  go_ret
  exact ⟨rfl, hal.trans (hb2.mono hal.size)⟩
end Go.Proofs.Ytkpeegcpicckjaa

/- Loss detection: contracts of numbers, late and the question of find. -/
import Derived.Test.YtkpeegcpicckjaaLsFire
namespace Go.Proofs.Ytkpeegcpicckjaa
open Go.RowKit

def nums (zs : List Int) : List Value := zs.map (Value.int .i64)
theorem nums_one (l : List Int) : ∀ u ∈ nums l, u.oneCell' = true := by
  intro u hu
  simp only [nums, List.mem_map] at hu
  obtain ⟨b, _, rfl⟩ := hu
  rfl
theorem infoInt : (Try.prog.info? 3).map (fun i => (i.zero, i.size, i.bytes)) = some (some (.int .i64 0), 1, 8) := by kernel_rfl
theorem tyInt : ETy Try.prog 34 3 (.int .i64 0) 8 := by
  obtain ⟨i, hi, h1, h2, h3⟩ := info_parts infoInt
  exact ⟨Try.underlying34, ⟨i, hi, h1, h2, h3⟩, rfl⟩
theorem sl_one (w : World) (t : TypeId) (v : Value) : Sl (w.alloc (.cells #[v] t)) (some ⟨w.heap.size, 0, none⟩) 1 1 [v] := ⟨rfl, Nat.le_refl _, by decide, by simp, fun _ => ⟨_, 0, rfl, fun i hi => by
  have : i = 0 := by omega
  subst this
  simp⟩⟩
/-- an answer of numbers in fresh memory -/
def RetI (w : World) (zs : List Int) (e : Ending) (w' : World) : Prop :=
  ∃ a c, e = .returned (.slice a zs.length c) ∧ w'.ownsRow w.heap.size 3 1 (.slice a zs.length c) zs.length (nums zs) ∧ Below w.heap.size w w'

set_option maxRecDepth 100000 in
set_option maxHeartbeats 1000000 in
theorem numbers_any (w : World) {B : Nat} {a : Option Addr} {c : Nat} {l : List Pk} (h : w.ownsRow B 68 4 (.slice a l.length c) l.length (pv l)) (hl : l.length ≤ 4096) :
    Calls Try.prog 23 #[.slice a l.length c] w (RetI w (l.map (·.num))) := by
  have HO := Lib.hid h
  have hlI : (l.length : Int) ≤ 4096 := by omega
  have HML : Hid ((l.map (·.num)).length = l.length) := Lib.hid (by simp)
  clear h
  go_enter Try.func23, Try.ntmps23
  go_wp2_with fail
  go_loopw [3, 8] (fun nv iv wr => ∃ (j : Nat) (ay : Option Addr) (cy : Nat), iv = .int .i64 (j : Int) ∧ nv = .slice ay j cy ∧ j ≤ l.length ∧ wr.ownsRow w.heap.size 3 1 (.slice ay j cy) j (nums ((l.take j).map (·.num))) ∧ Below w.heap.size w wr) (fun _ iv _ => l.length - (intOf iv).toNat)
  case atStart => exact ⟨0, none, 0, rfl, rfl, Nat.zero_le _, by simpa [nums] using World.ownsRow_nil _ _ _ _, Below.refl _ _⟩
  case round =>
    obtain ⟨j, ay, cy, rfl, rfl, hj, hY, hB⟩ := hrel
    by_cases hjl : j < l.length
    · have hjl' : (j : Int) < (l.length : Int) := by omega
      have g2 : IntKind.i64.wrap ((j : Int) + 1) = (j : Int) + 1 := by rw [IntKind.wrap_i64]; omega
      obtain ⟨sb, rfl, e0, e1, e2, e3, s1, s2⟩ := own_pk (own_below HO.out hB) rfl hjl
      have s1' : (l.length : Int) ≤ (c : Int) := by omega
      have HT : Hid ((l.take (j + 1)).map (·.num) = (l.take j).map (·.num) ++ [l[j].num]) := Lib.hid (by rw [List.take_succ_eq_append_getElem hjl, List.map_append]; rfl)
      generalize l[j] = p at HT e0 e1 e2 e3
      have hal : Below wr.heap.size wr (wr.alloc (.cells #[.int .i64 p.num, .int .i64 p.size, .int .i64 p.at_, .bool p.el] 68)) := (Below.refl _ _).alloc (Nat.le_refl _) _
      have sz1 : (wr.alloc (.cells #[.int .i64 p.num, .int .i64 p.size, .int .i64 p.at_, .bool p.el] 68)).heap.size = wr.heap.size + 1 := by simp
      have hal2 : Below (wr.alloc (.cells #[.int .i64 p.num, .int .i64 p.size, .int .i64 p.at_, .bool p.el] 68)).heap.size (wr.alloc (.cells #[.int .i64 p.num, .int .i64 p.size, .int .i64 p.at_, .bool p.el] 68)) ((wr.alloc (.cells #[.int .i64 p.num, .int .i64 p.size, .int .i64 p.at_, .bool p.el] 68)).alloc (.cells #[.int .i64 p.num] 3)) := (Below.refl _ _).alloc (Nat.le_refl _) _
      have hs1 := sl_one (wr.alloc (.cells #[.int .i64 p.num, .int .i64 p.size, .int .i64 p.at_, .bool p.el] 68)) 3 (.int .i64 p.num)
      rw [sz1] at hs1
      have hz := hB.size
      obtain ⟨a4, c4', w4, hr4, ho4, hg4, hno4⟩ := run_app_own (tyo := 34) tyInt (B := w.heap.size) (own_below (own_below hY hal) hal2) hs1 (nums_one [p.num]) (by omega) (by unfold maxLen; omega) (by have := hal2.size; omega)
      have hb4 : Below w.heap.size w w4 := ((hB.trans (hal.mono hz)).trans (hal2.mono (by omega))).grown hg4 (by have := hal2.size; omega) (fun k hk => by
        cases ay with
        | none => cases hk
        | some y => simp only [Value.ownBlock, Option.some.injEq] at hk; have := ownblk hY rfl; omega)
      clear hal hal2 hs1 hg4 hno4 hY
      go_wp2_with (at_builtin; refine Lib.wpList_append_run _ rfl _ _ _ _ rfl (.slice ay j cy) (.slice (some ⟨wr.heap.size + 1, 0, none⟩) 1 1) rfl rfl _ _ hr4 ?_)
      go_roundw
      case rel => exact ⟨j + 1, a4, c4', by push_cast; rfl, rfl, by omega, by rw [HT.out]; simpa [nums] using ho4, hb4⟩
      case measure => simp [intOf]; omega
    · obtain rfl : j = l.length := by omega
      rw [List.take_length] at hY
      go_wp2
      go_ret
      refine ⟨ay, cy, by rw [HML.out]; rfl, ?_, hB⟩
      rw [HML.out]
      exact hY

/-- how long a packet may be out behind one that was acknowledged -/
def Lo.late (L : Lo) : Int := max 1 (9 * max L.latest L.smooth / 8)
set_option maxRecDepth 100000 in
theorem late_any (w : World) {F : Nat → Prop} {g : Nat} {L : Lo} (h : LAt F w g L) (h1 : 0 ≤ L.latest ∧ L.latest ≤ 1099511627776) (h2 : 0 ≤ L.smooth ∧ L.smooth ≤ 1099511627776) :
    Calls Try.prog 35 #[.pointer (some ⟨g, 0, none⟩)] w (IntOf w L.late) := by
  have c1 := (h.cell 18 (v := .int .i64 L.latest) (fun _ _ _ _ _ _ => rfl)).1
  have c2 := (h.cell 20 (v := .int .i64 L.smooth) (fun _ _ _ _ _ _ => rfl)).1
  clear h
  go_enter Try.func35, Try.ntmps35
  go_wp2_with fail
  go_quiet (fail)
  go_wp2
  all_goals
    go_ret
    refine ⟨ret_int ?_, below_drewN (Below.refl _ w) _⟩
    have hm : (if L.latest < L.smooth then L.smooth else L.latest) = max L.latest L.smooth := by split <;> omega
    unfold Lo.late
    simp only [hm] at *
    first
      | omega
      | (split <;> omega)
theorem Lo.late_bounds {L : Lo} (h1 : 0 ≤ L.latest ∧ L.latest ≤ 1099511627776) (h2 : 0 ≤ L.smooth ∧ L.smooth ≤ 1099511627776) : 1 ≤ L.late ∧ L.late ≤ 4398046511104 := by
  unfold Lo.late
  omega

/-- is it lost? -/
def lostB (acked now d : Int) (p : Pk) : Bool := decide (p.num < acked) && (decide (p.num ≤ acked - 3) || decide (p.at_ ≤ now - d))
set_option maxRecDepth 100000 in
set_option maxHeartbeats 1000000 in
theorem lost_any (w : World) (p : Pk) (x1 x2 x3 g o : Nat) (acked now d : Int) (h1 : w.cell? ⟨x1, 0, none⟩ = some (.pointer (some ⟨g, o, none⟩))) (h2 : w.cell? ⟨x2, 0, none⟩ = some (.pointer (some ⟨g, 0, none⟩))) (h3 : w.cell? ⟨x3, 0, none⟩ = some (.int .i64 d))
    (h4 : w.cell? ⟨g, o + 2, none⟩ = some (.int .i64 acked)) (h5 : w.cell? ⟨g, 16, none⟩ = some (.int .i64 now)) (ha : -1 ≤ acked ∧ acked ≤ 4611686018427387903) (hn : 0 ≤ now ∧ now ≤ 1099511627776) (hd : 1 ≤ d ∧ d ≤ 4398046511104) :
    Calls Try.prog 36 #[.agg #[.int .i64 p.num, .int .i64 p.size, .int .i64 p.at_, .bool p.el], .pointer (some ⟨x1, 0, none⟩), .pointer (some ⟨x2, 0, none⟩), .pointer (some ⟨x3, 0, none⟩)] w (BoolOf w (lostB acked now d p)) := by
  have hal : Below w.heap.size w (w.alloc (.cells #[.int .i64 p.num, .int .i64 p.size, .int .i64 p.at_, .bool p.el] 68)) := (Below.refl _ _).alloc (Nat.le_refl _) _
  have hH : Has (w.alloc (.cells #[.int .i64 p.num, .int .i64 p.size, .int .i64 p.at_, .bool p.el] 68)) w.heap.size 68 [.int .i64 p.num, .int .i64 p.size, .int .i64 p.at_, .bool p.el] := Has.new _ _ _
  have e1 : (w.alloc (.cells #[.int .i64 p.num, .int .i64 p.size, .int .i64 p.at_, .bool p.el] 68)).cell? ⟨x1, 0, none⟩ = some (.pointer (some ⟨g, o, none⟩)) := by rw [hal.cell (World.block_lt_of_cell? _ _ h1)]; exact h1
  have e2 : (w.alloc (.cells #[.int .i64 p.num, .int .i64 p.size, .int .i64 p.at_, .bool p.el] 68)).cell? ⟨x2, 0, none⟩ = some (.pointer (some ⟨g, 0, none⟩)) := by rw [hal.cell (World.block_lt_of_cell? _ _ h2)]; exact h2
  have e3 : (w.alloc (.cells #[.int .i64 p.num, .int .i64 p.size, .int .i64 p.at_, .bool p.el] 68)).cell? ⟨x3, 0, none⟩ = some (.int .i64 d) := by rw [hal.cell (World.block_lt_of_cell? _ _ h3)]; exact h3
  have e4 : (w.alloc (.cells #[.int .i64 p.num, .int .i64 p.size, .int .i64 p.at_, .bool p.el] 68)).cell? ⟨g, o + 2, none⟩ = some (.int .i64 acked) := by rw [hal.cell (World.block_lt_of_cell? _ _ h4)]; exact h4
  have e5 : (w.alloc (.cells #[.int .i64 p.num, .int .i64 p.size, .int .i64 p.at_, .bool p.el] 68)).cell? ⟨g, 16, none⟩ = some (.int .i64 now) := by rw [hal.cell (World.block_lt_of_cell? _ _ h5)]; exact h5
  have q0 := hH.cell 0 rfl
  have q2 := hH.cell 2 rfl
  have f1 : IntKind.i64.wrap (acked - 3) = acked - 3 := by rw [IntKind.wrap_i64]; omega
  have f2 : IntKind.i64.wrap (now - d) = now - d := by rw [IntKind.wrap_i64]; omega
  clear h1 h2 h3 h4 h5
  by_cases c1 : p.num < acked
  · by_cases c2 : p.num ≤ acked - 3
    · simp only [show lostB acked now d p = true by simp [lostB, c1, c2]]
      have d1 : decide (p.num < acked) = true := by simp [c1]
      have d2 : decide (p.num ≤ acked - 3) = true := by simp [c2]
      go_enter Try.func36, Try.ntmps36
      go_wp2_with fail
      generalize w.alloc (.cells #[.int .i64 p.num, .int .i64 p.size, .int .i64 p.at_, .bool p.el] 68) = w1 at *
      go_quiet (fail)
      go_wp2
      go_ret
      exact ⟨rfl, below_drewN hal _⟩
    · by_cases c3 : p.at_ ≤ now - d
      · simp only [show lostB acked now d p = true by simp [lostB, c1, c2, c3]]
        have d1 : decide (p.num < acked) = true := by simp [c1]
        have d2 : decide (p.num ≤ acked - 3) = false := by simp [c2]
        have d3 : decide (p.at_ ≤ now - d) = true := by simp [c3]
        go_enter Try.func36, Try.ntmps36
        go_wp2_with fail
        generalize w.alloc (.cells #[.int .i64 p.num, .int .i64 p.size, .int .i64 p.at_, .bool p.el] 68) = w1 at *
        go_quiet (fail)
        go_wp2
        go_ret
        exact ⟨rfl, below_drewN hal _⟩
      · simp only [show lostB acked now d p = false by simp [lostB, c1, c2, c3]]
        have d1 : decide (p.num < acked) = true := by simp [c1]
        have d2 : decide (p.num ≤ acked - 3) = false := by simp [c2]
        have d3 : decide (p.at_ ≤ now - d) = false := by simp [c3]
        go_enter Try.func36, Try.ntmps36
        go_wp2_with fail
        generalize w.alloc (.cells #[.int .i64 p.num, .int .i64 p.size, .int .i64 p.at_, .bool p.el] 68) = w1 at *
        go_quiet (fail)
        go_wp2
        go_ret
        exact ⟨rfl, below_drewN hal _⟩
  · simp only [show lostB acked now d p = false by simp [lostB, c1]]
    have d1 : decide (p.num < acked) = false := by simp [c1]
    go_enter Try.func36, Try.ntmps36
    go_wp2_with fail
    generalize w.alloc (.cells #[.int .i64 p.num, .int .i64 p.size, .int .i64 p.at_, .bool p.el] 68) = w1 at *
    go_quiet (fail)
    go_wp2
    go_ret
    exact ⟨rfl, below_drewN hal _⟩
end Go.Proofs.Ytkpeegcpicckjaa

/- Contracts of varint.Size and of the closure that frame's source.one defers. No condition. -/
import Derived.Test.YtppkilkfmclpkaaFrItems
import Derived.Recover
import Derived.Laws.Pointers
namespace Go.Proofs.Ytppkilkfmclpkaa
open Go.RowKit

set_option maxRecDepth 100000 in
theorem vsize_any (w : World) (n : Nat) (h : n < 4611686018427387904) : Calls Try.prog 52 #[.int .i64 (n : Int)] w (IntOf w (szN n : Int)) := by
  have HC := Lib.hid (class_any w n h)
  have HS : Hid (clN n = 0 ∧ szN n = 1 ∨ clN n = 1 ∧ szN n = 2 ∨ clN n = 2 ∧ szN n = 4 ∨ clN n = 3 ∧ szN n = 8) := Lib.hid (by rcases szN_cs n with h | h | h | h <;> omega)
  clear h
  go_enter Try.func52, Try.ntmps52
  go_wp2_with fail
  refine HC.out.mono ?_
  rintro e w2 ⟨rfl, hb2⟩
  have HB2 := Lib.hid hb2
  clear hb2
  rcases HS.out with ⟨h1, h2⟩ | ⟨h1, h2⟩ | ⟨h1, h2⟩ | ⟨h1, h2⟩
  all_goals
    rw [h1]
    have H2 := Lib.hid h2
    clear h1 h2
    go_wp2
    go_ret
    exact ⟨by rw [H2.out]; rfl, HB2.out⟩
set_option maxRecDepth 100000 in
theorem one_idle (w : World) (gf ge : Nat) : CallsD Try.prog 50 #[.pointer (some ⟨gf, 0, none⟩), .pointer (some ⟨ge, 0, none⟩)] .returning w fun e u' w' => e = .returned (.tuple #[]) ∧ u' = .returning ∧ w' = w := by
  refine callsD_of_wpS Try.func50 rfl fun c₀ cs hu => ?_
  apply wpS_seq
  apply wpS_region
  simp [wpOpsS, go_sem, recoverD, hu, Try.ntmps50, Exit.thenS]
  refine wpS_of_wp ?_
  go_wp2
  cases c₀
  simp_all [bodyPostS, results, Try.results50]
theorem run_broken (v : Value) (w : World) : (Instr.typeAssert (.iface 88 v) 20 88 true).run Try.prog w = .ok (.tuple #[v, .bool true]) w := by
  simp [Instr.typeAssert, run_underlying Try.underlying88]
/-- the closure where the frame's reading has panicked -/
def CatchP (w : World) (gf ge : Nat) (x : Int) (older : List PanicEntry) (e : Ending) (u' : FrameMode) (w' : World) : Prop :=
  e = .returned (.tuple #[]) ∧ u' = .panicking ({ v := .iface 88 (.agg #[.int .i64 x]), recovered := true } :: older) ∧ Has w' gf 26 (fcells fzero azero) ∧ Has w' ge 28 [.int .i64 x] ∧ Kept (fun k => k = gf ∨ k = ge) w w'
set_option maxRecDepth 100000 in
set_option maxHeartbeats 4000000 in
theorem one_catch (w : World) {gf ge : Nat} {us : List Value} {z x : Int} (hf : Has w gf 26 us) (hl : us.length = 13) (he : Has w ge 28 [.int .i64 z]) (older : List PanicEntry) :
    CallsD Try.prog 50 #[.pointer (some ⟨gf, 0, none⟩), .pointer (some ⟨ge, 0, none⟩)] (.panicking ({ v := .iface 88 (.agg #[.int .i64 x]), recovered := false } :: older)) w (CatchP w gf ge x older) := by
  obtain ⟨w2, hw2⟩ : ∃ w2, w2 = w.alloc (.cells #[.int .i64 x] 88) := ⟨_, rfl⟩
  obtain ⟨xb, hxb⟩ : ∃ xb, xb = w.heap.size := ⟨_, rfl⟩
  have hal : Below w.heap.size w w2 := by rw [hw2]; exact alB w _
  have hX : Has w2 xb 88 [.int .i64 x] := by rw [hw2, hxb]; exact Has.new _ _ _
  have hF : Has w2 gf 26 us := hf.kept (X := none') (Kept.of_below hal) (fun h => h)
  have hE : Has w2 ge 28 [.int .i64 z] := he.kept (X := none') (Kept.of_below hal) (fun h => h)
  have HX := Lib.hid hX
  have HF := Lib.hid hF
  have HE := Lib.hid hE
  have HL := Lib.hid hl
  have HB := Lib.hid hal
  clear hal hX hF hE hf hl he
  refine callsD_of_wpS Try.func50 rfl fun c₀ cs hu => ?_
  apply wpS_seq
  apply wpS_region
  simp [wpOpsS, go_sem, recoverD, hu, Try.ntmps50, Exit.thenS]
  refine wpS_of_wp ?_
  change Code.wp Try.prog _ _ ⟨#[.pointer (some ⟨gf, 0, none⟩), .pointer (some ⟨ge, 0, none⟩), undef, undef, undef, .iface 88 (.agg #[.int .i64 x]), undef, undef, undef, undef, undef, undef, undef, undef], []⟩ w
  have hta := run_broken
  go_upto_region 7 with fail
  rw [← hw2, ← hxb]
  have hx := HX.out.cell 0 rfl
  have hmode := Lib.hid hu
  clear hw2 hxb hta hu
  obtain ⟨w3, hw3⟩ : ∃ w3, w3 = w2.drew := ⟨_, rfl⟩
  have HX3 : Hid (Has w2.drew xb 88 [.int .i64 x]) := Lib.hid (HX.out.kept (X := none') (Kept.drew _ _) (fun h => h))
  have HF3 : Hid (Has w2.drew gf 26 us) := Lib.hid (HF.out.kept (X := none') (Kept.drew _ _) (fun h => h))
  have HE3 : Hid (Has w2.drew ge 28 [.int .i64 z]) := Lib.hid (HE.out.kept (X := none') (Kept.drew _ _) (fun h => h))
  have HK3 : Hid (Kept (fun k => k = gf ∨ k = ge) w w2.drew) := Lib.hid ((Kept.of_below HB.out).trans (Kept.drew none' _) (fun _ _ h => h.elim))
  refine Mx.region [] (fun w' => w'.cell? ⟨xb, 0, none⟩ = some (.int .i64 x)) (by kernel_rfl) (by kernel_rfl) (HX3.out.cell 0 rfl) ?_
  repeat ((first | (refine Mx.skips (by kernel_rfl) ?_; go_big_quiet_skip) | (refine Mx.quietly rfl ?_; go_big_quiet_want; go_big_quiet_op; go_big_quiet_on)); refine Mx.done ?_)
  refine Mx.cell ⟨xb, 0, none⟩ (.int .i64 x) (by kernel_rfl) (by kernel_rfl) (by kernel_rfl) Try.isAgg28 (fun w' h => h) ?_
  go_big_quiet_want; go_big_quiet_op; go_big_quiet_on; refine Mx.done ?_
  clear hw3
  have hne : gf ≠ ge := has_ne HF3.out HE3.out (by decide)
  have hnx : xb ≠ gf := has_ne HX3.out HF3.out (by decide)
  have hnx2 : xb ≠ ge := has_ne HX3.out HE3.out (by decide)
  have h1 : Array.all (#[.int .i64 0, .int .i64 0, .int .i64 0, .int .i64 0, .int .i64 0, .bool false, .slice none 0 0, .slice none 0 0, .slice none 0 0, .int .i64 0, .int .i64 0, .int .i64 0, .int .i64 0] : Array Value) (·.oneCell') = true := by simp [Value.oneCell']
  have hth : w2.drew.there gf 0 13 := HF3.out.there HL.out.symm
  have hk4 := Kept.sets gf (fcells fzero azero) 0 w2.drew
  have HF4 : Hid (Has (w2.drew.setCells gf 0 (fcells fzero azero)) gf 26 (fcells fzero azero)) := Lib.hid (HF3.out.store (by rw [HL.out]; rfl))
  have HE4 : Hid (Has (w2.drew.setCells gf 0 (fcells fzero azero)) ge 28 [.int .i64 z]) := Lib.hid (HE3.out.kept hk4 (fun e => hne e.symm))
  have HX4 : Hid (Has (w2.drew.setCells gf 0 (fcells fzero azero)) xb 88 [.int .i64 x]) := Lib.hid (HX3.out.kept hk4 (fun e => hnx e))
  have HK4 : Hid (Kept (fun k => k = gf ∨ k = ge) w (w2.drew.setCells gf 0 (fcells fzero azero))) := Lib.hid (HK3.out.trans hk4 (fun _ _ h => .inl h))
  have HNe := Lib.hid (And.intro hne (And.intro hnx hnx2))
  clear hk4 hne hnx hnx2 hx
  refine Mx.loudly (by kernel_rfl) (by kernel_rfl) ?_
  refine wpList_store_mid rfl 26 (.tmp 0) (.tmp 11) rfl gf 0 #[.int .i64 0, .int .i64 0, .int .i64 0, .int .i64 0, .int .i64 0, .bool false, .slice none 0 0, .slice none 0 0, .slice none 0 0, .int .i64 0, .int .i64 0, .int .i64 0, .int .i64 0] rfl rfl hth infoFr h1 ?_
  clear hth h1
  obtain ⟨w4, hw4⟩ : ∃ w4, w4 = w2.drew.setCells gf 0 (fcells fzero azero) := ⟨_, rfl⟩
  rw [← hw4] at HF4 HE4 HX4 HK4
  have e4 : w2.drew.setCells gf 0 (#[.int .i64 0, .int .i64 0, .int .i64 0, .int .i64 0, .int .i64 0, .bool false, .slice none 0 0, .slice none 0 0, .slice none 0 0, .int .i64 0, .int .i64 0, .int .i64 0, .int .i64 0] : Array Value).toList = w4 := hw4.symm
  rw [e4]
  clear e4 hw4 HX3 HF3 HE3 HK3
  have hs4 := HX4.out.cell 0 rfl
  go_wp2_with fail
  (try (refine ⟨hs4, ?_⟩))
  have c4 := HE4.out.cell 0 rfl
  have b4 := HE4.out.free 0
  have hk5 := Kept.set w4 ge 0 (.int .i64 x)
  have hs5 := (HX4.out.kept hk5 (fun e => HNe.out.2.2 e)).cell 0 rfl
  have HF5 := Lib.hid (HF4.out.kept hk5 (fun e => HNe.out.1 e))
  have HE5 : Hid (Has (w4.setCell ⟨ge, 0, none⟩ (.int .i64 x)) ge 28 [.int .i64 x]) := Lib.hid (HE4.out.set 0 (.int .i64 x))
  have HK5 := Lib.hid (HK4.out.trans hk5 (fun _ _ h => .inr h))
  clear hk5
  refine Mx.loudly (by kernel_rfl) (by kernel_rfl) ?_
  go_wp2_with fail
  (try (refine ⟨hs5, ?_⟩))
  refine Mx.nil ?_
  obtain ⟨w5, hw5⟩ : ∃ w5, w5 = w4.setCell ⟨ge, 0, none⟩ (.int .i64 x) := ⟨_, rfl⟩
  rw [← hw5] at HF5 HE5 HK5 ⊢
  clear hw5 hs4 hs5 c4 b4
  go_wp2_with fail
  have hP : CatchP w gf ge x older (.returned (.tuple #[])) (.panicking ({ v := .iface 88 (.agg #[.int .i64 x]), recovered := true } :: older)) w5 := ⟨rfl, rfl, HF5.out, HE5.out, HK5.out⟩
  clear HNe HK4 HX4 HE4 HF4 HK5 HE5 HF5 hmode
  simp [bodyPostS, results, Try.results50, hP]
end Go.Proofs.Ytppkilkfmclpkaa

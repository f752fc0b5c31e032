/- Contracts of hframe's small functions over a reader: New, Feed, Clone, known, and of the first headers frame. No condition but the sizes. -/
import Derived.Test.YtbplmnmkgkgkhaaTail
import Derived.Test.YtbplmnmkgkgkhaaVnGet
import Derived.Test.YtbplmnmkgkgkhaaWalk
namespace Go.Proofs.Ytbplmnmkgkgkhaa
open Go.RowKit

def Fat (F : Nat → Prop) (w w' : World) : Nat → Prop := fun k => F k ∨ (w.heap.size ≤ k ∧ k < w'.heap.size)
/-- a reader -/
structure Rd where
  req : Bool
  limit : Int
  b : List UInt8
  ended : Bool
  done : Bool
  fault : Int
  heads : Int
  settled : Bool
  left : Nat
  passing : Bool
def rcells (R : Rd) (ba : Option Addr) (bc : Nat) : List Value :=
  [.bool R.req, .int .i64 R.limit, .slice ba R.b.length bc, .bool R.ended, .bool R.done, .int .i64 R.fault, .int .i64 R.heads, .bool R.settled, .int .i64 (R.left : Int), .bool R.passing]
/-- the reader lies at g, its bytes at ba -/
structure RB (w : World) (g : Nat) (R : Rd) (ba : Option Addr) (bc : Nat) : Prop where
  has : Has w g 63 (rcells R ba bc)
  row : Tl w ba R.b.length bc (bv R.b)
  ne : ∀ ad, ba = some ad → ad.block ≠ g
theorem RB.kept {X : Nat → Prop} {w w' : World} {g : Nat} {R : Rd} {ba : Option Addr} {bc : Nat} (h : RB w g R ba bc) (hk : Kept X w w') (hg : ¬ X g) (hx : ∀ ad, ba = some ad → ¬ X ad.block) : RB w' g R ba bc := ⟨h.has.kept hk hg, h.row.kept hk hx, h.ne⟩
theorem RB.below {w w' : World} {g : Nat} {R : Rd} {ba : Option Addr} {bc : Nat} (h : RB w g R ba bc) (hb : Below w.heap.size w w') : RB w' g R ba bc := h.kept (X := none') (Kept.of_below hb) (fun h => h) (fun _ _ h => h)
def RAt (F : Nat → Prop) (w : World) (g : Nat) (R : Rd) : Prop := ∃ ba bc, RB w g R ba bc ∧ F g ∧ ∀ ad, ba = some ad → F ad.block
theorem RAt.kept {F X : Nat → Prop} {w w' : World} {g : Nat} {R : Rd} (h : RAt F w g R) (hk : Kept X w w') (hx : ∀ k, F k → k < w.heap.size → ¬ X k) : RAt F w' g R := by
  obtain ⟨ba, bc, hb, fg, fb⟩ := h
  exact ⟨ba, bc, hb.kept hk (hx g fg hb.has.lt) (fun ad ha => hx _ (fb ad ha) (hb.row.lt ad ha)), fg, fb⟩
theorem RAt.below {F : Nat → Prop} {w w' : World} {g : Nat} {R : Rd} (h : RAt F w g R) (hb : Below w.heap.size w w') : RAt F w' g R := h.kept (X := none') (Kept.of_below hb) (fun _ _ _ h => h)
theorem RAt.more {F G : Nat → Prop} {w : World} {g : Nat} {R : Rd} (h : RAt F w g R) (hF : ∀ k, F k → k < w.heap.size → G k) : RAt G w g R := by
  obtain ⟨ba, bc, hb, fg, fb⟩ := h
  exact ⟨ba, bc, hb, hF g fg hb.has.lt, fun ad ha => hF _ (fb ad ha) (hb.row.lt ad ha)⟩
def Rd.new (req : Bool) (limit : Int) : Rd := ⟨req, limit, [], false, false, 0, 0, false, 0, false⟩

set_option maxRecDepth 100000 in
theorem new_ok (w : World) (kind : Int) (hk : kind = 1 ∨ kind = 2) (limit : Int) (h0 : 0 ≤ limit) (h1 : limit ≤ 1048576) :
    Calls Try.prog 19 #[.int .i64 kind, .int .i64 limit] w fun e w' => ∃ g, e = .returned (.tuple #[.pointer (some ⟨g, 0, none⟩), .int .i64 0]) ∧ RAt (fun k => w.heap.size ≤ k ∧ k < w'.heap.size) w' g (Rd.new (kind == 1) limit) ∧ Below w.heap.size w w' := by
  have l0 : ¬ limit < 0 := by omega
  have l1 : ¬ 1048576 < limit := by omega
  have key : ∀ rq : Bool, ∃ g, Ending.returned (.tuple #[.pointer (some ⟨w.heap.size, 0, none⟩), .int .i64 0]) = .returned (.tuple #[.pointer (some ⟨g, 0, none⟩), .int .i64 0]) ∧ RAt (fun k => w.heap.size ≤ k ∧ k < (w.alloc (.cells #[.bool rq, .int .i64 limit, .slice none 0 0, .bool false, .bool false, .int .i64 0, .int .i64 0, .bool false, .int .i64 0, .bool false] 63)).heap.size) (w.alloc (.cells #[.bool rq, .int .i64 limit, .slice none 0 0, .bool false, .bool false, .int .i64 0, .int .i64 0, .bool false, .int .i64 0, .bool false] 63)) g (Rd.new rq limit) ∧ Below w.heap.size w (w.alloc (.cells #[.bool rq, .int .i64 limit, .slice none 0 0, .bool false, .bool false, .int .i64 0, .int .i64 0, .bool false, .int .i64 0, .bool false] 63)) := fun rq =>
    ⟨w.heap.size, rfl, ⟨none, 0, ⟨Has.new _ _ _, Tl.nil _, by simp⟩, ⟨Nat.le_refl _, by simp⟩, by simp⟩, (Below.refl _ _).alloc (Nat.le_refl _) _⟩
  have HK := Lib.hid key
  clear key
  rcases hk with rfl | rfl
  · go_enter Try.func19, Try.ntmps19
    go_wp2
    go_ret2
    exact HK.out true
  · go_enter Try.func19, Try.ntmps19
    go_wp2
    go_ret2
    exact HK.out false

set_option maxRecDepth 100000 in
set_option maxHeartbeats 1000000 in
theorem feed_ok (w : World) {F : Nat → Prop} {g : Nat} {R : Rd} (hR : RAt F w g R) (he : R.ended = false) {a : Option Addr} {n c : Nat} {l : List UInt8} (hS : Sl w a n c (bv l)) (hsz : R.b.length + n ≤ 140737488355328) :
    Calls Try.prog 20 #[.pointer (some ⟨g, 0, none⟩), .slice a n c] w fun e w' => e = .returned (.int .i64 0) ∧ Kept F w w' ∧ RAt (Fat F w w') w' g { R with b := R.b ++ l } := by
  obtain ⟨ba, bc, hb, fg, fb⟩ := hR
  obtain ⟨a4, c4, w4, hr4, ht4, hg4, hw4⟩ := run_app_tl (tyo := 22) hb.row hS (bv_one _) hsz
  have c3 : w.cell? ⟨g, 3, none⟩ = some (.bool false) := by rw [← he]; exact hb.has.cell 3 rfl
  have c2 := hb.has.cell 2 rfl
  have k4 : Kept (fun k => ∃ ad, ba = some ad ∧ k = ad.block) w w4 := (Kept.of_grown hg4).more (fun k _ e => by
    cases hba : ba with
    | none => rw [hba] at e; cases e
    | some ad => rw [hba] at e; simp only [Value.ownBlock, Option.some.injEq] at e; exact ⟨ad, rfl, e.symm⟩)
  have hH4 := hb.has.kept k4 (fun ⟨ad, ha, e⟩ => hb.ne ad ha e.symm)
  have d2 := hH4.cell 2 rfl
  have d2f := hH4.free 2
  have k5 := Kept.set w4 g 2 (.slice a4 (R.b.length + n) c4)
  have hH5 := hH4.set 2 (.slice a4 (R.b.length + n) c4)
  have hne : ∀ ad, a4 = some ad → ad.block ≠ g := fun ad ha e => by
    rcases hw4 ad ha with ⟨x, hx, hxe⟩ | hx
    · exact hb.ne x hx (by omega)
    · have := hb.has.lt; omega
  have hlen : (R.b ++ l).length = R.b.length + n := by rw [List.length_append, hS.byte]
  have HFin : Hid (Kept F w (w4.setCell ⟨g, 2, none⟩ (.slice a4 (R.b.length + n) c4)) ∧ RAt (Fat F w (w4.setCell ⟨g, 2, none⟩ (.slice a4 (R.b.length + n) c4))) (w4.setCell ⟨g, 2, none⟩ (.slice a4 (R.b.length + n) c4)) g { R with b := R.b ++ l }) := Lib.hid (by
    refine ⟨(k4.more (Y := F) (fun k _ ⟨ad, ha, e⟩ => by rw [e]; exact fb ad ha)).trans k5 (fun k _ e => by rw [e]; exact fg), a4, c4, ⟨?_, ?_, hne⟩, .inl fg, fun ad ha => ?_⟩
    · have e : rcells { R with b := R.b ++ l } a4 c4 = (rcells R ba bc).set 2 (.slice a4 (R.b.length + n) c4) := by simp only [rcells]; rw [hlen]; rfl
      rw [e]; exact hH5
    · rw [hlen, bv_append]
      exact ht4.kept k5 (fun ad ha e => hne ad ha e)
    · rcases hw4 ad ha with ⟨x, hx, hxe⟩ | hx
      · exact .inl (by rw [← hxe]; exact fb x hx)
      · exact .inr ⟨hx, by have := ht4.lt ad ha; simpa [World.setCell] using this⟩)
  clear hsz ht4 hg4 hw4 k4 hH4 k5 hH5 hne hlen hb
  go_enter Try.func20, Try.ntmps20
  go_wp2_with (at_builtin; refine Lib.wpList_append_run _ rfl _ _ _ _ rfl (.slice ba R.b.length bc) (.slice a n c) rfl rfl _ _ hr4 ?_)
  go_ret
  exact ⟨rfl, HFin.out.1, HFin.out.2⟩

set_option maxRecDepth 100000 in
theorem clone_any (w : World) {a : Option Addr} {n c : Nat} {l : List UInt8} (h : Sl w a n c (bv l)) (hn : n ≤ 140737488351232) :
    Calls Try.prog 27 #[.slice a n c] w fun e w' => ∃ a' c', e = .returned (.slice a' n c') ∧ w'.ownsRow w.heap.size 5 1 (.slice a' n c') n (bv l) ∧ Below w.heap.size w w' := by
  cases a with
  | none =>
    have hc := h.nil rfl
    subst hc
    have hn0 : n = 0 := by have := h.cap_le; omega
    subst hn0
    obtain rfl : l = [] := List.eq_nil_of_length_eq_zero h.byte
    have hq : ∀ w, (binOp .eql 22 (.slice none 0 0) (.slice none 0 0)).run Try.prog w = .ok (.bool true) w := fun w => Lib.run_eql_slice_nil w _ _ none 0 0 0 0 Try.underlying22
    go_enter Try.func27, Try.ntmps27
    go_wp2
    go_ret
    exact ⟨none, 0, rfl, World.ownsRow_nil _ _ _ _, Below.refl _ _⟩
  | some ad =>
    have hb0 : Below w.heap.size w (w.alloc (.cells #[] 5)) := (Below.refl _ w).alloc (Nat.le_refl _) _
    have ho0 : (w.alloc (.cells #[] 5)).ownsRow w.heap.size 5 1 (.slice (some ⟨w.heap.size, 0, none⟩) 0 0) 0 [] := ⟨rfl, .inr ⟨_, 0, #[], rfl, Nat.le_refl _, heap_alloc_new w _, Nat.le_refl _, by decide, rfl, rfl⟩⟩
    have hs0 := h.below hb0
    obtain ⟨a', c', w2, hr, ho2, hg2, _⟩ := run_app_own (tyo := 22) tyU8 (B := w.heap.size) ho0 hs0 (bv_one l) (by omega) (by unfold maxLen; omega) (by simp)
    simp only [Nat.zero_add, List.nil_append] at hr ho2
    have hb2 : Below w.heap.size w w2 := hb0.grown hg2 (by simp) (fun k hk => by cases hk; exact Nat.le_refl _)
    have hq : ∀ w, (binOp .eql 22 (.slice (some ad) n c) (.slice none 0 0)).run Try.prog w = .ok (.bool false) w := fun w => Lib.run_eql_slice_nil w _ _ (some ad) n c 0 0 Try.underlying22
    clear hs0 ho0 hg2
    go_enter Try.func27, Try.ntmps27
    go_wp2_with (at_builtin; refine Lib.wpList_append_run _ rfl _ _ _ _ rfl _ _ rfl rfl _ _ hr ?_)
    go_wp2
    go_ret
    exact ⟨a', c', rfl, ho2, hb2⟩
end Go.Proofs.Ytbplmnmkgkgkhaa

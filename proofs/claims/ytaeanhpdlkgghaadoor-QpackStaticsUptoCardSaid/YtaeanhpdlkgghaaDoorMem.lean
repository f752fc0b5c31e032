/- Memory words that the walks share: a slice that reads as a list, a slice that the call owns, and how they last. No condition: plain lemmas. -/
import Derived.Test.YtaeanhpdlkgghaaDoorRows
import Derived.WalkKit
import Derived.ProofKit
import Derived.OpenShut
import Derived.WalkSpells
import Derived.WalkLawsBesides
import Derived.Lib.Hide
import Derived.Deep.QuietTactic
import Derived.BigQuiet
import Derived.Laws.CopyOwn
import Derived.WalkSmall
namespace Go.Proofs.YtaeanhpdlkgghaaDoor
open Go.RowKit

theorem ret_bool {a b : Bool} (h : a = b) : Ending.returned (.bool a) = .returned (.bool b) := by rw [h]
theorem ret_int {k : IntKind} {a b : Int} (h : a = b) : Ending.returned (.int k a) = .returned (.int k b) := by rw [h]

/-- bytes as cells -/
def bv (l : List UInt8) : List Value := l.map fun b => Value.int .u8 (b.toNat : Int)
theorem bv_length (l : List UInt8) : (bv l).length = l.length := by simp [bv]
theorem bv_get (l : List UInt8) (i : Nat) (h : i < l.length) : (bv l)[i]? = some (.int .u8 (l[i].toNat : Int)) := by simp [bv, h]
theorem bv_append (l m : List UInt8) : bv (l ++ m) = bv l ++ bv m := by simp [bv]
theorem bv_take (l : List UInt8) (k : Nat) : bv (l.take k) = (bv l).take k := by simp [bv, List.map_take]
theorem bv_drop (l : List UInt8) (k : Nat) : bv (l.drop k) = (bv l).drop k := by simp [bv, List.map_drop]
theorem bv_one (l : List UInt8) : ∀ u ∈ bv l, u.oneCell' = true := by
  intro u hu
  simp only [bv, List.mem_map] at hu
  obtain ⟨b, _, rfl⟩ := hu
  rfl
theorem u8_inj {x y : UInt8} (h : (x.toNat : Int) = (y.toNat : Int)) : x = y := UInt8.toNat_inj.1 (by omega)

/-- In w the slice (a, n, cap) reads as the cells xs (elements of one cell). Nil slices are let in. -/
structure Sl (w : World) (a : Option Addr) (n cap : Nat) (xs : List Value) : Prop where
  len : xs.length = n
  cap_le : n ≤ cap
  cap_max : cap ≤ maxLen
  nil : a = none → cap = 0
  cells : 0 < n → ∃ b off, a = some ⟨b, off, none⟩ ∧ ∀ i, i < n → w.cell? ⟨b, off + i, none⟩ = xs[i]?

theorem Sl.below {w w' : World} {a : Option Addr} {n cap : Nat} {xs : List Value} (h : Sl w a n cap xs) (hb : Below w.heap.size w w') : Sl w' a n cap xs := by
  refine ⟨h.len, h.cap_le, h.cap_max, h.nil, fun hn => ?_⟩
  obtain ⟨b, off, rfl, hc⟩ := h.cells hn
  refine ⟨b, off, rfl, fun i hi => ?_⟩
  have h1 := hc i hi
  have hx : xs[i]? = some (xs[i]'(by rw [h.len]; exact hi)) := List.getElem?_eq_getElem _
  rw [hx] at h1 ⊢
  have hlt := World.block_lt_of_cell? w _ h1
  rw [hb.cell hlt]
  exact h1

theorem Sl.empty (w : World) : Sl w none 0 0 [] := ⟨rfl, Nat.le_refl _, Nat.zero_le _, fun _ => rfl, fun h => absurd h (Nat.lt_irrefl _)⟩

theorem Sl.byte {w : World} {a : Option Addr} {n cap : Nat} {l : List UInt8} (h : Sl w a n cap (bv l)) : l.length = n := by have := h.len; rwa [bv_length] at this

/-- what is owned reads as its cells -/
theorem own_sl {w : World} {B e : Nat} {a : Option Addr} {n cap : Nat} {xs : List Value} (h : w.ownsRow B e 1 (.slice a n cap) n xs) : Sl w a n cap xs := by
  obtain ⟨h1, h2⟩ := h
  rcases h2 with ⟨h2, rfl⟩ | ⟨g, cap', cur, h2, hB, hg, hnc, hcm, hcs, ht⟩
  · simp only [Value.slice.injEq] at h2
    obtain ⟨rfl, _, rfl⟩ := h2
    have : xs = [] := List.eq_nil_of_length_eq_zero (by simpa using h1)
    subst this
    exact Sl.empty w
  · simp only [Value.slice.injEq, true_and] at h2
    obtain ⟨rfl, rfl⟩ := h2
    refine ⟨by simpa using h1, hnc, hcm, by simp, fun hn => ⟨g, 0, rfl, fun i hi => ?_⟩⟩
    rw [Nat.zero_add, cell_of_row w g i cur e (0, 0) hg, ← ht, List.getElem?_take, if_pos (by omega), Array.getElem?_toList]

/-- an owned value is a slice -/
theorem own_slice {w : World} {B e s : Nat} {v : Value} {n : Nat} {xs : List Value} (h : w.ownsRow B e s v n xs) : ∃ a cap, v = .slice a n cap := by
  rcases h.2 with ⟨rfl, rfl⟩ | ⟨g, cap, cur, rfl, _⟩
  · exact ⟨none, 0, rfl⟩
  · exact ⟨_, _, rfl⟩

theorem own_mono {w : World} {B B' e s : Nat} {v : Value} {n : Nat} {xs : List Value} (h : w.ownsRow B e s v n xs) (hB : B' ≤ B) : w.ownsRow B' e s v n xs := by
  refine ⟨h.1, ?_⟩
  rcases h.2 with h2 | ⟨g, cap, cur, hv, hb, r⟩
  · exact .inl h2
  · exact .inr ⟨g, cap, cur, hv, by omega, r⟩

/-- what is owned below a bound stays owned while what lies below the bound stays -/
theorem own_below {w w' : World} {B e s : Nat} {v : Value} {n : Nat} {xs : List Value} (h : w.ownsRow B e s v n xs) (hb : Below w.heap.size w w') : w'.ownsRow B e s v n xs := by
  refine ⟨h.1, ?_⟩
  rcases h.2 with h2 | ⟨g, cap, cur, hv, hB, hg, r⟩
  · exact .inl h2
  · exact .inr ⟨g, cap, cur, hv, hB, by rw [hb.block g (Array.getElem?_eq_some_iff.1 hg).1]; exact hg, r⟩

/-- the facts on a slice type and its element type (elements of one cell) -/
structure ETy (P : Program) (t e : TypeId) (z : Value) (bytes : Nat) : Prop where
  ht : P.underlying t = some (.slice e)
  ex : ∃ i, P.info? e = some i ∧ i.zero = some z ∧ i.size = 1 ∧ i.bytes = bytes
  hz : z.cells.size = 1

/-- 'append(s, x...)', s the call's own, x reads as xs2 (nil let in). -/
theorem wpO_app {P : Program} {t e : TypeId} {z : Value} {bytes : Nat} (ty : ETy P t e z bytes) {B B0 : Nat} {w0 w : World} {o : Oper} {a : Act} {K : Act → World → Prop} {Q : Exit → Act → World → Prop}
    (s x : Operand) (ho : o.op = .call { callee := .builtin .append, args := #[s, x], argTypes := #[t, t] })
    {a1 : Option Addr} {n1 c1 : Nat} {xs1 : List Value} {a2 : Option Addr} {n2 c2 : Nat} {xs2 : List Value}
    (hs : a.eval s = .slice a1 n1 c1) (hx : a.eval x = .slice a2 n2 c2)
    (hown : w.ownsRow B e 1 (.slice a1 n1 c1) n1 xs1) (h2 : Sl w a2 n2 c2 xs2) (h1 : ∀ u ∈ xs2, u.oneCell' = true)
    (hsz : (n1 + n2) * bytes ≤ 140737488355328) (hmx : n1 + n2 ≤ maxLen) (hb : Below B0 w0 w) (hB0 : B0 ≤ B) (hBw : B ≤ w.heap.size)
    (h : ∀ a' c' w', w'.ownsRow B e 1 (.slice a' (n1 + n2) c') (n1 + n2) (xs1 ++ xs2) → Below B0 w0 w' → w.grownBy w' (Value.ownBlock (.slice a1 n1 c1)) →
      K (a.put o.dst (.slice a' (n1 + n2) c')) w') : o.wp P a w K Q := by
  obtain ⟨i, hi, hz, hsize, hby⟩ := ty.ex
  cases a2 with
  | none =>
    have hc2 := h2.nil rfl
    have hn2 : n2 = 0 := by have := h2.cap_le; omega
    subst hn2; subst hc2
    have hnil : xs2 = [] := List.eq_nil_of_length_eq_zero h2.len
    subst hnil
    have hrun := run_append_owned_none (P := P) w B t o.type e i 1 ty.ht hi _ n1 xs1 hown
    unfold Oper.wp
    simp [execOp, ho, resolve, invoke, builtin, hs, hx, hrun, Result.andThen]
    have hk := h a1 c1 w (by simpa using hown) hb (World.grownBy.refl _ _)
    simpa [Oper.upon] using hk
  | some ad =>
    have hnews : ∀ j u, xs2[j]? = some u → w.cell? (ad.add j) = some u := by
      intro j u hu
      have hj : j < n2 := by have := (List.getElem?_eq_some_iff.1 hu).1; have := h2.len; omega
      obtain ⟨b, off, hab, hc⟩ := h2.cells (by omega)
      simp only [Option.some.injEq] at hab
      subst hab
      have := hc j hj
      rw [hu] at this
      rw [← this]
      unfold Addr.add
      split
      · rename_i h0; subst h0; rfl
      · rfl
    refine wp_append_own w s x t ho B e i z 1 bytes ty.ht hi hz hsize hby ty.hz (by decide) (.slice a1 n1 c1) n1 xs1 hs hown ad n2 c2 xs2 hx (by simpa using h2.len) hnews h1 hmx hsz hBw ?_
    intro v' w' hown' hgr _
    obtain ⟨a', c', rfl⟩ := own_slice hown'
    exact h a' c' w' hown' (hb.grown hgr (by omega) (fun k hk => by have := hown.lt k hk; omega)) hgr
theorem wpL_app {P : Program} {t e : TypeId} {z : Value} {bytes : Nat} (ty : ETy P t e z bytes) {B B0 : Nat} {w0 w : World} {ops : Array Oper} {rest : List Oper} {o : Oper} {a : Act} {Q : Exit → Act → World → Prop} (hgd : o.guard = none)
    (s x : Operand) (ho : o.op = .call { callee := .builtin .append, args := #[s, x], argTypes := #[t, t] })
    {a1 : Option Addr} {n1 c1 : Nat} {xs1 : List Value} {a2 : Option Addr} {n2 c2 : Nat} {xs2 : List Value}
    (hs : a.eval s = .slice a1 n1 c1) (hx : a.eval x = .slice a2 n2 c2)
    (hown : w.ownsRow B e 1 (.slice a1 n1 c1) n1 xs1) (h2 : Sl w a2 n2 c2 xs2) (h1 : ∀ u ∈ xs2, u.oneCell' = true)
    (hsz : (n1 + n2) * bytes ≤ 140737488355328) (hmx : n1 + n2 ≤ maxLen) (hb : Below B0 w0 w) (hB0 : B0 ≤ B) (hBw : B ≤ w.heap.size)
    (h : ∀ a' c' w', w'.ownsRow B e 1 (.slice a' (n1 + n2) c') (n1 + n2) (xs1 ++ xs2) → Below B0 w0 w' → w.grownBy w' (Value.ownBlock (.slice a1 n1 c1)) →
      wpList P ops Q rest (a.put o.dst (.slice a' (n1 + n2) c')) w') : wpList P ops Q (o :: rest) a w :=
  wpList_plain hgd fun _ hK => wpO_app ty s x ho hs hx hown h2 h1 hsz hmx hb hB0 hBw fun a' c' w' g1 g2 g3 => hK _ _ (h a' c' w' g1 g2 g3)
/-- the same as a step of a region that draws its order -/
theorem wpS_app {P : Program} {t e : TypeId} {z : Value} {bytes : Nat} (ty : ETy P t e z bytes) {B B0 : Nat} {w0 w : World} {ops : Array Oper} {o : Oper} {a : Act} {K : Act → World → Prop} {Q : Exit → Act → World → Prop} {E : Prop} (hgd : o.guard = none)
    (s x : Operand) (ho : o.op = .call { callee := .builtin .append, args := #[s, x], argTypes := #[t, t] })
    {a1 : Option Addr} {n1 c1 : Nat} {xs1 : List Value} {a2 : Option Addr} {n2 c2 : Nat} {xs2 : List Value}
    (hs : a.eval s = .slice a1 n1 c1) (hx : a.eval x = .slice a2 n2 c2)
    (hown : w.ownsRow B e 1 (.slice a1 n1 c1) n1 xs1) (h2 : Sl w a2 n2 c2 xs2) (h1 : ∀ u ∈ xs2, u.oneCell' = true)
    (hsz : (n1 + n2) * bytes ≤ 140737488355328) (hmx : n1 + n2 ≤ maxLen) (hb : Below B0 w0 w) (hB0 : B0 ≤ B) (hBw : B ≤ w.heap.size)
    (h : ∀ a' c' w', w'.ownsRow B e 1 (.slice a' (n1 + n2) c') (n1 + n2) (xs1 ++ xs2) → Below B0 w0 w' → w.grownBy w' (Value.ownBlock (.slice a1 n1 c1)) →
      K (a.put o.dst (.slice a' (n1 + n2) c')) w') : if Region.wanted o (yielded ops a.tmps) = true then Oper.wp P o a w K Q else E := by
  rw [if_pos (by simp [Region.wanted, hgd])]
  exact wpO_app ty s x ho hs hx hown h2 h1 hsz hmx hb hB0 hBw h

/-- 'append(s, x)': one element, laid by the walk in a new cell ahead of it. -/
theorem wpO_app1 {P : Program} {t e : TypeId} {z : Value} {bytes : Nat} (ty : ETy P t e z bytes) {B B0 : Nat} {w0 w : World} {o : Oper} {a : Act} {K : Act → World → Prop} {Q : Exit → Act → World → Prop}
    (s x : Operand) (ho : o.op = .call { callee := .builtin .append, args := #[s, x], argTypes := #[t, t] })
    {a1 : Option Addr} {n1 c1 : Nat} {xs1 : List Value} {u : Value}
    (hs : a.eval s = .slice a1 n1 c1) (hx : a.eval x = .slice (some ⟨w.heap.size, 0, none⟩) 1 1)
    (hown : w.ownsRow B e 1 (.slice a1 n1 c1) n1 xs1) (h1 : u.oneCell' = true)
    (hsz : (n1 + 1) * bytes ≤ 140737488355328) (hmx : n1 + 1 ≤ maxLen) (hb : Below B0 w0 w) (hB0 : B0 ≤ B) (hBw : B ≤ w.heap.size)
    (h : ∀ a' c' w', w'.ownsRow B e 1 (.slice a' (n1 + 1) c') (n1 + 1) (xs1 ++ [u]) → Below B0 w0 w' → w.grownBy w' (Value.ownBlock (.slice a1 n1 c1)) →
      K (a.put o.dst (.slice a' (n1 + 1) c')) w') : o.wp P a (w.alloc (.cells #[u] e)) K Q := by
  refine wpO_app ty s x ho (xs2 := [u]) hs hx (hown.alloc _) ?_ (by simpa using h1) hsz hmx (hb.alloc (by omega) _) hB0 (by simp; omega) ?_
  · refine ⟨rfl, Nat.le_refl _, by decide, by simp, fun _ => ⟨_, 0, rfl, fun i hi => ?_⟩⟩
    have : i = 0 := by omega
    subst this
    simp
  · intro a' c' w' h1 h2 h3
    refine h a' c' w' h1 h2 ⟨h3.os.trans rfl, h3.tape.trans rfl, h3.output.trans rfl, by have := h3.size; simp at this; omega, fun k hk hne => (h3.block k (by simp; omega) hne).trans (heap_alloc_old w _ hk)⟩
theorem wpL_app1 {P : Program} {t e : TypeId} {z : Value} {bytes : Nat} (ty : ETy P t e z bytes) {B B0 : Nat} {w0 w : World} {ops : Array Oper} {rest : List Oper} {o : Oper} {a : Act} {Q : Exit → Act → World → Prop} (hgd : o.guard = none)
    (s x : Operand) (ho : o.op = .call { callee := .builtin .append, args := #[s, x], argTypes := #[t, t] })
    {a1 : Option Addr} {n1 c1 : Nat} {xs1 : List Value} {u : Value}
    (hs : a.eval s = .slice a1 n1 c1) (hx : a.eval x = .slice (some ⟨w.heap.size, 0, none⟩) 1 1)
    (hown : w.ownsRow B e 1 (.slice a1 n1 c1) n1 xs1) (h1 : u.oneCell' = true)
    (hsz : (n1 + 1) * bytes ≤ 140737488355328) (hmx : n1 + 1 ≤ maxLen) (hb : Below B0 w0 w) (hB0 : B0 ≤ B) (hBw : B ≤ w.heap.size)
    (h : ∀ a' c' w', w'.ownsRow B e 1 (.slice a' (n1 + 1) c') (n1 + 1) (xs1 ++ [u]) → Below B0 w0 w' → w.grownBy w' (Value.ownBlock (.slice a1 n1 c1)) →
      wpList P ops Q rest (a.put o.dst (.slice a' (n1 + 1) c')) w') : wpList P ops Q (o :: rest) a (w.alloc (.cells #[u] e)) :=
  wpList_plain hgd fun _ hK => wpO_app1 ty s x ho hs hx hown h1 hsz hmx hb hB0 hBw fun a' c' w' g1 g2 g3 => hK _ _ (h a' c' w' g1 g2 g3)
theorem wpS_app1 {P : Program} {t e : TypeId} {z : Value} {bytes : Nat} (ty : ETy P t e z bytes) {B B0 : Nat} {w0 w : World} {ops : Array Oper} {o : Oper} {a : Act} {K : Act → World → Prop} {Q : Exit → Act → World → Prop} {E : Prop} (hgd : o.guard = none)
    (s x : Operand) (ho : o.op = .call { callee := .builtin .append, args := #[s, x], argTypes := #[t, t] })
    {a1 : Option Addr} {n1 c1 : Nat} {xs1 : List Value} {u : Value}
    (hs : a.eval s = .slice a1 n1 c1) (hx : a.eval x = .slice (some ⟨w.heap.size, 0, none⟩) 1 1)
    (hown : w.ownsRow B e 1 (.slice a1 n1 c1) n1 xs1) (h1 : u.oneCell' = true)
    (hsz : (n1 + 1) * bytes ≤ 140737488355328) (hmx : n1 + 1 ≤ maxLen) (hb : Below B0 w0 w) (hB0 : B0 ≤ B) (hBw : B ≤ w.heap.size)
    (h : ∀ a' c' w', w'.ownsRow B e 1 (.slice a' (n1 + 1) c') (n1 + 1) (xs1 ++ [u]) → Below B0 w0 w' → w.grownBy w' (Value.ownBlock (.slice a1 n1 c1)) →
      K (a.put o.dst (.slice a' (n1 + 1) c')) w') : if Region.wanted o (yielded ops a.tmps) = true then Oper.wp P o a (w.alloc (.cells #[u] e)) K Q else E := by
  rw [if_pos (by simp [Region.wanted, hgd])]
  exact wpO_app1 ty s x ho hs hx hown h1 hsz hmx hb hB0 hBw h

/-- 'copy(d, s)', d the call's own from its row's head, s reads as xs2 (nil let in). -/
theorem wpL_copy {P : Program} {t e : TypeId} {z : Value} {bytes : Nat} (ty : ETy P t e z bytes) {B B0 : Nat} {w0 w : World} {ops : Array Oper} {rest : List Oper} {o : Oper} {a : Act} {Q : Exit → Act → World → Prop}
    (hgd : o.guard = none) (d s : Operand) (ho : o.op = .call { callee := .builtin .copy, args := #[d, s], argTypes := #[t, t] })
    {a1 : Option Addr} {n1 c1 : Nat} {xs1 : List Value} {a2 : Option Addr} {n2 c2 : Nat} {xs2 : List Value}
    (hd : a.eval d = .slice a1 n1 c1) (hs : a.eval s = .slice a2 n2 c2)
    (hown : w.ownsRow B e 1 (.slice a1 n1 c1) n1 xs1) (h2 : Sl w a2 n2 c2 xs2) (h1 : ∀ u ∈ xs2, u.oneCell' = true)
    (hb : Below B0 w0 w) (hB0 : B0 ≤ B)
    (h : ∀ w', w'.ownsRow B e 1 (.slice a1 n1 c1) n1 (xs2.take n1 ++ xs1.drop n2) → Below B0 w0 w' → wpList P ops Q rest (a.put o.dst (goInt (Nat.min n2 n1))) w') : wpList P ops Q (o :: rest) a w := by
  obtain ⟨i, hi, hz, hsize, hby⟩ := ty.ex
  have hsz : (P.info? e).map (·.size) = some 1 := by rw [hi]; simp [hsize]
  have hl1 : xs1.length = n1 := by simpa using hown.1
  have hl2 := h2.len
  by_cases hm : Nat.min n2 n1 = 0
  · refine wpList_copy_nothing hgd d s t t ho e ty.ht hsz a1 a2 n1 c1 n2 c2 hd hs hm ?_
    have := h w ?_ hb
    · rw [hm] at this; exact this
    · have e : xs2.take n1 ++ xs1.drop n2 = xs1 := by
        rcases Nat.eq_zero_or_pos n2 with h0 | h0
        · subst h0
          have : xs2 = [] := List.eq_nil_of_length_eq_zero hl2
          subst this; simp
        · have : n1 = 0 := by have hmm : min n2 n1 = 0 := hm; omega
          subst this
          have : xs1 = [] := List.eq_nil_of_length_eq_zero hl1
          subst this; simp
      rw [e]; exact hown
  · have hpos : 0 < n1 ∧ 0 < n2 := by
      rcases Nat.eq_zero_or_pos n1 with h0 | h0
      · subst h0; exact absurd (Nat.min_zero n2) hm
      · rcases Nat.eq_zero_or_pos n2 with h0' | h0'
        · subst h0'; exact absurd (Nat.zero_min n1) hm
        · exact ⟨h0, h0'⟩
    rcases hown.2 with ⟨hv, h0⟩ | ⟨g, cap, cur, hv, hBg, hg, hnc, hcm, hcs, htake⟩
    · omega
    · simp only [Value.slice.injEq, true_and] at hv
      obtain ⟨rfl, rfl⟩ := hv
      obtain ⟨b, off, rfl, hc⟩ := h2.cells hpos.2
      have hcl : (xs2.take n1).length = Nat.min n2 n1 := by rw [List.length_take, hl2, Nat.min_comm]
      have hle : Nat.min n2 n1 ≤ n1 := Nat.min_le_right _ _
      have hfit : 0 + (xs2.take n1).length ≤ cur.size := by rw [hcl, hcs]; omega
      refine wpList_copy_own hgd d s t t ho e ty.ht hsz g 0 n1 c1 ⟨b, off, none⟩ n2 c2 hd hs cur e hg (xs2.take n1) hcl ?_ hfit (fun v hv => h1 v (List.mem_of_mem_take hv)) ?_
      · intro j v hjv
        have hj : j < n2 := by have := (List.getElem?_eq_some_iff.1 hjv).1; rw [List.length_take] at this; omega
        have hx : xs2[j]? = some v := by
          rw [List.getElem?_take] at hjv
          split at hjv
          · exact hjv
          · cases hjv
        have hadd : (⟨b, off, none⟩ : Addr).add j = ⟨b, off + j, none⟩ := by
          unfold Addr.add; split
          · rename_i h; subst h; rfl
          · rfl
        rw [hadd, hc j hj, hx]
      · rw [hcl]
        refine h _ ⟨?_, .inr ⟨g, c1, _, rfl, hBg, setRow_heap w g cur _ e _ hg, hnc, hcm, ?_, ?_⟩⟩ (below_setRow hb (by omega) _)
        · rw [List.length_append, hcl, List.length_drop, hl1]
          have : Nat.min n2 n1 = min n2 n1 := rfl
          omega
        · simp only [List.take_zero, List.nil_append, Nat.zero_add, List.size_toArray, List.length_append, List.length_drop, Array.length_toList, hcl]
          omega
        · have ht : xs1 = cur.toList.take n1 := by rw [← htake]; simp
          simp only [List.take_zero, List.nil_append, Nat.zero_add, Nat.mul_one]
          rw [List.take_append, hcl, List.take_of_length_le (by rw [hcl]; omega), ht, List.drop_take]
          congr 1
          by_cases hc12 : n2 ≤ n1
          · have : Nat.min n2 n1 = n2 := Nat.min_eq_left hc12
            rw [this]
          · have : Nat.min n2 n1 = n1 := Nat.min_eq_right (by omega)
            rw [this, show n1 - n2 = 0 by omega, Nat.sub_self]; simp

theorem i64_and_nat (a b : Nat) (ha : a < 9223372036854775808) (hb : b < 9223372036854775808) : Go.bits .and .i64 (a : Int) (b : Int) = ((a &&& b : Nat) : Int) := by
  have hx : a &&& b < 2 ^ 63 := Nat.and_lt_two_pow _ (by omega)
  show IntKind.i64.wrap ((BitVec.ofInt 64 (a : Int) &&& BitVec.ofInt 64 (b : Int)).toNat : Int) = _
  rw [BitVec.toNat_and, ofInt_u64 a (by omega), ofInt_u64 b (by omega), IntKind.wrap_i64]
  omega
theorem i64_or_nat (a b : Nat) (ha : a < 9223372036854775808) (hb : b < 9223372036854775808) : Go.bits .or .i64 (a : Int) (b : Int) = ((a ||| b : Nat) : Int) := by
  have hx : a ||| b < 2 ^ 63 := Nat.or_lt_two_pow (by omega) (by omega)
  show IntKind.i64.wrap ((BitVec.ofInt 64 (a : Int) ||| BitVec.ofInt 64 (b : Int)).toNat : Int) = _
  rw [BitVec.toNat_or, ofInt_u64 a (by omega), ofInt_u64 b (by omega), IntKind.wrap_i64]
  omega
theorem bv_snoc8 (l : List UInt8) (k : Nat) (h : k < 256) : bv l ++ [Value.int .u8 (k : Int)] = bv (l ++ [UInt8.ofNat k]) := by
  rw [bv_append]; simp [bv]; omega
/-- a text as its bytes -/
def strB (l : List UInt8) : ByteArray := ⟨l.toArray⟩
theorem strB_size (l : List UInt8) : (strB l).size = l.length := by simp [strB, ByteArray.size]
theorem strB_of (s : ByteArray) : strB s.data.toList = s := by simp [strB]
theorem strB_toList (l : List UInt8) : (strB l).data.toList = l := by simp [strB]
theorem strB_bytes (l : List UInt8) : (strB l).toList = l := by rw [ByteArray.toList_eq]; exact strB_toList l
theorem strB_get (l : List UInt8) (k : Nat) (h : k < (strB l).size) : l[k]? = some (strB l)[k] := by
  have h' : k < l.length := by rw [strB_size] at h; exact h
  rw [List.getElem?_eq_getElem h']; rfl
theorem strB_inj {l m : List UInt8} (h : strB l = strB m) : l = m := by have := congrArg (fun s => s.data.toList) h; simpa [strB] using this
theorem strOfNums_bytes (l : List UInt8) : strOfNums (l.map fun b => (b.toNat : Int)) = strB l := by
  unfold strOfNums strB
  congr 1
  simp [List.map_map, Function.comp_def]
/-- 'string(b)' -/
theorem run_str {P : Program} {w : World} {a : Option Addr} {n c : Nat} {l : List UInt8} (h : Sl w a n c (bv l)) (src e dst : TypeId) (hs : P.underlying src = some (.slice e)) (he : P.underlying e = some (.int .u8)) (hd : P.underlying dst = some .string) :
    (convert src dst (.slice a n c)).run P w = .ok (.string (strB l)) w := by
  have hl := h.byte
  by_cases hn : n = 0
  · subst hn
    obtain rfl : l = [] := List.eq_nil_of_length_eq_zero hl
    cases a with
    | none => exact run_convert_bytes_nil w src e hs he 0 c dst hd
    | some x =>
      rw [run_convert_bytes_string w src dst e _ 0 c hs he hd, run_bytesToString w _ 0 c [] (by simp [loadCells, loadCellsFrom])]
      rfl
  · obtain ⟨b, off, rfl, hc⟩ := h.cells (by omega)
    rw [run_convert_bytes_arg w src e hs he b off n c (l.map fun b => (b.toNat : Int)) (by simpa using hl) ?_ dst hd, strOfNums_bytes]
    intro i hi
    have hi' : i < l.length := by omega
    rw [hc i hi, bv_get l i hi']
    simp [hi']
/-- an answer of three numbers that leaves what was there -/
def Ret3 (w : World) (r : Int × Int × Int) (e : Ending) (w' : World) : Prop :=
  e = .returned (.tuple #[.int .i64 r.1, .int .i64 r.2.1, .int .i64 r.2.2]) ∧ Below w.heap.size w w'
theorem Ret3.mk {w w' : World} {r : Int × Int × Int} {a b c : Int} {e : Ending} (h : e = .returned (.tuple #[.int .i64 a, .int .i64 b, .int .i64 c])) (hr : r = (a, b, c)) (hb : Below w.heap.size w w') : Ret3 w r e w' := by
  subst hr; exact ⟨h, hb⟩
theorem two_pow_cast (k : Nat) : ((2 ^ k : Nat) : Int) = 2 ^ k := by simp
end Go.Proofs.YtaeanhpdlkgghaaDoor

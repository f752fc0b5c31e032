/- Loss detection as plain data, and how it lies on the heap. Plain definitions. -/
import Derived.Test.YtkpeegcpicckjaaGrow
import Derived.Test.YtkpeegcpicckjaaWalk
namespace Go.Proofs.Ytkpeegcpicckjaa
open Go.RowKit

/-! ### what SqPure of layer 4 tells too: rows of one's own, seen from the block -/
def none'' : Nat → Prop := fun _ => False
theorem own_at {w : World} {B e s : Nat} {a : Option Addr} {n c : Nat} {xs : List Value} (h : w.ownsRow B e s (.slice a n c) n xs) {ad : Addr} (ha : a = some ad) : ad.block < w.heap.size := by
  subst ha; exact (h.lt _ rfl).2
theorem ownblk {w : World} {B e s : Nat} {a : Option Addr} {n c : Nat} {xs : List Value} (h : w.ownsRow B e s (.slice a n c) n xs) {ad : Addr} (ha : a = some ad) : B ≤ ad.block := by
  subst ha; exact (h.lt _ rfl).1
theorem own_kept' {X : Nat → Prop} {w w' : World} {B e s : Nat} {a : Option Addr} {n c : Nat} {xs : List Value} (h : w.ownsRow B e s (.slice a n c) n xs) (hk : Kept X w w') (hx : ∀ ad, a = some ad → ¬ X ad.block) : w'.ownsRow B e s (.slice a n c) n xs :=
  own_kept h hk (fun k hk => by cases a with | none => cases hk | some ad => cases hk; exact hx ad rfl)
def Fat (F : Nat → Prop) (w w' : World) : Nat → Prop := fun k => F k ∨ (w.heap.size ≤ k ∧ k < w'.heap.size)
def IntOf (w : World) (z : Int) (e : Ending) (w' : World) : Prop := e = .returned (.int .i64 z) ∧ Below w.heap.size w w'
def BoolOf (w : World) (b : Bool) (e : Ending) (w' : World) : Prop := e = .returned (.bool b) ∧ Below w.heap.size w w'
theorem newOr_at {w : World} {a1 : Option Addr} {n1 c1 : Nat} {a2 : Option Addr} {n2 c2 : Nat} (h : NewOr w (.slice a1 n1 c1) (.slice a2 n2 c2)) {ad : Addr} (ha : a2 = some ad) : (∃ x, a1 = some x ∧ x.block = ad.block) ∨ w.heap.size ≤ ad.block := by
  subst ha
  rcases h ad.block rfl with h | h
  · cases a1 with
    | none => cases h
    | some x => exact .inl ⟨x, rfl, by simpa [Value.ownBlock] using h⟩
  · exact .inr h
theorem blk_ne {a1 : Option Addr} {n c g : Nat} (h : ∀ ad, a1 = some ad → ad.block ≠ g) : Value.ownBlock (.slice a1 n c) ≠ some g := by
  cases a1 with
  | none => simp [Value.ownBlock]
  | some ad => intro he; exact h ad rfl (by simpa [Value.ownBlock] using he)
theorem Kept.fresh {w w1 w2 : World} {X : Nat → Prop} (h : Below w.heap.size w w1) (hk : Kept X w1 w2) (hX : ∀ k, X k → w.heap.size ≤ k) : Below w.heap.size w w2 :=
  h.trans (hk.below h.size hX)

/-! ### plain data -/
structure Pk where
  num : Int
  size : Int
  at_ : Int
  el : Bool
structure Sp where
  out : List Pk
  high : Int
  acked : Int
  loss : Int
  last : Int
structure Lo where
  most : Int
  s0 : Sp
  s1 : Sp
  s2 : Sp
  now : Int
  sampled : Bool
  latest : Int
  least : Int
  smooth : Int
  vary : Int
  window : Int
  threshold : Int
  recovery : Int
  probes : Int

def pcells (p : Pk) : List Value := [.int .i64 p.num, .int .i64 p.size, .int .i64 p.at_, .bool p.el]
def pv : List Pk → List Value
  | [] => []
  | p :: r => pcells p ++ pv r
theorem pv_length : ∀ l : List Pk, (pv l).length = l.length * 4
  | [] => rfl
  | p :: r => by simp [pv, pcells, pv_length r]; omega
theorem pv_get : ∀ (l : List Pk) (i j : Nat) (hi : i < l.length), j < 4 → (pv l)[i * 4 + j]? = (pcells l[i])[j]?
  | p :: r, 0, j, _, hj => by
    simp only [pv, Nat.zero_mul, Nat.zero_add]
    rw [List.getElem?_append_left (by simp [pcells]; omega)]
    rfl
  | p :: r, i + 1, j, hi, hj => by
    simp only [pv]
    rw [List.getElem?_append_right (by simp [pcells]; omega)]
    have e : (i + 1) * 4 + j - (pcells p).length = i * 4 + j := by simp [pcells]; omega
    rw [e, pv_get r i j (by simpa using hi) hj]
    rfl
theorem pv_append (l m : List Pk) : pv (l ++ m) = pv l ++ pv m := by
  induction l with
  | nil => rfl
  | cons p r ih => simp [pv, ih]
theorem pv_one : ∀ l : List Pk, ∀ u ∈ pv l, u.oneCell' = true
  | [], u, h => by simp [pv] at h
  | p :: r, u, h => by
    simp only [pv, pcells, List.mem_append, List.mem_cons, List.not_mem_nil, or_false] at h
    rcases h with (rfl | rfl | rfl | rfl) | h
    · rfl
    · rfl
    · rfl
    · rfl
    · exact pv_one r u h

/-- a packet's cells in a row of one's own -/
theorem own_pk {w : World} {B e : Nat} {a : Option Addr} {n c : Nat} {l : List Pk} (h : w.ownsRow B e 4 (.slice a n c) n (pv l)) (hl : l.length = n) {i : Nat} (hi : i < l.length) :
    ∃ s, a = some ⟨s, 0, none⟩ ∧ w.cell? ⟨s, i * 4, none⟩ = some (.int .i64 l[i].num) ∧ w.cell? ⟨s, i * 4 + 1, none⟩ = some (.int .i64 l[i].size) ∧ w.cell? ⟨s, i * 4 + 2, none⟩ = some (.int .i64 l[i].at_) ∧ w.cell? ⟨s, i * 4 + 3, none⟩ = some (.bool l[i].el) ∧ n ≤ c ∧ c ≤ maxLen := by
  have key : ∀ s, Value.ownBlock (.slice a n c) = some s → ∀ j, j < 4 → w.cell? ⟨s, i * 4 + j, none⟩ = (pcells l[i])[j]? := by
    intro s hs j hj
    have h1 := pv_get l i j hi hj
    have hx : (pcells l[i])[j]? = some ((pcells l[i])[j]'(by simp [pcells]; omega)) := List.getElem?_eq_getElem _
    rw [hx] at h1
    have h2 := h.cells hs (i * 4 + j) _ h1
    rw [addr_add, Nat.zero_add] at h2
    rw [h2, hx]
  rcases h.2 with ⟨hv, rfl⟩ | ⟨g, cap, cur, hv, hB, hg, hnc, hcm, hcs, ht⟩
  · omega
  · simp only [Value.slice.injEq, true_and] at hv
    obtain ⟨rfl, rfl⟩ := hv
    have k := key g rfl
    exact ⟨g, rfl, k 0 (by omega), k 1 (by omega), k 2 (by omega), k 3 (by omega), hnc, hcm⟩

/-! ### on the heap -/
def spc (s : Sp) (a : Option Addr) (c : Nat) : List Value := [.slice a s.out.length c, .int .i64 s.high, .int .i64 s.acked, .int .i64 s.loss, .int .i64 s.last]
def lcells (L : Lo) (a0 : Option Addr) (c0 : Nat) (a1 : Option Addr) (c1 : Nat) (a2 : Option Addr) (c2 : Nat) : List Value :=
  [.int .i64 L.most] ++ spc L.s0 a0 c0 ++ spc L.s1 a1 c1 ++ spc L.s2 a2 c2 ++
    [.int .i64 L.now, .bool L.sampled, .int .i64 L.latest, .int .i64 L.least, .int .i64 L.smooth, .int .i64 L.vary, .int .i64 L.window, .int .i64 L.threshold, .int .i64 L.recovery, .int .i64 L.probes]
structure LB (w : World) (g : Nat) (L : Lo) (a0 : Option Addr) (c0 : Nat) (a1 : Option Addr) (c1 : Nat) (a2 : Option Addr) (c2 : Nat) : Prop where
  has : Has w g 64 (lcells L a0 c0 a1 c1 a2 c2)
  r0 : w.ownsRow 0 68 4 (.slice a0 L.s0.out.length c0) L.s0.out.length (pv L.s0.out)
  r1 : w.ownsRow 0 68 4 (.slice a1 L.s1.out.length c1) L.s1.out.length (pv L.s1.out)
  r2 : w.ownsRow 0 68 4 (.slice a2 L.s2.out.length c2) L.s2.out.length (pv L.s2.out)
  g0 : ∀ ad, a0 = some ad → ad.block ≠ g
  g1 : ∀ ad, a1 = some ad → ad.block ≠ g
  g2 : ∀ ad, a2 = some ad → ad.block ≠ g
  d01 : ∀ ad ad', a0 = some ad → a1 = some ad' → ad.block ≠ ad'.block
  d02 : ∀ ad ad', a0 = some ad → a2 = some ad' → ad.block ≠ ad'.block
  d12 : ∀ ad ad', a1 = some ad → a2 = some ad' → ad.block ≠ ad'.block
def LAt (F : Nat → Prop) (w : World) (g : Nat) (L : Lo) : Prop :=
  ∃ a0 c0 a1 c1 a2 c2, LB w g L a0 c0 a1 c1 a2 c2 ∧ F g ∧ (∀ ad, a0 = some ad → F ad.block) ∧ (∀ ad, a1 = some ad → F ad.block) ∧ (∀ ad, a2 = some ad → F ad.block)
theorem LB.kept {X : Nat → Prop} {w w' : World} {g : Nat} {L : Lo} {a0 : Option Addr} {c0 : Nat} {a1 : Option Addr} {c1 : Nat} {a2 : Option Addr} {c2 : Nat} (h : LB w g L a0 c0 a1 c1 a2 c2) (hk : Kept X w w') (hg : ¬ X g) (h0 : ∀ ad, a0 = some ad → ¬ X ad.block) (h1 : ∀ ad, a1 = some ad → ¬ X ad.block) (h2 : ∀ ad, a2 = some ad → ¬ X ad.block) :
    LB w' g L a0 c0 a1 c1 a2 c2 := ⟨h.has.kept hk hg, own_kept' h.r0 hk h0, own_kept' h.r1 hk h1, own_kept' h.r2 hk h2, h.g0, h.g1, h.g2, h.d01, h.d02, h.d12⟩
theorem LB.below {w w' : World} {g : Nat} {L : Lo} {a0 : Option Addr} {c0 : Nat} {a1 : Option Addr} {c1 : Nat} {a2 : Option Addr} {c2 : Nat} (h : LB w g L a0 c0 a1 c1 a2 c2) (hb : Below w.heap.size w w') : LB w' g L a0 c0 a1 c1 a2 c2 :=
  h.kept (X := none') (Kept.of_below hb) (fun h => h) (fun _ _ h => h) (fun _ _ h => h) (fun _ _ h => h)
theorem LAt.kept {F X : Nat → Prop} {w w' : World} {g : Nat} {L : Lo} (h : LAt F w g L) (hk : Kept X w w') (hx : ∀ k, F k → k < w.heap.size → ¬ X k) : LAt F w' g L := by
  obtain ⟨a0, c0, a1, c1, a2, c2, hq, f, f0, f1, f2⟩ := h
  exact ⟨a0, c0, a1, c1, a2, c2, hq.kept hk (hx g f hq.has.lt) (fun ad ha => hx _ (f0 ad ha) (own_at hq.r0 ha)) (fun ad ha => hx _ (f1 ad ha) (own_at hq.r1 ha)) (fun ad ha => hx _ (f2 ad ha) (own_at hq.r2 ha)), f, f0, f1, f2⟩
theorem LAt.below {F : Nat → Prop} {w w' : World} {g : Nat} {L : Lo} (h : LAt F w g L) (hb : Below w.heap.size w w') : LAt F w' g L := h.kept (X := none') (Kept.of_below hb) (fun _ _ _ h => h)
theorem LAt.more {F G : Nat → Prop} {w : World} {g : Nat} {L : Lo} (h : LAt F w g L) (hF : ∀ k, F k → k < w.heap.size → G k) : LAt G w g L := by
  obtain ⟨a0, c0, a1, c1, a2, c2, hq, f, f0, f1, f2⟩ := h
  exact ⟨a0, c0, a1, c1, a2, c2, hq, hF g f hq.has.lt, fun ad ha => hF _ (f0 ad ha) (own_at hq.r0 ha), fun ad ha => hF _ (f1 ad ha) (own_at hq.r1 ha), fun ad ha => hF _ (f2 ad ha) (own_at hq.r2 ha)⟩
theorem LAt.lt {F : Nat → Prop} {w : World} {g : Nat} {L : Lo} (h : LAt F w g L) : g < w.heap.size := by
  obtain ⟨a0, c0, a1, c1, a2, c2, hq, _⟩ := h
  exact hq.has.lt

def Sp.new : Sp := ⟨[], 0, -1, -1, -1⟩
def Lo.new (most : Int) : Lo := ⟨most, Sp.new, Sp.new, Sp.new, 0, false, 0, 0, 333, 166, 12000, 4611686018427387904, -1, 0⟩
end Go.Proofs.Ytkpeegcpicckjaa

/- A sending queue as plain data, and what its calls make of it. Plain definitions. -/
import Derived.Test.YtkjclgpecppokaaGrow
import Derived.Test.YtkjclgpecppokaaRef01
import Derived.Test.YtkjclgpecppokaaShelf
namespace Go.Proofs.Ytkjclgpecppokaa
open Go.RowKit

/-- a queue: its room, the bytes that are done, the greatest end that was sent, the bytes from base on with their states, the end -/
structure Qu where
  room : Nat
  base : Nat
  sent : Nat
  data : List UInt8
  st : List UInt8
  fin : Bool
  e : UInt8

structure Qu.Ok (q : Qu) : Prop where
  len : q.st.length = q.data.length
  room1 : 1 ≤ q.room
  room2 : q.room ≤ 65536
  fit : q.data.length ≤ q.room
  base : q.base ≤ q.sent
  sent : q.sent ≤ q.base + q.data.length
  most : q.base + q.data.length ≤ 1152921504606846976

/-- how many bytes at the list's head are s, m at the most -/
def runL (s : UInt8) : List UInt8 → Nat → Nat
  | [], _ => 0
  | _ :: _, 0 => 0
  | x :: r, m + 1 => if x = s then runL s r m + 1 else 0
theorem runL_le (s : UInt8) : ∀ (l : List UInt8) (m : Nat), runL s l m ≤ m ∧ runL s l m ≤ l.length
  | [], m => by simp [runL]
  | _ :: _, 0 => by simp [runL]
  | x :: r, m + 1 => by
    have := runL_le s r m
    unfold runL
    split
    · simp; omega
    · simp
theorem runL_all (s : UInt8) : ∀ (l : List UInt8) (m j : Nat), j < runL s l m → l[j]? = some s
  | [], _, _, h => by simp [runL] at h
  | _ :: _, 0, _, h => by simp [runL] at h
  | x :: r, m + 1, j, h => by
    unfold runL at h
    split at h
    · rename_i hx
      cases j with
      | zero => simp [hx]
      | succ j => simpa using runL_all s r m j (by omega)
    · omega
/-- it ends where no more may be, or where the list has another byte or ends -/
theorem runL_is (s : UInt8) : ∀ (l : List UInt8) (m k : Nat), k ≤ m → (∀ j, j < k → l[j]? = some s) → (k = m ∨ l[k]? ≠ some s) → runL s l m = k
  | [], m, k, _, h1, _ => by
    cases k with
    | zero => rfl
    | succ k => have := h1 0 (by omega); simp at this
  | x :: r, 0, k, h0, _, _ => by simp [runL]; omega
  | x :: r, m + 1, k, h0, h1, h2 => by
    unfold runL
    cases k with
    | zero =>
      rw [if_neg]
      intro hx
      rcases h2 with h2 | h2
      · omega
      · exact h2 (by simp [hx])
    | succ k =>
      have hx := h1 0 (by omega)
      simp at hx
      rw [if_pos hx, runL_is s r m k (by omega) (fun j hj => by simpa using h1 (j + 1) (by omega)) (by
        rcases h2 with h2 | h2
        · exact .inl (by omega)
        · exact .inr (by simpa using h2))]

/-- where the next chunk begins, and how long it is -/
def Qu.pick (q : Qu) (most limit : Int) : Nat × Nat :=
  if 0 ≤ Lib.indexByte q.st 2 then ((Lib.indexByte q.st 2).toNat, runL 2 (q.st.drop (Lib.indexByte q.st 2).toNat) most.toNat)
  else if 0 ≤ Lib.indexByte q.st 0 ∧ q.base + Lib.indexByte q.st 0 < limit then
    ((Lib.indexByte q.st 0).toNat, runL 0 (q.st.drop (Lib.indexByte q.st 0).toNat) (min most (limit - q.base - Lib.indexByte q.st 0)).toNat)
  else (0, 0)

/-- n places from i on turned to v -/
def turned (l : List UInt8) (i n : Nat) (v : UInt8) : List UInt8 := l.take i ++ List.replicate (min n (l.length - i)) v ++ l.drop (i + n)
theorem turned_len (l : List UInt8) (i n : Nat) (v : UInt8) (h : i + n ≤ l.length) : (turned l i n v).length = l.length := by
  simp [turned]; omega
theorem turned_zero (l : List UInt8) (i : Nat) (v : UInt8) : turned l i 0 v = l := by simp [turned]
theorem turned_get (l : List UInt8) (i n : Nat) (v : UInt8) (j : Nat) (h : i + n ≤ l.length) : (turned l i n v)[j]? = if i ≤ j ∧ j < i + n then some v else l[j]? := by
  unfold turned
  by_cases h1 : j < i
  · rw [if_neg (by omega), List.append_assoc, List.getElem?_append_left (by simp; omega), List.getElem?_take, if_pos h1]
  · by_cases h2 : j < i + n
    · rw [if_pos (by omega), List.getElem?_append_left (by simp; omega), List.getElem?_append_right (by simp; omega), List.getElem?_replicate, if_pos (by simp; omega)]
    · rw [if_neg (by omega), List.getElem?_append_right (by simp; omega), List.getElem?_drop]
      congr 1
      simp
      omega
theorem turned_succ (l : List UInt8) (i k : Nat) (v : UInt8) (h : i + k < l.length) : turned l i (k + 1) v = (turned l i k v).set (i + k) v := by
  apply List.ext_getElem?
  intro j
  rw [turned_get _ _ _ _ _ (by omega), List.getElem?_set, turned_len _ _ _ _ (by omega), turned_get _ _ _ _ _ (by omega)]
  by_cases hj : i + k = j
  · subst hj; rw [if_pos (by omega), if_pos rfl, if_pos (by omega)]
  · rw [if_neg hj]
    by_cases h1 : i ≤ j ∧ j < i + k
    · rw [if_pos h1, if_pos (by omega)]
    · rw [if_neg h1, if_neg (by omega)]

def Qu.opens (q : Qu) : Bool := q.fin && (q.e == 0 || q.e == 2)
/-- what Next answers -/
structure Out where
  at_ : Nat
  data : List UInt8
  fin : Bool
  ok : Bool

def Qu.start (q : Qu) (most limit : Int) : Nat := if (q.pick most limit).2 = 0 then q.data.length else (q.pick most limit).1
def Qu.none (q : Qu) (most limit : Int) : Prop := (q.pick most limit).2 = 0 ∧ (q.opens = false ∨ q.sent ≠ q.base + q.data.length)
instance (q : Qu) (most limit : Int) : Decidable (q.none most limit) := by unfold Qu.none; infer_instance
def Qu.ends (q : Qu) (most limit : Int) : Bool := q.opens && decide (q.start most limit + (q.pick most limit).2 = q.data.length)
def Qu.next (q : Qu) (most limit : Int) : Qu :=
  if q.none most limit then q else
  { q with st := turned q.st (q.start most limit) (q.pick most limit).2 1, sent := max q.sent (q.base + q.start most limit + (q.pick most limit).2), e := if q.ends most limit then 1 else q.e }
def Qu.out (q : Qu) (most limit : Int) : Out :=
  if q.none most limit then ⟨0, [], false, false⟩ else
  ⟨q.base + q.start most limit, (q.data.drop (q.start most limit)).take (q.pick most limit).2, q.ends most limit, true⟩

theorem ib_lt {l : List UInt8} {x : UInt8} (h : 0 ≤ Lib.indexByte l x) : (Lib.indexByte l x).toNat < l.length := by
  obtain ⟨m, hm⟩ := Int.eq_ofNat_of_zero_le h
  rw [hm]
  exact (List.getElem?_eq_some_iff.1 (Lib.indexByte_some hm).1).1
theorem Qu.pick_le (q : Qu) (most limit : Int) : (q.pick most limit).1 + (q.pick most limit).2 ≤ q.st.length := by
  unfold Qu.pick
  split
  · rename_i h
    have := ib_lt h
    have := (runL_le 2 (q.st.drop (Lib.indexByte q.st 2).toNat) most.toNat).2
    simp at this ⊢
    omega
  · split
    · rename_i h
      have := ib_lt h.1
      have := (runL_le 0 (q.st.drop (Lib.indexByte q.st 0).toNat) (min most (limit - q.base - Lib.indexByte q.st 0)).toNat).2
      simp at this ⊢
      omega
    · simp
theorem Qu.start_le {q : Qu} (h : q.Ok) (most limit : Int) : q.start most limit + (q.pick most limit).2 ≤ q.data.length := by
  have := q.pick_le most limit
  rw [h.len] at this
  unfold Qu.start
  split <;> omega
theorem Qu.Ok.next {q : Qu} (h : q.Ok) (most limit : Int) : (q.next most limit).Ok := by
  have hs := Qu.start_le h most limit
  unfold Qu.next
  split
  · exact h
  · exact ⟨by simp only []; rw [turned_len _ _ _ _ (by rw [h.len]; exact hs)]; exact h.len, h.room1, h.room2, h.fit, by have := h.base; simp only []; omega, by have := h.sent; simp only []; omega, h.most⟩

/-- what Write makes -/
def Qu.took (q : Qu) (l : List UInt8) : Nat := if q.fin then 0 else min l.length (q.room - q.data.length)
def Qu.write (q : Qu) (l : List UInt8) : Qu := { q with data := q.data ++ l.take (q.took l), st := q.st ++ List.replicate (q.took l) 0 }
def Qu.werr (q : Qu) : Int := if q.fin then 40 else 0
theorem Qu.took_le (q : Qu) (l : List UInt8) : q.took l ≤ l.length := by unfold Qu.took; split <;> omega
theorem Qu.Ok.write {q : Qu} (h : q.Ok) (l : List UInt8) (hm : q.base + q.data.length + l.length ≤ 1152921504606846976) : (q.write l).Ok := by
  have h1 := q.took_le l
  have h2 : q.data.length + q.took l ≤ q.room := by have := h.fit; unfold Qu.took; split <;> omega
  refine ⟨by simp [Qu.write, h.len]; omega, h.room1, h.room2, by simp [Qu.write]; omega, h.base, by have := h.sent; simp [Qu.write]; omega, by simp [Qu.write]; omega⟩

def Qu.new (room : Nat) : Qu := ⟨room, 0, 0, [], [], false, 0⟩
theorem Qu.new_ok {room : Nat} (h1 : 1 ≤ room) (h2 : room ≤ 65536) : (Qu.new room).Ok := ⟨rfl, h1, h2, Nat.zero_le _, Nat.le_refl _, Nat.le_refl _, by simp [Qu.new]⟩

/-! ### on the heap -/
def qcells (q : Qu) (da : Option Addr) (dc : Nat) (sa : Option Addr) (sc : Nat) : List Value :=
  [.int .i64 q.room, .int .i64 q.base, .int .i64 q.sent, .slice da q.data.length dc, .slice sa q.st.length sc, .bool q.fin, .int .u8 (q.e.toNat : Int)]
/-- the queue q lies at block g -/
structure QB (w : World) (g : Nat) (q : Qu) (da : Option Addr) (dc : Nat) (sa : Option Addr) (sc : Nat) : Prop where
  has : Has w g 52 (qcells q da dc sa sc)
  d : w.ownsRow 0 5 1 (.slice da q.data.length dc) q.data.length (bv q.data)
  s : w.ownsRow 0 5 1 (.slice sa q.st.length sc) q.st.length (bv q.st)
  dg : ∀ ad, da = some ad → ad.block ≠ g
  sg : ∀ ad, sa = some ad → ad.block ≠ g
  ds : ∀ ad ad', da = some ad → sa = some ad' → ad.block ≠ ad'.block
/-- the same, with all of it within F -/
def QAt (F : Nat → Prop) (w : World) (g : Nat) (q : Qu) : Prop :=
  ∃ da dc sa sc, QB w g q da dc sa sc ∧ F g ∧ (∀ ad, da = some ad → F ad.block) ∧ (∀ ad, sa = some ad → F ad.block)
/-- what F has become when a call has made new things -/
def Fat (F : Nat → Prop) (w w' : World) : Nat → Prop := fun k => F k ∨ (w.heap.size ≤ k ∧ k < w'.heap.size)

theorem own_at {w : World} {B e s : Nat} {a : Option Addr} {n c : Nat} {xs : List Value} (h : w.ownsRow B e s (.slice a n c) n xs) {ad : Addr} (ha : a = some ad) : ad.block < w.heap.size := by
  subst ha; exact (h.lt _ rfl).2
theorem own_kept' {X : Nat → Prop} {w w' : World} {B e s : Nat} {a : Option Addr} {n c : Nat} {xs : List Value} (h : w.ownsRow B e s (.slice a n c) n xs) (hk : Kept X w w') (hx : ∀ ad, a = some ad → ¬ X ad.block) : w'.ownsRow B e s (.slice a n c) n xs :=
  own_kept h hk (fun k hk => by cases a with | none => cases hk | some ad => cases hk; exact hx ad rfl)
theorem QB.kept {X : Nat → Prop} {w w' : World} {g : Nat} {q : Qu} {da : Option Addr} {dc : Nat} {sa : Option Addr} {sc : Nat} (h : QB w g q da dc sa sc) (hk : Kept X w w') (hg : ¬ X g) (hd : ∀ ad, da = some ad → ¬ X ad.block) (hs : ∀ ad, sa = some ad → ¬ X ad.block) : QB w' g q da dc sa sc :=
  ⟨h.has.kept hk hg, own_kept' h.d hk hd, own_kept' h.s hk hs, h.dg, h.sg, h.ds⟩
theorem QB.below {w w' : World} {g : Nat} {q : Qu} {da : Option Addr} {dc : Nat} {sa : Option Addr} {sc : Nat} (h : QB w g q da dc sa sc) (hb : Below w.heap.size w w') : QB w' g q da dc sa sc :=
  h.kept (X := none') (Kept.of_below hb) (fun h => h) (fun _ _ h => h) (fun _ _ h => h)
theorem QAt.kept {F X : Nat → Prop} {w w' : World} {g : Nat} {q : Qu} (h : QAt F w g q) (hk : Kept X w w') (hx : ∀ k, F k → k < w.heap.size → ¬ X k) : QAt F w' g q := by
  obtain ⟨da, dc, sa, sc, hq, f1, f2, f3⟩ := h
  exact ⟨da, dc, sa, sc, hq.kept hk (hx g f1 hq.has.lt) (fun ad ha => hx _ (f2 ad ha) (own_at hq.d ha)) (fun ad ha => hx _ (f3 ad ha) (own_at hq.s ha)), f1, f2, f3⟩
theorem QAt.below {F : Nat → Prop} {w w' : World} {g : Nat} {q : Qu} (h : QAt F w g q) (hb : Below w.heap.size w w') : QAt F w' g q :=
  h.kept (X := none') (Kept.of_below hb) (fun _ _ _ h => h)
theorem QAt.more {F G : Nat → Prop} {w : World} {g : Nat} {q : Qu} (h : QAt F w g q) (hF : ∀ k, F k → k < w.heap.size → G k) : QAt G w g q := by
  obtain ⟨da, dc, sa, sc, hq, f1, f2, f3⟩ := h
  exact ⟨da, dc, sa, sc, hq, hF g f1 hq.has.lt, fun ad ha => hF _ (f2 ad ha) (own_at hq.d ha), fun ad ha => hF _ (f3 ad ha) (own_at hq.s ha)⟩
theorem QAt.lt {F : Nat → Prop} {w : World} {g : Nat} {q : Qu} (h : QAt F w g q) : g < w.heap.size := by
  obtain ⟨da, dc, sa, sc, hq, _⟩ := h
  exact hq.has.lt
end Go.Proofs.Ytkjclgpecppokaa

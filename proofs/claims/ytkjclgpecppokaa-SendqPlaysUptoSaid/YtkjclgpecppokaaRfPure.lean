/- The document's queue on the heap. Plain definitions: it is a Qu whose base is 0, with all bytes and states. -/
import Derived.Test.YtkjclgpecppokaaSqAck
namespace Go.Proofs.Ytkjclgpecppokaa
open Go.RowKit

/-- states as the document's numbers -/
def nv (l : List UInt8) : List Value := l.map fun s => .int .i64 (s.toNat : Int)
theorem nv_get (l : List UInt8) (i : Nat) (h : i < l.length) : (nv l)[i]? = some (.int .i64 (l[i].toNat : Int)) := by simp [nv, h]
theorem nv_set (l : List UInt8) (i : Nat) (s : UInt8) : nv (l.set i s) = (nv l).set i (.int .i64 (s.toNat : Int)) := by simp [nv, List.map_set]
theorem nv_append (l m : List UInt8) : nv (l ++ m) = nv l ++ nv m := by simp [nv]
theorem nv_one (l : List UInt8) : ∀ u ∈ nv l, u.oneCell' = true := by
  intro u hu
  simp only [nv, List.mem_map] at hu
  obtain ⟨b, _, rfl⟩ := hu
  rfl
theorem infoInt : (Try.prog.info? 3).map (fun i => (i.zero, i.size, i.bytes)) = some (some (.int .i64 0), 1, 8) := by kernel_rfl
theorem tyInt : ETy Try.prog 42 3 (.int .i64 0) 8 := by
  obtain ⟨i, hi, h1, h2, h3⟩ := info_parts infoInt
  exact ⟨Try.underlying42, ⟨i, hi, h1, h2, h3⟩, rfl⟩

def rcells (q : Qu) (da : Option Addr) (dc : Nat) (sa : Option Addr) (sc : Nat) : List Value :=
  [.int .i64 q.room, .int .i64 q.sent, .slice da q.data.length dc, .slice sa q.st.length sc, .bool q.fin, .int .i64 (q.e.toNat : Int)]
/-- the document's queue r lies at block g -/
structure RB (w : World) (g : Nat) (r : Qu) (da : Option Addr) (dc : Nat) (sa : Option Addr) (sc : Nat) : Prop where
  has : Has w g 48 (rcells r da dc sa sc)
  d : w.ownsRow 0 5 1 (.slice da r.data.length dc) r.data.length (bv r.data)
  s : w.ownsRow 0 3 1 (.slice sa r.st.length sc) r.st.length (nv r.st)
  dg : ∀ ad, da = some ad → ad.block ≠ g
  sg : ∀ ad, sa = some ad → ad.block ≠ g
  ds : ∀ ad ad', da = some ad → sa = some ad' → ad.block ≠ ad'.block
def RAt (F : Nat → Prop) (w : World) (g : Nat) (r : Qu) : Prop :=
  ∃ da dc sa sc, RB w g r da dc sa sc ∧ F g ∧ (∀ ad, da = some ad → F ad.block) ∧ (∀ ad, sa = some ad → F ad.block)
theorem RB.kept {X : Nat → Prop} {w w' : World} {g : Nat} {q : Qu} {da : Option Addr} {dc : Nat} {sa : Option Addr} {sc : Nat} (h : RB w g q da dc sa sc) (hk : Kept X w w') (hg : ¬ X g) (hd : ∀ ad, da = some ad → ¬ X ad.block) (hs : ∀ ad, sa = some ad → ¬ X ad.block) : RB w' g q da dc sa sc :=
  ⟨h.has.kept hk hg, own_kept' h.d hk hd, own_kept' h.s hk hs, h.dg, h.sg, h.ds⟩
theorem RB.below {w w' : World} {g : Nat} {q : Qu} {da : Option Addr} {dc : Nat} {sa : Option Addr} {sc : Nat} (h : RB w g q da dc sa sc) (hb : Below w.heap.size w w') : RB w' g q da dc sa sc :=
  h.kept (X := none') (Kept.of_below hb) (fun h => h) (fun _ _ h => h) (fun _ _ h => h)
theorem RAt.kept {F X : Nat → Prop} {w w' : World} {g : Nat} {q : Qu} (h : RAt F w g q) (hk : Kept X w w') (hx : ∀ k, F k → k < w.heap.size → ¬ X k) : RAt F w' g q := by
  obtain ⟨da, dc, sa, sc, hq, f1, f2, f3⟩ := h
  exact ⟨da, dc, sa, sc, hq.kept hk (hx g f1 hq.has.lt) (fun ad ha => hx _ (f2 ad ha) (own_at hq.d ha)) (fun ad ha => hx _ (f3 ad ha) (own_at hq.s ha)), f1, f2, f3⟩
theorem RAt.below {F : Nat → Prop} {w w' : World} {g : Nat} {q : Qu} (h : RAt F w g q) (hb : Below w.heap.size w w') : RAt F w' g q :=
  h.kept (X := none') (Kept.of_below hb) (fun _ _ _ h => h)
theorem RAt.more {F G : Nat → Prop} {w : World} {g : Nat} {q : Qu} (h : RAt F w g q) (hF : ∀ k, F k → k < w.heap.size → G k) : RAt G w g q := by
  obtain ⟨da, dc, sa, sc, hq, f1, f2, f3⟩ := h
  exact ⟨da, dc, sa, sc, hq, hF g f1 hq.has.lt, fun ad ha => hF _ (f2 ad ha) (own_at hq.d ha), fun ad ha => hF _ (f3 ad ha) (own_at hq.s ha)⟩
theorem RAt.lt {F : Nat → Prop} {w : World} {g : Nat} {q : Qu} (h : RAt F w g q) : g < w.heap.size := by
  obtain ⟨da, dc, sa, sc, hq, _⟩ := h
  exact hq.has.lt

/-- how many bytes are done at the head -/
def Qu.lead (r : Qu) : Nat := runL 3 r.st r.st.length
theorem Qu.lead_le (r : Qu) : r.lead ≤ r.st.length := (runL_le 3 _ _).1
structure Qu.ROk (r : Qu) : Prop where
  base : r.base = 0
  len : r.st.length = r.data.length
  room2 : r.room ≤ 65536
  fit : r.data.length ≤ r.room + r.lead
  sent : r.sent ≤ r.data.length
  most : r.data.length ≤ 8796093022208
def Qu.rtook (r : Qu) (l : List UInt8) : Nat := if r.fin then 0 else min l.length (r.room + r.lead - r.data.length)
def Qu.rwrite (r : Qu) (l : List UInt8) : Qu := { r with data := r.data ++ l.take (r.rtook l), st := r.st ++ List.replicate (r.rtook l) 0 }
/-- Ack, where nothing is cut -/
def Qu.tack (r : Qu) (a n : Int) (fin : Bool) : Qu :=
  if r.right a n fin then { r with st := mapped r.st a.toNat (a.toNat + n.toNat) turnAck, e := if fin then 3 else r.e } else r
end Go.Proofs.Ytkjclgpecppokaa

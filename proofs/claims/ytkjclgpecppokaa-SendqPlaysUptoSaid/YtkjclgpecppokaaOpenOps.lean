/- How a script of the queue's calls is opened. -/
import Derived.Test.YtkjclgpecppokaaOpenRows
import Derived.Test.YtkjclgpecppokaaRef01
namespace Go.Proofs.Ytkjclgpecppokaa
open Go.RowKit Go.ChangeShapes Go.WideShapes

/-- the cells of one call -/
def OpAt (W : World) (b o : Nat) : Prop :=
  ∃ (kind A B : Int) (da : Option Addr) (dn dc : Nat) (dl : List UInt8) (fin : Bool), W.cell? ⟨b, o, none⟩ = some (.int .i64 kind) ∧ W.cell? ⟨b, o + 1, none⟩ = some (.int .i64 A) ∧ W.cell? ⟨b, o + 2, none⟩ = some (.int .i64 B) ∧
    W.cell? ⟨b, o + 3, none⟩ = some (.slice da dn dc) ∧ W.cell? ⟨b, o + 4, none⟩ = some (.bool fin) ∧ Sl W da dn dc (bv dl) ∧ dn ≤ 1048576 ∧ -9223372036854775808 ≤ A ∧ A ≤ 9223372036854775807 ∧ -9223372036854775808 ≤ B ∧ B ≤ 9223372036854775807
/-- a script -/
def OpsAt (W : World) (a : Option Addr) (n c : Nat) : Prop :=
  n ≤ 1048576 ∧ n ≤ c ∧ c ≤ maxLen ∧ (0 < n → ∃ b off, a = some ⟨b, off, none⟩ ∧ ∀ i, i < n → OpAt W b (off + i * 5))

theorem bulk_inner {H : Type} {els sp parts e2 s2 : List (DataW H)} {i : Nat} (h1 : els[i]? = some (.agg parts)) (h2 : DataW.slice e2 s2 ∈ parts) : e2.length ≤ Rows.uptoBulk (DataW.slice els sp) := by
  have a1 := bulk_part (List.mem_of_getElem? h1)
  have a2 := bulk_part h2
  have a3 := bulk_slice (elems := e2) (spare := s2)
  simp only [Rows.uptoBulk] at a1 a3 ⊢
  have : Rows.uptoBulk (DataW.slice e2 s2) ≤ Rows.uptoBulkAll parts := a2
  simp only [Rows.uptoBulk] at this
  omega

theorem open_ops {H : Type} {enc : TypeId × Value → H} {W : World} {v : Value} {d : DataW H} {ps : List MemPlace} {base : Nat} {ds : List (DataW H)}
    (hv : Value.okWide Try.prog W .any base 32 v) (h : DataW.Trod enc Try.prog W 0 (fun _ => true) true 32 v d ps) (hk : Rows.uptoSmall H ds = true) (hd : d ∈ ds) :
    ∃ (a : Option Addr) (n c : Nat), v = .slice a n c ∧ OpsAt W a n c := by
  obtain ⟨a, n, c, rfl, hnc, hcm, hx⟩ := open_rows Try.underlying32 Try.underlying35 (Go.Deep.hone_of (by kernel_rfl)) (by kernel_rfl) (by decide) hv h
  have hb := bulk_bound hk
  have hdb := bulk_part hd
  refine ⟨a, n, c, rfl, ?_, hnc, hcm, fun hn => ?_⟩
  · by_cases hn : 0 < n
    · obtain ⟨b, off, els, sp, rfl, rfl, hel, _⟩ := hx hn
      have := bulk_slice (elems := els) (spare := sp)
      omega
    · omega
  · obtain ⟨b, off, els, sp, rfl, rfl, hel, hi⟩ := hx hn
    refine ⟨b, off, rfl, fun i hin => ?_⟩
    obtain ⟨parts, hpart, hf⟩ := hi i hin
    obtain ⟨u0, x0, p0, m0, c0, t0, _⟩ := hf 0 _ rfl
    obtain ⟨u1, x1, p1, m1, c1, t1, _⟩ := hf 1 _ rfl
    obtain ⟨u2, x2, p2, m2, c2, t2, _⟩ := hf 2 _ rfl
    obtain ⟨u3, x3, p3, m3, c3, t3, hin3⟩ := hf 3 _ rfl
    obtain ⟨u4, x4, p4, m4, c4, t4, _⟩ := hf 4 _ rfl
    obtain ⟨kind, e0, _, w0⟩ := DataW.trod_int Try.underlying3 t0
    obtain ⟨A, e1, _, w1⟩ := DataW.trod_int Try.underlying3 t1
    obtain ⟨B, e2, _, w2⟩ := DataW.trod_int Try.underlying3 t2
    obtain ⟨fin, e4, _⟩ := DataW.trod_bool Try.underlying4 t4
    simp only [List.cons.injEq, and_true] at e0 e1 e2 e4
    subst e0; subst e1; subst e2; subst e4
    have b1 := bounds_i64 w1
    have b2 := bounds_i64 w2
    rcases open_ints Try.underlying27 Try.underlying5 (by kernel_rfl) t3 with ⟨e3, _⟩ | ⟨x, len, cap, zs, e3, _, hl, hm, hz, hx3, hcell, hwz⟩
    · simp only [List.cons.injEq, and_true] at e3
      subst e3
      exact ⟨kind, A, B, none, 0, 0, [], fin, c0, c1, c2, c3, c4, Sl.empty W, by omega, b1.1, b1.2, b2.1, b2.2⟩
    · simp only [List.cons.injEq, and_true] at e3
      subst e3
      have hz' : zs.length = cap := by simpa using hz
      have hs := sl_of_ints hl hm hz' hcell
      simp only [Prod.mk.injEq] at hx3
      have hlen : len ≤ 1048576 := by
        rw [hx3.1] at hin3
        have := bulk_inner (sp := sp) hpart hin3
        simp [lits] at this
        omega
      refine ⟨kind, A, B, some x, len, cap, (zs.take len).map (fun z => UInt8.ofNat z.toNat), fin, c0, c1, c2, c3, c4, ?_, hlen, b1.1, b1.2, b2.1, b2.2⟩
      have e : bv ((zs.take len).map (fun z => UInt8.ofNat z.toNat)) = iv .u8 (zs.take len) := by
        simp only [bv, iv, List.map_map]
        refine List.map_congr_left fun z hz => ?_
        have hb := bounds_u8 (hwz z (List.mem_of_mem_take hz))
        simp
        omega
      rw [e]
      exact hs
end Go.Proofs.Ytkjclgpecppokaa

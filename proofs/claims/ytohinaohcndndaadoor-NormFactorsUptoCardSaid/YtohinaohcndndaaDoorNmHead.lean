/- norm.Head: the head of a request. Conditions: the sizes, the table of powers of ten. -/
import Derived.Test.YtohinaohcndndaaDoorNmCook
import Derived.Test.YtohinaohcndndaaDoorNmChunk
import Derived.WalkMore
import Derived.Sort.Grow
namespace Go.Proofs.YtohinaohcndndaaDoor
open Go.RowKit

/-- the fields that the head holds, cv the cookies' value, ck: they were told -/
def headF (cv : List UInt8) : Bool → List Fd → List UInt8
  | _, [] => []
  | ck, f :: r =>
    if bl f.nm = [99, 111, 110, 116, 101, 110, 116, 45, 108, 101, 110, 103, 116, 104] ∨ bl f.nm = [116, 101] ∨ bl f.nm = [101, 120, 112, 101, 99, 116] then headF cv ck r
    else if bl f.nm = [99, 111, 111, 107, 105, 101] then
      if ck = true then headF cv ck r else bl f.nm ++ ([58, 32] ++ (cv ++ [13, 10])) ++ headF cv true r
    else lineL f ++ headF cv ck r
/-- what tells the framing -/
def framT (r : Rq) (body : Bool) : List UInt8 :=
  if framL r body = 1 then [99, 111, 110, 116, 101, 110, 116, 45, 108, 101, 110, 103, 116, 104, 58, 32] ++ (Lib.itoa (max r.len 0) ++ [13, 10])
  else if framL r body = 2 then [116, 114, 97, 110, 115, 102, 101, 114, 45, 101, 110, 99, 111, 100, 105, 110, 103, 58, 32, 99, 104, 117, 110, 107, 101, 100, 13, 10]
  else []
def head1 (r : Rq) : List UInt8 := bl r.me ++ ([32] ++ (bl r.pa ++ ([32, 72, 84, 84, 80, 47, 49, 46, 49] ++ [13, 10])))
def head2 (r : Rq) : List UInt8 := [104, 111, 115, 116, 58, 32] ++ (bl r.au ++ [13, 10])
def viaT : List UInt8 := [118, 105, 97, 58, 32, 51, 32, 116, 117, 114, 110, 112, 105, 107, 101, 13, 10, 13, 10]
def headL (r : Rq) (body : Bool) : List UInt8 × Int :=
  if bl r.me = [67, 79, 78, 78, 69, 67, 84] then ([], 50)
  else (head1 r ++ (head2 r ++ (headF (cookL r.fs) false r.fs ++ (framT r body ++ viaT))), 0)

theorem line_new (w : World) {B b : Nat} {l : List UInt8} (h : Bf w B b l) (hBw : B ≤ w.heap.size) (ps : List ByteArray) (hn : ps.length ≤ 1000) (hlim : l.length + (catL ps).length + 2 ≤ 140737488355328) :
    Calls Tryd.prog 33 #[.pointer (some ⟨b, 0, none⟩), .slice (some ⟨w.heap.size, 0, none⟩) ps.length ps.length] (w.alloc (.cells (ps.map Value.string).toArray 9)) fun e w' =>
      e = .returned (.tuple #[]) ∧ Bf w' B b (l ++ catL ps ++ [13, 10]) ∧ Bk w B b w' := by
  have hb3 : Below w.heap.size w (w.alloc (.cells (ps.map Value.string).toArray 9)) := (Below.refl _ w).alloc (Nat.le_refl _) _
  refine (line_any _ (h.below hb3) (Nat.le_trans hBw hb3.size) (pcs_new w ps) hn hlim).mono ?_
  rintro e w' ⟨rfl, hf, hk⟩
  exact ⟨rfl, hf, (Bk.of_below hb3 hBw).trans hk⟩
theorem below_gr (w : World) (k : Nat) (os : Array Obj) : Below w.heap.size w (Sort.grow (w.drewN k) os) := by
  have h1 : Below w.heap.size w (w.drewN k) := below_drewN (Below.refl _ w) k
  refine ⟨h1.os, h1.tape, h1.output, ?_, fun j hj => ?_⟩
  · have := h1.size; simp [Sort.grow]
  · have := h1.block j hj; have h2 := h1.size; simp only [Sort.grow]; rw [Array.getElem?_append_left (by omega)]; exact this
structure HdW (w : World) (g0 g : Nat) (r : Rq) (a : Option Addr) (c : Nat) (L : List UInt8) : Prop where
  req : Has w g0 24 [.string r.me, .string r.sc, .string r.au, .string r.pa, .slice a r.fs.length c, .int .i64 r.len]
  buf : Bf w g g L
  lt : g0 < g
  le : g ≤ w.heap.size
theorem HdW.bk {w w' : World} {g0 g : Nat} {r : Rq} {a : Option Addr} {c : Nat} {L L' : List UInt8} (h : HdW w g0 g r a c L) (hk : Bk w g g w') (hf : Bf w' g g L') : HdW w' g0 g r a c L' :=
  ⟨hk.has h.req (by decide) (Nat.ne_of_lt h.lt), hf, h.lt, Nat.le_trans h.le hk.below.size⟩
theorem HdW.below {w w' : World} {g0 g : Nat} {r : Rq} {a : Option Addr} {c : Nat} {L : List UInt8} (h : HdW w g0 g r a c L) (hb : Below w.heap.size w w') : HdW w' g0 g r a c L :=
  ⟨h.req.kept (Kept.of_below (X := none') hb) (fun h => h), h.buf.below hb, h.lt, Nat.le_trans h.le hb.size⟩
/-- a line was written -/
theorem HdW.line {w : World} {g0 g : Nat} {r : Rq} {a : Option Addr} {c : Nat} {L : List UInt8} {w0 : World} (h : HdW w g0 g r a c L) (hM : w0.heap.size ≤ g) (hb0 : Below w0.heap.size w0 w) (ps : List ByteArray) (hn : ps.length ≤ 1000) {T X : List UInt8} (hT : T = L ++ (catL ps ++ [13, 10] ++ X)) (hlim : T.length ≤ 140737488355328) :
    Calls Tryd.prog 33 #[.pointer (some ⟨g, 0, none⟩), .slice (some ⟨w.heap.size, 0, none⟩) ps.length ps.length] (w.alloc (.cells (ps.map Value.string).toArray 9)) fun e w' =>
      e = .returned (.tuple #[]) ∧ HdW w' g0 g r a c (L ++ (catL ps ++ [13, 10])) ∧ Below w0.heap.size w0 w' ∧ T = (L ++ (catL ps ++ [13, 10])) ++ X := by
  refine (line_new w h.buf h.le ps hn ?_).mono ?_
  · rw [hT, List.length_append, List.length_append, List.length_append] at hlim
    simp only [List.length_cons, List.length_nil] at hlim
    omega
  · rintro e w' ⟨rfl, hf, hk⟩
    rw [List.append_assoc] at hf
    exact ⟨rfl, h.bk hk hf, hb0.trans (hk.below.mono hM), by rw [hT]; simp only [List.append_assoc]⟩
theorem HdW.setf {w : World} {g0 g : Nat} {r : Rq} {a : Option Addr} {c : Nat} {L : List UInt8} (h : HdW w g0 g r a c L) {k : Nat} {vs : List Value} (hk : Has w k 64 vs) (v : Value) : HdW (w.setCell ⟨k, 1, none⟩ v) g0 g r a c L := by
  have h0 : g0 ≠ k := by
    rintro rfl
    have h1 := h.req
    unfold Has at h1 hk
    rw [hk] at h1
    simp at h1
  have hg : g ≠ k := by
    rintro rfl
    exact h.buf.ne hk (by decide) rfl
  have hkp := Kept.set w k 1 v
  obtain ⟨hB, v', lr, h3, hown, hne⟩ := h.buf
  refine ⟨h.req.other h0 1 v, ⟨hB, v', lr, h3.of_heap (hkp.block g h3.lt hg), own_kept hown hkp (fun j hj e => ?_), hne⟩, h.lt, Nat.le_trans h.le hkp.size⟩
  subst e
  rcases hown.2 with ⟨hv, _⟩ | ⟨q, cap, cur, hv, _, hq, _⟩
  · rw [hv] at hj; cases hj
  · rw [hv] at hj
    simp only [Value.ownBlock, Option.some.injEq] at hj
    subst hj
    unfold Has at hk
    rw [hk] at hq
    simp at hq
theorem headF_skip {cv : List UInt8} {ck : Bool} {f : Fd} {l : List Fd} (h : bl f.nm = [99, 111, 110, 116, 101, 110, 116, 45, 108, 101, 110, 103, 116, 104] ∨ bl f.nm = [116, 101] ∨ bl f.nm = [101, 120, 112, 101, 99, 116]) : headF cv ck (f :: l) = headF cv ck l := by rw [headF, if_pos h]
theorem headF_seen {cv : List UInt8} {f : Fd} {l : List Fd} (h : bl f.nm = [99, 111, 111, 107, 105, 101]) : headF cv true (f :: l) = headF cv true l := by
  rw [headF, if_neg (by rw [h]; decide), if_pos h, if_pos rfl]
theorem headF_first {cv : List UInt8} {f : Fd} {l : List Fd} (h : bl f.nm = [99, 111, 111, 107, 105, 101]) : headF cv false (f :: l) = bl f.nm ++ ([58, 32] ++ (cv ++ [13, 10])) ++ headF cv true l := by
  rw [headF, if_neg (by rw [h]; decide), if_pos h, if_neg (by decide)]
theorem headF_other {cv : List UInt8} {ck : Bool} {f : Fd} {l : List Fd} (h : ¬ (bl f.nm = [99, 111, 110, 116, 101, 110, 116, 45, 108, 101, 110, 103, 116, 104] ∨ bl f.nm = [116, 101] ∨ bl f.nm = [101, 120, 112, 101, 99, 116])) (h2 : ¬ bl f.nm = [99, 111, 111, 107, 105, 101]) : headF cv ck (f :: l) = lineL f ++ headF cv ck l := by
  rw [headF, if_neg h, if_neg h2]
theorem tab_below {w w' : World} {nm : String} {k : IntKind} {zs : List Int} (h : Lib.TabIs Tryd.prog w nm k zs) (hb : Below w.heap.size w w') : Lib.TabIs Tryd.prog w' nm k zs := by
  unfold Lib.TabIs World.var? at h ⊢
  cases hg : Tryd.prog.globalNamed nm with
  | none => rw [hg] at h; simp at h
  | some g =>
    rw [hg] at h
    simp only [Option.bind_some] at h ⊢
    by_cases hlt : g < w.heap.size
    · rw [hb.block g hlt]; exact h
    · rw [Array.getElem?_eq_none (by omega)] at h
      simp at h
theorem nmax {z : Int} (h : -9223372036854775808 ≤ z ∧ z ≤ 9223372036854775807) : -9223372036854775808 ≤ max z 0 ∧ max z 0 ≤ 9223372036854775807 := by omega
set_option maxRecDepth 100000 in
theorem head_any (w : World) (r : Rq) {a : Option Addr} {c : Nat} (hs : SlS w a r.fs.length c r.fs) (body : Bool) (hl : -9223372036854775808 ≤ r.len ∧ r.len ≤ 9223372036854775807) (hn : r.fs.length ≤ 1099511627776)
    (hck : (cookL r.fs).length ≤ 140737488355328) (hb : (headL r body).1.length ≤ 140737488355328) (htab : Lib.TabIs Tryd.prog w "internal/strconv.uint64pow10" .u64 Lib.pow10Tab) :
    Calls Tryd.prog 11 #[rqV r a c, .bool body] w (BytE w (headL r body)) := by
  obtain ⟨R, hR⟩ : ∃ R, R = headL r body := ⟨_, rfl⟩
  rw [← hR]
  rw [← hR] at hb
  obtain ⟨n, hnn⟩ : ∃ n, n = r.fs.length := ⟨_, rfl⟩
  have HNn := Lib.hid hnn
  have HS := Lib.hid hs
  have HLn := Lib.hid hl
  have HN : Hid (n ≤ 1099511627776) := Lib.hid (by rw [hnn]; exact hn)
  have HCl := Lib.hid hck
  have HTab := Lib.hid htab
  obtain ⟨me, hme⟩ : ∃ me, me = r.me := ⟨_, rfl⟩
  obtain ⟨sc, hsc⟩ : ∃ sc, sc = r.sc := ⟨_, rfl⟩
  obtain ⟨au, hau⟩ : ∃ au, au = r.au := ⟨_, rfl⟩
  obtain ⟨pa, hpa⟩ : ∃ pa, pa = r.pa := ⟨_, rfl⟩
  obtain ⟨len, hlen⟩ : ∃ len, len = r.len := ⟨_, rfl⟩
  have HV : Hid (rqV r a c = .agg #[.string me, .string sc, .string au, .string pa, .slice a n c, .int .i64 len]) := Lib.hid (by rw [hme, hsc, hau, hpa, hlen, hnn]; rfl)
  rw [HV.out]
  have HE : Hid (me = r.me ∧ sc = r.sc ∧ au = r.au ∧ pa = r.pa ∧ len = r.len) := Lib.hid ⟨hme, hsc, hau, hpa, hlen⟩
  rw [← hnn] at HS
  by_cases hc : bl me = [67, 79, 78, 78, 69, 67, 84]
  · have e1 := eqT hc
    obtain rfl : R = ([], 50) := by rw [hR, headL, if_pos (by rw [← hme]; exact hc)]
    clear hs hl hn hck hb htab hR hnn hme hsc hau hpa hlen hc
    go_enter Tryd.func11, Tryd.ntmps11
    go_wp2_with go_step3
    rw [Exit.noGoto_ret]
    go_ret2
    exact ⟨_, 0, rfl, World.ownsRow_nil _ _ _ _, (Below.refl _ w).alloc (Nat.le_refl _) _⟩
  · have e1 := eqF hc
    obtain ⟨T, hT⟩ : ∃ T, T = head1 r ++ (head2 r ++ (headF (cookL r.fs) false r.fs ++ (framT r body ++ viaT))) := ⟨_, rfl⟩
    have HR : Hid (R = (T, 0)) := Lib.hid (by rw [hR, headL, if_neg (by rw [← hme]; exact hc), hT])
    have HTl : Hid (T.length ≤ 140737488355328) := Lib.hid (by rw [HR.out] at hb; exact hb)
    have HT0 : Hid (T = [] ++ (catL [me, strB [32], pa, strB [32, 72, 84, 84, 80, 47, 49, 46, 49]] ++ [13, 10] ++ (head2 r ++ (headF (cookL r.fs) false r.fs ++ (framT r body ++ viaT))))) := Lib.hid (by
      rw [hT, hme, hpa]; simp [head1, catL, bl, strB_toList])
    have HX2 : Hid (head2 r = catL [strB [104, 111, 115, 116, 58, 32], au] ++ [13, 10]) := Lib.hid (by rw [hau]; simp [head2, catL, bl, strB_toList])
    obtain ⟨w1, hw1⟩ : ∃ w1, w1 = (w.alloc (.cells #[.string me, .string sc, .string au, .string pa, .slice a n c, .int .i64 len] 24)).alloc (.cells #[.slice none 0 0, .int .i64 0, .int .i8 0] 78) := ⟨_, rfl⟩
    obtain ⟨g0, hg0⟩ : ∃ g0, g0 = w.heap.size := ⟨_, rfl⟩
    obtain ⟨g, hg⟩ : ∃ g, g = w.heap.size + 1 := ⟨_, rfl⟩
    have HD1 : Hid (HdW w1 g0 g r a c []) := Lib.hid (by
      have h1 := Has.new w 24 #[.string me, .string sc, .string au, .string pa, .slice a n c, .int .i64 len]
      have h2 := h1.kept (Kept.alloc none' _ (.cells #[.slice none 0 0, .int .i64 0, .int .i8 0] 78)) (fun h => h)
      have h3 := Bf.new (w.alloc (.cells #[.string me, .string sc, .string au, .string pa, .slice a n c, .int .i64 len] 24))
      have hsz : (w.alloc (.cells #[.string me, .string sc, .string au, .string pa, .slice a n c, .int .i64 len] 24)).heap.size = g := by rw [hg]; simp
      rw [hsz] at h3
      rw [← hw1] at h2 h3
      refine ⟨?_, h3, by omega, by rw [hw1]; simp; omega⟩
      rw [hg0, ← hme, ← hsc, ← hau, ← hpa, ← hlen, ← hnn]
      exact h2)
    have HB1 : Hid (Below w.heap.size w w1) := Lib.hid (by rw [hw1]; exact ((Below.refl _ w).alloc (Nat.le_refl _) _).alloc (by simp) _)
    have HG : Hid (w.heap.size ≤ g) := Lib.hid (by omega)
    have HG0 := Lib.hid hg0
    have HG1 := Lib.hid hg
    have HW1 := Lib.hid hw1
    clear hs hl hn hck hb htab hR hnn hme hsc hau hpa hlen hc hT hw1 hg0 hg
    go_enter Tryd.func11, Tryd.ntmps11
    go_upto_region 4 with go_step3
    rw [← HW1.out, ← HG1.out, ← HG0.out]
    have cells1 := HD1.out.req
    rw [← HE.out.1, ← HE.out.2.1, ← HE.out.2.2.1, ← HE.out.2.2.2.1, ← HE.out.2.2.2.2, ← HNn.out] at cells1
    have c0 : w1.cell? ⟨g0, 0, none⟩ = some (.string me) := cells1.cell 0 rfl
    have c3 : w1.cell? ⟨g0, 3, none⟩ = some (.string pa) := cells1.cell 3 rfl
    clear cells1
    have hln := HD1.out.line HG.out HB1.out [me, strB [32], pa, strB [32, 72, 84, 84, 80, 47, 49, 46, 49]] (by simp) HT0.out HTl.out
    go_wp2_with fail
    refine hln.mono ?_
    rintro e w2 ⟨rfl, hd2, hb2, hT2⟩
    rw [HX2.out] at hT2
    obtain ⟨L2, hL2⟩ : ∃ L2, L2 = [] ++ (catL [me, strB [32], pa, strB [32, 72, 84, 84, 80, 47, 49, 46, 49]] ++ [13, 10]) := ⟨_, rfl⟩
    rw [← hL2] at hd2 hT2
    have HD2 := Lib.hid hd2
    have HB2 := Lib.hid hb2
    have HT2 := Lib.hid hT2
    clear hd2 hb2 hT2 hL2 c0 c3 hln
    have cells2 := HD2.out.req
    rw [← HE.out.1, ← HE.out.2.1, ← HE.out.2.2.1, ← HE.out.2.2.2.1, ← HE.out.2.2.2.2, ← HNn.out] at cells2
    have c2 : w2.cell? ⟨g0, 2, none⟩ = some (.string au) := cells2.cell 2 rfl
    clear cells2
    have hln := HD2.out.line HG.out HB2.out [strB [104, 111, 115, 116, 58, 32], au] (by simp) (X := headF (cookL r.fs) false r.fs ++ (framT r body ++ viaT)) HT2.out HTl.out
    go_wp2_with fail
    refine hln.mono ?_
    rintro e w3 ⟨rfl, hd3, hb3, hT3⟩
    obtain ⟨L3, hL3⟩ : ∃ L3, L3 = L2 ++ (catL [strB [104, 111, 115, 116, 58, 32], au] ++ [13, 10]) := ⟨_, rfl⟩
    rw [← hL3] at hd3 hT3
    have HD3 := Lib.hid hd3
    have HB3 := Lib.hid hb3
    have HT3 := Lib.hid hT3
    clear hd3 hb3 hT3 hL3 c2 hln
    have cells3 := HD3.out.req
    rw [← HE.out.1, ← HE.out.2.1, ← HE.out.2.2.1, ← HE.out.2.2.2.1, ← HE.out.2.2.2.2, ← HNn.out] at cells3
    have c4 : w3.cell? ⟨g0, 4, none⟩ = some (.slice a n c) := cells3.cell 4 rfl
    clear cells3
    go_wp2_with go_step3
    go_loopw [7, 30] (fun ckv v wr => ∃ (i : Nat) (ck : Bool) (L : List UInt8), v = .int .i64 (i : Int) ∧ i ≤ n ∧ ckv = .bool ck ∧ Hid (T = L ++ (headF (cookL r.fs) ck (r.fs.drop i) ++ (framT r body ++ viaT))) ∧ HdW wr g0 g r a c L ∧ Below w.heap.size w wr) (fun _ v _ => n - (intOf v).toNat)
    case atStart => exact ⟨0, false, L3, rfl, Nat.zero_le _, rfl, HT3, HD3.out, HB3.out⟩
    case round =>
      obtain ⟨i, ck, L, rfl, hi, rfl, HT, hd, hb⟩ := hrel
      have HD := Lib.hid hd
      have HB := Lib.hid hb
      have HBs : Hid (w.heap.size ≤ wr.heap.size) := Lib.hid hb.size
      clear hd hb c4 HD1 HD2 HD3 HT0 HT2 HT3 HB1 HB2 HB3 HW1
      by_cases hin : i < n
      · have HI := Lib.hid hin
        obtain ⟨z1, z2, z3, z4⟩ := nbj1 hin (Nat.le_trans HN.out (by decide))
        have hil : i < r.fs.length := by rw [← HNn.out]; exact hin
        obtain ⟨b, o, rfl, hc⟩ := HS.out.cells (Nat.lt_of_le_of_lt (Nat.zero_le _) hin)
        obtain ⟨p0, p1⟩ := hc i hil
        rw [← HB.out.cell (World.block_lt_of_cell? _ _ p0)] at p0
        rw [← HB.out.cell (World.block_lt_of_cell? _ _ p1)] at p1
        have hdr : r.fs.drop i = r.fs[i] :: r.fs.drop (i + 1) := List.drop_eq_getElem_cons hil
        obtain ⟨f, hf⟩ : ∃ f, f = r.fs[i] := ⟨_, rfl⟩
        rw [← hf] at p0 p1 hdr
        obtain ⟨nm, hnm⟩ : ∃ nm, nm = f.nm := ⟨_, rfl⟩
        obtain ⟨va, hva⟩ : ∃ va, va = f.va := ⟨_, rfl⟩
        rw [← hnm] at p0
        rw [← hva] at p1
        have HF := Lib.hid (And.intro hnm hva)
        have HDr := Lib.hid hdr
        have hT := HT.out
        rw [hdr] at hT
        have HTf := Lib.hid hT
        clear hi hin hc hil hf hnm hva hdr hT HT
        go_upto_region 10 with fail
        obtain ⟨w2, hw2⟩ : ∃ w2, w2 = wr.alloc (.cells #[.string nm, .string va] 64) := ⟨_, rfl⟩
        have HH2 : Hid (Has w2 wr.heap.size 64 [.string nm, .string va]) := Lib.hid (by rw [hw2]; exact Has.new wr 64 #[.string nm, .string va])
        have hb2 : Below wr.heap.size wr w2 := by rw [hw2]; exact (Below.refl _ wr).alloc (Nat.le_refl _) _
        have HB2 : Hid (Below w.heap.size w w2) := Lib.hid (HB.out.trans (hb2.mono HBs.out))
        have HMs2 : Hid (w.heap.size ≤ w2.heap.size) := Lib.hid (Nat.le_trans HBs.out hb2.size)
        have HD2 := Lib.hid (HD.out.below hb2)
        have q0 : w2.cell? ⟨wr.heap.size, 0, none⟩ = some (.string nm) := HH2.out.cell 0 rfl
        have q1 : w2.cell? ⟨wr.heap.size, 1, none⟩ = some (.string va) := HH2.out.cell 1 rfl
        rw [← hw2]
        clear hw2 hb2 p0 p1
        have fin : ∀ {s : ByteArray} {l : List UInt8}, bl s = l → (s.toList == l) = true := fun h => eqT h
        by_cases k1 : bl nm = [99, 111, 110, 116, 101, 110, 116, 45, 108, 101, 110, 103, 116, 104]
        · have e2 := eqT k1
          have HT2 : Hid (T = L ++ (headF (cookL r.fs) ck (r.fs.drop (i + 1)) ++ (framT r body ++ viaT))) := Lib.hid (by rw [HTf.out, headF_skip (.inl (by rw [← HF.out.1]; exact k1))])
          clear k1
          go_wp2_with fail
          go_roundw
          case rel => exact ⟨i + 1, ck, L, by first | rfl | (push_cast; rfl), HI.out, rfl, HT2, HD2.out, HB2.out⟩
          case measure => exact nbj3 HI.out
        have e2 := eqF k1
        by_cases k2 : bl nm = [116, 101]
        · have e3 := eqT k2
          have HT2 : Hid (T = L ++ (headF (cookL r.fs) ck (r.fs.drop (i + 1)) ++ (framT r body ++ viaT))) := Lib.hid (by rw [HTf.out, headF_skip (.inr (.inl (by rw [← HF.out.1]; exact k2)))])
          clear k1 k2
          go_wp2_with fail
          go_roundw
          case rel => exact ⟨i + 1, ck, L, by first | rfl | (push_cast; rfl), HI.out, rfl, HT2, HD2.out, HB2.out⟩
          case measure => exact nbj3 HI.out
        have e3 := eqF k2
        by_cases k3 : bl nm = [101, 120, 112, 101, 99, 116]
        · have e4 := eqT k3
          have HT2 : Hid (T = L ++ (headF (cookL r.fs) ck (r.fs.drop (i + 1)) ++ (framT r body ++ viaT))) := Lib.hid (by rw [HTf.out, headF_skip (.inr (.inr (by rw [← HF.out.1]; exact k3)))])
          clear k1 k2 k3
          go_wp2_with fail
          go_roundw
          case rel => exact ⟨i + 1, ck, L, by first | rfl | (push_cast; rfl), HI.out, rfl, HT2, HD2.out, HB2.out⟩
          case measure => exact nbj3 HI.out
        have e4 := eqF k3
        by_cases k4 : bl nm = [99, 111, 111, 107, 105, 101]
        · have e5 := eqT k4
          cases ck with
          | true =>
            have HT2 : Hid (T = L ++ (headF (cookL r.fs) true (r.fs.drop (i + 1)) ++ (framT r body ++ viaT))) := Lib.hid (by rw [HTf.out, headF_seen (by rw [← HF.out.1]; exact k4)])
            clear k1 k2 k3 k4
            go_wp2_with fail
            go_roundw
            case rel => exact ⟨i + 1, true, L, by first | rfl | (push_cast; rfl), HI.out, rfl, HT2, HD2.out, HB2.out⟩
            case measure => exact nbj3 HI.out
          | false =>
            have HT2 : Hid (T = L ++ (catL [nm, strB [58, 32], strB (cookL r.fs)] ++ [13, 10] ++ (headF (cookL r.fs) true (r.fs.drop (i + 1)) ++ (framT r body ++ viaT)))) := Lib.hid (by
              rw [HTf.out, headF_first (by rw [← HF.out.1]; exact k4), ← HF.out.1]
              simp [catL, bl, strB_toList])
            clear k1 k2 k3 k4
            have cellsq := HD2.out.req
            rw [← HE.out.1, ← HE.out.2.1, ← HE.out.2.2.1, ← HE.out.2.2.2.1, ← HE.out.2.2.2.2, ← HNn.out] at cellsq
            have c4 : w2.cell? ⟨g0, 4, none⟩ = some (.slice (some ⟨b, o, none⟩) n c) := cellsq.cell 4 rfl
            clear cellsq
            have HCk := Lib.hid (cookies_any w2 (HS.out.below HB2.out) HN.out HCl.out)
            go_wp2_with fail
            refine HCk.out.mono ?_
            rintro e w5 ⟨rfl, hb5⟩
            have HD5 := Lib.hid (HD2.out.below hb5)
            have HH5 : Hid (Has w5 wr.heap.size 64 [.string nm, .string va]) := Lib.hid (HH2.out.kept (Kept.of_below (X := none') hb5) (fun h => h))
            have HB5 : Hid (Below w.heap.size w w5) := Lib.hid (HB2.out.trans (hb5.mono HMs2.out))
            clear hb5 c4 q0 q1
            have r0 : w5.cell? ⟨wr.heap.size, 0, none⟩ = some (.string nm) := HH5.out.cell 0 rfl
            have r1 : w5.cell? ⟨wr.heap.size, 1, none⟩ = some (.string va) := HH5.out.cell 1 rfl
            have fr1 : w5.frozen? ⟨wr.heap.size, 1, none⟩ = false := HH5.out.free 1
            obtain ⟨w6, hw6⟩ : ∃ w6, w6 = w5.setCell ⟨wr.heap.size, 1, none⟩ (.string (strB (cookL r.fs))) := ⟨_, rfl⟩
            have HH6 : Hid (Has w6 wr.heap.size 64 [.string nm, .string (strB (cookL r.fs))]) := Lib.hid (by rw [hw6]; exact HH5.out.set 1 _)
            have HD6 : Hid (HdW w6 g0 g r (some ⟨b, o, none⟩) c L) := Lib.hid (by rw [hw6]; exact HD5.out.setf HH5.out _)
            have HB6 : Hid (Below w.heap.size w w6) := Lib.hid (by rw [hw6]; exact HB5.out.setCell (p := ⟨wr.heap.size, 1, none⟩) HBs.out _)
            have HW6 := Lib.hid hw6
            clear hw6
            have s0 : w6.cell? ⟨wr.heap.size, 0, none⟩ = some (.string nm) := HH6.out.cell 0 rfl
            have s1 : w6.cell? ⟨wr.heap.size, 1, none⟩ = some (.string (strB (cookL r.fs))) := HH6.out.cell 1 rfl
            go_upto_region 18 with fail
            rw [← HW6.out]
            clear r0 r1 fr1
            have hln := HD6.out.line HG.out HB6.out [nm, strB [58, 32], strB (cookL r.fs)] (by simp) HT2.out HTl.out
            go_wp2_with fail
            refine hln.mono ?_
            rintro e w7 ⟨rfl, hd7, hb7, hT7⟩
            have HD7 := Lib.hid hd7
            have HB7 := Lib.hid hb7
            have HT7 := Lib.hid hT7
            clear hd7 hb7 hT7 hln
            go_wp2_with fail
            go_roundw
            case rel => exact ⟨i + 1, true, _, by first | rfl | (push_cast; rfl), HI.out, rfl, HT7, HD7.out, HB7.out⟩
            case measure => exact nbj3 HI.out
        have e5 := eqF k4
        have HT2 : Hid (T = L ++ (catL [nm, strB [58, 32], va] ++ [13, 10] ++ (headF (cookL r.fs) ck (r.fs.drop (i + 1)) ++ (framT r body ++ viaT)))) := Lib.hid (by
          rw [HTf.out, headF_other (by rw [← HF.out.1]; exact fun h => h.elim k1 (fun h => h.elim k2 k3)) (by rw [← HF.out.1]; exact k4), HF.out.1, HF.out.2, cat3 f]
          simp)
        clear k1 k2 k3 k4
        have hln := HD2.out.line HG.out HB2.out [nm, strB [58, 32], va] (by simp) HT2.out HTl.out
        go_wp2_with fail
        refine hln.mono ?_
        rintro e w7 ⟨rfl, hd7, hb7, hT7⟩
        have HD7 := Lib.hid hd7
        have HB7 := Lib.hid hb7
        have HT7 := Lib.hid hT7
        clear hd7 hb7 hT7 hln
        go_wp2_with fail
        go_roundw
        case rel => exact ⟨i + 1, ck, _, by first | rfl | (push_cast; rfl), HI.out, rfl, HT7, HD7.out, HB7.out⟩
        case measure => exact nbj3 HI.out
      · have z1 := nbj2 hin
        have hie : i = n := Nat.le_antisymm hi (Nat.le_of_not_lt hin)
        have HT2 : Hid (T = L ++ (framT r body ++ viaT)) := Lib.hid (by rw [HT.out, List.drop_of_length_le (by rw [hie, HNn.out]; exact Nat.le_refl _)]; simp [headF])
        clear hi hin hie HT
        have cells4 := HD.out.req
        rw [← HE.out.1, ← HE.out.2.1, ← HE.out.2.2.1, ← HE.out.2.2.2.1, ← HE.out.2.2.2.2, ← HNn.out] at cells4
        have c0 : wr.cell? ⟨g0, 0, none⟩ = some (.string me) := cells4.cell 0 rfl
        have c1 : wr.cell? ⟨g0, 1, none⟩ = some (.string sc) := cells4.cell 1 rfl
        have c2 : wr.cell? ⟨g0, 2, none⟩ = some (.string au) := cells4.cell 2 rfl
        have c3 : wr.cell? ⟨g0, 3, none⟩ = some (.string pa) := cells4.cell 3 rfl
        have c4 : wr.cell? ⟨g0, 4, none⟩ = some (.slice a n c) := cells4.cell 4 rfl
        have c5 : wr.cell? ⟨g0, 5, none⟩ = some (.int .i64 len) := cells4.cell 5 rfl
        clear cells4
        have hfr := framing_any wr r a c body
        rw [HV.out] at hfr
        have HFr := Lib.hid hfr
        clear hfr
        obtain ⟨z, hz⟩ : ∃ z, z = framL r body := ⟨_, rfl⟩
        rw [← hz] at HFr
        have HZ := Lib.hid hz
        clear hz
        go_wp2_with fail
        refine HFr.out.mono ?_
        rintro e w4 ⟨rfl, hb4⟩
        have HD4 := Lib.hid (HD.out.below hb4)
        have HB4 : Hid (Below w.heap.size w w4) := Lib.hid (HB.out.trans (hb4.mono HBs.out))
        have HBs4 : Hid (w.heap.size ≤ w4.heap.size) := Lib.hid (Nat.le_trans HBs.out hb4.size)
        clear hb4 c0 c1 c2 c3 c4 c5
        have cells5 := HD4.out.req
        rw [← HE.out.1, ← HE.out.2.1, ← HE.out.2.2.1, ← HE.out.2.2.2.1, ← HE.out.2.2.2.2, ← HNn.out] at cells5
        have c5 : w4.cell? ⟨g0, 5, none⟩ = some (.int .i64 len) := cells5.cell 5 rfl
        clear cells5
        by_cases k1 : z = 1
        · subst k1
          have HT5 : Hid (T = L ++ (catL [strB [99, 111, 110, 116, 101, 110, 116, 45, 108, 101, 110, 103, 116, 104, 58, 32], strB (Lib.itoa (max len 0))] ++ [13, 10] ++ viaT)) := Lib.hid (by
            rw [HT2.out]
            unfold framT
            rw [if_pos HZ.out.symm, HE.out.2.2.2.2]
            simp [catL, bl, strB_toList])
          have HIt := Lib.hid (Tryd.strconv_Itoa (max len 0) (nmax (by rw [HE.out.2.2.2.2]; exact HLn.out)).1 (nmax (by rw [HE.out.2.2.2.2]; exact HLn.out)).2 w4 (tab_below HTab.out HB4.out))
          go_wp2_with fail
          refine HIt.out.mono ?_
          rintro e w5 ⟨rfl, kk, os, hw5⟩
          have hb5 : Below w4.heap.size w4 w5 := by rw [hw5]; exact below_gr w4 kk os
          have HD5 := Lib.hid (HD4.out.below hb5)
          have HB5 : Hid (Below w.heap.size w w5) := Lib.hid (HB4.out.trans (hb5.mono HBs4.out))
          clear hw5 hb5 c5
          have hln := HD5.out.line HG.out HB5.out [strB [99, 111, 110, 116, 101, 110, 116, 45, 108, 101, 110, 103, 116, 104, 58, 32], strB (Lib.itoa (max len 0))] (by simp) HT5.out HTl.out
          go_wp2_with fail
          refine hln.mono ?_
          rintro e w6 ⟨rfl, hd6, hb6, hT6⟩
          have HD6 := Lib.hid hd6
          have HB6 := Lib.hid hb6
          have HT6 := Lib.hid hT6
          clear hd6 hb6 hT6 hln
          have hln := HD6.out.line HG.out HB6.out [strB [118, 105, 97, 58, 32, 51, 32, 116, 117, 114, 110, 112, 105, 107, 101]] (by simp) (X := [13, 10]) (by rw [HT6.out]; simp [viaT, catL, bl, strB_toList]) HTl.out
          go_wp2_with fail
          refine hln.mono ?_
          rintro e w7 ⟨rfl, hd7, hb7, hT7⟩
          have HD7 := Lib.hid hd7
          have HB7 := Lib.hid hb7
          have HT7 := Lib.hid hT7
          clear hd7 hb7 hT7 hln
          have hln := line_any w7 HD7.out.buf HD7.out.le (pcs_nil w7) (by decide) (by
            have h := HTl.out
            rw [HT7.out, List.length_append] at h
            simpa [catL] using h)
          go_wp2_with fail
          refine hln.mono ?_
          rintro e w8 ⟨rfl, hf8, hk8⟩
          have HF8 : Hid (Bf w8 g g T) := Lib.hid (by rw [HT7.out]; simpa [catL] using hf8)
          have HB8 : Hid (Below w.heap.size w w8) := Lib.hid (HB7.out.trans (hk8.below.mono HG.out))
          have HBs8 : Hid (w.heap.size ≤ w8.heap.size) := Lib.hid HB8.out.size
          clear hf8 hk8 hln
          go_wp2_with fail
          refine (bytes_any w8 HF8.out).mono ?_
          rintro e w9 ⟨a9, c9, rfl, ho9, hb9⟩
          have HO9 := Lib.hid ho9
          have HB9 : Hid (Below w.heap.size w w9) := Lib.hid (HB8.out.trans (hb9.mono HBs8.out))
          have HBs9 : Hid (w.heap.size ≤ w9.heap.size) := Lib.hid HB9.out.size
          clear ho9 hb9
          go_wp2_with fail
          refine (clone_any w9 (own_sl HO9.out) HTl.out).mono ?_
          rintro e w10 ⟨a10, c10, rfl, ho10, hb10⟩
          have HO10 := Lib.hid ho10
          have HB10 : Hid (Below w.heap.size w w10) := Lib.hid (HB9.out.trans (hb10.mono HBs9.out))
          clear ho10 hb10
          go_wp2
          rw [Exit.noGoto_ret]
          go_ret2
          rw [show R = (T, 0) from HR.out]
          exact ⟨a10, c10, rfl, own_mono HO10.out HBs9.out, HB10.out⟩
        by_cases k2 : z = 2
        · subst k2
          have HT5 : Hid (T = L ++ (catL [strB [116, 114, 97, 110, 115, 102, 101, 114, 45, 101, 110, 99, 111, 100, 105, 110, 103, 58, 32, 99, 104, 117, 110, 107, 101, 100]] ++ [13, 10] ++ viaT)) := Lib.hid (by
            rw [HT2.out]
            unfold framT
            rw [← HZ.out, if_neg (by decide), if_pos rfl]
            simp [catL, bl, strB_toList])
          have hln := HD4.out.line HG.out HB4.out [strB [116, 114, 97, 110, 115, 102, 101, 114, 45, 101, 110, 99, 111, 100, 105, 110, 103, 58, 32, 99, 104, 117, 110, 107, 101, 100]] (by simp) HT5.out HTl.out
          clear c5
          go_wp2_with fail
          refine hln.mono ?_
          rintro e w6 ⟨rfl, hd6, hb6, hT6⟩
          have HD6 := Lib.hid hd6
          have HB6 := Lib.hid hb6
          have HT6 := Lib.hid hT6
          clear hd6 hb6 hT6 hln
          have hln := HD6.out.line HG.out HB6.out [strB [118, 105, 97, 58, 32, 51, 32, 116, 117, 114, 110, 112, 105, 107, 101]] (by simp) (X := [13, 10]) (by rw [HT6.out]; simp [viaT, catL, bl, strB_toList]) HTl.out
          go_wp2_with fail
          refine hln.mono ?_
          rintro e w7 ⟨rfl, hd7, hb7, hT7⟩
          have HD7 := Lib.hid hd7
          have HB7 := Lib.hid hb7
          have HT7 := Lib.hid hT7
          clear hd7 hb7 hT7 hln
          have hln := line_any w7 HD7.out.buf HD7.out.le (pcs_nil w7) (by decide) (by
            have h := HTl.out
            rw [HT7.out, List.length_append] at h
            simpa [catL] using h)
          go_wp2_with fail
          refine hln.mono ?_
          rintro e w8 ⟨rfl, hf8, hk8⟩
          have HF8 : Hid (Bf w8 g g T) := Lib.hid (by rw [HT7.out]; simpa [catL] using hf8)
          have HB8 : Hid (Below w.heap.size w w8) := Lib.hid (HB7.out.trans (hk8.below.mono HG.out))
          have HBs8 : Hid (w.heap.size ≤ w8.heap.size) := Lib.hid HB8.out.size
          clear hf8 hk8 hln
          go_wp2_with fail
          refine (bytes_any w8 HF8.out).mono ?_
          rintro e w9 ⟨a9, c9, rfl, ho9, hb9⟩
          have HO9 := Lib.hid ho9
          have HB9 : Hid (Below w.heap.size w w9) := Lib.hid (HB8.out.trans (hb9.mono HBs8.out))
          have HBs9 : Hid (w.heap.size ≤ w9.heap.size) := Lib.hid HB9.out.size
          clear ho9 hb9
          go_wp2_with fail
          refine (clone_any w9 (own_sl HO9.out) HTl.out).mono ?_
          rintro e w10 ⟨a10, c10, rfl, ho10, hb10⟩
          have HO10 := Lib.hid ho10
          have HB10 : Hid (Below w.heap.size w w10) := Lib.hid (HB9.out.trans (hb10.mono HBs9.out))
          clear ho10 hb10
          go_wp2
          rw [Exit.noGoto_ret]
          go_ret2
          rw [show R = (T, 0) from HR.out]
          exact ⟨a10, c10, rfl, own_mono HO10.out HBs9.out, HB10.out⟩
        obtain ⟨w6, hw6⟩ : ∃ w6, w6 = w4 := ⟨_, rfl⟩
        rw [← hw6] at HD4 HB4
        have HT6 : Hid (T = L ++ viaT) := Lib.hid (by
          rw [HT2.out]
          unfold framT
          rw [← HZ.out, if_neg k1, if_neg k2]
          simp)
        have HD6 := HD4
        have HB6 := HB4
        have n1 : ((z : Int) == 1) = false := by simpa using k1
        have n2 : ((z : Int) == 2) = false := by simpa using k2
        clear c5 k1 k2
        rw [← hw6]
        clear hw6
        have hln := HD6.out.line HG.out HB6.out [strB [118, 105, 97, 58, 32, 51, 32, 116, 117, 114, 110, 112, 105, 107, 101]] (by simp) (X := [13, 10]) (by rw [HT6.out]; simp [viaT, catL, bl, strB_toList]) HTl.out
        go_wp2_with fail
        refine hln.mono ?_
        rintro e w7 ⟨rfl, hd7, hb7, hT7⟩
        have HD7 := Lib.hid hd7
        have HB7 := Lib.hid hb7
        have HT7 := Lib.hid hT7
        clear hd7 hb7 hT7 hln
        have hln := line_any w7 HD7.out.buf HD7.out.le (pcs_nil w7) (by decide) (by
          have h := HTl.out
          rw [HT7.out, List.length_append] at h
          simpa [catL] using h)
        go_wp2_with fail
        refine hln.mono ?_
        rintro e w8 ⟨rfl, hf8, hk8⟩
        have HF8 : Hid (Bf w8 g g T) := Lib.hid (by rw [HT7.out]; simpa [catL] using hf8)
        have HB8 : Hid (Below w.heap.size w w8) := Lib.hid (HB7.out.trans (hk8.below.mono HG.out))
        have HBs8 : Hid (w.heap.size ≤ w8.heap.size) := Lib.hid HB8.out.size
        clear hf8 hk8 hln
        go_wp2_with fail
        refine (bytes_any w8 HF8.out).mono ?_
        rintro e w9 ⟨a9, c9, rfl, ho9, hb9⟩
        have HO9 := Lib.hid ho9
        have HB9 : Hid (Below w.heap.size w w9) := Lib.hid (HB8.out.trans (hb9.mono HBs8.out))
        have HBs9 : Hid (w.heap.size ≤ w9.heap.size) := Lib.hid HB9.out.size
        clear ho9 hb9
        go_wp2_with fail
        refine (clone_any w9 (own_sl HO9.out) HTl.out).mono ?_
        rintro e w10 ⟨a10, c10, rfl, ho10, hb10⟩
        have HO10 := Lib.hid ho10
        have HB10 : Hid (Below w.heap.size w w10) := Lib.hid (HB9.out.trans (hb10.mono HBs9.out))
        clear ho10 hb10
        go_wp2
        rw [Exit.noGoto_ret]
        go_ret2
        rw [show R = (T, 0) from HR.out]
        exact ⟨a10, c10, rfl, own_mono HO10.out HBs9.out, HB10.out⟩

end Go.Proofs.YtohinaohcndndaaDoor

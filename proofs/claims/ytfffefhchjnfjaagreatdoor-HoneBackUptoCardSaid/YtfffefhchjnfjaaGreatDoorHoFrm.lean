/- hone.frame: how a response's body is framed. Conditions: the sizes. -/
import Derived.Test.YtfffefhchjnfjaaGreatDoorHoSta
import Derived.Test.YtfffefhchjnfjaaGreatDoorMixIn
import Derived.Test.YtfffefhchjnfjaaGreatDoorSplit
namespace Go.Proofs.YtfffefhchjnfjaaGreatDoor
open Go.RowKit Go.Shelf

attribute [local go_sem] Oper.semAt_some
/-! ### marks of ranges over functions that a loop leaves behind -/
def mkD (D : Nat) : Deferred := { target := .collected D, args := #[] }
/-- the marks' blocks: shut lists, each its own -/
def Marks (B : Nat) (Ds : List Nat) (W : World) : Prop := Ds.Nodup ∧ ∀ D ∈ Ds, B ≤ D ∧ W.heap[D]? = some (.deferred (some []))
theorem Marks.kept {B : Nat} {Ds : List Nat} {X : Nat → Prop} {W W' : World} (h : Marks B Ds W) (hk : Kept X W W') (hX : ∀ D ∈ Ds, ¬ X D) : Marks B Ds W' :=
  ⟨h.1, fun D hD => ⟨(h.2 D hD).1, by rw [hk.block D (Array.getElem?_eq_some_iff.1 (h.2 D hD).2).1 (hX D hD)]; exact (h.2 D hD).2⟩⟩
theorem Marks.below {B : Nat} {Ds : List Nat} {W W' : World} (h : Marks B Ds W) (hb : Below W.heap.size W W') : Marks B Ds W' := h.kept (Kept.of_below (X := none') hb) (fun _ _ h => h)
theorem Marks.lt {B : Nat} {Ds : List Nat} {W : World} (h : Marks B Ds W) : ∀ D ∈ Ds, D < W.heap.size := fun D hD => (Array.getElem?_eq_some_iff.1 (h.2 D hD).2).1
theorem Marks.cells {B : Nat} {Ds : List Nat} {W : World} (h : Marks B Ds W) {k : Nat} (hk : ∃ c t z, W.heap[k]? = some (.cells c t z)) : ∀ D ∈ Ds, D ≠ k := by
  rintro D hD rfl
  obtain ⟨c, t, z, hc⟩ := hk
  rw [(h.2 D hD).2] at hc
  cases hc
theorem leave_marks {F : Fence} {n : Nat} {P : Program} {fn : Func} {tmps : Array Value} {R : Ending → World → Prop} {B : Nat} (St : World → Prop) (hst : ∀ W D o, St W → W.heap[D]? = some (.deferred o) → B ≤ D → St (W.putObj D (.deferred none)))
    (h0 : ∀ W, St W → LeavesInM F n P fn tmps R [] .returning W) : ∀ (Ds : List Nat) (W : World), Marks B Ds W → St W → LeavesInM F n P fn tmps R (Ds.map mkD) .returning W
  | [], W, _, hs => h0 W hs
  | D :: Ds, W, hm, hs => by
    have h1 := hm.2 D (by simp)
    have hnd := List.nodup_cons.1 hm.1
    refine ⟨by simp, .inl ⟨_, _, rfl, run_takeDeferred h1.2, ?_⟩⟩
    refine leave_marks St hst h0 Ds _ ⟨hnd.2, fun E hE => ⟨(hm.2 E (by simp [hE])).1, ?_⟩⟩ (hst W D _ hs h1.2 h1.1)
    have hne : E ≠ D := fun e => hnd.1 (e ▸ hE)
    rw [World.putObj_heap_other (by omega)]
    exact (hm.2 E (by simp [hE])).2
theorem keepsF {X : Nat → Prop} {B : Nat} {W W' : World} (h : Kept X W W') (hX : ∀ k, X k → ∃ c t z, W.heap[k]? = some (.cells c t z)) : KeepsFrom B W W' :=
  ⟨h.size, fun k o _ hk ho => by
    rw [h.block k (Array.getElem?_eq_some_iff.1 hk).1 (fun hx => by
      obtain ⟨c, t, z, hc⟩ := hX k hx
      rw [hc] at hk
      cases hk
      cases ho)]
    exact hk⟩

theorem kps_below {B : Nat} {W W' : World} (h : Below W.heap.size W W') (hB : B + 3 ≤ W.heap.size) : KpS B W W' := fun k _ h2 => h.block k (by omega)
theorem kf_below {B : Nat} {W W' : World} (h : Below W.heap.size W W') : KeepsFrom B W W' := ⟨h.size, fun k o _ hk _ => by rw [h.block k (Array.getElem?_eq_some_iff.1 hk).1]; exact hk⟩
theorem kf_mono {B B' : Nat} {W W' : World} (h : KeepsFrom B W W') (hB : B ≤ B') : KeepsFrom B' W W' := ⟨h.size, fun k o hk => h.same k o (Nat.le_trans hB hk)⟩
def szI : Option Nat → Int
  | none => -1
  | some n => (n : Int)
/-- what frame answers; the variable closes may be anything -/
def FrmR (w : World) (g : Nat) (r : RD) (x : Ex (Bool × Option Nat)) (e : Ending) (w' : World) : Prop :=
  (∃ cl, Rd w' g { r with cl := cl }) ∧ Kept (fun k => k = g) w w' ∧
  match x with
  | .ok (cd, sz) => e = .returned (.tuple #[.bool cd, .int .i64 (szI sz), .int .i64 0])
  | .bad c => e = .returned (.tuple #[.bool false, .int .i64 0, .int .i64 c])
/-- the reader and its box, while frame runs -/
structure LdS (w : World) (g gb : Nat) (r : RD) (W : World) : Prop where
  rd : ∃ cl, Rd W g { r with cl := cl }
  box : Has W gb 50 [.pointer (some ⟨g, 0, none⟩)]
  kp : Kept (fun k => k = g) w W
  ge : w.heap.size ≤ gb
  lt : g < w.heap.size
theorem LdS.kept {X : Nat → Prop} {w W W' : World} {g gb : Nat} {r : RD} (h : LdS w g gb r W) (hk : Kept X W W') (h1 : ¬ X g) (h2 : ¬ X gb) (h3 : ∀ k, X k → w.heap.size ≤ k) : LdS w g gb r W' :=
  ⟨h.rd.imp fun _ h => Has.kept h hk h1, h.box.kept hk h2, ⟨hk.os.trans h.kp.os, hk.tape.trans h.kp.tape, hk.output.trans h.kp.output, Nat.le_trans h.kp.size hk.size, fun k hkk hx => by
    rw [hk.block k (Nat.lt_of_lt_of_le hkk h.kp.size) (fun e => absurd (h3 k e) (by omega)), h.kp.block k hkk hx]⟩, h.ge, h.lt⟩
theorem LdS.below {w W W' : World} {g gb : Nat} {r : RD} (h : LdS w g gb r W) (hb : Below W.heap.size W W') : LdS w g gb r W' := h.kept (X := none') (Kept.of_below hb) (fun h => h) (fun h => h) (fun _ h => h.elim)
theorem LdS.set {w W : World} {g gb : Nat} {r : RD} (h : LdS w g gb r W) (b : Bool) : LdS w g gb r (W.setCell ⟨g, 8, none⟩ (.bool b)) := by
  obtain ⟨cl, hr⟩ := h.rd
  refine ⟨⟨b, Rd.sets hr 8 _ rfl⟩, h.box.other (by have := h.ge; have := h.lt; omega) 8 _, h.kp.trans (Kept.set W g 8 _) (fun _ _ h => h), h.ge, h.lt⟩
theorem FrmR.mark {w W : World} {g : Nat} {r : RD} {x : Ex (Bool × Option Nat)} {e : Ending} {D : Nat} (h : FrmR w g r x e W) (hB : w.heap.size ≤ D) (hg : g < w.heap.size) : FrmR w g r x e (W.putObj D (.deferred none)) := by
  obtain ⟨⟨cl, hr⟩, hk, hx⟩ := h
  refine ⟨⟨cl, ?_⟩, ⟨hk.os, hk.tape, hk.output, by simpa [World.putObj] using hk.size, fun k hkk hxx => ?_⟩, hx⟩
  · unfold Rd Has at hr ⊢
    rw [World.putObj_heap_other (by omega)]; exact hr
  · rw [World.putObj_heap_other (by omega)]; exact hk.block k hkk hxx
def conN : List UInt8 := [99, 111, 110, 110, 101, 99, 116, 105, 111, 110]
theorem nbj3 {i n : Nat} (hi : i < n) : n - (intOf (Value.int .i64 ((i : Int) + 1))).toNat < n - (intOf (Value.int .i64 (i : Int))).toNat := meas_up hi
theorem frj1 {i n : Nat} (h : i < n) (h2 : n ≤ 1099511627776) : IntKind.i64.wrap ((i : Int) + 1) = (i : Int) + 1 ∧ RowKit.wrap64 ((i : Int) + 1) = (i : Int) + 1 ∧ ((i : Int) < (n : Int)) = True := by
  rw [IntKind.wrap_i64]; unfold RowKit.wrap64; exact ⟨by omega, by omega, eq_true (by omega)⟩
theorem frj2 {i n : Nat} (h : ¬ i < n) : ((i : Int) < (n : Int)) = False := eq_false (by omega)
theorem szI_ge (n : Nat) : ((0 : Int) ≤ szI (some n)) = True := eq_true (by simp [szI])
theorem szI_lt : ((0 : Int) ≤ szI none) = False := eq_false (by simp [szI])
theorem frm_tra {od cd : Bool} {f : Fd} {r : List Fd} {sz : Option Nat} (h : bl f.nm = traN) : frameH od (f :: r) cd sz = if cd = true ∨ od = true ∨ smallL (bl f.va) ≠ chkS then .bad 202 else frameH od r true sz := by rw [frameH, if_pos h]
theorem frm_len {od cd : Bool} {f : Fd} {r : List Fd} {sz : Option Nat} (h0 : ¬ bl f.nm = traN) (h : bl f.nm = lenN) : frameH od (f :: r) cd sz = match lengthH (bl f.va) with
      | none => .bad 202
      | some n => if ∃ m, sz = some m ∧ n ≠ m then .bad 202 else frameH od r cd (some n) := by rw [frameH, if_neg h0, if_pos h]; cases lengthH (bl f.va) <;> rfl
theorem frm_oth {od cd : Bool} {f : Fd} {r : List Fd} {sz : Option Nat} (h0 : ¬ bl f.nm = traN) (h : ¬ bl f.nm = lenN) : frameH od (f :: r) cd sz = frameH od r cd sz := by rw [frameH, if_neg h0, if_neg h]
theorem cuts_mem (c : UInt8) : ∀ (l p : List UInt8), p ∈ cutsL c l → p.length ≤ l.length
  | [], p, h => by simp [cutsL] at h; simp [h]
  | b :: r, p, h => by
    have ih := cuts_mem c r
    unfold cutsL at h
    split at h
    · rcases List.mem_cons.1 h with rfl | h
      · simp
      · have := ih p h; simp; omega
    · split at h
      · rename_i e
        exact absurd e (cuts_ne c r)
      · rename_i q qs e
        rw [e] at ih
        rcases List.mem_cons.1 h with rfl | h
        · have := ih q (by simp); simp; omega
        · have := ih p (by simp [h]); simp; omega
theorem frmR_bad {w W : World} {g gb : Nat} {r : RD} {F : Ex (Bool × Option Nat)} {c : Int} (h : LdS w g gb r W) (hF : F = .bad c) : FrmR w g r F (.returned (.tuple #[.bool false, .int .i64 0, .int .i64 c])) W := by subst hF; exact ⟨h.rd, h.kp, rfl⟩
theorem frmR_ok {w W : World} {g gb : Nat} {r : RD} {F : Ex (Bool × Option Nat)} {cd : Bool} {sz : Option Nat} (h : LdS w g gb r W) (hF : F = .ok (cd, sz)) : FrmR w g r F (.returned (.tuple #[.bool cd, .int .i64 (szI sz), .int .i64 0])) W := by subst hF; exact ⟨h.rd, h.kp, rfl⟩
set_option maxRecDepth 100000 in
set_option maxHeartbeats 8000000 in
theorem frame_any (w : World) {g : Nat} {r : RD} (hr : Rd w g r) {a : Option Addr} {n c : Nat} {fs : List Fd} (h : SlS w a n c fs) (hn : n ≤ 1099511627776) (hfb : ∀ ad, a = some ad → ad.block ≠ g) (hz : ∀ f ∈ fs, f.va.size < 4294967281) :
    Calls Tryz.prog 35 #[.pointer (some ⟨g, 0, none⟩), .slice a n c] w (FrmR w g r (frameH r.od fs false none)) := by
  obtain ⟨F, hF⟩ : ∃ F, F = frameH r.od fs false none := ⟨_, rfl⟩
  rw [← hF]
  have HF0 := Lib.hid hF
  have HS := Lib.hid h
  have HL := Lib.hid h.len
  have HZ := Lib.hid hz
  have HFb := Lib.hid hfb
  obtain ⟨w1, hw1⟩ : ∃ w1, w1 = w.alloc (.cells #[.pointer (some ⟨g, 0, none⟩)] 50) := ⟨_, rfl⟩
  obtain ⟨gb, hgb⟩ : ∃ gb, gb = w.heap.size := ⟨_, rfl⟩
  have HLd : Hid (LdS w g gb r w1) := Lib.hid (by
    have hb : Below w.heap.size w w1 := by rw [hw1]; exact (Below.refl _ w).alloc (Nat.le_refl _) _
    refine ⟨⟨r.cl, hr.below hb⟩, ?_, Kept.of_below hb, by rw [hgb]; exact Nat.le_refl _, Has.lt hr⟩
    rw [hw1, hgb]; exact Has.new w 50 #[.pointer (some ⟨g, 0, none⟩)])
  have HLt : Hid (g < w.heap.size) := Lib.hid (Has.lt hr)
  have HN := Lib.hid hn
  clear hr h hfb hz hF hn
  refine (callsIn_wide (n := 3)).1 ?_
  refine callsIn_of_wp_marks Tryz.func35 rfl trivial ?_ rfl
  simp only [Tryz.ntmps35, List.size_toArray, List.length_cons, List.length_nil, Nat.reduceAdd, Nat.reduceSub, Array.replicate_succ, Array.replicate_zero, List.push_toArray, List.append_toArray, List.nil_append, List.cons_append]
  refine wpIn_wide.2 ?_
  go_upto_region 1 with fail
  rw [← hw1, ← hgb]
  clear hw1 hgb
  go_wp2_with fail
  refine wp_loop (fun a' w' => ∃ (i : Nat) (cd : Bool) (sz : Option Nat) (Ds : List Nat) (u8 u9 u10 u11 u15 u16 u17 u18 u19 u20 u21 u22 u23 u24 u25 u26 u27 u28 u29 u30 u31 u32 u33 u34 u35 u36 u37 u38 u39 u40 u41 u42 u43 u44 u45 u46 u47 u48 u49 u50 u51 u52 u53 u54 u55 u56 u57 u58 u59 u60 u61 u62 u63 u64 u65 u66 u67 u68 u69 u70 u71 u72 u73 u74 : Value), i ≤ n ∧ Hid (F = frameH r.od (fs.drop i) cd sz) ∧ LdS w g gb r w' ∧ Marks w.heap.size Ds w' ∧ a' = { tmps := #[.pointer (some ⟨g, 0, none⟩), .slice a n c, .pointer (some ⟨gb, 0, none⟩), undef, .bool cd, .int .i64 (szI sz), .int .i64 0, undef, u8, u9, u10, u11, .slice a n c, .int .i64 (n : Int), .int .i64 (i : Int), u15, u16, u17, u18, u19, u20, u21, u22, u23, u24, u25, u26, u27, u28, u29, u30, u31, u32, u33, u34, u35, u36, u37, u38, u39, u40, u41, u42, u43, u44, u45, u46, u47, u48, u49, u50, u51, u52, u53, u54, u55, u56, u57, u58, u59, u60, u61, u62, u63, u64, u65, u66, u67, u68, u69, u70, u71, u72, u73, u74, undef, undef, undef, undef, undef, undef, undef], defers := Ds.map mkD }) (fun a' _ => n - (intOf (a'.tmps.getD 14 undef)).toNat) ?_ ?_
  · exact ⟨0, false, none, [], _, _, _, _, _, _, _, _, _, _, _, _, _, _, _, _, _, _, _, _, _, _, _, _, _, _, _, _, _, _, _, _, _, _, _, _, _, _, _, _, _, _, _, _, _, _, _, _, _, _, _, _, _, _, _, _, _, _, _, _, _, _, _, _, Nat.zero_le _, Lib.hid HF0.out, HLd.out, ⟨List.nodup_nil, fun D hD => by cases hD⟩, rfl⟩
  rintro _ wr ⟨i, cd, sz, Ds, u8, u9, u10, u11, u15, u16, u17, u18, u19, u20, u21, u22, u23, u24, u25, u26, u27, u28, u29, u30, u31, u32, u33, u34, u35, u36, u37, u38, u39, u40, u41, u42, u43, u44, u45, u46, u47, u48, u49, u50, u51, u52, u53, u54, u55, u56, u57, u58, u59, u60, u61, u62, u63, u64, u65, u66, u67, u68, u69, u70, u71, u72, u73, u74, hi, HFi, hld, hmk, rfl⟩
  have HLr := Lib.hid hld
  have HMr := Lib.hid hmk
  clear hld hmk HLd HF0
  by_cases hin : i < n
  · have HI := Lib.hid hin
    obtain ⟨z1, z2, z3⟩ := frj1 hin HN.out
    have hil : i < fs.length := by rw [HL.out]; exact hin
    obtain ⟨b, o, rfl, hc⟩ := HS.out.cells (Nat.lt_of_le_of_lt (Nat.zero_le _) hin)
    obtain ⟨p0, p1⟩ := hc i hil
    have hbg : b ≠ g := HFb.out _ rfl
    replace p0 := HLr.out.kp.cell p0 hbg
    replace p1 := HLr.out.kp.cell p1 hbg
    have hdr : fs.drop i = fs[i] :: fs.drop (i + 1) := List.drop_eq_getElem_cons hil
    have hzi := HZ.out fs[i] (List.getElem_mem _)
    obtain ⟨f, hf⟩ : ∃ f, f = fs[i] := ⟨_, rfl⟩
    rw [← hf] at p0 p1 hdr hzi
    obtain ⟨nm, hnm⟩ : ∃ nm, nm = f.nm := ⟨_, rfl⟩
    obtain ⟨va, hva⟩ : ∃ va, va = f.va := ⟨_, rfl⟩
    rw [← hnm] at p0
    rw [← hva] at p1 hzi
    have HF := Lib.hid (And.intro hnm hva)
    have HFd : Hid (F = frameH r.od (f :: fs.drop (i + 1)) cd sz) := Lib.hid (by rw [HFi.out, hdr])
    have HVz := Lib.hid hzi
    clear hi hin hil hc hdr hzi hf hnm hva hbg HFi
    go_upto_region 5 with fail
    obtain ⟨w2, hw2⟩ : ∃ w2, w2 = wr.alloc (.cells #[.string nm, .string va] 58) := ⟨_, rfl⟩
    obtain ⟨g2, hg2⟩ : ∃ g2, g2 = wr.heap.size := ⟨_, rfl⟩
    have HH2 : Hid (Has w2 g2 58 [.string nm, .string va]) := Lib.hid (by rw [hw2, hg2]; exact Has.new wr 58 #[.string nm, .string va])
    have hb2 : Below wr.heap.size wr w2 := by rw [hw2]; exact (Below.refl _ wr).alloc (Nat.le_refl _) _
    have HLd2 := Lib.hid (HLr.out.below hb2)
    have HMk2 := Lib.hid (HMr.out.below hb2)
    rw [← hw2, ← hg2]
    have q0 : w2.cell? ⟨g2, 0, none⟩ = some (.string nm) := HH2.out.cell 0 rfl
    have q1 : w2.cell? ⟨g2, 1, none⟩ = some (.string va) := HH2.out.cell 1 rfl
    have qb : w2.cell? ⟨gb, 0, none⟩ = some (.pointer (some ⟨g, 0, none⟩)) := HLd2.out.box.cell 0 rfl
    have qo : w2.cell? ⟨g, 7, none⟩ = some (.bool r.od) := by obtain ⟨cl, hcl⟩ := HLd2.out.rd; exact hcl.at 7 rfl
    clear hw2 hg2 hb2 p0 p1 HLr HMr
    by_cases ht : bl nm = traN
    · obtain ⟨e1, e2⟩ : (nm.toList == [116, 114, 97, 110, 115, 102, 101, 114, 45, 101, 110, 99, 111, 100, 105, 110, 103]) = true ∧ (nm.toList = [116, 114, 97, 110, 115, 102, 101, 114, 45, 101, 110, 99, 111, 100, 105, 110, 103]) = True := eqT2 ht
      have HFt : Hid (F = if cd = true ∨ r.od = true ∨ smallL (bl va) ≠ chkS then .bad 202 else frameH r.od (fs.drop (i + 1)) true sz) := Lib.hid (by rw [HFd.out, frm_tra (by rw [← HF.out.1]; exact ht), ← HF.out.2])
      clear ht HFd
      cases hcd : cd with
      | true =>
        have HFb2 : Hid (F = .bad 202) := Lib.hid (by rw [HFt.out, if_pos (.inl hcd)])
        clear hcd HFt
        go_wp2
        exact leave_marks (B := w.heap.size) (fun W => FrmR w g r F (.returned (.tuple #[.bool false, .int .i64 0, .int .i64 202])) W) (fun W D o hs _ hB => hs.mark hB HLt.out) (fun W hs => ⟨_, results_tmp3 rfl _ _ _, hs⟩) Ds _ HMk2.out (frmR_bad HLd2.out HFb2.out)
      | false =>
        cases hod : r.od with
        | true =>
          have HFb2 : Hid (F = .bad 202) := Lib.hid (by rw [HFt.out, if_pos (.inr (.inl hod))])
          rw [hod] at qo
          clear hcd hod HFt
          go_wp2
          exact leave_marks (B := w.heap.size) (fun W => FrmR w g r F (.returned (.tuple #[.bool false, .int .i64 0, .int .i64 202])) W) (fun W D o hs _ hB => hs.mark hB HLt.out) (fun W hs => ⟨_, results_tmp3 rfl _ _ _, hs⟩) Ds _ HMk2.out (frmR_bad HLd2.out HFb2.out)
        | false =>
          rw [hod] at qo
          have HSm := Lib.hid (hsmall_any w2 va (Nat.le_trans (Nat.le_of_lt HVz.out) (by decide)))
          by_cases hch : smallL (bl va) = chkS
          · have HFn : Hid (F = frameH r.od (fs.drop (i + 1)) true sz) := Lib.hid (by rw [HFt.out, if_neg (by rw [hcd, hod]; simp [hch])])
            obtain ⟨k1, k2⟩ : ((strB (smallL (bl va))).toList == [99, 104, 117, 110, 107, 101, 100]) = true ∧ ((strB (smallL (bl va))).toList = [99, 104, 117, 110, 107, 101, 100]) = True := eqT2 (by rw [bl_strB']; exact hch)
            obtain ⟨SV, hSV⟩ : ∃ SV, SV = strB (smallL (bl va)) := ⟨_, rfl⟩
            rw [← hSV] at k1 k2
            have HSm2 : Hid (Calls Tryz.prog 42 #[.string va] w2 (TupOf w2 (.string SV))) := Lib.hid (by rw [hSV]; exact HSm.out)
            clear hch hcd hod HFt HSm hSV
            go_wp2_with fail
            refine HSm2.out.mono ?_
            rintro e w3 ⟨rfl, hb3⟩
            have HLd3 := Lib.hid (HLd2.out.below hb3)
            have HMk3 := Lib.hid (HMk2.out.below hb3)
            clear hb3 q0 q1 qb qo
            go_wp2_with fail
            exact ⟨⟨i + 1, true, sz, Ds, _, _, _, _, _, _, _, _, _, _, _, _, _, _, _, _, _, _, _, _, _, _, _, _, _, _, _, _, _, _, _, _, _, _, _, _, _, _, _, _, _, _, _, _, _, _, _, _, _, _, _, _, _, _, _, _, _, _, _, _, _, _, _, _, HI.out, HFn, HLd3.out, HMk3.out, rfl⟩, nbj3 HI.out⟩
          · have HFb2 : Hid (F = .bad 202) := Lib.hid (by rw [HFt.out, if_pos (.inr (.inr hch))])
            obtain ⟨k1, k2⟩ : ((strB (smallL (bl va))).toList == [99, 104, 117, 110, 107, 101, 100]) = false ∧ ((strB (smallL (bl va))).toList = [99, 104, 117, 110, 107, 101, 100]) = False := eqF2 (by rw [bl_strB']; exact hch)
            obtain ⟨SV, hSV⟩ : ∃ SV, SV = strB (smallL (bl va)) := ⟨_, rfl⟩
            rw [← hSV] at k1 k2
            have HSm2 : Hid (Calls Tryz.prog 42 #[.string va] w2 (TupOf w2 (.string SV))) := Lib.hid (by rw [hSV]; exact HSm.out)
            clear hch hcd hod HFt HSm hSV
            go_wp2_with fail
            refine HSm2.out.mono ?_
            rintro e w3 ⟨rfl, hb3⟩
            have HLd3 := Lib.hid (HLd2.out.below hb3)
            have HMk3 := Lib.hid (HMk2.out.below hb3)
            clear hb3 q0 q1 qb qo
            go_wp2
            exact leave_marks (B := w.heap.size) (fun W => FrmR w g r F (.returned (.tuple #[.bool false, .int .i64 0, .int .i64 202])) W) (fun W D o hs _ hB => hs.mark hB HLt.out) (fun W hs => ⟨_, results_tmp3 rfl _ _ _, hs⟩) Ds _ HMk3.out (frmR_bad HLd3.out HFb2.out)
    · obtain ⟨e1, e2⟩ : (nm.toList == [116, 114, 97, 110, 115, 102, 101, 114, 45, 101, 110, 99, 111, 100, 105, 110, 103]) = false ∧ (nm.toList = [116, 114, 97, 110, 115, 102, 101, 114, 45, 101, 110, 99, 111, 100, 105, 110, 103]) = False := eqF2 ht
      by_cases hl : bl nm = lenN
      · obtain ⟨e3, e4⟩ : (nm.toList == [99, 111, 110, 116, 101, 110, 116, 45, 108, 101, 110, 103, 116, 104]) = true ∧ (nm.toList = [99, 111, 110, 116, 101, 110, 116, 45, 108, 101, 110, 103, 116, 104]) = True := eqT2 hl
        have HFl := HFd.out
        rw [frm_len (by rw [← HF.out.1]; exact ht) (by rw [← HF.out.1]; exact hl), ← HF.out.2] at HFl
        have hLn := length_any w2 (bl va) (by rw [← bl_size]; exact HVz.out)
        rw [strB_bl] at hLn
        cases hln : lengthH (bl va) with
        | none =>
          rw [hln] at HFl hLn
          have HFb2 : Hid (F = .bad 202) := Lib.hid HFl
          have HLn := Lib.hid hLn
          clear ht hl HFd HFl hln hLn
          go_wp2_with fail
          refine HLn.out.mono ?_
          rintro e w3 ⟨rfl, hb3⟩
          have HLd3 := Lib.hid (HLd2.out.below hb3)
          have HMk3 := Lib.hid (HMk2.out.below hb3)
          clear hb3 q0 q1 qb qo
          go_wp2
          exact leave_marks (B := w.heap.size) (fun W => FrmR w g r F (.returned (.tuple #[.bool false, .int .i64 0, .int .i64 202])) W) (fun W D o hs _ hB => hs.mark hB HLt.out) (fun W hs => ⟨_, results_tmp3 rfl _ _ _, hs⟩) Ds _ HMk3.out (frmR_bad HLd3.out HFb2.out)
        | some m =>
          rw [hln] at HFl hLn
          have HLn := Lib.hid hLn
          cases hsz : sz with
          | none =>
            rw [hsz] at HFl
            have HFn : Hid (F = frameH r.od (fs.drop (i + 1)) cd (some m)) := Lib.hid (by rw [HFl]; simp)
            have s1 := szI_lt
            clear ht hl HFd HFl hln hLn hsz
            go_wp2_with fail
            refine HLn.out.mono ?_
            rintro e w3 ⟨rfl, hb3⟩
            have HLd3 := Lib.hid (HLd2.out.below hb3)
            have HMk3 := Lib.hid (HMk2.out.below hb3)
            clear hb3 q0 q1 qb qo
            go_wp2_with fail
            exact ⟨⟨i + 1, cd, some m, Ds, _, _, _, _, _, _, _, _, _, _, _, _, _, _, _, _, _, _, _, _, _, _, _, _, _, _, _, _, _, _, _, _, _, _, _, _, _, _, _, _, _, _, _, _, _, _, _, _, _, _, _, _, _, _, _, _, _, _, _, _, _, _, _, _, HI.out, HFn, HLd3.out, HMk3.out, rfl⟩, nbj3 HI.out⟩
          | some m0 =>
            rw [hsz] at HFl
            have s1 := szI_ge m0
            by_cases hmm : m = m0
            · have HFn : Hid (F = frameH r.od (fs.drop (i + 1)) cd (some m0)) := Lib.hid (by rw [HFl, hmm]; simp)
              have s2 : ((m0 : Int) == szI (some m0)) = true ∧ ((m0 : Int) = szI (some m0)) = True := ⟨by simp [szI], eq_true rfl⟩
              obtain ⟨s2, s3⟩ := s2
              rw [hmm] at HLn
              clear ht hl HFd HFl hln hLn hsz hmm
              go_wp2_with fail
              refine HLn.out.mono ?_
              rintro e w3 ⟨rfl, hb3⟩
              have HLd3 := Lib.hid (HLd2.out.below hb3)
              have HMk3 := Lib.hid (HMk2.out.below hb3)
              clear hb3 q0 q1 qb qo
              go_wp2_with fail
              exact ⟨⟨i + 1, cd, some m0, Ds, _, _, _, _, _, _, _, _, _, _, _, _, _, _, _, _, _, _, _, _, _, _, _, _, _, _, _, _, _, _, _, _, _, _, _, _, _, _, _, _, _, _, _, _, _, _, _, _, _, _, _, _, _, _, _, _, _, _, _, _, _, _, _, _, HI.out, HFn, HLd3.out, HMk3.out, rfl⟩, nbj3 HI.out⟩
            · have HFb2 : Hid (F = .bad 202) := Lib.hid (by rw [HFl]; simp [hmm])
              have s2 : ((m : Int) == szI (some m0)) = false ∧ ((m : Int) = szI (some m0)) = False := by
                have : ¬ (m : Int) = szI (some m0) := fun e => hmm (by simp only [szI] at e; omega)
                exact ⟨by rw [beq_eq_false_iff_ne]; exact this, eq_false this⟩
              obtain ⟨s2, s3⟩ := s2
              clear ht hl HFd HFl hln hLn hsz hmm
              go_wp2_with fail
              refine HLn.out.mono ?_
              rintro e w3 ⟨rfl, hb3⟩
              have HLd3 := Lib.hid (HLd2.out.below hb3)
              have HMk3 := Lib.hid (HMk2.out.below hb3)
              clear hb3 q0 q1 qb qo
              go_wp2
              exact leave_marks (B := w.heap.size) (fun W => FrmR w g r F (.returned (.tuple #[.bool false, .int .i64 0, .int .i64 202])) W) (fun W D o hs _ hB => hs.mark hB HLt.out) (fun W hs => ⟨_, results_tmp3 rfl _ _ _, hs⟩) Ds _ HMk3.out (frmR_bad HLd3.out HFb2.out)
      · obtain ⟨e3, e4⟩ : (nm.toList == [99, 111, 110, 116, 101, 110, 116, 45, 108, 101, 110, 103, 116, 104]) = false ∧ (nm.toList = [99, 111, 110, 116, 101, 110, 116, 45, 108, 101, 110, 103, 116, 104]) = False := eqF2 hl
        have HFn : Hid (F = frameH r.od (fs.drop (i + 1)) cd sz) := Lib.hid (by rw [HFd.out, frm_oth (by rw [← HF.out.1]; exact ht) (by rw [← HF.out.1]; exact hl)])
        clear ht hl HFd
        by_cases hcn : bl nm = conN
        · obtain ⟨e5, e6⟩ : (nm.toList == [99, 111, 110, 110, 101, 99, 116, 105, 111, 110]) = true ∧ (nm.toList = [99, 111, 110, 110, 101, 99, 116, 105, 111, 110]) = True := eqT2 hcn
          clear hcn
          have hsp := split_any w2 (bl va) 44
          rw [strB_bl] at hsp
          have HSp := Lib.hid hsp
          clear hsp
          go_wp2_with fail
          refine HSp.out.mono ?_
          rintro e w4 ⟨rfl, hw4⟩
          obtain ⟨b0, b1, b2, hsz4, hb4⟩ := splitsB w2 (bl va) 44 (w2 := w4) (by rw [hw4, strB_bl])
          obtain ⟨Bs, hBs⟩ : ∃ Bs, Bs = w2.heap.size := ⟨_, rfl⟩
          rw [← hBs] at b0 b1 b2 hsz4
          rw [← hBs]
          have HB0 := Lib.hid b0
          have HB1 := Lib.hid b1
          have HB2 := Lib.hid b2
          have HSz := Lib.hid hsz4
          have HBsE := Lib.hid hBs
          have HLd4 := Lib.hid (HLd2.out.below hb4)
          have HMk4 := Lib.hid (HMk2.out.below hb4)
          clear q0 q1 qb qo hw4 b0 b1 b2 hsz4 hb4 hBs
          go_wp2_with fail
          have hgbs : gb < Bs := by rw [HBsE.out]; exact HLd2.out.box.lt
          have hDs : ∀ D ∈ Ds, D < Bs := by rw [HBsE.out]; exact HMk2.out.lt
          have hwB : w.heap.size ≤ Bs := by rw [HBsE.out]; exact HLd2.out.kp.size
          have hBlt : Bs < w4.heap.size := by rw [HSz.out]; omega
          have HGB := Lib.hid hgbs
          have HDs := Lib.hid hDs
          have HWB := Lib.hid hwB
          refine (wpIn_wide (n := 3)).1 ?_
          refine wpIn_rangeFunc_box rfl (by decide) (gf := 87) (lb := #[.pointer (some ⟨Bs + 1, 0, none⟩), .pointer (some ⟨Bs, 0, none⟩), .pointer (some ⟨Bs + 2, 0, none⟩)]) rfl trivial (enters_of Tryz.func87 (by kernel_rfl) rfl)
            (split_stops _ Bs 44 (bl va) ?hlen w4 HB0.out HB1.out HB2.out) hBlt (fun h k => h.tr k) ?hkb (Below.refl _ _) (fun _ => rfl)
            (fun pre W => LdS w g gb r W ∧ Marks w.heap.size Ds W ∧ Bs + 3 ≤ W.heap.size) (fun _ _ _ => False) ?own (fun _ _ _ _ _ hs _ _ => hs) ?set
            ⟨HLd4.out, HMk4.out, by rw [HSz.out]; exact Nat.le_refl _⟩
            (fun x => { tmps := #[.pointer (some ⟨g, 0, none⟩), .slice (some ⟨b, o, none⟩) n c, .pointer (some ⟨gb, 0, none⟩), undef, .bool cd, .int .i64 (szI sz), .int .i64 0, undef, .pointer (some ⟨g2, 0, none⟩), u9, u10, .string (strB x), .slice (some ⟨b, o, none⟩) n c, .int .i64 (n : Int), .int .i64 (i : Int), .bool true, .pointer (some ⟨b, o + i * 2, none⟩), .agg #[.string nm, .string va], .pointer (some ⟨g2, 0, none⟩), .string nm, .bool false, .bool false, u22, u23, u24, u25, u26, u27, u28, u29, u30, u31, u32, u33, u34, .bool false, .bool false, u37, u38, u39, u40, u41, u42, u43, u44, u45, u46, u47, u48, u49, u50, u51, u52, u53, u54, .bool true, .bool true, .pointer (some ⟨g2, 1, none⟩), .string va, .func (.func 87) #[] #[.pointer (some ⟨Bs + 1, 0, none⟩), .pointer (some ⟨Bs, 0, none⟩), .pointer (some ⟨Bs + 2, 0, none⟩)], .string (strB x), u61, u62, u63, u64, u65, u66, u67, u68, u69, u70, u71, u72, u73, u74, undef, undef, undef, undef, undef, undef, undef], defers := [] }) ?assign ?body ?done ?stop
          case hlen => rw [← bl_size]; exact Nat.le_trans (Nat.le_of_lt HVz.out) (by decide)
          case hkb =>
            intro W l o o' hl h hc hw k h1 h2
            exact World.putObj_heap_other (by rw [HSz.out] at hl; omega)
          case own =>
            rintro pre W W' row ⟨hI, hM, hsz⟩ hg hr
            have hnc : ∀ k, row = some k → ¬ ∃ c t z, W.heap[k]? = some (.cells c t z) := by
              rintro k rfl ⟨c, t, z, hc⟩
              obtain ⟨_, o, ho, hoc⟩ := hr k rfl
              rw [hc] at ho
              cases ho
              cases hoc
            refine ⟨hI.kept (Kept.of_grown hg) (fun e => ?_) (fun e => hnc _ e ⟨_, _, _, hI.box⟩) (fun k e => ?_), hM.kept (Kept.of_grown hg) (fun D hD e => ?_), Nat.le_trans hsz hg.size⟩
            · obtain ⟨cl, h⟩ := hI.rd
              exact hnc _ e ⟨_, _, _, h⟩
            · have h1 := (hr k e).1
              have h2 := HWB.out
              rw [HSz.out] at h1
              omega
            · have h1 := (hr D e).1
              have h2 := HDs.out D hD
              rw [HSz.out] at h1
              omega
          case set =>
            rintro pre W v ⟨hI, hM, hsz⟩
            refine ⟨hI.kept (Kept.set W Bs 0 v) (fun e => ?_) (Nat.ne_of_lt HGB.out) (fun k e => ?_), hM.kept (Kept.set W Bs 0 v) (fun D hD => Nat.ne_of_lt (HDs.out D hD)), Nat.le_trans hsz (Kept.set W Bs 0 v).size⟩
            · have h1 := HWB.out
              have h2 := HLt.out
              omega
            · rw [e]; exact HWB.out
          case assign =>
            intro l x W K hK
            gi_wp2
            exact hK
          case body =>
            rintro l pre x rest W hLp ⟨hI, hMkW, hszW⟩
            have HId0 := Lib.hid hI
            have HMk := Lib.hid hMkW
            have HSzW := Lib.hid hszW
            have HXl : Hid (x.length < 4294967281) := Lib.hid (Nat.lt_of_le_of_lt (cuts_mem 44 (bl va) x (by rw [hLp]; simp)) (by rw [← bl_size]; exact HVz.out))
            clear hI hMkW hLp hgbs hDs hwB hBlt hszW
            refine wpIn_block ?_
            dsimp only
            have hd : Below W.heap.size W W.drew := below_drewN (Below.refl W.heap.size W) 1
            have HD := Lib.hid hd
            have HId := Lib.hid (HId0.out.below hd)
            clear hd
            obtain ⟨cl, hcl⟩ := HId.out.rd
            cases cl with
            | true =>
              refine Mx.regionZIn [] (fun w' => w'.cell? ⟨gb, 0, none⟩ = some (.pointer (some ⟨g, 0, none⟩)) ∧ w'.cell? ⟨g, 8, none⟩ = some (.bool true)) (by kernel_rfl) (by kernel_rfl) ⟨HId.out.box.cell 0 rfl, hcl.at 8 rfl⟩ ?_
              obtain ⟨Wd, hWd⟩ : ∃ Wd, Wd = W.drew := ⟨_, rfl⟩
              rw [← hWd] at HD HId hcl ⊢
              clear hWd
              refine Mx.cell ⟨gb, 0, none⟩ (.pointer (some ⟨g, 0, none⟩)) (by kernel_rfl) (by kernel_rfl) (by kernel_rfl) Tryz.isAgg50 (fun w' h => h.1) ?_
              go_big_quiet_want; go_big_quiet_op; go_big_quiet_on; refine Mx.done ?_
              refine Mx.cell ⟨gb, 0, none⟩ (.pointer (some ⟨g, 0, none⟩)) (by kernel_rfl) (by kernel_rfl) (by kernel_rfl) Tryz.isAgg50 (fun w' h => h.1) ?_
              go_big_quiet_want; go_big_quiet_op; go_big_quiet_on; refine Mx.done ?_
              refine Mx.quietly rfl ?_; go_big_quiet_want; go_big_quiet_op; go_big_quiet_on; refine Mx.done ?_
              refine Mx.quietly rfl ?_; go_big_quiet_want; go_big_quiet_op; go_big_quiet_on; refine Mx.done ?_
              refine Mx.cell ⟨g, 8, none⟩ (.bool true) (by kernel_rfl) (by kernel_rfl) (by kernel_rfl) Tryz.isAgg4 (fun w' h => h.2) ?_
              go_big_quiet_want; go_big_quiet_op; go_big_quiet_on; refine Mx.done ?_
              repeat ((first | (refine Mx.skips (by kernel_rfl) ?_; go_big_quiet_skip) | (refine Mx.quietly rfl ?_; go_big_quiet_want; go_big_quiet_op; go_big_quiet_on)); refine Mx.done ?_)
              have c8 := hcl.at 8 rfl
              have f8 := hcl.free 8
              have HCl := Lib.hid hcl
              clear hcl
              refine Mx.atLast (by kernel_rfl) (by kernel_rfl) ?_
              go_wp2_with fail
              refine ⟨KeepsFrom.trans (kf_below HD.out) (keepsF (Kept.set Wd g 8 _) (fun k hk => by rw [hk]; obtain ⟨cl, h⟩ := HId.out.rd; exact ⟨_, _, _, h⟩)), KpS.tr (kps_below HD.out HSzW.out) (fun k h1 h2 => (Kept.set Wd g 8 _).block k (Nat.lt_of_lt_of_le h2 (Nat.le_trans HSzW.out HD.out.size)) (fun e => by have := HWB.out; have := HLt.out; omega)), HId.out.set _, (HMk.out.below HD.out).kept (Kept.set Wd g 8 _) (fun D hD e => ?_), ?_⟩
              · have := (HMk.out.2 D hD).1
                have := HLt.out
                omega
              · have h1 := HD.out.size
                have h2 := HSzW.out
                have h3 := (Kept.set Wd g 8 (.bool true)).size
                simp only [World.setCell, Array.size_modify]
                omega
            | false =>
              refine Mx.regionZIn [] (fun w' => w'.cell? ⟨gb, 0, none⟩ = some (.pointer (some ⟨g, 0, none⟩)) ∧ w'.cell? ⟨g, 8, none⟩ = some (.bool false)) (by kernel_rfl) (by kernel_rfl) ⟨HId.out.box.cell 0 rfl, hcl.at 8 rfl⟩ ?_
              obtain ⟨Wd, hWd⟩ : ∃ Wd, Wd = W.drew := ⟨_, rfl⟩
              rw [← hWd] at HD HId hcl ⊢
              clear hWd
              refine Mx.cell ⟨gb, 0, none⟩ (.pointer (some ⟨g, 0, none⟩)) (by kernel_rfl) (by kernel_rfl) (by kernel_rfl) Tryz.isAgg50 (fun w' h => h.1) ?_
              go_big_quiet_want; go_big_quiet_op; go_big_quiet_on; refine Mx.done ?_
              refine Mx.cell ⟨gb, 0, none⟩ (.pointer (some ⟨g, 0, none⟩)) (by kernel_rfl) (by kernel_rfl) (by kernel_rfl) Tryz.isAgg50 (fun w' h => h.1) ?_
              go_big_quiet_want; go_big_quiet_op; go_big_quiet_on; refine Mx.done ?_
              refine Mx.quietly rfl ?_; go_big_quiet_want; go_big_quiet_op; go_big_quiet_on; refine Mx.done ?_
              refine Mx.quietly rfl ?_; go_big_quiet_want; go_big_quiet_op; go_big_quiet_on; refine Mx.done ?_
              refine Mx.cell ⟨g, 8, none⟩ (.bool false) (by kernel_rfl) (by kernel_rfl) (by kernel_rfl) Tryz.isAgg4 (fun w' h => h.2) ?_
              go_big_quiet_want; go_big_quiet_op; go_big_quiet_on; refine Mx.done ?_
              repeat ((first | (refine Mx.skips (by kernel_rfl) ?_; go_big_quiet_skip) | (refine Mx.quietly rfl ?_; go_big_quiet_want; go_big_quiet_op; go_big_quiet_on)); refine Mx.done ?_)
              refine Mx.loudly (by kernel_rfl) (by kernel_rfl) ?_
              have hTr := strim_any Wd (strB x) (by rw [strB_size]; exact Nat.le_trans (Nat.le_of_lt HXl.out) (by decide))
              rw [show bl (strB x) = x from strB_toList x] at hTr
              have HTr := Lib.hid hTr
              have HCl := Lib.hid hcl
              clear hTr hcl
              go_wp2_with fail
              refine HTr.out.mono ?_
              rintro e w5 ⟨rfl, hb5⟩
              have HI5 := Lib.hid (HId.out.below hb5)
              have HB5 : Hid (Below W.heap.size W w5) := Lib.hid (HD.out.trans (hb5.mono HD.out.size))
              have HB5d := Lib.hid hb5
              clear hb5
              go_wp2_with fail
              refine ⟨⟨HI5.out.box.cell 0 rfl, ?_⟩, ?_⟩
              · exact (Has.kept (X := none') HCl.out (Kept.of_below HB5d.out) (fun h => h)).cell 8 rfl
              repeat ((first | (refine Mx.skips (by kernel_rfl) ?_; go_big_quiet_skip) | (refine Mx.quietly rfl ?_; go_big_quiet_want; go_big_quiet_op; go_big_quiet_on)); refine Mx.done ?_)
              refine Mx.loudly (by kernel_rfl) (by kernel_rfl) ?_
              have hSm := hsmall_any w5 (strB (trimL x)) (by rw [strB_size]; exact Nat.le_trans (trim_len x) (Nat.le_trans (Nat.le_of_lt HXl.out) (by decide)))
              rw [show bl (strB (trimL x)) = trimL x from strB_toList _] at hSm
              have HSm5 := Lib.hid hSm
              clear hSm
              go_wp2_with fail
              refine HSm5.out.mono ?_
              rintro e w6 ⟨rfl, hb6⟩
              have HI6 := Lib.hid (HI5.out.below hb6)
              have HB6 : Hid (Below W.heap.size W w6) := Lib.hid (HB5.out.trans (hb6.mono HB5.out.size))
              have HB6d : Hid (Below Wd.heap.size Wd w6) := Lib.hid (HB5d.out.trans (hb6.mono HB5d.out.size))
              clear hb6
              have HC6 : Hid (Rd w6 g { r with cl := false }) := Lib.hid (HCl.out.below HB6d.out)
              go_wp2_with fail
              refine ⟨⟨HI6.out.box.cell 0 rfl, HC6.out.at 8 rfl⟩, ?_⟩
              have c8 := HC6.out.at 8 rfl
              have f8 := HC6.out.free 8
              repeat ((first | (refine Mx.skips (by kernel_rfl) ?_; go_big_quiet_skip) | (refine Mx.quietly rfl ?_; go_big_quiet_want; go_big_quiet_op; go_big_quiet_on)); refine Mx.done ?_)
              refine Mx.atLast (by kernel_rfl) (by kernel_rfl) ?_
              go_wp2_with fail
              refine ⟨KeepsFrom.trans (kf_below HB6.out) (keepsF (Kept.set w6 g 8 _) (fun k hk => by rw [hk]; obtain ⟨cl, h⟩ := HI6.out.rd; exact ⟨_, _, _, h⟩)), KpS.tr (kps_below HB6.out HSzW.out) (fun k h1 h2 => (Kept.set w6 g 8 _).block k (Nat.lt_of_lt_of_le h2 (Nat.le_trans HSzW.out HB6.out.size)) (fun e => by have := HWB.out; have := HLt.out; omega)), HI6.out.set _, (HMk.out.below HB6.out).kept (Kept.set w6 g 8 _) (fun D hD e => ?_), ?_⟩
              · have := (HMk.out.2 D hD).1
                have := HLt.out
                omega
              · have h1 := HB6.out.size
                have h2 := HSzW.out
                have h3 := (Kept.set w6 g 8 (.bool true)).size
                simp only [World.setCell, Array.size_modify]
                omega
          case done =>
            rintro D W hD ⟨hI, hM, hszW⟩ hK
            have HMkD : Hid (Marks w.heap.size (D :: Ds) W) := Lib.hid ⟨List.nodup_cons.2 ⟨fun h => by have := hDs D h; rw [HSz.out] at hD; omega, hM.1⟩, fun E hE => by
              rcases List.mem_cons.1 hE with rfl | hE
              · exact ⟨by rw [HSz.out] at hD; omega, hK⟩
              · exact hM.2 E hE⟩
            have HLdD := Lib.hid hI
            clear hI hM hszW hK hD hgbs hDs hwB hBlt
            go_wp2_with fail
            exact ⟨⟨i + 1, cd, sz, D :: Ds, _, _, _, _, _, _, _, _, _, _, _, _, _, _, _, _, _, _, _, _, _, _, _, _, _, _, _, _, _, _, _, _, _, _, _, _, _, _, _, _, _, _, _, _, _, _, _, _, _, _, _, _, _, _, _, _, _, _, _, _, _, _, _, _, HI.out, HFn, HLdD.out, HMkD.out, rfl⟩, nbj3 HI.out⟩
          case stop =>
            rintro D c pre x rest W _ _ h _
            exact h.elim
        · obtain ⟨e5, e6⟩ : (nm.toList == [99, 111, 110, 110, 101, 99, 116, 105, 111, 110]) = false ∧ (nm.toList = [99, 111, 110, 110, 101, 99, 116, 105, 111, 110]) = False := eqF2 hcn
          clear hcn
          go_wp2_with fail
          exact ⟨⟨i + 1, cd, sz, Ds, _, _, _, _, _, _, _, _, _, _, _, _, _, _, _, _, _, _, _, _, _, _, _, _, _, _, _, _, _, _, _, _, _, _, _, _, _, _, _, _, _, _, _, _, _, _, _, _, _, _, _, _, _, _, _, _, _, _, _, _, _, _, _, _, HI.out, HFn, HLd2.out, HMk2.out, rfl⟩, nbj3 HI.out⟩
  · have z1 := frj2 hin
    have HFe : Hid (F = if cd = true ∧ sz.isSome = true then .bad 202 else .ok (cd, sz)) := Lib.hid (by rw [HFi.out, List.drop_eq_nil_of_le (by rw [HL.out]; omega), frameH])
    clear hi hin HFi
    cases hcd : cd with
    | false =>
      have HFk : Hid (F = .ok (false, sz)) := Lib.hid (by rw [HFe.out, hcd]; simp)
      clear hcd HFe
      go_wp2
      exact leave_marks (B := w.heap.size) (fun W => FrmR w g r F (.returned (.tuple #[.bool false, .int .i64 (szI sz), .int .i64 0])) W) (fun W D o hs _ hB => hs.mark hB HLt.out) (fun W hs => ⟨_, results_tmp3 rfl _ _ _, hs⟩) Ds _ HMr.out (frmR_ok HLr.out HFk.out)
    | true =>
      cases hsz : sz with
      | none =>
        have HFk : Hid (F = .ok (true, none)) := Lib.hid (by rw [HFe.out, hcd, hsz]; simp)
        have s1 := szI_lt
        clear hcd hsz HFe
        go_wp2
        exact leave_marks (B := w.heap.size) (fun W => FrmR w g r F (.returned (.tuple #[.bool true, .int .i64 (szI none), .int .i64 0])) W) (fun W D o hs _ hB => hs.mark hB HLt.out) (fun W hs => ⟨_, results_tmp3 rfl _ _ _, hs⟩) Ds _ HMr.out (frmR_ok HLr.out HFk.out)
      | some m0 =>
        have HFb2 : Hid (F = .bad 202) := Lib.hid (by rw [HFe.out, hcd, hsz]; simp)
        have s1 := szI_ge m0
        clear hcd hsz HFe
        go_wp2
        exact leave_marks (B := w.heap.size) (fun W => FrmR w g r F (.returned (.tuple #[.bool false, .int .i64 0, .int .i64 202])) W) (fun W D o hs _ hB => hs.mark hB HLt.out) (fun W hs => ⟨_, results_tmp3 rfl _ _ _, hs⟩) Ds _ HMr.out (frmR_bad HLr.out HFb2.out)
end Go.Proofs.YtfffefhchjnfjaaGreatDoor

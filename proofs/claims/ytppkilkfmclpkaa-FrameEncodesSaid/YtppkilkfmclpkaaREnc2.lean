/- The document's Encode = encF. No condition but the sizes. -/
import Derived.Test.YtppkilkfmclpkaaREnc
import Derived.Test.YtppkilkfmclpkaaFrEnc2
namespace Go.Proofs.Ytppkilkfmclpkaa
open Go.RowKit

/-- the letters -/
def ltrE : List UInt8 := [105, 97, 110, 99, 100, 107, 116, 112, 101, 115]
/-- an item's bytes -/
def rlB (ch : Nat) (f : Fm) : List UInt8 :=
  if ch = 105 then vl f.id.toNat
  else if ch = 97 then (if f.kind ≠ 8 ∨ 0 < f.at_ then vl f.at_.toNat else [])
  else if ch = 110 then vl f.n.toNat
  else if ch = 99 then vl f.code.toNat
  else if ch = 100 then vl f.data.length ++ f.data
  else if ch = 107 then [UInt8.ofNat f.cid.length] ++ f.cid
  else if ch = 115 then ackB f
  else if ch = 101 then nB [f.e0, f.e1, f.e2]
  else f.data
/-- what an item's letter asks of a right frame -/
structure OkL (ch : UInt8) (f : Fm) : Prop where
  i : ch = 105 → numB f.id = true
  a : ch = 97 → numB f.at_ = true
  n : ch = 110 → numB f.n = true
  c : ch = 99 → numB f.code = true
  k : ch = 107 → f.cid.length ≤ 20
  s : ch = 115 → rspV f.spans = true ∧ numB f.delay = true
  e : ch = 101 → numB f.e0 = true ∧ numB f.e1 = true ∧ numB f.e2 = true
  l : ch ∈ ltrE
  d : f.data.length ≤ 16384
def kdE (f : Fm) : Int := if f.kind = 8 then strK f.at_ f.fin else f.kind
theorem kno_enc {k : Int} (h : knoF k = true) (h0 : k ≠ 0) : k = 1 ∨ k = 2 ∨ k = 3 ∨ k = 4 ∨ k = 5 ∨ k = 6 ∨ k = 7 ∨ k = 8 ∨ k = 16 ∨ k = 17 ∨ k = 18 ∨ k = 19 ∨ k = 20 ∨ k = 21 ∨ k = 22 ∨ k = 23 ∨ k = 24 ∨ k = 25 ∨ k = 26 ∨ k = 27 ∨ k = 28 ∨ k = 29 ∨ k = 30 := by
  unfold knoF at h
  simp only [Bool.or_eq_true, Bool.and_eq_true, decide_eq_true_eq] at h
  omega
theorem litm {c : Prop} [Decidable c] {x y : List UInt8 × Bool} (h1 : x.1.length ≤ 4) (h2 : y.1.length ≤ 4) : (if c then x else y).1.length ≤ 4 := by
  by_cases h : c
  · rw [if_pos h]; exact h1
  · rw [if_neg h]; exact h2
theorem itm_len (k : Int) : (itm k).1.length ≤ 4 := by
  unfold itm
  repeat (refine litm (by decide) ?_)
  exact by decide
/-- a right frame's items are right -/
theorem okl_all {f : Fm} (hc : chkF f = 0) (h0 : f.kind ≠ 0) : (itm f.kind).2 = true ∧ ∀ ch ∈ (itm f.kind).1, OkL ch f := by
  obtain ⟨hk, hd, hr⟩ := chk0 hc
  have hk' := kno_enc hk h0
  clear hc hk h0
  obtain ⟨k, i, at_, n, c, fi, dt, ci, sp, dl, e0, e1, e2⟩ := f
  simp only at hk' hd
  have n60 : (decide (0 ≤ n) && decide (n ≤ 1152921504606846976)) = true → numB n = true := fun h => by
    simp only [Bool.and_eq_true, decide_eq_true_eq] at h
    exact numB_of (by omega)
  have none : ∀ {P : UInt8 → Prop}, ∀ ch ∈ ([] : List UInt8), P ch := fun ch h => by cases h
  have one : ∀ {P : UInt8 → Prop} {x : UInt8}, P x → ∀ ch ∈ [x], P ch := fun {P x} hx ch h => by rw [List.mem_singleton.1 h]; exact hx
  have cons : ∀ {P : UInt8 → Prop} {x : UInt8} {r : List UInt8}, P x → (∀ ch ∈ r, P ch) → ∀ ch ∈ x :: r, P ch := fun {P x r} hx hr ch h => by
    rcases List.mem_cons.1 h with h | h
    · rw [h]; exact hx
    · exact hr ch h
  have li : numB i = true → OkL 105 ⟨k, i, at_, n, c, fi, dt, ci, sp, dl, e0, e1, e2⟩ := fun h => ⟨fun _ => h, fun h => absurd h (by decide), fun h => absurd h (by decide), fun h => absurd h (by decide), fun h => absurd h (by decide), fun h => absurd h (by decide), fun h => absurd h (by decide), by decide, hd⟩
  have la : numB at_ = true → OkL 97 ⟨k, i, at_, n, c, fi, dt, ci, sp, dl, e0, e1, e2⟩ := fun h => ⟨fun h => absurd h (by decide), fun _ => h, fun h => absurd h (by decide), fun h => absurd h (by decide), fun h => absurd h (by decide), fun h => absurd h (by decide), fun h => absurd h (by decide), by decide, hd⟩
  have ln : numB n = true → OkL 110 ⟨k, i, at_, n, c, fi, dt, ci, sp, dl, e0, e1, e2⟩ := fun h => ⟨fun h => absurd h (by decide), fun h => absurd h (by decide), fun _ => h, fun h => absurd h (by decide), fun h => absurd h (by decide), fun h => absurd h (by decide), fun h => absurd h (by decide), by decide, hd⟩
  have lc : numB c = true → OkL 99 ⟨k, i, at_, n, c, fi, dt, ci, sp, dl, e0, e1, e2⟩ := fun h => ⟨fun h => absurd h (by decide), fun h => absurd h (by decide), fun h => absurd h (by decide), fun _ => h, fun h => absurd h (by decide), fun h => absurd h (by decide), fun h => absurd h (by decide), by decide, hd⟩
  have lk : ci.length ≤ 20 → OkL 107 ⟨k, i, at_, n, c, fi, dt, ci, sp, dl, e0, e1, e2⟩ := fun h => ⟨fun h => absurd h (by decide), fun h => absurd h (by decide), fun h => absurd h (by decide), fun h => absurd h (by decide), fun _ => h, fun h => absurd h (by decide), fun h => absurd h (by decide), by decide, hd⟩
  have ls : rspV sp = true ∧ numB dl = true → OkL 115 ⟨k, i, at_, n, c, fi, dt, ci, sp, dl, e0, e1, e2⟩ := fun h => ⟨fun h => absurd h (by decide), fun h => absurd h (by decide), fun h => absurd h (by decide), fun h => absurd h (by decide), fun h => absurd h (by decide), fun _ => h, fun h => absurd h (by decide), by decide, hd⟩
  have le : numB e0 = true ∧ numB e1 = true ∧ numB e2 = true → OkL 101 ⟨k, i, at_, n, c, fi, dt, ci, sp, dl, e0, e1, e2⟩ := fun h => ⟨fun h => absurd h (by decide), fun h => absurd h (by decide), fun h => absurd h (by decide), fun h => absurd h (by decide), fun h => absurd h (by decide), fun h => absurd h (by decide), fun _ => h, by decide, hd⟩
  have ld : ∀ x : UInt8, x = 100 ∨ x = 116 ∨ x = 112 → OkL x ⟨k, i, at_, n, c, fi, dt, ci, sp, dl, e0, e1, e2⟩ := fun x h => by
    rcases h with rfl | rfl | rfl <;> exact ⟨fun h => absurd h (by decide), fun h => absurd h (by decide), fun h => absurd h (by decide), fun h => absurd h (by decide), fun h => absurd h (by decide), fun h => absurd h (by decide), fun h => absurd h (by decide), by decide, hd⟩
  have a1 : ∀ {x : Int}, [x].all numB = true → numB x = true := fun {x} h => by simpa using h
  have a2 : ∀ {x y : Int}, [x, y].all numB = true → numB x = true ∧ numB y = true := fun {x y} h => by simpa using h
  have a3 : ∀ {x y z : Int}, [x, y, z].all numB = true → numB x = true ∧ numB y = true ∧ numB z = true := fun {x y z} h => by simpa using h
  rcases hk' with rfl | rfl | rfl | rfl | rfl | rfl | rfl | rfl | rfl | rfl | rfl | rfl | rfl | rfl | rfl | rfl | rfl | rfl | rfl | rfl | rfl | rfl | rfl
  · exact ⟨rfl, none⟩
  · have hr : (rspV sp && numB dl) = true := hr
    rw [Bool.and_eq_true] at hr
    exact ⟨rfl, one (ls hr)⟩
  · have hr : (rspV sp && (numB dl && [e0, e1, e2].all numB)) = true := hr
    rw [Bool.and_eq_true, Bool.and_eq_true] at hr
    exact ⟨rfl, cons (ls ⟨hr.1, hr.2.1⟩) (one (le (a3 hr.2.2)))⟩
  · have hr := a3 (show [i, c, n].all numB = true from hr)
    exact ⟨rfl, cons (li hr.1) (cons (lc hr.2.1) (one (ln hr.2.2)))⟩
  · have hr := a2 (show [i, c].all numB = true from hr)
    exact ⟨rfl, cons (li hr.1) (one (lc hr.2))⟩
  · have hr : (numB at_ && decide (at_ ≤ 4611686018427387903 - (dt.length : Int))) = true := hr
    rw [Bool.and_eq_true] at hr
    exact ⟨rfl, cons (la hr.1) (one (ld 100 (.inl rfl)))⟩
  · exact ⟨rfl, one (ld 100 (.inl rfl))⟩
  · have hr : ([i, at_].all numB && decide (at_ ≤ 4611686018427387903 - (dt.length : Int))) = true := hr
    rw [Bool.and_eq_true] at hr
    have h2 := a2 hr.1
    exact ⟨rfl, cons (li h2.1) (cons (la h2.2) (one (ld 100 (.inl rfl))))⟩
  · exact ⟨rfl, one (ln (a1 hr))⟩
  · have hr := a2 (show [i, n].all numB = true from hr)
    exact ⟨rfl, cons (li hr.1) (one (ln hr.2))⟩
  · exact ⟨rfl, one (ln (n60 hr))⟩
  · exact ⟨rfl, one (ln (n60 hr))⟩
  · exact ⟨rfl, one (ln (a1 hr))⟩
  · have hr := a2 (show [i, n].all numB = true from hr)
    exact ⟨rfl, cons (li hr.1) (one (ln hr.2))⟩
  · exact ⟨rfl, one (ln (n60 hr))⟩
  · exact ⟨rfl, one (ln (n60 hr))⟩
  · have hr : ([n, at_].all numB && (decide (at_ ≤ n) && (decide (1 ≤ ci.length) && (decide (ci.length ≤ 20) && decide (dt.length = 16))))) = true := hr
    simp only [Bool.and_eq_true, decide_eq_true_eq] at hr
    have h2 := a2 hr.1
    exact ⟨rfl, cons (ln h2.1) (cons (la h2.2) (cons (lk hr.2.2.2.1) (one (ld 116 (.inr (.inl rfl))))))⟩
  · exact ⟨rfl, one (ln (a1 hr))⟩
  · exact ⟨rfl, one (ld 112 (.inr (.inr rfl)))⟩
  · exact ⟨rfl, one (ld 112 (.inr (.inr rfl)))⟩
  · have hr := a2 (show [c, n].all numB = true from hr)
    exact ⟨rfl, cons (lc hr.1) (cons (ln hr.2) (one (ld 100 (.inl rfl))))⟩
  · exact ⟨rfl, cons (lc (a1 hr)) (one (ld 100 (.inl rfl)))⟩
  · exact ⟨rfl, none⟩
/-- a right frame's bytes, item by item -/
theorem enc_items {f : Fm} (hc : chkF f = 0) (h0 : f.kind ≠ 0) : encB f = vl (kdE f).toNat ++ (itm f.kind).1.flatMap (fun ch => rlB ch.toNat f) := by
  obtain ⟨hk, _, _⟩ := chk0 hc
  have hk' := kno_enc hk h0
  clear hc hk h0
  obtain ⟨k, i, at_, n, c, fi, dt, ci, sp, dl, e0, e1, e2⟩ := f
  simp only at hk'
  have nc := nB_cons'
  rcases hk' with rfl | rfl | rfl | rfl | rfl | rfl | rfl | rfl | rfl | rfl | rfl | rfl | rfl | rfl | rfl | rfl | rfl | rfl | rfl | rfl | rfl | rfl | rfl
  all_goals simp only [encB, stmB, itmB, txtB, kdE, itm, rlB, nB_cons', nB_nil']
  all_goals (try simp)
  all_goals (try (by_cases h : 0 < at_ <;> simp [h, nB_cons', nB_nil']))
theorem rlB_len {ch : UInt8} {f : Fm} (h : OkL ch f) : (rlB ch.toNat f).length ≤ 17000 := by
  have hv : ∀ n : Nat, (vl n).length ≤ 8 := fun n => by rw [vl_length]; exact (szN_pos n).2
  have hd := h.d
  have hl := h.l
  simp only [ltrE, List.mem_cons, List.not_mem_nil, or_false] at hl
  rcases hl with rfl | rfl | rfl | rfl | rfl | rfl | rfl | rfl | rfl | rfl
  · exact Nat.le_trans (hv _) (by decide)
  · show (if f.kind ≠ 8 ∨ 0 < f.at_ then vl f.at_.toNat else []).length ≤ _
    split
    · exact Nat.le_trans (hv _) (by decide)
    · exact Nat.zero_le _
  · exact Nat.le_trans (hv _) (by decide)
  · exact Nat.le_trans (hv _) (by decide)
  · show (vl f.data.length ++ f.data).length ≤ _
    have := hv f.data.length
    rw [List.length_append]; omega
  · show ([UInt8.ofNat f.cid.length] ++ f.cid).length ≤ _
    have := h.k rfl
    simp only [List.length_append, List.length_cons, List.length_nil]; omega
  · show f.data.length ≤ _; omega
  · show f.data.length ≤ _; omega
  · show (nB [f.e0, f.e1, f.e2]).length ≤ _
    have := nB_len [f.e0, f.e1, f.e2]
    simp only [List.length_cons, List.length_nil] at this
    omega
  · show (ackB f).length ≤ _
    have hs := (h.s rfl).1
    unfold rspV at hs
    simp only [Bool.and_eq_true, decide_eq_true_eq] at hs
    have := ackB_len f hs.2.2
    omega
theorem flat_len {f : Fm} {its : List UInt8} (h : ∀ ch ∈ its, OkL ch f) : ∀ i, i ≤ its.length → ((its.take i).flatMap (fun ch => rlB ch.toNat f)).length ≤ i * 17000
  | 0, _ => by simp
  | i + 1, hi => by
    rw [List.take_succ_eq_append_getElem (by omega), List.flatMap_append, List.length_append]
    have h1 := flat_len h i (by omega)
    have h2 := rlB_len (h its[i] (List.getElem_mem _))
    simp only [List.flatMap_cons, List.flatMap_nil, List.append_nil]
    omega
/-- what holds at the loop's head -/
def LRel (w : World) (xb : Nat) (f : Fm) (fa : FA) (its : List UInt8) (b0 : List UInt8) (bv_ v : Value) (wr : World) : Prop :=
  ∃ (i : Nat) (ba : Option Addr) (bc : Nat) (b : List UInt8), v = .int .i64 (i : Int) ∧ bv_ = .slice ba b.length bc ∧ i ≤ its.length ∧ b = b0 ++ (its.take i).flatMap (fun ch => rlB ch.toNat f) ∧ OE w wr xb f fa b ba bc
theorem LRel.step {w v : World} {xb : Nat} {f : Fm} {fa : FA} {its b0 b p : List UInt8} {i n : Nat} {ba : Option Addr} {bc : Nat} (hi : i < its.length) (hb : b = b0 ++ (its.take i).flatMap (fun ch => rlB ch.toNat f)) (hp : rlB its[i].toNat f = p) (hO : OE w v xb f fa (b ++ p) ba bc) (hn : n = (b ++ p).length) :
    LRel w xb f fa its b0 (.slice ba n bc) (.int .i64 ((i : Int) + 1)) v := by
  refine ⟨i + 1, ba, bc, b ++ p, by push_cast; rfl, by rw [hn], hi, ?_, hO⟩
  rw [List.take_succ_eq_append_getElem hi, List.flatMap_append, hb, ← hp]
  simp
theorem one_byte {w : World} {n : Nat} (h : n ≤ 20) : Sl (w.alloc (.cells #[.int .u8 (n : Int)] 5)) (some ⟨w.heap.size, 0, none⟩) 1 1 (bv [UInt8.ofNat n]) := by
  refine ⟨rfl, Nat.le_refl _, by decide, by simp, fun _ => ⟨_, 0, rfl, fun i hi => ?_⟩⟩
  obtain rfl : i = 0 := by omega
  have e : (UInt8.ofNat n).toNat = n := by rw [UInt8.toNat_ofNat']; omega
  simp [bv, e]
theorem ren1 {b n i : Nat} (h : b ≤ 8 + i * 17000) (hi : i ≤ 4) (hn : n ≤ 100000) : b + n ≤ 1000000 := by omega
theorem ren2 {k : Int} (h : knoF k = true) : 0 ≤ k ∧ k ≤ 30 := by
  unfold knoF at h
  simp only [Bool.or_eq_true, Bool.and_eq_true, decide_eq_true_eq] at h
  omega
theorem ren3 {i n : Nat} (h : i < n) (hn : n ≤ 8) : (i : Int) < (n : Int) ∧ IntKind.i64.wrap ((i : Int) + 1) = (i : Int) + 1 ∧ RowKit.wrap64 ((i : Int) + 1) = (i : Int) + 1 := by
  rw [IntKind.wrap_i64]; unfold RowKit.wrap64; omega
theorem ren4 {i n : Nat} (h : i < n) : n - (intOf (Value.int .i64 ((i : Int) + 1))).toNat < n - (intOf (Value.int .i64 (i : Int))).toNat := by simp only [intOf]; omega
theorem ren5 {b n i : Nat} {m : Nat} (h : b ≤ 8 + i * 17000) (hi : i ≤ 4) (hn : n ≤ 100000) (hm : m ≤ 100000) : b + n + m ≤ 1000000 := by omega
theorem ren6 {x : Int} {n : Nat} (_ : x = (n : Int)) (hn : n ≤ 16384) : n ≤ 140737488355328 ∧ n ≤ maxLen := by unfold maxLen; omega
theorem cw20 {n : Nat} (h : n ≤ 20) : IntKind.u8.wrap (n : Int) = (n : Int) := by show (n : Int) % 256 = n; omega
theorem kdE_num {f : Fm} (h : knoF f.kind = true) : 0 ≤ kdE f ∧ kdE f ≤ 4611686018427387903 := by
  unfold kdE strK
  have := ren2 h
  (repeat' split) <;> omega
theorem onE {x : Int} (h : ¬ x = 0) : (x == 0) = false := by simpa using h
theorem onE8 {x : Int} (h : ¬ x = 8) : (x == 8) = false := by simpa using h
theorem chk_padE {f : Fm} (h : chkF f = 0) (hk : f.kind = 0) : 1 ≤ f.n ∧ f.n ≤ 16384 := by
  obtain ⟨_, _, hr⟩ := chk0 h
  unfold rightV at hr
  rw [if_pos hk] at hr
  simpa using hr
theorem ritm {i : Nat} (h : i ≤ 3) (h2 : ¬ i = 3) : i = 0 ∨ i = 1 ∨ i = 2 := by omega
theorem mk_len (f : Fm) (j : Nat) : (nB ([f.e0, f.e1, f.e2].take j)).length ≤ 24 := by
  have h1 := nB_len ([f.e0, f.e1, f.e2].take j)
  have h2 : ([f.e0, f.e1, f.e2].take j).length ≤ 3 := by rw [List.length_take]; exact Nat.min_le_right _ _
  omega
theorem ren7 {b n i : Nat} (h : b ≤ 8 + i * 17000 + 24) (hi : i ≤ 4) (hn : n ≤ 8) : b + n ≤ 1000000 := by omega
set_option maxRecDepth 100000 in
set_option maxHeartbeats 4000000 in
theorem renc_any (w : World) {f : Fm} {fa : FA} (h : FIn w f fa) : Calls Try.prog 13 #[.agg (fcells f fa).toArray] w (RetBE w.heap.size w (encF f)) := by
  obtain ⟨w1, hw1⟩ : ∃ w1, w1 = w.alloc (.cells #[.int .i64 f.kind, .int .i64 f.id, .int .i64 f.at_, .int .i64 f.n, .int .i64 f.code, .bool f.fin, .slice fa.da f.data.length fa.dc, .slice fa.ca f.cid.length fa.cc, .slice fa.sa f.spans.length fa.sc, .int .i64 f.delay, .int .i64 f.e0, .int .i64 f.e1, .int .i64 f.e2] 34) := ⟨_, rfl⟩
  have hal : Below w.heap.size w w1 := by rw [hw1]; exact alB w _
  obtain ⟨xb, hxb⟩ : ∃ xb, xb = w.heap.size := ⟨_, rfl⟩
  have HX1 := Lib.hid (show Has w1 xb 34 (fcells f fa) by rw [hw1, hxb]; exact Has.new _ _ _)
  have HB1 := Lib.hid hal
  have HF := Lib.hid h
  have HC := Lib.hid (rchk_any w1 (h.below hal))
  obtain ⟨R, hR⟩ : ∃ R, R = encF f := ⟨_, rfl⟩
  rw [← hR]
  have HR := Lib.hid hR
  obtain ⟨ck, hck⟩ : ∃ ck, ck = chkF f := ⟨_, rfl⟩
  rw [← hck] at HC
  have HCk := Lib.hid hck
  clear h hal hR hck
  show Calls Try.prog 13 #[.agg #[.int .i64 f.kind, .int .i64 f.id, .int .i64 f.at_, .int .i64 f.n, .int .i64 f.code, .bool f.fin, .slice fa.da f.data.length fa.dc, .slice fa.ca f.cid.length fa.cc, .slice fa.sa f.spans.length fa.sc, .int .i64 f.delay, .int .i64 f.e0, .int .i64 f.e1, .int .i64 f.e2]] w _
  go_enter Try.func13, Try.ntmps13
  go_upto_region 1 with fail
  rw [← hw1, ← hxb]
  clear hw1 hxb
  have g0 := HX1.out.cell 0 rfl
  have g1 := HX1.out.cell 1 rfl
  have g2 := HX1.out.cell 2 rfl
  have g3 := HX1.out.cell 3 rfl
  have g4 := HX1.out.cell 4 rfl
  have g5 := HX1.out.cell 5 rfl
  have g6 := HX1.out.cell 6 rfl
  have g7 := HX1.out.cell 7 rfl
  have g8 := HX1.out.cell 8 rfl
  have g9 := HX1.out.cell 9 rfl
  have g10 := HX1.out.cell 10 rfl
  have g11 := HX1.out.cell 11 rfl
  have g12 := HX1.out.cell 12 rfl
  go_wp2_with fail
  refine HC.out.mono ?_
  rintro e w2 ⟨rfl, hb2⟩
  have HX2 := Lib.hid (HX1.out.kept (X := none') (Kept.of_below hb2) (fun h => h))
  have HB2 := Lib.hid (HB1.out.trans (hb2.mono HB1.out.size))
  clear hb2 g0 g1 g2 g3 g4 g5 g6 g7 g8 g9 g10 g11 g12
  by_cases hc0 : ¬ ck = 0
  · have y1 := onE hc0
    have HE : Hid (R = ([], ck)) := Lib.hid (by rw [HR.out]; unfold encF; rw [if_neg (fun h => hc0 (HCk.out.trans h)), ← HCk.out])
    clear hc0
    go_wp2
    go_ret2
    rw [HE.out]
    exact ⟨none, 0, rfl, World.ownsRow_nil _ _ _ _, HB2.out⟩
  have hc1 : ck = 0 := Decidable.not_not.1 hc0
  subst hc1
  have HC0 : Hid (chkF f = 0) := Lib.hid HCk.out.symm
  have HE : Hid (R = (encB f, 0)) := Lib.hid (by rw [HR.out]; unfold encF; rw [if_pos HC0.out])
  clear hc0
  have g0 := HX2.out.cell 0 rfl
  by_cases hk0 : f.kind = 0
  · have y0 : (f.kind == 0) = true := by simp [hk0]
    have hpd := chk_padE HC0.out hk0
    obtain ⟨m, hm⟩ : ∃ m : Nat, f.n = (m : Int) := ⟨f.n.toNat, by omega⟩
    have HM := Lib.hid (show m ≤ 16384 by omega)
    have g3 : w2.cell? ⟨xb, 3, none⟩ = some (.int .i64 (m : Int)) := by rw [← hm]; exact HX2.out.cell 3 rfl
    have HEn : Hid (encB f = List.replicate m 0) := Lib.hid (by unfold encB; rw [if_pos hk0, hm]; rfl)
    obtain ⟨ii, hi, hz, hsize, hby⟩ := tyU8.ex
    clear hpd hk0 hm
    go_wp2_with (refine wpList_make_full _ rfl (.tmp 20) (.tmp 20) _ rfl w2.heap.size 5 ii (.int .u8 0) 1 tyU8.ht hi hz hsize .i64 .i64 _ _ m rfl rfl rfl rfl (by rw [hby]; have := HM.out; omega) (by have := HM.out; unfold maxLen; omega) (Nat.le_refl _) ?_; intro w5 ho5 hg5)
    go_ret2
    rw [HE.out, HEn.out]
    refine RetBE.mk' rfl rfl (own_mono ho5 HB2.out.size) (zero_cells m).symm (HB2.out.grown hg5 HB2.out.size (fun k hk => by cases hk))
  have y0 := onE hk0
  obtain ⟨hok, hls⟩ := okl_all HC0.out hk0
  have hit := items_any w2 f.kind
  have hlen := itm_len f.kind
  have hen := enc_items HC0.out hk0
  obtain ⟨its, hits⟩ : ∃ its, its = itm f.kind := ⟨_, rfl⟩
  rw [← hits] at hok hls hit hlen hen
  obtain ⟨cs, ok⟩ := its
  simp only at hok hls hlen hen
  subst hok
  have HIt := Lib.hid hit
  have HLs := Lib.hid hls
  have HLn := Lib.hid hlen
  have HEn := Lib.hid hen
  have HKk := Lib.hid (chk0 HC0.out).1
  clear hit hls hlen hen hits hk0
  go_wp2_with fail
  refine HIt.out.mono ?_
  rintro e w3 ⟨he, rfl⟩
  obtain ⟨sl, hsl⟩ : ∃ sl, sl = str cs := ⟨_, rfl⟩
  have HSl := Lib.hid hsl
  obtain rfl : e = .returned (.tuple #[.string sl, .bool true]) := by rw [hsl]; exact he
  clear hsl he
  go_upto_if 31 with fail
  go_cut [7] (fun v wc => v = .int .i64 (kdE f) ∧ wc = w3)
  case first =>
    by_cases hk8 : f.kind = 8
    · have y8 : (f.kind == 8) = true := by simp [hk8]
      have HKe : Hid (kdE f = strK f.at_ f.fin) := Lib.hid (by unfold kdE; rw [if_pos hk8])
      have g2 := HX2.out.cell 2 rfl
      have g5 := HX2.out.cell 5 rfl
      clear hk8
      by_cases hat : 0 < f.at_
      · rcases Bool.eq_false_or_eq_true f.fin with hfi | hfi
        · have HKs : Hid (kdE f = 15) := Lib.hid (by rw [HKe.out, hfi]; unfold strK; rw [if_pos hat]; rfl)
          rw [hfi] at g5
          clear hfi
          go_wp2_with fail
          go_meet
          case rel => exact ⟨by rw [HKs.out], by trivial⟩
        · have HKs : Hid (kdE f = 14) := Lib.hid (by rw [HKe.out, hfi]; unfold strK; rw [if_pos hat]; rfl)
          rw [hfi] at g5
          clear hfi
          go_wp2_with fail
          go_meet
          case rel => exact ⟨by rw [HKs.out], by trivial⟩
      · rcases Bool.eq_false_or_eq_true f.fin with hfi | hfi
        · have HKs : Hid (kdE f = 11) := Lib.hid (by rw [HKe.out, hfi]; unfold strK; rw [if_neg hat]; rfl)
          rw [hfi] at g5
          clear hfi
          go_wp2_with fail
          go_meet
          case rel => exact ⟨by rw [HKs.out], by trivial⟩
        · have HKs : Hid (kdE f = 10) := Lib.hid (by rw [HKe.out, hfi]; unfold strK; rw [if_neg hat]; rfl)
          rw [hfi] at g5
          clear hfi
          go_wp2_with fail
          go_meet
          case rel => exact ⟨by rw [HKs.out], by trivial⟩
    · have y8 := onE8 hk8
      have HKe : Hid (kdE f = f.kind) := Lib.hid (by unfold kdE; rw [if_neg hk8])
      clear hk8
      go_wp2_with fail
      go_meet
      case rel => exact ⟨by rw [HKe.out], by trivial⟩
  case rest =>
    obtain ⟨rfl, rfl⟩ := hcut
    have HPk := Lib.hid (fun w' => rput_num w' (x := kdE f) (kdE_num HKk.out))
    obtain ⟨kk, hkk⟩ : ∃ kk, kk = kdE f := ⟨_, rfl⟩
    rw [← hkk] at HPk HEn ⊢
    clear hkk g0
    go_wp2_with fail
    refine (HPk.out _).mono ?_
    rintro e w4 ⟨a4, c4, he, ho4, hb4⟩
    obtain ⟨b0, hb0⟩ : ∃ b0, b0 = vl kk.toNat := ⟨_, rfl⟩
    have HB8 : Hid (b0.length ≤ 8) := Lib.hid (by rw [hb0, vl_length]; exact (szN_pos _).2)
    rw [← hb0] at he ho4 HEn
    have HO4 : Hid (OE w w4 xb f fa b0 a4 c4) := Lib.hid ⟨own_mono ho4 HB2.out.size, HX2.out.kept (X := none') (Kept.of_below hb4) (fun h => h), HB2.out.trans (hb4.mono HB2.out.size)⟩
    obtain ⟨bn, hbn⟩ : ∃ bn, bn = b0.length := ⟨_, rfl⟩
    obtain rfl : e = .returned (.slice a4 bn c4) := by rw [he, hbn]
    have HBn := Lib.hid hbn
    have hsz : sl.size = cs.length := by rw [HSl.out]; simp [str, ByteArray.size]
    obtain ⟨nn, hnn⟩ : ∃ nn, nn = cs.length := ⟨_, rfl⟩
    rw [← hnn] at hsz
    have HN := Lib.hid hnn
    clear he ho4 hb4 hb0 hbn hnn
    go_wp2_with fail
    go_loopw [8, 9] (fun bv_ v wr => LRel w xb f fa cs b0 bv_ v wr) (fun _ v _ => nn - (intOf v).toNat)
    case atStart => exact ⟨0, a4, c4, b0, rfl, by rw [HBn.out], Nat.zero_le _, by simp, HO4.out⟩
    case round =>
      obtain ⟨i, ba, bc, b, rfl, rfl, hi, hbe, hO⟩ := hrel
      have HO := Lib.hid hO
      have HBe := Lib.hid hbe
      have HLb : Hid (b.length ≤ 8 + i * 17000) := Lib.hid (by rw [hbe, List.length_append]; exact Nat.add_le_add HB8.out (flat_len HLs.out i hi))
      have HI4 : Hid (i ≤ 4) := Lib.hid (Nat.le_trans hi HLn.out)
      obtain ⟨bl, hbl⟩ : ∃ bl, bl = b.length := ⟨_, rfl⟩
      rw [← hbl]
      have HBl := Lib.hid hbl
      have HI := Lib.hid hi
      clear hi hbe hO hbl
      by_cases hin : i < nn
      · obtain ⟨z1, z2, z3⟩ := ren3 hin (by rw [HN.out]; exact Nat.le_trans HLn.out (by decide))
        have HIn := Lib.hid hin
        have hil : i < cs.length := by rw [← HN.out]; exact hin
        have hok := HLs.out cs[i] (List.getElem_mem hil)
        have hg : sl[i]'(by rw [hsz]; exact hin) = cs[i] := by
          have h1 := HSl.out
          subst h1
          exact str_get cs i hil
        obtain ⟨ch, hch⟩ : ∃ ch, ch = cs[i] := ⟨_, rfl⟩
        rw [← hch] at hok hg
        have HCh0 := Lib.hid hch.symm
        clear hch
        have hl := hok.l
        simp only [ltrE, List.mem_cons, List.not_mem_nil, or_false] at hl
        rcases hl with rfl | rfl | rfl | rfl | rfl | rfl | rfl | rfl | rfl | rfl
        · have hch : ((sl[i]'(by rw [hsz]; exact hin)).toNat : Int) = 105 := by rw [hg]; rfl
          have HCh : Hid (cs[i]'hil = 105) := HCh0
          have HOk := Lib.hid hok
          clear hg hok
          have HPp : Hid (∀ w', Calls Try.prog 33 #[.int .i64 f.id] w' (RetB w' (vl f.id.toNat))) := Lib.hid (fun w' => rput_num w' (numB_in (HOk.out.i rfl)))
          have gc := HO.out.box.cell 1 rfl
          go_wp2_with fail
          refine (HPp.out wr).mono ?_
          rintro e v1 ⟨pa, pc, he, hpo, hb1⟩
          have hO1 := HO.out.below hb1
          have hpl : (vl f.id.toNat).length ≤ 8 := by rw [vl_length]; exact (szN_pos _).2
          obtain ⟨ba2, bc2, v2, hr2, hO2, _⟩ := hO1.app 22 (own_sl hpo) (ren1 HLb.out HI4.out (Nat.le_trans hpl (by decide)))
          have HRel := Lib.hid (LRel.step (n := b.length + (vl f.id.toNat).length) hil HBe.out (by rw [HCh.out]; rfl) hO2 (by rw [List.length_append]))
          obtain ⟨pn, hpn⟩ : ∃ pn, pn = (vl f.id.toNat).length := ⟨_, rfl⟩
          rw [← hpn, ← HBl.out] at hr2 HRel
          obtain rfl : e = .returned (.slice pa pn pc) := by rw [he, hpn]
          clear he hpo hb1 hO1 hpl hO2 hpn gc
          go_wp2_with (at_builtin; refine Lib.wpList_append_run _ rfl _ _ _ _ rfl (.slice ba bl bc) (.slice pa pn pc) rfl rfl _ _ hr2 ?_)
          go_roundw
          case rel => exact HRel.out
          case measure => exact ren4 HIn.out
        · have hch : ((sl[i]'(by rw [hsz]; exact hin)).toNat : Int) = 97 := by rw [hg]; rfl
          have HCh : Hid (cs[i]'hil = 97) := HCh0
          have HOk := Lib.hid hok
          clear hg hok
          have g0 := HO.out.box.cell 0 rfl
          by_cases hk8 : f.kind = 8
          · rw [hk8] at g0
            by_cases hat : 0 < f.at_
            · have HRw : Hid (rlB 97 f = vl f.at_.toNat) := Lib.hid (by show (if f.kind ≠ 8 ∨ 0 < f.at_ then _ else _) = _; rw [if_pos (.inr hat)])
              clear hk8
              have HPp : Hid (∀ w', Calls Try.prog 33 #[.int .i64 f.at_] w' (RetB w' (vl f.at_.toNat))) := Lib.hid (fun w' => rput_num w' (numB_in (HOk.out.a rfl)))
              have gc := HO.out.box.cell 2 rfl
              have g2 := HO.out.box.cell 2 rfl
              go_wp2_with fail
              refine (HPp.out wr).mono ?_
              rintro e v1 ⟨pa, pc, he, hpo, hb1⟩
              have hO1 := HO.out.below hb1
              have hpl : (vl f.at_.toNat).length ≤ 8 := by rw [vl_length]; exact (szN_pos _).2
              obtain ⟨ba2, bc2, v2, hr2, hO2, _⟩ := hO1.app 22 (own_sl hpo) (ren1 HLb.out HI4.out (Nat.le_trans hpl (by decide)))
              have HRel := Lib.hid (LRel.step (n := b.length + (vl f.at_.toNat).length) hil HBe.out (by rw [HCh.out]; exact HRw.out) hO2 (by rw [List.length_append]))
              obtain ⟨pn, hpn⟩ : ∃ pn, pn = (vl f.at_.toNat).length := ⟨_, rfl⟩
              rw [← hpn, ← HBl.out] at hr2 HRel
              obtain rfl : e = .returned (.slice pa pn pc) := by rw [he, hpn]
              clear he hpo hb1 hO1 hpl hO2 hpn gc
              go_wp2_with (at_builtin; refine Lib.wpList_append_run _ rfl _ _ _ _ rfl (.slice ba bl bc) (.slice pa pn pc) rfl rfl _ _ hr2 ?_)
              go_roundw
              case rel => exact HRel.out
              case measure => exact ren4 HIn.out
            · have HRw : Hid (rlB 97 f = []) := Lib.hid (by show (if f.kind ≠ 8 ∨ 0 < f.at_ then _ else _) = _; rw [if_neg (by rintro (h | h); exact h hk8; exact hat h)])
              have g2 := HO.out.box.cell 2 rfl
              have HRel := Lib.hid (LRel.step (p := []) (n := b.length) hil HBe.out (by rw [HCh.out]; exact HRw.out) (by rw [List.append_nil]; exact HO.out) (by rw [List.append_nil]))
              rw [← HBl.out] at HRel
              clear hk8
              go_wp2_with fail
              go_roundw
              case rel => exact HRel.out
              case measure => exact ren4 HIn.out
          · have y8 := onE8 hk8
            have y9 : ¬ f.kind = 8 := hk8
            have HRw : Hid (rlB 97 f = vl f.at_.toNat) := Lib.hid (by show (if f.kind ≠ 8 ∨ 0 < f.at_ then _ else _) = _; rw [if_pos (.inl hk8)])
            clear hk8
            have HPp : Hid (∀ w', Calls Try.prog 33 #[.int .i64 f.at_] w' (RetB w' (vl f.at_.toNat))) := Lib.hid (fun w' => rput_num w' (numB_in (HOk.out.a rfl)))
            have gc := HO.out.box.cell 2 rfl
            go_wp2_with fail
            refine (HPp.out wr).mono ?_
            rintro e v1 ⟨pa, pc, he, hpo, hb1⟩
            have hO1 := HO.out.below hb1
            have hpl : (vl f.at_.toNat).length ≤ 8 := by rw [vl_length]; exact (szN_pos _).2
            obtain ⟨ba2, bc2, v2, hr2, hO2, _⟩ := hO1.app 22 (own_sl hpo) (ren1 HLb.out HI4.out (Nat.le_trans hpl (by decide)))
            have HRel := Lib.hid (LRel.step (n := b.length + (vl f.at_.toNat).length) hil HBe.out (by rw [HCh.out]; exact HRw.out) hO2 (by rw [List.length_append]))
            obtain ⟨pn, hpn⟩ : ∃ pn, pn = (vl f.at_.toNat).length := ⟨_, rfl⟩
            rw [← hpn, ← HBl.out] at hr2 HRel
            obtain rfl : e = .returned (.slice pa pn pc) := by rw [he, hpn]
            clear he hpo hb1 hO1 hpl hO2 hpn gc
            go_wp2_with (at_builtin; refine Lib.wpList_append_run _ rfl _ _ _ _ rfl (.slice ba bl bc) (.slice pa pn pc) rfl rfl _ _ hr2 ?_)
            go_roundw
            case rel => exact HRel.out
            case measure => exact ren4 HIn.out
        · have hch : ((sl[i]'(by rw [hsz]; exact hin)).toNat : Int) = 110 := by rw [hg]; rfl
          have HCh : Hid (cs[i]'hil = 110) := HCh0
          have HOk := Lib.hid hok
          clear hg hok
          have HPp : Hid (∀ w', Calls Try.prog 33 #[.int .i64 f.n] w' (RetB w' (vl f.n.toNat))) := Lib.hid (fun w' => rput_num w' (numB_in (HOk.out.n rfl)))
          have gc := HO.out.box.cell 3 rfl
          go_wp2_with fail
          refine (HPp.out wr).mono ?_
          rintro e v1 ⟨pa, pc, he, hpo, hb1⟩
          have hO1 := HO.out.below hb1
          have hpl : (vl f.n.toNat).length ≤ 8 := by rw [vl_length]; exact (szN_pos _).2
          obtain ⟨ba2, bc2, v2, hr2, hO2, _⟩ := hO1.app 22 (own_sl hpo) (ren1 HLb.out HI4.out (Nat.le_trans hpl (by decide)))
          have HRel := Lib.hid (LRel.step (n := b.length + (vl f.n.toNat).length) hil HBe.out (by rw [HCh.out]; rfl) hO2 (by rw [List.length_append]))
          obtain ⟨pn, hpn⟩ : ∃ pn, pn = (vl f.n.toNat).length := ⟨_, rfl⟩
          rw [← hpn, ← HBl.out] at hr2 HRel
          obtain rfl : e = .returned (.slice pa pn pc) := by rw [he, hpn]
          clear he hpo hb1 hO1 hpl hO2 hpn gc
          go_wp2_with (at_builtin; refine Lib.wpList_append_run _ rfl _ _ _ _ rfl (.slice ba bl bc) (.slice pa pn pc) rfl rfl _ _ hr2 ?_)
          go_roundw
          case rel => exact HRel.out
          case measure => exact ren4 HIn.out
        · have hch : ((sl[i]'(by rw [hsz]; exact hin)).toNat : Int) = 99 := by rw [hg]; rfl
          have HCh : Hid (cs[i]'hil = 99) := HCh0
          have HOk := Lib.hid hok
          clear hg hok
          have HPp : Hid (∀ w', Calls Try.prog 33 #[.int .i64 f.code] w' (RetB w' (vl f.code.toNat))) := Lib.hid (fun w' => rput_num w' (numB_in (HOk.out.c rfl)))
          have gc := HO.out.box.cell 4 rfl
          go_wp2_with fail
          refine (HPp.out wr).mono ?_
          rintro e v1 ⟨pa, pc, he, hpo, hb1⟩
          have hO1 := HO.out.below hb1
          have hpl : (vl f.code.toNat).length ≤ 8 := by rw [vl_length]; exact (szN_pos _).2
          obtain ⟨ba2, bc2, v2, hr2, hO2, _⟩ := hO1.app 22 (own_sl hpo) (ren1 HLb.out HI4.out (Nat.le_trans hpl (by decide)))
          have HRel := Lib.hid (LRel.step (n := b.length + (vl f.code.toNat).length) hil HBe.out (by rw [HCh.out]; rfl) hO2 (by rw [List.length_append]))
          obtain ⟨pn, hpn⟩ : ∃ pn, pn = (vl f.code.toNat).length := ⟨_, rfl⟩
          rw [← hpn, ← HBl.out] at hr2 HRel
          obtain rfl : e = .returned (.slice pa pn pc) := by rw [he, hpn]
          clear he hpo hb1 hO1 hpl hO2 hpn gc
          go_wp2_with (at_builtin; refine Lib.wpList_append_run _ rfl _ _ _ _ rfl (.slice ba bl bc) (.slice pa pn pc) rfl rfl _ _ hr2 ?_)
          go_roundw
          case rel => exact HRel.out
          case measure => exact ren4 HIn.out
        · have hch : ((sl[i]'(by rw [hsz]; exact hin)).toNat : Int) = 100 := by rw [hg]; rfl
          have HCh : Hid (cs[i]'hil = 100) := HCh0
          have HOk := Lib.hid hok
          clear hg hok
          have HPp : Hid (∀ w', Calls Try.prog 33 #[.int .i64 (f.data.length : Int)] w' (RetB w' (vl f.data.length))) := Lib.hid (fun w' => refput_any w' f.data.length (by have := HOk.out.d; omega))
          have gc := HO.out.box.cell 6 rfl
          go_wp2_with fail
          refine (HPp.out wr).mono ?_
          rintro e v1 ⟨pa, pc, he, hpo, hb1⟩
          have hO1 := HO.out.below hb1
          have hpl : (vl f.data.length).length ≤ 8 := by rw [vl_length]; exact (szN_pos _).2
          obtain ⟨ba2, bc2, v2, hr2, hO2, _⟩ := hO1.app 22 (own_sl hpo) (ren1 HLb.out HI4.out (Nat.le_trans hpl (by decide)))
          have hsd := (HF.out.below hO2.bel).data
          obtain ⟨ba3, bc3, v3, hr3, hO3, _⟩ := hO2.app 22 hsd (by rw [List.length_append]; exact ren5 HLb.out HI4.out (Nat.le_trans hpl (by decide)) (Nat.le_trans HOk.out.d (by decide)))
          have HRel := Lib.hid (LRel.step (p := vl f.data.length ++ f.data) (n := (b ++ vl f.data.length).length + f.data.length) hil HBe.out (by rw [HCh.out]; rfl) (by rw [← List.append_assoc]; exact hO3) (by rw [← List.append_assoc]; exact List.length_append.symm))
          have gd := hO2.box.cell 6 rfl
          have h2l : (b ++ vl f.data.length).length = b.length + (vl f.data.length).length := List.length_append
          obtain ⟨pn, hpn⟩ : ∃ pn, pn = (vl f.data.length).length := ⟨_, rfl⟩
          rw [h2l] at hr3 HRel
          rw [← hpn, ← HBl.out] at hr2 hr3 HRel
          obtain rfl : e = .returned (.slice pa pn pc) := by rw [he, hpn]
          clear he hpo hb1 hO1 hpl hO2 hpn hsd hO3 h2l
          go_upto_region 30 with (at_builtin; refine Lib.wpList_append_run _ rfl _ _ _ _ rfl (.slice ba bl bc) (.slice pa pn pc) rfl rfl _ _ hr2 ?_)
          clear gc hr2
          go_wp2_with (at_builtin; refine Lib.wpList_append_run _ rfl _ _ _ _ rfl (.slice ba2 (bl + pn) bc2) (.slice fa.da f.data.length fa.dc) rfl rfl _ _ hr3 ?_)
          go_roundw
          case rel => exact HRel.out
          case measure => exact ren4 HIn.out
        · have hch : ((sl[i]'(by rw [hsz]; exact hin)).toNat : Int) = 107 := by rw [hg]; rfl
          have HCh : Hid (cs[i]'hil = 107) := HCh0
          have HOk := Lib.hid hok
          clear hg hok
          have hcl := HOk.out.k rfl
          have cw := cw20 hcl
          have gc := HO.out.box.cell 7 rfl
          have hal : Below wr.heap.size wr (wr.alloc (.cells #[.int .u8 (f.cid.length : Int)] 5)) := alB wr _
          have hO1 := HO.out.below hal
          obtain ⟨ba2, bc2, v2, hr2, hO2, _⟩ := hO1.app 22 (one_byte hcl) (ren1 HLb.out HI4.out (show 1 ≤ 100000 by decide))
          have hsd := (HF.out.below hO2.bel).cid
          obtain ⟨ba3, bc3, v3, hr3, hO3, _⟩ := hO2.app 22 hsd (by rw [List.length_append]; exact ren5 HLb.out HI4.out (show 1 ≤ 100000 by decide) (Nat.le_trans hcl (by decide)))
          have HRel := Lib.hid (LRel.step (p := [UInt8.ofNat f.cid.length] ++ f.cid) (n := (b ++ [UInt8.ofNat f.cid.length]).length + f.cid.length) hil HBe.out (by rw [HCh.out]; rfl) (by rw [← List.append_assoc]; exact hO3) (by rw [← List.append_assoc]; exact List.length_append.symm))
          have gd := hO2.box.cell 7 rfl
          have h2l : (b ++ [UInt8.ofNat f.cid.length]).length = b.length + 1 := List.length_append
          rw [h2l] at hr3 HRel
          rw [← HBl.out] at hr2 hr3 HRel
          clear hal hO1 hO2 hsd hO3 h2l hcl
          go_upto_region 33 with (at_builtin; refine Lib.wpList_append_run _ rfl _ _ _ _ rfl (.slice ba bl bc) (.slice (some ⟨wr.heap.size, 0, none⟩) 1 1) rfl rfl _ _ hr2 ?_)
          clear gc hr2
          go_wp2_with (at_builtin; refine Lib.wpList_append_run _ rfl _ _ _ _ rfl (.slice ba2 (bl + 1) bc2) (.slice fa.ca f.cid.length fa.cc) rfl rfl _ _ hr3 ?_)
          go_roundw
          case rel => exact HRel.out
          case measure => exact ren4 HIn.out
        · have hch : ((sl[i]'(by rw [hsz]; exact hin)).toNat : Int) = 116 := by rw [hg]; rfl
          have HCh : Hid (cs[i]'hil = 116) := HCh0
          have HOk := Lib.hid hok
          clear hg hok
          have gc := HO.out.box.cell 6 rfl
          have hsd := (HF.out.below HO.out.bel).data
          obtain ⟨ba3, bc3, v3, hr3, hO3, _⟩ := HO.out.app 22 hsd (ren1 HLb.out HI4.out (Nat.le_trans HOk.out.d (by decide)))
          have HRel := Lib.hid (LRel.step (p := f.data) (n := b.length + f.data.length) hil HBe.out (by rw [HCh.out]; rfl) hO3 (by rw [List.length_append]))
          rw [← HBl.out] at hr3 HRel
          clear hsd hO3
          go_wp2_with (at_builtin; refine Lib.wpList_append_run _ rfl _ _ _ _ rfl (.slice ba bl bc) (.slice fa.da f.data.length fa.dc) rfl rfl _ _ hr3 ?_)
          go_roundw
          case rel => exact HRel.out
          case measure => exact ren4 HIn.out
        · have hch : ((sl[i]'(by rw [hsz]; exact hin)).toNat : Int) = 112 := by rw [hg]; rfl
          have HCh : Hid (cs[i]'hil = 112) := HCh0
          have HOk := Lib.hid hok
          clear hg hok
          have gc := HO.out.box.cell 6 rfl
          have hsd := (HF.out.below HO.out.bel).data
          obtain ⟨ba3, bc3, v3, hr3, hO3, _⟩ := HO.out.app 22 hsd (ren1 HLb.out HI4.out (Nat.le_trans HOk.out.d (by decide)))
          have HRel := Lib.hid (LRel.step (p := f.data) (n := b.length + f.data.length) hil HBe.out (by rw [HCh.out]; rfl) hO3 (by rw [List.length_append]))
          rw [← HBl.out] at hr3 HRel
          clear hsd hO3
          go_wp2_with (at_builtin; refine Lib.wpList_append_run _ rfl _ _ _ _ rfl (.slice ba bl bc) (.slice fa.da f.data.length fa.dc) rfl rfl _ _ hr3 ?_)
          go_roundw
          case rel => exact HRel.out
          case measure => exact ren4 HIn.out
        · have hch : ((sl[i]'(by rw [hsz]; exact hin)).toNat : Int) = 101 := by rw [hg]; rfl
          have HCh : Hid (cs[i]'hil = 101) := HCh0
          have HOk := Lib.hid hok
          clear hg hok
          have HE3 := Lib.hid (HOk.out.e rfl)
          have HIl := Lib.hid hil
          go_wp2_with fail
          go_loopw [8, 10] (fun bv_ v wr => ∃ (j : Nat) (ba : Option Addr) (bc : Nat) (b2 : List UInt8), v = .int .i64 (j : Int) ∧ j ≤ 3 ∧ bv_ = .slice ba b2.length bc ∧ Hid (b2 = b ++ nB ([f.e0, f.e1, f.e2].take j)) ∧ OE w wr xb f fa b2 ba bc) (fun _ v _ => 3 - (intOf v).toNat)
          case atStart => exact ⟨0, ba, bc, b, rfl, by decide, by rw [HBl.out], Lib.hid (by simp [nB_nil']), HO.out⟩
          case round =>
            obtain ⟨j, ba, bc, b2, rfl, hj3, rfl, HB2, hO⟩ := hrel
            have HOi := Lib.hid hO
            clear hO
            obtain ⟨bl2, hbl2⟩ : ∃ bl2, bl2 = b2.length := ⟨_, rfl⟩
            rw [← hbl2]
            have HBl2 := Lib.hid hbl2
            clear hbl2
            by_cases hj : j = 3
            · subst hj
              clear hj3
              have HRel := Lib.hid (LRel.step (p := nB [f.e0, f.e1, f.e2]) (n := bl2) HIl.out HBe.out (by rw [HCh.out]; rfl) (by have h1 := HOi.out; rw [HB2.out] at h1; exact h1) (by rw [HBl2.out, HB2.out]; rfl))
              go_wp2_with fail
              go_roundw
              case rel => exact HRel.out
              case measure => exact ren4 HIn.out
            have HL2 : Hid (b2.length ≤ 8 + i * 17000 + 24) := Lib.hid (by
              rw [HB2.out, List.length_append]
              exact Nat.add_le_add HLb.out (mk_len f j))
            obtain rfl | rfl | rfl : j = 0 ∨ j = 1 ∨ j = 2 := ritm hj3 hj
            · clear hj3 hj
              have HPp : Hid (∀ w', Calls Try.prog 33 #[.int .i64 f.e0] w' (RetB w' (vl f.e0.toNat))) := Lib.hid (fun w' => rput_num w' (numB_in HE3.out.1))
              have gc := HOi.out.box.cell 10 rfl
              go_wp2_with fail
              refine (HPp.out wr).mono ?_
              rintro e v1 ⟨pa, pc, he, hpo, hb1⟩
              have hO1 := HOi.out.below hb1
              have hpl : (vl f.e0.toNat).length ≤ 8 := by rw [vl_length]; exact (szN_pos _).2
              obtain ⟨ba2, bc2, v2, hr2, hO2, _⟩ := hO1.app 22 (own_sl hpo) (ren7 HL2.out HI4.out hpl)
              have HRel : Hid (∃ (j' : Nat) (ba : Option Addr) (bc : Nat) (b2 : List UInt8), Value.int .i64 1 = .int .i64 (j' : Int) ∧ j' ≤ 3 ∧ Value.slice ba2 (bl2 + (vl f.e0.toNat).length) bc2 = .slice ba b2.length bc ∧ Hid (b2 = b ++ nB ([f.e0, f.e1, f.e2].take j')) ∧ OE w v2 xb f fa b2 ba bc) := Lib.hid ⟨1, ba2, bc2, b2 ++ vl f.e0.toNat, rfl, by decide, by rw [List.length_append, HBl2.out], Lib.hid (by rw [HB2.out]; simp [nB_cons', nB_nil']), hO2⟩
              obtain ⟨pn, hpn⟩ : ∃ pn, pn = (vl f.e0.toNat).length := ⟨_, rfl⟩
              rw [← hpn, ← HBl2.out] at hr2
              rw [← hpn] at HRel
              obtain rfl : e = .returned (.slice pa pn pc) := by rw [he, hpn]
              clear he hpo hb1 hO1 hpl hO2 hpn gc
              go_wp2_with (at_builtin; refine Lib.wpList_append_run _ rfl _ _ _ _ rfl (.slice ba bl2 bc) (.slice pa pn pc) rfl rfl _ _ hr2 ?_)
              go_roundw
              case rel => exact HRel.out
              case measure => decide
            · clear hj3 hj
              have HPp : Hid (∀ w', Calls Try.prog 33 #[.int .i64 f.e1] w' (RetB w' (vl f.e1.toNat))) := Lib.hid (fun w' => rput_num w' (numB_in HE3.out.2.1))
              have gc := HOi.out.box.cell 11 rfl
              go_wp2_with fail
              refine (HPp.out wr).mono ?_
              rintro e v1 ⟨pa, pc, he, hpo, hb1⟩
              have hO1 := HOi.out.below hb1
              have hpl : (vl f.e1.toNat).length ≤ 8 := by rw [vl_length]; exact (szN_pos _).2
              obtain ⟨ba2, bc2, v2, hr2, hO2, _⟩ := hO1.app 22 (own_sl hpo) (ren7 HL2.out HI4.out hpl)
              have HRel : Hid (∃ (j' : Nat) (ba : Option Addr) (bc : Nat) (b2 : List UInt8), Value.int .i64 2 = .int .i64 (j' : Int) ∧ j' ≤ 3 ∧ Value.slice ba2 (bl2 + (vl f.e1.toNat).length) bc2 = .slice ba b2.length bc ∧ Hid (b2 = b ++ nB ([f.e0, f.e1, f.e2].take j')) ∧ OE w v2 xb f fa b2 ba bc) := Lib.hid ⟨2, ba2, bc2, b2 ++ vl f.e1.toNat, rfl, by decide, by rw [List.length_append, HBl2.out], Lib.hid (by rw [HB2.out]; simp [nB_cons', nB_nil']), hO2⟩
              obtain ⟨pn, hpn⟩ : ∃ pn, pn = (vl f.e1.toNat).length := ⟨_, rfl⟩
              rw [← hpn, ← HBl2.out] at hr2
              rw [← hpn] at HRel
              obtain rfl : e = .returned (.slice pa pn pc) := by rw [he, hpn]
              clear he hpo hb1 hO1 hpl hO2 hpn gc
              go_wp2_with (at_builtin; refine Lib.wpList_append_run _ rfl _ _ _ _ rfl (.slice ba bl2 bc) (.slice pa pn pc) rfl rfl _ _ hr2 ?_)
              go_roundw
              case rel => exact HRel.out
              case measure => decide
            · clear hj3 hj
              have HPp : Hid (∀ w', Calls Try.prog 33 #[.int .i64 f.e2] w' (RetB w' (vl f.e2.toNat))) := Lib.hid (fun w' => rput_num w' (numB_in HE3.out.2.2))
              have gc := HOi.out.box.cell 12 rfl
              go_wp2_with fail
              refine (HPp.out wr).mono ?_
              rintro e v1 ⟨pa, pc, he, hpo, hb1⟩
              have hO1 := HOi.out.below hb1
              have hpl : (vl f.e2.toNat).length ≤ 8 := by rw [vl_length]; exact (szN_pos _).2
              obtain ⟨ba2, bc2, v2, hr2, hO2, _⟩ := hO1.app 22 (own_sl hpo) (ren7 HL2.out HI4.out hpl)
              have HRel : Hid (∃ (j' : Nat) (ba : Option Addr) (bc : Nat) (b2 : List UInt8), Value.int .i64 3 = .int .i64 (j' : Int) ∧ j' ≤ 3 ∧ Value.slice ba2 (bl2 + (vl f.e2.toNat).length) bc2 = .slice ba b2.length bc ∧ Hid (b2 = b ++ nB ([f.e0, f.e1, f.e2].take j')) ∧ OE w v2 xb f fa b2 ba bc) := Lib.hid ⟨3, ba2, bc2, b2 ++ vl f.e2.toNat, rfl, by decide, by rw [List.length_append, HBl2.out], Lib.hid (by rw [HB2.out]; simp [nB_cons', nB_nil']), hO2⟩
              obtain ⟨pn, hpn⟩ : ∃ pn, pn = (vl f.e2.toNat).length := ⟨_, rfl⟩
              rw [← hpn, ← HBl2.out] at hr2
              rw [← hpn] at HRel
              obtain rfl : e = .returned (.slice pa pn pc) := by rw [he, hpn]
              clear he hpo hb1 hO1 hpl hO2 hpn gc
              go_wp2_with (at_builtin; refine Lib.wpList_append_run _ rfl _ _ _ _ rfl (.slice ba bl2 bc) (.slice pa pn pc) rfl rfl _ _ hr2 ?_)
              go_roundw
              case rel => exact HRel.out
              case measure => decide
        · have hch : ((sl[i]'(by rw [hsz]; exact hin)).toNat : Int) = 115 := by rw [hg]; rfl
          have HCh : Hid (cs[i]'hil = 115) := HCh0
          have HOk := Lib.hid hok
          clear hg hok
          have hsp := HOk.out.s rfl
          have hal := ackB_len f (by have h1 := hsp.1; unfold rspV at h1; simp only [Bool.and_eq_true, decide_eq_true_eq] at h1; exact h1.2.2)
          have HK := Lib.hid (rackB_any wr (HF.out.below HO.out.bel) hsp.1 hsp.2)
          have g0 := HO.out.box.cell 0 rfl
          have g1 := HO.out.box.cell 1 rfl
          have g2 := HO.out.box.cell 2 rfl
          have g3 := HO.out.box.cell 3 rfl
          have g4 := HO.out.box.cell 4 rfl
          have g5 := HO.out.box.cell 5 rfl
          have g6 := HO.out.box.cell 6 rfl
          have g7 := HO.out.box.cell 7 rfl
          have g8 := HO.out.box.cell 8 rfl
          have g9 := HO.out.box.cell 9 rfl
          have g10 := HO.out.box.cell 10 rfl
          have g11 := HO.out.box.cell 11 rfl
          have g12 := HO.out.box.cell 12 rfl
          clear hsp
          go_wp2_with fail
          refine HK.out.mono ?_
          rintro e v1 ⟨pa, pc, he, hpo, hb1⟩
          have hO1 := HO.out.below hb1
          obtain ⟨ba2, bc2, v2, hr2, hO2, _⟩ := hO1.app 22 (own_sl hpo) (ren1 HLb.out HI4.out (Nat.le_trans hal (by decide)))
          have HRel := Lib.hid (LRel.step (n := b.length + (ackB f).length) hil HBe.out (by rw [HCh.out]; rfl) hO2 (by rw [List.length_append]))
          obtain ⟨pn, hpn⟩ : ∃ pn, pn = (ackB f).length := ⟨_, rfl⟩
          rw [← hpn, ← HBl.out] at hr2 HRel
          obtain rfl : e = .returned (.slice pa pn pc) := by rw [he, hpn]
          clear he hpo hb1 hO1 hal hO2 hpn g0 g1 g2 g3 g4 g5 g6 g7 g8 g9 g10 g11 g12
          go_wp2_with (at_builtin; refine Lib.wpList_append_run _ rfl _ _ _ _ rfl (.slice ba bl bc) (.slice pa pn pc) rfl rfl _ _ hr2 ?_)
          go_roundw
          case rel => exact HRel.out
          case measure => exact ren4 HIn.out
      · have z1 : ¬ (i : Int) < (nn : Int) := hsj2 hin
        have HEq : Hid (b = encB f) := Lib.hid (by
          rw [HEn.out, HBe.out, List.take_of_length_le (by rw [← HN.out]; exact Nat.le_of_not_lt hin)])
        clear hin
        go_wp2
        go_ret2
        rw [HE.out]
        exact RetBE.mk' rfl rfl (by rw [HBl.out]; exact HO.out.own) (by rw [← HEq.out]) HO.out.bel
end Go.Proofs.Ytppkilkfmclpkaa

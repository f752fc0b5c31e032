/- The writer of frames: contracts of nums and text. No condition but the sizes. -/
import Derived.Test.YtppkilkfmclpkaaFrCheck
import Derived.Test.YtppkilkfmclpkaaVnPut
namespace Go.Proofs.Ytppkilkfmclpkaa
open Go.RowKit

/-- numbers, one behind the other -/
def nB (zs : List Int) : List UInt8 := zs.flatMap fun z => vl z.toNat
theorem nB_take (zs : List Int) (k : Nat) (h : k < zs.length) : nB (zs.take (k + 1)) = nB (zs.take k) ++ vl zs[k].toNat := by
  unfold nB
  rw [List.take_succ_eq_append_getElem h, List.flatMap_append]
  simp
theorem nB_len : ∀ zs : List Int, (nB zs).length ≤ zs.length * 8
  | [] => Nat.le_refl _
  | z :: r => by
    have h1 := (szN_pos z.toNat).2
    have h2 := nB_len r
    have e : nB (z :: r) = vl z.toNat ++ nB r := rfl
    rw [e, List.length_append, vl_length, List.length_cons]
    omega
/-- the block of a slice -/
def blk (a : Option Addr) (k : Nat) : Prop := ∃ ad, a = some ad ∧ ad.block = k
theorem blk_own {a : Option Addr} {n c k : Nat} (h : Value.ownBlock (.slice a n c) = some k) : blk a k := by
  cases a with
  | none => cases h
  | some ad => simp only [Value.ownBlock, Option.some.injEq] at h; exact ⟨ad, rfl, h⟩
theorem own_blk {a : Option Addr} {n c k : Nat} (h : blk a k) : Value.ownBlock (.slice a n c) = some k := by
  obtain ⟨ad, rfl, h⟩ := h
  simp only [Value.ownBlock, h]
theorem ownsRow_ge {w : World} {B e s : Nat} {a : Option Addr} {n c : Nat} {xs : List Value} (h : w.ownsRow B e s (.slice a n c) n xs) : ∀ k, blk a k → B ≤ k ∧ k < w.heap.size := by
  intro k ⟨ad, ha, hk⟩
  rcases h.2 with ⟨h0, _⟩ | ⟨g, cap, cur, hv, hB, hg, _⟩
  · simp only [Value.slice.injEq] at h0
    rw [h0.1] at ha; cases ha
  · simp only [Value.slice.injEq] at hv
    rw [hv.1] at ha; cases ha
    subst hk
    exact ⟨hB, (Array.getElem?_eq_some_iff.1 hg).1⟩
/-- a writer at g, its bytes -/
structure WB (w : World) (g : Nat) (b : List UInt8) (ba : Option Addr) (bc : Nat) : Prop where
  has : Has w g 59 [.slice ba b.length bc]
  row : w.ownsRow (g + 1) 5 1 (.slice ba b.length bc) b.length (bv b)
theorem WB.ne {w : World} {g : Nat} {b : List UInt8} {ba : Option Addr} {bc : Nat} (h : WB w g b ba bc) : ∀ k, blk ba k → g < k ∧ k < w.heap.size := fun k hk => by have := ownsRow_ge h.row k hk; omega
theorem WB.below {w w' : World} {g : Nat} {b : List UInt8} {ba : Option Addr} {bc : Nat} (h : WB w g b ba bc) (hb : Below w.heap.size w w') : WB w' g b ba bc := ⟨h.has.kept (X := none') (Kept.of_below hb) (fun h => h), own_below h.row hb⟩
/-- what a writer's call leaves: nothing but the writer has changed -/
def WrR (w : World) (g : Nat) (ba : Option Addr) (b' : List UInt8) (e : Ending) (w' : World) : Prop :=
  e = .returned (.tuple #[]) ∧ ∃ ba' bc', WB w' g b' ba' bc' ∧ Kept (fun k => k = g ∨ blk ba k) w w' ∧ ∀ k, blk ba' k → blk ba k ∨ w.heap.size ≤ k
/-- bytes appended to the writer's -/
theorem WB.app {w : World} {g : Nat} {b : List UInt8} {ba : Option Addr} {bc : Nat} (h : WB w g b ba bc) {a : Option Addr} {n c : Nat} {l : List UInt8} (hl : Sl w a n c (bv l)) (hsz : b.length + n ≤ 140737488355328) (tyo : TypeId) :
    ∃ ba' bc' w2, (Builtin.append_ #[22, 22] tyo #[.slice ba b.length bc, .slice a n c]).run Try.prog w = .ok (.slice ba' (b.length + n) bc') w2 ∧
      w2.cell? ⟨g, 0, none⟩ = some (.slice ba b.length bc) ∧ w2.frozen? ⟨g, 0, none⟩ = false ∧ WB (w2.setCell ⟨g, 0, none⟩ (.slice ba' (b.length + n) bc')) g (b ++ l) ba' bc' ∧
      Kept (fun k => k = g ∨ blk ba k) w (w2.setCell ⟨g, 0, none⟩ (.slice ba' (b.length + n) bc')) ∧ ∀ k, blk ba' k → blk ba k ∨ w.heap.size ≤ k := by
  obtain ⟨ba', bc', w2, hr, ho, hg, hw⟩ := run_app_own (tyo := tyo) tyU8 h.row hl (bv_one _) (by omega) (by unfold maxLen; omega) (by have := h.has.lt; omega)
  have hk := Kept.of_grown hg
  have hH := h.has.kept hk (fun e => by have := h.ne g (blk_own e); omega)
  have hk2 := Kept.set w2 g 0 (.slice ba' (b.length + n) bc')
  have hlen : (b ++ l).length = b.length + n := by rw [List.length_append, hl.byte]
  refine ⟨ba', bc', w2, hr, hH.cell 0 rfl, hH.free 0, ⟨?_, ?_⟩, (hk.more (fun k _ e => .inr (blk_own e))).trans hk2 (fun k _ e => .inl e), fun k hk => ?_⟩
  · rw [hlen]
    exact hH.set 0 _
  · rw [hlen, bv_append]
    exact own_kept ho hk2 (fun k e1 e2 => by have := ownsRow_ge ho k (blk_own e1); omega)
  · rcases hw k (own_blk hk) with h1 | h1
    · exact .inl (blk_own h1)
    · exact .inr h1

set_option maxRecDepth 100000 in
set_option maxHeartbeats 2000000 in
theorem nums_any (w : World) {g : Nat} {b : List UInt8} {ba : Option Addr} {bc : Nat} (hW : WB w g b ba bc) {a : Option Addr} {n c : Nat} {zs : List Int} (h : Sl w a n c (iv .i64 zs)) (hap : ∀ k, blk a k → k ≠ g ∧ ¬ blk ba k) (hlt : ∀ k, blk a k → k < w.heap.size) (hn : n ≤ 1024) (hbl : b.length ≤ 1000000000)
    (hx : ∀ z ∈ zs, 0 ≤ z ∧ z ≤ 4611686018427387903) :
    Calls Try.prog 29 #[.pointer (some ⟨g, 0, none⟩), .slice a n c] w (WrR w g ba (b ++ nB zs)) := by
  have hl : zs.length = n := by have := h.len; simpa [iv] using this
  have hc1 := h.cap_le
  have hc2 := h.cap_max
  have HS := Lib.hid h
  have HL := Lib.hid hl
  have HX := Lib.hid hx
  have HAp := Lib.hid hap
  have HLt := Lib.hid hlt
  have HW := Lib.hid hW
  clear h hl hx hap hlt hW
  go_enter Try.func29, Try.ntmps29
  go_wp2_with fail
  go_loopw [10] (fun v wr => ∃ (i : Nat) (ba' : Option Addr) (bc' : Nat), v = .int .i64 (i : Int) ∧ i ≤ n ∧ WB wr g (b ++ nB (zs.take i)) ba' bc' ∧ Kept (fun k => k = g ∨ blk ba k) w wr ∧ ∀ k, blk ba' k → blk ba k ∨ w.heap.size ≤ k) (fun v _ => n - (intOf v).toNat)
  case atStart => exact ⟨0, ba, bc, rfl, Nat.zero_le _, by simpa [nB] using HW.out, Kept.refl _ _, fun k h => .inl h⟩
  case round =>
    obtain ⟨i, ba', bc', rfl, hin, hWr, hkr, hbr⟩ := hrel
    have HWr := Lib.hid hWr
    have HKr := Lib.hid hkr
    have HBr := Lib.hid hbr
    clear hWr hkr hbr
    by_cases hi : i < n
    · have hil : (i : Int) < (n : Int) := by omega
      have hiz : i < zs.length := by rw [HL.out]; exact hi
      have hSr : Sl wr a n c (iv .i64 zs) := HS.out.kept HKr.out (fun ad ha e => by
        rcases e with e | e
        · exact (HAp.out _ ⟨ad, ha, rfl⟩).1 e
        · exact (HAp.out _ ⟨ad, ha, rfl⟩).2 e)
      obtain ⟨sb, off, rfl, hcs⟩ := hSr.cells (by omega)
      have hci := hcs i hi
      rw [iv_get zs i hiz] at hci
      have HT := Lib.hid (nB_take zs i hiz)
      obtain ⟨hx0, hx1⟩ := HX.out _ (List.getElem_mem hiz)
      obtain ⟨x, hx⟩ : ∃ x, x = zs[i].toNat := ⟨_, rfl⟩
      have hxi : zs[i] = (x : Int) := by omega
      rw [hxi] at hci
      rw [← hx] at HT
      have HP := Lib.hid (put_any wr x (by omega))
      have hiw : RowKit.wrap64 ((i : Int) + 1) = (i : Int) + 1 := by unfold RowKit.wrap64; omega
      have hbt : (b ++ nB (zs.take i)).length ≤ 1100000000 := by
        have h1 := nB_len (zs.take i)
        have h2 : (zs.take i).length ≤ n := by rw [List.length_take]; omega
        rw [List.length_append]
        have h3 : (zs.take i).length * 8 ≤ n * 8 := Nat.mul_le_mul_right _ h2
        omega
      have HBt := Lib.hid hbt
      have HIw := Lib.hid hiw
      have HI := Lib.hid hi
      obtain ⟨bb, hbb⟩ : ∃ bb, bb = b ++ nB (zs.take i) := ⟨_, rfl⟩
      rw [← hbb] at HBt HWr
      have HBb := Lib.hid hbb
      clear hcs hx0 hx1 hx hxi hi hbt hbb hSr
      go_wp2_with fail
      refine HP.out.mono ?_
      rintro e w2 ⟨pa, pc, rfl, hpo, hb2⟩
      have HW2 := HWr.out.below hb2
      have hv8 : (vl x).length ≤ 8 := by rw [vl_length]; exact (szN_pos x).2
      obtain ⟨ba2, bc2, w3, hr3, c3, f3, hW3, hk3, hn3⟩ := HW2.app (tyo := 22) (own_sl hpo) (by have := HBt.out; simp only; omega)
      simp only at hr3 hW3 hk3
      have hc2' := HW2.has.cell 0 rfl
      have HW3 := Lib.hid hW3
      have HK3 := Lib.hid ((HKr.out.trans (Kept.of_below (X := fun k => k = g ∨ blk ba k) hb2) (fun _ _ h => h)).trans hk3 (fun k hk e => by
        rcases e with e | e
        · exact .inl e
        · rcases HBr.out k e with h1 | h1
          · exact .inr h1
          · omega))
      have HN3 : Hid (∀ k, blk ba2 k → blk ba k ∨ w.heap.size ≤ k) := Lib.hid (fun k hk => by
        rcases hn3 k hk with h1 | h1
        · exact HBr.out k h1
        · exact .inr (by have := hb2.size; have := HKr.out.size; omega))
      have HW2' := Lib.hid HW2
      clear hpo hb2 hW3 hk3 hn3 HW2 hv8
      obtain ⟨vn, hvn⟩ : ∃ vn, vn = (vl x).length := ⟨_, rfl⟩
      simp only
      rw [← hvn] at hr3 HW3 HK3 ⊢
      clear hvn
      go_wp2_with (at_builtin; refine Lib.wpList_append_run _ rfl _ _ _ _ rfl (.slice ba' bb.length bc') (.slice pa vn pc) rfl rfl _ _ hr3 ?_)
      go_roundw
      case rel => exact ⟨i + 1, ba2, bc2, by (try rw [HIw.out]); push_cast; rfl, HI.out, by rw [HT.out, ← List.append_assoc, ← HBb.out]; exact HW3.out, HK3.out, HN3.out⟩
      case measure => (try rw [HIw.out]); exact meas_up HI.out
    · have hil : ¬ (i : Int) < (n : Int) := by omega
      have hE : zs.take i = zs := List.take_of_length_le (by rw [HL.out]; omega)
      rw [hE] at HWr
      clear hi hE
      go_wp2
      (try simp only [Exit.inBlock, Exit.then]); refine bodyPost_ret (results_none rfl _ _ _) rfl ?_
      exact ⟨rfl, ba', bc', HWr.out, HKr.out, HBr.out⟩
theorem Kept.wr {w w1 w2 : World} {g : Nat} {ba ba1 : Option Addr} (h : Kept (fun k => k = g ∨ blk ba k) w w1) (h2 : Kept (fun k => k = g ∨ blk ba1 k) w1 w2) (hn : ∀ k, blk ba1 k → blk ba k ∨ w.heap.size ≤ k) : Kept (fun k => k = g ∨ blk ba k) w w2 :=
  h.trans h2 (fun k hk e => by
    rcases e with e | e
    · exact .inl e
    · rcases hn k e with h1 | h1
      · exact .inr h1
      · omega)
set_option maxRecDepth 100000 in
set_option maxHeartbeats 2000000 in
theorem text_any (w : World) {g : Nat} {b : List UInt8} {ba : Option Addr} {bc : Nat} (hW : WB w g b ba bc) {a : Option Addr} {n c : Nat} {l : List UInt8} (h : Sl w a n c (bv l)) (hlt : ∀ k, blk a k → k < g) (hn : n ≤ 70000) (hbl : b.length ≤ 900000000) :
    Calls Try.prog 31 #[.pointer (some ⟨g, 0, none⟩), .slice a n c] w (WrR w g ba (b ++ (vl n ++ l))) := by
  have hl := h.byte
  have hg : g < w.heap.size := hW.has.lt
  obtain ⟨w1, hw1⟩ : ∃ w1, w1 = w.alloc (.cells #[.int .i64 (n : Int)] 3) := ⟨_, rfl⟩
  have hal : Below w.heap.size w w1 := by rw [hw1]; exact alB w _
  have hW1 := hW.below hal
  have HN := Lib.hid (nums_any w1 hW1 (zs := [(n : Int)]) (a := some ⟨w.heap.size, 0, none⟩) (n := 1) (c := 1) (by rw [hw1]; exact one_sl w _) (fun k ⟨ad, h1, h2⟩ => by
    cases h1
    have := hW.ne k
    refine ⟨by have : w.heap.size = k := h2; omega, fun hb => ?_⟩
    have h3 := this hb
    have : w.heap.size = k := h2
    omega) (fun k ⟨ad, h1, h2⟩ => by
    cases h1
    have : w.heap.size = k := h2
    rw [hw1]; simp; omega) (by decide) (by omega) (fun z hz => by
    simp only [List.mem_cons, List.not_mem_nil, or_false] at hz
    subst hz
    omega))
  rw [show nB [(n : Int)] = vl n by simp [nB]] at HN
  have HAl := Lib.hid hal
  have HS := Lib.hid h
  have HW := Lib.hid hW
  have HLt := Lib.hid hlt
  have HL := Lib.hid hl
  have HV : Hid ((vl n).length ≤ 8) := Lib.hid (by rw [vl_length]; exact (szN_pos n).2)
  clear hal h hW hW1 hlt hl
  go_enter Try.func31, Try.ntmps31
  go_wp2_with fail
  rw [← hw1]
  clear hw1
  refine HN.out.mono ?_
  rintro e w2 ⟨rfl, ba2, bc2, hW2, hk2, hn2⟩
  have hk02 : Kept (fun k => k = g ∨ blk ba k) w w2 := (Kept.of_below (X := fun k => k = g ∨ blk ba k) HAl.out).trans hk2 (fun _ _ h => h)
  have hn02 : ∀ k, blk ba2 k → blk ba k ∨ w.heap.size ≤ k := fun k hk => by
    rcases hn2 k hk with h1 | h1
    · exact .inl h1
    · exact .inr (by have := HAl.out.size; omega)
  have hS2 : Sl w2 a n c (bv l) := HS.out.kept hk02 (fun ad ha e => by
    have h1 := HLt.out ad.block ⟨ad, ha, rfl⟩
    rcases e with e | e
    · omega
    · have := HW.out.ne _ e; omega)
  have hbb : (b ++ vl n).length ≤ 1000000000 := by rw [List.length_append]; have := HV.out; omega
  obtain ⟨ba3, bc3, w3, hr3, c3, f3, hW3, hk3, hn3⟩ := hW2.app (tyo := 22) hS2 (by omega)
  have hc2 := hW2.has.cell 0 rfl
  have HW3 : Hid (WB (w3.setCell ⟨g, 0, none⟩ (.slice ba3 ((b ++ vl n).length + n) bc3)) g (b ++ (vl n ++ l)) ba3 bc3) := Lib.hid (by rw [← List.append_assoc]; exact hW3)
  have HK3 := Lib.hid (hk02.wr hk3 hn02)
  have HN3 : Hid (∀ k, blk ba3 k → blk ba k ∨ w.heap.size ≤ k) := Lib.hid (fun k hk => by
    rcases hn3 k hk with h1 | h1
    · exact hn02 k h1
    · exact .inr (by have := hk02.size; omega))
  obtain ⟨bn, hbn⟩ : ∃ bn, bn = (b ++ vl n).length := ⟨_, rfl⟩
  rw [← hbn] at hr3 c3 hc2 HW3 HK3
  clear hW2 hk2 hn2 hk02 hn02 hS2 hbb hW3 hk3 hn3 hbn
  go_wp2_with (at_builtin; refine Lib.wpList_append_run _ rfl _ _ _ _ rfl (.slice ba2 bn bc2) (.slice a n c) rfl rfl _ _ hr3 ?_)
  (try simp only [Exit.inBlock, Exit.then]); refine bodyPost_ret (results_none rfl _ _ _) rfl ?_
  exact ⟨rfl, ba3, bc3, HW3.out, HK3.out, HN3.out⟩
end Go.Proofs.Ytppkilkfmclpkaa

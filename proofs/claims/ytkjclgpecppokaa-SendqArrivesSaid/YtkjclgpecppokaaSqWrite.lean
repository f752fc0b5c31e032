/- Contracts of slices.Clone and of the queue's Write. -/
import Derived.Test.YtkjclgpecppokaaSqPick
import Derived.Test.YtkjclgpecppokaaMix
namespace Go.Proofs.Ytkjclgpecppokaa
open Go.RowKit

set_option maxRecDepth 100000 in
theorem clone_any (w : World) {a : Option Addr} {n c : Nat} {l : List UInt8} (h : Sl w a n c (bv l)) (hn : n ≤ 140737488351232) :
    Calls Try.prog 25 #[.slice a n c] w fun e w' => ∃ a' c', e = .returned (.slice a' n c') ∧ w'.ownsRow w.heap.size 5 1 (.slice a' n c') n (bv l) ∧ Below w.heap.size w w' := by
  cases a with
  | none =>
    have hc := h.nil rfl
    subst hc
    have hn0 : n = 0 := by have := h.cap_le; omega
    subst hn0
    obtain rfl : l = [] := List.eq_nil_of_length_eq_zero h.byte
    have hq : ∀ w, (binOp .eql 27 (.slice none 0 0) (.slice none 0 0)).run Try.prog w = .ok (.bool true) w := fun w => Lib.run_eql_slice_nil w _ _ none 0 0 0 0 Try.underlying27
    go_enter Try.func25, Try.ntmps25
    go_wp2
    go_ret
    exact ⟨none, 0, rfl, World.ownsRow_nil _ _ _ _, Below.refl _ _⟩
  | some ad =>
    have hb0 : Below w.heap.size w (w.alloc (.cells #[] 5)) := (Below.refl _ w).alloc (Nat.le_refl _) _
    have ho0 : (w.alloc (.cells #[] 5)).ownsRow w.heap.size 5 1 (.slice (some ⟨w.heap.size, 0, none⟩) 0 0) 0 [] := ⟨rfl, .inr ⟨_, 0, #[], rfl, Nat.le_refl _, heap_alloc_new w _, Nat.le_refl _, by decide, rfl, rfl⟩⟩
    have hs0 := h.below hb0
    obtain ⟨a', c', w2, hr, ho2, hg2, _⟩ := run_app_own (tyo := 27) tyU8 (B := w.heap.size) ho0 hs0 (bv_one l) (by omega) (by unfold maxLen; omega) (by simp)
    simp only [Nat.zero_add, List.nil_append] at hr ho2
    have hb2 : Below w.heap.size w w2 := hb0.grown hg2 (by simp) (fun k hk => by cases hk; exact Nat.le_refl _)
    have hq : ∀ w, (binOp .eql 27 (.slice (some ad) n c) (.slice none 0 0)).run Try.prog w = .ok (.bool false) w := fun w => Lib.run_eql_slice_nil w _ _ (some ad) n c 0 0 Try.underlying27
    clear hs0 ho0 hg2
    go_enter Try.func25, Try.ntmps25
    go_wp2_with (at_builtin; refine Lib.wpList_append_run _ rfl _ _ _ _ rfl _ _ rfl rfl _ _ hr ?_)
    go_wp2
    go_ret
    exact ⟨a', c', rfl, ho2, hb2⟩

/-- what Write does -/
def Wrote (F : Nat → Prop) (w : World) (g : Nat) (q : Qu) (l : List UInt8) (e : Ending) (w' : World) : Prop :=
  e = .returned (.tuple #[.int .i64 (q.took l : Int), .int .i64 q.werr]) ∧ Kept F w w' ∧ QAt (Fat F w w') w' g (q.write l)

theorem own_len {w : World} {B e s : Nat} {v : Value} {n m : Nat} {xs : List Value} (h : w.ownsRow B e s v n xs) (hm : m = n) : w.ownsRow B e s v m xs := by subst hm; exact h
theorem bv_zeros (n : Nat) : List.replicate n (Value.int .u8 0) = bv (List.replicate n 0) := by simp [bv]
theorem newOr_at {w : World} {a1 : Option Addr} {n1 c1 : Nat} {a2 : Option Addr} {n2 c2 : Nat} (h : NewOr w (.slice a1 n1 c1) (.slice a2 n2 c2)) {ad : Addr} (ha : a2 = some ad) : (∃ x, a1 = some x ∧ x.block = ad.block) ∨ w.heap.size ≤ ad.block := by
  subst ha
  rcases h ad.block rfl with h | h
  · cases a1 with
    | none => cases h
    | some x => exact .inl ⟨x, rfl, by simpa [Value.ownBlock] using h⟩
  · exact .inr h
theorem blk_ne {a1 : Option Addr} {n c g : Nat} (h : ∀ ad, a1 = some ad → ad.block ≠ g) : Value.ownBlock (.slice a1 n c) ≠ some g := by
  cases a1 with
  | none => simp [Value.ownBlock]
  | some ad => intro he; exact h ad rfl (by simpa [Value.ownBlock] using he)

set_option maxRecDepth 100000 in
set_option maxHeartbeats 1000000 in
theorem write_any (w : World) {F : Nat → Prop} {g : Nat} {q : Qu} (h : QAt F w g q) (hq : q.Ok) {a : Option Addr} {n c : Nat} {l : List UInt8} (hs : Sl w a n c (bv l)) :
    Calls Try.prog 16 #[.pointer (some ⟨g, 0, none⟩), .slice a n c] w (Wrote F w g q l) := by
  have hQ := h
  have hl := hs.byte
  obtain ⟨da, dc, sa, sc, hb, F1, F2, F3⟩ := h
  have c5 := hb.has.cell 5 rfl
  by_cases hf : q.fin = true
  · rw [hf] at c5
    have HT : Hid (q.took l = 0) := Lib.hid (by unfold Qu.took; rw [if_pos hf])
    have HE : Hid (q.werr = 40) := Lib.hid (by unfold Qu.werr; rw [if_pos hf])
    clear hf hQ hq hl
    go_enter Try.func16, Try.ntmps16
    go_wp2
    go_ret2
    refine ⟨by rw [HT.out, HE.out]; rfl, Kept.refl _ _, ?_⟩
    have : q.write l = q := by unfold Qu.write; rw [HT.out]; simp
    rw [this]
    exact ⟨da, dc, sa, sc, hb, .inl F1, fun ad h => .inl (F2 ad h), fun ad h => .inl (F3 ad h)⟩
  · have hf' : q.fin = false := by simpa using hf
    rw [hf'] at c5
    have HT : Hid (q.took l = min l.length (q.room - q.data.length)) := Lib.hid (by unfold Qu.took; rw [if_neg hf])
    have HE : Hid (q.werr = 0) := Lib.hid (by unfold Qu.werr; rw [if_neg hf])
    have HL := Lib.hid hl
    have hR := room_any w hQ hq
    have hlen := hq.len
    have hfit := hq.fit
    have hroom := hq.room2
    have HLn := Lib.hid hlen
    have b1 : q.st.length ≤ 65536 := by omega
    have b2 : q.data.length ≤ 65536 := by omega
    obtain ⟨m, hm⟩ : ∃ m : Nat, m = min n (q.room - q.data.length) := ⟨_, rfl⟩
    have hmn : m ≤ n := by omega
    have hm2 : m ≤ 65536 := by omega
    have hmin : min (n : Int) ((q.room : Int) - (q.data.length : Int)) = (m : Int) := by omega
    have HM : Hid (q.took l = m) := Lib.hid (by rw [HT.out, hm, hl])
    have HR := Lib.hid hR
    clear hf hf' hQ hl hR hm hlen hq
    have hnm : (m : Int) ≤ (n : Int) := by omega
    have hncap : (n : Int) ≤ (c : Int) := by have := hs.cap_le; omega
    have hcm : (c : Int) ≤ 9223372036854775807 := by have := hs.cap_max; unfold maxLen at this; omega
    go_enter Try.func16, Try.ntmps16
    go_wp2_with fail
    refine HR.out.mono ?_
    rintro e w1 ⟨rfl, hb1⟩
    go_wp2_with fail
    have hd : Below w1.heap.size w1 w1.drew := ⟨rfl, rfl, rfl, Nat.le_refl _, fun _ _ => rfl⟩
    have B1 : Below w.heap.size w w1.drew := hb1.trans (hd.mono hb1.size)
    have q1 := hb.below B1
    have s1 := sl_take (hs.below B1) (k := m) hmn
    rw [← bv_take] at s1
    have d3 := q1.has.cell 3 rfl
    obtain ⟨a2, c2, w2, hr, ho2, hg2, hno⟩ := run_app_own (tyo := 27) tyU8 (B := 0) q1.d s1 (bv_one _) (by omega) (by unfold maxLen; omega) (Nat.zero_le _)
    have hk2 := Kept.of_grown hg2
    have H2 := q1.has.kept hk2 (fun e => blk_ne q1.dg e)
    have S2 := own_kept' q1.s hk2 (fun ad ha e => by
      cases hda : da with
      | none => rw [hda] at e; cases e
      | some x => rw [hda] at e; exact q1.ds x ad hda ha (by simpa [Value.ownBlock] using e))
    have d3' := H2.cell 3 rfl
    have f3' := H2.free 3
    refine Mix.regionX [19] (fun _ => True) (by kernel_rfl) (by kernel_rfl) trivial ?_
    repeat (first | (refine Mix.skip rfl ?_) | (refine Mix.pure rfl rfl ?_; intro K hK; go_big_quiet_op; go_big_quiet_on))
    refine Mix.isLoud rfl rfl ?_
    go_wp2_with fail
    repeat (first | (refine Mix.skip rfl ?_) | (refine Mix.pure rfl rfl ?_; intro K hK; go_big_quiet_op; go_big_quiet_on))
    refine Mix.isLoud rfl rfl ?_
    go_wp2_with (at_builtin; refine Lib.wpList_append_run _ rfl _ _ _ _ rfl (.slice da q.data.length dc) (.slice a m c) rfl rfl _ _ hr ?_)
    repeat (first | (refine Mix.skip rfl ?_) | (refine Mix.pure rfl rfl ?_; intro K hK; go_big_quiet_op; go_big_quiet_on))
    refine Mix.isLoud rfl rfl ?_
    go_wp2_with fail
    refine Mix.nil ?_
    clear hr
    have hg1 : g < w1.drew.heap.size := q1.has.lt
    have ag : ∀ ad, a2 = some ad → ad.block ≠ g := fun ad ha => by
      rcases newOr_at hno ha with ⟨x, hx, e⟩ | e
      · rw [← e]; exact q1.dg x hx
      · omega
    have ads : ∀ ad ad', a2 = some ad → sa = some ad' → ad.block ≠ ad'.block := fun ad ad' ha ha' => by
      rcases newOr_at hno ha with ⟨x, hx, e⟩ | e
      · rw [← e]; exact q1.ds x ad' hx ha'
      · have := own_at q1.s ha'; omega
    have k3 := Kept.set w2 g 3 (.slice a2 (q.data.length + m) c2)
    have H3 := H2.set 3 (.slice a2 (q.data.length + m) c2)
    have S3 := own_kept' S2 k3 (fun ad ha e => q1.sg ad ha e)
    have D3 := own_kept' ho2 k3 (fun ad ha e => ag ad ha e)
    obtain ⟨a3, c3, w4, hr4, ho4, hg4, hno4⟩ := run_app_zeros (tyo := 27) (tn := 3) (kq := .i64) (n2 := m) tyU8 Try.underlying3 rfl rfl S3 (by omega) (by unfold maxLen; omega) (Nat.zero_le _)
    have k4 := Kept.of_grown hg4
    have H4 := H3.kept k4 (fun e => blk_ne q1.sg e)
    have D4 := own_kept' D3 k4 (fun ad ha e => by
      cases hsa : sa with
      | none => rw [hsa] at e; cases e
      | some x => rw [hsa] at e; exact ads ad x ha hsa (by simpa [Value.ownBlock] using e.symm))
    have e4 := H3.cell 4 rfl
    have e4' := H4.cell 4 rfl
    have f4' := H4.free 4
    have z3 := k3.size
    have z2 := hk2.size
    have z4 := k4.size
    generalize w2.setCell ⟨g, 3, none⟩ (.slice a2 (q.data.length + m) c2) = w3 at *
    go_wp2_with (at_builtin; refine Lib.wpList_append_run _ rfl _ _ _ _ rfl (.slice sa q.st.length sc) (.int .i64 (m : Int)) rfl rfl _ _ hr4 ?_)
    go_ret2
    have k5 := Kept.set w4 g 4 (.slice a3 (q.st.length + m) c3)
    have ag3 : ∀ ad, a3 = some ad → ad.block ≠ g := fun ad ha => by
      rcases newOr_at hno4 ha with ⟨x, hx, e⟩ | e
      · rw [← e]; exact q1.sg x hx
      · omega
    have hml : (l.take m).length = m := by rw [List.length_take, HL.out]; omega
    have eD : (q.write l).data = q.data ++ l.take m := by unfold Qu.write; rw [HM.out]
    have eS : (q.write l).st = q.st ++ List.replicate m 0 := by unfold Qu.write; rw [HM.out]
    have lD : (q.write l).data.length = q.data.length + m := by rw [eD, List.length_append, hml]
    have lS : (q.write l).st.length = q.st.length + m := by rw [eS]; simp
    have D5 := own_kept' D4 k5 (fun ad ha e => ag ad ha e)
    have S5 := own_kept' ho4 k5 (fun ad ha e => ag3 ad ha e)
    have H5 := H4.set 4 (.slice a3 (q.st.length + m) c3)
    refine ⟨by rw [HM.out, HE.out]; rfl, ?_, a2, c2, a3, c3, ⟨?_, ?_, ?_, ag, ag3, fun ad ad' ha ha' => ?_⟩, .inl F1, fun ad ha => ?_, fun ad ha => ?_⟩
    · have K1 : Kept F w w1.drew := Kept.of_below B1
      have K2 := K1.trans hk2 (fun k _ e => by
        cases hda : da with
        | none => rw [hda] at e; cases e
        | some x => rw [hda] at e; simp only [Value.ownBlock, Option.some.injEq] at e; rw [← e]; exact F2 x hda)
      have K3 := K2.trans k3 (fun k _ e => by rw [e]; exact F1)
      have K4 := K3.trans k4 (fun k _ e => by
        cases hsa : sa with
        | none => rw [hsa] at e; cases e
        | some x => rw [hsa] at e; simp only [Value.ownBlock, Option.some.injEq] at e; rw [← e]; exact F3 x hsa)
      exact K4.trans k5 (fun k _ e => by rw [e]; exact F1)
    · have e : qcells (q.write l) a2 c2 a3 c3 = ((qcells q da dc sa sc).set 3 (.slice a2 (q.data.length + m) c2)).set 4 (.slice a3 (q.st.length + m) c3) := by
        unfold qcells
        rw [lD, lS]
        rfl
      rw [e]
      exact H5
    · rw [lD, eD, bv_append]; exact D5
    · rw [lS, eS, bv_append, ← bv_zeros]; exact S5
    · rcases newOr_at hno4 ha' with ⟨x, hx, e⟩ | e
      · rw [← e]; exact ads ad x ha hx
      · have := own_at D3 ha; omega
    · rcases newOr_at hno ha with ⟨x, hx, e⟩ | e
      · rw [← e]; exact .inl (F2 x hx)
      · exact .inr ⟨by have := B1.size; omega, own_at D5 ha⟩
    · rcases newOr_at hno4 ha with ⟨x, hx, e⟩ | e
      · rw [← e]; exact .inl (F3 x hx)
      · exact .inr ⟨by have := B1.size; omega, own_at S5 ha⟩
end Go.Proofs.Ytkjclgpecppokaa

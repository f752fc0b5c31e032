/- Contract of slices.Delete at a row's head. -/
import Derived.Test.YtkjclgpecppokaaSqNext3
namespace Go.Proofs.Ytkjclgpecppokaa
open Go.RowKit

theorem own_cut {w : World} {B e g : Nat} {n c : Nat} {xs : List Value} (h : w.ownsRow B e 1 (.slice (some ⟨g, 0, none⟩) n c) n xs) {k : Nat} (hk : k ≤ n) : w.ownsRow B e 1 (.slice (some ⟨g, 0, none⟩) k c) k (xs.take k) := by
  have hl := h.1
  refine ⟨by rw [List.length_take]; omega, ?_⟩
  rcases h.2 with ⟨hv, _⟩ | ⟨g', cap, cur, hv, hB, hg, hnc, hcm, hcs, ht⟩
  · simp at hv
  · simp only [Value.slice.injEq, true_and, Option.some.injEq, Addr.mk.injEq, and_true] at hv
    obtain ⟨rfl, rfl⟩ := hv
    refine .inr ⟨g, c, cur, rfl, hB, hg, by omega, hcm, hcs, ?_⟩
    rw [← ht, List.take_take]
    congr 1
    omega
theorem own_setCells {e g : Nat} {B n c : Nat} {xs : List Value} : ∀ (vs : List Value) (o : Nat) (w : World), w.ownsRow B e 1 (.slice (some ⟨g, 0, none⟩) n c) n xs → n ≤ o → (w.setCells g o vs).ownsRow B e 1 (.slice (some ⟨g, 0, none⟩) n c) n xs
  | [], _, _, h, _ => h
  | v :: r, o, w, h, ho => by
    unfold World.setCells
    have hl := h.1
    have h1 := own_set h o v
    rw [List.set_eq_of_length_le (by omega)] at h1
    exact own_setCells r (o + 1) _ h1 (by omega)
theorem kept_setCells {g : Nat} : ∀ (vs : List Value) (o : Nat) (w : World), Kept (fun k => k = g) w (w.setCells g o vs)
  | [], _, w => Kept.refl _ w
  | v :: r, o, w => by
    unfold World.setCells
    exact (Kept.set w g o v).trans (kept_setCells r (o + 1) _) (fun _ _ h => h)
theorem own_there {w : World} {B e g : Nat} {n c : Nat} {xs : List Value} (h : w.ownsRow B e 1 (.slice (some ⟨g, 0, none⟩) n c) n xs) (j : Nat) (hj : j < c) : (w.cell? ⟨g, j, none⟩).isSome = true ∧ w.frozen? ⟨g, j, none⟩ = false := by
  rcases h.2 with ⟨hv, _⟩ | ⟨g', cap, cur, hv, hB, hg, hnc, hcm, hcs, ht⟩
  · simp at hv
  · simp only [Value.slice.injEq, true_and, Option.some.injEq, Addr.mk.injEq, and_true] at hv
    obtain ⟨rfl, rfl⟩ := hv
    rw [cell_of_row w g j cur e (0, 0) hg]
    refine ⟨?_, by simp [World.frozen?, hg]⟩
    have : j < cur.size := by omega
    simp [this]
theorem run_app_here {P : Program} {t e : TypeId} {z : Value} {bytes : Nat} (ty : ETy P t e z bytes) {B : Nat} {w : World} {tyo : TypeId} {g n1 c1 : Nat} {xs1 : List Value} {ad : Addr} {n2 c2 : Nat} {xs2 : List Value}
    (hown : w.ownsRow B e 1 (.slice (some ⟨g, 0, none⟩) n1 c1) n1 xs1) (h2 : Sl w (some ad) n2 c2 xs2) (h1 : ∀ u ∈ xs2, u.oneCell' = true) (hroom : n1 + n2 ≤ c1) :
    ∃ w', (Builtin.append_ #[t, t] tyo #[.slice (some ⟨g, 0, none⟩) n1 c1, .slice (some ad) n2 c2]).run P w = .ok (.slice (some ⟨g, 0, none⟩) (n1 + n2) c1) w' ∧
      w'.ownsRow B e 1 (.slice (some ⟨g, 0, none⟩) (n1 + n2) c1) (n1 + n2) (xs1 ++ xs2) ∧ Kept (fun k => k = g) w w' := by
  obtain ⟨i, hi, hz, hsize, hby⟩ := ty.ex
  have hnews : ∀ j u, xs2[j]? = some u → w.cell? (ad.add j) = some u := by
    intro j u hu
    have hj : j < n2 := by have := (List.getElem?_eq_some_iff.1 hu).1; have := h2.len; omega
    obtain ⟨b, off, hab, hc⟩ := h2.cells (by omega)
    simp only [Option.some.injEq] at hab
    subst hab
    have := hc j hj
    rw [hu] at this
    rw [← this, addr_add]
  have hl2 : xs2.length = n2 * 1 := by simpa using h2.len
  have hl1 := hown.1
  rcases hown.2 with ⟨hv, _⟩ | ⟨g', cap, cur, hv, hbg, hg, hnc, hcm, hcs, htake⟩
  · simp at hv
  · simp only [Value.slice.injEq, true_and, Option.some.injEq, Addr.mk.injEq, and_true] at hv
    obtain ⟨rfl, rfl⟩ := hv
    have hfit : n1 * i.size + xs2.length ≤ cur.size := by rw [hl2, hcs, hsize]; omega
    have hr2 := run_append_room (P := P) w t tyo e i ty.ht hi g n1 c1 cur hg ad n2 c2 xs2 (by rw [hsize]; exact hl2) hnews h1 hroom hfit
    refine ⟨_, hr2, ⟨by rw [List.length_append]; omega, .inr ⟨g, c1, _, rfl, hbg, setRow_heap w g cur _ e _ hg, hroom, hcm, ?_, ?_⟩⟩, ⟨rfl, rfl, rfl, by simp, fun k _ hk => setRow_other w g k _ hk⟩⟩
    · simp only [List.size_toArray, List.length_append, List.length_take, List.length_drop, Array.length_toList]
      omega
    · rw [hsize, htake]
      have hl : (xs1 ++ xs2).length = (n1 + n2) * 1 := by rw [List.length_append]; omega
      rw [← hl]
      exact List.take_left

/-- what Delete(s, 0, k) does: the row's first k are gone, in place -/
def Deleted (w : World) (a : Option Addr) (n c k : Nat) (xs : List Value) (e : Ending) (w' : World) : Prop :=
  e = .returned (.slice a (n - k) c) ∧ w'.ownsRow 0 5 1 (.slice a (n - k) c) (n - k) (xs.drop k) ∧ Kept (fun j => ∃ ad, a = some ad ∧ j = ad.block) w w'

set_option maxRecDepth 100000 in
set_option maxHeartbeats 1000000 in
theorem delete_any (w : World) {a : Option Addr} {n c : Nat} {l : List UInt8} (h : w.ownsRow 0 5 1 (.slice a n c) n (bv l)) (k : Nat) (hk : k ≤ n) :
    Calls Try.prog 31 #[.slice a n c, .int .i64 0, .int .i64 (k : Int)] w (Deleted w a n c k (bv l)) := by
  have hs := own_sl h
  have hnc : (n : Int) ≤ (c : Int) := by have := hs.cap_le; omega
  have hcm : (c : Int) ≤ 9223372036854775807 := by have := hs.cap_max; unfold maxLen at this; omega
  have hkn : (k : Int) ≤ (n : Int) := by omega
  by_cases hk0 : k = 0
  · subst hk0
    go_enter Try.func31, Try.ntmps31
    go_wp2
    go_ret
    exact ⟨rfl, by simpa using h, Kept.refl _ _⟩
  · obtain ⟨g, rfl, _, _, _, _⟩ := own_cell h (i := 0) (by omega)
    have h0 := own_cut h (Nat.zero_le n)
    rw [List.take_zero] at h0
    have kd := Kept.drew none' w
    have h0 := own_kept' h0 kd (fun _ _ h => h)
    have hz : ((0 : Int) == (k : Int)) = false := by rw [beq_eq_false_iff_ne]; omega
    have hkp : (0 : Int) < (k : Int) := by omega
    by_cases hck : k < c
    · have hs2 := sl_drop hs (k := k) (by omega)
      rw [Nat.zero_add] at hs2
      have hs2 := hs2.below (w' := w.drew) ⟨rfl, rfl, rfl, Nat.le_refl _, fun _ _ => rfl⟩
      obtain ⟨w2, hr, ho2, hk2⟩ := run_app_here (tyo := 27) tyU8 h0 hs2 (fun u hu => bv_one l u (List.mem_of_mem_drop hu)) (by omega)
      simp only [Nat.zero_add, List.nil_append] at hr ho2
      have hck' : (k : Int) < (c : Int) := by omega
      clear hs hs2 h0
      go_enter Try.func31, Try.ntmps31
      go_wp2_with fail
      refine Mx.region [] (fun _ => True) (by kernel_rfl) (by kernel_rfl) trivial ?_
      repeat ((first | (refine Mx.skips (by kernel_rfl) ?_; go_big_quiet_skip) | (refine Mx.quietly rfl ?_; go_big_quiet_want; go_big_quiet_op; go_big_quiet_on)); refine Mx.done ?_)
      refine Mx.loudly (by kernel_rfl) (by kernel_rfl) ?_
      go_wp2_with (at_builtin; refine Lib.wpList_append_run _ rfl _ _ _ _ rfl (.slice (some ⟨g, 0, none⟩) 0 c) (.slice (some ⟨g, k, none⟩) (n - k) (c - k)) rfl rfl _ _ hr ?_)
      repeat ((first | (refine Mx.skips (by kernel_rfl) ?_; go_big_quiet_skip) | (refine Mx.quietly rfl ?_; go_big_quiet_want; go_big_quiet_op; go_big_quiet_on)); refine Mx.done ?_)
      refine Mx.nil ?_
      have hth := own_there ho2
      have hcl : ∀ ty, (Builtin.clear_ #[27] ty #[.slice (some ⟨g, n - k, none⟩) k (c - (n - k))]).run Try.prog w2 = .ok (.tuple #[]) (w2.setCells g (n - k) (List.replicate k (.int .u8 0))) := fun ty =>
        Lib.run_clear_slice w2 27 5 ty (.int .u8 0) Try.underlying27 Try.zeroValue5 rfl rfl g (n - k) k (c - (n - k)) (by omega) (fun j hj => hth _ (by omega) |>.1) (fun j hj => hth _ (by omega) |>.2)
      have ho3 := own_setCells (List.replicate k (.int .u8 0)) (n - k) w2 ho2 (Nat.le_refl _)
      have hk3 := (Kept.trans (Y := fun k => k = g) (kd.more (fun _ _ h => h.elim)) hk2 (fun j _ e => e)).trans (kept_setCells (List.replicate k (.int .u8 0)) (n - k) w2) (fun j _ e => e)
      have hb1 : ((n - k : Nat) : Int) < (c : Int) := by omega
      have hb2 : ((n - k : Nat) : Int) ≤ (n : Int) := by omega
      have hb3 : (n : Int) - ((n - k : Nat) : Int) = (k : Int) := by omega
      have hb4 : n - (n - k) = k := by omega
      go_wp2
      go_ret
      exact ⟨rfl, by rw [← bv_drop]; rw [← bv_drop] at ho3; exact ho3, hk3.more (fun j _ e => ⟨_, rfl, e⟩)⟩
    · obtain rfl : n = k := by omega
      obtain rfl : c = n := by have := hs.cap_le; omega
      have hs2 : Sl w.drew (some ⟨g, 0, none⟩) 0 0 [] := ⟨rfl, Nat.le_refl _, by decide, by simp, fun h => absurd h (Nat.lt_irrefl _)⟩
      obtain ⟨w2, hr, ho2, hk2⟩ := run_app_here (tyo := 27) tyU8 h0 hs2 (by simp) (by omega)
      simp only [Nat.add_zero, List.append_nil] at hr ho2
      clear hs hs2 h0
      go_enter Try.func31, Try.ntmps31
      go_wp2_with fail
      refine Mx.region [] (fun _ => True) (by kernel_rfl) (by kernel_rfl) trivial ?_
      repeat ((first | (refine Mx.skips (by kernel_rfl) ?_; go_big_quiet_skip) | (refine Mx.quietly rfl ?_; go_big_quiet_want; go_big_quiet_op; go_big_quiet_on)); refine Mx.done ?_)
      refine Mx.loudly (by kernel_rfl) (by kernel_rfl) ?_
      go_wp2_with (at_builtin; refine Lib.wpList_append_run _ rfl _ _ _ _ rfl (.slice (some ⟨g, 0, none⟩) 0 c) (.slice (some ⟨g, 0, none⟩) 0 0) rfl rfl _ _ hr ?_)
      repeat ((first | (refine Mx.skips (by kernel_rfl) ?_; go_big_quiet_skip) | (refine Mx.quietly rfl ?_; go_big_quiet_want; go_big_quiet_op; go_big_quiet_on)); refine Mx.done ?_)
      refine Mx.nil ?_
      have hth := own_there ho2
      have hcl : ∀ ty, (Builtin.clear_ #[27] ty #[.slice (some ⟨g, 0, none⟩) c c]).run Try.prog w2 = .ok (.tuple #[]) (w2.setCells g 0 (List.replicate c (.int .u8 0))) := fun ty =>
        Lib.run_clear_slice w2 27 5 ty (.int .u8 0) Try.underlying27 Try.zeroValue5 rfl rfl g 0 c c (by omega) (fun j hj => hth _ (by omega) |>.1) (fun j hj => hth _ (by omega) |>.2)
      have ho3 := own_setCells (List.replicate c (.int .u8 0)) 0 w2 ho2 (Nat.le_refl _)
      have hk3 := (Kept.trans (Y := fun k => k = g) (kd.more (fun _ _ h => h.elim)) hk2 (fun j _ e => e)).trans (kept_setCells (List.replicate c (.int .u8 0)) 0 w2) (fun j _ e => e)
      go_wp2
      go_ret
      have hd : (bv l).drop c = [] := List.drop_eq_nil_of_le (by have := h.1; omega)
      exact ⟨by simp, by rw [Nat.sub_self, hd]; exact ho3, hk3.more (fun j _ e => ⟨_, rfl, e⟩)⟩
end Go.Proofs.Ytkjclgpecppokaa

/- Contract of varint.Put. No condition. -/
import Derived.Test.YtppkilkfmclpkaaVnBack
import Derived.Test.YtppkilkfmclpkaaVnRef
namespace Go.Proofs.Ytppkilkfmclpkaa
open Go.RowKit Go.Shelf

attribute [local go_sem] Oper.semAt_some

theorem own_kept' {X : Nat → Prop} {w w' : World} {B e s : Nat} {a : Option Addr} {n c : Nat} {xs : List Value} (h : w.ownsRow B e s (.slice a n c) n xs) (hk : Kept X w w') (hx : ∀ ad, a = some ad → ¬ X ad.block) : w'.ownsRow B e s (.slice a n c) n xs :=
  own_kept h hk (fun k hk => by cases a with | none => cases hk | some ad => cases hk; exact hx ad rfl)
/-- bytes and an error's number, the bytes in fresh memory -/
def RetBE (B : Nat) (w : World) (r : List UInt8 × Int) (e : Ending) (w' : World) : Prop :=
  ∃ a c, e = .returned (.tuple #[.slice a r.1.length c, .int .i64 r.2]) ∧ w'.ownsRow B 5 1 (.slice a r.1.length c) r.1.length (bv r.1) ∧ Below w.heap.size w w'
/-- what the loop has written when the rounds xs are over, and what is left of the number -/
def stF (s N : Nat) (xs : List (Fin s × Int)) : List Value × Nat := xs.foldl (fun st x => (st.1.set x.1.val (.int .u8 ((st.2 % 256 : Nat) : Int)), st.2 / 256)) (bv (List.replicate s 0), N)
theorem stF_snoc (s N : Nat) (xs : List (Fin s × Int)) (x : Fin s × Int) : stF s N (xs ++ [x]) = ((stF s N xs).1.set x.1.val (.int .u8 (((stF s N xs).2 % 256 : Nat) : Int)), (stF s N xs).2 / 256) := by simp [stF]
theorem stF_u8 (s N : Nat) (xs : List (Fin s × Int)) : ∀ (j : Nat) (u : Value), (stF s N xs).1[j]? = some u → ∃ x : Int, u = .int .u8 x := by
  have key : ∀ (xs : List (Fin s × Int)) (st : List Value × Nat), (∀ (j : Nat) (u : Value), st.1[j]? = some u → ∃ x : Int, u = .int .u8 x) → ∀ (j : Nat) (u : Value), (xs.foldl (fun st x => (st.1.set x.1.val (.int .u8 ((st.2 % 256 : Nat) : Int)), st.2 / 256)) st).1[j]? = some u → ∃ x : Int, u = .int .u8 x := by
    intro xs
    induction xs with
    | nil => intro st h; exact h
    | cons y r ih =>
      intro st h
      refine ih _ (fun j u hu => ?_)
      simp only at hu
      rw [List.getElem?_set] at hu
      split at hu
      · split at hu
        · simp only [Option.some.injEq] at hu
          exact ⟨_, hu.symm⟩
        · cases hu
      · exact h j u hu
  refine key xs _ (fun j u hu => ?_)
  simp only [bv] at hu
  rw [List.getElem?_map] at hu
  cases hx : (List.replicate s (0 : UInt8))[j]? with
  | none => rw [hx] at hu; cases hu
  | some b => rw [hx] at hu; exact ⟨_, (Option.some.inj hu).symm⟩
theorem stF_len (s N : Nat) (xs : List (Fin s × Int)) : (stF s N xs).1.length = s := by
  have key : ∀ (xs : List (Fin s × Int)) (st : List Value × Nat), (xs.foldl (fun st x => (st.1.set x.1.val (.int .u8 ((st.2 % 256 : Nat) : Int)), st.2 / 256)) st).1.length = st.1.length := by
    intro xs
    induction xs with
    | nil => intro st; rfl
    | cons y r ih => intro st; rw [List.foldl_cons, ih]; simp
  unfold stF
  rw [key]
  simp [bv]
theorem stF_le (s N : Nat) (xs : List (Fin s × Int)) : (stF s N xs).2 ≤ N := by
  have key : ∀ (xs : List (Fin s × Int)) (st : List Value × Nat), (xs.foldl (fun st x => (st.1.set x.1.val (.int .u8 ((st.2 % 256 : Nat) : Int)), st.2 / 256)) st).2 ≤ st.2 := by
    intro xs
    induction xs with
    | nil => intro st; exact Nat.le_refl _
    | cons y r ih => intro st; rw [List.foldl_cons]; exact Nat.le_trans (ih _) (Nat.div_le_self _ _)
  exact key xs _
theorem stF_dn (s N : Nat) : ∀ (k : Nat) (xs : List (Fin s × Int)), k ≤ s → xs.map (fun y => y.1.val) = dn s k → stF s N xs = (bv (List.replicate (s - k) 0 ++ bd k N), N / 256 ^ k)
  | 0, xs, _, h => by
    obtain rfl : xs = [] := by simpa [dn] using h
    simp [stF, bd]
  | k + 1, xs, hk, h => by
    rw [dn_succ] at h
    obtain ⟨l1, l2, rfl, h1, h2⟩ := List.map_eq_append_iff.1 h
    obtain ⟨x, l3, rfl, hx, h3⟩ := List.map_eq_cons_iff.1 h2
    obtain rfl : l3 = [] := by simpa using h3
    rw [stF_snoc, stF_dn s N k l1 (by omega) h1, hx]
    have := bd_set s k N (by omega)
    simp only
    rw [this, Nat.pow_succ, Nat.div_div_eq_div_mul]

/-- the loop's word -/
def PutI (w : World) (nb bx rb s N : Nat) (pre : List (Fin s × Int)) (W : World) : Prop :=
  (W.cell? ⟨nb, 0, none⟩ = some (.int .i64 ((stF s N pre).2 : Int)) ∧ W.frozen? ⟨nb, 0, none⟩ = false ∧ W.cell? ⟨bx, 0, none⟩ = some (.slice (some ⟨rb, 0, none⟩) s s) ∧
    W.ownsRow w.heap.size 5 1 (.slice (some ⟨rb, 0, none⟩) s s) s (stF s N pre).1) ∧ Below w.heap.size w W
theorem row_turn {A B : World} {row : Option Nat} {base e : Nat} {rb n c : Nat} {xs : List Value} (h : A.ownsRow base e 1 (.slice (some ⟨rb, 0, none⟩) n c) n xs) (hg : A.grownBy B row) (hr : ∀ r, row = some r → ∃ o : Obj, A.heap[r]? = some o ∧ o.isCells = false) : B.ownsRow base e 1 (.slice (some ⟨rb, 0, none⟩) n c) n xs := by
  refine own_kept' h (Kept.of_grown hg) (fun ad ha e => ?_)
  simp only [Option.some.injEq] at ha
  subst ha
  obtain ⟨o, ho, hc⟩ := hr rb e
  rcases h.2 with ⟨hv, _⟩ | ⟨g, cap, cur, hv, _, hgc, _⟩
  · simp at hv
  · simp only [Value.slice.injEq, Option.some.injEq, Addr.mk.injEq, and_true, true_and] at hv
    obtain ⟨rfl, _⟩ := hv
    rw [hgc] at ho
    cases ho
    exact Bool.noConfusion hc
theorem putI_own (w : World) (nb bx rb s N B : Nat) (hB : w.heap.size ≤ B) : OwnFrom B (PutI w nb bx rb s N) :=
  OwnFrom.and (Own.from (fun _ _ _ _ hs hg hr => ⟨cell_kept hs.1 hg hr, (frozen_kept hs.1 hg hr).trans hs.2.1, cell_kept hs.2.2.1 hg hr, row_turn hs.2.2.2 hg hr⟩) _) (ownFrom_below (Nat.le_refl _) hB)

set_option maxRecDepth 100000 in
set_option maxHeartbeats 4000000 in
theorem put_0 (w : World) (n : Nat) (h : n < 4611686018427387904) (hs : szN n = 1) (hc : clN n = 0) : Calls Try.prog 47 #[.int .i64 (n : Int)] w (RetBE w.heap.size w (vl n, 0)) := by
  have HC := Lib.hid (class_any w n h)
  have HCl := Lib.hid hc
  have HSz := Lib.hid hs
  have HCa : Hid (∀ w', Calls Try.prog 59 #[.int .i64 (n : Int)] w' (IntOf w' 0)) := Lib.hid (fun w' => by have := class_any w' n h; rwa [hc] at this)
  clear hs hc
  obtain ⟨i, hi, hz, hsize, hby⟩ := tyU8.ex
  refine (callsIn_wide (n := 8)).1 ?_
  refine callsIn_of_wp_marks Try.func47 rfl trivial ?_ rfl
  simp only [Try.ntmps47, List.size_toArray, List.length_cons, List.length_nil, Nat.reduceAdd, Nat.reduceSub, Array.replicate_succ, Array.replicate_zero, List.push_toArray, List.append_toArray, List.nil_append, List.cons_append]
  gi_wp2_with (first | (refine ⟨trivial, ?_⟩; gi_at_call 59; refine (callsIn_wide.2 (HCa.out _)).mono ?_; rintro e w2 ⟨rfl, hb2⟩; obtain ⟨w3, hmk, ho3, hg3⟩ := run_make_full (P := Try.prog) w2 w2.heap.size 22 5 i (.int .u8 0) 1 tyU8.ht hi hz hsize .i64 .i64 1 (by rw [hby]; decide) (by decide) (Nat.le_refl _); have hmk2 : (Instr.makeSlice 22 (.int .i64 1) (.int .i64 1)).run Try.prog w2 = .ok (.slice (some ⟨w2.heap.size, 0, none⟩) 1 1) w3 := hmk; clear hmk) | (refine ⟨trivial, ?_⟩; gi_at_call 60; refine (back_in Fence.wide _ trivial rfl _ _ _ _).mono ?_; rintro e w' ⟨rfl, rfl⟩))
  obtain ⟨w1, hw1⟩ : ∃ w1, w1 = w.alloc (.cells #[.int .i64 (n : Int)] 3) := ⟨_, rfl⟩
  rw [← hw1] at hb2
  obtain ⟨w4, hw4⟩ : ∃ w4, w4 = w3.alloc (.cells #[.slice (some ⟨w2.heap.size, 0, none⟩) 1 1] 22) := ⟨_, rfl⟩
  obtain ⟨w5, hw5⟩ : ∃ w5, w5 = w4.alloc (.cells #[.slice (some ⟨w2.heap.size, 0, none⟩) 1 1] 22) := ⟨_, rfl⟩
  obtain ⟨rb, hrb⟩ : ∃ rb, rb = w2.heap.size := ⟨_, rfl⟩
  obtain ⟨bx, hbx⟩ : ∃ bx, bx = w3.heap.size := ⟨_, rfl⟩
  obtain ⟨nb, hnb⟩ : ∃ nb, nb = w.heap.size := ⟨_, rfl⟩
  have z1 : w1.heap.size = w.heap.size + 1 := by rw [hw1]; simp
  have z2 := hb2.size
  have z3 := hg3.size
  have z4 : w4.heap.size = w3.heap.size + 1 := by rw [hw4]; simp
  have z5 : w5.heap.size = w3.heap.size + 2 := by rw [hw5]; simp [z4]
  have hN1 : Has w1 nb 3 [.int .i64 (n : Int)] := by rw [hw1, hnb]; exact Has.new _ _ _
  have hX4 : Has w4 bx 22 [.slice (some ⟨rb, 0, none⟩) 1 1] := by rw [hw4, hbx, hrb]; exact Has.new _ _ _
  have hX5 : Has w5 (bx + 1) 22 [.slice (some ⟨rb, 0, none⟩) 1 1] := by rw [hw5, hbx, hrb, ← z4]; exact Has.new _ _ _
  have k12 : Kept none' w1 w2 := Kept.of_below hb2
  have k23 : Kept none' w2 w3 := (Kept.of_grown hg3).more (fun _ _ e => by cases e)
  have k34 : Kept none' w3 w4 := by rw [hw4]; exact Kept.alloc _ _ _
  have k45 : Kept none' w4 w5 := by rw [hw5]; exact Kept.alloc _ _ _
  have k35 : Kept none' w3 w5 := k34.trans k45 (fun _ _ h => h)
  have k15 : Kept none' w1 w5 := (k12.trans k23 (fun _ _ h => h)).trans k35 (fun _ _ h => h)
  have hN5 := hN1.kept k15 (fun h => h)
  have hX45 := hX4.kept k45 (fun h => h)
  have hR5 : w5.ownsRow w.heap.size 5 1 (.slice (some ⟨rb, 0, none⟩) 1 1) 1 (bv (List.replicate 1 0)) := by
    rw [hrb]
    have h1 := own_mono ho3 (show w.heap.size ≤ w2.heap.size by omega)
    rw [show (madeCells (Value.int .u8 0).cells (1 * 1)).toList = _ from made_bytes 1 0 rfl, show List.replicate 1 (0 : UInt8) ++ bd 0 0 = List.replicate 1 0 from List.append_nil _] at h1
    exact own_kept' h1 k35 (fun _ _ h => h)
  have hB5 : Below w.heap.size w w5 := by
    have h1 : Below w.heap.size w w1 := by rw [hw1]; exact (Below.refl _ _).alloc (Nat.le_refl _) _
    exact h1.trans (k15.below (by omega) (fun _ h => h.elim))
  have hbx1 : bx + 1 < w5.heap.size := by omega
  have hrbl : rb < w5.heap.size := by omega
  have hnbr : nb < rb := by omega
  have hrbx : rb < bx := by
    have := ho3.lt _ rfl
    omega
  have hne : w.heap.size ≤ nb := by omega
  rw [← hw4, ← hw5, ← hrb, ← hbx, ← hnb]
  clear hw1 hw4 hw5 hmk2 ho3 hg3 hb2 k12 k23 k34 k45 k35 k15 hN1 hX4 z1 z2 z3 z4 z5 hrb hbx hnb
  refine wpIn_rangeFunc_ownF rfl (by decide) (gf := 72) (lb := #[.pointer (some ⟨bx + 1, 0, none⟩)]) rfl trivial (enters_of Try.func72 (by kernel_rfl) rfl)
    (back_stops Fence.wide _ trivial rfl (by decide) (bx + 1) rb 1 (by decide) w5 hbx1 hrbl (hX5.cell 0 rfl) (fun j hj => ?hcells)) (fun h k => h.tr k) ?hkb (Below.refl _ _) (fun _ => rfl)
    (PutI w nb bx rb 1 n) (fun _ _ _ => False) (putI_own w nb bx rb 1 n _ hB5.size) (fun _ _ _ _ _ hs _ _ => hs)
    ⟨⟨hN5.cell 0 rfl, hN5.free 0, hX45.cell 0 rfl, hR5⟩, hB5⟩
    (fun x => { tmps := #[.int .i64 (n : Int), .pointer (some ⟨nb, 0, none⟩), .slice none 0 0, .int .i64 0, .int .i64 0, .pointer (some ⟨bx, 0, none⟩), .int .i64 (x.1.val : Int), .int .i64 (n : Int), .int .i64 0, .int .i64 0, .bool false, .int .i64 0, .int .i64 1, .slice (some ⟨rb, 0, none⟩) 1 1, .slice (some ⟨rb, 0, none⟩) 1 1, .func (.func 72) #[] #[.pointer (some ⟨bx + 1, 0, none⟩)], .int .i64 (x.1.val : Int), .int .u8 x.2, undef, undef, undef, undef, undef, undef, undef, undef, undef, undef, undef, undef, undef, undef, undef, undef], defers := [] }) ?assign ?body ?done ?stop
  case hcells =>
    obtain ⟨rb', hrb', hcell, _, _, _⟩ := own_cell hR5 (i := j) hj
    cases hrb'
    obtain ⟨u, hu⟩ : ∃ u, (bv (List.replicate 1 0))[j]? = some u := ⟨_, List.getElem?_eq_getElem (by simp [bv]; omega)⟩
    obtain ⟨x, hx⟩ := stF_u8 1 n [] j u hu
    exact ⟨x, by rw [hcell, hu, hx]⟩
  case hkb =>
    intro W l o o' hl h hc hw
    have hb := belowK_b (w := w5) (Nat.le_refl _) W l o o' hl h hc hw
    exact ⟨fun v hv => (hb.cell (p := ⟨bx + 1, 0, none⟩) hbx1).trans hv, fun j _ ⟨x, hx⟩ => ⟨x, (hb.cell (p := ⟨rb, j, none⟩) hrbl).trans hx⟩⟩
  case assign =>
    intro l x W K hK
    obtain ⟨j, hj⟩ : ∃ j : Nat, j = x.1.val := ⟨_, rfl⟩
    rw [← hj] at hK ⊢
    clear hj
    gi_wp2
    exact hK
  case body =>
    rintro l pre x W ⟨⟨hc, hf, hx, hr⟩, hB⟩ _
    obtain ⟨m, hm⟩ : ∃ m, m = (stF 1 n pre).2 := ⟨_, rfl⟩
    have hmn : m ≤ n := by rw [hm]; exact stF_le _ _ _
    rw [← hm] at hc
    obtain ⟨rb', hrb', hcell, hfz, _, _⟩ := own_cell hr (i := x.1.val) x.1.isLt
    cases hrb'
    obtain ⟨u, hu⟩ : ∃ u, (stF 1 n pre).1[x.1.val]? = some u := ⟨_, List.getElem?_eq_getElem (by rw [stF_len]; exact x.1.isLt)⟩
    rw [hu] at hcell
    have hil : (x.1.val : Int) < 1 := by have := x.1.isLt; omega
    have HR := Lib.hid hr
    have HM := Lib.hid hm
    have hnr : ¬ nb = rb := by omega
    have hrn : ¬ rb = nb := by omega
    have hbr : ¬ bx = rb := by omega
    have hbn : ¬ bx = nb := by omega
    clear hr hm hu
    obtain ⟨j, hj⟩ : ∃ j, j = x.1.val := ⟨_, rfl⟩
    rw [← hj] at hcell hfz hil ⊢
    have HJ := Lib.hid hj
    clear hj
    gi_wp2
    have kA := Kept.set W rb j (.int .u8 ((m : Int) % 256))
    have kB := Kept.set (W.setCell ⟨rb, j, none⟩ (.int .u8 ((m : Int) % 256))) nb 0 (.int .i64 ((m : Int) / 256))
    have hrow := own_kept' (own_set HR.out j (.int .u8 ((m : Int) % 256))) kB (fun ad ha e => by
      simp only [Option.some.injEq] at ha
      subst ha
      exact hrn e)
    have hst := stF_snoc 1 n pre x
    rw [← HJ.out, ← HM.out] at hst
    have hrow' : ((W.setCell ⟨rb, j, none⟩ (.int .u8 ((m : Int) % 256))).setCell ⟨nb, 0, none⟩ (.int .i64 ((m : Int) / 256))).ownsRow w.heap.size 5 1 (.slice (some ⟨rb, 0, none⟩) 1 1) 1 (stF 1 n (pre ++ [x])).1 := by
      rw [hst]; push_cast; exact hrow
    have hcA := kA.cell hc hnr
    refine ⟨(KeepsOthers.setCell _ _ _).trans (KeepsOthers.setCell _ _ _), ⟨fun v hv => kB.cell (kA.cell hv (by show ¬ bx + 1 = rb; omega)) (by show ¬ bx + 1 = nb; omega), fun j' hj' _ => ?_⟩, ⟨⟨?_, ?_, kB.cell (kA.cell hx hbr) hbn, hrow'⟩, (hB.setCell (p := ⟨rb, j, none⟩) (by show w.heap.size ≤ rb; omega) _).setCell (p := ⟨nb, 0, none⟩) hne _⟩⟩
    · obtain ⟨rb', hrb', hcell', _, _, _⟩ := own_cell hrow' hj'
      simp only [Option.some.injEq, Addr.mk.injEq, and_true] at hrb'
      subst hrb'
      obtain ⟨u', hu'⟩ : ∃ u', (stF 1 n (pre ++ [x])).1[j']? = some u' := ⟨_, List.getElem?_eq_getElem (by rw [stF_len]; exact hj')⟩
      obtain ⟨y, hy⟩ := stF_u8 1 n (pre ++ [x]) j' u' hu'
      exact ⟨y, by rw [hcell', hu', hy]⟩
    · rw [hst]
      push_cast
      exact World.cell?_setCell_same' _ _ _ (by rw [hcA]; rfl)
    · rw [World.frozen?_setCell, World.frozen?_setCell]; exact hf
  case done =>
    rintro D ys W hD hS ⟨⟨hc, hf, hx, hr⟩, hB⟩ hK
    have hst := stF_dn 1 n 1 ys (Nat.le_refl _) hS
    rw [hst] at hr
    simp only [Nat.sub_self, List.replicate_zero, List.nil_append] at hr
    obtain ⟨x, hx'⟩ : ∃ x, x = n / 256 ^ (1 - 1) := ⟨_, rfl⟩
    have hx64 : x < 64 := by have := first_lt h; rw [HSz.out] at this; rw [hx']; exact this
    have hv := vl_eq h
    rw [HSz.out, HCl.out, ← hx'] at hv
    have hxm : x % 256 = x := by omega
    have hbd : bd 1 n = UInt8.ofNat x :: bd (1 - 1) n := by
      rw [← hxm, hx']; rfl
    rw [hxm] at hv
    rw [hbd] at hr
    obtain ⟨rb', hrb', hcell0, hfz, _, _⟩ := own_cell hr (i := 0) (by decide)
    cases hrb'
    have hcell : W.cell? ⟨rb, 0, none⟩ = some (.int .u8 (x : Int)) := by
      rw [hcell0]; simp [bv]; omega
    clear hcell0
    have hor : Go.bits .or .u8 (x : Int) 0 = (x : Int) + 0 := by
      have h1 := u8_or_nat x 0 (by omega) (by decide)
      have h2 : ∀ y : Fin 64, y.val ||| 0 = y.val + 0 := by decide
      have h3 := h2 ⟨x, hx64⟩
      simp only at h3
      rw [h3] at h1
      exact_mod_cast h1
    have hset := own_set hr 0 (.int .u8 ((x : Int) + 0))
    have he : (bv (UInt8.ofNat x :: bd (1 - 1) n)).set 0 (.int .u8 ((x : Int) + 0)) = bv (vl n) := by
      rw [hv]; simp [bv]; omega
    rw [he] at hset
    have hvl : (vl n).length = 1 := by rw [vl_length, HSz.out]
    have HSet := Lib.hid hset
    have HVl := Lib.hid hvl
    have hK' := (KeepsOthers.setCell W ⟨rb, 0, none⟩ (.int .u8 ((x : Int) + 0))).same D _ hK rfl
    have hB' := hB.setCell (p := ⟨rb, 0, none⟩) (show w.heap.size ≤ rb by omega) (.int .u8 ((x : Int) + 0))
    have HK' := Lib.hid hK'
    have HB' := Lib.hid hB'
    clear hr hst hv hbd hset he hvl hx' hK' hB' hS
    gi_wp2
    refine ⟨by simp, .inl ⟨_, _, rfl, run_takeDeferred HK'.out, ?_⟩⟩
    refine ⟨_, results_tmp2 rfl _ _ _, some ⟨rb, 0, none⟩, 1, by rw [HVl.out]; rfl, ?_, HB'.out.trans (belowK_b (w := w) (Nat.le_refl _) _ D _ _ (by have := hB5.size; omega) HK'.out rfl rfl)⟩
    rw [HVl.out]
    exact row_turn HSet.out (grownBy_putObj' _ D (.deferred none)) (fun r e => by cases e; exact ⟨_, HK'.out, rfl⟩)
  case stop =>
    rintro D c pre W _ _ h _
    exact h.elim

set_option maxRecDepth 100000 in
set_option maxHeartbeats 4000000 in
theorem put_1 (w : World) (n : Nat) (h : n < 4611686018427387904) (hs : szN n = 2) (hc : clN n = 1) : Calls Try.prog 47 #[.int .i64 (n : Int)] w (RetBE w.heap.size w (vl n, 0)) := by
  have HC := Lib.hid (class_any w n h)
  have HCl := Lib.hid hc
  have HSz := Lib.hid hs
  have HCa : Hid (∀ w', Calls Try.prog 59 #[.int .i64 (n : Int)] w' (IntOf w' 1)) := Lib.hid (fun w' => by have := class_any w' n h; rwa [hc] at this)
  clear hs hc
  obtain ⟨i, hi, hz, hsize, hby⟩ := tyU8.ex
  refine (callsIn_wide (n := 8)).1 ?_
  refine callsIn_of_wp_marks Try.func47 rfl trivial ?_ rfl
  simp only [Try.ntmps47, List.size_toArray, List.length_cons, List.length_nil, Nat.reduceAdd, Nat.reduceSub, Array.replicate_succ, Array.replicate_zero, List.push_toArray, List.append_toArray, List.nil_append, List.cons_append]
  gi_wp2_with (first | (refine ⟨trivial, ?_⟩; gi_at_call 59; refine (callsIn_wide.2 (HCa.out _)).mono ?_; rintro e w2 ⟨rfl, hb2⟩; obtain ⟨w3, hmk, ho3, hg3⟩ := run_make_full (P := Try.prog) w2 w2.heap.size 22 5 i (.int .u8 0) 1 tyU8.ht hi hz hsize .i64 .i64 2 (by rw [hby]; decide) (by decide) (Nat.le_refl _); have hmk2 : (Instr.makeSlice 22 (.int .i64 2) (.int .i64 2)).run Try.prog w2 = .ok (.slice (some ⟨w2.heap.size, 0, none⟩) 2 2) w3 := hmk; clear hmk) | (refine ⟨trivial, ?_⟩; gi_at_call 60; refine (back_in Fence.wide _ trivial rfl _ _ _ _).mono ?_; rintro e w' ⟨rfl, rfl⟩))
  obtain ⟨w1, hw1⟩ : ∃ w1, w1 = w.alloc (.cells #[.int .i64 (n : Int)] 3) := ⟨_, rfl⟩
  rw [← hw1] at hb2
  obtain ⟨w4, hw4⟩ : ∃ w4, w4 = w3.alloc (.cells #[.slice (some ⟨w2.heap.size, 0, none⟩) 2 2] 22) := ⟨_, rfl⟩
  obtain ⟨w5, hw5⟩ : ∃ w5, w5 = w4.alloc (.cells #[.slice (some ⟨w2.heap.size, 0, none⟩) 2 2] 22) := ⟨_, rfl⟩
  obtain ⟨rb, hrb⟩ : ∃ rb, rb = w2.heap.size := ⟨_, rfl⟩
  obtain ⟨bx, hbx⟩ : ∃ bx, bx = w3.heap.size := ⟨_, rfl⟩
  obtain ⟨nb, hnb⟩ : ∃ nb, nb = w.heap.size := ⟨_, rfl⟩
  have z1 : w1.heap.size = w.heap.size + 1 := by rw [hw1]; simp
  have z2 := hb2.size
  have z3 := hg3.size
  have z4 : w4.heap.size = w3.heap.size + 1 := by rw [hw4]; simp
  have z5 : w5.heap.size = w3.heap.size + 2 := by rw [hw5]; simp [z4]
  have hN1 : Has w1 nb 3 [.int .i64 (n : Int)] := by rw [hw1, hnb]; exact Has.new _ _ _
  have hX4 : Has w4 bx 22 [.slice (some ⟨rb, 0, none⟩) 2 2] := by rw [hw4, hbx, hrb]; exact Has.new _ _ _
  have hX5 : Has w5 (bx + 1) 22 [.slice (some ⟨rb, 0, none⟩) 2 2] := by rw [hw5, hbx, hrb, ← z4]; exact Has.new _ _ _
  have k12 : Kept none' w1 w2 := Kept.of_below hb2
  have k23 : Kept none' w2 w3 := (Kept.of_grown hg3).more (fun _ _ e => by cases e)
  have k34 : Kept none' w3 w4 := by rw [hw4]; exact Kept.alloc _ _ _
  have k45 : Kept none' w4 w5 := by rw [hw5]; exact Kept.alloc _ _ _
  have k35 : Kept none' w3 w5 := k34.trans k45 (fun _ _ h => h)
  have k15 : Kept none' w1 w5 := (k12.trans k23 (fun _ _ h => h)).trans k35 (fun _ _ h => h)
  have hN5 := hN1.kept k15 (fun h => h)
  have hX45 := hX4.kept k45 (fun h => h)
  have hR5 : w5.ownsRow w.heap.size 5 1 (.slice (some ⟨rb, 0, none⟩) 2 2) 2 (bv (List.replicate 2 0)) := by
    rw [hrb]
    have h1 := own_mono ho3 (show w.heap.size ≤ w2.heap.size by omega)
    rw [show (madeCells (Value.int .u8 0).cells (2 * 1)).toList = _ from made_bytes 2 0 rfl, show List.replicate 2 (0 : UInt8) ++ bd 0 0 = List.replicate 2 0 from List.append_nil _] at h1
    exact own_kept' h1 k35 (fun _ _ h => h)
  have hB5 : Below w.heap.size w w5 := by
    have h1 : Below w.heap.size w w1 := by rw [hw1]; exact (Below.refl _ _).alloc (Nat.le_refl _) _
    exact h1.trans (k15.below (by omega) (fun _ h => h.elim))
  have hbx1 : bx + 1 < w5.heap.size := by omega
  have hrbl : rb < w5.heap.size := by omega
  have hnbr : nb < rb := by omega
  have hrbx : rb < bx := by
    have := ho3.lt _ rfl
    omega
  have hne : w.heap.size ≤ nb := by omega
  rw [← hw4, ← hw5, ← hrb, ← hbx, ← hnb]
  clear hw1 hw4 hw5 hmk2 ho3 hg3 hb2 k12 k23 k34 k45 k35 k15 hN1 hX4 z1 z2 z3 z4 z5 hrb hbx hnb
  refine wpIn_rangeFunc_ownF rfl (by decide) (gf := 72) (lb := #[.pointer (some ⟨bx + 1, 0, none⟩)]) rfl trivial (enters_of Try.func72 (by kernel_rfl) rfl)
    (back_stops Fence.wide _ trivial rfl (by decide) (bx + 1) rb 2 (by decide) w5 hbx1 hrbl (hX5.cell 0 rfl) (fun j hj => ?hcells)) (fun h k => h.tr k) ?hkb (Below.refl _ _) (fun _ => rfl)
    (PutI w nb bx rb 2 n) (fun _ _ _ => False) (putI_own w nb bx rb 2 n _ hB5.size) (fun _ _ _ _ _ hs _ _ => hs)
    ⟨⟨hN5.cell 0 rfl, hN5.free 0, hX45.cell 0 rfl, hR5⟩, hB5⟩
    (fun x => { tmps := #[.int .i64 (n : Int), .pointer (some ⟨nb, 0, none⟩), .slice none 0 0, .int .i64 0, .int .i64 1, .pointer (some ⟨bx, 0, none⟩), .int .i64 (x.1.val : Int), .int .i64 (n : Int), .int .i64 1, .int .i64 1, .bool false, .int .i64 1, .int .i64 2, .slice (some ⟨rb, 0, none⟩) 2 2, .slice (some ⟨rb, 0, none⟩) 2 2, .func (.func 72) #[] #[.pointer (some ⟨bx + 1, 0, none⟩)], .int .i64 (x.1.val : Int), .int .u8 x.2, undef, undef, undef, undef, undef, undef, undef, undef, undef, undef, undef, undef, undef, undef, undef, undef], defers := [] }) ?assign ?body ?done ?stop
  case hcells =>
    obtain ⟨rb', hrb', hcell, _, _, _⟩ := own_cell hR5 (i := j) hj
    cases hrb'
    obtain ⟨u, hu⟩ : ∃ u, (bv (List.replicate 2 0))[j]? = some u := ⟨_, List.getElem?_eq_getElem (by simp [bv]; omega)⟩
    obtain ⟨x, hx⟩ := stF_u8 2 n [] j u hu
    exact ⟨x, by rw [hcell, hu, hx]⟩
  case hkb =>
    intro W l o o' hl h hc hw
    have hb := belowK_b (w := w5) (Nat.le_refl _) W l o o' hl h hc hw
    exact ⟨fun v hv => (hb.cell (p := ⟨bx + 1, 0, none⟩) hbx1).trans hv, fun j _ ⟨x, hx⟩ => ⟨x, (hb.cell (p := ⟨rb, j, none⟩) hrbl).trans hx⟩⟩
  case assign =>
    intro l x W K hK
    obtain ⟨j, hj⟩ : ∃ j : Nat, j = x.1.val := ⟨_, rfl⟩
    rw [← hj] at hK ⊢
    clear hj
    gi_wp2
    exact hK
  case body =>
    rintro l pre x W ⟨⟨hc, hf, hx, hr⟩, hB⟩ _
    obtain ⟨m, hm⟩ : ∃ m, m = (stF 2 n pre).2 := ⟨_, rfl⟩
    have hmn : m ≤ n := by rw [hm]; exact stF_le _ _ _
    rw [← hm] at hc
    obtain ⟨rb', hrb', hcell, hfz, _, _⟩ := own_cell hr (i := x.1.val) x.1.isLt
    cases hrb'
    obtain ⟨u, hu⟩ : ∃ u, (stF 2 n pre).1[x.1.val]? = some u := ⟨_, List.getElem?_eq_getElem (by rw [stF_len]; exact x.1.isLt)⟩
    rw [hu] at hcell
    have hil : (x.1.val : Int) < 2 := by have := x.1.isLt; omega
    have HR := Lib.hid hr
    have HM := Lib.hid hm
    have hnr : ¬ nb = rb := by omega
    have hrn : ¬ rb = nb := by omega
    have hbr : ¬ bx = rb := by omega
    have hbn : ¬ bx = nb := by omega
    clear hr hm hu
    obtain ⟨j, hj⟩ : ∃ j, j = x.1.val := ⟨_, rfl⟩
    rw [← hj] at hcell hfz hil ⊢
    have HJ := Lib.hid hj
    clear hj
    gi_wp2
    have kA := Kept.set W rb j (.int .u8 ((m : Int) % 256))
    have kB := Kept.set (W.setCell ⟨rb, j, none⟩ (.int .u8 ((m : Int) % 256))) nb 0 (.int .i64 ((m : Int) / 256))
    have hrow := own_kept' (own_set HR.out j (.int .u8 ((m : Int) % 256))) kB (fun ad ha e => by
      simp only [Option.some.injEq] at ha
      subst ha
      exact hrn e)
    have hst := stF_snoc 2 n pre x
    rw [← HJ.out, ← HM.out] at hst
    have hrow' : ((W.setCell ⟨rb, j, none⟩ (.int .u8 ((m : Int) % 256))).setCell ⟨nb, 0, none⟩ (.int .i64 ((m : Int) / 256))).ownsRow w.heap.size 5 1 (.slice (some ⟨rb, 0, none⟩) 2 2) 2 (stF 2 n (pre ++ [x])).1 := by
      rw [hst]; push_cast; exact hrow
    have hcA := kA.cell hc hnr
    refine ⟨(KeepsOthers.setCell _ _ _).trans (KeepsOthers.setCell _ _ _), ⟨fun v hv => kB.cell (kA.cell hv (by show ¬ bx + 1 = rb; omega)) (by show ¬ bx + 1 = nb; omega), fun j' hj' _ => ?_⟩, ⟨⟨?_, ?_, kB.cell (kA.cell hx hbr) hbn, hrow'⟩, (hB.setCell (p := ⟨rb, j, none⟩) (by show w.heap.size ≤ rb; omega) _).setCell (p := ⟨nb, 0, none⟩) hne _⟩⟩
    · obtain ⟨rb', hrb', hcell', _, _, _⟩ := own_cell hrow' hj'
      simp only [Option.some.injEq, Addr.mk.injEq, and_true] at hrb'
      subst hrb'
      obtain ⟨u', hu'⟩ : ∃ u', (stF 2 n (pre ++ [x])).1[j']? = some u' := ⟨_, List.getElem?_eq_getElem (by rw [stF_len]; exact hj')⟩
      obtain ⟨y, hy⟩ := stF_u8 2 n (pre ++ [x]) j' u' hu'
      exact ⟨y, by rw [hcell', hu', hy]⟩
    · rw [hst]
      push_cast
      exact World.cell?_setCell_same' _ _ _ (by rw [hcA]; rfl)
    · rw [World.frozen?_setCell, World.frozen?_setCell]; exact hf
  case done =>
    rintro D ys W hD hS ⟨⟨hc, hf, hx, hr⟩, hB⟩ hK
    have hst := stF_dn 2 n 2 ys (Nat.le_refl _) hS
    rw [hst] at hr
    simp only [Nat.sub_self, List.replicate_zero, List.nil_append] at hr
    obtain ⟨x, hx'⟩ : ∃ x, x = n / 256 ^ (2 - 1) := ⟨_, rfl⟩
    have hx64 : x < 64 := by have := first_lt h; rw [HSz.out] at this; rw [hx']; exact this
    have hv := vl_eq h
    rw [HSz.out, HCl.out, ← hx'] at hv
    have hxm : x % 256 = x := by omega
    have hbd : bd 2 n = UInt8.ofNat x :: bd (2 - 1) n := by
      rw [← hxm, hx']; rfl
    rw [hxm] at hv
    rw [hbd] at hr
    obtain ⟨rb', hrb', hcell0, hfz, _, _⟩ := own_cell hr (i := 0) (by decide)
    cases hrb'
    have hcell : W.cell? ⟨rb, 0, none⟩ = some (.int .u8 (x : Int)) := by
      rw [hcell0]; simp [bv]; omega
    clear hcell0
    have hor : Go.bits .or .u8 (x : Int) 64 = (x : Int) + 64 := by
      have h1 := u8_or_nat x 64 (by omega) (by decide)
      have h2 : ∀ y : Fin 64, y.val ||| 64 = y.val + 64 := by decide
      have h3 := h2 ⟨x, hx64⟩
      simp only at h3
      rw [h3] at h1
      exact_mod_cast h1
    have hset := own_set hr 0 (.int .u8 ((x : Int) + 64))
    have he : (bv (UInt8.ofNat x :: bd (2 - 1) n)).set 0 (.int .u8 ((x : Int) + 64)) = bv (vl n) := by
      rw [hv]; simp [bv]; omega
    rw [he] at hset
    have hvl : (vl n).length = 2 := by rw [vl_length, HSz.out]
    have HSet := Lib.hid hset
    have HVl := Lib.hid hvl
    have hK' := (KeepsOthers.setCell W ⟨rb, 0, none⟩ (.int .u8 ((x : Int) + 64))).same D _ hK rfl
    have hB' := hB.setCell (p := ⟨rb, 0, none⟩) (show w.heap.size ≤ rb by omega) (.int .u8 ((x : Int) + 64))
    have HK' := Lib.hid hK'
    have HB' := Lib.hid hB'
    clear hr hst hv hbd hset he hvl hx' hK' hB' hS
    gi_wp2
    refine ⟨by simp, .inl ⟨_, _, rfl, run_takeDeferred HK'.out, ?_⟩⟩
    refine ⟨_, results_tmp2 rfl _ _ _, some ⟨rb, 0, none⟩, 2, by rw [HVl.out]; rfl, ?_, HB'.out.trans (belowK_b (w := w) (Nat.le_refl _) _ D _ _ (by have := hB5.size; omega) HK'.out rfl rfl)⟩
    rw [HVl.out]
    exact row_turn HSet.out (grownBy_putObj' _ D (.deferred none)) (fun r e => by cases e; exact ⟨_, HK'.out, rfl⟩)
  case stop =>
    rintro D c pre W _ _ h _
    exact h.elim

set_option maxRecDepth 100000 in
set_option maxHeartbeats 4000000 in
theorem put_2 (w : World) (n : Nat) (h : n < 4611686018427387904) (hs : szN n = 4) (hc : clN n = 2) : Calls Try.prog 47 #[.int .i64 (n : Int)] w (RetBE w.heap.size w (vl n, 0)) := by
  have HC := Lib.hid (class_any w n h)
  have HCl := Lib.hid hc
  have HSz := Lib.hid hs
  have HCa : Hid (∀ w', Calls Try.prog 59 #[.int .i64 (n : Int)] w' (IntOf w' 2)) := Lib.hid (fun w' => by have := class_any w' n h; rwa [hc] at this)
  clear hs hc
  obtain ⟨i, hi, hz, hsize, hby⟩ := tyU8.ex
  refine (callsIn_wide (n := 8)).1 ?_
  refine callsIn_of_wp_marks Try.func47 rfl trivial ?_ rfl
  simp only [Try.ntmps47, List.size_toArray, List.length_cons, List.length_nil, Nat.reduceAdd, Nat.reduceSub, Array.replicate_succ, Array.replicate_zero, List.push_toArray, List.append_toArray, List.nil_append, List.cons_append]
  gi_wp2_with (first | (refine ⟨trivial, ?_⟩; gi_at_call 59; refine (callsIn_wide.2 (HCa.out _)).mono ?_; rintro e w2 ⟨rfl, hb2⟩; obtain ⟨w3, hmk, ho3, hg3⟩ := run_make_full (P := Try.prog) w2 w2.heap.size 22 5 i (.int .u8 0) 1 tyU8.ht hi hz hsize .i64 .i64 4 (by rw [hby]; decide) (by decide) (Nat.le_refl _); have hmk2 : (Instr.makeSlice 22 (.int .i64 4) (.int .i64 4)).run Try.prog w2 = .ok (.slice (some ⟨w2.heap.size, 0, none⟩) 4 4) w3 := hmk; clear hmk) | (refine ⟨trivial, ?_⟩; gi_at_call 60; refine (back_in Fence.wide _ trivial rfl _ _ _ _).mono ?_; rintro e w' ⟨rfl, rfl⟩))
  obtain ⟨w1, hw1⟩ : ∃ w1, w1 = w.alloc (.cells #[.int .i64 (n : Int)] 3) := ⟨_, rfl⟩
  rw [← hw1] at hb2
  obtain ⟨w4, hw4⟩ : ∃ w4, w4 = w3.alloc (.cells #[.slice (some ⟨w2.heap.size, 0, none⟩) 4 4] 22) := ⟨_, rfl⟩
  obtain ⟨w5, hw5⟩ : ∃ w5, w5 = w4.alloc (.cells #[.slice (some ⟨w2.heap.size, 0, none⟩) 4 4] 22) := ⟨_, rfl⟩
  obtain ⟨rb, hrb⟩ : ∃ rb, rb = w2.heap.size := ⟨_, rfl⟩
  obtain ⟨bx, hbx⟩ : ∃ bx, bx = w3.heap.size := ⟨_, rfl⟩
  obtain ⟨nb, hnb⟩ : ∃ nb, nb = w.heap.size := ⟨_, rfl⟩
  have z1 : w1.heap.size = w.heap.size + 1 := by rw [hw1]; simp
  have z2 := hb2.size
  have z3 := hg3.size
  have z4 : w4.heap.size = w3.heap.size + 1 := by rw [hw4]; simp
  have z5 : w5.heap.size = w3.heap.size + 2 := by rw [hw5]; simp [z4]
  have hN1 : Has w1 nb 3 [.int .i64 (n : Int)] := by rw [hw1, hnb]; exact Has.new _ _ _
  have hX4 : Has w4 bx 22 [.slice (some ⟨rb, 0, none⟩) 4 4] := by rw [hw4, hbx, hrb]; exact Has.new _ _ _
  have hX5 : Has w5 (bx + 1) 22 [.slice (some ⟨rb, 0, none⟩) 4 4] := by rw [hw5, hbx, hrb, ← z4]; exact Has.new _ _ _
  have k12 : Kept none' w1 w2 := Kept.of_below hb2
  have k23 : Kept none' w2 w3 := (Kept.of_grown hg3).more (fun _ _ e => by cases e)
  have k34 : Kept none' w3 w4 := by rw [hw4]; exact Kept.alloc _ _ _
  have k45 : Kept none' w4 w5 := by rw [hw5]; exact Kept.alloc _ _ _
  have k35 : Kept none' w3 w5 := k34.trans k45 (fun _ _ h => h)
  have k15 : Kept none' w1 w5 := (k12.trans k23 (fun _ _ h => h)).trans k35 (fun _ _ h => h)
  have hN5 := hN1.kept k15 (fun h => h)
  have hX45 := hX4.kept k45 (fun h => h)
  have hR5 : w5.ownsRow w.heap.size 5 1 (.slice (some ⟨rb, 0, none⟩) 4 4) 4 (bv (List.replicate 4 0)) := by
    rw [hrb]
    have h1 := own_mono ho3 (show w.heap.size ≤ w2.heap.size by omega)
    rw [show (madeCells (Value.int .u8 0).cells (4 * 1)).toList = _ from made_bytes 4 0 rfl, show List.replicate 4 (0 : UInt8) ++ bd 0 0 = List.replicate 4 0 from List.append_nil _] at h1
    exact own_kept' h1 k35 (fun _ _ h => h)
  have hB5 : Below w.heap.size w w5 := by
    have h1 : Below w.heap.size w w1 := by rw [hw1]; exact (Below.refl _ _).alloc (Nat.le_refl _) _
    exact h1.trans (k15.below (by omega) (fun _ h => h.elim))
  have hbx1 : bx + 1 < w5.heap.size := by omega
  have hrbl : rb < w5.heap.size := by omega
  have hnbr : nb < rb := by omega
  have hrbx : rb < bx := by
    have := ho3.lt _ rfl
    omega
  have hne : w.heap.size ≤ nb := by omega
  rw [← hw4, ← hw5, ← hrb, ← hbx, ← hnb]
  clear hw1 hw4 hw5 hmk2 ho3 hg3 hb2 k12 k23 k34 k45 k35 k15 hN1 hX4 z1 z2 z3 z4 z5 hrb hbx hnb
  refine wpIn_rangeFunc_ownF rfl (by decide) (gf := 72) (lb := #[.pointer (some ⟨bx + 1, 0, none⟩)]) rfl trivial (enters_of Try.func72 (by kernel_rfl) rfl)
    (back_stops Fence.wide _ trivial rfl (by decide) (bx + 1) rb 4 (by decide) w5 hbx1 hrbl (hX5.cell 0 rfl) (fun j hj => ?hcells)) (fun h k => h.tr k) ?hkb (Below.refl _ _) (fun _ => rfl)
    (PutI w nb bx rb 4 n) (fun _ _ _ => False) (putI_own w nb bx rb 4 n _ hB5.size) (fun _ _ _ _ _ hs _ _ => hs)
    ⟨⟨hN5.cell 0 rfl, hN5.free 0, hX45.cell 0 rfl, hR5⟩, hB5⟩
    (fun x => { tmps := #[.int .i64 (n : Int), .pointer (some ⟨nb, 0, none⟩), .slice none 0 0, .int .i64 0, .int .i64 2, .pointer (some ⟨bx, 0, none⟩), .int .i64 (x.1.val : Int), .int .i64 (n : Int), .int .i64 2, .int .i64 2, .bool false, .int .i64 2, .int .i64 4, .slice (some ⟨rb, 0, none⟩) 4 4, .slice (some ⟨rb, 0, none⟩) 4 4, .func (.func 72) #[] #[.pointer (some ⟨bx + 1, 0, none⟩)], .int .i64 (x.1.val : Int), .int .u8 x.2, undef, undef, undef, undef, undef, undef, undef, undef, undef, undef, undef, undef, undef, undef, undef, undef], defers := [] }) ?assign ?body ?done ?stop
  case hcells =>
    obtain ⟨rb', hrb', hcell, _, _, _⟩ := own_cell hR5 (i := j) hj
    cases hrb'
    obtain ⟨u, hu⟩ : ∃ u, (bv (List.replicate 4 0))[j]? = some u := ⟨_, List.getElem?_eq_getElem (by simp [bv]; omega)⟩
    obtain ⟨x, hx⟩ := stF_u8 4 n [] j u hu
    exact ⟨x, by rw [hcell, hu, hx]⟩
  case hkb =>
    intro W l o o' hl h hc hw
    have hb := belowK_b (w := w5) (Nat.le_refl _) W l o o' hl h hc hw
    exact ⟨fun v hv => (hb.cell (p := ⟨bx + 1, 0, none⟩) hbx1).trans hv, fun j _ ⟨x, hx⟩ => ⟨x, (hb.cell (p := ⟨rb, j, none⟩) hrbl).trans hx⟩⟩
  case assign =>
    intro l x W K hK
    obtain ⟨j, hj⟩ : ∃ j : Nat, j = x.1.val := ⟨_, rfl⟩
    rw [← hj] at hK ⊢
    clear hj
    gi_wp2
    exact hK
  case body =>
    rintro l pre x W ⟨⟨hc, hf, hx, hr⟩, hB⟩ _
    obtain ⟨m, hm⟩ : ∃ m, m = (stF 4 n pre).2 := ⟨_, rfl⟩
    have hmn : m ≤ n := by rw [hm]; exact stF_le _ _ _
    rw [← hm] at hc
    obtain ⟨rb', hrb', hcell, hfz, _, _⟩ := own_cell hr (i := x.1.val) x.1.isLt
    cases hrb'
    obtain ⟨u, hu⟩ : ∃ u, (stF 4 n pre).1[x.1.val]? = some u := ⟨_, List.getElem?_eq_getElem (by rw [stF_len]; exact x.1.isLt)⟩
    rw [hu] at hcell
    have hil : (x.1.val : Int) < 4 := by have := x.1.isLt; omega
    have HR := Lib.hid hr
    have HM := Lib.hid hm
    have hnr : ¬ nb = rb := by omega
    have hrn : ¬ rb = nb := by omega
    have hbr : ¬ bx = rb := by omega
    have hbn : ¬ bx = nb := by omega
    clear hr hm hu
    obtain ⟨j, hj⟩ : ∃ j, j = x.1.val := ⟨_, rfl⟩
    rw [← hj] at hcell hfz hil ⊢
    have HJ := Lib.hid hj
    clear hj
    gi_wp2
    have kA := Kept.set W rb j (.int .u8 ((m : Int) % 256))
    have kB := Kept.set (W.setCell ⟨rb, j, none⟩ (.int .u8 ((m : Int) % 256))) nb 0 (.int .i64 ((m : Int) / 256))
    have hrow := own_kept' (own_set HR.out j (.int .u8 ((m : Int) % 256))) kB (fun ad ha e => by
      simp only [Option.some.injEq] at ha
      subst ha
      exact hrn e)
    have hst := stF_snoc 4 n pre x
    rw [← HJ.out, ← HM.out] at hst
    have hrow' : ((W.setCell ⟨rb, j, none⟩ (.int .u8 ((m : Int) % 256))).setCell ⟨nb, 0, none⟩ (.int .i64 ((m : Int) / 256))).ownsRow w.heap.size 5 1 (.slice (some ⟨rb, 0, none⟩) 4 4) 4 (stF 4 n (pre ++ [x])).1 := by
      rw [hst]; push_cast; exact hrow
    have hcA := kA.cell hc hnr
    refine ⟨(KeepsOthers.setCell _ _ _).trans (KeepsOthers.setCell _ _ _), ⟨fun v hv => kB.cell (kA.cell hv (by show ¬ bx + 1 = rb; omega)) (by show ¬ bx + 1 = nb; omega), fun j' hj' _ => ?_⟩, ⟨⟨?_, ?_, kB.cell (kA.cell hx hbr) hbn, hrow'⟩, (hB.setCell (p := ⟨rb, j, none⟩) (by show w.heap.size ≤ rb; omega) _).setCell (p := ⟨nb, 0, none⟩) hne _⟩⟩
    · obtain ⟨rb', hrb', hcell', _, _, _⟩ := own_cell hrow' hj'
      simp only [Option.some.injEq, Addr.mk.injEq, and_true] at hrb'
      subst hrb'
      obtain ⟨u', hu'⟩ : ∃ u', (stF 4 n (pre ++ [x])).1[j']? = some u' := ⟨_, List.getElem?_eq_getElem (by rw [stF_len]; exact hj')⟩
      obtain ⟨y, hy⟩ := stF_u8 4 n (pre ++ [x]) j' u' hu'
      exact ⟨y, by rw [hcell', hu', hy]⟩
    · rw [hst]
      push_cast
      exact World.cell?_setCell_same' _ _ _ (by rw [hcA]; rfl)
    · rw [World.frozen?_setCell, World.frozen?_setCell]; exact hf
  case done =>
    rintro D ys W hD hS ⟨⟨hc, hf, hx, hr⟩, hB⟩ hK
    have hst := stF_dn 4 n 4 ys (Nat.le_refl _) hS
    rw [hst] at hr
    simp only [Nat.sub_self, List.replicate_zero, List.nil_append] at hr
    obtain ⟨x, hx'⟩ : ∃ x, x = n / 256 ^ (4 - 1) := ⟨_, rfl⟩
    have hx64 : x < 64 := by have := first_lt h; rw [HSz.out] at this; rw [hx']; exact this
    have hv := vl_eq h
    rw [HSz.out, HCl.out, ← hx'] at hv
    have hxm : x % 256 = x := by omega
    have hbd : bd 4 n = UInt8.ofNat x :: bd (4 - 1) n := by
      rw [← hxm, hx']; rfl
    rw [hxm] at hv
    rw [hbd] at hr
    obtain ⟨rb', hrb', hcell0, hfz, _, _⟩ := own_cell hr (i := 0) (by decide)
    cases hrb'
    have hcell : W.cell? ⟨rb, 0, none⟩ = some (.int .u8 (x : Int)) := by
      rw [hcell0]; simp [bv]; omega
    clear hcell0
    have hor : Go.bits .or .u8 (x : Int) 128 = (x : Int) + 128 := by
      have h1 := u8_or_nat x 128 (by omega) (by decide)
      have h2 : ∀ y : Fin 64, y.val ||| 128 = y.val + 128 := by decide
      have h3 := h2 ⟨x, hx64⟩
      simp only at h3
      rw [h3] at h1
      exact_mod_cast h1
    have hset := own_set hr 0 (.int .u8 ((x : Int) + 128))
    have he : (bv (UInt8.ofNat x :: bd (4 - 1) n)).set 0 (.int .u8 ((x : Int) + 128)) = bv (vl n) := by
      rw [hv]; simp [bv]; omega
    rw [he] at hset
    have hvl : (vl n).length = 4 := by rw [vl_length, HSz.out]
    have HSet := Lib.hid hset
    have HVl := Lib.hid hvl
    have hK' := (KeepsOthers.setCell W ⟨rb, 0, none⟩ (.int .u8 ((x : Int) + 128))).same D _ hK rfl
    have hB' := hB.setCell (p := ⟨rb, 0, none⟩) (show w.heap.size ≤ rb by omega) (.int .u8 ((x : Int) + 128))
    have HK' := Lib.hid hK'
    have HB' := Lib.hid hB'
    clear hr hst hv hbd hset he hvl hx' hK' hB' hS
    gi_wp2
    refine ⟨by simp, .inl ⟨_, _, rfl, run_takeDeferred HK'.out, ?_⟩⟩
    refine ⟨_, results_tmp2 rfl _ _ _, some ⟨rb, 0, none⟩, 4, by rw [HVl.out]; rfl, ?_, HB'.out.trans (belowK_b (w := w) (Nat.le_refl _) _ D _ _ (by have := hB5.size; omega) HK'.out rfl rfl)⟩
    rw [HVl.out]
    exact row_turn HSet.out (grownBy_putObj' _ D (.deferred none)) (fun r e => by cases e; exact ⟨_, HK'.out, rfl⟩)
  case stop =>
    rintro D c pre W _ _ h _
    exact h.elim

set_option maxRecDepth 100000 in
set_option maxHeartbeats 4000000 in
theorem put_3 (w : World) (n : Nat) (h : n < 4611686018427387904) (hs : szN n = 8) (hc : clN n = 3) : Calls Try.prog 47 #[.int .i64 (n : Int)] w (RetBE w.heap.size w (vl n, 0)) := by
  have HC := Lib.hid (class_any w n h)
  have HCl := Lib.hid hc
  have HSz := Lib.hid hs
  have HCa : Hid (∀ w', Calls Try.prog 59 #[.int .i64 (n : Int)] w' (IntOf w' 3)) := Lib.hid (fun w' => by have := class_any w' n h; rwa [hc] at this)
  clear hs hc
  obtain ⟨i, hi, hz, hsize, hby⟩ := tyU8.ex
  refine (callsIn_wide (n := 8)).1 ?_
  refine callsIn_of_wp_marks Try.func47 rfl trivial ?_ rfl
  simp only [Try.ntmps47, List.size_toArray, List.length_cons, List.length_nil, Nat.reduceAdd, Nat.reduceSub, Array.replicate_succ, Array.replicate_zero, List.push_toArray, List.append_toArray, List.nil_append, List.cons_append]
  gi_wp2_with (first | (refine ⟨trivial, ?_⟩; gi_at_call 59; refine (callsIn_wide.2 (HCa.out _)).mono ?_; rintro e w2 ⟨rfl, hb2⟩; obtain ⟨w3, hmk, ho3, hg3⟩ := run_make_full (P := Try.prog) w2 w2.heap.size 22 5 i (.int .u8 0) 1 tyU8.ht hi hz hsize .i64 .i64 8 (by rw [hby]; decide) (by decide) (Nat.le_refl _); have hmk2 : (Instr.makeSlice 22 (.int .i64 8) (.int .i64 8)).run Try.prog w2 = .ok (.slice (some ⟨w2.heap.size, 0, none⟩) 8 8) w3 := hmk; clear hmk) | (refine ⟨trivial, ?_⟩; gi_at_call 60; refine (back_in Fence.wide _ trivial rfl _ _ _ _).mono ?_; rintro e w' ⟨rfl, rfl⟩))
  obtain ⟨w1, hw1⟩ : ∃ w1, w1 = w.alloc (.cells #[.int .i64 (n : Int)] 3) := ⟨_, rfl⟩
  rw [← hw1] at hb2
  obtain ⟨w4, hw4⟩ : ∃ w4, w4 = w3.alloc (.cells #[.slice (some ⟨w2.heap.size, 0, none⟩) 8 8] 22) := ⟨_, rfl⟩
  obtain ⟨w5, hw5⟩ : ∃ w5, w5 = w4.alloc (.cells #[.slice (some ⟨w2.heap.size, 0, none⟩) 8 8] 22) := ⟨_, rfl⟩
  obtain ⟨rb, hrb⟩ : ∃ rb, rb = w2.heap.size := ⟨_, rfl⟩
  obtain ⟨bx, hbx⟩ : ∃ bx, bx = w3.heap.size := ⟨_, rfl⟩
  obtain ⟨nb, hnb⟩ : ∃ nb, nb = w.heap.size := ⟨_, rfl⟩
  have z1 : w1.heap.size = w.heap.size + 1 := by rw [hw1]; simp
  have z2 := hb2.size
  have z3 := hg3.size
  have z4 : w4.heap.size = w3.heap.size + 1 := by rw [hw4]; simp
  have z5 : w5.heap.size = w3.heap.size + 2 := by rw [hw5]; simp [z4]
  have hN1 : Has w1 nb 3 [.int .i64 (n : Int)] := by rw [hw1, hnb]; exact Has.new _ _ _
  have hX4 : Has w4 bx 22 [.slice (some ⟨rb, 0, none⟩) 8 8] := by rw [hw4, hbx, hrb]; exact Has.new _ _ _
  have hX5 : Has w5 (bx + 1) 22 [.slice (some ⟨rb, 0, none⟩) 8 8] := by rw [hw5, hbx, hrb, ← z4]; exact Has.new _ _ _
  have k12 : Kept none' w1 w2 := Kept.of_below hb2
  have k23 : Kept none' w2 w3 := (Kept.of_grown hg3).more (fun _ _ e => by cases e)
  have k34 : Kept none' w3 w4 := by rw [hw4]; exact Kept.alloc _ _ _
  have k45 : Kept none' w4 w5 := by rw [hw5]; exact Kept.alloc _ _ _
  have k35 : Kept none' w3 w5 := k34.trans k45 (fun _ _ h => h)
  have k15 : Kept none' w1 w5 := (k12.trans k23 (fun _ _ h => h)).trans k35 (fun _ _ h => h)
  have hN5 := hN1.kept k15 (fun h => h)
  have hX45 := hX4.kept k45 (fun h => h)
  have hR5 : w5.ownsRow w.heap.size 5 1 (.slice (some ⟨rb, 0, none⟩) 8 8) 8 (bv (List.replicate 8 0)) := by
    rw [hrb]
    have h1 := own_mono ho3 (show w.heap.size ≤ w2.heap.size by omega)
    rw [show (madeCells (Value.int .u8 0).cells (8 * 1)).toList = _ from made_bytes 8 0 rfl, show List.replicate 8 (0 : UInt8) ++ bd 0 0 = List.replicate 8 0 from List.append_nil _] at h1
    exact own_kept' h1 k35 (fun _ _ h => h)
  have hB5 : Below w.heap.size w w5 := by
    have h1 : Below w.heap.size w w1 := by rw [hw1]; exact (Below.refl _ _).alloc (Nat.le_refl _) _
    exact h1.trans (k15.below (by omega) (fun _ h => h.elim))
  have hbx1 : bx + 1 < w5.heap.size := by omega
  have hrbl : rb < w5.heap.size := by omega
  have hnbr : nb < rb := by omega
  have hrbx : rb < bx := by
    have := ho3.lt _ rfl
    omega
  have hne : w.heap.size ≤ nb := by omega
  rw [← hw4, ← hw5, ← hrb, ← hbx, ← hnb]
  clear hw1 hw4 hw5 hmk2 ho3 hg3 hb2 k12 k23 k34 k45 k35 k15 hN1 hX4 z1 z2 z3 z4 z5 hrb hbx hnb
  refine wpIn_rangeFunc_ownF rfl (by decide) (gf := 72) (lb := #[.pointer (some ⟨bx + 1, 0, none⟩)]) rfl trivial (enters_of Try.func72 (by kernel_rfl) rfl)
    (back_stops Fence.wide _ trivial rfl (by decide) (bx + 1) rb 8 (by decide) w5 hbx1 hrbl (hX5.cell 0 rfl) (fun j hj => ?hcells)) (fun h k => h.tr k) ?hkb (Below.refl _ _) (fun _ => rfl)
    (PutI w nb bx rb 8 n) (fun _ _ _ => False) (putI_own w nb bx rb 8 n _ hB5.size) (fun _ _ _ _ _ hs _ _ => hs)
    ⟨⟨hN5.cell 0 rfl, hN5.free 0, hX45.cell 0 rfl, hR5⟩, hB5⟩
    (fun x => { tmps := #[.int .i64 (n : Int), .pointer (some ⟨nb, 0, none⟩), .slice none 0 0, .int .i64 0, .int .i64 3, .pointer (some ⟨bx, 0, none⟩), .int .i64 (x.1.val : Int), .int .i64 (n : Int), .int .i64 3, .int .i64 3, .bool false, .int .i64 3, .int .i64 8, .slice (some ⟨rb, 0, none⟩) 8 8, .slice (some ⟨rb, 0, none⟩) 8 8, .func (.func 72) #[] #[.pointer (some ⟨bx + 1, 0, none⟩)], .int .i64 (x.1.val : Int), .int .u8 x.2, undef, undef, undef, undef, undef, undef, undef, undef, undef, undef, undef, undef, undef, undef, undef, undef], defers := [] }) ?assign ?body ?done ?stop
  case hcells =>
    obtain ⟨rb', hrb', hcell, _, _, _⟩ := own_cell hR5 (i := j) hj
    cases hrb'
    obtain ⟨u, hu⟩ : ∃ u, (bv (List.replicate 8 0))[j]? = some u := ⟨_, List.getElem?_eq_getElem (by simp [bv]; omega)⟩
    obtain ⟨x, hx⟩ := stF_u8 8 n [] j u hu
    exact ⟨x, by rw [hcell, hu, hx]⟩
  case hkb =>
    intro W l o o' hl h hc hw
    have hb := belowK_b (w := w5) (Nat.le_refl _) W l o o' hl h hc hw
    exact ⟨fun v hv => (hb.cell (p := ⟨bx + 1, 0, none⟩) hbx1).trans hv, fun j _ ⟨x, hx⟩ => ⟨x, (hb.cell (p := ⟨rb, j, none⟩) hrbl).trans hx⟩⟩
  case assign =>
    intro l x W K hK
    obtain ⟨j, hj⟩ : ∃ j : Nat, j = x.1.val := ⟨_, rfl⟩
    rw [← hj] at hK ⊢
    clear hj
    gi_wp2
    exact hK
  case body =>
    rintro l pre x W ⟨⟨hc, hf, hx, hr⟩, hB⟩ _
    obtain ⟨m, hm⟩ : ∃ m, m = (stF 8 n pre).2 := ⟨_, rfl⟩
    have hmn : m ≤ n := by rw [hm]; exact stF_le _ _ _
    rw [← hm] at hc
    obtain ⟨rb', hrb', hcell, hfz, _, _⟩ := own_cell hr (i := x.1.val) x.1.isLt
    cases hrb'
    obtain ⟨u, hu⟩ : ∃ u, (stF 8 n pre).1[x.1.val]? = some u := ⟨_, List.getElem?_eq_getElem (by rw [stF_len]; exact x.1.isLt)⟩
    rw [hu] at hcell
    have hil : (x.1.val : Int) < 8 := by have := x.1.isLt; omega
    have HR := Lib.hid hr
    have HM := Lib.hid hm
    have hnr : ¬ nb = rb := by omega
    have hrn : ¬ rb = nb := by omega
    have hbr : ¬ bx = rb := by omega
    have hbn : ¬ bx = nb := by omega
    clear hr hm hu
    obtain ⟨j, hj⟩ : ∃ j, j = x.1.val := ⟨_, rfl⟩
    rw [← hj] at hcell hfz hil ⊢
    have HJ := Lib.hid hj
    clear hj
    gi_wp2
    have kA := Kept.set W rb j (.int .u8 ((m : Int) % 256))
    have kB := Kept.set (W.setCell ⟨rb, j, none⟩ (.int .u8 ((m : Int) % 256))) nb 0 (.int .i64 ((m : Int) / 256))
    have hrow := own_kept' (own_set HR.out j (.int .u8 ((m : Int) % 256))) kB (fun ad ha e => by
      simp only [Option.some.injEq] at ha
      subst ha
      exact hrn e)
    have hst := stF_snoc 8 n pre x
    rw [← HJ.out, ← HM.out] at hst
    have hrow' : ((W.setCell ⟨rb, j, none⟩ (.int .u8 ((m : Int) % 256))).setCell ⟨nb, 0, none⟩ (.int .i64 ((m : Int) / 256))).ownsRow w.heap.size 5 1 (.slice (some ⟨rb, 0, none⟩) 8 8) 8 (stF 8 n (pre ++ [x])).1 := by
      rw [hst]; push_cast; exact hrow
    have hcA := kA.cell hc hnr
    refine ⟨(KeepsOthers.setCell _ _ _).trans (KeepsOthers.setCell _ _ _), ⟨fun v hv => kB.cell (kA.cell hv (by show ¬ bx + 1 = rb; omega)) (by show ¬ bx + 1 = nb; omega), fun j' hj' _ => ?_⟩, ⟨⟨?_, ?_, kB.cell (kA.cell hx hbr) hbn, hrow'⟩, (hB.setCell (p := ⟨rb, j, none⟩) (by show w.heap.size ≤ rb; omega) _).setCell (p := ⟨nb, 0, none⟩) hne _⟩⟩
    · obtain ⟨rb', hrb', hcell', _, _, _⟩ := own_cell hrow' hj'
      simp only [Option.some.injEq, Addr.mk.injEq, and_true] at hrb'
      subst hrb'
      obtain ⟨u', hu'⟩ : ∃ u', (stF 8 n (pre ++ [x])).1[j']? = some u' := ⟨_, List.getElem?_eq_getElem (by rw [stF_len]; exact hj')⟩
      obtain ⟨y, hy⟩ := stF_u8 8 n (pre ++ [x]) j' u' hu'
      exact ⟨y, by rw [hcell', hu', hy]⟩
    · rw [hst]
      push_cast
      exact World.cell?_setCell_same' _ _ _ (by rw [hcA]; rfl)
    · rw [World.frozen?_setCell, World.frozen?_setCell]; exact hf
  case done =>
    rintro D ys W hD hS ⟨⟨hc, hf, hx, hr⟩, hB⟩ hK
    have hst := stF_dn 8 n 8 ys (Nat.le_refl _) hS
    rw [hst] at hr
    simp only [Nat.sub_self, List.replicate_zero, List.nil_append] at hr
    obtain ⟨x, hx'⟩ : ∃ x, x = n / 256 ^ (8 - 1) := ⟨_, rfl⟩
    have hx64 : x < 64 := by have := first_lt h; rw [HSz.out] at this; rw [hx']; exact this
    have hv := vl_eq h
    rw [HSz.out, HCl.out, ← hx'] at hv
    have hxm : x % 256 = x := by omega
    have hbd : bd 8 n = UInt8.ofNat x :: bd (8 - 1) n := by
      rw [← hxm, hx']; rfl
    rw [hxm] at hv
    rw [hbd] at hr
    obtain ⟨rb', hrb', hcell0, hfz, _, _⟩ := own_cell hr (i := 0) (by decide)
    cases hrb'
    have hcell : W.cell? ⟨rb, 0, none⟩ = some (.int .u8 (x : Int)) := by
      rw [hcell0]; simp [bv]; omega
    clear hcell0
    have hor : Go.bits .or .u8 (x : Int) 192 = (x : Int) + 192 := by
      have h1 := u8_or_nat x 192 (by omega) (by decide)
      have h2 : ∀ y : Fin 64, y.val ||| 192 = y.val + 192 := by decide
      have h3 := h2 ⟨x, hx64⟩
      simp only at h3
      rw [h3] at h1
      exact_mod_cast h1
    have hset := own_set hr 0 (.int .u8 ((x : Int) + 192))
    have he : (bv (UInt8.ofNat x :: bd (8 - 1) n)).set 0 (.int .u8 ((x : Int) + 192)) = bv (vl n) := by
      rw [hv]; simp [bv]; omega
    rw [he] at hset
    have hvl : (vl n).length = 8 := by rw [vl_length, HSz.out]
    have HSet := Lib.hid hset
    have HVl := Lib.hid hvl
    have hK' := (KeepsOthers.setCell W ⟨rb, 0, none⟩ (.int .u8 ((x : Int) + 192))).same D _ hK rfl
    have hB' := hB.setCell (p := ⟨rb, 0, none⟩) (show w.heap.size ≤ rb by omega) (.int .u8 ((x : Int) + 192))
    have HK' := Lib.hid hK'
    have HB' := Lib.hid hB'
    clear hr hst hv hbd hset he hvl hx' hK' hB' hS
    gi_wp2
    refine ⟨by simp, .inl ⟨_, _, rfl, run_takeDeferred HK'.out, ?_⟩⟩
    refine ⟨_, results_tmp2 rfl _ _ _, some ⟨rb, 0, none⟩, 8, by rw [HVl.out]; rfl, ?_, HB'.out.trans (belowK_b (w := w) (Nat.le_refl _) _ D _ _ (by have := hB5.size; omega) HK'.out rfl rfl)⟩
    rw [HVl.out]
    exact row_turn HSet.out (grownBy_putObj' _ D (.deferred none)) (fun r e => by cases e; exact ⟨_, HK'.out, rfl⟩)
  case stop =>
    rintro D c pre W _ _ h _
    exact h.elim

theorem put_any (w : World) (n : Nat) (h : n < 4611686018427387904) : Calls Try.prog 47 #[.int .i64 (n : Int)] w (RetBE w.heap.size w (vl n, 0)) := by
  rcases szN_cs n with ⟨_, hs, hc⟩ | ⟨_, _, hs, hc⟩ | ⟨_, _, hs, hc⟩ | ⟨_, hs, hc⟩
  · exact put_0 w n h hs hc
  · exact put_1 w n h hs hc
  · exact put_2 w n h hs hc
  · exact put_3 w n h hs hc
set_option maxRecDepth 100000 in
theorem class_none (w : World) (n : Int) (h : n < 0 ∨ 4611686018427387903 < n) : Calls Try.prog 59 #[.int .i64 n] w (IntOf w (-1)) := by
  have hc : n < 0 ∨ (¬ n < 0 ∧ 4611686018427387903 < n) := by omega
  rcases hc with h1 | ⟨h1, h2⟩
  all_goals
    go_enter Try.func59, Try.ntmps59
    go_wp2
    go_ret
    exact ⟨rfl, Below.refl _ _⟩
set_option maxRecDepth 100000 in
theorem put_none (w : World) (n : Int) (h : n < 0 ∨ 4611686018427387903 < n) : Calls Try.prog 47 #[.int .i64 n] w (RetBE w.heap.size w ([], 10)) := by
  have HC := Lib.hid (fun w' => class_none w' n h)
  clear h
  go_enter Try.func47, Try.ntmps47
  go_wp2_with fail
  refine (HC.out _).mono ?_
  rintro e w2 ⟨rfl, hb2⟩
  have hb := ((Below.refl _ w).alloc (Nat.le_refl _) (.cells #[.int .i64 n] 3)).trans (hb2.mono (by simp))
  go_wp2
  go_ret2
  exact ⟨none, 0, rfl, World.ownsRow_nil _ _ _ _, hb⟩
end Go.Proofs.Ytppkilkfmclpkaa

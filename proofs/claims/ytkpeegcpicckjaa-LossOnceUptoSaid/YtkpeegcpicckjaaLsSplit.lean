/- Loss detection: contracts of split and numbers. -/
import Derived.Test.YtkpeegcpicckjaaLsFire
namespace Go.Proofs.Ytkpeegcpicckjaa
open Go.RowKit

def iv' (zs : List Int) : List Value := zs.map (Value.int .i64)
def Sp.cut (s : Sp) (ask : Pk → Bool) : Sp := { s with out := s.out.filter (fun p => !ask p) }
def Lo.cut0 (L : Lo) (ask : Pk → Bool) : Lo := { L with s0 := L.s0.cut ask }
def Lo.cut1 (L : Lo) (ask : Pk → Bool) : Lo := { L with s1 := L.s1.cut ask }
def Lo.cut2 (L : Lo) (ask : Pk → Bool) : Lo := { L with s2 := L.s2.cut ask }
/-- a row of packets in fresh memory -/
def Yes (w : World) (B : Nat) (a : Option Addr) (c : Nat) (l : List Pk) : Prop := w.ownsRow B 68 4 (.slice a l.length c) l.length (pv l)
theorem filter_snoc (ask : Pk → Bool) (l : List Pk) (k : Nat) (h : k < l.length) : (l.take (k + 1)).filter ask = (l.take k).filter ask ++ (if ask l[k] then [l[k]] else []) := by
  rw [List.take_succ_eq_append_getElem h, List.filter_append]
  congr 1
  by_cases ha : ask l[k] = true
  · rw [if_pos ha]; simp [ha]
  · rw [if_neg ha]; simp [ha]

set_option maxRecDepth 100000 in
set_option maxHeartbeats 4000000 in
theorem split_A0 (w : World) {F : Nat → Prop} {g : Nat} {L : Lo} (hL : LAt F w g L) (hlen : L.s0.out.length ≤ 4096) (ask : Pk → Bool) (x1 : Nat)
    (hf : ∀ w' p, Below w.heap.size w w' → p ∈ L.s0.out → Calls Try.prog 27 #[.agg #[.int .i64 p.num, .int .i64 p.size, .int .i64 p.at_, .bool p.el], .pointer (some ⟨x1, 0, none⟩)] w' (BoolOf w' (ask p))) :
    Calls Try.prog 26 #[.pointer (some ⟨g, 1, none⟩), .func (.func 27) #[] #[.pointer (some ⟨x1, 0, none⟩)]] w fun e w' => ∃ a c, e = .returned (.slice a (L.s0.out.filter ask).length c) ∧ Yes w' w.heap.size a c (L.s0.out.filter ask) ∧ Kept (fun k => k = g) w w' ∧ LAt (Fat F w w') w' g (L.cut0 ask) ∧ (∀ ad, a = some ad → ad.block < w'.heap.size) := by
  obtain ⟨a0, c0, a1, c1, a2, c2, hb, F0, Fa0, Fa1, Fa2⟩ := hL
  have d0 := hb.has.cell 1 rfl
  have HF := Lib.hid hf
  have HB := Lib.hid hb
  have hlI : (L.s0.out.length : Int) ≤ 4096 := by omega
  clear hb hf
  go_enter Try.func26, Try.ntmps26
  go_wp2_with fail
  go_loopw [4, 5, 13] (fun yv nv iv wr => ∃ (j : Nat) (ay : Option Addr) (cy : Nat) (an : Option Addr) (cn : Nat), iv = .int .i64 (j : Int) ∧ yv = .slice ay ((L.s0.out.take j).filter ask).length cy ∧ nv = .slice an ((L.s0.out.take j).filter (fun p => !ask p)).length cn ∧ j ≤ L.s0.out.length ∧
    Yes wr w.heap.size ay cy ((L.s0.out.take j).filter ask) ∧ Yes wr w.heap.size an cn ((L.s0.out.take j).filter (fun p => !ask p)) ∧ Below w.heap.size w wr ∧ (∀ ad ad', ay = some ad → an = some ad' → ad.block ≠ ad'.block)) (fun _ _ iv _ => L.s0.out.length - (intOf iv).toNat)
  case atStart => exact ⟨0, none, 0, none, 0, rfl, rfl, rfl, Nat.zero_le _, by simpa [Yes, pv] using World.ownsRow_nil _ _ _ _, by simpa [Yes, pv] using World.ownsRow_nil _ _ _ _, Below.refl _ _, by simp⟩
  case round =>
    obtain ⟨j, ay, cy, an, cn, rfl, rfl, rfl, hj, hY, hN, hB, hyn⟩ := hrel
    clear d0
    by_cases hjl : j < L.s0.out.length
    · have hjl' : (j : Int) < (L.s0.out.length : Int) := by omega
      have g2 : IntKind.i64.wrap ((j : Int) + 1) = (j : Int) + 1 := by rw [IntKind.wrap_i64]; omega
      obtain ⟨sb, hsb, e0, e1, e2, e3, s1, s2⟩ := own_pk (own_below HB.out.r0 hB) rfl hjl
      have s1' : (L.s0.out.length : Int) ≤ (c0 : Int) := by omega
      have HM := Lib.hid (List.getElem_mem hjl)
      have HS1 := Lib.hid (filter_snoc ask L.s0.out j hjl)
      have HS2 := Lib.hid (filter_snoc (fun p => !ask p) L.s0.out j hjl)
      have hl1 : ((L.s0.out.take j).filter ask).length ≤ 4096 := by have := List.length_filter_le ask (L.s0.out.take j); rw [List.length_take] at this; omega
      have hl2 : ((L.s0.out.take j).filter (fun p => !ask p)).length ≤ 4096 := by have := List.length_filter_le (fun p => !ask p) (L.s0.out.take j); rw [List.length_take] at this; omega
      generalize (L.s0.out.take j).filter ask = ly at hY HS1 hl1 ⊢
      generalize (L.s0.out.take j).filter (fun p => !ask p) = ln at hN HS2 hl2 ⊢
      generalize hp : L.s0.out[j] = p at HM HS1 HS2 e0 e1 e2 e3
      have HE := Lib.hid (fun w' hb => HF.out w' p hb HM.out)
      subst hsb
      clear hp
      -- the packet's copy
      have hal : Below wr.heap.size wr (wr.alloc (.cells #[.int .i64 p.num, .int .i64 p.size, .int .i64 p.at_, .bool p.el] 68)) := (Below.refl _ _).alloc (Nat.le_refl _) _
      have hH : Has (wr.alloc (.cells #[.int .i64 p.num, .int .i64 p.size, .int .i64 p.at_, .bool p.el] 68)) wr.heap.size 68 [.int .i64 p.num, .int .i64 p.size, .int .i64 p.at_, .bool p.el] := Has.new _ _ _
      have hBa := hB.trans (hal.mono hB.size)
      have hz := hB.size
      have hza : wr.heap.size < (wr.alloc (.cells #[.int .i64 p.num, .int .i64 p.size, .int .i64 p.at_, .bool p.el] 68)).heap.size := hH.lt
      cases hask : ask p
      · have HE0 : Hid (∀ w', Below w.heap.size w w' → Calls Try.prog 27 #[.agg #[.int .i64 p.num, .int .i64 p.size, .int .i64 p.at_, .bool p.el], .pointer (some ⟨x1, 0, none⟩)] w' (BoolOf w' false)) := Lib.hid (fun w' hb => (HE.out w' hb).mono (by
          rintro e w'' ⟨h1, h2⟩
          exact ⟨by rw [h1, hask], h2⟩))
        have HY2 : Hid ((L.s0.out.take (j + 1)).filter ask = ly) := Lib.hid (by rw [HS1.out, hask]; simp)
        have HN2 : Hid ((L.s0.out.take (j + 1)).filter (fun p => !ask p) = ln ++ [p]) := Lib.hid (by rw [HS2.out, hask]; simp)
        clear hask
        go_wp2_with fail
        refine (HE0.out _ hBa).mono ?_
        rintro e w2 ⟨rfl, hb2⟩
        have hB2 := hBa.trans (hb2.mono (by omega))
        have hH2 := hH.kept (Kept.of_below (X := none') hb2) (fun h => h)
        have u0 := hH2.cell 0 rfl
        have u1 := hH2.cell 1 rfl
        have u2 := hH2.cell 2 rfl
        have u3 := hH2.cell 3 rfl
        have z2 := hb2.size
        have hal2 : Below w2.heap.size w2 (w2.alloc (.cells #[.int .i64 p.num, .int .i64 p.size, .int .i64 p.at_, .bool p.el] 68)) := (Below.refl _ _).alloc (Nat.le_refl _) _
        have hN' := own_below (own_below (own_below hN hal) hb2) hal2
        have hY' := own_below (own_below (own_below hY hal) hb2) hal2
        obtain ⟨a4, c4', w4, hr4, ho4, hg4, hno4⟩ := run_app_pk (tyo := 59) (p := p) (b := w2.heap.size) hN' (heap_alloc_new w2 _) (by omega) (by have := hal2.size; omega)
        have k4 := Kept.of_grown hg4
        have zal2 : (w2.alloc (.cells #[.int .i64 p.num, .int .i64 p.size, .int .i64 p.at_, .bool p.el] 68)).heap.size = w2.heap.size + 1 := by simp
        have HREL : Hid (Yes w4 w.heap.size ay cy ly ∧ Yes w4 w.heap.size a4 c4' (ln ++ [p]) ∧ Below w.heap.size w w4 ∧ (∀ ad ad', ay = some ad → a4 = some ad' → ad.block ≠ ad'.block)) := Lib.hid (by
          refine ⟨own_kept' hY' k4 (fun ad ha e => ?_), ?_, (hB2.trans (hal2.mono hB2.size)).grown hg4 (by omega) (fun k hk => ?_), fun ad ad' ha ha' => ?_⟩
          · cases han : an with
            | none => rw [han] at e; cases e
            | some yy => rw [han] at e; exact hyn ad yy ha han (by simpa [Value.ownBlock] using e.symm)
          · show w4.ownsRow _ _ 4 (.slice a4 (ln ++ [p]).length c4') (ln ++ [p]).length _
            rw [List.length_append]
            exact ho4
          · cases han : an with
            | none => rw [han] at hk; cases hk
            | some yy => rw [han] at hk; simp only [Value.ownBlock, Option.some.injEq] at hk; have := ownblk hN han; omega
          · rcases newOr_at hno4 ha' with ⟨yy, hyy, e⟩ | e
            · rw [← e]; exact hyn ad yy ha hyy
            · have := own_at hY' ha; omega)
        clear hal2 hN' hY' ho4 hg4 hno4 k4 hH2 hY hN hyn
        go_wp2_with (at_builtin; refine Lib.wpList_append_run _ rfl _ _ _ _ rfl (.slice an ln.length cn) (.slice (some ⟨w2.heap.size, 0, none⟩) 1 1) rfl rfl _ _ hr4 ?_)
        go_roundw
        case rel => exact ⟨j + 1, ay, cy, a4, c4', by push_cast; rfl, by rw [HY2.out], by rw [HN2.out, List.length_append]; rfl, by omega, by rw [HY2.out]; exact HREL.out.1, by rw [HN2.out]; exact HREL.out.2.1, HREL.out.2.2.1, HREL.out.2.2.2⟩
        case measure => simp [intOf]; omega
      · have HE0 : Hid (∀ w', Below w.heap.size w w' → Calls Try.prog 27 #[.agg #[.int .i64 p.num, .int .i64 p.size, .int .i64 p.at_, .bool p.el], .pointer (some ⟨x1, 0, none⟩)] w' (BoolOf w' true)) := Lib.hid (fun w' hb => (HE.out w' hb).mono (by
          rintro e w'' ⟨h1, h2⟩
          exact ⟨by rw [h1, hask], h2⟩))
        have HY2 : Hid ((L.s0.out.take (j + 1)).filter ask = ly ++ [p]) := Lib.hid (by rw [HS1.out, hask]; simp)
        have HN2 : Hid ((L.s0.out.take (j + 1)).filter (fun p => !ask p) = ln) := Lib.hid (by rw [HS2.out, hask]; simp)
        clear hask
        go_wp2_with fail
        refine (HE0.out _ hBa).mono ?_
        rintro e w2 ⟨rfl, hb2⟩
        have hB2 := hBa.trans (hb2.mono (by omega))
        have hH2 := hH.kept (Kept.of_below (X := none') hb2) (fun h => h)
        have u0 := hH2.cell 0 rfl
        have u1 := hH2.cell 1 rfl
        have u2 := hH2.cell 2 rfl
        have u3 := hH2.cell 3 rfl
        have z2 := hb2.size
        have hal2 : Below w2.heap.size w2 (w2.alloc (.cells #[.int .i64 p.num, .int .i64 p.size, .int .i64 p.at_, .bool p.el] 68)) := (Below.refl _ _).alloc (Nat.le_refl _) _
        have hN' := own_below (own_below (own_below hN hal) hb2) hal2
        have hY' := own_below (own_below (own_below hY hal) hb2) hal2
        obtain ⟨a4, c4', w4, hr4, ho4, hg4, hno4⟩ := run_app_pk (tyo := 59) (p := p) (b := w2.heap.size) hY' (heap_alloc_new w2 _) (by omega) (by have := hal2.size; omega)
        have k4 := Kept.of_grown hg4
        have zal2 : (w2.alloc (.cells #[.int .i64 p.num, .int .i64 p.size, .int .i64 p.at_, .bool p.el] 68)).heap.size = w2.heap.size + 1 := by simp
        have HREL : Hid (Yes w4 w.heap.size a4 c4' (ly ++ [p]) ∧ Yes w4 w.heap.size an cn ln ∧ Below w.heap.size w w4 ∧ (∀ ad ad', a4 = some ad → an = some ad' → ad.block ≠ ad'.block)) := Lib.hid (by
          refine ⟨?_, own_kept' hN' k4 (fun ad ha e => ?_), (hB2.trans (hal2.mono hB2.size)).grown hg4 (by omega) (fun k hk => ?_), fun ad ad' ha ha' => ?_⟩
          · show w4.ownsRow _ _ 4 (.slice a4 (ly ++ [p]).length c4') (ly ++ [p]).length _
            rw [List.length_append]
            exact ho4
          · cases hay : ay with
            | none => rw [hay] at e; cases e
            | some yy => rw [hay] at e; exact hyn yy ad hay ha (by simpa [Value.ownBlock] using e)
          · cases hay : ay with
            | none => rw [hay] at hk; cases hk
            | some yy => rw [hay] at hk; simp only [Value.ownBlock, Option.some.injEq] at hk; have := ownblk hY hay; omega
          · rcases newOr_at hno4 ha with ⟨yy, hyy, e⟩ | e
            · rw [← e]; exact hyn yy ad' hyy ha'
            · have := own_at hN' ha'; omega)
        clear hal2 hN' hY' ho4 hg4 hno4 k4 hH2 hY hN hyn
        go_wp2_with (at_builtin; refine Lib.wpList_append_run _ rfl _ _ _ _ rfl (.slice ay ly.length cy) (.slice (some ⟨w2.heap.size, 0, none⟩) 1 1) rfl rfl _ _ hr4 ?_)
        go_roundw
        case rel => exact ⟨j + 1, a4, c4', an, cn, by push_cast; rfl, by rw [HY2.out, List.length_append]; rfl, by rw [HN2.out], by omega, by rw [HY2.out]; exact HREL.out.1, by rw [HN2.out]; exact HREL.out.2.1, HREL.out.2.2.1, HREL.out.2.2.2⟩
        case measure => simp [intOf]; omega
    · obtain rfl : j = L.s0.out.length := by omega
      rw [List.take_length] at hY hN ⊢
      have B := HB.out.below hB
      have d0 := B.has.cell 1 rfl
      have d0f := B.has.free 1
      have ks := Kept.set wr g 1 (.slice an (L.s0.out.filter (fun p => !ask p)).length cn)
      have hg0 := HB.out.has.lt
      have HRES : Hid (Yes (wr.setCell ⟨g, 1, none⟩ (.slice an (L.s0.out.filter (fun p => !ask p)).length cn)) w.heap.size ay cy (L.s0.out.filter ask) ∧ Kept (fun k => k = g) w (wr.setCell ⟨g, 1, none⟩ (.slice an (L.s0.out.filter (fun p => !ask p)).length cn)) ∧
          LAt (Fat F w (wr.setCell ⟨g, 1, none⟩ (.slice an (L.s0.out.filter (fun p => !ask p)).length cn))) (wr.setCell ⟨g, 1, none⟩ (.slice an (L.s0.out.filter (fun p => !ask p)).length cn)) g (L.cut0 ask) ∧ (∀ ad, ay = some ad → ad.block < (wr.setCell ⟨g, 1, none⟩ (.slice an (L.s0.out.filter (fun p => !ask p)).length cn)).heap.size)) := Lib.hid (by
        have hgY : ∀ ad, ay = some ad → ad.block ≠ g := fun ad ha e => by have := ownblk hY ha; omega
        have hgN : ∀ ad, an = some ad → ad.block ≠ g := fun ad ha e => by have := ownblk hN ha; omega
        have hY5 := own_kept' hY ks (fun ad ha e => hgY ad ha e)
        have hN5 := own_kept' hN ks (fun ad ha e => hgN ad ha e)
        refine ⟨hY5, (Kept.of_below hB).trans ks (fun _ _ e => e), ⟨an, cn, a1, c1, a2, c2, ⟨?_, own_mono hN5 (Nat.zero_le _), own_kept' B.r1 ks (fun ad ha e => B.g1 ad ha e), own_kept' B.r2 ks (fun ad ha e => B.g2 ad ha e), hgN, B.g1, B.g2, (fun ad ad' ha ha' e => by have := ownblk hN ha; have := own_at HB.out.r1 ha'; omega), (fun ad ad' ha ha' e => by have := ownblk hN ha; have := own_at HB.out.r2 ha'; omega), B.d12⟩, .inl F0, (fun ad ha => .inr ⟨ownblk hN ha, own_at hN5 ha⟩), (fun ad ha => .inl (Fa1 ad ha)), (fun ad ha => .inl (Fa2 ad ha))⟩, fun ad ha => own_at hY5 ha⟩
        have e : lcells (L.cut0 ask) an cn a1 c1 a2 c2 = (lcells L a0 c0 a1 c1 a2 c2).set 1 (.slice an (L.s0.out.filter (fun p => !ask p)).length cn) := rfl
        rw [e]
        exact B.has.set 1 _)
      clear ks B hY hN hyn
      go_wp2
      go_ret
      exact ⟨ay, cy, rfl, HRES.out.1, HRES.out.2.1, HRES.out.2.2.1, HRES.out.2.2.2⟩

set_option maxRecDepth 100000 in
set_option maxHeartbeats 4000000 in
theorem split_A1 (w : World) {F : Nat → Prop} {g : Nat} {L : Lo} (hL : LAt F w g L) (hlen : L.s1.out.length ≤ 4096) (ask : Pk → Bool) (x1 : Nat)
    (hf : ∀ w' p, Below w.heap.size w w' → p ∈ L.s1.out → Calls Try.prog 27 #[.agg #[.int .i64 p.num, .int .i64 p.size, .int .i64 p.at_, .bool p.el], .pointer (some ⟨x1, 0, none⟩)] w' (BoolOf w' (ask p))) :
    Calls Try.prog 26 #[.pointer (some ⟨g, 6, none⟩), .func (.func 27) #[] #[.pointer (some ⟨x1, 0, none⟩)]] w fun e w' => ∃ a c, e = .returned (.slice a (L.s1.out.filter ask).length c) ∧ Yes w' w.heap.size a c (L.s1.out.filter ask) ∧ Kept (fun k => k = g) w w' ∧ LAt (Fat F w w') w' g (L.cut1 ask) ∧ (∀ ad, a = some ad → ad.block < w'.heap.size) := by
  obtain ⟨a0, c0, a1, c1, a2, c2, hb, F0, Fa0, Fa1, Fa2⟩ := hL
  have d0 := hb.has.cell 6 rfl
  have HF := Lib.hid hf
  have HB := Lib.hid hb
  have hlI : (L.s1.out.length : Int) ≤ 4096 := by omega
  clear hb hf
  go_enter Try.func26, Try.ntmps26
  go_wp2_with fail
  go_loopw [4, 5, 13] (fun yv nv iv wr => ∃ (j : Nat) (ay : Option Addr) (cy : Nat) (an : Option Addr) (cn : Nat), iv = .int .i64 (j : Int) ∧ yv = .slice ay ((L.s1.out.take j).filter ask).length cy ∧ nv = .slice an ((L.s1.out.take j).filter (fun p => !ask p)).length cn ∧ j ≤ L.s1.out.length ∧
    Yes wr w.heap.size ay cy ((L.s1.out.take j).filter ask) ∧ Yes wr w.heap.size an cn ((L.s1.out.take j).filter (fun p => !ask p)) ∧ Below w.heap.size w wr ∧ (∀ ad ad', ay = some ad → an = some ad' → ad.block ≠ ad'.block)) (fun _ _ iv _ => L.s1.out.length - (intOf iv).toNat)
  case atStart => exact ⟨0, none, 0, none, 0, rfl, rfl, rfl, Nat.zero_le _, by simpa [Yes, pv] using World.ownsRow_nil _ _ _ _, by simpa [Yes, pv] using World.ownsRow_nil _ _ _ _, Below.refl _ _, by simp⟩
  case round =>
    obtain ⟨j, ay, cy, an, cn, rfl, rfl, rfl, hj, hY, hN, hB, hyn⟩ := hrel
    clear d0
    by_cases hjl : j < L.s1.out.length
    · have hjl' : (j : Int) < (L.s1.out.length : Int) := by omega
      have g2 : IntKind.i64.wrap ((j : Int) + 1) = (j : Int) + 1 := by rw [IntKind.wrap_i64]; omega
      obtain ⟨sb, hsb, e0, e1, e2, e3, s1, s2⟩ := own_pk (own_below HB.out.r1 hB) rfl hjl
      have s1' : (L.s1.out.length : Int) ≤ (c1 : Int) := by omega
      have HM := Lib.hid (List.getElem_mem hjl)
      have HS1 := Lib.hid (filter_snoc ask L.s1.out j hjl)
      have HS2 := Lib.hid (filter_snoc (fun p => !ask p) L.s1.out j hjl)
      have hl1 : ((L.s1.out.take j).filter ask).length ≤ 4096 := by have := List.length_filter_le ask (L.s1.out.take j); rw [List.length_take] at this; omega
      have hl2 : ((L.s1.out.take j).filter (fun p => !ask p)).length ≤ 4096 := by have := List.length_filter_le (fun p => !ask p) (L.s1.out.take j); rw [List.length_take] at this; omega
      generalize (L.s1.out.take j).filter ask = ly at hY HS1 hl1 ⊢
      generalize (L.s1.out.take j).filter (fun p => !ask p) = ln at hN HS2 hl2 ⊢
      generalize hp : L.s1.out[j] = p at HM HS1 HS2 e0 e1 e2 e3
      have HE := Lib.hid (fun w' hb => HF.out w' p hb HM.out)
      subst hsb
      clear hp
      -- the packet's copy
      have hal : Below wr.heap.size wr (wr.alloc (.cells #[.int .i64 p.num, .int .i64 p.size, .int .i64 p.at_, .bool p.el] 68)) := (Below.refl _ _).alloc (Nat.le_refl _) _
      have hH : Has (wr.alloc (.cells #[.int .i64 p.num, .int .i64 p.size, .int .i64 p.at_, .bool p.el] 68)) wr.heap.size 68 [.int .i64 p.num, .int .i64 p.size, .int .i64 p.at_, .bool p.el] := Has.new _ _ _
      have hBa := hB.trans (hal.mono hB.size)
      have hz := hB.size
      have hza : wr.heap.size < (wr.alloc (.cells #[.int .i64 p.num, .int .i64 p.size, .int .i64 p.at_, .bool p.el] 68)).heap.size := hH.lt
      cases hask : ask p
      · have HE0 : Hid (∀ w', Below w.heap.size w w' → Calls Try.prog 27 #[.agg #[.int .i64 p.num, .int .i64 p.size, .int .i64 p.at_, .bool p.el], .pointer (some ⟨x1, 0, none⟩)] w' (BoolOf w' false)) := Lib.hid (fun w' hb => (HE.out w' hb).mono (by
          rintro e w'' ⟨h1, h2⟩
          exact ⟨by rw [h1, hask], h2⟩))
        have HY2 : Hid ((L.s1.out.take (j + 1)).filter ask = ly) := Lib.hid (by rw [HS1.out, hask]; simp)
        have HN2 : Hid ((L.s1.out.take (j + 1)).filter (fun p => !ask p) = ln ++ [p]) := Lib.hid (by rw [HS2.out, hask]; simp)
        clear hask
        go_wp2_with fail
        refine (HE0.out _ hBa).mono ?_
        rintro e w2 ⟨rfl, hb2⟩
        have hB2 := hBa.trans (hb2.mono (by omega))
        have hH2 := hH.kept (Kept.of_below (X := none') hb2) (fun h => h)
        have u0 := hH2.cell 0 rfl
        have u1 := hH2.cell 1 rfl
        have u2 := hH2.cell 2 rfl
        have u3 := hH2.cell 3 rfl
        have z2 := hb2.size
        have hal2 : Below w2.heap.size w2 (w2.alloc (.cells #[.int .i64 p.num, .int .i64 p.size, .int .i64 p.at_, .bool p.el] 68)) := (Below.refl _ _).alloc (Nat.le_refl _) _
        have hN' := own_below (own_below (own_below hN hal) hb2) hal2
        have hY' := own_below (own_below (own_below hY hal) hb2) hal2
        obtain ⟨a4, c4', w4, hr4, ho4, hg4, hno4⟩ := run_app_pk (tyo := 59) (p := p) (b := w2.heap.size) hN' (heap_alloc_new w2 _) (by omega) (by have := hal2.size; omega)
        have k4 := Kept.of_grown hg4
        have zal2 : (w2.alloc (.cells #[.int .i64 p.num, .int .i64 p.size, .int .i64 p.at_, .bool p.el] 68)).heap.size = w2.heap.size + 1 := by simp
        have HREL : Hid (Yes w4 w.heap.size ay cy ly ∧ Yes w4 w.heap.size a4 c4' (ln ++ [p]) ∧ Below w.heap.size w w4 ∧ (∀ ad ad', ay = some ad → a4 = some ad' → ad.block ≠ ad'.block)) := Lib.hid (by
          refine ⟨own_kept' hY' k4 (fun ad ha e => ?_), ?_, (hB2.trans (hal2.mono hB2.size)).grown hg4 (by omega) (fun k hk => ?_), fun ad ad' ha ha' => ?_⟩
          · cases han : an with
            | none => rw [han] at e; cases e
            | some yy => rw [han] at e; exact hyn ad yy ha han (by simpa [Value.ownBlock] using e.symm)
          · show w4.ownsRow _ _ 4 (.slice a4 (ln ++ [p]).length c4') (ln ++ [p]).length _
            rw [List.length_append]
            exact ho4
          · cases han : an with
            | none => rw [han] at hk; cases hk
            | some yy => rw [han] at hk; simp only [Value.ownBlock, Option.some.injEq] at hk; have := ownblk hN han; omega
          · rcases newOr_at hno4 ha' with ⟨yy, hyy, e⟩ | e
            · rw [← e]; exact hyn ad yy ha hyy
            · have := own_at hY' ha; omega)
        clear hal2 hN' hY' ho4 hg4 hno4 k4 hH2 hY hN hyn
        go_wp2_with (at_builtin; refine Lib.wpList_append_run _ rfl _ _ _ _ rfl (.slice an ln.length cn) (.slice (some ⟨w2.heap.size, 0, none⟩) 1 1) rfl rfl _ _ hr4 ?_)
        go_roundw
        case rel => exact ⟨j + 1, ay, cy, a4, c4', by push_cast; rfl, by rw [HY2.out], by rw [HN2.out, List.length_append]; rfl, by omega, by rw [HY2.out]; exact HREL.out.1, by rw [HN2.out]; exact HREL.out.2.1, HREL.out.2.2.1, HREL.out.2.2.2⟩
        case measure => simp [intOf]; omega
      · have HE0 : Hid (∀ w', Below w.heap.size w w' → Calls Try.prog 27 #[.agg #[.int .i64 p.num, .int .i64 p.size, .int .i64 p.at_, .bool p.el], .pointer (some ⟨x1, 0, none⟩)] w' (BoolOf w' true)) := Lib.hid (fun w' hb => (HE.out w' hb).mono (by
          rintro e w'' ⟨h1, h2⟩
          exact ⟨by rw [h1, hask], h2⟩))
        have HY2 : Hid ((L.s1.out.take (j + 1)).filter ask = ly ++ [p]) := Lib.hid (by rw [HS1.out, hask]; simp)
        have HN2 : Hid ((L.s1.out.take (j + 1)).filter (fun p => !ask p) = ln) := Lib.hid (by rw [HS2.out, hask]; simp)
        clear hask
        go_wp2_with fail
        refine (HE0.out _ hBa).mono ?_
        rintro e w2 ⟨rfl, hb2⟩
        have hB2 := hBa.trans (hb2.mono (by omega))
        have hH2 := hH.kept (Kept.of_below (X := none') hb2) (fun h => h)
        have u0 := hH2.cell 0 rfl
        have u1 := hH2.cell 1 rfl
        have u2 := hH2.cell 2 rfl
        have u3 := hH2.cell 3 rfl
        have z2 := hb2.size
        have hal2 : Below w2.heap.size w2 (w2.alloc (.cells #[.int .i64 p.num, .int .i64 p.size, .int .i64 p.at_, .bool p.el] 68)) := (Below.refl _ _).alloc (Nat.le_refl _) _
        have hN' := own_below (own_below (own_below hN hal) hb2) hal2
        have hY' := own_below (own_below (own_below hY hal) hb2) hal2
        obtain ⟨a4, c4', w4, hr4, ho4, hg4, hno4⟩ := run_app_pk (tyo := 59) (p := p) (b := w2.heap.size) hY' (heap_alloc_new w2 _) (by omega) (by have := hal2.size; omega)
        have k4 := Kept.of_grown hg4
        have zal2 : (w2.alloc (.cells #[.int .i64 p.num, .int .i64 p.size, .int .i64 p.at_, .bool p.el] 68)).heap.size = w2.heap.size + 1 := by simp
        have HREL : Hid (Yes w4 w.heap.size a4 c4' (ly ++ [p]) ∧ Yes w4 w.heap.size an cn ln ∧ Below w.heap.size w w4 ∧ (∀ ad ad', a4 = some ad → an = some ad' → ad.block ≠ ad'.block)) := Lib.hid (by
          refine ⟨?_, own_kept' hN' k4 (fun ad ha e => ?_), (hB2.trans (hal2.mono hB2.size)).grown hg4 (by omega) (fun k hk => ?_), fun ad ad' ha ha' => ?_⟩
          · show w4.ownsRow _ _ 4 (.slice a4 (ly ++ [p]).length c4') (ly ++ [p]).length _
            rw [List.length_append]
            exact ho4
          · cases hay : ay with
            | none => rw [hay] at e; cases e
            | some yy => rw [hay] at e; exact hyn yy ad hay ha (by simpa [Value.ownBlock] using e)
          · cases hay : ay with
            | none => rw [hay] at hk; cases hk
            | some yy => rw [hay] at hk; simp only [Value.ownBlock, Option.some.injEq] at hk; have := ownblk hY hay; omega
          · rcases newOr_at hno4 ha with ⟨yy, hyy, e⟩ | e
            · rw [← e]; exact hyn yy ad' hyy ha'
            · have := own_at hN' ha'; omega)
        clear hal2 hN' hY' ho4 hg4 hno4 k4 hH2 hY hN hyn
        go_wp2_with (at_builtin; refine Lib.wpList_append_run _ rfl _ _ _ _ rfl (.slice ay ly.length cy) (.slice (some ⟨w2.heap.size, 0, none⟩) 1 1) rfl rfl _ _ hr4 ?_)
        go_roundw
        case rel => exact ⟨j + 1, a4, c4', an, cn, by push_cast; rfl, by rw [HY2.out, List.length_append]; rfl, by rw [HN2.out], by omega, by rw [HY2.out]; exact HREL.out.1, by rw [HN2.out]; exact HREL.out.2.1, HREL.out.2.2.1, HREL.out.2.2.2⟩
        case measure => simp [intOf]; omega
    · obtain rfl : j = L.s1.out.length := by omega
      rw [List.take_length] at hY hN ⊢
      have B := HB.out.below hB
      have d0 := B.has.cell 6 rfl
      have d0f := B.has.free 6
      have ks := Kept.set wr g 6 (.slice an (L.s1.out.filter (fun p => !ask p)).length cn)
      have hg0 := HB.out.has.lt
      have HRES : Hid (Yes (wr.setCell ⟨g, 6, none⟩ (.slice an (L.s1.out.filter (fun p => !ask p)).length cn)) w.heap.size ay cy (L.s1.out.filter ask) ∧ Kept (fun k => k = g) w (wr.setCell ⟨g, 6, none⟩ (.slice an (L.s1.out.filter (fun p => !ask p)).length cn)) ∧
          LAt (Fat F w (wr.setCell ⟨g, 6, none⟩ (.slice an (L.s1.out.filter (fun p => !ask p)).length cn))) (wr.setCell ⟨g, 6, none⟩ (.slice an (L.s1.out.filter (fun p => !ask p)).length cn)) g (L.cut1 ask) ∧ (∀ ad, ay = some ad → ad.block < (wr.setCell ⟨g, 6, none⟩ (.slice an (L.s1.out.filter (fun p => !ask p)).length cn)).heap.size)) := Lib.hid (by
        have hgY : ∀ ad, ay = some ad → ad.block ≠ g := fun ad ha e => by have := ownblk hY ha; omega
        have hgN : ∀ ad, an = some ad → ad.block ≠ g := fun ad ha e => by have := ownblk hN ha; omega
        have hY5 := own_kept' hY ks (fun ad ha e => hgY ad ha e)
        have hN5 := own_kept' hN ks (fun ad ha e => hgN ad ha e)
        refine ⟨hY5, (Kept.of_below hB).trans ks (fun _ _ e => e), ⟨a0, c0, an, cn, a2, c2, ⟨?_, own_kept' B.r0 ks (fun ad ha e => B.g0 ad ha e), own_mono hN5 (Nat.zero_le _), own_kept' B.r2 ks (fun ad ha e => B.g2 ad ha e), B.g0, hgN, B.g2, (fun ad ad' ha ha' e => by have := ownblk hN ha'; have := own_at HB.out.r0 ha; omega), B.d02, (fun ad ad' ha ha' e => by have := ownblk hN ha; have := own_at HB.out.r2 ha'; omega)⟩, .inl F0, (fun ad ha => .inl (Fa0 ad ha)), (fun ad ha => .inr ⟨ownblk hN ha, own_at hN5 ha⟩), (fun ad ha => .inl (Fa2 ad ha))⟩, fun ad ha => own_at hY5 ha⟩
        have e : lcells (L.cut1 ask) a0 c0 an cn a2 c2 = (lcells L a0 c0 a1 c1 a2 c2).set 6 (.slice an (L.s1.out.filter (fun p => !ask p)).length cn) := rfl
        rw [e]
        exact B.has.set 6 _)
      clear ks B hY hN hyn
      go_wp2
      go_ret
      exact ⟨ay, cy, rfl, HRES.out.1, HRES.out.2.1, HRES.out.2.2.1, HRES.out.2.2.2⟩

set_option maxRecDepth 100000 in
set_option maxHeartbeats 4000000 in
theorem split_A2 (w : World) {F : Nat → Prop} {g : Nat} {L : Lo} (hL : LAt F w g L) (hlen : L.s2.out.length ≤ 4096) (ask : Pk → Bool) (x1 : Nat)
    (hf : ∀ w' p, Below w.heap.size w w' → p ∈ L.s2.out → Calls Try.prog 27 #[.agg #[.int .i64 p.num, .int .i64 p.size, .int .i64 p.at_, .bool p.el], .pointer (some ⟨x1, 0, none⟩)] w' (BoolOf w' (ask p))) :
    Calls Try.prog 26 #[.pointer (some ⟨g, 11, none⟩), .func (.func 27) #[] #[.pointer (some ⟨x1, 0, none⟩)]] w fun e w' => ∃ a c, e = .returned (.slice a (L.s2.out.filter ask).length c) ∧ Yes w' w.heap.size a c (L.s2.out.filter ask) ∧ Kept (fun k => k = g) w w' ∧ LAt (Fat F w w') w' g (L.cut2 ask) ∧ (∀ ad, a = some ad → ad.block < w'.heap.size) := by
  obtain ⟨a0, c0, a1, c1, a2, c2, hb, F0, Fa0, Fa1, Fa2⟩ := hL
  have d0 := hb.has.cell 11 rfl
  have HF := Lib.hid hf
  have HB := Lib.hid hb
  have hlI : (L.s2.out.length : Int) ≤ 4096 := by omega
  clear hb hf
  go_enter Try.func26, Try.ntmps26
  go_wp2_with fail
  go_loopw [4, 5, 13] (fun yv nv iv wr => ∃ (j : Nat) (ay : Option Addr) (cy : Nat) (an : Option Addr) (cn : Nat), iv = .int .i64 (j : Int) ∧ yv = .slice ay ((L.s2.out.take j).filter ask).length cy ∧ nv = .slice an ((L.s2.out.take j).filter (fun p => !ask p)).length cn ∧ j ≤ L.s2.out.length ∧
    Yes wr w.heap.size ay cy ((L.s2.out.take j).filter ask) ∧ Yes wr w.heap.size an cn ((L.s2.out.take j).filter (fun p => !ask p)) ∧ Below w.heap.size w wr ∧ (∀ ad ad', ay = some ad → an = some ad' → ad.block ≠ ad'.block)) (fun _ _ iv _ => L.s2.out.length - (intOf iv).toNat)
  case atStart => exact ⟨0, none, 0, none, 0, rfl, rfl, rfl, Nat.zero_le _, by simpa [Yes, pv] using World.ownsRow_nil _ _ _ _, by simpa [Yes, pv] using World.ownsRow_nil _ _ _ _, Below.refl _ _, by simp⟩
  case round =>
    obtain ⟨j, ay, cy, an, cn, rfl, rfl, rfl, hj, hY, hN, hB, hyn⟩ := hrel
    clear d0
    by_cases hjl : j < L.s2.out.length
    · have hjl' : (j : Int) < (L.s2.out.length : Int) := by omega
      have g2 : IntKind.i64.wrap ((j : Int) + 1) = (j : Int) + 1 := by rw [IntKind.wrap_i64]; omega
      obtain ⟨sb, hsb, e0, e1, e2, e3, s1, s2⟩ := own_pk (own_below HB.out.r2 hB) rfl hjl
      have s1' : (L.s2.out.length : Int) ≤ (c2 : Int) := by omega
      have HM := Lib.hid (List.getElem_mem hjl)
      have HS1 := Lib.hid (filter_snoc ask L.s2.out j hjl)
      have HS2 := Lib.hid (filter_snoc (fun p => !ask p) L.s2.out j hjl)
      have hl1 : ((L.s2.out.take j).filter ask).length ≤ 4096 := by have := List.length_filter_le ask (L.s2.out.take j); rw [List.length_take] at this; omega
      have hl2 : ((L.s2.out.take j).filter (fun p => !ask p)).length ≤ 4096 := by have := List.length_filter_le (fun p => !ask p) (L.s2.out.take j); rw [List.length_take] at this; omega
      generalize (L.s2.out.take j).filter ask = ly at hY HS1 hl1 ⊢
      generalize (L.s2.out.take j).filter (fun p => !ask p) = ln at hN HS2 hl2 ⊢
      generalize hp : L.s2.out[j] = p at HM HS1 HS2 e0 e1 e2 e3
      have HE := Lib.hid (fun w' hb => HF.out w' p hb HM.out)
      subst hsb
      clear hp
      -- the packet's copy
      have hal : Below wr.heap.size wr (wr.alloc (.cells #[.int .i64 p.num, .int .i64 p.size, .int .i64 p.at_, .bool p.el] 68)) := (Below.refl _ _).alloc (Nat.le_refl _) _
      have hH : Has (wr.alloc (.cells #[.int .i64 p.num, .int .i64 p.size, .int .i64 p.at_, .bool p.el] 68)) wr.heap.size 68 [.int .i64 p.num, .int .i64 p.size, .int .i64 p.at_, .bool p.el] := Has.new _ _ _
      have hBa := hB.trans (hal.mono hB.size)
      have hz := hB.size
      have hza : wr.heap.size < (wr.alloc (.cells #[.int .i64 p.num, .int .i64 p.size, .int .i64 p.at_, .bool p.el] 68)).heap.size := hH.lt
      cases hask : ask p
      · have HE0 : Hid (∀ w', Below w.heap.size w w' → Calls Try.prog 27 #[.agg #[.int .i64 p.num, .int .i64 p.size, .int .i64 p.at_, .bool p.el], .pointer (some ⟨x1, 0, none⟩)] w' (BoolOf w' false)) := Lib.hid (fun w' hb => (HE.out w' hb).mono (by
          rintro e w'' ⟨h1, h2⟩
          exact ⟨by rw [h1, hask], h2⟩))
        have HY2 : Hid ((L.s2.out.take (j + 1)).filter ask = ly) := Lib.hid (by rw [HS1.out, hask]; simp)
        have HN2 : Hid ((L.s2.out.take (j + 1)).filter (fun p => !ask p) = ln ++ [p]) := Lib.hid (by rw [HS2.out, hask]; simp)
        clear hask
        go_wp2_with fail
        refine (HE0.out _ hBa).mono ?_
        rintro e w2 ⟨rfl, hb2⟩
        have hB2 := hBa.trans (hb2.mono (by omega))
        have hH2 := hH.kept (Kept.of_below (X := none') hb2) (fun h => h)
        have u0 := hH2.cell 0 rfl
        have u1 := hH2.cell 1 rfl
        have u2 := hH2.cell 2 rfl
        have u3 := hH2.cell 3 rfl
        have z2 := hb2.size
        have hal2 : Below w2.heap.size w2 (w2.alloc (.cells #[.int .i64 p.num, .int .i64 p.size, .int .i64 p.at_, .bool p.el] 68)) := (Below.refl _ _).alloc (Nat.le_refl _) _
        have hN' := own_below (own_below (own_below hN hal) hb2) hal2
        have hY' := own_below (own_below (own_below hY hal) hb2) hal2
        obtain ⟨a4, c4', w4, hr4, ho4, hg4, hno4⟩ := run_app_pk (tyo := 59) (p := p) (b := w2.heap.size) hN' (heap_alloc_new w2 _) (by omega) (by have := hal2.size; omega)
        have k4 := Kept.of_grown hg4
        have zal2 : (w2.alloc (.cells #[.int .i64 p.num, .int .i64 p.size, .int .i64 p.at_, .bool p.el] 68)).heap.size = w2.heap.size + 1 := by simp
        have HREL : Hid (Yes w4 w.heap.size ay cy ly ∧ Yes w4 w.heap.size a4 c4' (ln ++ [p]) ∧ Below w.heap.size w w4 ∧ (∀ ad ad', ay = some ad → a4 = some ad' → ad.block ≠ ad'.block)) := Lib.hid (by
          refine ⟨own_kept' hY' k4 (fun ad ha e => ?_), ?_, (hB2.trans (hal2.mono hB2.size)).grown hg4 (by omega) (fun k hk => ?_), fun ad ad' ha ha' => ?_⟩
          · cases han : an with
            | none => rw [han] at e; cases e
            | some yy => rw [han] at e; exact hyn ad yy ha han (by simpa [Value.ownBlock] using e.symm)
          · show w4.ownsRow _ _ 4 (.slice a4 (ln ++ [p]).length c4') (ln ++ [p]).length _
            rw [List.length_append]
            exact ho4
          · cases han : an with
            | none => rw [han] at hk; cases hk
            | some yy => rw [han] at hk; simp only [Value.ownBlock, Option.some.injEq] at hk; have := ownblk hN han; omega
          · rcases newOr_at hno4 ha' with ⟨yy, hyy, e⟩ | e
            · rw [← e]; exact hyn ad yy ha hyy
            · have := own_at hY' ha; omega)
        clear hal2 hN' hY' ho4 hg4 hno4 k4 hH2 hY hN hyn
        go_wp2_with (at_builtin; refine Lib.wpList_append_run _ rfl _ _ _ _ rfl (.slice an ln.length cn) (.slice (some ⟨w2.heap.size, 0, none⟩) 1 1) rfl rfl _ _ hr4 ?_)
        go_roundw
        case rel => exact ⟨j + 1, ay, cy, a4, c4', by push_cast; rfl, by rw [HY2.out], by rw [HN2.out, List.length_append]; rfl, by omega, by rw [HY2.out]; exact HREL.out.1, by rw [HN2.out]; exact HREL.out.2.1, HREL.out.2.2.1, HREL.out.2.2.2⟩
        case measure => simp [intOf]; omega
      · have HE0 : Hid (∀ w', Below w.heap.size w w' → Calls Try.prog 27 #[.agg #[.int .i64 p.num, .int .i64 p.size, .int .i64 p.at_, .bool p.el], .pointer (some ⟨x1, 0, none⟩)] w' (BoolOf w' true)) := Lib.hid (fun w' hb => (HE.out w' hb).mono (by
          rintro e w'' ⟨h1, h2⟩
          exact ⟨by rw [h1, hask], h2⟩))
        have HY2 : Hid ((L.s2.out.take (j + 1)).filter ask = ly ++ [p]) := Lib.hid (by rw [HS1.out, hask]; simp)
        have HN2 : Hid ((L.s2.out.take (j + 1)).filter (fun p => !ask p) = ln) := Lib.hid (by rw [HS2.out, hask]; simp)
        clear hask
        go_wp2_with fail
        refine (HE0.out _ hBa).mono ?_
        rintro e w2 ⟨rfl, hb2⟩
        have hB2 := hBa.trans (hb2.mono (by omega))
        have hH2 := hH.kept (Kept.of_below (X := none') hb2) (fun h => h)
        have u0 := hH2.cell 0 rfl
        have u1 := hH2.cell 1 rfl
        have u2 := hH2.cell 2 rfl
        have u3 := hH2.cell 3 rfl
        have z2 := hb2.size
        have hal2 : Below w2.heap.size w2 (w2.alloc (.cells #[.int .i64 p.num, .int .i64 p.size, .int .i64 p.at_, .bool p.el] 68)) := (Below.refl _ _).alloc (Nat.le_refl _) _
        have hN' := own_below (own_below (own_below hN hal) hb2) hal2
        have hY' := own_below (own_below (own_below hY hal) hb2) hal2
        obtain ⟨a4, c4', w4, hr4, ho4, hg4, hno4⟩ := run_app_pk (tyo := 59) (p := p) (b := w2.heap.size) hY' (heap_alloc_new w2 _) (by omega) (by have := hal2.size; omega)
        have k4 := Kept.of_grown hg4
        have zal2 : (w2.alloc (.cells #[.int .i64 p.num, .int .i64 p.size, .int .i64 p.at_, .bool p.el] 68)).heap.size = w2.heap.size + 1 := by simp
        have HREL : Hid (Yes w4 w.heap.size a4 c4' (ly ++ [p]) ∧ Yes w4 w.heap.size an cn ln ∧ Below w.heap.size w w4 ∧ (∀ ad ad', a4 = some ad → an = some ad' → ad.block ≠ ad'.block)) := Lib.hid (by
          refine ⟨?_, own_kept' hN' k4 (fun ad ha e => ?_), (hB2.trans (hal2.mono hB2.size)).grown hg4 (by omega) (fun k hk => ?_), fun ad ad' ha ha' => ?_⟩
          · show w4.ownsRow _ _ 4 (.slice a4 (ly ++ [p]).length c4') (ly ++ [p]).length _
            rw [List.length_append]
            exact ho4
          · cases hay : ay with
            | none => rw [hay] at e; cases e
            | some yy => rw [hay] at e; exact hyn yy ad hay ha (by simpa [Value.ownBlock] using e)
          · cases hay : ay with
            | none => rw [hay] at hk; cases hk
            | some yy => rw [hay] at hk; simp only [Value.ownBlock, Option.some.injEq] at hk; have := ownblk hY hay; omega
          · rcases newOr_at hno4 ha with ⟨yy, hyy, e⟩ | e
            · rw [← e]; exact hyn yy ad' hyy ha'
            · have := own_at hN' ha'; omega)
        clear hal2 hN' hY' ho4 hg4 hno4 k4 hH2 hY hN hyn
        go_wp2_with (at_builtin; refine Lib.wpList_append_run _ rfl _ _ _ _ rfl (.slice ay ly.length cy) (.slice (some ⟨w2.heap.size, 0, none⟩) 1 1) rfl rfl _ _ hr4 ?_)
        go_roundw
        case rel => exact ⟨j + 1, a4, c4', an, cn, by push_cast; rfl, by rw [HY2.out, List.length_append]; rfl, by rw [HN2.out], by omega, by rw [HY2.out]; exact HREL.out.1, by rw [HN2.out]; exact HREL.out.2.1, HREL.out.2.2.1, HREL.out.2.2.2⟩
        case measure => simp [intOf]; omega
    · obtain rfl : j = L.s2.out.length := by omega
      rw [List.take_length] at hY hN ⊢
      have B := HB.out.below hB
      have d0 := B.has.cell 11 rfl
      have d0f := B.has.free 11
      have ks := Kept.set wr g 11 (.slice an (L.s2.out.filter (fun p => !ask p)).length cn)
      have hg0 := HB.out.has.lt
      have HRES : Hid (Yes (wr.setCell ⟨g, 11, none⟩ (.slice an (L.s2.out.filter (fun p => !ask p)).length cn)) w.heap.size ay cy (L.s2.out.filter ask) ∧ Kept (fun k => k = g) w (wr.setCell ⟨g, 11, none⟩ (.slice an (L.s2.out.filter (fun p => !ask p)).length cn)) ∧
          LAt (Fat F w (wr.setCell ⟨g, 11, none⟩ (.slice an (L.s2.out.filter (fun p => !ask p)).length cn))) (wr.setCell ⟨g, 11, none⟩ (.slice an (L.s2.out.filter (fun p => !ask p)).length cn)) g (L.cut2 ask) ∧ (∀ ad, ay = some ad → ad.block < (wr.setCell ⟨g, 11, none⟩ (.slice an (L.s2.out.filter (fun p => !ask p)).length cn)).heap.size)) := Lib.hid (by
        have hgY : ∀ ad, ay = some ad → ad.block ≠ g := fun ad ha e => by have := ownblk hY ha; omega
        have hgN : ∀ ad, an = some ad → ad.block ≠ g := fun ad ha e => by have := ownblk hN ha; omega
        have hY5 := own_kept' hY ks (fun ad ha e => hgY ad ha e)
        have hN5 := own_kept' hN ks (fun ad ha e => hgN ad ha e)
        refine ⟨hY5, (Kept.of_below hB).trans ks (fun _ _ e => e), ⟨a0, c0, a1, c1, an, cn, ⟨?_, own_kept' B.r0 ks (fun ad ha e => B.g0 ad ha e), own_kept' B.r1 ks (fun ad ha e => B.g1 ad ha e), own_mono hN5 (Nat.zero_le _), B.g0, B.g1, hgN, B.d01, (fun ad ad' ha ha' e => by have := ownblk hN ha'; have := own_at HB.out.r0 ha; omega), (fun ad ad' ha ha' e => by have := ownblk hN ha'; have := own_at HB.out.r1 ha; omega)⟩, .inl F0, (fun ad ha => .inl (Fa0 ad ha)), (fun ad ha => .inl (Fa1 ad ha)), (fun ad ha => .inr ⟨ownblk hN ha, own_at hN5 ha⟩)⟩, fun ad ha => own_at hY5 ha⟩
        have e : lcells (L.cut2 ask) a0 c0 a1 c1 an cn = (lcells L a0 c0 a1 c1 a2 c2).set 11 (.slice an (L.s2.out.filter (fun p => !ask p)).length cn) := rfl
        rw [e]
        exact B.has.set 11 _)
      clear ks B hY hN hyn
      go_wp2
      go_ret
      exact ⟨ay, cy, rfl, HRES.out.1, HRES.out.2.1, HRES.out.2.2.1, HRES.out.2.2.2⟩

set_option maxRecDepth 100000 in
set_option maxHeartbeats 4000000 in
theorem split_F0 (w : World) {F : Nat → Prop} {g : Nat} {L : Lo} (hL : LAt F w g L) (hlen : L.s0.out.length ≤ 4096) (ask : Pk → Bool) (x1 x2 x3 : Nat)
    (hf : ∀ w' p, Below w.heap.size w w' → p ∈ L.s0.out → Calls Try.prog 36 #[.agg #[.int .i64 p.num, .int .i64 p.size, .int .i64 p.at_, .bool p.el], .pointer (some ⟨x1, 0, none⟩), .pointer (some ⟨x2, 0, none⟩), .pointer (some ⟨x3, 0, none⟩)] w' (BoolOf w' (ask p))) :
    Calls Try.prog 26 #[.pointer (some ⟨g, 1, none⟩), .func (.func 36) #[] #[.pointer (some ⟨x1, 0, none⟩), .pointer (some ⟨x2, 0, none⟩), .pointer (some ⟨x3, 0, none⟩)]] w fun e w' => ∃ a c, e = .returned (.slice a (L.s0.out.filter ask).length c) ∧ Yes w' w.heap.size a c (L.s0.out.filter ask) ∧ Kept (fun k => k = g) w w' ∧ LAt (Fat F w w') w' g (L.cut0 ask) ∧ (∀ ad, a = some ad → ad.block < w'.heap.size) := by
  obtain ⟨a0, c0, a1, c1, a2, c2, hb, F0, Fa0, Fa1, Fa2⟩ := hL
  have d0 := hb.has.cell 1 rfl
  have HF := Lib.hid hf
  have HB := Lib.hid hb
  have hlI : (L.s0.out.length : Int) ≤ 4096 := by omega
  clear hb hf
  go_enter Try.func26, Try.ntmps26
  go_wp2_with fail
  go_loopw [4, 5, 13] (fun yv nv iv wr => ∃ (j : Nat) (ay : Option Addr) (cy : Nat) (an : Option Addr) (cn : Nat), iv = .int .i64 (j : Int) ∧ yv = .slice ay ((L.s0.out.take j).filter ask).length cy ∧ nv = .slice an ((L.s0.out.take j).filter (fun p => !ask p)).length cn ∧ j ≤ L.s0.out.length ∧
    Yes wr w.heap.size ay cy ((L.s0.out.take j).filter ask) ∧ Yes wr w.heap.size an cn ((L.s0.out.take j).filter (fun p => !ask p)) ∧ Below w.heap.size w wr ∧ (∀ ad ad', ay = some ad → an = some ad' → ad.block ≠ ad'.block)) (fun _ _ iv _ => L.s0.out.length - (intOf iv).toNat)
  case atStart => exact ⟨0, none, 0, none, 0, rfl, rfl, rfl, Nat.zero_le _, by simpa [Yes, pv] using World.ownsRow_nil _ _ _ _, by simpa [Yes, pv] using World.ownsRow_nil _ _ _ _, Below.refl _ _, by simp⟩
  case round =>
    obtain ⟨j, ay, cy, an, cn, rfl, rfl, rfl, hj, hY, hN, hB, hyn⟩ := hrel
    clear d0
    by_cases hjl : j < L.s0.out.length
    · have hjl' : (j : Int) < (L.s0.out.length : Int) := by omega
      have g2 : IntKind.i64.wrap ((j : Int) + 1) = (j : Int) + 1 := by rw [IntKind.wrap_i64]; omega
      obtain ⟨sb, hsb, e0, e1, e2, e3, s1, s2⟩ := own_pk (own_below HB.out.r0 hB) rfl hjl
      have s1' : (L.s0.out.length : Int) ≤ (c0 : Int) := by omega
      have HM := Lib.hid (List.getElem_mem hjl)
      have HS1 := Lib.hid (filter_snoc ask L.s0.out j hjl)
      have HS2 := Lib.hid (filter_snoc (fun p => !ask p) L.s0.out j hjl)
      have hl1 : ((L.s0.out.take j).filter ask).length ≤ 4096 := by have := List.length_filter_le ask (L.s0.out.take j); rw [List.length_take] at this; omega
      have hl2 : ((L.s0.out.take j).filter (fun p => !ask p)).length ≤ 4096 := by have := List.length_filter_le (fun p => !ask p) (L.s0.out.take j); rw [List.length_take] at this; omega
      generalize (L.s0.out.take j).filter ask = ly at hY HS1 hl1 ⊢
      generalize (L.s0.out.take j).filter (fun p => !ask p) = ln at hN HS2 hl2 ⊢
      generalize hp : L.s0.out[j] = p at HM HS1 HS2 e0 e1 e2 e3
      have HE := Lib.hid (fun w' hb => HF.out w' p hb HM.out)
      subst hsb
      clear hp
      -- the packet's copy
      have hal : Below wr.heap.size wr (wr.alloc (.cells #[.int .i64 p.num, .int .i64 p.size, .int .i64 p.at_, .bool p.el] 68)) := (Below.refl _ _).alloc (Nat.le_refl _) _
      have hH : Has (wr.alloc (.cells #[.int .i64 p.num, .int .i64 p.size, .int .i64 p.at_, .bool p.el] 68)) wr.heap.size 68 [.int .i64 p.num, .int .i64 p.size, .int .i64 p.at_, .bool p.el] := Has.new _ _ _
      have hBa := hB.trans (hal.mono hB.size)
      have hz := hB.size
      have hza : wr.heap.size < (wr.alloc (.cells #[.int .i64 p.num, .int .i64 p.size, .int .i64 p.at_, .bool p.el] 68)).heap.size := hH.lt
      cases hask : ask p
      · have HE0 : Hid (∀ w', Below w.heap.size w w' → Calls Try.prog 36 #[.agg #[.int .i64 p.num, .int .i64 p.size, .int .i64 p.at_, .bool p.el], .pointer (some ⟨x1, 0, none⟩), .pointer (some ⟨x2, 0, none⟩), .pointer (some ⟨x3, 0, none⟩)] w' (BoolOf w' false)) := Lib.hid (fun w' hb => (HE.out w' hb).mono (by
          rintro e w'' ⟨h1, h2⟩
          exact ⟨by rw [h1, hask], h2⟩))
        have HY2 : Hid ((L.s0.out.take (j + 1)).filter ask = ly) := Lib.hid (by rw [HS1.out, hask]; simp)
        have HN2 : Hid ((L.s0.out.take (j + 1)).filter (fun p => !ask p) = ln ++ [p]) := Lib.hid (by rw [HS2.out, hask]; simp)
        clear hask
        go_wp2_with fail
        refine (HE0.out _ hBa).mono ?_
        rintro e w2 ⟨rfl, hb2⟩
        have hB2 := hBa.trans (hb2.mono (by omega))
        have hH2 := hH.kept (Kept.of_below (X := none') hb2) (fun h => h)
        have u0 := hH2.cell 0 rfl
        have u1 := hH2.cell 1 rfl
        have u2 := hH2.cell 2 rfl
        have u3 := hH2.cell 3 rfl
        have z2 := hb2.size
        have hal2 : Below w2.heap.size w2 (w2.alloc (.cells #[.int .i64 p.num, .int .i64 p.size, .int .i64 p.at_, .bool p.el] 68)) := (Below.refl _ _).alloc (Nat.le_refl _) _
        have hN' := own_below (own_below (own_below hN hal) hb2) hal2
        have hY' := own_below (own_below (own_below hY hal) hb2) hal2
        obtain ⟨a4, c4', w4, hr4, ho4, hg4, hno4⟩ := run_app_pk (tyo := 59) (p := p) (b := w2.heap.size) hN' (heap_alloc_new w2 _) (by omega) (by have := hal2.size; omega)
        have k4 := Kept.of_grown hg4
        have zal2 : (w2.alloc (.cells #[.int .i64 p.num, .int .i64 p.size, .int .i64 p.at_, .bool p.el] 68)).heap.size = w2.heap.size + 1 := by simp
        have HREL : Hid (Yes w4 w.heap.size ay cy ly ∧ Yes w4 w.heap.size a4 c4' (ln ++ [p]) ∧ Below w.heap.size w w4 ∧ (∀ ad ad', ay = some ad → a4 = some ad' → ad.block ≠ ad'.block)) := Lib.hid (by
          refine ⟨own_kept' hY' k4 (fun ad ha e => ?_), ?_, (hB2.trans (hal2.mono hB2.size)).grown hg4 (by omega) (fun k hk => ?_), fun ad ad' ha ha' => ?_⟩
          · cases han : an with
            | none => rw [han] at e; cases e
            | some yy => rw [han] at e; exact hyn ad yy ha han (by simpa [Value.ownBlock] using e.symm)
          · show w4.ownsRow _ _ 4 (.slice a4 (ln ++ [p]).length c4') (ln ++ [p]).length _
            rw [List.length_append]
            exact ho4
          · cases han : an with
            | none => rw [han] at hk; cases hk
            | some yy => rw [han] at hk; simp only [Value.ownBlock, Option.some.injEq] at hk; have := ownblk hN han; omega
          · rcases newOr_at hno4 ha' with ⟨yy, hyy, e⟩ | e
            · rw [← e]; exact hyn ad yy ha hyy
            · have := own_at hY' ha; omega)
        clear hal2 hN' hY' ho4 hg4 hno4 k4 hH2 hY hN hyn
        go_wp2_with (at_builtin; refine Lib.wpList_append_run _ rfl _ _ _ _ rfl (.slice an ln.length cn) (.slice (some ⟨w2.heap.size, 0, none⟩) 1 1) rfl rfl _ _ hr4 ?_)
        go_roundw
        case rel => exact ⟨j + 1, ay, cy, a4, c4', by push_cast; rfl, by rw [HY2.out], by rw [HN2.out, List.length_append]; rfl, by omega, by rw [HY2.out]; exact HREL.out.1, by rw [HN2.out]; exact HREL.out.2.1, HREL.out.2.2.1, HREL.out.2.2.2⟩
        case measure => simp [intOf]; omega
      · have HE0 : Hid (∀ w', Below w.heap.size w w' → Calls Try.prog 36 #[.agg #[.int .i64 p.num, .int .i64 p.size, .int .i64 p.at_, .bool p.el], .pointer (some ⟨x1, 0, none⟩), .pointer (some ⟨x2, 0, none⟩), .pointer (some ⟨x3, 0, none⟩)] w' (BoolOf w' true)) := Lib.hid (fun w' hb => (HE.out w' hb).mono (by
          rintro e w'' ⟨h1, h2⟩
          exact ⟨by rw [h1, hask], h2⟩))
        have HY2 : Hid ((L.s0.out.take (j + 1)).filter ask = ly ++ [p]) := Lib.hid (by rw [HS1.out, hask]; simp)
        have HN2 : Hid ((L.s0.out.take (j + 1)).filter (fun p => !ask p) = ln) := Lib.hid (by rw [HS2.out, hask]; simp)
        clear hask
        go_wp2_with fail
        refine (HE0.out _ hBa).mono ?_
        rintro e w2 ⟨rfl, hb2⟩
        have hB2 := hBa.trans (hb2.mono (by omega))
        have hH2 := hH.kept (Kept.of_below (X := none') hb2) (fun h => h)
        have u0 := hH2.cell 0 rfl
        have u1 := hH2.cell 1 rfl
        have u2 := hH2.cell 2 rfl
        have u3 := hH2.cell 3 rfl
        have z2 := hb2.size
        have hal2 : Below w2.heap.size w2 (w2.alloc (.cells #[.int .i64 p.num, .int .i64 p.size, .int .i64 p.at_, .bool p.el] 68)) := (Below.refl _ _).alloc (Nat.le_refl _) _
        have hN' := own_below (own_below (own_below hN hal) hb2) hal2
        have hY' := own_below (own_below (own_below hY hal) hb2) hal2
        obtain ⟨a4, c4', w4, hr4, ho4, hg4, hno4⟩ := run_app_pk (tyo := 59) (p := p) (b := w2.heap.size) hY' (heap_alloc_new w2 _) (by omega) (by have := hal2.size; omega)
        have k4 := Kept.of_grown hg4
        have zal2 : (w2.alloc (.cells #[.int .i64 p.num, .int .i64 p.size, .int .i64 p.at_, .bool p.el] 68)).heap.size = w2.heap.size + 1 := by simp
        have HREL : Hid (Yes w4 w.heap.size a4 c4' (ly ++ [p]) ∧ Yes w4 w.heap.size an cn ln ∧ Below w.heap.size w w4 ∧ (∀ ad ad', a4 = some ad → an = some ad' → ad.block ≠ ad'.block)) := Lib.hid (by
          refine ⟨?_, own_kept' hN' k4 (fun ad ha e => ?_), (hB2.trans (hal2.mono hB2.size)).grown hg4 (by omega) (fun k hk => ?_), fun ad ad' ha ha' => ?_⟩
          · show w4.ownsRow _ _ 4 (.slice a4 (ly ++ [p]).length c4') (ly ++ [p]).length _
            rw [List.length_append]
            exact ho4
          · cases hay : ay with
            | none => rw [hay] at e; cases e
            | some yy => rw [hay] at e; exact hyn yy ad hay ha (by simpa [Value.ownBlock] using e)
          · cases hay : ay with
            | none => rw [hay] at hk; cases hk
            | some yy => rw [hay] at hk; simp only [Value.ownBlock, Option.some.injEq] at hk; have := ownblk hY hay; omega
          · rcases newOr_at hno4 ha with ⟨yy, hyy, e⟩ | e
            · rw [← e]; exact hyn yy ad' hyy ha'
            · have := own_at hN' ha'; omega)
        clear hal2 hN' hY' ho4 hg4 hno4 k4 hH2 hY hN hyn
        go_wp2_with (at_builtin; refine Lib.wpList_append_run _ rfl _ _ _ _ rfl (.slice ay ly.length cy) (.slice (some ⟨w2.heap.size, 0, none⟩) 1 1) rfl rfl _ _ hr4 ?_)
        go_roundw
        case rel => exact ⟨j + 1, a4, c4', an, cn, by push_cast; rfl, by rw [HY2.out, List.length_append]; rfl, by rw [HN2.out], by omega, by rw [HY2.out]; exact HREL.out.1, by rw [HN2.out]; exact HREL.out.2.1, HREL.out.2.2.1, HREL.out.2.2.2⟩
        case measure => simp [intOf]; omega
    · obtain rfl : j = L.s0.out.length := by omega
      rw [List.take_length] at hY hN ⊢
      have B := HB.out.below hB
      have d0 := B.has.cell 1 rfl
      have d0f := B.has.free 1
      have ks := Kept.set wr g 1 (.slice an (L.s0.out.filter (fun p => !ask p)).length cn)
      have hg0 := HB.out.has.lt
      have HRES : Hid (Yes (wr.setCell ⟨g, 1, none⟩ (.slice an (L.s0.out.filter (fun p => !ask p)).length cn)) w.heap.size ay cy (L.s0.out.filter ask) ∧ Kept (fun k => k = g) w (wr.setCell ⟨g, 1, none⟩ (.slice an (L.s0.out.filter (fun p => !ask p)).length cn)) ∧
          LAt (Fat F w (wr.setCell ⟨g, 1, none⟩ (.slice an (L.s0.out.filter (fun p => !ask p)).length cn))) (wr.setCell ⟨g, 1, none⟩ (.slice an (L.s0.out.filter (fun p => !ask p)).length cn)) g (L.cut0 ask) ∧ (∀ ad, ay = some ad → ad.block < (wr.setCell ⟨g, 1, none⟩ (.slice an (L.s0.out.filter (fun p => !ask p)).length cn)).heap.size)) := Lib.hid (by
        have hgY : ∀ ad, ay = some ad → ad.block ≠ g := fun ad ha e => by have := ownblk hY ha; omega
        have hgN : ∀ ad, an = some ad → ad.block ≠ g := fun ad ha e => by have := ownblk hN ha; omega
        have hY5 := own_kept' hY ks (fun ad ha e => hgY ad ha e)
        have hN5 := own_kept' hN ks (fun ad ha e => hgN ad ha e)
        refine ⟨hY5, (Kept.of_below hB).trans ks (fun _ _ e => e), ⟨an, cn, a1, c1, a2, c2, ⟨?_, own_mono hN5 (Nat.zero_le _), own_kept' B.r1 ks (fun ad ha e => B.g1 ad ha e), own_kept' B.r2 ks (fun ad ha e => B.g2 ad ha e), hgN, B.g1, B.g2, (fun ad ad' ha ha' e => by have := ownblk hN ha; have := own_at HB.out.r1 ha'; omega), (fun ad ad' ha ha' e => by have := ownblk hN ha; have := own_at HB.out.r2 ha'; omega), B.d12⟩, .inl F0, (fun ad ha => .inr ⟨ownblk hN ha, own_at hN5 ha⟩), (fun ad ha => .inl (Fa1 ad ha)), (fun ad ha => .inl (Fa2 ad ha))⟩, fun ad ha => own_at hY5 ha⟩
        have e : lcells (L.cut0 ask) an cn a1 c1 a2 c2 = (lcells L a0 c0 a1 c1 a2 c2).set 1 (.slice an (L.s0.out.filter (fun p => !ask p)).length cn) := rfl
        rw [e]
        exact B.has.set 1 _)
      clear ks B hY hN hyn
      go_wp2
      go_ret
      exact ⟨ay, cy, rfl, HRES.out.1, HRES.out.2.1, HRES.out.2.2.1, HRES.out.2.2.2⟩

set_option maxRecDepth 100000 in
set_option maxHeartbeats 4000000 in
theorem split_F1 (w : World) {F : Nat → Prop} {g : Nat} {L : Lo} (hL : LAt F w g L) (hlen : L.s1.out.length ≤ 4096) (ask : Pk → Bool) (x1 x2 x3 : Nat)
    (hf : ∀ w' p, Below w.heap.size w w' → p ∈ L.s1.out → Calls Try.prog 36 #[.agg #[.int .i64 p.num, .int .i64 p.size, .int .i64 p.at_, .bool p.el], .pointer (some ⟨x1, 0, none⟩), .pointer (some ⟨x2, 0, none⟩), .pointer (some ⟨x3, 0, none⟩)] w' (BoolOf w' (ask p))) :
    Calls Try.prog 26 #[.pointer (some ⟨g, 6, none⟩), .func (.func 36) #[] #[.pointer (some ⟨x1, 0, none⟩), .pointer (some ⟨x2, 0, none⟩), .pointer (some ⟨x3, 0, none⟩)]] w fun e w' => ∃ a c, e = .returned (.slice a (L.s1.out.filter ask).length c) ∧ Yes w' w.heap.size a c (L.s1.out.filter ask) ∧ Kept (fun k => k = g) w w' ∧ LAt (Fat F w w') w' g (L.cut1 ask) ∧ (∀ ad, a = some ad → ad.block < w'.heap.size) := by
  obtain ⟨a0, c0, a1, c1, a2, c2, hb, F0, Fa0, Fa1, Fa2⟩ := hL
  have d0 := hb.has.cell 6 rfl
  have HF := Lib.hid hf
  have HB := Lib.hid hb
  have hlI : (L.s1.out.length : Int) ≤ 4096 := by omega
  clear hb hf
  go_enter Try.func26, Try.ntmps26
  go_wp2_with fail
  go_loopw [4, 5, 13] (fun yv nv iv wr => ∃ (j : Nat) (ay : Option Addr) (cy : Nat) (an : Option Addr) (cn : Nat), iv = .int .i64 (j : Int) ∧ yv = .slice ay ((L.s1.out.take j).filter ask).length cy ∧ nv = .slice an ((L.s1.out.take j).filter (fun p => !ask p)).length cn ∧ j ≤ L.s1.out.length ∧
    Yes wr w.heap.size ay cy ((L.s1.out.take j).filter ask) ∧ Yes wr w.heap.size an cn ((L.s1.out.take j).filter (fun p => !ask p)) ∧ Below w.heap.size w wr ∧ (∀ ad ad', ay = some ad → an = some ad' → ad.block ≠ ad'.block)) (fun _ _ iv _ => L.s1.out.length - (intOf iv).toNat)
  case atStart => exact ⟨0, none, 0, none, 0, rfl, rfl, rfl, Nat.zero_le _, by simpa [Yes, pv] using World.ownsRow_nil _ _ _ _, by simpa [Yes, pv] using World.ownsRow_nil _ _ _ _, Below.refl _ _, by simp⟩
  case round =>
    obtain ⟨j, ay, cy, an, cn, rfl, rfl, rfl, hj, hY, hN, hB, hyn⟩ := hrel
    clear d0
    by_cases hjl : j < L.s1.out.length
    · have hjl' : (j : Int) < (L.s1.out.length : Int) := by omega
      have g2 : IntKind.i64.wrap ((j : Int) + 1) = (j : Int) + 1 := by rw [IntKind.wrap_i64]; omega
      obtain ⟨sb, hsb, e0, e1, e2, e3, s1, s2⟩ := own_pk (own_below HB.out.r1 hB) rfl hjl
      have s1' : (L.s1.out.length : Int) ≤ (c1 : Int) := by omega
      have HM := Lib.hid (List.getElem_mem hjl)
      have HS1 := Lib.hid (filter_snoc ask L.s1.out j hjl)
      have HS2 := Lib.hid (filter_snoc (fun p => !ask p) L.s1.out j hjl)
      have hl1 : ((L.s1.out.take j).filter ask).length ≤ 4096 := by have := List.length_filter_le ask (L.s1.out.take j); rw [List.length_take] at this; omega
      have hl2 : ((L.s1.out.take j).filter (fun p => !ask p)).length ≤ 4096 := by have := List.length_filter_le (fun p => !ask p) (L.s1.out.take j); rw [List.length_take] at this; omega
      generalize (L.s1.out.take j).filter ask = ly at hY HS1 hl1 ⊢
      generalize (L.s1.out.take j).filter (fun p => !ask p) = ln at hN HS2 hl2 ⊢
      generalize hp : L.s1.out[j] = p at HM HS1 HS2 e0 e1 e2 e3
      have HE := Lib.hid (fun w' hb => HF.out w' p hb HM.out)
      subst hsb
      clear hp
      -- the packet's copy
      have hal : Below wr.heap.size wr (wr.alloc (.cells #[.int .i64 p.num, .int .i64 p.size, .int .i64 p.at_, .bool p.el] 68)) := (Below.refl _ _).alloc (Nat.le_refl _) _
      have hH : Has (wr.alloc (.cells #[.int .i64 p.num, .int .i64 p.size, .int .i64 p.at_, .bool p.el] 68)) wr.heap.size 68 [.int .i64 p.num, .int .i64 p.size, .int .i64 p.at_, .bool p.el] := Has.new _ _ _
      have hBa := hB.trans (hal.mono hB.size)
      have hz := hB.size
      have hza : wr.heap.size < (wr.alloc (.cells #[.int .i64 p.num, .int .i64 p.size, .int .i64 p.at_, .bool p.el] 68)).heap.size := hH.lt
      cases hask : ask p
      · have HE0 : Hid (∀ w', Below w.heap.size w w' → Calls Try.prog 36 #[.agg #[.int .i64 p.num, .int .i64 p.size, .int .i64 p.at_, .bool p.el], .pointer (some ⟨x1, 0, none⟩), .pointer (some ⟨x2, 0, none⟩), .pointer (some ⟨x3, 0, none⟩)] w' (BoolOf w' false)) := Lib.hid (fun w' hb => (HE.out w' hb).mono (by
          rintro e w'' ⟨h1, h2⟩
          exact ⟨by rw [h1, hask], h2⟩))
        have HY2 : Hid ((L.s1.out.take (j + 1)).filter ask = ly) := Lib.hid (by rw [HS1.out, hask]; simp)
        have HN2 : Hid ((L.s1.out.take (j + 1)).filter (fun p => !ask p) = ln ++ [p]) := Lib.hid (by rw [HS2.out, hask]; simp)
        clear hask
        go_wp2_with fail
        refine (HE0.out _ hBa).mono ?_
        rintro e w2 ⟨rfl, hb2⟩
        have hB2 := hBa.trans (hb2.mono (by omega))
        have hH2 := hH.kept (Kept.of_below (X := none') hb2) (fun h => h)
        have u0 := hH2.cell 0 rfl
        have u1 := hH2.cell 1 rfl
        have u2 := hH2.cell 2 rfl
        have u3 := hH2.cell 3 rfl
        have z2 := hb2.size
        have hal2 : Below w2.heap.size w2 (w2.alloc (.cells #[.int .i64 p.num, .int .i64 p.size, .int .i64 p.at_, .bool p.el] 68)) := (Below.refl _ _).alloc (Nat.le_refl _) _
        have hN' := own_below (own_below (own_below hN hal) hb2) hal2
        have hY' := own_below (own_below (own_below hY hal) hb2) hal2
        obtain ⟨a4, c4', w4, hr4, ho4, hg4, hno4⟩ := run_app_pk (tyo := 59) (p := p) (b := w2.heap.size) hN' (heap_alloc_new w2 _) (by omega) (by have := hal2.size; omega)
        have k4 := Kept.of_grown hg4
        have zal2 : (w2.alloc (.cells #[.int .i64 p.num, .int .i64 p.size, .int .i64 p.at_, .bool p.el] 68)).heap.size = w2.heap.size + 1 := by simp
        have HREL : Hid (Yes w4 w.heap.size ay cy ly ∧ Yes w4 w.heap.size a4 c4' (ln ++ [p]) ∧ Below w.heap.size w w4 ∧ (∀ ad ad', ay = some ad → a4 = some ad' → ad.block ≠ ad'.block)) := Lib.hid (by
          refine ⟨own_kept' hY' k4 (fun ad ha e => ?_), ?_, (hB2.trans (hal2.mono hB2.size)).grown hg4 (by omega) (fun k hk => ?_), fun ad ad' ha ha' => ?_⟩
          · cases han : an with
            | none => rw [han] at e; cases e
            | some yy => rw [han] at e; exact hyn ad yy ha han (by simpa [Value.ownBlock] using e.symm)
          · show w4.ownsRow _ _ 4 (.slice a4 (ln ++ [p]).length c4') (ln ++ [p]).length _
            rw [List.length_append]
            exact ho4
          · cases han : an with
            | none => rw [han] at hk; cases hk
            | some yy => rw [han] at hk; simp only [Value.ownBlock, Option.some.injEq] at hk; have := ownblk hN han; omega
          · rcases newOr_at hno4 ha' with ⟨yy, hyy, e⟩ | e
            · rw [← e]; exact hyn ad yy ha hyy
            · have := own_at hY' ha; omega)
        clear hal2 hN' hY' ho4 hg4 hno4 k4 hH2 hY hN hyn
        go_wp2_with (at_builtin; refine Lib.wpList_append_run _ rfl _ _ _ _ rfl (.slice an ln.length cn) (.slice (some ⟨w2.heap.size, 0, none⟩) 1 1) rfl rfl _ _ hr4 ?_)
        go_roundw
        case rel => exact ⟨j + 1, ay, cy, a4, c4', by push_cast; rfl, by rw [HY2.out], by rw [HN2.out, List.length_append]; rfl, by omega, by rw [HY2.out]; exact HREL.out.1, by rw [HN2.out]; exact HREL.out.2.1, HREL.out.2.2.1, HREL.out.2.2.2⟩
        case measure => simp [intOf]; omega
      · have HE0 : Hid (∀ w', Below w.heap.size w w' → Calls Try.prog 36 #[.agg #[.int .i64 p.num, .int .i64 p.size, .int .i64 p.at_, .bool p.el], .pointer (some ⟨x1, 0, none⟩), .pointer (some ⟨x2, 0, none⟩), .pointer (some ⟨x3, 0, none⟩)] w' (BoolOf w' true)) := Lib.hid (fun w' hb => (HE.out w' hb).mono (by
          rintro e w'' ⟨h1, h2⟩
          exact ⟨by rw [h1, hask], h2⟩))
        have HY2 : Hid ((L.s1.out.take (j + 1)).filter ask = ly ++ [p]) := Lib.hid (by rw [HS1.out, hask]; simp)
        have HN2 : Hid ((L.s1.out.take (j + 1)).filter (fun p => !ask p) = ln) := Lib.hid (by rw [HS2.out, hask]; simp)
        clear hask
        go_wp2_with fail
        refine (HE0.out _ hBa).mono ?_
        rintro e w2 ⟨rfl, hb2⟩
        have hB2 := hBa.trans (hb2.mono (by omega))
        have hH2 := hH.kept (Kept.of_below (X := none') hb2) (fun h => h)
        have u0 := hH2.cell 0 rfl
        have u1 := hH2.cell 1 rfl
        have u2 := hH2.cell 2 rfl
        have u3 := hH2.cell 3 rfl
        have z2 := hb2.size
        have hal2 : Below w2.heap.size w2 (w2.alloc (.cells #[.int .i64 p.num, .int .i64 p.size, .int .i64 p.at_, .bool p.el] 68)) := (Below.refl _ _).alloc (Nat.le_refl _) _
        have hN' := own_below (own_below (own_below hN hal) hb2) hal2
        have hY' := own_below (own_below (own_below hY hal) hb2) hal2
        obtain ⟨a4, c4', w4, hr4, ho4, hg4, hno4⟩ := run_app_pk (tyo := 59) (p := p) (b := w2.heap.size) hY' (heap_alloc_new w2 _) (by omega) (by have := hal2.size; omega)
        have k4 := Kept.of_grown hg4
        have zal2 : (w2.alloc (.cells #[.int .i64 p.num, .int .i64 p.size, .int .i64 p.at_, .bool p.el] 68)).heap.size = w2.heap.size + 1 := by simp
        have HREL : Hid (Yes w4 w.heap.size a4 c4' (ly ++ [p]) ∧ Yes w4 w.heap.size an cn ln ∧ Below w.heap.size w w4 ∧ (∀ ad ad', a4 = some ad → an = some ad' → ad.block ≠ ad'.block)) := Lib.hid (by
          refine ⟨?_, own_kept' hN' k4 (fun ad ha e => ?_), (hB2.trans (hal2.mono hB2.size)).grown hg4 (by omega) (fun k hk => ?_), fun ad ad' ha ha' => ?_⟩
          · show w4.ownsRow _ _ 4 (.slice a4 (ly ++ [p]).length c4') (ly ++ [p]).length _
            rw [List.length_append]
            exact ho4
          · cases hay : ay with
            | none => rw [hay] at e; cases e
            | some yy => rw [hay] at e; exact hyn yy ad hay ha (by simpa [Value.ownBlock] using e)
          · cases hay : ay with
            | none => rw [hay] at hk; cases hk
            | some yy => rw [hay] at hk; simp only [Value.ownBlock, Option.some.injEq] at hk; have := ownblk hY hay; omega
          · rcases newOr_at hno4 ha with ⟨yy, hyy, e⟩ | e
            · rw [← e]; exact hyn yy ad' hyy ha'
            · have := own_at hN' ha'; omega)
        clear hal2 hN' hY' ho4 hg4 hno4 k4 hH2 hY hN hyn
        go_wp2_with (at_builtin; refine Lib.wpList_append_run _ rfl _ _ _ _ rfl (.slice ay ly.length cy) (.slice (some ⟨w2.heap.size, 0, none⟩) 1 1) rfl rfl _ _ hr4 ?_)
        go_roundw
        case rel => exact ⟨j + 1, a4, c4', an, cn, by push_cast; rfl, by rw [HY2.out, List.length_append]; rfl, by rw [HN2.out], by omega, by rw [HY2.out]; exact HREL.out.1, by rw [HN2.out]; exact HREL.out.2.1, HREL.out.2.2.1, HREL.out.2.2.2⟩
        case measure => simp [intOf]; omega
    · obtain rfl : j = L.s1.out.length := by omega
      rw [List.take_length] at hY hN ⊢
      have B := HB.out.below hB
      have d0 := B.has.cell 6 rfl
      have d0f := B.has.free 6
      have ks := Kept.set wr g 6 (.slice an (L.s1.out.filter (fun p => !ask p)).length cn)
      have hg0 := HB.out.has.lt
      have HRES : Hid (Yes (wr.setCell ⟨g, 6, none⟩ (.slice an (L.s1.out.filter (fun p => !ask p)).length cn)) w.heap.size ay cy (L.s1.out.filter ask) ∧ Kept (fun k => k = g) w (wr.setCell ⟨g, 6, none⟩ (.slice an (L.s1.out.filter (fun p => !ask p)).length cn)) ∧
          LAt (Fat F w (wr.setCell ⟨g, 6, none⟩ (.slice an (L.s1.out.filter (fun p => !ask p)).length cn))) (wr.setCell ⟨g, 6, none⟩ (.slice an (L.s1.out.filter (fun p => !ask p)).length cn)) g (L.cut1 ask) ∧ (∀ ad, ay = some ad → ad.block < (wr.setCell ⟨g, 6, none⟩ (.slice an (L.s1.out.filter (fun p => !ask p)).length cn)).heap.size)) := Lib.hid (by
        have hgY : ∀ ad, ay = some ad → ad.block ≠ g := fun ad ha e => by have := ownblk hY ha; omega
        have hgN : ∀ ad, an = some ad → ad.block ≠ g := fun ad ha e => by have := ownblk hN ha; omega
        have hY5 := own_kept' hY ks (fun ad ha e => hgY ad ha e)
        have hN5 := own_kept' hN ks (fun ad ha e => hgN ad ha e)
        refine ⟨hY5, (Kept.of_below hB).trans ks (fun _ _ e => e), ⟨a0, c0, an, cn, a2, c2, ⟨?_, own_kept' B.r0 ks (fun ad ha e => B.g0 ad ha e), own_mono hN5 (Nat.zero_le _), own_kept' B.r2 ks (fun ad ha e => B.g2 ad ha e), B.g0, hgN, B.g2, (fun ad ad' ha ha' e => by have := ownblk hN ha'; have := own_at HB.out.r0 ha; omega), B.d02, (fun ad ad' ha ha' e => by have := ownblk hN ha; have := own_at HB.out.r2 ha'; omega)⟩, .inl F0, (fun ad ha => .inl (Fa0 ad ha)), (fun ad ha => .inr ⟨ownblk hN ha, own_at hN5 ha⟩), (fun ad ha => .inl (Fa2 ad ha))⟩, fun ad ha => own_at hY5 ha⟩
        have e : lcells (L.cut1 ask) a0 c0 an cn a2 c2 = (lcells L a0 c0 a1 c1 a2 c2).set 6 (.slice an (L.s1.out.filter (fun p => !ask p)).length cn) := rfl
        rw [e]
        exact B.has.set 6 _)
      clear ks B hY hN hyn
      go_wp2
      go_ret
      exact ⟨ay, cy, rfl, HRES.out.1, HRES.out.2.1, HRES.out.2.2.1, HRES.out.2.2.2⟩

set_option maxRecDepth 100000 in
set_option maxHeartbeats 4000000 in
theorem split_F2 (w : World) {F : Nat → Prop} {g : Nat} {L : Lo} (hL : LAt F w g L) (hlen : L.s2.out.length ≤ 4096) (ask : Pk → Bool) (x1 x2 x3 : Nat)
    (hf : ∀ w' p, Below w.heap.size w w' → p ∈ L.s2.out → Calls Try.prog 36 #[.agg #[.int .i64 p.num, .int .i64 p.size, .int .i64 p.at_, .bool p.el], .pointer (some ⟨x1, 0, none⟩), .pointer (some ⟨x2, 0, none⟩), .pointer (some ⟨x3, 0, none⟩)] w' (BoolOf w' (ask p))) :
    Calls Try.prog 26 #[.pointer (some ⟨g, 11, none⟩), .func (.func 36) #[] #[.pointer (some ⟨x1, 0, none⟩), .pointer (some ⟨x2, 0, none⟩), .pointer (some ⟨x3, 0, none⟩)]] w fun e w' => ∃ a c, e = .returned (.slice a (L.s2.out.filter ask).length c) ∧ Yes w' w.heap.size a c (L.s2.out.filter ask) ∧ Kept (fun k => k = g) w w' ∧ LAt (Fat F w w') w' g (L.cut2 ask) ∧ (∀ ad, a = some ad → ad.block < w'.heap.size) := by
  obtain ⟨a0, c0, a1, c1, a2, c2, hb, F0, Fa0, Fa1, Fa2⟩ := hL
  have d0 := hb.has.cell 11 rfl
  have HF := Lib.hid hf
  have HB := Lib.hid hb
  have hlI : (L.s2.out.length : Int) ≤ 4096 := by omega
  clear hb hf
  go_enter Try.func26, Try.ntmps26
  go_wp2_with fail
  go_loopw [4, 5, 13] (fun yv nv iv wr => ∃ (j : Nat) (ay : Option Addr) (cy : Nat) (an : Option Addr) (cn : Nat), iv = .int .i64 (j : Int) ∧ yv = .slice ay ((L.s2.out.take j).filter ask).length cy ∧ nv = .slice an ((L.s2.out.take j).filter (fun p => !ask p)).length cn ∧ j ≤ L.s2.out.length ∧
    Yes wr w.heap.size ay cy ((L.s2.out.take j).filter ask) ∧ Yes wr w.heap.size an cn ((L.s2.out.take j).filter (fun p => !ask p)) ∧ Below w.heap.size w wr ∧ (∀ ad ad', ay = some ad → an = some ad' → ad.block ≠ ad'.block)) (fun _ _ iv _ => L.s2.out.length - (intOf iv).toNat)
  case atStart => exact ⟨0, none, 0, none, 0, rfl, rfl, rfl, Nat.zero_le _, by simpa [Yes, pv] using World.ownsRow_nil _ _ _ _, by simpa [Yes, pv] using World.ownsRow_nil _ _ _ _, Below.refl _ _, by simp⟩
  case round =>
    obtain ⟨j, ay, cy, an, cn, rfl, rfl, rfl, hj, hY, hN, hB, hyn⟩ := hrel
    clear d0
    by_cases hjl : j < L.s2.out.length
    · have hjl' : (j : Int) < (L.s2.out.length : Int) := by omega
      have g2 : IntKind.i64.wrap ((j : Int) + 1) = (j : Int) + 1 := by rw [IntKind.wrap_i64]; omega
      obtain ⟨sb, hsb, e0, e1, e2, e3, s1, s2⟩ := own_pk (own_below HB.out.r2 hB) rfl hjl
      have s1' : (L.s2.out.length : Int) ≤ (c2 : Int) := by omega
      have HM := Lib.hid (List.getElem_mem hjl)
      have HS1 := Lib.hid (filter_snoc ask L.s2.out j hjl)
      have HS2 := Lib.hid (filter_snoc (fun p => !ask p) L.s2.out j hjl)
      have hl1 : ((L.s2.out.take j).filter ask).length ≤ 4096 := by have := List.length_filter_le ask (L.s2.out.take j); rw [List.length_take] at this; omega
      have hl2 : ((L.s2.out.take j).filter (fun p => !ask p)).length ≤ 4096 := by have := List.length_filter_le (fun p => !ask p) (L.s2.out.take j); rw [List.length_take] at this; omega
      generalize (L.s2.out.take j).filter ask = ly at hY HS1 hl1 ⊢
      generalize (L.s2.out.take j).filter (fun p => !ask p) = ln at hN HS2 hl2 ⊢
      generalize hp : L.s2.out[j] = p at HM HS1 HS2 e0 e1 e2 e3
      have HE := Lib.hid (fun w' hb => HF.out w' p hb HM.out)
      subst hsb
      clear hp
      -- the packet's copy
      have hal : Below wr.heap.size wr (wr.alloc (.cells #[.int .i64 p.num, .int .i64 p.size, .int .i64 p.at_, .bool p.el] 68)) := (Below.refl _ _).alloc (Nat.le_refl _) _
      have hH : Has (wr.alloc (.cells #[.int .i64 p.num, .int .i64 p.size, .int .i64 p.at_, .bool p.el] 68)) wr.heap.size 68 [.int .i64 p.num, .int .i64 p.size, .int .i64 p.at_, .bool p.el] := Has.new _ _ _
      have hBa := hB.trans (hal.mono hB.size)
      have hz := hB.size
      have hza : wr.heap.size < (wr.alloc (.cells #[.int .i64 p.num, .int .i64 p.size, .int .i64 p.at_, .bool p.el] 68)).heap.size := hH.lt
      cases hask : ask p
      · have HE0 : Hid (∀ w', Below w.heap.size w w' → Calls Try.prog 36 #[.agg #[.int .i64 p.num, .int .i64 p.size, .int .i64 p.at_, .bool p.el], .pointer (some ⟨x1, 0, none⟩), .pointer (some ⟨x2, 0, none⟩), .pointer (some ⟨x3, 0, none⟩)] w' (BoolOf w' false)) := Lib.hid (fun w' hb => (HE.out w' hb).mono (by
          rintro e w'' ⟨h1, h2⟩
          exact ⟨by rw [h1, hask], h2⟩))
        have HY2 : Hid ((L.s2.out.take (j + 1)).filter ask = ly) := Lib.hid (by rw [HS1.out, hask]; simp)
        have HN2 : Hid ((L.s2.out.take (j + 1)).filter (fun p => !ask p) = ln ++ [p]) := Lib.hid (by rw [HS2.out, hask]; simp)
        clear hask
        go_wp2_with fail
        refine (HE0.out _ hBa).mono ?_
        rintro e w2 ⟨rfl, hb2⟩
        have hB2 := hBa.trans (hb2.mono (by omega))
        have hH2 := hH.kept (Kept.of_below (X := none') hb2) (fun h => h)
        have u0 := hH2.cell 0 rfl
        have u1 := hH2.cell 1 rfl
        have u2 := hH2.cell 2 rfl
        have u3 := hH2.cell 3 rfl
        have z2 := hb2.size
        have hal2 : Below w2.heap.size w2 (w2.alloc (.cells #[.int .i64 p.num, .int .i64 p.size, .int .i64 p.at_, .bool p.el] 68)) := (Below.refl _ _).alloc (Nat.le_refl _) _
        have hN' := own_below (own_below (own_below hN hal) hb2) hal2
        have hY' := own_below (own_below (own_below hY hal) hb2) hal2
        obtain ⟨a4, c4', w4, hr4, ho4, hg4, hno4⟩ := run_app_pk (tyo := 59) (p := p) (b := w2.heap.size) hN' (heap_alloc_new w2 _) (by omega) (by have := hal2.size; omega)
        have k4 := Kept.of_grown hg4
        have zal2 : (w2.alloc (.cells #[.int .i64 p.num, .int .i64 p.size, .int .i64 p.at_, .bool p.el] 68)).heap.size = w2.heap.size + 1 := by simp
        have HREL : Hid (Yes w4 w.heap.size ay cy ly ∧ Yes w4 w.heap.size a4 c4' (ln ++ [p]) ∧ Below w.heap.size w w4 ∧ (∀ ad ad', ay = some ad → a4 = some ad' → ad.block ≠ ad'.block)) := Lib.hid (by
          refine ⟨own_kept' hY' k4 (fun ad ha e => ?_), ?_, (hB2.trans (hal2.mono hB2.size)).grown hg4 (by omega) (fun k hk => ?_), fun ad ad' ha ha' => ?_⟩
          · cases han : an with
            | none => rw [han] at e; cases e
            | some yy => rw [han] at e; exact hyn ad yy ha han (by simpa [Value.ownBlock] using e.symm)
          · show w4.ownsRow _ _ 4 (.slice a4 (ln ++ [p]).length c4') (ln ++ [p]).length _
            rw [List.length_append]
            exact ho4
          · cases han : an with
            | none => rw [han] at hk; cases hk
            | some yy => rw [han] at hk; simp only [Value.ownBlock, Option.some.injEq] at hk; have := ownblk hN han; omega
          · rcases newOr_at hno4 ha' with ⟨yy, hyy, e⟩ | e
            · rw [← e]; exact hyn ad yy ha hyy
            · have := own_at hY' ha; omega)
        clear hal2 hN' hY' ho4 hg4 hno4 k4 hH2 hY hN hyn
        go_wp2_with (at_builtin; refine Lib.wpList_append_run _ rfl _ _ _ _ rfl (.slice an ln.length cn) (.slice (some ⟨w2.heap.size, 0, none⟩) 1 1) rfl rfl _ _ hr4 ?_)
        go_roundw
        case rel => exact ⟨j + 1, ay, cy, a4, c4', by push_cast; rfl, by rw [HY2.out], by rw [HN2.out, List.length_append]; rfl, by omega, by rw [HY2.out]; exact HREL.out.1, by rw [HN2.out]; exact HREL.out.2.1, HREL.out.2.2.1, HREL.out.2.2.2⟩
        case measure => simp [intOf]; omega
      · have HE0 : Hid (∀ w', Below w.heap.size w w' → Calls Try.prog 36 #[.agg #[.int .i64 p.num, .int .i64 p.size, .int .i64 p.at_, .bool p.el], .pointer (some ⟨x1, 0, none⟩), .pointer (some ⟨x2, 0, none⟩), .pointer (some ⟨x3, 0, none⟩)] w' (BoolOf w' true)) := Lib.hid (fun w' hb => (HE.out w' hb).mono (by
          rintro e w'' ⟨h1, h2⟩
          exact ⟨by rw [h1, hask], h2⟩))
        have HY2 : Hid ((L.s2.out.take (j + 1)).filter ask = ly ++ [p]) := Lib.hid (by rw [HS1.out, hask]; simp)
        have HN2 : Hid ((L.s2.out.take (j + 1)).filter (fun p => !ask p) = ln) := Lib.hid (by rw [HS2.out, hask]; simp)
        clear hask
        go_wp2_with fail
        refine (HE0.out _ hBa).mono ?_
        rintro e w2 ⟨rfl, hb2⟩
        have hB2 := hBa.trans (hb2.mono (by omega))
        have hH2 := hH.kept (Kept.of_below (X := none') hb2) (fun h => h)
        have u0 := hH2.cell 0 rfl
        have u1 := hH2.cell 1 rfl
        have u2 := hH2.cell 2 rfl
        have u3 := hH2.cell 3 rfl
        have z2 := hb2.size
        have hal2 : Below w2.heap.size w2 (w2.alloc (.cells #[.int .i64 p.num, .int .i64 p.size, .int .i64 p.at_, .bool p.el] 68)) := (Below.refl _ _).alloc (Nat.le_refl _) _
        have hN' := own_below (own_below (own_below hN hal) hb2) hal2
        have hY' := own_below (own_below (own_below hY hal) hb2) hal2
        obtain ⟨a4, c4', w4, hr4, ho4, hg4, hno4⟩ := run_app_pk (tyo := 59) (p := p) (b := w2.heap.size) hY' (heap_alloc_new w2 _) (by omega) (by have := hal2.size; omega)
        have k4 := Kept.of_grown hg4
        have zal2 : (w2.alloc (.cells #[.int .i64 p.num, .int .i64 p.size, .int .i64 p.at_, .bool p.el] 68)).heap.size = w2.heap.size + 1 := by simp
        have HREL : Hid (Yes w4 w.heap.size a4 c4' (ly ++ [p]) ∧ Yes w4 w.heap.size an cn ln ∧ Below w.heap.size w w4 ∧ (∀ ad ad', a4 = some ad → an = some ad' → ad.block ≠ ad'.block)) := Lib.hid (by
          refine ⟨?_, own_kept' hN' k4 (fun ad ha e => ?_), (hB2.trans (hal2.mono hB2.size)).grown hg4 (by omega) (fun k hk => ?_), fun ad ad' ha ha' => ?_⟩
          · show w4.ownsRow _ _ 4 (.slice a4 (ly ++ [p]).length c4') (ly ++ [p]).length _
            rw [List.length_append]
            exact ho4
          · cases hay : ay with
            | none => rw [hay] at e; cases e
            | some yy => rw [hay] at e; exact hyn yy ad hay ha (by simpa [Value.ownBlock] using e)
          · cases hay : ay with
            | none => rw [hay] at hk; cases hk
            | some yy => rw [hay] at hk; simp only [Value.ownBlock, Option.some.injEq] at hk; have := ownblk hY hay; omega
          · rcases newOr_at hno4 ha with ⟨yy, hyy, e⟩ | e
            · rw [← e]; exact hyn yy ad' hyy ha'
            · have := own_at hN' ha'; omega)
        clear hal2 hN' hY' ho4 hg4 hno4 k4 hH2 hY hN hyn
        go_wp2_with (at_builtin; refine Lib.wpList_append_run _ rfl _ _ _ _ rfl (.slice ay ly.length cy) (.slice (some ⟨w2.heap.size, 0, none⟩) 1 1) rfl rfl _ _ hr4 ?_)
        go_roundw
        case rel => exact ⟨j + 1, a4, c4', an, cn, by push_cast; rfl, by rw [HY2.out, List.length_append]; rfl, by rw [HN2.out], by omega, by rw [HY2.out]; exact HREL.out.1, by rw [HN2.out]; exact HREL.out.2.1, HREL.out.2.2.1, HREL.out.2.2.2⟩
        case measure => simp [intOf]; omega
    · obtain rfl : j = L.s2.out.length := by omega
      rw [List.take_length] at hY hN ⊢
      have B := HB.out.below hB
      have d0 := B.has.cell 11 rfl
      have d0f := B.has.free 11
      have ks := Kept.set wr g 11 (.slice an (L.s2.out.filter (fun p => !ask p)).length cn)
      have hg0 := HB.out.has.lt
      have HRES : Hid (Yes (wr.setCell ⟨g, 11, none⟩ (.slice an (L.s2.out.filter (fun p => !ask p)).length cn)) w.heap.size ay cy (L.s2.out.filter ask) ∧ Kept (fun k => k = g) w (wr.setCell ⟨g, 11, none⟩ (.slice an (L.s2.out.filter (fun p => !ask p)).length cn)) ∧
          LAt (Fat F w (wr.setCell ⟨g, 11, none⟩ (.slice an (L.s2.out.filter (fun p => !ask p)).length cn))) (wr.setCell ⟨g, 11, none⟩ (.slice an (L.s2.out.filter (fun p => !ask p)).length cn)) g (L.cut2 ask) ∧ (∀ ad, ay = some ad → ad.block < (wr.setCell ⟨g, 11, none⟩ (.slice an (L.s2.out.filter (fun p => !ask p)).length cn)).heap.size)) := Lib.hid (by
        have hgY : ∀ ad, ay = some ad → ad.block ≠ g := fun ad ha e => by have := ownblk hY ha; omega
        have hgN : ∀ ad, an = some ad → ad.block ≠ g := fun ad ha e => by have := ownblk hN ha; omega
        have hY5 := own_kept' hY ks (fun ad ha e => hgY ad ha e)
        have hN5 := own_kept' hN ks (fun ad ha e => hgN ad ha e)
        refine ⟨hY5, (Kept.of_below hB).trans ks (fun _ _ e => e), ⟨a0, c0, a1, c1, an, cn, ⟨?_, own_kept' B.r0 ks (fun ad ha e => B.g0 ad ha e), own_kept' B.r1 ks (fun ad ha e => B.g1 ad ha e), own_mono hN5 (Nat.zero_le _), B.g0, B.g1, hgN, B.d01, (fun ad ad' ha ha' e => by have := ownblk hN ha'; have := own_at HB.out.r0 ha; omega), (fun ad ad' ha ha' e => by have := ownblk hN ha'; have := own_at HB.out.r1 ha; omega)⟩, .inl F0, (fun ad ha => .inl (Fa0 ad ha)), (fun ad ha => .inl (Fa1 ad ha)), (fun ad ha => .inr ⟨ownblk hN ha, own_at hN5 ha⟩)⟩, fun ad ha => own_at hY5 ha⟩
        have e : lcells (L.cut2 ask) a0 c0 a1 c1 an cn = (lcells L a0 c0 a1 c1 a2 c2).set 11 (.slice an (L.s2.out.filter (fun p => !ask p)).length cn) := rfl
        rw [e]
        exact B.has.set 11 _)
      clear ks B hY hN hyn
      go_wp2
      go_ret
      exact ⟨ay, cy, rfl, HRES.out.1, HRES.out.2.1, HRES.out.2.2.1, HRES.out.2.2.2⟩

end Go.Proofs.Ytkpeegcpicckjaa

/- hone.field, fields. Conditions: the sizes, the library's variables. -/
import Derived.Test.YtfffefhchjnfjaaGreatDoorHoCf
import Derived.Test.YtfffefhchjnfjaaGreatDoorFld
import Derived.Test.YtfffefhchjnfjaaGreatDoorGrowS
import Derived.Deep.DeepCutAuto
import Derived.Deep.MidRow
namespace Go.Proofs.YtfffefhchjnfjaaGreatDoor
open Go.RowKit

theorem cutAt_cutS (c : UInt8) : ∀ l : List UInt8, cutS [c] l = cutAt c l
  | [] => rfl
  | a :: r => by
    unfold cutS cutAt
    by_cases h : a = c
    · subst h
      rw [if_pos (by simp [List.isPrefixOf]), if_pos rfl]; rfl
    · rw [if_neg (by simp [List.isPrefixOf, Ne.symm h]), if_neg h, cutAt_cutS c r]
theorem cutAt_parts {c : UInt8} : ∀ {l a b : List UInt8}, cutAt c l = some (a, b) → l = a ++ c :: b
  | [], a, b, h => by simp [cutAt] at h
  | x :: r, a, b, h => by
    unfold cutAt at h
    split at h
    · rename_i hx
      simp only [Option.some.injEq, Prod.mk.injEq] at h
      rw [hx, ← h.1, ← h.2]; rfl
    · simp only [Option.map_eq_some_iff, Prod.mk.injEq] at h
      obtain ⟨⟨a', b'⟩, h1, rfl, rfl⟩ := h
      rw [cutAt_parts h1]; rfl
def CutR (w : World) (l : List UInt8) (o : Option (List UInt8 × List UInt8)) (e : Ending) (w' : World) : Prop :=
  match o with
  | none => e = .returned (.tuple #[.string (strB l), .string (strB []), .bool false]) ∧ Below w.heap.size w w'
  | some (a, b) => e = .returned (.tuple #[.string (strB a), .string (strB b), .bool true]) ∧ Below w.heap.size w w'
theorem cut58_any (w : World) (ht : Tab w) (l : List UInt8) (hl : l.length < 4294967281) : Calls Tryz.prog 60 #[.string (strB l), .string ⟨#[58]⟩] w (CutR w l (cutAt 58 l)) := by
  obtain ⟨m, hm⟩ := ht.mx
  refine (Tryz.strings_Cut (strB l) ⟨#[58]⟩ m w (by rw [strB_size]; exact hl) hm).mono ?_
  rintro e w' ⟨rfl, n, rfl⟩
  have hi := index_cutS [58] l
  rw [cutAt_cutS] at hi
  have hd : (strB l).data.toList = l := strB_toList l
  have hs : (⟨#[58]⟩ : ByteArray).data.toList = [58] := rfl
  rw [hd, hs]
  have hb := below_drewN (Below.refl w.heap.size w) n
  cases hc : cutAt 58 l with
  | none =>
    rw [hc] at hi
    simp only at hi
    unfold CutR Lib.cut
    rw [hi, if_neg (by decide)]
    exact ⟨rfl, hb⟩
  | some ab =>
    obtain ⟨a, b⟩ := ab
    rw [hc] at hi
    simp only at hi
    have he := cutAt_parts hc
    unfold CutR Lib.cut
    rw [hi, if_pos (by omega), Int.toNat_natCast]
    have e1 : l.take a.length = a := by rw [he, List.take_left]
    have e2 : l.drop (a.length + ([58] : List UInt8).length) = b := by rw [he, ← List.drop_drop, List.drop_left]; rfl
    rw [e1, e2]
    exact ⟨rfl, hb⟩
theorem infoFd : (Tryz.prog.info? 58).map (·.size) = some 2 := by kernel_rfl
theorem Has.rangeAt {w : World} {b : Nat} {t : TypeId} {vs : List Value} (h : Has w b t vs) : w.rangeAt b 0 vs := fun j v hv => by rw [Nat.zero_add]; exact h.cell j hv
theorem Has.there {w : World} {b : Nat} {t : TypeId} {vs : List Value} (h : Has w b t vs) {n : Nat} (hn : n = vs.length) : w.there b 0 n := fun j hj => by
  rw [Nat.zero_add]
  exact ⟨by rw [h.cell j (List.getElem?_eq_getElem (by omega))]; rfl, h.free j⟩
theorem results_fd2 {fn : Func} {c u : Tmp} (h : fn.results = #[.cell c 58, .tmp u]) (tmps : Array Value) {w : World} {b : Nat} {vs : List Value} (hc : tmps.getD c undef = .pointer (some ⟨b, 0, none⟩)) (hH : Has w b 58 vs) (hl : vs.length = 2) :
    (results fn tmps).run Tryz.prog w = .ok (.tuple #[.agg vs.toArray, tmps.getD u undef]) w := by
  have hr := run_loadVar_mid (P := Tryz.prog) w b 0 58 vs _ hH.rangeAt Tryz.underlying58 rfl (by rw [infoFd, hl])
  simp only [results, h]
  simp only [Array.getD_eq_getD_getElem?] at hc ⊢
  simp [hc, asAddr, hr]
theorem Has.stores {b : Nat} {t : TypeId} : ∀ {vs : List Value} {us : List Value} {w : World} (o : Nat), Has w b t us → o + vs.length ≤ us.length → Has (w.setCells b o vs) b t (us.take o ++ vs ++ us.drop (o + vs.length)) := by
  intro vs
  induction vs with
  | nil => intro us w o h _; simpa [World.setCells] using h
  | cons v r ih =>
    intro us w o h hl
    rw [World.setCells]
    have h1 := ih (o + 1) (h.set o v) (by simp at hl ⊢; omega)
    have e : (us.set o v).take (o + 1) ++ r ++ (us.set o v).drop (o + 1 + r.length) = us.take o ++ (v :: r) ++ us.drop (o + (v :: r).length) := by
      simp only [List.length_cons] at hl
      rw [List.take_set, List.drop_set_of_lt (by omega)]
      have e1 : (us.take (o + 1)).set o v = us.take o ++ [v] := by
        rw [List.take_succ_eq_append_getElem (by omega), List.set_append_right _ _ (by simp; omega)]
        simp [List.length_take, Nat.min_eq_left (show o ≤ us.length by omega)]
      rw [e1, List.length_cons]
      simp [List.append_assoc, Nat.add_comm, Nat.add_left_comm]
    rw [← e]
    exact h1
theorem Has.store {w : World} {b : Nat} {t : TypeId} {us vs : List Value} (h : Has w b t us) (hl : vs.length = us.length) : Has (w.setCells b 0 vs) b t vs := by
  have := h.stores (vs := vs) 0 (by omega)
  rw [List.take_zero, List.nil_append, Nat.zero_add, hl, List.drop_length, List.append_nil] at this
  exact this
theorem Kept.sets (b : Nat) : ∀ (vs : List Value) (o : Nat) (w : World), Kept (fun k => k = b) w (w.setCells b o vs)
  | [], _, w => Kept.refl _ w
  | v :: r, o, w => by
    rw [World.setCells]
    exact (Kept.set w b o v).trans (Kept.sets b r (o + 1) _) (fun _ _ h => h)
/-- what field answers -/
def FldR (w : World) (x : Ex Fd) (e : Ending) (w' : World) : Prop :=
  match x with
  | .ok f => e = .returned (.tuple #[.agg #[.string f.nm, .string f.va], .int .i64 0]) ∧ Below w.heap.size w w'
  | .bad c => e = .returned (.tuple #[.agg #[.string ⟨#[]⟩, .string ⟨#[]⟩], .int .i64 c]) ∧ Below w.heap.size w w'
theorem FldR.ok {w w' : World} {x : Ex Fd} {f : Fd} (h : x = .ok f) (hb : Below w.heap.size w w') : FldR w x (.returned (.tuple #[.agg #[.string f.nm, .string f.va], .int .i64 0])) w' := by subst h; exact ⟨rfl, hb⟩
theorem FldR.bad {w w' : World} {x : Ex Fd} {c : Int} (h : x = .bad c) (hb : Below w.heap.size w w') : FldR w x (.returned (.tuple #[.agg #[.string ⟨#[]⟩, .string ⟨#[]⟩], .int .i64 c])) w' := by subst h; exact ⟨rfl, hb⟩
theorem trim_len (l : List UInt8) : (trimL l).length ≤ l.length := by
  unfold trimL
  rw [List.length_reverse]
  refine Nat.le_trans (List.dropWhile_sublist _).length_le ?_
  rw [List.length_reverse]
  exact (List.dropWhile_sublist _).length_le
theorem fd_one (a b : ByteArray) : Array.all (#[.string a, .string b] : Array Value) (·.oneCell') = true := by simp [Value.oneCell']
def fd0C : List Value := [.string ⟨#[]⟩, .string ⟨#[]⟩]
set_option maxRecDepth 100000 in
set_option maxHeartbeats 4000000 in
theorem field_any (w : World) (ht : Tab w) (L : List UInt8) (hl : L.length < 4294967281) : Calls Tryz.prog 41 #[.string (strB L)] w (FldR w (fieldH L)) := by
  obtain ⟨w2, hw2⟩ : ∃ w2, w2 = w.alloc (.cells #[.string ⟨#[]⟩, .string ⟨#[]⟩] 58) := ⟨_, rfl⟩
  obtain ⟨g2, hg2⟩ : ∃ g2, g2 = w.heap.size := ⟨_, rfl⟩
  have HH2 : Hid (Has w2 g2 58 fd0C) := Lib.hid (by rw [hw2, hg2]; exact Has.new w 58 #[.string ⟨#[]⟩, .string ⟨#[]⟩])
  have hb2 : Below w.heap.size w w2 := by rw [hw2]; exact (Below.refl _ w).alloc (Nat.le_refl _) _
  have HB2 := Lib.hid hb2
  have HG2 : Hid (w.heap.size ≤ g2) := Lib.hid (by rw [hg2]; exact Nat.le_refl _)
  have HT2 := Lib.hid (ht.below hb2)
  have hcut := cut58_any w2 HT2.out L hl
  obtain ⟨F, hF⟩ : ∃ F, F = fieldH L := ⟨_, rfl⟩
  rw [← hF]
  cases hc : cutAt 58 L with
  | none =>
    rw [hc] at hcut
    have HCut := Lib.hid hcut
    have HF : Hid (F = .bad 180) := Lib.hid (by rw [hF, fieldH, hc])
    have hTr := fun w' => strim_any w' (strB []) (by decide)
    have HTr := Lib.hid hTr
    obtain ⟨S, hS⟩ : ∃ S, S = strB L := ⟨_, rfl⟩
    rw [← hS] at HCut ⊢
    clear hcut hc hF hl ht hTr hb2 hS
    go_enter Tryz.func41, Tryz.ntmps41
    go_upto_region 1 with fail
    rw [← hw2, ← hg2]
    clear hw2 hg2
    go_wp2_with fail
    refine HCut.out.mono ?_
    rintro e w3 ⟨rfl, hb3⟩
    have HTr3 := Lib.hid (HTr.out w3)
    have HB3 : Hid (Below w.heap.size w w3) := Lib.hid (HB2.out.trans (hb3.mono HB2.out.size))
    have HH3 : Hid (Has w3 g2 58 fd0C) := Lib.hid (HH2.out.kept (Kept.of_below (X := none') hb3) (fun h => h))
    clear hb3 HTr
    go_wp2_with fail
    refine HTr3.out.mono ?_
    rintro e w4 ⟨rfl, hb4⟩
    have HB4 : Hid (Below w.heap.size w w4) := Lib.hid (HB3.out.trans (hb4.mono HB3.out.size))
    have HH4 : Hid (Has w4 g2 58 fd0C) := Lib.hid (HH3.out.kept (Kept.of_below (X := none') hb4) (fun h => h))
    clear hb4
    have hth := HH4.out.there (n := 2) rfl
    have ho1 := fd_one ⟨#[]⟩ ⟨#[]⟩
    go_wp2_with (refine wpList_store_mid rfl 58 (.tmp 2) (.tmp 27) rfl g2 0 #[.string ⟨#[]⟩, .string ⟨#[]⟩] rfl rfl hth infoFd ho1 ?_)
    refine bodyPost_ret (results_fd2 rfl _ rfl (HH4.out.store (vs := fd0C) rfl) rfl) rfl ?_
    exact FldR.bad HF.out (HB4.out.trans ((Kept.sets g2 fd0C 0 w4).below HB4.out.size (fun k h => by rw [h]; exact HG2.out)))
  | some ab =>
    obtain ⟨a, v⟩ := ab
    have he := cutAt_parts hc
    have hal : a.length < 4294967281 ∧ v.length < 4294967281 := by
      have := congrArg List.length he
      rw [List.length_append, List.length_cons] at this
      omega
    rw [hc] at hcut
    have HCut := Lib.hid hcut
    have HF : Hid (F = if a = [] ∨ a.all tokC = false then .bad 180 else if (trimL v).all valC = false then .bad 181 else .ok ⟨strB (smallL a), strB (trimL v)⟩) := Lib.hid (by rw [hF, fieldH, hc])
    have hTr := fun w' => strim_any w' (strB v) (by rw [strB_size]; omega)
    rw [bl_strB'] at hTr
    have hRb := fun w' => rightb_any w' (trimL v) (by have := trim_len v; unfold maxLen; omega)
    have HRb := Lib.hid hRb
    have hSm := fun w' => hsmall_any w' (strB a) (by rw [strB_size]; omega)
    rw [bl_strB'] at hSm
    have HSm := Lib.hid hSm
    have HAl : Hid (a.length ≤ maxLen) := Lib.hid (by unfold maxLen; omega)
    obtain ⟨S, hS⟩ : ∃ S, S = strB L := ⟨_, rfl⟩
    obtain ⟨V, hV⟩ : ∃ V, V = strB (trimL v) := ⟨_, rfl⟩
    obtain ⟨RV, hRV⟩ : ∃ RV, RV = (trimL v).all valC := ⟨_, rfl⟩
    have hTr2 : ∀ w', Calls Tryz.prog 45 #[.string (strB v), .string ⟨#[32, 9]⟩] w' (TupOf w' (.string V)) := by rw [hV]; exact hTr
    have HTr := Lib.hid hTr2
    rw [← hS] at HCut ⊢
    rw [← hV] at HF HRb
    rw [← hRV] at HRb HF
    clear hcut hc hF hl ht hTr hTr2 hb2 hS hV he hal hRb hSm hRV
    go_enter Tryz.func41, Tryz.ntmps41
    go_upto_region 1 with fail
    rw [← hw2, ← hg2]
    clear hw2 hg2
    go_wp2_with fail
    refine HCut.out.mono ?_
    rintro e w3 ⟨rfl, hb3⟩
    have HTr3 := Lib.hid (HTr.out w3)
    have HB3 : Hid (Below w.heap.size w w3) := Lib.hid (HB2.out.trans (hb3.mono HB2.out.size))
    have HH3 : Hid (Has w3 g2 58 fd0C) := Lib.hid (HH2.out.kept (Kept.of_below (X := none') hb3) (fun h => h))
    clear hb3 HTr
    go_wp2_with fail
    refine HTr3.out.mono ?_
    rintro e w4 ⟨rfl, hb4⟩
    have HB4 : Hid (Below w.heap.size w w4) := Lib.hid (HB3.out.trans (hb4.mono HB3.out.size))
    have HH4 : Hid (Has w4 g2 58 fd0C) := Lib.hid (HH3.out.kept (Kept.of_below (X := none') hb4) (fun h => h))
    clear hb4 HTr3 HCut
    obtain ⟨A, hA⟩ : ∃ A, A = strB a := ⟨_, rfl⟩
    by_cases ha : a = []
    · obtain ⟨e1, e2⟩ := eqT2 (s := A) (l := []) (by rw [hA, bl_strB']; exact ha)
      have HF2 : Hid (F = .bad 180) := Lib.hid (by rw [HF.out, if_pos (.inl ha)])
      rw [← hA]
      clear ha hA
      have hth := HH4.out.there (n := 2) rfl
      have ho1 := fd_one ⟨#[]⟩ ⟨#[]⟩
      go_wp2_with (refine wpList_store_mid rfl 58 (.tmp 2) (.tmp 27) rfl g2 0 #[.string ⟨#[]⟩, .string ⟨#[]⟩] rfl rfl hth infoFd ho1 ?_)
      refine bodyPost_ret (results_fd2 rfl _ rfl (HH4.out.store (vs := fd0C) rfl) rfl) rfl ?_
      exact FldR.bad HF2.out (HB4.out.trans ((Kept.sets g2 fd0C 0 w4).below HB4.out.size (fun k h => by rw [h]; exact HG2.out)))
    · obtain ⟨e1, e2⟩ := eqF2 (s := A) (l := []) (by rw [hA, bl_strB']; exact ha)
      obtain ⟨ca, w5, hcv, hbt, hbc, hb5⟩ := conv_bts2 w4 a HAl.out
      have hCo := fcont_any w5 (bts_sl hbt ca hbc.1 hbc.2)
      obtain ⟨n, hn⟩ : ∃ n, n = a.length := ⟨_, rfl⟩
      obtain ⟨g, hg⟩ : ∃ g, g = w4.heap.size := ⟨_, rfl⟩
      rw [← hA, ← hn, ← hg] at hcv
      rw [← hn, ← hg] at hCo
      rw [← hA] at HSm ⊢
      have HB5 : Hid (Below w.heap.size w w5) := Lib.hid (HB4.out.trans (hb5.mono HB4.out.size))
      have HH5 : Hid (Has w5 g2 58 fd0C) := Lib.hid (HH4.out.kept (Kept.of_below (X := none') hb5) (fun h => h))
      cases hat : a.all tokC with
      | false =>
        have HF2 : Hid (F = .bad 180) := Lib.hid (by rw [HF.out, if_pos (.inr hat)])
        rw [hat] at hCo
        have HCo := Lib.hid hCo
        clear hat ha hA hCo hbt hbc hb5 hn hg
        go_wp2_with fail
        refine HCo.out.mono ?_
        rintro e w6 ⟨rfl, hb6⟩
        have HB6 : Hid (Below w.heap.size w w6) := Lib.hid (HB5.out.trans (hb6.mono HB5.out.size))
        have HH6 : Hid (Has w6 g2 58 fd0C) := Lib.hid (HH5.out.kept (Kept.of_below (X := none') hb6) (fun h => h))
        clear hb6
        have hth := HH6.out.there (n := 2) rfl
        have ho1 := fd_one ⟨#[]⟩ ⟨#[]⟩
        go_wp2_with (refine wpList_store_mid rfl 58 (.tmp 2) (.tmp 27) rfl g2 0 #[.string ⟨#[]⟩, .string ⟨#[]⟩] rfl rfl hth infoFd ho1 ?_)
        refine bodyPost_ret (results_fd2 rfl _ rfl (HH6.out.store (vs := fd0C) rfl) rfl) rfl ?_
        exact FldR.bad HF2.out (HB6.out.trans ((Kept.sets g2 fd0C 0 w6).below HB6.out.size (fun k h => by rw [h]; exact HG2.out)))
      | true =>
        rw [hat] at hCo
        have HCo := Lib.hid hCo
        have HF3 : Hid (F = if RV = false then .bad 181 else .ok ⟨strB (smallL a), V⟩) := Lib.hid (by rw [HF.out, if_neg (by rintro (h | h); exact ha h; rw [hat] at h; cases h)])
        clear hat ha hA hCo hbt hbc hb5 hn hg
        go_wp2_with fail
        refine HCo.out.mono ?_
        rintro e w6 ⟨rfl, hb6⟩
        have HB6 : Hid (Below w.heap.size w w6) := Lib.hid (HB5.out.trans (hb6.mono HB5.out.size))
        have HH6 : Hid (Has w6 g2 58 fd0C) := Lib.hid (HH5.out.kept (Kept.of_below (X := none') hb6) (fun h => h))
        have HRb6 := Lib.hid (HRb.out w6)
        clear hb6 hcv e1 e2
        cases RV with
        | false =>
          go_wp2_with fail
          refine HRb6.out.mono ?_
          rintro e w7 ⟨rfl, hb7⟩
          have HB7 : Hid (Below w.heap.size w w7) := Lib.hid (HB6.out.trans (hb7.mono HB6.out.size))
          have HH7 : Hid (Has w7 g2 58 fd0C) := Lib.hid (HH6.out.kept (Kept.of_below (X := none') hb7) (fun h => h))
          clear hb7
          have hth := HH7.out.there (n := 2) rfl
          have ho1 := fd_one ⟨#[]⟩ ⟨#[]⟩
          go_wp2_with (refine wpList_store_mid rfl 58 (.tmp 2) (.tmp 32) rfl g2 0 #[.string ⟨#[]⟩, .string ⟨#[]⟩] rfl rfl hth infoFd ho1 ?_)
          refine bodyPost_ret (results_fd2 rfl _ rfl (HH7.out.store (vs := fd0C) rfl) rfl) rfl ?_
          exact FldR.bad HF3.out (HB7.out.trans ((Kept.sets g2 fd0C 0 w7).below HB7.out.size (fun k h => by rw [h]; exact HG2.out)))
        | true =>
          go_wp2_with fail
          refine HRb6.out.mono ?_
          rintro e w7 ⟨rfl, hb7⟩
          have HB7 : Hid (Below w.heap.size w w7) := Lib.hid (HB6.out.trans (hb7.mono HB6.out.size))
          have HH7 : Hid (Has w7 g2 58 fd0C) := Lib.hid (HH6.out.kept (Kept.of_below (X := none') hb7) (fun h => h))
          have HSm7 := Lib.hid (HSm.out w7)
          clear hb7
          go_wp2_with fail
          refine HSm7.out.mono ?_
          rintro e w8 ⟨rfl, hb8⟩
          have HB8 : Hid (Below w.heap.size w w8) := Lib.hid (HB7.out.trans (hb8.mono HB7.out.size))
          have HH8 : Hid (Has w8 g2 58 fd0C) := Lib.hid (HH7.out.kept (Kept.of_below (X := none') hb8) (fun h => h))
          obtain ⟨N, hN⟩ : ∃ N, N = strB (smallL a) := ⟨_, rfl⟩
          rw [← hN] at HF3 ⊢
          clear hb8 hN
          have hth := HH8.out.there (n := 2) rfl
          have ho1 := fd_one N V
          go_wp2_with (refine wpList_store_mid rfl 58 (.tmp 2) (.tmp 36) rfl g2 0 #[.string N, .string V] rfl rfl hth infoFd ho1 ?_)
          refine bodyPost_ret (results_fd2 rfl _ rfl (HH8.out.store (vs := [.string N, .string V]) rfl) rfl) rfl ?_
          exact FldR.ok (f := ⟨N, V⟩) HF3.out (HB8.out.trans ((Kept.sets g2 _ 0 w8).below HB8.out.size (fun k h => by rw [h]; exact HG2.out)))
end Go.Proofs.YtfffefhchjnfjaaGreatDoor

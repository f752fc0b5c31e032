/- Loss detection: the law's own book in memory; contract of its take. -/
import Derived.Test.YtkpeegcpicckjaaLsBook
import Derived.Test.YtkpeegcpicckjaaLsGrow
import Derived.Test.YtkpeegcpicckjaaLsNum
import Derived.Test.YtkpeegcpicckjaaWalk
namespace Go.Proofs.Ytkpeegcpicckjaa
open Go.RowKit

theorem nums_get' (l : List Int) (i : Nat) (h : i < l.length) : (nums l)[i]? = some (.int .i64 l[i]) := by simp [nums, h]
/-- the book lies at bb -/
structure BkAt (w : World) (bb : Nat) (out : List On) (oa : Option Addr) (oc : Nat) : Prop where
  has : Has w bb 52 [.slice oa out.length oc, .int .i64 (osum out)]
  row : w.ownsRow 0 54 3 (.slice oa out.length oc) out.length (ov out)
  ne : ∀ ad, oa = some ad → ad.block ≠ bb
theorem BkAt.kept {X : Nat → Prop} {w w' : World} {bb : Nat} {out : List On} {oa : Option Addr} {oc : Nat} (h : BkAt w bb out oa oc) (hk : Kept X w w') (hb : ¬ X bb) (hx : ∀ ad, oa = some ad → ¬ X ad.block) : BkAt w' bb out oa oc :=
  ⟨h.has.kept hk hb, own_kept' h.row hk hx, h.ne⟩
theorem BkAt.below {w w' : World} {bb : Nat} {out : List On} {oa : Option Addr} {oc : Nat} (h : BkAt w bb out oa oc) (hb : Below w.heap.size w w') : BkAt w' bb out oa oc :=
  h.kept (X := none') (Kept.of_below hb) (fun h => h) (fun _ _ h => h)

theorem infoOn : (Try.prog.info? 54).map (fun i => (i.zero, i.size, i.bytes)) = some (some (.agg #[.int .i64 0, .int .i64 0, .int .i64 0]), 3, 24) := by kernel_rfl
/-- 'append(s, x...)', elements of any size; nothing may be appended -/
theorem run_app_s0 {P : Program} {t e : TypeId} {z : Value} {i : TypeInfo} {s bytes : Nat} (ht : P.underlying t = some (.slice e)) (hi : P.info? e = some i) (hz : i.zero = some z) (hsize : i.size = s) (hby : i.bytes = bytes) (hzs : z.cells.size = s) (h0 : 0 < s)
    {B : Nat} {w : World} {tyo : TypeId} {a1 : Option Addr} {n1 c1 : Nat} {xs1 : List Value} {ad : Addr} {n2 c2 : Nat} {xs2 : List Value}
    (hown : w.ownsRow B e s (.slice a1 n1 c1) n1 xs1) (hl2 : xs2.length = n2 * s) (hnews : ∀ j u, xs2[j]? = some u → w.cell? (ad.add j) = some u) (h1 : ∀ u ∈ xs2, u.oneCell' = true)
    (hsz : (n1 + n2) * bytes ≤ 140737488355328) (hmx : n1 + n2 ≤ maxLen) (hBw : B ≤ w.heap.size) :
    ∃ a' c' w', (Builtin.append_ #[t, t] tyo #[.slice a1 n1 c1, .slice (some ad) n2 c2]).run P w = .ok (.slice a' (n1 + n2) c') w' ∧
      w'.ownsRow B e s (.slice a' (n1 + n2) c') (n1 + n2) (xs1 ++ xs2) ∧ w.grownBy w' (Value.ownBlock (.slice a1 n1 c1)) ∧ NewOr w (.slice a1 n1 c1) (.slice a' (n1 + n2) c') := by
  by_cases hn2 : 0 < n2
  · exact run_app_s ht hi hz hsize hby hzs h0 hown hl2 hnews h1 hn2 hsz hmx hBw
  · obtain rfl : n2 = 0 := by omega
    obtain ⟨v', w', hr, hown', hgr, hiff⟩ := run_append_own (P := P) w B t tyo e i z s bytes ht hi hz hsize hby hzs h0 (.slice a1 n1 c1) n1 xs1 hown ad 0 c2 xs2 hl2 hnews h1 hmx hsz hBw
    obtain ⟨a', c', rfl⟩ := own_slice hown'
    refine ⟨a', c', w', hr, hown', hgr, ?_⟩
    rcases hown.2 with ⟨hv, rfl⟩ | ⟨g, cap, cur, hv, hbg, hg, hnc, hcm, hcs, htake⟩
    · simp only [Value.slice.injEq] at hv
      obtain ⟨rfl, _, rfl⟩ := hv
      intro k hk
      rw [hiff.2 ⟨rfl, rfl⟩] at hk
      cases hk
    · simp only [Value.slice.injEq, true_and] at hv
      obtain ⟨rfl, rfl⟩ := hv
      have hfit : n1 * i.size + xs2.length ≤ cur.size := by
        rw [hl2, hcs, hsize, ← Nat.add_mul]
        exact Nat.mul_le_mul_right s (by omega)
      have hr2 := run_append_room (P := P) w t tyo e i ht hi g n1 c1 cur hg ad 0 c2 xs2 (by rw [hsize]; exact hl2) hnews h1 (by omega) hfit
      have he := hr.symm.trans hr2
      simp only [Result.ok.injEq] at he
      intro k hk
      rw [he.1] at hk
      exact .inl hk
/-- entries of the book are appended -/
theorem run_app_on {B : Nat} {w : World} {tyo : TypeId} {a1 : Option Addr} {n1 c1 : Nat} {l1 : List On} (hown : w.ownsRow B 54 3 (.slice a1 n1 c1) n1 (ov l1)) {l2 : List On} {ad : Addr} {n2 c2 n : Nat} (hl2 : l2.length = n2) (hn : n1 + n2 = n)
    (hnews : ∀ j u, (ov l2)[j]? = some u → w.cell? (ad.add j) = some u) (hsz : n ≤ 1048576) (hBw : B ≤ w.heap.size) :
    ∃ a' c' w', (Builtin.append_ #[50, 50] tyo #[.slice a1 n1 c1, .slice (some ad) n2 c2]).run Try.prog w = .ok (.slice a' n c') w' ∧
      w'.ownsRow B 54 3 (.slice a' n c') n (ov (l1 ++ l2)) ∧ w.grownBy w' (Value.ownBlock (.slice a1 n1 c1)) ∧ NewOr w (.slice a1 n1 c1) (.slice a' n c') := by
  obtain ⟨i, hi, h1, h2, h3⟩ := info_parts infoOn
  subst hn
  rw [ov_append]
  exact run_app_s0 (s := 3) (bytes := 24) (z := .agg #[.int .i64 0, .int .i64 0, .int .i64 0]) Try.underlying50 hi h1 h2 h3 rfl (by decide) hown (by rw [ov_length, hl2]) hnews (ov_one _) (by omega) (by unfold maxLen; omega) hBw

/-- all were there, and are taken out -/
def TakeP (w : World) (bb : Nat) (out : List On) (oa : Option Addr) (e : Ending) (w' : World) : Prop :=
  e = .returned (.bool true) ∧ Kept (fun k => k = bb) w w' ∧ ∃ oa' oc', BkAt w' bb out oa' oc' ∧ ∀ ad, oa' = some ad → oa = some ad ∨ w.heap.size ≤ ad.block
set_option maxRecDepth 100000 in
set_option maxHeartbeats 4000000 in
theorem take_any (w : World) {bb : Nat} {out : List On} {oa : Option Addr} {oc : Nat} (hB : BkAt w bb out oa oc) (hU : Uniq out) (hsz : ∀ o ∈ out, 0 ≤ o.size ∧ o.size ≤ 65535) (hlen : out.length ≤ 12288) (s : Int) {zs : List Int} {na : Option Addr} {nn nc : Nat}
    (hnd : zs.Nodup) (hin : ∀ z ∈ zs, ∃ o ∈ out, isO s z o = true) (hS : Sl w na nn nc (nums zs)) (hna : ∀ ad, na = some ad → ad.block ≠ bb) :
    Calls Try.prog 18 #[.pointer (some ⟨bb, 0, none⟩), .int .i64 s, .slice na nn nc] w (TakeP w bb (left s zs out) oa) := by
  have hnl : zs.length = nn := by have := hS.len; simpa [nums] using this
  have hcap := hS.cap_le
  have hcm := hS.cap_max
  have hcm' : (nc : Int) ≤ 9223372036854775807 := by unfold maxLen at hcm; omega
  have HS := Lib.hid hS
  have HNA := Lib.hid hna
  have HNL := Lib.hid hnl
  have HIN := Lib.hid hin
  have HND := Lib.hid hnd
  have HSZ := Lib.hid hsz
  have HU := Lib.hid hU
  have HLN := Lib.hid hlen
  have H0 := Lib.hid hB
  clear hS hna hnl hin hnd hsz hU hlen hB hcm
  go_enter Try.func18, Try.ntmps18
  go_wp2_with fail
  go_loopw [13] (fun v wr => ∃ (k : Nat) (oa' : Option Addr) (oc' : Nat), v = .int .i64 (k : Int) ∧ k ≤ nn ∧ Kept (fun k => k = bb) w wr ∧ BkAt wr bb (left s (zs.take k) out) oa' oc' ∧ ∀ ad, oa' = some ad → oa = some ad ∨ w.heap.size ≤ ad.block) (fun v _ => nn - (intOf v).toNat)
  case atStart => exact ⟨0, oa, oc, rfl, Nat.zero_le _, Kept.of_below (Below.refl _ _), by rw [List.take_zero, left_nil]; exact H0.out, fun ad h => .inl h⟩
  case round =>
    obtain ⟨k, oa', oc', rfl, hk, hK, hB, hoa⟩ := hrel
    by_cases hkn : k < nn
    · have hkn' : (k : Int) < (nn : Int) := by omega
      have g2 : IntKind.i64.wrap ((k : Int) + 1) = (k : Int) + 1 := by rw [IntKind.wrap_i64]; omega
      have hkz : k < zs.length := by rw [HNL.out]; exact hkn
      obtain ⟨z, hz⟩ : ∃ z, z = zs[k] := ⟨_, rfl⟩
      obtain ⟨nb, no_, rfl, hcell⟩ := HS.out.cells (by omega)
      have hc0 := hcell k hkn
      rw [nums_get' zs k hkz, ← hz] at hc0
      have hnb : nb ≠ bb := HNA.out ⟨nb, no_, none⟩ rfl
      have hc := hK.cell hc0 hnb
      have hznot : z ∉ zs.take k := by
        intro hm
        have h1 := HND.out
        rw [← List.take_append_drop k zs, List.nodup_append] at h1
        refine h1.2.2 z hm z ?_ rfl
        rw [List.drop_eq_getElem_cons hkz, ← hz]; simp
      obtain ⟨o1, ho1, hi1⟩ := HIN.out z (by rw [hz]; exact List.getElem_mem hkz)
      have hmem := left_mem hznot ho1 hi1
      obtain ⟨T, hT⟩ : ∃ T, T = left s (zs.take k) out := ⟨_, rfl⟩
      have HNx : Hid (left s (zs.take (k + 1)) out = T.filter fun o => !isO s z o) := Lib.hid (by rw [List.take_succ_eq_append_getElem hkz, left_snoc, ← hz, ← hT])
      have HTU : Hid (Uniq T) := Lib.hid (by rw [hT]; exact HU.out.filter _)
      have HTS : Hid (∀ o ∈ T, 0 ≤ o.size ∧ o.size ≤ 65535) := Lib.hid (by rw [hT]; exact fun o ho => HSZ.out o (List.mem_filter.1 ho).1)
      have hTl : T.length ≤ 12288 := by
        rw [hT]; exact Nat.le_trans (List.length_filter_le _ _) HLN.out
      rw [← hT] at hmem hB
      have HM : Hid (T.any (isO s z) = true) := Lib.hid (List.any_eq_true.2 ⟨o1, hmem, hi1⟩)
      clear hc0 hcell hT hmem ho1 hi1 hz hznot hkz
      have c0 := hB.has.cell 0 rfl
      have c1 := hB.has.cell 1 rfl
      have HB := Lib.hid hB
      have HK := Lib.hid hK
      have HOA := Lib.hid hoa
      clear hB hK hoa
      go_wp2_with fail
      go_loopw [22, 9] (fun iv av wq => ∃ (j : Nat) (t : Int), iv = .int .i64 (j : Int) ∧ av = .int .i64 t ∧ j ≤ T.length ∧ Below wr.heap.size wr wq ∧ Hid ((t = -1 ∧ (T.take j).any (isO s z) = false) ∨ ∃ (q : Nat) (o : On), t = (q : Int) ∧ T[q]? = some o ∧ isO s z o = true)) (fun iv _ _ => T.length - (intOf iv).toNat)
      case atStart => exact ⟨0, -1, rfl, rfl, Nat.zero_le _, Below.refl _ _, Lib.hid (.inl ⟨rfl, by simp⟩)⟩
      case round =>
        obtain ⟨j, t, rfl, rfl, hj, hb, HA⟩ := hrel
        clear c0 c1
        have hBq := HB.out.below hb
        have c0 := hBq.has.cell 0 rfl
        have c1 := hBq.has.cell 1 rfl
        by_cases hjT : j < T.length
        · have hjT' : (j : Int) < (T.length : Int) := by omega
          have g3 : IntKind.i64.wrap ((j : Int) + 1) = (j : Int) + 1 := by rw [IntKind.wrap_i64]; omega
          obtain ⟨ob, rfl, e0, e1, _, s1, s2⟩ := own_on hBq.row rfl hjT
          have s1' : (T.length : Int) ≤ (oc' : Int) := by omega
          have HTk := Lib.hid (List.take_succ_eq_append_getElem hjT)
          have HG := Lib.hid (List.getElem?_eq_getElem hjT)
          generalize hx : T[j] = x at HTk HG e0 e1
          clear hx hBq
          have more : isO s z x = false → Hid ((t = -1 ∧ (T.take (j + 1)).any (isO s z) = false) ∨ ∃ (q : Nat) (o : On), t = (q : Int) ∧ T[q]? = some o ∧ isO s z o = true) := fun hf => Lib.hid (by
            rcases HA.out with ⟨h1, h2⟩ | h
            · exact .inl ⟨h1, by rw [HTk.out, List.any_append, h2]; simp [hf]⟩
            · exact .inr h)
          by_cases k1 : x.sp = s
          · have k1b : (x.sp == s) = true := by rw [k1]; simp
            by_cases k2 : x.num = z
            · have k2b : (x.num == z) = true := by rw [k2]; simp
              have HA2 : Hid (((j : Int) = -1 ∧ (T.take (j + 1)).any (isO s z) = false) ∨ ∃ (q : Nat) (o : On), (j : Int) = (q : Int) ∧ T[q]? = some o ∧ isO s z o = true) := Lib.hid (.inr ⟨j, x, rfl, HG.out, by rw [isO_iff]; exact ⟨k1, k2⟩⟩)
              clear more k1 k2
              go_wp2
              go_roundw
              case rel => exact ⟨j + 1, _, by push_cast; rfl, rfl, by omega, hb, HA2⟩
              case measure => simp [intOf]; omega
            · have k2b : (x.num == z) = false := by rw [beq_eq_false_iff_ne]; exact k2
              have HA2 := more (by simp [isO, k2])
              clear more k1 k2
              go_wp2
              go_roundw
              case rel => exact ⟨j + 1, t, by push_cast; rfl, rfl, by omega, hb, HA2⟩
              case measure => simp [intOf]; omega
          · have k1b : (x.sp == s) = false := by rw [beq_eq_false_iff_ne]; exact k1
            have HA2 := more (by simp [isO, k1])
            clear more k1
            go_wp2
            go_roundw
            case rel => exact ⟨j + 1, t, by push_cast; rfl, rfl, by omega, hb, HA2⟩
            case measure => simp [intOf]; omega
        · have hjT' : ¬ (j : Int) < (T.length : Int) := by omega
          obtain ⟨q, o, ht, hq, hio⟩ : ∃ (q : Nat) (o : On), t = (q : Int) ∧ T[q]? = some o ∧ isO s z o = true := by
            rcases HA.out with ⟨_, h2⟩ | h
            · rw [List.take_of_length_le (by omega), HM.out] at h2
              exact Bool.noConfusion h2
            · exact h
          clear HA
          subst ht
          have hql : q < T.length := (List.getElem?_eq_some_iff.1 hq).1
          have hq0 : ¬ (q : Int) < 0 := by omega
          have hqT : (q : Int) < (T.length : Int) := by omega
          obtain ⟨rb, hoa', e0, e1, e2, s1, s2⟩ := own_on hBq.row rfl hql
          have hoe : T[q] = o := by
            rw [List.getElem?_eq_getElem hql] at hq
            exact Option.some.inj hq
          rw [hoe] at e2
          subst hoa'
          have s1' : (T.length : Int) ≤ (oc' : Int) := by omega
          have hos := HTS.out o (List.mem_of_getElem? hq)
          have hsb := osum_bounds T HTS.out
          have g4 : IntKind.i64.wrap (osum T - o.size) = osum T - o.size := by rw [IntKind.wrap_i64]; omega
          have g5 : IntKind.i64.wrap ((q : Int) + 1) = ((q + 1 : Nat) : Int) := by rw [IntKind.wrap_i64]; omega
          have hbd := hb.trans (below_drewN (Below.refl _ _) 1)
          have hBd := HB.out.below hbd
          have d0 := hBd.has.cell 0 rfl
          have d1 := hBd.has.cell 1 rfl
          have df := hBd.has.free 1
          have df' := hBq.has.free 1
          have d2 : (World.drew wr).cell? ⟨rb, q * 3 + 2, none⟩ = some (.int .i64 o.size) := by
            have := (own_on hBd.row rfl hql)
            obtain ⟨rb', h1, _, _, h2, _⟩ := this
            cases h1
            rw [hoe] at h2
            exact h2
          have HBq := Lib.hid hBq
          have HbW := Lib.hid hb
          clear hBd hbd hBq hb
          go_wp2_with fail
          refine Mx.regionZ [] (fun w' => w'.cell? ⟨bb, 0, none⟩ = some (.slice (some ⟨rb, 0, none⟩) T.length oc') ∧ w'.cell? ⟨bb, 1, none⟩ = some (.int .i64 (osum T)) ∧ w'.cell? ⟨rb, q * 3 + 2, none⟩ = some (.int .i64 o.size)) (by kernel_rfl) (by kernel_rfl) ⟨d0, d1, d2⟩ ?_
          repeat ((first | (refine Mx.skips (by kernel_rfl) ?_; go_big_quiet_skip) | (refine Mx.quietly rfl ?_; go_big_quiet_want; go_big_quiet_op; go_big_quiet_on)); refine Mx.done ?_)
          refine Mx.cell ⟨bb, 1, none⟩ (.int .i64 (osum T)) (by kernel_rfl) (by kernel_rfl) (by kernel_rfl) Try.isAgg3 (fun w' h => h.2.1) ?_
          go_big_quiet_want; go_big_quiet_op; go_big_quiet_on; refine Mx.done ?_
          repeat ((first | (refine Mx.skips (by kernel_rfl) ?_; go_big_quiet_skip) | (refine Mx.quietly rfl ?_; go_big_quiet_want; go_big_quiet_op; go_big_quiet_on)); refine Mx.done ?_)
          refine Mx.cell ⟨bb, 0, none⟩ (.slice (some ⟨rb, 0, none⟩) T.length oc') (by kernel_rfl) (by kernel_rfl) (by kernel_rfl) Try.isAgg50 (fun w' h => h.1) ?_
          go_big_quiet_want; go_big_quiet_op; go_big_quiet_on; refine Mx.done ?_
          repeat ((first | (refine Mx.skips (by kernel_rfl) ?_; go_big_quiet_skip) | (refine Mx.quietly rfl ?_; go_big_quiet_want; go_big_quiet_op; go_big_quiet_on)); refine Mx.done ?_)
          refine Mx.cell ⟨rb, q * 3 + 2, none⟩ (.int .i64 o.size) (by kernel_rfl) (by kernel_rfl) (by kernel_rfl) Try.isAgg3 (fun w' h => h.2.2) ?_
          go_big_quiet_want; go_big_quiet_op; go_big_quiet_on; refine Mx.done ?_
          repeat ((first | (refine Mx.skips (by kernel_rfl) ?_; go_big_quiet_skip) | (refine Mx.quietly rfl ?_; go_big_quiet_want; go_big_quiet_op; go_big_quiet_on)); refine Mx.done ?_)
          refine Mx.atLast (by kernel_rfl) (by kernel_rfl) ?_
          go_wp2_with fail
          obtain ⟨w5, hw5⟩ : ∃ w5, w5 = (wr.setCell ⟨bb, 1, none⟩ (.int .i64 (osum T - o.size))).drew := ⟨_, rfl⟩
          rw [← hw5]
          have hk5 := (Kept.set wr bb 1 (.int .i64 (osum T - o.size))).trans (Kept.drew none' _) (fun _ _ h => h.elim)
          have hHas5 := (HBq.out.has.set 1 (.int .i64 (osum T - o.size))).kept (Kept.drew none' _) (fun h => h)
          have hRow5 := own_kept' HBq.out.row hk5 (fun ad ha e => HBq.out.ne ad ha e)
          rw [← hw5] at hk5 hHas5 hRow5
          have hd5 : Below w5.heap.size w5 w5.drew := below_drewN (Below.refl _ w5) 1
          have f0 := (hHas5.kept (Kept.of_below (X := none') hd5) (fun h => h)).cell 0 rfl
          have HHas := Lib.hid hHas5
          have HRow := Lib.hid hRow5
          have HK5 := Lib.hid hk5
          clear hk5 hHas5 hRow5 hw5 d0 d1 d2 df df'
          refine Mx.regionZ [] (fun w' => w'.cell? ⟨bb, 0, none⟩ = some (.slice (some ⟨rb, 0, none⟩) T.length oc')) (by kernel_rfl) (by kernel_rfl) f0 ?_
          repeat ((first | (refine Mx.skips (by kernel_rfl) ?_; go_big_quiet_skip) | (refine Mx.quietly rfl ?_; go_big_quiet_want; go_big_quiet_op; go_big_quiet_on)); refine Mx.done ?_)
          refine Mx.loudly (by kernel_rfl) (by kernel_rfl) ?_
          go_wp2_with fail
          obtain ⟨w6, hw6⟩ : ∃ w6, w6 = (w5.alloc (.cells #[] 54)).drew := ⟨_, rfl⟩
          obtain ⟨eb, heb⟩ : ∃ eb, eb = w5.heap.size := ⟨_, rfl⟩
          have hal6 : Below w5.heap.size w5 w6 := by rw [hw6]; exact ((Below.refl _ w5).alloc (Nat.le_refl _) _).trans (below_drewN (Below.refl _ _) 1)
          have hal6' : Below w5.heap.size w5 (w5.alloc (.cells #[] 54)) := (Below.refl _ w5).alloc (Nat.le_refl _) _
          have hE6 : w6.ownsRow w5.heap.size 54 3 (.slice (some ⟨eb, 0, none⟩) 0 0) 0 (ov []) := by
            rw [hw6, heb]
            exact ⟨rfl, .inr ⟨w5.heap.size, 0, #[], rfl, Nat.le_refl _, heap_alloc_new _ _, Nat.le_refl _, Nat.zero_le _, rfl, rfl⟩⟩
          have hR6 := own_below HRow.out hal6
          have hH6 := HHas.out.kept (Kept.of_below (X := none') hal6) (fun h => h)
          obtain ⟨a7, c7, w7, hr7, ho7, hg7, hno7⟩ := run_app_on (tyo := 50) (w := w6) (c2 := oc') hE6 (l2 := T.take q) (n2 := q) (n := q) (by simp; omega) (Nat.zero_add q) (ad := ⟨rb, 0, none⟩) (by
            intro x u hu
            rw [ov_take, List.getElem?_take] at hu
            split at hu
            · exact hR6.cells rfl x u hu
            · exact absurd hu (by simp)) (by omega) (by have := hal6.size; omega)
          have hK7 : Kept (fun k => k = eb) w6 w7 := (Kept.of_grown hg7).more (fun k _ h => by simp [Value.ownBlock] at h; exact h.symm)
          have hebL : Hid (bb < eb ∧ rb < eb) := Lib.hid (by
            have h1 := HHas.out.lt
            have h2 := own_at HRow.out rfl
            rw [heb]; exact ⟨h1, h2⟩)
          have hH7 := hH6.kept hK7 (by have := hebL.out; omega)
          have f7 := hH7.cell 0 rfl
          rw [← heb]
          refine ⟨(HHas.out.kept (Kept.of_below (X := none') hal6') (fun h => h)).cell 0 rfl, ?_⟩
          rw [← hw6]
          obtain ⟨ev, hev⟩ : ∃ ev, ev = Value.slice (some ⟨eb, 0, none⟩) 0 0 := ⟨_, rfl⟩
          rw [← hev] at hr7
          rw [← hev]
          clear hev
          have f6 := hH6.cell 0 rfl
          have HR6 := Lib.hid hR6
          have HK7 := Lib.hid hK7
          have HO7 := Lib.hid ho7
          have HH7 := Lib.hid hH7
          have HNo7 := Lib.hid hno7
          have HA6 := Lib.hid hal6
          have HW6 := Lib.hid hw6
          have HEb := Lib.hid heb
          clear hw6 heb hal6 hal6' hE6 hR6 hH6 hg7 hK7 ho7 hno7 hH7
          repeat ((first | (refine Mx.skips (by kernel_rfl) ?_; go_big_quiet_skip) | (refine Mx.quietly rfl ?_; go_big_quiet_want; go_big_quiet_op; go_big_quiet_on)); refine Mx.done ?_)
          refine Mx.cell ⟨bb, 0, none⟩ (.slice (some ⟨rb, 0, none⟩) T.length oc') (by kernel_rfl) (by kernel_rfl) (by kernel_rfl) Try.isAgg50 (fun w' h => h) ?_
          go_big_quiet_want; go_big_quiet_op; go_big_quiet_on; refine Mx.done ?_
          repeat ((first | (refine Mx.skips (by kernel_rfl) ?_; go_big_quiet_skip) | (refine Mx.quietly rfl ?_; go_big_quiet_want; go_big_quiet_op; go_big_quiet_on)); refine Mx.done ?_)
          refine Mx.loudly (by kernel_rfl) (by kernel_rfl) ?_
          go_wp2_with (at_builtin; refine Lib.wpList_append_run _ rfl _ _ _ _ rfl ev (.slice (some ⟨rb, 0, none⟩) q oc') rfl rfl _ _ hr7 ?_)
          repeat ((first | (refine Mx.skips (by kernel_rfl) ?_; go_big_quiet_skip) | (refine Mx.quietly rfl ?_; go_big_quiet_want; go_big_quiet_op; go_big_quiet_on)); refine Mx.done ?_)
          refine Mx.cell ⟨bb, 0, none⟩ (.slice (some ⟨rb, 0, none⟩) T.length oc') (by kernel_rfl) (by kernel_rfl) (by kernel_rfl) Try.isAgg50 (fun w' h => h) ?_
          go_big_quiet_want; go_big_quiet_op; go_big_quiet_on; refine Mx.done ?_
          repeat ((first | (refine Mx.skips (by kernel_rfl) ?_; go_big_quiet_skip) | (refine Mx.quietly rfl ?_; go_big_quiet_want; go_big_quiet_op; go_big_quiet_on)); refine Mx.done ?_)
          have hR7 := own_kept' HR6.out HK7.out (fun ad ha e => by cases ha; have := hebL.out; simp only at e; omega)
          generalize hsa : (if oc' = q + 1 then some (⟨rb, 0, none⟩ : Addr) else some ⟨rb, (q + 1) * 3, none⟩) = sa2
          obtain ⟨ad2, rfl, hnews⟩ : ∃ ad2, sa2 = some ad2 ∧ ∀ x u, (ov (T.drop (q + 1)))[x]? = some u → w7.cell? (ad2.add x) = some u := by
            by_cases hc : oc' = q + 1
            · rw [if_pos hc] at hsa
              refine ⟨_, hsa.symm, fun x u hu => ?_⟩
              rw [List.drop_of_length_le (by omega)] at hu
              simp [ov] at hu
            · rw [if_neg hc] at hsa
              refine ⟨_, hsa.symm, fun x u hu => ?_⟩
              rw [ov_drop, List.getElem?_drop] at hu
              have := hR7.cells rfl _ u hu
              rw [addr_add, Nat.zero_add] at this
              rw [addr_add]
              exact this
          clear hsa
          obtain ⟨a8, c8, w8, hr8, ho8, hg8, hno8⟩ := run_app_on (tyo := 50) (w := w7) (c2 := oc' - (q + 1)) HO7.out (l2 := T.drop (q + 1)) (n2 := T.length - (q + 1)) (n := T.length - 1) (by simp) (by omega) (ad := ad2) hnews (by omega) (by have := HA6.out.size; have := HK7.out.size; omega)
          have hb7 : ∀ kk, Value.ownBlock (.slice a7 q c7) = some kk → w5.heap.size ≤ kk := fun kk h => (HO7.out.lt kk h).1
          have hK8 : Kept (fun kk => w5.heap.size ≤ kk) w7 w8 := (Kept.of_grown hg8).more (fun kk _ h => hb7 kk h)
          have hbb5 := HHas.out.lt
          have hH8 := HH7.out.kept hK8 (by omega)
          have f8 := hH8.cell 0 rfl
          have fz8 := hH8.free 0
          have HH8 := Lib.hid hH8
          have HK8 := Lib.hid hK8
          have HO8 := Lib.hid ho8
          clear hR7 hnews ho8 hg8 hno8 hb7 hK8 hH8 hr7 f7 f6 f0
          refine Mx.loudly (by kernel_rfl) (by kernel_rfl) ?_
          go_wp2_with (at_builtin; refine Lib.wpList_append_run _ rfl _ _ _ _ rfl (.slice a7 q c7) (.slice (some ad2) (T.length - (q + 1)) (oc' - (q + 1))) rfl rfl _ _ hr8 ?_)
          repeat ((first | (refine Mx.skips (by kernel_rfl) ?_; go_big_quiet_skip) | (refine Mx.quietly rfl ?_; go_big_quiet_want; go_big_quiet_op; go_big_quiet_on)); refine Mx.done ?_)
          refine Mx.atLast (by kernel_rfl) (by kernel_rfl) ?_
          have HRel : Hid (Kept (fun k => k = bb) w (w8.setCell ⟨bb, 0, none⟩ (.slice a8 (T.length - 1) c8)) ∧ BkAt (w8.setCell ⟨bb, 0, none⟩ (.slice a8 (T.length - 1) c8)) bb (left s (zs.take (k + 1)) out) a8 c8 ∧ ∀ ad, a8 = some ad → oa = some ad ∨ w.heap.size ≤ ad.block) := Lib.hid (by
            have hT' := erase_filter T q o HTU.out hq hio
            have hlen : (T.take q ++ T.drop (q + 1)).length = T.length - 1 := by simp; omega
            have hsum := osum_erase T q o hq
            have z5 : w.heap.size ≤ w5.heap.size := by
              have h1 := HK.out.size
              have h2 := HbW.out.size
              have h3 := HK5.out.size
              omega
            have ks := Kept.set w8 bb 0 (.slice a8 (T.length - 1) c8)
            have k1 : Kept (fun k => k = bb) w w5 := (HK.out.trans (Kept.of_below (X := none') HbW.out) (fun _ _ h => h.elim)).trans HK5.out (fun _ _ h => h)
            have k2 : Kept (fun k => k = bb) w w7 := (k1.trans (Kept.of_below (X := none') HA6.out) (fun _ _ h => h.elim)).trans HK7.out (fun kk hlt h => by have h1 : kk = eb := h; have := HEb.out; omega)
            have k3 : Kept (fun k => k = bb) w w8 := k2.trans HK8.out (fun kk hlt h => by have h1 : w5.heap.size ≤ kk := h; omega)
            refine ⟨k3.trans ks (fun _ _ h => h), ?_, fun ad ha => .inr (by have := ownblk HO8.out ha; omega)⟩
            rw [HNx.out, ← hT']
            refine ⟨?_, ?_, fun ad ha e => by have := ownblk HO8.out ha; omega⟩
            · rw [hlen, hsum]
              exact HH8.out.set 0 _
            · rw [hlen]
              have := own_kept' HO8.out ks (fun ad ha e => by have := ownblk HO8.out ha; omega)
              rw [List.nil_append] at this
              exact own_mono this (Nat.zero_le _))
          go_wp2_with fail
          go_roundw
          case rel => exact ⟨k + 1, a8, c8, by push_cast; rfl, by omega, HRel.out.1, HRel.out.2.1, HRel.out.2.2⟩
          case measure => simp [intOf]; omega
    · have hkn' : ¬ (k : Int) < (nn : Int) := by omega
      have HK := Lib.hid hK
      have HB : Hid (BkAt wr bb (left s zs out) oa' oc') := Lib.hid (by rw [List.take_of_length_le (by rw [HNL.out]; omega)] at hB; exact hB)
      have HOA := Lib.hid hoa
      clear hK hB hoa
      go_wp2
      go_ret
      exact ⟨rfl, HK.out, oa', oc', HB.out, HOA.out⟩
end Go.Proofs.Ytkpeegcpicckjaa

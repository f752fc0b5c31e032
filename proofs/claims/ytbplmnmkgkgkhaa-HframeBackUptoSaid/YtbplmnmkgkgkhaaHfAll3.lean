/- The walk of turnpikelaw17.all (printed by gen_hfall.py): bytes that come in pieces, the events told, the body put together: as AllP says. -/
import Derived.Test.YtbplmnmkgkgkhaaHfAll2
import Derived.Test.YtbplmnmkgkgkhaaOpen
namespace Go.Proofs.Ytbplmnmkgkgkhaa
open Go.RowKit

theorem results_tmp4 {fn : Func} {t u v x : Tmp} (h : fn.results = #[.tmp t, .tmp u, .tmp v, .tmp x]) (tmps : Array Value) (P : Program) (w : World) :
    (results fn tmps).run P w = .ok (.tuple #[tmps.getD t undef, tmps.getD u undef, tmps.getD v undef, tmps.getD x undef]) w := by
  simp [results, h]
theorem RAt.lenW {F : Nat → Prop} {w : World} {g : Nat} {R : Rd} (h : RAt F w g R) : Go.Proofs.Ytbplmnmkgkgkhaa.lenW w g = R.b.length := by
  obtain ⟨_, _, hb, _⟩ := h
  exact hb.lenW
theorem cutN_at {n : Nat} {cuts : List Int} {i : Nat} (h : i < cuts.length) : cutN n (cuts.drop i) = if 0 < cuts[i] ∧ cuts[i] < n then cuts[i].toNat else n := by
  rw [List.drop_eq_getElem_cons h]; rfl
theorem cutN_off {n : Nat} {cuts : List Int} {i : Nat} (h : cuts.length ≤ i) : cutN n (cuts.drop i) = n := by
  rw [List.drop_of_length_le h]; rfl
set_option maxRecDepth 100000 in
set_option maxHeartbeats 8000000 in
theorem all_any (w : World) (kind : Int) (hkd : kind = 1 ∨ kind = 2) {ba : Option Addr} {bn bc : Nat} {b : List UInt8} (hb : Sl w ba bn bc (bv b)) (hbn : bn ≤ 2000000000000) {ca : Option Addr} {cn cc : Nat} {cuts : List Int} (hc : Sl w ca cn cc (iv .i64 cuts)) (hcn : cn ≤ 1048576)
    {fin : Res} (hf : AllP (Rd.new (kind == 1) 1048576) b cuts fin) :
    Calls Try.prog 8 #[.int .i64 kind, .slice ba bn bc, .slice ca cn cc] w (AllE w fin) := by
  have hcl : cuts.length = cn := by have := hc.len; simpa [iv] using this
  have hbl := hb.byte
  have HNew := Lib.hid (new_ok w kind hkd 1048576 (by decide) (by decide))
  have HB := Lib.hid hb
  have HC := Lib.hid hc
  have HCl := Lib.hid hcl
  have HBl := Lib.hid hbl
  have HF := Lib.hid hf
  clear hb hc hcl hbl hf hkd
  go_enter Try.func8, Try.ntmps8
  go_wp2_with fail
  refine HNew.out.mono ?_
  rintro e w1 ⟨g, rfl, hR1, hb1⟩
  have HCp := Lib.hid (copy_any w1 (HB.out.below hb1) (by omega))
  have HR1 := Lib.hid hR1
  have HB1 := Lib.hid hb1
  clear hR1 hb1
  go_wp2_with fail
  refine HCp.out.mono ?_
  rintro e w2 ⟨ra0, rc0, rfl, ho2, hb2⟩
  have HOS : Hid (OS w bn g cuts fin (fun k => w.heap.size ≤ k ∧ k < w1.heap.size) (fun k => w.heap.size ≤ k ∧ k < w1.heap.size) (Rd.new (kind == 1) 1048576) [] [] none 0 none 0 [] b ra0 bn rc0 0 w2) := Lib.hid (by
    have hz1 := HB1.out.size
    have hz2 := hb2.size
    have hbl := HBl.out
    refine ⟨⟨HR1.out.below hb2, World.ownsRow_nil _ _ _ _, World.ownsRow_nil _ _ _ _, rfl, fun k h => h, fun k ⟨_, h, _⟩ => (by cases h), fun k ⟨_, h, _⟩ => (by cases h), fun k h => ⟨h.1, by omega⟩, fun k _ ⟨_, h, _⟩ => (by cases h), fun k _ ⟨_, h, _⟩ => (by cases h), fun k ⟨_, h, _⟩ => (by cases h)⟩, ?_, ⟨Int.le_refl 0, (by decide : (0 : Nat) < 4611686018427387904)⟩, rfl, ⟨fin, HF.out, rfl, rfl, rfl, rfl⟩, by simp [Rd.new], by simp [Rd.new], by omega, HB1.out.trans (hb2.mono hz1)⟩
    have := own_sl ho2
    rw [hbl] at this
    exact SlIn.fresh this (ownsRow_ge (by rw [hbl] at ho2; exact ho2)) (fun k h => h.2))
  have HBw := Lib.hid (HB1.out.trans (hb2.mono HB1.out.size))
  clear hb2 ho2
  have hbl := HBl.out
  go_wp2_with fail
  clear hbl
  go_loopw [12, 13, 14, 15] (fun ov yv rv iv' wr => ORel w bn g cuts fin ov yv rv iv' wr) (fun _ _ rv _ _ => match rv with | .slice _ n _ => n | _ => 0)
  case atStart => exact ⟨_, _, _, [], [], none, 0, none, 0, [], b, ra0, bn, rc0, 0, rfl, rfl, rfl, rfl, HOS.out⟩
  case round =>
    obtain ⟨M, F, R, es, bd, oa, oc, ya, yc, cs, rest, ra, rn, rc, i, rfl, rfl, rfl, rfl, hOS⟩ := hrel
    have HOS := Lib.hid hOS
    obtain ⟨k, hk⟩ : ∃ k, k = cutN rn (cuts.drop i) := ⟨_, rfl⟩
    have hkn : k ≤ rn := by rw [hk]; exact cutN_le _ _
    have hrl : rest.length = rn := hOS.rst.sl.byte
    have hrc : rn ≤ rc := hOS.rst.sl.cap_le
    have hrm : rc ≤ maxLen := hOS.rst.sl.cap_max
    have HK := Lib.hid hk
    have HRl := Lib.hid hrl
    have HKd : Hid ((cn ≤ i ∧ k = rn) ∨ (∃ x : Int, i < cn ∧ cuts[i]? = some x ∧ ((¬ 0 < x ∧ k = rn) ∨ (0 < x ∧ ¬ x < (rn : Int) ∧ k = rn) ∨ (0 < x ∧ x < (rn : Int) ∧ x = (k : Int) ∧ 0 < k ∧ k < rn)))) := Lib.hid (by
      have hcl := HCl.out
      by_cases h1 : cn ≤ i
      · exact .inl ⟨h1, by rw [hk, cutN_off (by omega)]⟩
      · refine .inr ⟨cuts[i]'(by omega), by omega, List.getElem?_eq_getElem _, ?_⟩
        rw [cutN_at (by omega)] at hk
        by_cases h2 : 0 < cuts[i]'(by omega)
        · by_cases h3 : cuts[i]'(by omega) < (rn : Int)
          · rw [if_pos ⟨h2, h3⟩] at hk
            exact .inr (.inr ⟨h2, h3, by omega, by omega, by omega⟩)
          · rw [if_neg (fun h => h3 h.2)] at hk
            exact .inr (.inl ⟨h2, h3, hk⟩)
        · rw [if_neg (fun h => h2 h.1)] at hk
          exact .inl ⟨h2, hk⟩)
    have HCI : Hid (∀ x, cuts[i]? = some x → ∃ cb co, ca = some ⟨cb, co, none⟩ ∧ wr.cell? ⟨cb, co + i, none⟩ = some (.int .i64 x) ∧ (i : Int) < (cn : Int) ∧ cn ≤ cc) := Lib.hid (fun x hx => by
      have hi : i < cuts.length := (List.getElem?_eq_some_iff.1 hx).1
      have hi2 : i < cn := by rw [← HCl.out]; exact hi
      obtain ⟨cb, co, h1, h2⟩ := HC.out.cells (by omega)
      refine ⟨cb, co, h1, ?_, by omega, HC.out.cap_le⟩
      have h3 := h2 i hi2
      rw [show (iv IntKind.i64 cuts)[i]? = some (.int .i64 x) by simp [iv, hx]] at h3
      rw [hOS.below.cell (World.block_lt_of_cell? w _ h3)]
      exact h3)
    have hiw : i ≤ 2000000000000 := by have := hOS.n3; omega
    have hiw2 : IntKind.i64.wrap ((i : Int) + 1) = (i : Int) + 1 := by rw [IntKind.wrap_i64]; omega
    have hiw3 : RowKit.wrap64 ((i : Int) + 1) = (i : Int) + 1 := by unfold RowKit.wrap64; omega
    have HW2 := Lib.hid hiw2
    have HW3 := Lib.hid hiw3
    clear hOS hk hrl hiw2 hiw3
    go_upto_region 10 with fail
    go_cut [56] (fun v wc => v = .bool (decide (k < rn)) ∧ wc = wr)
    case first =>
      rcases HKd.out with ⟨h1, h2⟩ | ⟨x, h1, h2, hx⟩
      · have j1 : ¬ (i : Int) < (cn : Int) := by omega
        have d : decide (k < rn) = false := by simp; omega
        have HD := Lib.hid d
        clear h1 h2 d
        go_wp2
        go_meet
        case rel => exact ⟨by rw [HD.out], rfl⟩
      · obtain ⟨cb, co, rfl, hcell, j1, hcc⟩ := HCI.out x h2
        rcases hx with ⟨hx, hk⟩ | ⟨hx, hx2, hk⟩ | ⟨hx, hx2, hk, hk0, hk2⟩
        · have d : decide (k < rn) = false := by simp; omega
          have HD := Lib.hid d
          clear h2 hk d
          go_wp2
          go_meet
          case rel => exact ⟨by rw [HD.out], rfl⟩
        · have d : decide (k < rn) = false := by simp; omega
          have HD := Lib.hid d
          clear h2 hk d
          go_wp2
          go_meet
          case rel => exact ⟨by rw [HD.out], rfl⟩
        · have d : decide (k < rn) = true := by simp; omega
          have HD := Lib.hid d
          clear h2 hk d hk0 hk2
          go_wp2
          go_meet
          case rel => exact ⟨by rw [HD.out], rfl⟩
    case rest =>
      obtain ⟨rfl, hwc⟩ := hcut
      rw [hwc]
      clear hwc wc
      by_cases hlt : k < rn
      · have hd : decide (k < rn) = true := by simpa using hlt
        rw [hd]
        clear hd
        obtain ⟨r, hr, hfi⟩ := HOS.out.fin.cut.2 (by rw [HRl.out, ← HK.out]; omega)
        rw [HRl.out, ← HK.out] at hr hfi
        rw [List.tail_drop] at hfi
        obtain ⟨x, hx1, hx2, hx3⟩ : ∃ x : Int, cuts[i]? = some x ∧ x = (k : Int) ∧ 0 < k := by
          rcases HKd.out with ⟨_, h2⟩ | ⟨x, _, h2, hx⟩
          · omega
          · rcases hx with ⟨_, hk⟩ | ⟨_, _, hk⟩ | ⟨_, _, hk, hk0, _⟩
            · omega
            · omega
            · exact ⟨x, h2, hk, hk0⟩
        obtain ⟨cb, co, hca, hcell, j1, hcc⟩ := HCI.out x hx1
        subst hca
        subst hx2
        clear hx1
        have HRest := Lib.hid HOS.out.rst
        have HFe := Lib.hid (feed_ok wr HOS.out.ai.rd HOS.out.ended (HOS.out.rst.take (k := k) (by omega)).sl (by have := HOS.out.n1; omega))
        obtain ⟨ra', hra'⟩ : ∃ ra', ra' = if rc = k then ra else Option.map (fun x => x.add k) ra := ⟨_, rfl⟩
        have HRa := Lib.hid hra'
        skip
        have HRun := Lib.hid hr
        have HFi := Lib.hid hfi
        clear hr hfi hra'
        have jn : ((rn - k : Nat) : Int) = (rn : Int) - (k : Int) := by omega
        have jz : (((rn - k : Nat) : Int) == 0) = false := by simp; omega
        have jk : (k : Int) ≤ (rn : Int) := by omega
        go_wp2_with fail
        refine HFe.out.mono ?_
        rintro e w3 ⟨rfl, hk3, hR3⟩
        go_upto_region 13 with fail
        go_cut [14] (fun v wx => v = .slice ra' (rn - k) (rc - k) ∧ wx = w3)
        case first =>
          by_cases hrk : rc = k
          · have HR0 : Hid (ra' = ra) := Lib.hid (by rw [HRa.out, if_pos hrk])
            have HR1' : Hid (rc - k = 0) := Lib.hid (by omega)
            go_wp2
            go_meet
            case rel => exact ⟨by rw [HR0.out, HR1'.out], rfl⟩
          · have HR0 : Hid (ra' = Option.map (fun x => x.add k) ra) := Lib.hid (by rw [HRa.out, if_neg hrk])
            go_wp2
            go_meet
            case rel => exact ⟨by rw [HR0.out], rfl⟩
        case rest =>
          obtain ⟨rfl, hwx⟩ := hcut
          rw [hwx]
          clear hwx wc
          have HIS := Lib.hid (HOS.out.fed (k := k) hk3 (F2 := Fat F wr w3) hR3 (fun j h => h) rfl ⟨HOS.out.ok.1, HOS.out.ok.2⟩ false (fun _ => HOS.out.ended) (by omega) HRa.out HRun.out HFi.out)
          clear hk3 hR3
          go_wp2_with fail
          go_loopw [12, 13] (fun ov yv wi => IRel w bn g false (rest.drop k) ra' (rn - k) (rc - k) (cuts.drop (i + 1)) fin ov yv wi) (fun _ _ wi => lenW wi g)
          case atStart => exact ⟨_, _, _, es, bd, oa, oc, ya, yc, cs, r, rfl, rfl, HIS.out⟩
          case round =>
            obtain ⟨M2, F2, R2, es2, bd2, oa2, oc2, ya2, yc2, cs2, r2, rfl, rfl, hIS2⟩ := hrel
            have HIS2 := Lib.hid hIS2
            have HNx := Lib.hid (next_at _ hIS2.ai.rd hIS2.ok (by have := hIS2.n1; omega) hIS2.run)
            have HLw : Hid (lenW wr g = R2.b.length) := Lib.hid (by
              obtain ⟨_, _, hb, _⟩ := hIS2.ai.rd
              exact hb.lenW)
            clear hIS2
            go_wp2_with fail
            refine HNx.out.mono ?_
            rintro e w5 ⟨⟨⟨ek, ed, e1, e2, e3, e4⟩, ok, z⟩, R3, ea, ec, rfl, hsd, hok3, hlen3, hen3, hs3, hb3, hk5, hR5⟩
            obtain ⟨w6, hw6⟩ : ∃ w6, w6 = w5.alloc (.cells #[.int .i64 ek, .slice ea ed.length ec, .int .i64 e1, .int .i64 e2, .int .i64 e3, .int .i64 e4] 32) := ⟨_, rfl⟩
            have hT : TS w bn g false (rest.drop k) ra' (rn - k) (rc - k) (cuts.drop (i + 1)) fin (fun k => M2 k ∨ F2 k) F2 R3 es2 bd2 oa2 oc2 ya2 yc2 cs2 w6 ⟨ek, ed, e1, e2, e3, e4⟩ ea ec := by
              rw [hw6]; exact HIS2.out.next hok3 hlen3 hen3 hs3 hb3 hk5 hR5 _
            have HT := Lib.hid hT
            obtain ⟨eb, heb⟩ : ∃ eb, eb = w5.heap.size := ⟨_, rfl⟩
            have HE6 : Hid (Has w6 eb 32 [.int .i64 ek, .slice ea ed.length ec, .int .i64 e1, .int .i64 e2, .int .i64 e3, .int .i64 e4]) := Lib.hid (by rw [hw6, heb]; exact Has.new _ _ _)
            clear hT hok3 hlen3 hen3 hs3 hb3 hk5 hR5
            go_upto_region 18 with fail
            rw [← hw6, ← heb]
            clear hw6 heb
            cases hsd with
            | err hz he =>
              have zb : (z == 0) = false := by simpa using hz
              obtain ⟨f1, f2, f3, f4⟩ := HIS2.out.fin.1 (.inl (by rw [he]; exact hz))
              rw [he] at f1 f2 f3 f4
              simp only [List.append_nil] at f1 f2 f3 f4
              have HFn := Lib.hid (And.intro f1 (And.intro f2 (And.intro f3 f4)))
              clear f1 f2 f3 f4 he hz
              have HDn := Lib.hid (done_at w6 HT.out.ai.rd)
              go_wp2_with fail
              refine HDn.out.mono ?_
              rintro e w7 ⟨rfl, rfl⟩
              go_wp2
              (try simp only [Exit.inBlock, Exit.then])
              refine bodyPost_ret (results_tmp4 rfl _ _ _) rfl ?_
              exact HT.out.ai.shut HT.out.below HFn.out.1 HFn.out.2.1 HFn.out.2.2.1 HFn.out.2.2.2
            | stop hz hq he =>
              obtain rfl : z = 0 := hz
              obtain rfl : ok = false := hq
              have hfo := HIS2.out.fin.2 (by rw [he]) rfl
              rw [he] at hfo
              simp only [List.append_nil] at hfo
              have HO2 : Hid (OS w bn g cuts fin (fun k => M2 k ∨ F2 k) F2 R3 es2 bd2 oa2 oc2 ya2 yc2 cs2 (rest.drop k) ra' (rn - k) (rc - k) (i + 1) w6) := Lib.hid (by
                have h1 := HOS.out.n3
                refine ⟨HT.out.ai, HT.out.rst, HT.out.ok, HT.out.ended rfl, ?_, HT.out.n1, HT.out.n2, by omega, HT.out.below⟩
                exact hfo)
              clear hfo he
              have w1 := HW2.out
              have w2 := HW3.out
              go_wp2_with fail
              go_roundw
              case rel => exact ⟨_, _, R3, es2, bd2, oa2, oc2, ya2, yc2, cs2, rest.drop k, ra', rn - k, rc - k, i + 1, rfl, rfl, rfl, by push_cast; rfl, HO2.out⟩
              case measure => show rn - k < rn; omega
            | ev r3 hz hq hrun hlt htk he =>
              obtain rfl : z = 0 := hz
              obtain rfl : ok = true := hq
              have x0 := HE6.out.cell 0 rfl
              have x1 := HE6.out.cell 1 rfl
              have HFc := Lib.hid (FinI.cons (by have := HIS2.out.fin; rw [he] at this; exact this))
              have hn2 := HIS2.out.n2
              have hn1 := HIS2.out.n1
              have HRn := Lib.hid hrun
              have HLt := Lib.hid hlt
              have HTk := Lib.hid (show R3.b.length + ed.length ≤ R2.b.length from htk)
              have HN := Lib.hid (And.intro hn1 hn2)
              by_cases hk2 : ek = 2
              · subst hk2
                have hbd := HT.out.ai.body
                obtain ⟨ya3, yc3, w7, hr7, ho7, hg7, hw7⟩ := run_app_own (tyo := 22) tyU8 hbd HT.out.tld.sl (bv_one _) (by have := HTk.out; show (bd2.length + ed.length) * 1 ≤ _; omega) (by have := HTk.out; unfold maxLen; show bd2.length + ed.length ≤ _; omega) HT.out.below.size
                have hI := HT.out.body (n' := bd2.length + ed.length) (by rw [List.length_append]) ho7 hg7 hw7 hrun (HFc.out.1 rfl) (by have := HTk.out; show bd2.length + ed.length + R3.b.length + _ ≤ _; omega)
                have HI := Lib.hid hI
                clear hbd ho7 hg7 hw7 hI hrun hlt htk he hn1 hn2
                go_wp2_with (at_builtin; refine Lib.wpList_append_run _ rfl _ _ _ _ rfl (.slice ya2 bd2.length yc2) (.slice ea ed.length ec) rfl rfl _ _ hr7 ?_)
                go_roundw
                case rel =>
                  refine ⟨_, _, _, _, _, _, ?_, rfl, rfl, rfl, rfl, rfl, rfl⟩
                  exact ⟨_, _, R3, es2, bd2 ++ ed, oa2, oc2, ya3, yc3, cs2, r3, rfl, by rw [List.length_append], HI.out⟩
                case measure => rw [HI.out.ai.rd.lenW, HLw.out]; exact HLt.out
              · have kb : (ek == 2) = false := by simpa using hk2
                have x2 := HE6.out.cell 2 rfl
                have x3 := HE6.out.cell 3 rfl
                have x4 := HE6.out.cell 4 rfl
                have x5 := HE6.out.cell 5 rfl
                have hT7 := HT.out.alloc (.cells #[.int .i64 ek, .slice ea ed.length ec, .int .i64 e1, .int .i64 e2, .int .i64 e3, .int .i64 e4] 32)
                obtain ⟨oa3, oc3, w7, hr7, ho7, hg7, hw7⟩ := run_app_ev (tyo := 25) (e := ⟨ek, ed, e1, e2, e3, e4⟩) (a := ea) (c := ec) hT7.ai.out (heap_alloc_new w6 _) (by omega) hT7.below.size
                have hI := hT7.out ho7 hg7 hw7 hrun (HFc.out.2 hk2) (by have : R3.b.length < R2.b.length := hlt; omega)
                have HI := Lib.hid hI
                clear hT7 ho7 hg7 hw7 hI hrun hlt htk he hn1 hn2
                go_wp2_with (at_builtin; refine Lib.wpList_append_run _ rfl _ _ _ _ rfl (.slice oa2 es2.length oc2) _ rfl rfl _ _ hr7 ?_)
                go_roundw
                case rel =>
                  refine ⟨_, _, _, _, _, _, ?_, rfl, rfl, rfl, rfl, rfl, rfl⟩
                  exact ⟨_, _, R3, es2 ++ [⟨ek, ed, e1, e2, e3, e4⟩], bd2, oa3, oc3, ya2, yc2, _, r3, by rw [List.length_append]; rfl, rfl, HI.out⟩
                case measure => rw [HI.out.ai.rd.lenW, HLw.out]; exact HLt.out
      · obtain rfl : k = rn := by omega
        clear hlt
        obtain ⟨r, hr, hfi⟩ := HOS.out.fin.cut.1 (by rw [HRl.out]; exact HK.out.symm)
        have hd : decide (k < k) = false := by simp
        rw [hd]
        clear hd
        have HRest := Lib.hid HOS.out.rst
        have HFe := Lib.hid (feed_ok wr HOS.out.ai.rd HOS.out.ended (HOS.out.rst.take (k := k) (by omega)).sl (by have := HOS.out.n1; omega))
        obtain ⟨ra', hra'⟩ : ∃ ra', ra' = if rc = k then ra else Option.map (fun x => x.add k) ra := ⟨_, rfl⟩
        have HRa := Lib.hid hra'
        rw [show R.b ++ rest = R.b ++ rest.take k by rw [List.take_of_length_le (by rw [HRl.out]; exact Nat.le_refl _)]] at hr
        have HRun := Lib.hid hr
        have HFi := Lib.hid hfi
        clear hr hfi hra'
        have jk : (k : Int) ≤ (k : Int) := by omega
        go_wp2_with fail
        refine HFe.out.mono ?_
        rintro e w3 ⟨rfl, hk3, hR3⟩
        have HE3 := Lib.hid (end_at w3 hR3 HOS.out.ended)
        have HK3 := Lib.hid hk3
        clear hk3 hR3
        go_upto_region 13 with fail
        go_cut [14] (fun v wx => v = .slice ra' 0 (rc - k) ∧ wx = w3)
        case first =>
          by_cases hrk : rc = k
          · have HR0 : Hid (ra' = ra) := Lib.hid (by rw [HRa.out, if_pos hrk])
            have HR1' : Hid (rc - k = 0) := Lib.hid (by omega)
            go_wp2
            go_meet
            case rel => exact ⟨by rw [HR0.out, HR1'.out], rfl⟩
          · have HR0 : Hid (ra' = Option.map (fun x => x.add k) ra) := Lib.hid (by rw [HRa.out, if_neg hrk])
            go_wp2
            go_meet
            case rel => exact ⟨by rw [HR0.out], rfl⟩
        case rest =>
          obtain ⟨rfl, hwx⟩ := hcut
          rw [hwx]
          clear hwx wc
          go_wp2_with fail
          refine HE3.out.mono ?_
          rintro e w4 ⟨rfl, hk4, hR4⟩
          have HIS := Lib.hid (HOS.out.fed (k := k) (w' := w4) (HK3.out.trans (hk4.more (Y := Fat F wr w3) (fun _ _ h => h)) (fun j hj h => by
            rcases h with h | h
            · exact h
            · omega)) (F2 := Fat F wr w3) hR4 (fun j h => by
            rcases h with h | h
            · exact .inl h
            · exact .inr ⟨h.1, Nat.lt_of_lt_of_le h.2 hk4.size⟩) rfl ⟨HOS.out.ok.1, HOS.out.ok.2⟩ true (fun h => by cases h) (Nat.le_refl _) HRa.out HRun.out (HFi.out _ []))
          rw [Nat.sub_self] at HIS
          clear hk4 hR4
          go_wp2_with fail
          go_loopw [12, 13] (fun ov yv wi => IRel w bn g true (rest.drop k) ra' 0 (rc - k) [] fin ov yv wi) (fun _ _ wi => lenW wi g)
          case atStart => exact ⟨_, _, _, es, bd, oa, oc, ya, yc, cs, r, rfl, rfl, HIS.out⟩
          case round =>
            obtain ⟨M2, F2, R2, es2, bd2, oa2, oc2, ya2, yc2, cs2, r2, rfl, rfl, hIS2⟩ := hrel
            have HIS2 := Lib.hid hIS2
            have HNx := Lib.hid (next_at _ hIS2.ai.rd hIS2.ok (by have := hIS2.n1; omega) hIS2.run)
            have HLw : Hid (lenW wr g = R2.b.length) := Lib.hid (by
              obtain ⟨_, _, hb, _⟩ := hIS2.ai.rd
              exact hb.lenW)
            clear hIS2
            go_wp2_with fail
            refine HNx.out.mono ?_
            rintro e w5 ⟨⟨⟨ek, ed, e1, e2, e3, e4⟩, ok, z⟩, R3, ea, ec, rfl, hsd, hok3, hlen3, hen3, hs3, hb3, hk5, hR5⟩
            obtain ⟨w6, hw6⟩ : ∃ w6, w6 = w5.alloc (.cells #[.int .i64 ek, .slice ea ed.length ec, .int .i64 e1, .int .i64 e2, .int .i64 e3, .int .i64 e4] 32) := ⟨_, rfl⟩
            have hT : TS w bn g true (rest.drop k) ra' 0 (rc - k) [] fin (fun k => M2 k ∨ F2 k) F2 R3 es2 bd2 oa2 oc2 ya2 yc2 cs2 w6 ⟨ek, ed, e1, e2, e3, e4⟩ ea ec := by
              rw [hw6]; exact HIS2.out.next hok3 hlen3 hen3 hs3 hb3 hk5 hR5 _
            have HT := Lib.hid hT
            obtain ⟨eb, heb⟩ : ∃ eb, eb = w5.heap.size := ⟨_, rfl⟩
            have HE6 : Hid (Has w6 eb 32 [.int .i64 ek, .slice ea ed.length ec, .int .i64 e1, .int .i64 e2, .int .i64 e3, .int .i64 e4]) := Lib.hid (by rw [hw6, heb]; exact Has.new _ _ _)
            clear hT hok3 hlen3 hen3 hs3 hb3 hk5 hR5
            go_upto_region 18 with fail
            rw [← hw6, ← heb]
            clear hw6 heb
            cases hsd with
            | err hz he =>
              have zb : (z == 0) = false := by simpa using hz
              obtain ⟨f1, f2, f3, f4⟩ := HIS2.out.fin.1 (.inl (by rw [he]; exact hz))
              rw [he] at f1 f2 f3 f4
              simp only [List.append_nil] at f1 f2 f3 f4
              have HFn := Lib.hid (And.intro f1 (And.intro f2 (And.intro f3 f4)))
              clear f1 f2 f3 f4 he hz
              have HDn := Lib.hid (done_at w6 HT.out.ai.rd)
              go_wp2_with fail
              refine HDn.out.mono ?_
              rintro e w7 ⟨rfl, rfl⟩
              go_wp2
              (try simp only [Exit.inBlock, Exit.then])
              refine bodyPost_ret (results_tmp4 rfl _ _ _) rfl ?_
              exact HT.out.ai.shut HT.out.below HFn.out.1 HFn.out.2.1 HFn.out.2.2.1 HFn.out.2.2.2
            | stop hz hq he =>
              obtain rfl : z = 0 := hz
              obtain rfl : ok = false := hq
              obtain ⟨f1, f2, f3, f4⟩ := HIS2.out.fin.1 (.inr rfl)
              rw [he] at f1 f2 f3 f4
              simp only [List.append_nil] at f1 f2 f3 f4
              have HFn := Lib.hid (And.intro f1 (And.intro f2 (And.intro f3 f4)))
              clear f1 f2 f3 f4 he
              have HDn := Lib.hid (done_at w6 HT.out.ai.rd)
              go_wp2_with fail
              refine HDn.out.mono ?_
              rintro e w7 ⟨rfl, rfl⟩
              go_wp2
              (try simp only [Exit.inBlock, Exit.then])
              refine bodyPost_ret (results_tmp4 rfl _ _ _) rfl ?_
              exact HT.out.ai.shut HT.out.below HFn.out.1 HFn.out.2.1 HFn.out.2.2.1 HFn.out.2.2.2
            | ev r3 hz hq hrun hlt htk he =>
              obtain rfl : z = 0 := hz
              obtain rfl : ok = true := hq
              have x0 := HE6.out.cell 0 rfl
              have x1 := HE6.out.cell 1 rfl
              have HFc := Lib.hid (FinI.cons (by have := HIS2.out.fin; rw [he] at this; exact this))
              have hn2 := HIS2.out.n2
              have hn1 := HIS2.out.n1
              have HRn := Lib.hid hrun
              have HLt := Lib.hid hlt
              have HTk := Lib.hid (show R3.b.length + ed.length ≤ R2.b.length from htk)
              have HN := Lib.hid (And.intro hn1 hn2)
              by_cases hk2 : ek = 2
              · subst hk2
                have hbd := HT.out.ai.body
                obtain ⟨ya3, yc3, w7, hr7, ho7, hg7, hw7⟩ := run_app_own (tyo := 22) tyU8 hbd HT.out.tld.sl (bv_one _) (by have := HTk.out; show (bd2.length + ed.length) * 1 ≤ _; omega) (by have := HTk.out; unfold maxLen; show bd2.length + ed.length ≤ _; omega) HT.out.below.size
                have hI := HT.out.body (n' := bd2.length + ed.length) (by rw [List.length_append]) ho7 hg7 hw7 hrun (HFc.out.1 rfl) (by have := HTk.out; show bd2.length + ed.length + R3.b.length + _ ≤ _; omega)
                have HI := Lib.hid hI
                clear hbd ho7 hg7 hw7 hI hrun hlt htk he hn1 hn2
                go_wp2_with (at_builtin; refine Lib.wpList_append_run _ rfl _ _ _ _ rfl (.slice ya2 bd2.length yc2) (.slice ea ed.length ec) rfl rfl _ _ hr7 ?_)
                go_roundw
                case rel =>
                  skip
                  exact ⟨_, _, R3, es2, bd2 ++ ed, oa2, oc2, ya3, yc3, cs2, r3, rfl, by rw [List.length_append], HI.out⟩
                case measure => rw [HI.out.ai.rd.lenW, HLw.out]; exact HLt.out
              · have kb : (ek == 2) = false := by simpa using hk2
                have x2 := HE6.out.cell 2 rfl
                have x3 := HE6.out.cell 3 rfl
                have x4 := HE6.out.cell 4 rfl
                have x5 := HE6.out.cell 5 rfl
                have hT7 := HT.out.alloc (.cells #[.int .i64 ek, .slice ea ed.length ec, .int .i64 e1, .int .i64 e2, .int .i64 e3, .int .i64 e4] 32)
                obtain ⟨oa3, oc3, w7, hr7, ho7, hg7, hw7⟩ := run_app_ev (tyo := 25) (e := ⟨ek, ed, e1, e2, e3, e4⟩) (a := ea) (c := ec) hT7.ai.out (heap_alloc_new w6 _) (by omega) hT7.below.size
                have hI := hT7.out ho7 hg7 hw7 hrun (HFc.out.2 hk2) (by have : R3.b.length < R2.b.length := hlt; omega)
                have HI := Lib.hid hI
                clear hT7 ho7 hg7 hw7 hI hrun hlt htk he hn1 hn2
                go_wp2_with (at_builtin; refine Lib.wpList_append_run _ rfl _ _ _ _ rfl (.slice oa2 es2.length oc2) _ rfl rfl _ _ hr7 ?_)
                go_roundw
                case rel =>
                  skip
                  exact ⟨_, _, R3, es2 ++ [⟨ek, ed, e1, e2, e3, e4⟩], bd2, oa3, oc3, ya2, yc2, _, r3, by rw [List.length_append]; rfl, rfl, HI.out⟩
                case measure => rw [HI.out.ai.rd.lenW, HLw.out]; exact HLt.out
end Go.Proofs.Ytbplmnmkgkgkhaa

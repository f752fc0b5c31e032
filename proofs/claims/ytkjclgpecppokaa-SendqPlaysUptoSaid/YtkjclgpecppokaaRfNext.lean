/- The document's queue: contract of Next. -/
import Derived.Test.YtkjclgpecppokaaRfWrite
import Derived.Test.YtkjclgpecppokaaSqNext
import Derived.Test.YtkjclgpecppokaaSqArr
namespace Go.Proofs.Ytkjclgpecppokaa
open Go.RowKit

/-- what Next answers, where n bytes go out from i on -/
def Qu.outAt (r : Qu) (i n : Nat) : Out :=
  if n = 0 then (if r.opens = false ∨ r.sent ≠ r.data.length then ⟨0, [], false, false⟩ else ⟨r.data.length, [], true, true⟩)
  else ⟨i, (r.data.drop i).take n, r.opens && decide (i + n = r.data.length), true⟩
def Qu.nextAt (r : Qu) (i n : Nat) : Qu :=
  if n = 0 then (if r.opens = false ∨ r.sent ≠ r.data.length then r else { r with e := 1 })
  else { r with st := turned r.st i n 1, sent := max r.sent (i + n), e := if (r.opens && decide (i + n = r.data.length)) then 1 else r.e }
/-- what the document's Next does -/
def RNexted (F : Nat → Prop) (w : World) (g : Nat) (o : Out) (r' : Qu) (e : Ending) (w' : World) : Prop :=
  ∃ a c, e = .returned (.tuple #[.int .i64 (o.at_ : Int), .slice a o.data.length c, .bool o.fin, .bool o.ok]) ∧
    w'.ownsRow w.heap.size 5 1 (.slice a o.data.length c) o.data.length (bv o.data) ∧ Kept F w w' ∧ RAt F w' g r'

theorem rn_none {F : Nat → Prop} {w w' : World} {g : Nat} {r : Qu} (i : Nat) (hc : r.opens = false ∨ r.sent ≠ r.data.length) (hK : Kept F w w') (hR : RAt F w' g r) :
    RNexted F w g (r.outAt i 0) (r.nextAt i 0) (.returned (.tuple #[.int .i64 0, .slice none 0 0, .bool false, .bool false])) w' := by
  unfold Qu.outAt Qu.nextAt
  rw [if_pos rfl, if_pos rfl, if_pos hc, if_pos hc]
  exact ⟨none, 0, rfl, World.ownsRow_nil _ _ _ _, hK, hR⟩
theorem rn_end {F : Nat → Prop} {w w' : World} {g : Nat} {r : Qu} (i : Nat) {ax : Option Addr} {cx : Nat} {xs : List Value} (h1 : r.opens = true) (h2 : r.sent = r.data.length) (ho : w'.ownsRow w.heap.size 5 1 (.slice ax 0 cx) 0 xs) (hK : Kept F w w') (hR : RAt F w' g { r with e := 1 }) :
    RNexted F w g (r.outAt i 0) (r.nextAt i 0) (.returned (.tuple #[.int .i64 (r.data.length : Int), .slice ax 0 cx, .bool true, .bool true])) w' := by
  have hc : ¬ (r.opens = false ∨ r.sent ≠ r.data.length) := by rw [h1, h2]; simp
  have hx : xs = [] := List.eq_nil_of_length_eq_zero (by have := ho.1; simpa using this)
  subst hx
  unfold Qu.outAt Qu.nextAt
  rw [if_pos rfl, if_pos rfl, if_neg hc, if_neg hc]
  exact ⟨ax, cx, rfl, ho, hK, hR⟩
theorem rn_some {F : Nat → Prop} {w w' : World} {g : Nat} {r : Qu} {i n : Nat} {ax : Option Addr} {cx : Nat} (hn : 0 < n) (hin : i + n ≤ r.data.length) {fb : Bool} (hfb : (r.opens && decide (i + n = r.data.length)) = fb) {s' : Nat} (hs : s' = max r.sent (i + n)) {e' : UInt8} (he : e' = if fb then 1 else r.e)
    (ho : w'.ownsRow w.heap.size 5 1 (.slice ax n cx) n (bv ((r.data.drop i).take n))) (hK : Kept F w w') (hR : RAt F w' g { r with st := turned r.st i n 1, sent := s', e := e' }) :
    RNexted F w g (r.outAt i n) (r.nextAt i n) (.returned (.tuple #[.int .i64 (i : Int), .slice ax n cx, .bool fb, .bool true])) w' := by
  have hl : ((r.data.drop i).take n).length = n := by simp; omega
  unfold Qu.outAt Qu.nextAt RNexted
  rw [if_neg (by omega), if_neg (by omega), hfb, ← hs, ← he]
  simp only [hl]
  exact ⟨ax, cx, rfl, ho, hK, hR⟩

theorem rat_mk {F : Nat → Prop} {w' : World} {g : Nat} {r : Qu} {i n s' : Nat} {e' : UInt8} {da : Option Addr} {dc : Nat} {sa : Option Addr} {sc : Nat} (hl : i + n ≤ r.st.length)
    (hH : Has w' g 48 [.int .i64 r.room, .int .i64 (s' : Int), .slice da r.data.length dc, .slice sa r.st.length sc, .bool r.fin, .int .i64 (e'.toNat : Int)])
    (hD : w'.ownsRow 0 5 1 (.slice da r.data.length dc) r.data.length (bv r.data)) (hS : w'.ownsRow 0 3 1 (.slice sa r.st.length sc) r.st.length (nv (turned r.st i n 1)))
    (dg : ∀ ad, da = some ad → ad.block ≠ g) (sg : ∀ ad, sa = some ad → ad.block ≠ g) (ds : ∀ ad ad', da = some ad → sa = some ad' → ad.block ≠ ad'.block) (F1 : F g) (F2 : ∀ ad, da = some ad → F ad.block) (F3 : ∀ ad, sa = some ad → F ad.block) :
    RAt F w' g { r with st := turned r.st i n 1, sent := s', e := e' } := by
  have e := turned_len r.st i n 1 hl
  refine ⟨da, dc, sa, sc, ⟨?_, hD, ?_, dg, sg, ds⟩, F1, F2, F3⟩
  · show Has w' g _ [.int .i64 r.room, .int .i64 (s' : Int), .slice da r.data.length dc, .slice sa (turned r.st i n 1).length sc, .bool r.fin, .int .i64 (e'.toNat : Int)]
    rw [e]
    exact hH
  · show w'.ownsRow 0 _ 1 (.slice sa (turned r.st i n 1).length sc) (turned r.st i n 1).length _
    rw [e]
    exact hS

theorem ownblk {w : World} {B e s : Nat} {a : Option Addr} {n c : Nat} {xs : List Value} (h : w.ownsRow B e s (.slice a n c) n xs) {ad : Addr} (ha : a = some ad) : B ≤ ad.block := by
  subst ha
  rcases h.2 with ⟨hv, _⟩ | ⟨g, cap, cur, hv, hB, _⟩
  · simp at hv
  · simp only [Value.slice.injEq, true_and, Option.some.injEq] at hv
    rw [hv.1]
    exact hB

set_option maxRecDepth 100000 in
set_option maxHeartbeats 8000000 in
theorem rnext_lost (w : World) {F : Nat → Prop} {g : Nat} {r : Qu} (h : RAt F w g r) (hq : r.ROk) (most limit : Int) (i n : Nat) (h2 : Lib.indexByte r.st 2 = (i : Int)) (hn : n = runL 2 (r.st.drop i) most.toNat) (hsent : i + n ≤ r.sent) :
    Calls Try.prog 34 #[.pointer (some ⟨g, 0, none⟩), .int .i64 most, .int .i64 limit] w (RNexted F w g (r.outAt i n) (r.nextAt i n)) := by
  have hstl : r.st.length ≤ 8796093022208 := by rw [hq.len]; exact hq.most
  have hlen := hq.len
  have HR := Lib.hid h
  have HF2 : Hid (∀ w', Below w.heap.size w w' → Calls Try.prog 40 #[.pointer (some ⟨g, 0, none⟩), .int .i64 2] w' (IntOf w' (i : Int))) := Lib.hid (fun w' hb => by
    have := rfirst_any w' (h.below hb) (by omega) 2
    rwa [h2] at this)
  obtain ⟨da, dc, sa, sc, hb, F1, F2, F3⟩ := h
  have HB := Lib.hid hb
  have hi0 : ¬ (i : Int) < 0 := by omega
  have hi1 : (0 : Int) ≤ (i : Int) := by omega
  have hil : i < r.st.length := (List.getElem?_eq_some_iff.1 (Lib.indexByte_some h2).1).1
  have hrl := runL_le 2 (r.st.drop i) most.toNat
  rw [List.length_drop, ← hn] at hrl
  have hin : i + n ≤ r.data.length := by omega
  have HAll : Hid (∀ j, j < n → r.st[i + j]? = some 2) := Lib.hid (fun j hj => by
    have := runL_all 2 (r.st.drop i) most.toNat j (by omega)
    rwa [List.getElem?_drop] at this)
  have HStop : Hid (n < most.toNat → r.st[i + n]? ≠ some 2) := Lib.hid (fun hlt => by
    have := runL_stop 2 (r.st.drop i) most.toNat (by omega)
    rwa [← hn, List.getElem?_drop] at this)
  have hmn : 0 < n → (n : Int) ≤ most := fun _ => by omega
  have hm0 : n = 0 → r.st[i]? = some 2 := fun _ => (Lib.indexByte_some h2).1
  clear hb hn h2 hrl
  go_enter Try.func34, Try.ntmps34
  go_wp2_with fail
  refine (HF2.out w (Below.refl _ _)).mono ?_
  rintro e w1 ⟨rfl, hb1⟩
  go_wp2_with fail
  go_loopw [12, 13] (fun dv iv wr => ∃ (j : Nat) (ax : Option Addr) (cx : Nat), iv = .int .i64 ((i + j : Nat) : Int) ∧ dv = .slice ax j cx ∧ j ≤ n ∧ wr.ownsRow w.heap.size 5 1 (.slice ax j cx) j (bv ((r.data.drop i).take j)) ∧ Below w.heap.size w wr) (fun _ iv _ => i + n - (intOf iv).toNat)
  case atStart => exact ⟨0, none, 0, by simp, rfl, Nat.zero_le _, by simpa [bv] using World.ownsRow_nil _ _ _ _, hb1⟩
  case round =>
    rename_i K aK
    have key : ∀ (u3 u4 u5 u6 u7 u8 u9 u13 u14 u15 u16 u17 u18 u19 u20 u21 u22 u23 u24 u25 u26 u27 u28 u29 u30 u31 u32 u33 u34 u35 u36 u37 u38 u39 u40 u41 u42 u43 u44 u45 u46 u47 u48 u49 u50 u51 u52 u53 u54 u55 u56 u57 u58 u59 u60 u61 u62 u63 u64 u65 u66 u67 u68 u69 u70 u71 u72 u73 u74 u75 u76 u77 u78 u79 u80 u81 u82 u83 u84 u85 u86 u87 u88 u89 u90 u91 u92 u93 u94 u95 u96 u97 u98 u99 u100 u101 u102 u103 u104 u105 u106 u107 u108 u109 u110 u111 u112 u113 u114 u115 u116 u117 u118 u119 u120 u121 u122 u123 u124 u125 u126 u127 u128 u129 u130 u131 u132 u133 u134 u135 u136 u137 u138 u139 u140 u141 u142 u143 u144 u145 u146 u147 u148 u149 u150 u151 u152 u153 u154 u155 u156 u157 u158 u159 u160 : Value) (wr : World) (ax : Option Addr) (cx : Nat), wr.ownsRow w.heap.size 5 1 (.slice ax n cx) n (bv ((r.data.drop i).take n)) → Below w.heap.size w wr → K ⟨#[.pointer (some ⟨g, 0, none⟩), .int .i64 most, .int .i64 limit, u3, u4, u5, u6, u7, u8, u9, .int .i64 2, .int .i64 (i : Int), .slice ax n cx, u13, u14, u15, u16, u17, u18, u19, u20, u21, u22, u23, u24, u25, u26, u27, u28, u29, u30, u31, u32, u33, u34, u35, u36, u37, u38, u39, u40, u41, u42, u43, u44, u45, u46, u47, u48, u49, u50, u51, u52, u53, u54, u55, u56, u57, u58, u59, u60, u61, u62, u63, u64, u65, u66, u67, u68, u69, u70, u71, u72, u73, u74, u75, u76, u77, u78, u79, u80, u81, u82, u83, u84, u85, u86, u87, u88, u89, u90, u91, u92, u93, u94, u95, u96, u97, u98, u99, u100, u101, u102, u103, u104, u105, u106, u107, u108, u109, u110, u111, u112, u113, u114, u115, u116, u117, u118, u119, u120, u121, u122, u123, u124, u125, u126, u127, u128, u129, u130, u131, u132, u133, u134, u135, u136, u137, u138, u139, u140, u141, u142, u143, u144, u145, u146, u147, u148, u149, u150, u151, u152, u153, u154, u155, u156, u157, u158, u159, u160], []⟩ wr := by
      clear hrel
      intro u3 u4 u5 u6 u7 u8 u9 u13 u14 u15 u16 u17 u18 u19 u20 u21 u22 u23 u24 u25 u26 u27 u28 u29 u30 u31 u32 u33 u34 u35 u36 u37 u38 u39 u40 u41 u42 u43 u44 u45 u46 u47 u48 u49 u50 u51 u52 u53 u54 u55 u56 u57 u58 u59 u60 u61 u62 u63 u64 u65 u66 u67 u68 u69 u70 u71 u72 u73 u74 u75 u76 u77 u78 u79 u80 u81 u82 u83 u84 u85 u86 u87 u88 u89 u90 u91 u92 u93 u94 u95 u96 u97 u98 u99 u100 u101 u102 u103 u104 u105 u106 u107 u108 u109 u110 u111 u112 u113 u114 u115 u116 u117 u118 u119 u120 u121 u122 u123 u124 u125 u126 u127 u128 u129 u130 u131 u132 u133 u134 u135 u136 u137 u138 u139 u140 u141 u142 u143 u144 u145 u146 u147 u148 u149 u150 u151 u152 u153 u154 u155 u156 u157 u158 u159 u160 wr ax cx hO hB
      clear HAll HStop HF2
      rcases Nat.eq_zero_or_pos n with hn0 | hn0
      · subst hn0
        rcases opens_cases r with ⟨e1, e4⟩ | ⟨e1, e2, e4⟩ | ⟨e1, e2, e3, e4⟩ | ⟨e1, e2, e3, e4⟩
        · as_aux_lemma =>
            have B := HB.out.below hB
            have c1 := B.has.cell 1 rfl
            have c2 := B.has.cell 2 rfl
            have c4 := B.has.cell 4 rfl
            have c5 := B.has.cell 5 rfl
            rw [e1] at c4

            clear B
            have HO := Lib.hid e4
            clear e4 e1
            go_wp2_with fail

            refine Mx.region [] (fun _ => True) (by kernel_rfl) (by kernel_rfl) trivial ?_
            repeat ((first | (refine Mx.skips (by kernel_rfl) ?_; go_big_quiet_skip) | (refine Mx.quietly rfl ?_; go_big_quiet_want; go_big_quiet_op; go_big_quiet_on)); refine Mx.done ?_)
            refine Mx.nil ?_

            go_wp2
            refine bodyPost_ret (results_tmp4 rfl _ _ _) rfl ?_
            exact rn_none i (.inl HO.out) ((Kept.of_below hB).trans (Kept.drew F _) (fun _ _ h => h)) (HR.out.below (below_drewN hB 1))
        · by_cases hse : r.sent = r.data.length
          · as_aux_lemma =>
              have B := HB.out.below hB
              have c1 := B.has.cell 1 rfl
              have c2 := B.has.cell 2 rfl
              have c4 := B.has.cell 4 rfl
              have c5 := B.has.cell 5 rfl
              rw [e1] at c4

              have c5f := B.has.free 5
              have HO := Lib.hid e4
              have HSE := Lib.hid hse
              have hnn : ((r.sent : Int) != (r.data.length : Int)) = false := by rw [hse]; simp
              have hgt : ¬ (r.sent : Int) < (r.data.length : Int) := by omega
              have kd := Kept.drew none' wr
              have B2 := B.kept kd (fun h => h) (fun _ _ h => h) (fun _ _ h => h)
              have r1 := B2.has.cell 1 rfl
              have r2 := B2.has.cell 2 rfl
              have r5 := B2.has.cell 5 rfl
              have r5f := B2.has.free 5
              have ks := Kept.set wr.drew g 5 (.int .i64 1)
              have hO2 := (own_kept' (own_kept' hO kd (fun _ _ h => h)) ks (fun ad ha e => by have := (ownblk hO ha); have := HB.out.has.lt; omega))
              have HKK : Hid (Kept F w (wr.drew.setCell ⟨g, 5, none⟩ (.int .i64 1))) := Lib.hid (((Kept.of_below hB).trans kd (fun _ _ h => h.elim)).trans ks (fun _ _ e => by rw [e]; exact F1))
              have HRR : Hid (RAt F (wr.drew.setCell ⟨g, 5, none⟩ (.int .i64 1)) g { r with e := 1 }) := Lib.hid ⟨da, dc, sa, sc, ⟨B2.has.set 5 _, own_kept' B2.d ks (fun ad ha e => B2.dg ad ha e), own_kept' B2.s ks (fun ad ha e => B2.sg ad ha e), B2.dg, B2.sg, B2.ds⟩, F1, F2, F3⟩
              have HO2 := Lib.hid hO2
              clear B B2 hO hO2 hse e4 e1
              go_wp2_with fail

              refine Mx.region [] (fun w' => w'.cell? ⟨g, 1, none⟩ = some (.int .i64 (r.sent : Int)) ∧ w'.cell? ⟨g, 2, none⟩ = some (.slice da r.data.length dc)) (by kernel_rfl) (by kernel_rfl) ⟨c1, c2⟩ ?_
              repeat ((first | (refine Mx.skips (by kernel_rfl) ?_; go_big_quiet_skip) | (refine Mx.quietly rfl ?_; go_big_quiet_want; go_big_quiet_op; go_big_quiet_on)); refine Mx.done ?_)
              refine Mx.cell ⟨g, 1, none⟩ (.int .i64 (r.sent : Int)) (by kernel_rfl) (by kernel_rfl) (by kernel_rfl) Try.isAgg3 (fun w' h => h.1) ?_
              go_big_quiet_want; go_big_quiet_op; go_big_quiet_on; refine Mx.done ?_
              repeat ((first | (refine Mx.skips (by kernel_rfl) ?_; go_big_quiet_skip) | (refine Mx.quietly rfl ?_; go_big_quiet_want; go_big_quiet_op; go_big_quiet_on)); refine Mx.done ?_)
              refine Mx.cell ⟨g, 2, none⟩ (.slice da r.data.length dc) (by kernel_rfl) (by kernel_rfl) (by kernel_rfl) Try.isAgg27 (fun w' h => h.2) ?_
              go_big_quiet_want; go_big_quiet_op; go_big_quiet_on; refine Mx.done ?_
              repeat ((first | (refine Mx.skips (by kernel_rfl) ?_; go_big_quiet_skip) | (refine Mx.quietly rfl ?_; go_big_quiet_want; go_big_quiet_op; go_big_quiet_on)); refine Mx.done ?_)
              refine Mx.nil ?_

              go_wp2_with fail
              refine wp_loop_once ?_
              go_wp2_with fail
              refine bodyPost_ret (results_tmp4 rfl _ _ _) rfl ?_
              exact rn_end i HO.out HSE.out HO2.out HKK.out HRR.out
          · as_aux_lemma =>
              have B := HB.out.below hB
              have c1 := B.has.cell 1 rfl
              have c2 := B.has.cell 2 rfl
              have c4 := B.has.cell 4 rfl
              have c5 := B.has.cell 5 rfl
              rw [e1] at c4

              clear B
              have HSE := Lib.hid hse
              have hnn : ((r.sent : Int) != (r.data.length : Int)) = true := by rw [bne_iff_ne]; omega
              clear e4 e1 hse
              go_wp2_with fail

              refine Mx.region [] (fun w' => w'.cell? ⟨g, 1, none⟩ = some (.int .i64 (r.sent : Int)) ∧ w'.cell? ⟨g, 2, none⟩ = some (.slice da r.data.length dc)) (by kernel_rfl) (by kernel_rfl) ⟨c1, c2⟩ ?_
              repeat ((first | (refine Mx.skips (by kernel_rfl) ?_; go_big_quiet_skip) | (refine Mx.quietly rfl ?_; go_big_quiet_want; go_big_quiet_op; go_big_quiet_on)); refine Mx.done ?_)
              refine Mx.cell ⟨g, 1, none⟩ (.int .i64 (r.sent : Int)) (by kernel_rfl) (by kernel_rfl) (by kernel_rfl) Try.isAgg3 (fun w' h => h.1) ?_
              go_big_quiet_want; go_big_quiet_op; go_big_quiet_on; refine Mx.done ?_
              repeat ((first | (refine Mx.skips (by kernel_rfl) ?_; go_big_quiet_skip) | (refine Mx.quietly rfl ?_; go_big_quiet_want; go_big_quiet_op; go_big_quiet_on)); refine Mx.done ?_)
              refine Mx.cell ⟨g, 2, none⟩ (.slice da r.data.length dc) (by kernel_rfl) (by kernel_rfl) (by kernel_rfl) Try.isAgg27 (fun w' h => h.2) ?_
              go_big_quiet_want; go_big_quiet_op; go_big_quiet_on; refine Mx.done ?_
              repeat ((first | (refine Mx.skips (by kernel_rfl) ?_; go_big_quiet_skip) | (refine Mx.quietly rfl ?_; go_big_quiet_want; go_big_quiet_op; go_big_quiet_on)); refine Mx.done ?_)
              refine Mx.nil ?_

              go_wp2
              refine bodyPost_ret (results_tmp4 rfl _ _ _) rfl ?_
              exact rn_none i (.inr HSE.out) ((Kept.of_below hB).trans (Kept.drew F _) (fun _ _ h => h)) (HR.out.below (below_drewN hB 1))
        · by_cases hse : r.sent = r.data.length
          · as_aux_lemma =>
              have B := HB.out.below hB
              have c1 := B.has.cell 1 rfl
              have c2 := B.has.cell 2 rfl
              have c4 := B.has.cell 4 rfl
              have c5 := B.has.cell 5 rfl
              rw [e1] at c4

              have c5f := B.has.free 5
              have HO := Lib.hid e4
              have HSE := Lib.hid hse
              have hnn : ((r.sent : Int) != (r.data.length : Int)) = false := by rw [hse]; simp
              have hgt : ¬ (r.sent : Int) < (r.data.length : Int) := by omega
              have kd := Kept.drew none' wr
              have B2 := B.kept kd (fun h => h) (fun _ _ h => h) (fun _ _ h => h)
              have r1 := B2.has.cell 1 rfl
              have r2 := B2.has.cell 2 rfl
              have r5 := B2.has.cell 5 rfl
              have r5f := B2.has.free 5
              have ks := Kept.set wr.drew g 5 (.int .i64 1)
              have hO2 := (own_kept' (own_kept' hO kd (fun _ _ h => h)) ks (fun ad ha e => by have := (ownblk hO ha); have := HB.out.has.lt; omega))
              have HKK : Hid (Kept F w (wr.drew.setCell ⟨g, 5, none⟩ (.int .i64 1))) := Lib.hid (((Kept.of_below hB).trans kd (fun _ _ h => h.elim)).trans ks (fun _ _ e => by rw [e]; exact F1))
              have HRR : Hid (RAt F (wr.drew.setCell ⟨g, 5, none⟩ (.int .i64 1)) g { r with e := 1 }) := Lib.hid ⟨da, dc, sa, sc, ⟨B2.has.set 5 _, own_kept' B2.d ks (fun ad ha e => B2.dg ad ha e), own_kept' B2.s ks (fun ad ha e => B2.sg ad ha e), B2.dg, B2.sg, B2.ds⟩, F1, F2, F3⟩
              have HO2 := Lib.hid hO2
              clear B B2 hO hO2 hse e4 e1
              go_wp2_with fail

              refine Mx.region [] (fun w' => w'.cell? ⟨g, 1, none⟩ = some (.int .i64 (r.sent : Int)) ∧ w'.cell? ⟨g, 2, none⟩ = some (.slice da r.data.length dc)) (by kernel_rfl) (by kernel_rfl) ⟨c1, c2⟩ ?_
              repeat ((first | (refine Mx.skips (by kernel_rfl) ?_; go_big_quiet_skip) | (refine Mx.quietly rfl ?_; go_big_quiet_want; go_big_quiet_op; go_big_quiet_on)); refine Mx.done ?_)
              refine Mx.cell ⟨g, 1, none⟩ (.int .i64 (r.sent : Int)) (by kernel_rfl) (by kernel_rfl) (by kernel_rfl) Try.isAgg3 (fun w' h => h.1) ?_
              go_big_quiet_want; go_big_quiet_op; go_big_quiet_on; refine Mx.done ?_
              repeat ((first | (refine Mx.skips (by kernel_rfl) ?_; go_big_quiet_skip) | (refine Mx.quietly rfl ?_; go_big_quiet_want; go_big_quiet_op; go_big_quiet_on)); refine Mx.done ?_)
              refine Mx.cell ⟨g, 2, none⟩ (.slice da r.data.length dc) (by kernel_rfl) (by kernel_rfl) (by kernel_rfl) Try.isAgg27 (fun w' h => h.2) ?_
              go_big_quiet_want; go_big_quiet_op; go_big_quiet_on; refine Mx.done ?_
              repeat ((first | (refine Mx.skips (by kernel_rfl) ?_; go_big_quiet_skip) | (refine Mx.quietly rfl ?_; go_big_quiet_want; go_big_quiet_op; go_big_quiet_on)); refine Mx.done ?_)
              refine Mx.nil ?_

              go_wp2_with fail
              refine wp_loop_once ?_
              go_wp2_with fail
              refine bodyPost_ret (results_tmp4 rfl _ _ _) rfl ?_
              exact rn_end i HO.out HSE.out HO2.out HKK.out HRR.out
          · as_aux_lemma =>
              have B := HB.out.below hB
              have c1 := B.has.cell 1 rfl
              have c2 := B.has.cell 2 rfl
              have c4 := B.has.cell 4 rfl
              have c5 := B.has.cell 5 rfl
              rw [e1] at c4

              clear B
              have HSE := Lib.hid hse
              have hnn : ((r.sent : Int) != (r.data.length : Int)) = true := by rw [bne_iff_ne]; omega
              clear e4 e1 hse
              go_wp2_with fail

              refine Mx.region [] (fun w' => w'.cell? ⟨g, 1, none⟩ = some (.int .i64 (r.sent : Int)) ∧ w'.cell? ⟨g, 2, none⟩ = some (.slice da r.data.length dc)) (by kernel_rfl) (by kernel_rfl) ⟨c1, c2⟩ ?_
              repeat ((first | (refine Mx.skips (by kernel_rfl) ?_; go_big_quiet_skip) | (refine Mx.quietly rfl ?_; go_big_quiet_want; go_big_quiet_op; go_big_quiet_on)); refine Mx.done ?_)
              refine Mx.cell ⟨g, 1, none⟩ (.int .i64 (r.sent : Int)) (by kernel_rfl) (by kernel_rfl) (by kernel_rfl) Try.isAgg3 (fun w' h => h.1) ?_
              go_big_quiet_want; go_big_quiet_op; go_big_quiet_on; refine Mx.done ?_
              repeat ((first | (refine Mx.skips (by kernel_rfl) ?_; go_big_quiet_skip) | (refine Mx.quietly rfl ?_; go_big_quiet_want; go_big_quiet_op; go_big_quiet_on)); refine Mx.done ?_)
              refine Mx.cell ⟨g, 2, none⟩ (.slice da r.data.length dc) (by kernel_rfl) (by kernel_rfl) (by kernel_rfl) Try.isAgg27 (fun w' h => h.2) ?_
              go_big_quiet_want; go_big_quiet_op; go_big_quiet_on; refine Mx.done ?_
              repeat ((first | (refine Mx.skips (by kernel_rfl) ?_; go_big_quiet_skip) | (refine Mx.quietly rfl ?_; go_big_quiet_want; go_big_quiet_op; go_big_quiet_on)); refine Mx.done ?_)
              refine Mx.nil ?_

              go_wp2
              refine bodyPost_ret (results_tmp4 rfl _ _ _) rfl ?_
              exact rn_none i (.inr HSE.out) ((Kept.of_below hB).trans (Kept.drew F _) (fun _ _ h => h)) (HR.out.below (below_drewN hB 1))
        · as_aux_lemma =>
            have B := HB.out.below hB
            have c1 := B.has.cell 1 rfl
            have c2 := B.has.cell 2 rfl
            have c4 := B.has.cell 4 rfl
            have c5 := B.has.cell 5 rfl
            rw [e1] at c4

            clear B
            have HO := Lib.hid e4
            clear e4 e1
            go_wp2_with fail

            refine Mx.region [] (fun _ => True) (by kernel_rfl) (by kernel_rfl) trivial ?_
            repeat ((first | (refine Mx.skips (by kernel_rfl) ?_; go_big_quiet_skip) | (refine Mx.quietly rfl ?_; go_big_quiet_want; go_big_quiet_op; go_big_quiet_on)); refine Mx.done ?_)
            refine Mx.nil ?_

            go_wp2
            refine bodyPost_ret (results_tmp4 rfl _ _ _) rfl ?_
            exact rn_none i (.inl HO.out) ((Kept.of_below hB).trans (Kept.drew F _) (fun _ _ h => h)) (HR.out.below (below_drewN hB 1))
      · have hn0' : ((n : Int) == 0) = false := by rw [beq_eq_false_iff_ne]; omega
        rcases opens_cases r with ⟨e1, e4⟩ | ⟨e1, e2, e4⟩ | ⟨e1, e2, e3, e4⟩ | ⟨e1, e2, e3, e4⟩
        · as_aux_lemma =>
            have B := HB.out.below hB
            have c1 := B.has.cell 1 rfl
            have c2 := B.has.cell 2 rfl
            have c4 := B.has.cell 4 rfl
            have c5 := B.has.cell 5 rfl
            rw [e1] at c4

            have HO := Lib.hid e4
            have hS0 : wr.ownsRow 0 3 1 (.slice sa r.st.length sc) r.st.length (nv (turned r.st i 0 1)) := by rw [turned_zero]; exact B.s
            have hH0 := B.has
            have hD0 := B.d
            clear B c1 c2
            have hK0 : Kept F w wr := Kept.of_below hB
            clear e4 e1
            go_wp2_with fail
            go_loopw [15] (fun v wq => ∃ j : Nat, v = .int .i64 (j : Int) ∧ j ≤ n ∧ Has wq g 48 (rcells r da dc sa sc) ∧ wq.ownsRow 0 5 1 (.slice da r.data.length dc) r.data.length (bv r.data) ∧
              wq.ownsRow 0 3 1 (.slice sa r.st.length sc) r.st.length (nv (turned r.st i j 1)) ∧ wq.ownsRow w.heap.size 5 1 (.slice ax n cx) n (bv ((r.data.drop i).take n)) ∧ Kept F w wq) (fun v _ => n - (intOf v).toNat)
            case atStart => exact ⟨0, rfl, Nat.zero_le _, hH0, hD0, hS0, hO, hK0⟩
            case round =>
              obtain ⟨j, rfl, hj, hH, hD, hS, hOj, hK⟩ := hrel
              clear hH0 hD0 hS0 hO hK0 c4 c5 hB
              by_cases hjn : j < n
              · have hjn' : (j : Int) < (n : Int) := by omega
                have g2 : IntKind.i64.wrap ((j : Int) + 1) = (j : Int) + 1 := by rw [IntKind.wrap_i64]; omega
                have g4 : IntKind.i64.wrap ((i : Int) + (j : Int)) = (i : Int) + j := by rw [IntKind.wrap_i64]; omega
                have g5 : ((i : Int) + (j : Int)).toNat = i + j := by omega
                have c3 := hH.cell 3 rfl
                obtain ⟨sb, rfl, hc, hfz, h1, h2⟩ := own_cell hS (i := i + j) (by omega)
                have hxl : (i : Int) + (j : Int) < (r.st.length : Int) := by omega
                have hcI : (r.st.length : Int) ≤ (sc : Int) := by omega
                have hlen : i + j < (turned r.st i j 1).length := by rw [turned_len _ _ _ _ (by omega)]; omega
                rw [nv_get _ _ hlen] at hc
                generalize ((turned r.st i j 1)[i + j]'hlen).toNat = old at hc
                have HT := Lib.hid (turned_succ r.st i j 1 (by omega))
                have hsb : sb < w.heap.size := own_at HB.out.s rfl
                have hnoG : g ≠ sb := fun e => HB.out.sg _ rfl e.symm
                have hnoD : ∀ ad, da = some ad → ad.block ≠ sb := fun ad ha e => HB.out.ds ad _ ha rfl e
                have hFsb : F sb := F3 _ rfl
                clear hlen
                go_wp2
                go_roundw
                case rel =>
                  have ks := Kept.set wr sb (i + j) (.int .i64 1)
                  refine ⟨j + 1, by push_cast; rfl, by omega, hH.other hnoG _ _, own_kept' hD ks (fun ad ha e => hnoD ad ha e), ?_, own_kept' hOj ks (fun ad ha e => by have := ownblk hOj ha; omega), hK.trans ks (fun k _ e => by rw [e]; exact hFsb)⟩
                  rw [HT.out, nv_set]
                  exact own_set hS (i + j) _
                case measure => simp [intOf]; omega
              · obtain rfl : j = n := by omega
                have d1 := hH.cell 1 rfl
                have d1f := hH.free 1
                have d2 := hH.cell 2 rfl
                have d5f := hH.free 5
                have d5 := hH.cell 5 rfl

                have f2 : IntKind.i64.wrap ((i : Int) + (j : Int)) = ((i + j : Nat) : Int) := by rw [IntKind.wrap_i64]; omega
                have hgt : ¬ (r.sent : Int) < ((i + j : Nat) : Int) := by omega
                have HRES : Hid (RNexted F w g (r.outAt i j) (r.nextAt i j) (.returned (.tuple #[.int .i64 (i : Int), .slice ax j cx, .bool false, .bool true])) _) := Lib.hid (rn_some (s' := r.sent) (e' := r.e) (by omega) (by omega) (by rw [HO.out]; rfl) (by omega) rfl hOj hK
                  (rat_mk (by omega) hH hD hS HB.out.dg HB.out.sg HB.out.ds F1 F2 F3))
                clear hS hD hOj hK HB
                go_wp2
                refine bodyPost_ret (results_tmp4 rfl _ _ _) rfl ?_
                exact HRES.out
        · by_cases heq : i + n = r.data.length
          · as_aux_lemma =>
              have B := HB.out.below hB
              have c1 := B.has.cell 1 rfl
              have c2 := B.has.cell 2 rfl
              have c4 := B.has.cell 4 rfl
              have c5 := B.has.cell 5 rfl
              rw [e1] at c4

              have HO := Lib.hid e4
              have hS0 : wr.ownsRow 0 3 1 (.slice sa r.st.length sc) r.st.length (nv (turned r.st i 0 1)) := by rw [turned_zero]; exact B.s
              have hH0 := B.has
              have hD0 := B.d
              clear B c1 c2
              have hK0 : Kept F w wr := Kept.of_below hB
              clear e4 e1
              go_wp2_with fail
              go_loopw [15] (fun v wq => ∃ j : Nat, v = .int .i64 (j : Int) ∧ j ≤ n ∧ Has wq g 48 (rcells r da dc sa sc) ∧ wq.ownsRow 0 5 1 (.slice da r.data.length dc) r.data.length (bv r.data) ∧
                wq.ownsRow 0 3 1 (.slice sa r.st.length sc) r.st.length (nv (turned r.st i j 1)) ∧ wq.ownsRow w.heap.size 5 1 (.slice ax n cx) n (bv ((r.data.drop i).take n)) ∧ Kept F w wq) (fun v _ => n - (intOf v).toNat)
              case atStart => exact ⟨0, rfl, Nat.zero_le _, hH0, hD0, hS0, hO, hK0⟩
              case round =>
                obtain ⟨j, rfl, hj, hH, hD, hS, hOj, hK⟩ := hrel
                clear hH0 hD0 hS0 hO hK0 c4 c5 hB
                by_cases hjn : j < n
                · have hjn' : (j : Int) < (n : Int) := by omega
                  have g2 : IntKind.i64.wrap ((j : Int) + 1) = (j : Int) + 1 := by rw [IntKind.wrap_i64]; omega
                  have g4 : IntKind.i64.wrap ((i : Int) + (j : Int)) = (i : Int) + j := by rw [IntKind.wrap_i64]; omega
                  have g5 : ((i : Int) + (j : Int)).toNat = i + j := by omega
                  have c3 := hH.cell 3 rfl
                  obtain ⟨sb, rfl, hc, hfz, h1, h2⟩ := own_cell hS (i := i + j) (by omega)
                  have hxl : (i : Int) + (j : Int) < (r.st.length : Int) := by omega
                  have hcI : (r.st.length : Int) ≤ (sc : Int) := by omega
                  have hlen : i + j < (turned r.st i j 1).length := by rw [turned_len _ _ _ _ (by omega)]; omega
                  rw [nv_get _ _ hlen] at hc
                  generalize ((turned r.st i j 1)[i + j]'hlen).toNat = old at hc
                  have HT := Lib.hid (turned_succ r.st i j 1 (by omega))
                  have hsb : sb < w.heap.size := own_at HB.out.s rfl
                  have hnoG : g ≠ sb := fun e => HB.out.sg _ rfl e.symm
                  have hnoD : ∀ ad, da = some ad → ad.block ≠ sb := fun ad ha e => HB.out.ds ad _ ha rfl e
                  have hFsb : F sb := F3 _ rfl
                  clear hlen
                  go_wp2
                  go_roundw
                  case rel =>
                    have ks := Kept.set wr sb (i + j) (.int .i64 1)
                    refine ⟨j + 1, by push_cast; rfl, by omega, hH.other hnoG _ _, own_kept' hD ks (fun ad ha e => hnoD ad ha e), ?_, own_kept' hOj ks (fun ad ha e => by have := ownblk hOj ha; omega), hK.trans ks (fun k _ e => by rw [e]; exact hFsb)⟩
                    rw [HT.out, nv_set]
                    exact own_set hS (i + j) _
                  case measure => simp [intOf]; omega
                · obtain rfl : j = n := by omega
                  have d1 := hH.cell 1 rfl
                  have d1f := hH.free 1
                  have d2 := hH.cell 2 rfl
                  have d5f := hH.free 5
                  have d5 := hH.cell 5 rfl

                  have f2 : IntKind.i64.wrap ((i : Int) + (j : Int)) = ((i + j : Nat) : Int) := by rw [IntKind.wrap_i64]; omega
                  have hgt : ¬ (r.sent : Int) < ((i + j : Nat) : Int) := by omega
                  have hfin : (((i + j : Nat) : Int) == (r.data.length : Int)) = true := by rw [beq_iff_eq]; omega
                  have k5 := Kept.set wr g 5 (.int .i64 1)
                  have hH5 := hH.set 5 (.int .i64 1)
                  have hD5 := own_kept' hD k5 (fun ad ha e => HB.out.dg ad ha e)
                  have hS5 := own_kept' hS k5 (fun ad ha e => HB.out.sg ad ha e)
                  have hO5 := own_kept' hOj k5 (fun ad ha e => by have := ownblk hOj ha; have := HB.out.has.lt; omega)
                  have hK5 := hK.trans k5 (fun k _ e => by rw [e]; exact F1)
                  have HRES : Hid (RNexted F w g (r.outAt i j) (r.nextAt i j) (.returned (.tuple #[.int .i64 (i : Int), .slice ax j cx, .bool true, .bool true])) _) := Lib.hid (rn_some (s' := r.sent) (e' := 1) (by omega) (by omega) (by rw [HO.out]; simp; omega) (by omega) rfl hO5 hK5
                    (rat_mk (by omega) hH5 hD5 hS5 HB.out.dg HB.out.sg HB.out.ds F1 F2 F3))
                  clear hS hD hOj hK HB
                  go_wp2
                  refine bodyPost_ret (results_tmp4 rfl _ _ _) rfl ?_
                  exact HRES.out
          · as_aux_lemma =>
              have B := HB.out.below hB
              have c1 := B.has.cell 1 rfl
              have c2 := B.has.cell 2 rfl
              have c4 := B.has.cell 4 rfl
              have c5 := B.has.cell 5 rfl
              rw [e1] at c4

              have HO := Lib.hid e4
              have hS0 : wr.ownsRow 0 3 1 (.slice sa r.st.length sc) r.st.length (nv (turned r.st i 0 1)) := by rw [turned_zero]; exact B.s
              have hH0 := B.has
              have hD0 := B.d
              clear B c1 c2
              have hK0 : Kept F w wr := Kept.of_below hB
              clear e4 e1
              go_wp2_with fail
              go_loopw [15] (fun v wq => ∃ j : Nat, v = .int .i64 (j : Int) ∧ j ≤ n ∧ Has wq g 48 (rcells r da dc sa sc) ∧ wq.ownsRow 0 5 1 (.slice da r.data.length dc) r.data.length (bv r.data) ∧
                wq.ownsRow 0 3 1 (.slice sa r.st.length sc) r.st.length (nv (turned r.st i j 1)) ∧ wq.ownsRow w.heap.size 5 1 (.slice ax n cx) n (bv ((r.data.drop i).take n)) ∧ Kept F w wq) (fun v _ => n - (intOf v).toNat)
              case atStart => exact ⟨0, rfl, Nat.zero_le _, hH0, hD0, hS0, hO, hK0⟩
              case round =>
                obtain ⟨j, rfl, hj, hH, hD, hS, hOj, hK⟩ := hrel
                clear hH0 hD0 hS0 hO hK0 c4 c5 hB
                by_cases hjn : j < n
                · have hjn' : (j : Int) < (n : Int) := by omega
                  have g2 : IntKind.i64.wrap ((j : Int) + 1) = (j : Int) + 1 := by rw [IntKind.wrap_i64]; omega
                  have g4 : IntKind.i64.wrap ((i : Int) + (j : Int)) = (i : Int) + j := by rw [IntKind.wrap_i64]; omega
                  have g5 : ((i : Int) + (j : Int)).toNat = i + j := by omega
                  have c3 := hH.cell 3 rfl
                  obtain ⟨sb, rfl, hc, hfz, h1, h2⟩ := own_cell hS (i := i + j) (by omega)
                  have hxl : (i : Int) + (j : Int) < (r.st.length : Int) := by omega
                  have hcI : (r.st.length : Int) ≤ (sc : Int) := by omega
                  have hlen : i + j < (turned r.st i j 1).length := by rw [turned_len _ _ _ _ (by omega)]; omega
                  rw [nv_get _ _ hlen] at hc
                  generalize ((turned r.st i j 1)[i + j]'hlen).toNat = old at hc
                  have HT := Lib.hid (turned_succ r.st i j 1 (by omega))
                  have hsb : sb < w.heap.size := own_at HB.out.s rfl
                  have hnoG : g ≠ sb := fun e => HB.out.sg _ rfl e.symm
                  have hnoD : ∀ ad, da = some ad → ad.block ≠ sb := fun ad ha e => HB.out.ds ad _ ha rfl e
                  have hFsb : F sb := F3 _ rfl
                  clear hlen
                  go_wp2
                  go_roundw
                  case rel =>
                    have ks := Kept.set wr sb (i + j) (.int .i64 1)
                    refine ⟨j + 1, by push_cast; rfl, by omega, hH.other hnoG _ _, own_kept' hD ks (fun ad ha e => hnoD ad ha e), ?_, own_kept' hOj ks (fun ad ha e => by have := ownblk hOj ha; omega), hK.trans ks (fun k _ e => by rw [e]; exact hFsb)⟩
                    rw [HT.out, nv_set]
                    exact own_set hS (i + j) _
                  case measure => simp [intOf]; omega
                · obtain rfl : j = n := by omega
                  have d1 := hH.cell 1 rfl
                  have d1f := hH.free 1
                  have d2 := hH.cell 2 rfl
                  have d5f := hH.free 5
                  have d5 := hH.cell 5 rfl

                  have f2 : IntKind.i64.wrap ((i : Int) + (j : Int)) = ((i + j : Nat) : Int) := by rw [IntKind.wrap_i64]; omega
                  have hgt : ¬ (r.sent : Int) < ((i + j : Nat) : Int) := by omega
                  have hfin : (((i + j : Nat) : Int) == (r.data.length : Int)) = false := by rw [beq_eq_false_iff_ne]; omega
                  have HRES : Hid (RNexted F w g (r.outAt i j) (r.nextAt i j) (.returned (.tuple #[.int .i64 (i : Int), .slice ax j cx, .bool false, .bool true])) _) := Lib.hid (rn_some (s' := r.sent) (e' := r.e) (by omega) (by omega) (by rw [HO.out]; simp; omega) (by omega) rfl hOj hK
                    (rat_mk (by omega) hH hD hS HB.out.dg HB.out.sg HB.out.ds F1 F2 F3))
                  clear hS hD hOj hK HB
                  go_wp2
                  refine bodyPost_ret (results_tmp4 rfl _ _ _) rfl ?_
                  exact HRES.out
        · by_cases heq : i + n = r.data.length
          · as_aux_lemma =>
              have B := HB.out.below hB
              have c1 := B.has.cell 1 rfl
              have c2 := B.has.cell 2 rfl
              have c4 := B.has.cell 4 rfl
              have c5 := B.has.cell 5 rfl
              rw [e1] at c4

              have HO := Lib.hid e4
              have hS0 : wr.ownsRow 0 3 1 (.slice sa r.st.length sc) r.st.length (nv (turned r.st i 0 1)) := by rw [turned_zero]; exact B.s
              have hH0 := B.has
              have hD0 := B.d
              clear B c1 c2
              have hK0 : Kept F w wr := Kept.of_below hB
              clear e4 e1
              go_wp2_with fail
              go_loopw [15] (fun v wq => ∃ j : Nat, v = .int .i64 (j : Int) ∧ j ≤ n ∧ Has wq g 48 (rcells r da dc sa sc) ∧ wq.ownsRow 0 5 1 (.slice da r.data.length dc) r.data.length (bv r.data) ∧
                wq.ownsRow 0 3 1 (.slice sa r.st.length sc) r.st.length (nv (turned r.st i j 1)) ∧ wq.ownsRow w.heap.size 5 1 (.slice ax n cx) n (bv ((r.data.drop i).take n)) ∧ Kept F w wq) (fun v _ => n - (intOf v).toNat)
              case atStart => exact ⟨0, rfl, Nat.zero_le _, hH0, hD0, hS0, hO, hK0⟩
              case round =>
                obtain ⟨j, rfl, hj, hH, hD, hS, hOj, hK⟩ := hrel
                clear hH0 hD0 hS0 hO hK0 c4 c5 hB
                by_cases hjn : j < n
                · have hjn' : (j : Int) < (n : Int) := by omega
                  have g2 : IntKind.i64.wrap ((j : Int) + 1) = (j : Int) + 1 := by rw [IntKind.wrap_i64]; omega
                  have g4 : IntKind.i64.wrap ((i : Int) + (j : Int)) = (i : Int) + j := by rw [IntKind.wrap_i64]; omega
                  have g5 : ((i : Int) + (j : Int)).toNat = i + j := by omega
                  have c3 := hH.cell 3 rfl
                  obtain ⟨sb, rfl, hc, hfz, h1, h2⟩ := own_cell hS (i := i + j) (by omega)
                  have hxl : (i : Int) + (j : Int) < (r.st.length : Int) := by omega
                  have hcI : (r.st.length : Int) ≤ (sc : Int) := by omega
                  have hlen : i + j < (turned r.st i j 1).length := by rw [turned_len _ _ _ _ (by omega)]; omega
                  rw [nv_get _ _ hlen] at hc
                  generalize ((turned r.st i j 1)[i + j]'hlen).toNat = old at hc
                  have HT := Lib.hid (turned_succ r.st i j 1 (by omega))
                  have hsb : sb < w.heap.size := own_at HB.out.s rfl
                  have hnoG : g ≠ sb := fun e => HB.out.sg _ rfl e.symm
                  have hnoD : ∀ ad, da = some ad → ad.block ≠ sb := fun ad ha e => HB.out.ds ad _ ha rfl e
                  have hFsb : F sb := F3 _ rfl
                  clear hlen
                  go_wp2
                  go_roundw
                  case rel =>
                    have ks := Kept.set wr sb (i + j) (.int .i64 1)
                    refine ⟨j + 1, by push_cast; rfl, by omega, hH.other hnoG _ _, own_kept' hD ks (fun ad ha e => hnoD ad ha e), ?_, own_kept' hOj ks (fun ad ha e => by have := ownblk hOj ha; omega), hK.trans ks (fun k _ e => by rw [e]; exact hFsb)⟩
                    rw [HT.out, nv_set]
                    exact own_set hS (i + j) _
                  case measure => simp [intOf]; omega
                · obtain rfl : j = n := by omega
                  have d1 := hH.cell 1 rfl
                  have d1f := hH.free 1
                  have d2 := hH.cell 2 rfl
                  have d5f := hH.free 5
                  have d5 := hH.cell 5 rfl

                  have f2 : IntKind.i64.wrap ((i : Int) + (j : Int)) = ((i + j : Nat) : Int) := by rw [IntKind.wrap_i64]; omega
                  have hgt : ¬ (r.sent : Int) < ((i + j : Nat) : Int) := by omega
                  have hfin : (((i + j : Nat) : Int) == (r.data.length : Int)) = true := by rw [beq_iff_eq]; omega
                  have k5 := Kept.set wr g 5 (.int .i64 1)
                  have hH5 := hH.set 5 (.int .i64 1)
                  have hD5 := own_kept' hD k5 (fun ad ha e => HB.out.dg ad ha e)
                  have hS5 := own_kept' hS k5 (fun ad ha e => HB.out.sg ad ha e)
                  have hO5 := own_kept' hOj k5 (fun ad ha e => by have := ownblk hOj ha; have := HB.out.has.lt; omega)
                  have hK5 := hK.trans k5 (fun k _ e => by rw [e]; exact F1)
                  have HRES : Hid (RNexted F w g (r.outAt i j) (r.nextAt i j) (.returned (.tuple #[.int .i64 (i : Int), .slice ax j cx, .bool true, .bool true])) _) := Lib.hid (rn_some (s' := r.sent) (e' := 1) (by omega) (by omega) (by rw [HO.out]; simp; omega) (by omega) rfl hO5 hK5
                    (rat_mk (by omega) hH5 hD5 hS5 HB.out.dg HB.out.sg HB.out.ds F1 F2 F3))
                  clear hS hD hOj hK HB
                  go_wp2
                  refine bodyPost_ret (results_tmp4 rfl _ _ _) rfl ?_
                  exact HRES.out
          · as_aux_lemma =>
              have B := HB.out.below hB
              have c1 := B.has.cell 1 rfl
              have c2 := B.has.cell 2 rfl
              have c4 := B.has.cell 4 rfl
              have c5 := B.has.cell 5 rfl
              rw [e1] at c4

              have HO := Lib.hid e4
              have hS0 : wr.ownsRow 0 3 1 (.slice sa r.st.length sc) r.st.length (nv (turned r.st i 0 1)) := by rw [turned_zero]; exact B.s
              have hH0 := B.has
              have hD0 := B.d
              clear B c1 c2
              have hK0 : Kept F w wr := Kept.of_below hB
              clear e4 e1
              go_wp2_with fail
              go_loopw [15] (fun v wq => ∃ j : Nat, v = .int .i64 (j : Int) ∧ j ≤ n ∧ Has wq g 48 (rcells r da dc sa sc) ∧ wq.ownsRow 0 5 1 (.slice da r.data.length dc) r.data.length (bv r.data) ∧
                wq.ownsRow 0 3 1 (.slice sa r.st.length sc) r.st.length (nv (turned r.st i j 1)) ∧ wq.ownsRow w.heap.size 5 1 (.slice ax n cx) n (bv ((r.data.drop i).take n)) ∧ Kept F w wq) (fun v _ => n - (intOf v).toNat)
              case atStart => exact ⟨0, rfl, Nat.zero_le _, hH0, hD0, hS0, hO, hK0⟩
              case round =>
                obtain ⟨j, rfl, hj, hH, hD, hS, hOj, hK⟩ := hrel
                clear hH0 hD0 hS0 hO hK0 c4 c5 hB
                by_cases hjn : j < n
                · have hjn' : (j : Int) < (n : Int) := by omega
                  have g2 : IntKind.i64.wrap ((j : Int) + 1) = (j : Int) + 1 := by rw [IntKind.wrap_i64]; omega
                  have g4 : IntKind.i64.wrap ((i : Int) + (j : Int)) = (i : Int) + j := by rw [IntKind.wrap_i64]; omega
                  have g5 : ((i : Int) + (j : Int)).toNat = i + j := by omega
                  have c3 := hH.cell 3 rfl
                  obtain ⟨sb, rfl, hc, hfz, h1, h2⟩ := own_cell hS (i := i + j) (by omega)
                  have hxl : (i : Int) + (j : Int) < (r.st.length : Int) := by omega
                  have hcI : (r.st.length : Int) ≤ (sc : Int) := by omega
                  have hlen : i + j < (turned r.st i j 1).length := by rw [turned_len _ _ _ _ (by omega)]; omega
                  rw [nv_get _ _ hlen] at hc
                  generalize ((turned r.st i j 1)[i + j]'hlen).toNat = old at hc
                  have HT := Lib.hid (turned_succ r.st i j 1 (by omega))
                  have hsb : sb < w.heap.size := own_at HB.out.s rfl
                  have hnoG : g ≠ sb := fun e => HB.out.sg _ rfl e.symm
                  have hnoD : ∀ ad, da = some ad → ad.block ≠ sb := fun ad ha e => HB.out.ds ad _ ha rfl e
                  have hFsb : F sb := F3 _ rfl
                  clear hlen
                  go_wp2
                  go_roundw
                  case rel =>
                    have ks := Kept.set wr sb (i + j) (.int .i64 1)
                    refine ⟨j + 1, by push_cast; rfl, by omega, hH.other hnoG _ _, own_kept' hD ks (fun ad ha e => hnoD ad ha e), ?_, own_kept' hOj ks (fun ad ha e => by have := ownblk hOj ha; omega), hK.trans ks (fun k _ e => by rw [e]; exact hFsb)⟩
                    rw [HT.out, nv_set]
                    exact own_set hS (i + j) _
                  case measure => simp [intOf]; omega
                · obtain rfl : j = n := by omega
                  have d1 := hH.cell 1 rfl
                  have d1f := hH.free 1
                  have d2 := hH.cell 2 rfl
                  have d5f := hH.free 5
                  have d5 := hH.cell 5 rfl

                  have f2 : IntKind.i64.wrap ((i : Int) + (j : Int)) = ((i + j : Nat) : Int) := by rw [IntKind.wrap_i64]; omega
                  have hgt : ¬ (r.sent : Int) < ((i + j : Nat) : Int) := by omega
                  have hfin : (((i + j : Nat) : Int) == (r.data.length : Int)) = false := by rw [beq_eq_false_iff_ne]; omega
                  have HRES : Hid (RNexted F w g (r.outAt i j) (r.nextAt i j) (.returned (.tuple #[.int .i64 (i : Int), .slice ax j cx, .bool false, .bool true])) _) := Lib.hid (rn_some (s' := r.sent) (e' := r.e) (by omega) (by omega) (by rw [HO.out]; simp; omega) (by omega) rfl hOj hK
                    (rat_mk (by omega) hH hD hS HB.out.dg HB.out.sg HB.out.ds F1 F2 F3))
                  clear hS hD hOj hK HB
                  go_wp2
                  refine bodyPost_ret (results_tmp4 rfl _ _ _) rfl ?_
                  exact HRES.out
        · as_aux_lemma =>
            have B := HB.out.below hB
            have c1 := B.has.cell 1 rfl
            have c2 := B.has.cell 2 rfl
            have c4 := B.has.cell 4 rfl
            have c5 := B.has.cell 5 rfl
            rw [e1] at c4

            have HO := Lib.hid e4
            have hS0 : wr.ownsRow 0 3 1 (.slice sa r.st.length sc) r.st.length (nv (turned r.st i 0 1)) := by rw [turned_zero]; exact B.s
            have hH0 := B.has
            have hD0 := B.d
            clear B c1 c2
            have hK0 : Kept F w wr := Kept.of_below hB
            clear e4 e1
            go_wp2_with fail
            go_loopw [15] (fun v wq => ∃ j : Nat, v = .int .i64 (j : Int) ∧ j ≤ n ∧ Has wq g 48 (rcells r da dc sa sc) ∧ wq.ownsRow 0 5 1 (.slice da r.data.length dc) r.data.length (bv r.data) ∧
              wq.ownsRow 0 3 1 (.slice sa r.st.length sc) r.st.length (nv (turned r.st i j 1)) ∧ wq.ownsRow w.heap.size 5 1 (.slice ax n cx) n (bv ((r.data.drop i).take n)) ∧ Kept F w wq) (fun v _ => n - (intOf v).toNat)
            case atStart => exact ⟨0, rfl, Nat.zero_le _, hH0, hD0, hS0, hO, hK0⟩
            case round =>
              obtain ⟨j, rfl, hj, hH, hD, hS, hOj, hK⟩ := hrel
              clear hH0 hD0 hS0 hO hK0 c4 c5 hB
              by_cases hjn : j < n
              · have hjn' : (j : Int) < (n : Int) := by omega
                have g2 : IntKind.i64.wrap ((j : Int) + 1) = (j : Int) + 1 := by rw [IntKind.wrap_i64]; omega
                have g4 : IntKind.i64.wrap ((i : Int) + (j : Int)) = (i : Int) + j := by rw [IntKind.wrap_i64]; omega
                have g5 : ((i : Int) + (j : Int)).toNat = i + j := by omega
                have c3 := hH.cell 3 rfl
                obtain ⟨sb, rfl, hc, hfz, h1, h2⟩ := own_cell hS (i := i + j) (by omega)
                have hxl : (i : Int) + (j : Int) < (r.st.length : Int) := by omega
                have hcI : (r.st.length : Int) ≤ (sc : Int) := by omega
                have hlen : i + j < (turned r.st i j 1).length := by rw [turned_len _ _ _ _ (by omega)]; omega
                rw [nv_get _ _ hlen] at hc
                generalize ((turned r.st i j 1)[i + j]'hlen).toNat = old at hc
                have HT := Lib.hid (turned_succ r.st i j 1 (by omega))
                have hsb : sb < w.heap.size := own_at HB.out.s rfl
                have hnoG : g ≠ sb := fun e => HB.out.sg _ rfl e.symm
                have hnoD : ∀ ad, da = some ad → ad.block ≠ sb := fun ad ha e => HB.out.ds ad _ ha rfl e
                have hFsb : F sb := F3 _ rfl
                clear hlen
                go_wp2
                go_roundw
                case rel =>
                  have ks := Kept.set wr sb (i + j) (.int .i64 1)
                  refine ⟨j + 1, by push_cast; rfl, by omega, hH.other hnoG _ _, own_kept' hD ks (fun ad ha e => hnoD ad ha e), ?_, own_kept' hOj ks (fun ad ha e => by have := ownblk hOj ha; omega), hK.trans ks (fun k _ e => by rw [e]; exact hFsb)⟩
                  rw [HT.out, nv_set]
                  exact own_set hS (i + j) _
                case measure => simp [intOf]; omega
              · obtain rfl : j = n := by omega
                have d1 := hH.cell 1 rfl
                have d1f := hH.free 1
                have d2 := hH.cell 2 rfl
                have d5f := hH.free 5
                have d5 := hH.cell 5 rfl

                have f2 : IntKind.i64.wrap ((i : Int) + (j : Int)) = ((i + j : Nat) : Int) := by rw [IntKind.wrap_i64]; omega
                have hgt : ¬ (r.sent : Int) < ((i + j : Nat) : Int) := by omega
                have HRES : Hid (RNexted F w g (r.outAt i j) (r.nextAt i j) (.returned (.tuple #[.int .i64 (i : Int), .slice ax j cx, .bool false, .bool true])) _) := Lib.hid (rn_some (s' := r.sent) (e' := r.e) (by omega) (by omega) (by rw [HO.out]; rfl) (by omega) rfl hOj hK
                  (rat_mk (by omega) hH hD hS HB.out.dg HB.out.sg HB.out.ds F1 F2 F3))
                clear hS hD hOj hK HB
                go_wp2
                refine bodyPost_ret (results_tmp4 rfl _ _ _) rfl ?_
                exact HRES.out
    have HKey := Lib.hid key
    clear key aK
    obtain ⟨j, ax, cx, rfl, rfl, hj, hO, hB⟩ := hrel
    have B := HB.out.below hB
    have c3 := B.has.cell 3 rfl
    have c2 := B.has.cell 2 rfl
    by_cases hjn : j < n
    · have g2 : IntKind.i64.wrap (((i + j : Nat) : Int) + 1) = ((i + (j + 1) : Nat) : Int) := by rw [IntKind.wrap_i64]; omega
      have hx1 : ((i + j : Nat) : Int) < (r.st.length : Int) := by omega
      have hx2 : ((i + j : Nat) : Int) < (r.data.length : Int) := by omega
      have hx3 : (j : Int) < most := by have := hmn (by omega); omega
      obtain ⟨sb, rfl, hcs, _, s1, s2⟩ := own_cell B.s (i := i + j) (by omega)
      obtain ⟨db, rfl, hcd, _, s3, s4⟩ := own_cell B.d (i := i + j) (by omega)
      have hsI : (r.st.length : Int) ≤ (sc : Int) := by omega
      have hdI : (r.data.length : Int) ≤ (dc : Int) := by omega
      have hlt : i + j < r.st.length := by omega
      have hld : i + j < r.data.length := by omega
      rw [nv_get _ _ hlt] at hcs
      rw [bv_get _ _ hld] at hcd
      have hst := HAll.out j hjn
      rw [List.getElem?_eq_getElem hlt, Option.some.injEq] at hst
      rw [hst] at hcs
      have hcs : wr.cell? ⟨sb, i + j, none⟩ = some (.int .i64 2) := hcs
      have HTk : Hid ((r.data.drop i).take (j + 1) = (r.data.drop i).take j ++ [r.data[i + j]]) := Lib.hid (by
        rw [take_snoc _ j (by rw [List.length_drop]; omega)]
        congr 2
        rw [List.getElem_drop])
      clear hst
      generalize r.data[i + j] = y at hcd HTk
      have hal2 : Below wr.heap.size wr (wr.alloc (.cells #[.int .u8 (y.toNat : Int)] 5)) := (Below.refl _ _).alloc (Nat.le_refl _) _
      have hs1 := sl_one wr 5 (.int .u8 (y.toNat : Int))
      obtain ⟨a4, c4', w4, hr4, ho4, hg4, hno4⟩ := run_app_own (tyo := 27) tyU8 (B := w.heap.size) (own_below hO hal2) hs1 (bv_one [y]) (by omega) (by unfold maxLen; omega) (by have := hB.size; simp; omega)
      have hb4 : Below w.heap.size w w4 := (hB.trans (hal2.mono hB.size)).grown hg4 (by have := hB.size; simp; omega) (fun k hk => by
        cases ax with
        | none => cases hk
        | some x => simp only [Value.ownBlock, Option.some.injEq] at hk; have := ownblk hO rfl; omega)
      clear B hs1 hg4 hno4 hal2
      go_wp2_with (at_builtin; refine Lib.wpList_append_run _ rfl _ _ _ _ rfl (.slice ax j cx) (.slice (some ⟨wr.heap.size, 0, none⟩) 1 1) rfl rfl _ _ hr4 ?_)
      go_roundw
      case rel => exact ⟨j + 1, a4, c4', by rfl, rfl, by omega, by rw [HTk.out, bv_append]; exact ho4, hb4⟩
      case measure => simp [intOf]; omega
    · obtain rfl : j = n := by omega
      by_cases hE1 : i + j < r.st.length
      · have hx1 : ((i + j : Nat) : Int) < (r.st.length : Int) := by omega
        obtain ⟨sb, rfl, hcs, _, s1, s2⟩ := own_cell B.s hE1
        rw [nv_get _ _ hE1] at hcs
        have hsI : (r.st.length : Int) ≤ (sc : Int) := by omega
        by_cases hE2 : r.st[i + j] = 2
        · rw [hE2] at hcs
          have hcs : wr.cell? ⟨sb, i + j, none⟩ = some (.int .i64 2) := hcs
          have hge : ¬ j < most.toNat := fun h => HStop.out h (by rw [List.getElem?_eq_getElem hE1, hE2])
          clear B hE2
          have hx3 : ¬ (j : Int) < most := by omega
          go_wp2
          exact HKey.out _ _ _ _ _ _ _ _ _ _ _ _ _ _ _ _ _ _ _ _ _ _ _ _ _ _ _ _ _ _ _ _ _ _ _ _ _ _ _ _ _ _ _ _ _ _ _ _ _ _ _ _ _ _ _ _ _ _ _ _ _ _ _ _ _ _ _ _ _ _ _ _ _ _ _ _ _ _ _ _ _ _ _ _ _ _ _ _ _ _ _ _ _ _ _ _ _ _ _ _ _ _ _ _ _ _ _ _ _ _ _ _ _ _ _ _ _ _ _ _ _ _ _ _ _ _ _ _ _ _ _ _ _ _ _ _ _ _ _ _ _ _ _ _ _ _ _ _ _ _ _ _ _ _ _ wr ax cx hO hB
        · have hE2' : (((r.st[i + j]).toNat : Int) == 2) = false := by
            rw [beq_eq_false_iff_ne]
            intro h
            exact hE2 (UInt8.toNat_inj.1 (by have : (2 : UInt8).toNat = 2 := rfl; omega))
          generalize ((r.st[i + j]).toNat : Int) = y at hcs hE2'
          clear B hE2
          go_wp2
          exact HKey.out _ _ _ _ _ _ _ _ _ _ _ _ _ _ _ _ _ _ _ _ _ _ _ _ _ _ _ _ _ _ _ _ _ _ _ _ _ _ _ _ _ _ _ _ _ _ _ _ _ _ _ _ _ _ _ _ _ _ _ _ _ _ _ _ _ _ _ _ _ _ _ _ _ _ _ _ _ _ _ _ _ _ _ _ _ _ _ _ _ _ _ _ _ _ _ _ _ _ _ _ _ _ _ _ _ _ _ _ _ _ _ _ _ _ _ _ _ _ _ _ _ _ _ _ _ _ _ _ _ _ _ _ _ _ _ _ _ _ _ _ _ _ _ _ _ _ _ _ _ _ _ _ _ _ _ wr ax cx hO hB
      · have hx1 : ¬ ((i + j : Nat) : Int) < (r.st.length : Int) := by omega
        clear B
        go_wp2
        exact HKey.out _ _ _ _ _ _ _ _ _ _ _ _ _ _ _ _ _ _ _ _ _ _ _ _ _ _ _ _ _ _ _ _ _ _ _ _ _ _ _ _ _ _ _ _ _ _ _ _ _ _ _ _ _ _ _ _ _ _ _ _ _ _ _ _ _ _ _ _ _ _ _ _ _ _ _ _ _ _ _ _ _ _ _ _ _ _ _ _ _ _ _ _ _ _ _ _ _ _ _ _ _ _ _ _ _ _ _ _ _ _ _ _ _ _ _ _ _ _ _ _ _ _ _ _ _ _ _ _ _ _ _ _ _ _ _ _ _ _ _ _ _ _ _ _ _ _ _ _ _ _ _ _ _ _ _ wr ax cx hO hB

set_option maxRecDepth 100000 in
set_option maxHeartbeats 8000000 in
theorem rnext_fresh (w : World) {F : Nat → Prop} {g : Nat} {r : Qu} (h : RAt F w g r) (hq : r.ROk) (most limit : Int) (i n : Nat) (h2 : Lib.indexByte r.st 2 = -1) (h0 : Lib.indexByte r.st 0 = (i : Int)) (hn : n = runL 0 (r.st.drop i) (min most (limit - i)).toNat) (hsent : r.sent < i + n ∨ n = 0) :
    Calls Try.prog 34 #[.pointer (some ⟨g, 0, none⟩), .int .i64 most, .int .i64 limit] w (RNexted F w g (r.outAt i n) (r.nextAt i n)) := by
  have hstl : r.st.length ≤ 8796093022208 := by rw [hq.len]; exact hq.most
  have hlen := hq.len
  have HR := Lib.hid h
  have HF2 : Hid (∀ w', Below w.heap.size w w' → Calls Try.prog 40 #[.pointer (some ⟨g, 0, none⟩), .int .i64 2] w' (IntOf w' (-1))) := Lib.hid (fun w' hb => by
    have := rfirst_any w' (h.below hb) (by omega) 2
    rwa [h2] at this)
  have HF0 : Hid (∀ w', Below w.heap.size w w' → Calls Try.prog 40 #[.pointer (some ⟨g, 0, none⟩), .int .i64 0] w' (IntOf w' (i : Int))) := Lib.hid (fun w' hb => by
    have := rfirst_any w' (h.below hb) (by omega) 0
    rwa [h0] at this)
  obtain ⟨da, dc, sa, sc, hb, F1, F2, F3⟩ := h
  have HB := Lib.hid hb
  have hi0 : ¬ (i : Int) < 0 := by omega
  have hi1 : (0 : Int) ≤ (i : Int) := by omega
  have hil : i < r.st.length := (List.getElem?_eq_some_iff.1 (Lib.indexByte_some h0).1).1
  have hrl := runL_le 0 (r.st.drop i) (min most (limit - i)).toNat
  rw [List.length_drop, ← hn] at hrl
  have hin : i + n ≤ r.data.length := by omega
  have HAll : Hid (∀ j, j < n → r.st[i + j]? = some 0) := Lib.hid (fun j hj => by
    have := runL_all 0 (r.st.drop i) (min most (limit - i)).toNat j (by omega)
    rwa [List.getElem?_drop] at this)
  have HStop : Hid (n < (min most (limit - i)).toNat → r.st[i + n]? ≠ some 0) := Lib.hid (fun hlt => by
    have := runL_stop 0 (r.st.drop i) (min most (limit - i)).toNat (by omega)
    rwa [← hn, List.getElem?_drop] at this)
  have hmn : 0 < n → (n : Int) ≤ most ∧ (i : Int) + n ≤ limit := fun _ => by omega
  clear hb hn h2 h0 hrl
  go_enter Try.func34, Try.ntmps34
  go_wp2_with fail
  refine (HF2.out w (Below.refl _ _)).mono ?_
  rintro e w1 ⟨rfl, hb1⟩
  go_wp2_with fail
  refine (HF0.out w1 hb1).mono ?_
  rintro e w2 ⟨rfl, hb2⟩
  have hb1 := hb1.trans (hb2.mono hb1.size)
  go_wp2_with fail
  go_loopw [12, 13] (fun dv iv wr => ∃ (j : Nat) (ax : Option Addr) (cx : Nat), iv = .int .i64 ((i + j : Nat) : Int) ∧ dv = .slice ax j cx ∧ j ≤ n ∧ wr.ownsRow w.heap.size 5 1 (.slice ax j cx) j (bv ((r.data.drop i).take j)) ∧ Below w.heap.size w wr) (fun _ iv _ => i + n - (intOf iv).toNat)
  case atStart => exact ⟨0, none, 0, by simp, rfl, Nat.zero_le _, by simpa [bv] using World.ownsRow_nil _ _ _ _, hb1⟩
  case round =>
    rename_i K aK
    have key : ∀ (u3 u4 u5 u6 u7 u8 u9 u13 u14 u15 u16 u17 u18 u19 u20 u21 u22 u23 u24 u25 u26 u27 u28 u29 u30 u31 u32 u33 u34 u35 u36 u37 u38 u39 u40 u41 u42 u43 u44 u45 u46 u47 u48 u49 u50 u51 u52 u53 u54 u55 u56 u57 u58 u59 u60 u61 u62 u63 u64 u65 u66 u67 u68 u69 u70 u71 u72 u73 u74 u75 u76 u77 u78 u79 u80 u81 u82 u83 u84 u85 u86 u87 u88 u89 u90 u91 u92 u93 u94 u95 u96 u97 u98 u99 u100 u101 u102 u103 u104 u105 u106 u107 u108 u109 u110 u111 u112 u113 u114 u115 u116 u117 u118 u119 u120 u121 u122 u123 u124 u125 u126 u127 u128 u129 u130 u131 u132 u133 u134 u135 u136 u137 u138 u139 u140 u141 u142 u143 u144 u145 u146 u147 u148 u149 u150 u151 u152 u153 u154 u155 u156 u157 u158 u159 u160 : Value) (wr : World) (ax : Option Addr) (cx : Nat), wr.ownsRow w.heap.size 5 1 (.slice ax n cx) n (bv ((r.data.drop i).take n)) → Below w.heap.size w wr → K ⟨#[.pointer (some ⟨g, 0, none⟩), .int .i64 most, .int .i64 limit, u3, u4, u5, u6, u7, u8, u9, .int .i64 0, .int .i64 (i : Int), .slice ax n cx, u13, u14, u15, u16, u17, u18, u19, u20, u21, u22, u23, u24, u25, u26, u27, u28, u29, u30, u31, u32, u33, u34, u35, u36, u37, u38, u39, u40, u41, u42, u43, u44, u45, u46, u47, u48, u49, u50, u51, u52, u53, u54, u55, u56, u57, u58, u59, u60, u61, u62, u63, u64, u65, u66, u67, u68, u69, u70, u71, u72, u73, u74, u75, u76, u77, u78, u79, u80, u81, u82, u83, u84, u85, u86, u87, u88, u89, u90, u91, u92, u93, u94, u95, u96, u97, u98, u99, u100, u101, u102, u103, u104, u105, u106, u107, u108, u109, u110, u111, u112, u113, u114, u115, u116, u117, u118, u119, u120, u121, u122, u123, u124, u125, u126, u127, u128, u129, u130, u131, u132, u133, u134, u135, u136, u137, u138, u139, u140, u141, u142, u143, u144, u145, u146, u147, u148, u149, u150, u151, u152, u153, u154, u155, u156, u157, u158, u159, u160], []⟩ wr := by
      clear hrel
      intro u3 u4 u5 u6 u7 u8 u9 u13 u14 u15 u16 u17 u18 u19 u20 u21 u22 u23 u24 u25 u26 u27 u28 u29 u30 u31 u32 u33 u34 u35 u36 u37 u38 u39 u40 u41 u42 u43 u44 u45 u46 u47 u48 u49 u50 u51 u52 u53 u54 u55 u56 u57 u58 u59 u60 u61 u62 u63 u64 u65 u66 u67 u68 u69 u70 u71 u72 u73 u74 u75 u76 u77 u78 u79 u80 u81 u82 u83 u84 u85 u86 u87 u88 u89 u90 u91 u92 u93 u94 u95 u96 u97 u98 u99 u100 u101 u102 u103 u104 u105 u106 u107 u108 u109 u110 u111 u112 u113 u114 u115 u116 u117 u118 u119 u120 u121 u122 u123 u124 u125 u126 u127 u128 u129 u130 u131 u132 u133 u134 u135 u136 u137 u138 u139 u140 u141 u142 u143 u144 u145 u146 u147 u148 u149 u150 u151 u152 u153 u154 u155 u156 u157 u158 u159 u160 wr ax cx hO hB
      clear HAll HStop HF2
      rcases Nat.eq_zero_or_pos n with hn0 | hn0
      · subst hn0
        rcases opens_cases r with ⟨e1, e4⟩ | ⟨e1, e2, e4⟩ | ⟨e1, e2, e3, e4⟩ | ⟨e1, e2, e3, e4⟩
        · as_aux_lemma =>
            have B := HB.out.below hB
            have c1 := B.has.cell 1 rfl
            have c2 := B.has.cell 2 rfl
            have c4 := B.has.cell 4 rfl
            have c5 := B.has.cell 5 rfl
            rw [e1] at c4

            clear B
            have HO := Lib.hid e4
            clear e4 e1
            go_wp2_with fail

            refine Mx.region [] (fun _ => True) (by kernel_rfl) (by kernel_rfl) trivial ?_
            repeat ((first | (refine Mx.skips (by kernel_rfl) ?_; go_big_quiet_skip) | (refine Mx.quietly rfl ?_; go_big_quiet_want; go_big_quiet_op; go_big_quiet_on)); refine Mx.done ?_)
            refine Mx.nil ?_

            go_wp2
            refine bodyPost_ret (results_tmp4 rfl _ _ _) rfl ?_
            exact rn_none i (.inl HO.out) ((Kept.of_below hB).trans (Kept.drew F _) (fun _ _ h => h)) (HR.out.below (below_drewN hB 1))
        · by_cases hse : r.sent = r.data.length
          · as_aux_lemma =>
              have B := HB.out.below hB
              have c1 := B.has.cell 1 rfl
              have c2 := B.has.cell 2 rfl
              have c4 := B.has.cell 4 rfl
              have c5 := B.has.cell 5 rfl
              rw [e1] at c4

              have c5f := B.has.free 5
              have HO := Lib.hid e4
              have HSE := Lib.hid hse
              have hnn : ((r.sent : Int) != (r.data.length : Int)) = false := by rw [hse]; simp
              have hgt : ¬ (r.sent : Int) < (r.data.length : Int) := by omega
              have kd := Kept.drew none' wr
              have B2 := B.kept kd (fun h => h) (fun _ _ h => h) (fun _ _ h => h)
              have r1 := B2.has.cell 1 rfl
              have r2 := B2.has.cell 2 rfl
              have r5 := B2.has.cell 5 rfl
              have r5f := B2.has.free 5
              have ks := Kept.set wr.drew g 5 (.int .i64 1)
              have hO2 := (own_kept' (own_kept' hO kd (fun _ _ h => h)) ks (fun ad ha e => by have := (ownblk hO ha); have := HB.out.has.lt; omega))
              have HKK : Hid (Kept F w (wr.drew.setCell ⟨g, 5, none⟩ (.int .i64 1))) := Lib.hid (((Kept.of_below hB).trans kd (fun _ _ h => h.elim)).trans ks (fun _ _ e => by rw [e]; exact F1))
              have HRR : Hid (RAt F (wr.drew.setCell ⟨g, 5, none⟩ (.int .i64 1)) g { r with e := 1 }) := Lib.hid ⟨da, dc, sa, sc, ⟨B2.has.set 5 _, own_kept' B2.d ks (fun ad ha e => B2.dg ad ha e), own_kept' B2.s ks (fun ad ha e => B2.sg ad ha e), B2.dg, B2.sg, B2.ds⟩, F1, F2, F3⟩
              have HO2 := Lib.hid hO2
              clear B B2 hO hO2 hse e4 e1
              go_wp2_with fail

              refine Mx.region [] (fun w' => w'.cell? ⟨g, 1, none⟩ = some (.int .i64 (r.sent : Int)) ∧ w'.cell? ⟨g, 2, none⟩ = some (.slice da r.data.length dc)) (by kernel_rfl) (by kernel_rfl) ⟨c1, c2⟩ ?_
              repeat ((first | (refine Mx.skips (by kernel_rfl) ?_; go_big_quiet_skip) | (refine Mx.quietly rfl ?_; go_big_quiet_want; go_big_quiet_op; go_big_quiet_on)); refine Mx.done ?_)
              refine Mx.cell ⟨g, 1, none⟩ (.int .i64 (r.sent : Int)) (by kernel_rfl) (by kernel_rfl) (by kernel_rfl) Try.isAgg3 (fun w' h => h.1) ?_
              go_big_quiet_want; go_big_quiet_op; go_big_quiet_on; refine Mx.done ?_
              repeat ((first | (refine Mx.skips (by kernel_rfl) ?_; go_big_quiet_skip) | (refine Mx.quietly rfl ?_; go_big_quiet_want; go_big_quiet_op; go_big_quiet_on)); refine Mx.done ?_)
              refine Mx.cell ⟨g, 2, none⟩ (.slice da r.data.length dc) (by kernel_rfl) (by kernel_rfl) (by kernel_rfl) Try.isAgg27 (fun w' h => h.2) ?_
              go_big_quiet_want; go_big_quiet_op; go_big_quiet_on; refine Mx.done ?_
              repeat ((first | (refine Mx.skips (by kernel_rfl) ?_; go_big_quiet_skip) | (refine Mx.quietly rfl ?_; go_big_quiet_want; go_big_quiet_op; go_big_quiet_on)); refine Mx.done ?_)
              refine Mx.nil ?_

              go_wp2_with fail
              refine wp_loop_once ?_
              go_wp2_with fail
              refine bodyPost_ret (results_tmp4 rfl _ _ _) rfl ?_
              exact rn_end i HO.out HSE.out HO2.out HKK.out HRR.out
          · as_aux_lemma =>
              have B := HB.out.below hB
              have c1 := B.has.cell 1 rfl
              have c2 := B.has.cell 2 rfl
              have c4 := B.has.cell 4 rfl
              have c5 := B.has.cell 5 rfl
              rw [e1] at c4

              clear B
              have HSE := Lib.hid hse
              have hnn : ((r.sent : Int) != (r.data.length : Int)) = true := by rw [bne_iff_ne]; omega
              clear e4 e1 hse
              go_wp2_with fail

              refine Mx.region [] (fun w' => w'.cell? ⟨g, 1, none⟩ = some (.int .i64 (r.sent : Int)) ∧ w'.cell? ⟨g, 2, none⟩ = some (.slice da r.data.length dc)) (by kernel_rfl) (by kernel_rfl) ⟨c1, c2⟩ ?_
              repeat ((first | (refine Mx.skips (by kernel_rfl) ?_; go_big_quiet_skip) | (refine Mx.quietly rfl ?_; go_big_quiet_want; go_big_quiet_op; go_big_quiet_on)); refine Mx.done ?_)
              refine Mx.cell ⟨g, 1, none⟩ (.int .i64 (r.sent : Int)) (by kernel_rfl) (by kernel_rfl) (by kernel_rfl) Try.isAgg3 (fun w' h => h.1) ?_
              go_big_quiet_want; go_big_quiet_op; go_big_quiet_on; refine Mx.done ?_
              repeat ((first | (refine Mx.skips (by kernel_rfl) ?_; go_big_quiet_skip) | (refine Mx.quietly rfl ?_; go_big_quiet_want; go_big_quiet_op; go_big_quiet_on)); refine Mx.done ?_)
              refine Mx.cell ⟨g, 2, none⟩ (.slice da r.data.length dc) (by kernel_rfl) (by kernel_rfl) (by kernel_rfl) Try.isAgg27 (fun w' h => h.2) ?_
              go_big_quiet_want; go_big_quiet_op; go_big_quiet_on; refine Mx.done ?_
              repeat ((first | (refine Mx.skips (by kernel_rfl) ?_; go_big_quiet_skip) | (refine Mx.quietly rfl ?_; go_big_quiet_want; go_big_quiet_op; go_big_quiet_on)); refine Mx.done ?_)
              refine Mx.nil ?_

              go_wp2
              refine bodyPost_ret (results_tmp4 rfl _ _ _) rfl ?_
              exact rn_none i (.inr HSE.out) ((Kept.of_below hB).trans (Kept.drew F _) (fun _ _ h => h)) (HR.out.below (below_drewN hB 1))
        · by_cases hse : r.sent = r.data.length
          · as_aux_lemma =>
              have B := HB.out.below hB
              have c1 := B.has.cell 1 rfl
              have c2 := B.has.cell 2 rfl
              have c4 := B.has.cell 4 rfl
              have c5 := B.has.cell 5 rfl
              rw [e1] at c4

              have c5f := B.has.free 5
              have HO := Lib.hid e4
              have HSE := Lib.hid hse
              have hnn : ((r.sent : Int) != (r.data.length : Int)) = false := by rw [hse]; simp
              have hgt : ¬ (r.sent : Int) < (r.data.length : Int) := by omega
              have kd := Kept.drew none' wr
              have B2 := B.kept kd (fun h => h) (fun _ _ h => h) (fun _ _ h => h)
              have r1 := B2.has.cell 1 rfl
              have r2 := B2.has.cell 2 rfl
              have r5 := B2.has.cell 5 rfl
              have r5f := B2.has.free 5
              have ks := Kept.set wr.drew g 5 (.int .i64 1)
              have hO2 := (own_kept' (own_kept' hO kd (fun _ _ h => h)) ks (fun ad ha e => by have := (ownblk hO ha); have := HB.out.has.lt; omega))
              have HKK : Hid (Kept F w (wr.drew.setCell ⟨g, 5, none⟩ (.int .i64 1))) := Lib.hid (((Kept.of_below hB).trans kd (fun _ _ h => h.elim)).trans ks (fun _ _ e => by rw [e]; exact F1))
              have HRR : Hid (RAt F (wr.drew.setCell ⟨g, 5, none⟩ (.int .i64 1)) g { r with e := 1 }) := Lib.hid ⟨da, dc, sa, sc, ⟨B2.has.set 5 _, own_kept' B2.d ks (fun ad ha e => B2.dg ad ha e), own_kept' B2.s ks (fun ad ha e => B2.sg ad ha e), B2.dg, B2.sg, B2.ds⟩, F1, F2, F3⟩
              have HO2 := Lib.hid hO2
              clear B B2 hO hO2 hse e4 e1
              go_wp2_with fail

              refine Mx.region [] (fun w' => w'.cell? ⟨g, 1, none⟩ = some (.int .i64 (r.sent : Int)) ∧ w'.cell? ⟨g, 2, none⟩ = some (.slice da r.data.length dc)) (by kernel_rfl) (by kernel_rfl) ⟨c1, c2⟩ ?_
              repeat ((first | (refine Mx.skips (by kernel_rfl) ?_; go_big_quiet_skip) | (refine Mx.quietly rfl ?_; go_big_quiet_want; go_big_quiet_op; go_big_quiet_on)); refine Mx.done ?_)
              refine Mx.cell ⟨g, 1, none⟩ (.int .i64 (r.sent : Int)) (by kernel_rfl) (by kernel_rfl) (by kernel_rfl) Try.isAgg3 (fun w' h => h.1) ?_
              go_big_quiet_want; go_big_quiet_op; go_big_quiet_on; refine Mx.done ?_
              repeat ((first | (refine Mx.skips (by kernel_rfl) ?_; go_big_quiet_skip) | (refine Mx.quietly rfl ?_; go_big_quiet_want; go_big_quiet_op; go_big_quiet_on)); refine Mx.done ?_)
              refine Mx.cell ⟨g, 2, none⟩ (.slice da r.data.length dc) (by kernel_rfl) (by kernel_rfl) (by kernel_rfl) Try.isAgg27 (fun w' h => h.2) ?_
              go_big_quiet_want; go_big_quiet_op; go_big_quiet_on; refine Mx.done ?_
              repeat ((first | (refine Mx.skips (by kernel_rfl) ?_; go_big_quiet_skip) | (refine Mx.quietly rfl ?_; go_big_quiet_want; go_big_quiet_op; go_big_quiet_on)); refine Mx.done ?_)
              refine Mx.nil ?_

              go_wp2_with fail
              refine wp_loop_once ?_
              go_wp2_with fail
              refine bodyPost_ret (results_tmp4 rfl _ _ _) rfl ?_
              exact rn_end i HO.out HSE.out HO2.out HKK.out HRR.out
          · as_aux_lemma =>
              have B := HB.out.below hB
              have c1 := B.has.cell 1 rfl
              have c2 := B.has.cell 2 rfl
              have c4 := B.has.cell 4 rfl
              have c5 := B.has.cell 5 rfl
              rw [e1] at c4

              clear B
              have HSE := Lib.hid hse
              have hnn : ((r.sent : Int) != (r.data.length : Int)) = true := by rw [bne_iff_ne]; omega
              clear e4 e1 hse
              go_wp2_with fail

              refine Mx.region [] (fun w' => w'.cell? ⟨g, 1, none⟩ = some (.int .i64 (r.sent : Int)) ∧ w'.cell? ⟨g, 2, none⟩ = some (.slice da r.data.length dc)) (by kernel_rfl) (by kernel_rfl) ⟨c1, c2⟩ ?_
              repeat ((first | (refine Mx.skips (by kernel_rfl) ?_; go_big_quiet_skip) | (refine Mx.quietly rfl ?_; go_big_quiet_want; go_big_quiet_op; go_big_quiet_on)); refine Mx.done ?_)
              refine Mx.cell ⟨g, 1, none⟩ (.int .i64 (r.sent : Int)) (by kernel_rfl) (by kernel_rfl) (by kernel_rfl) Try.isAgg3 (fun w' h => h.1) ?_
              go_big_quiet_want; go_big_quiet_op; go_big_quiet_on; refine Mx.done ?_
              repeat ((first | (refine Mx.skips (by kernel_rfl) ?_; go_big_quiet_skip) | (refine Mx.quietly rfl ?_; go_big_quiet_want; go_big_quiet_op; go_big_quiet_on)); refine Mx.done ?_)
              refine Mx.cell ⟨g, 2, none⟩ (.slice da r.data.length dc) (by kernel_rfl) (by kernel_rfl) (by kernel_rfl) Try.isAgg27 (fun w' h => h.2) ?_
              go_big_quiet_want; go_big_quiet_op; go_big_quiet_on; refine Mx.done ?_
              repeat ((first | (refine Mx.skips (by kernel_rfl) ?_; go_big_quiet_skip) | (refine Mx.quietly rfl ?_; go_big_quiet_want; go_big_quiet_op; go_big_quiet_on)); refine Mx.done ?_)
              refine Mx.nil ?_

              go_wp2
              refine bodyPost_ret (results_tmp4 rfl _ _ _) rfl ?_
              exact rn_none i (.inr HSE.out) ((Kept.of_below hB).trans (Kept.drew F _) (fun _ _ h => h)) (HR.out.below (below_drewN hB 1))
        · as_aux_lemma =>
            have B := HB.out.below hB
            have c1 := B.has.cell 1 rfl
            have c2 := B.has.cell 2 rfl
            have c4 := B.has.cell 4 rfl
            have c5 := B.has.cell 5 rfl
            rw [e1] at c4

            clear B
            have HO := Lib.hid e4
            clear e4 e1
            go_wp2_with fail

            refine Mx.region [] (fun _ => True) (by kernel_rfl) (by kernel_rfl) trivial ?_
            repeat ((first | (refine Mx.skips (by kernel_rfl) ?_; go_big_quiet_skip) | (refine Mx.quietly rfl ?_; go_big_quiet_want; go_big_quiet_op; go_big_quiet_on)); refine Mx.done ?_)
            refine Mx.nil ?_

            go_wp2
            refine bodyPost_ret (results_tmp4 rfl _ _ _) rfl ?_
            exact rn_none i (.inl HO.out) ((Kept.of_below hB).trans (Kept.drew F _) (fun _ _ h => h)) (HR.out.below (below_drewN hB 1))
      · have hn0' : ((n : Int) == 0) = false := by rw [beq_eq_false_iff_ne]; omega
        rcases opens_cases r with ⟨e1, e4⟩ | ⟨e1, e2, e4⟩ | ⟨e1, e2, e3, e4⟩ | ⟨e1, e2, e3, e4⟩
        · as_aux_lemma =>
            have B := HB.out.below hB
            have c1 := B.has.cell 1 rfl
            have c2 := B.has.cell 2 rfl
            have c4 := B.has.cell 4 rfl
            have c5 := B.has.cell 5 rfl
            rw [e1] at c4

            have HO := Lib.hid e4
            have hS0 : wr.ownsRow 0 3 1 (.slice sa r.st.length sc) r.st.length (nv (turned r.st i 0 1)) := by rw [turned_zero]; exact B.s
            have hH0 := B.has
            have hD0 := B.d
            clear B c1 c2
            have hK0 : Kept F w wr := Kept.of_below hB
            clear e4 e1
            go_wp2_with fail
            go_loopw [15] (fun v wq => ∃ j : Nat, v = .int .i64 (j : Int) ∧ j ≤ n ∧ Has wq g 48 (rcells r da dc sa sc) ∧ wq.ownsRow 0 5 1 (.slice da r.data.length dc) r.data.length (bv r.data) ∧
              wq.ownsRow 0 3 1 (.slice sa r.st.length sc) r.st.length (nv (turned r.st i j 1)) ∧ wq.ownsRow w.heap.size 5 1 (.slice ax n cx) n (bv ((r.data.drop i).take n)) ∧ Kept F w wq) (fun v _ => n - (intOf v).toNat)
            case atStart => exact ⟨0, rfl, Nat.zero_le _, hH0, hD0, hS0, hO, hK0⟩
            case round =>
              obtain ⟨j, rfl, hj, hH, hD, hS, hOj, hK⟩ := hrel
              clear hH0 hD0 hS0 hO hK0 c4 c5 hB
              by_cases hjn : j < n
              · have hjn' : (j : Int) < (n : Int) := by omega
                have g2 : IntKind.i64.wrap ((j : Int) + 1) = (j : Int) + 1 := by rw [IntKind.wrap_i64]; omega
                have g4 : IntKind.i64.wrap ((i : Int) + (j : Int)) = (i : Int) + j := by rw [IntKind.wrap_i64]; omega
                have g5 : ((i : Int) + (j : Int)).toNat = i + j := by omega
                have c3 := hH.cell 3 rfl
                obtain ⟨sb, rfl, hc, hfz, h1, h2⟩ := own_cell hS (i := i + j) (by omega)
                have hxl : (i : Int) + (j : Int) < (r.st.length : Int) := by omega
                have hcI : (r.st.length : Int) ≤ (sc : Int) := by omega
                have hlen : i + j < (turned r.st i j 1).length := by rw [turned_len _ _ _ _ (by omega)]; omega
                rw [nv_get _ _ hlen] at hc
                generalize ((turned r.st i j 1)[i + j]'hlen).toNat = old at hc
                have HT := Lib.hid (turned_succ r.st i j 1 (by omega))
                have hsb : sb < w.heap.size := own_at HB.out.s rfl
                have hnoG : g ≠ sb := fun e => HB.out.sg _ rfl e.symm
                have hnoD : ∀ ad, da = some ad → ad.block ≠ sb := fun ad ha e => HB.out.ds ad _ ha rfl e
                have hFsb : F sb := F3 _ rfl
                clear hlen
                go_wp2
                go_roundw
                case rel =>
                  have ks := Kept.set wr sb (i + j) (.int .i64 1)
                  refine ⟨j + 1, by push_cast; rfl, by omega, hH.other hnoG _ _, own_kept' hD ks (fun ad ha e => hnoD ad ha e), ?_, own_kept' hOj ks (fun ad ha e => by have := ownblk hOj ha; omega), hK.trans ks (fun k _ e => by rw [e]; exact hFsb)⟩
                  rw [HT.out, nv_set]
                  exact own_set hS (i + j) _
                case measure => simp [intOf]; omega
              · obtain rfl : j = n := by omega
                have d1 := hH.cell 1 rfl
                have d1f := hH.free 1
                have d2 := hH.cell 2 rfl
                have d5f := hH.free 5
                have d5 := hH.cell 5 rfl

                have f2 : IntKind.i64.wrap ((i : Int) + (j : Int)) = (i : Int) + (j : Int) := by rw [IntKind.wrap_i64]; omega
                have hgt : (r.sent : Int) < (i : Int) + (j : Int) := by omega
                have k1 := Kept.set wr g 1 (.int .i64 ((i : Int) + (j : Int)))
                have hH1 := hH.set 1 (.int .i64 ((i : Int) + (j : Int)))
                have hD1 := own_kept' hD k1 (fun ad ha e => HB.out.dg ad ha e)
                have hS1 := own_kept' hS k1 (fun ad ha e => HB.out.sg ad ha e)
                have hO1 := own_kept' hOj k1 (fun ad ha e => by have := ownblk hOj ha; have := HB.out.has.lt; omega)
                have hK1 := hK.trans k1 (fun k _ e => by rw [e]; exact F1)
                have d2 := hH1.cell 2 rfl
                have d5f := hH1.free 5
                have d5 := hH1.cell 5 rfl
                have HRES : Hid (RNexted F w g (r.outAt i j) (r.nextAt i j) (.returned (.tuple #[.int .i64 (i : Int), .slice ax j cx, .bool false, .bool true])) _) := Lib.hid (rn_some (s' := (i + j)) (e' := r.e) (by omega) (by omega) (by rw [HO.out]; rfl) (by omega) rfl hO1 hK1
                  (rat_mk (by omega) (by rw [show ((i + j : Nat) : Int) = (i : Int) + j by omega]; exact hH1) hD1 hS1 HB.out.dg HB.out.sg HB.out.ds F1 F2 F3))
                clear hS hD hOj hK HB
                go_wp2
                refine bodyPost_ret (results_tmp4 rfl _ _ _) rfl ?_
                exact HRES.out
        · by_cases heq : i + n = r.data.length
          · as_aux_lemma =>
              have B := HB.out.below hB
              have c1 := B.has.cell 1 rfl
              have c2 := B.has.cell 2 rfl
              have c4 := B.has.cell 4 rfl
              have c5 := B.has.cell 5 rfl
              rw [e1] at c4

              have HO := Lib.hid e4
              have hS0 : wr.ownsRow 0 3 1 (.slice sa r.st.length sc) r.st.length (nv (turned r.st i 0 1)) := by rw [turned_zero]; exact B.s
              have hH0 := B.has
              have hD0 := B.d
              clear B c1 c2
              have hK0 : Kept F w wr := Kept.of_below hB
              clear e4 e1
              go_wp2_with fail
              go_loopw [15] (fun v wq => ∃ j : Nat, v = .int .i64 (j : Int) ∧ j ≤ n ∧ Has wq g 48 (rcells r da dc sa sc) ∧ wq.ownsRow 0 5 1 (.slice da r.data.length dc) r.data.length (bv r.data) ∧
                wq.ownsRow 0 3 1 (.slice sa r.st.length sc) r.st.length (nv (turned r.st i j 1)) ∧ wq.ownsRow w.heap.size 5 1 (.slice ax n cx) n (bv ((r.data.drop i).take n)) ∧ Kept F w wq) (fun v _ => n - (intOf v).toNat)
              case atStart => exact ⟨0, rfl, Nat.zero_le _, hH0, hD0, hS0, hO, hK0⟩
              case round =>
                obtain ⟨j, rfl, hj, hH, hD, hS, hOj, hK⟩ := hrel
                clear hH0 hD0 hS0 hO hK0 c4 c5 hB
                by_cases hjn : j < n
                · have hjn' : (j : Int) < (n : Int) := by omega
                  have g2 : IntKind.i64.wrap ((j : Int) + 1) = (j : Int) + 1 := by rw [IntKind.wrap_i64]; omega
                  have g4 : IntKind.i64.wrap ((i : Int) + (j : Int)) = (i : Int) + j := by rw [IntKind.wrap_i64]; omega
                  have g5 : ((i : Int) + (j : Int)).toNat = i + j := by omega
                  have c3 := hH.cell 3 rfl
                  obtain ⟨sb, rfl, hc, hfz, h1, h2⟩ := own_cell hS (i := i + j) (by omega)
                  have hxl : (i : Int) + (j : Int) < (r.st.length : Int) := by omega
                  have hcI : (r.st.length : Int) ≤ (sc : Int) := by omega
                  have hlen : i + j < (turned r.st i j 1).length := by rw [turned_len _ _ _ _ (by omega)]; omega
                  rw [nv_get _ _ hlen] at hc
                  generalize ((turned r.st i j 1)[i + j]'hlen).toNat = old at hc
                  have HT := Lib.hid (turned_succ r.st i j 1 (by omega))
                  have hsb : sb < w.heap.size := own_at HB.out.s rfl
                  have hnoG : g ≠ sb := fun e => HB.out.sg _ rfl e.symm
                  have hnoD : ∀ ad, da = some ad → ad.block ≠ sb := fun ad ha e => HB.out.ds ad _ ha rfl e
                  have hFsb : F sb := F3 _ rfl
                  clear hlen
                  go_wp2
                  go_roundw
                  case rel =>
                    have ks := Kept.set wr sb (i + j) (.int .i64 1)
                    refine ⟨j + 1, by push_cast; rfl, by omega, hH.other hnoG _ _, own_kept' hD ks (fun ad ha e => hnoD ad ha e), ?_, own_kept' hOj ks (fun ad ha e => by have := ownblk hOj ha; omega), hK.trans ks (fun k _ e => by rw [e]; exact hFsb)⟩
                    rw [HT.out, nv_set]
                    exact own_set hS (i + j) _
                  case measure => simp [intOf]; omega
                · obtain rfl : j = n := by omega
                  have d1 := hH.cell 1 rfl
                  have d1f := hH.free 1
                  have d2 := hH.cell 2 rfl
                  have d5f := hH.free 5
                  have d5 := hH.cell 5 rfl

                  have f2 : IntKind.i64.wrap ((i : Int) + (j : Int)) = (i : Int) + (j : Int) := by rw [IntKind.wrap_i64]; omega
                  have hgt : (r.sent : Int) < (i : Int) + (j : Int) := by omega
                  have k1 := Kept.set wr g 1 (.int .i64 ((i : Int) + (j : Int)))
                  have hH1 := hH.set 1 (.int .i64 ((i : Int) + (j : Int)))
                  have hD1 := own_kept' hD k1 (fun ad ha e => HB.out.dg ad ha e)
                  have hS1 := own_kept' hS k1 (fun ad ha e => HB.out.sg ad ha e)
                  have hO1 := own_kept' hOj k1 (fun ad ha e => by have := ownblk hOj ha; have := HB.out.has.lt; omega)
                  have hK1 := hK.trans k1 (fun k _ e => by rw [e]; exact F1)
                  have d2 := hH1.cell 2 rfl
                  have d5f := hH1.free 5
                  have d5 := hH1.cell 5 rfl
                  have hfin : ((i : Int) + (j : Int) == (r.data.length : Int)) = true := by rw [beq_iff_eq]; omega
                  have k5 := Kept.set (wr.setCell ⟨g, 1, none⟩ (.int .i64 ((i : Int) + (j : Int)))) g 5 (.int .i64 1)
                  have hH5 := hH1.set 5 (.int .i64 1)
                  have hD5 := own_kept' hD1 k5 (fun ad ha e => HB.out.dg ad ha e)
                  have hS5 := own_kept' hS1 k5 (fun ad ha e => HB.out.sg ad ha e)
                  have hO5 := own_kept' hO1 k5 (fun ad ha e => by have := ownblk hO1 ha; have := HB.out.has.lt; omega)
                  have hK5 := hK1.trans k5 (fun k _ e => by rw [e]; exact F1)
                  have HRES : Hid (RNexted F w g (r.outAt i j) (r.nextAt i j) (.returned (.tuple #[.int .i64 (i : Int), .slice ax j cx, .bool true, .bool true])) _) := Lib.hid (rn_some (s' := (i + j)) (e' := 1) (by omega) (by omega) (by rw [HO.out]; simp; omega) (by omega) rfl hO5 hK5
                    (rat_mk (by omega) (by rw [show ((i + j : Nat) : Int) = (i : Int) + j by omega]; exact hH5) hD5 hS5 HB.out.dg HB.out.sg HB.out.ds F1 F2 F3))
                  clear hS hD hOj hK HB
                  go_wp2
                  refine bodyPost_ret (results_tmp4 rfl _ _ _) rfl ?_
                  exact HRES.out
          · as_aux_lemma =>
              have B := HB.out.below hB
              have c1 := B.has.cell 1 rfl
              have c2 := B.has.cell 2 rfl
              have c4 := B.has.cell 4 rfl
              have c5 := B.has.cell 5 rfl
              rw [e1] at c4

              have HO := Lib.hid e4
              have hS0 : wr.ownsRow 0 3 1 (.slice sa r.st.length sc) r.st.length (nv (turned r.st i 0 1)) := by rw [turned_zero]; exact B.s
              have hH0 := B.has
              have hD0 := B.d
              clear B c1 c2
              have hK0 : Kept F w wr := Kept.of_below hB
              clear e4 e1
              go_wp2_with fail
              go_loopw [15] (fun v wq => ∃ j : Nat, v = .int .i64 (j : Int) ∧ j ≤ n ∧ Has wq g 48 (rcells r da dc sa sc) ∧ wq.ownsRow 0 5 1 (.slice da r.data.length dc) r.data.length (bv r.data) ∧
                wq.ownsRow 0 3 1 (.slice sa r.st.length sc) r.st.length (nv (turned r.st i j 1)) ∧ wq.ownsRow w.heap.size 5 1 (.slice ax n cx) n (bv ((r.data.drop i).take n)) ∧ Kept F w wq) (fun v _ => n - (intOf v).toNat)
              case atStart => exact ⟨0, rfl, Nat.zero_le _, hH0, hD0, hS0, hO, hK0⟩
              case round =>
                obtain ⟨j, rfl, hj, hH, hD, hS, hOj, hK⟩ := hrel
                clear hH0 hD0 hS0 hO hK0 c4 c5 hB
                by_cases hjn : j < n
                · have hjn' : (j : Int) < (n : Int) := by omega
                  have g2 : IntKind.i64.wrap ((j : Int) + 1) = (j : Int) + 1 := by rw [IntKind.wrap_i64]; omega
                  have g4 : IntKind.i64.wrap ((i : Int) + (j : Int)) = (i : Int) + j := by rw [IntKind.wrap_i64]; omega
                  have g5 : ((i : Int) + (j : Int)).toNat = i + j := by omega
                  have c3 := hH.cell 3 rfl
                  obtain ⟨sb, rfl, hc, hfz, h1, h2⟩ := own_cell hS (i := i + j) (by omega)
                  have hxl : (i : Int) + (j : Int) < (r.st.length : Int) := by omega
                  have hcI : (r.st.length : Int) ≤ (sc : Int) := by omega
                  have hlen : i + j < (turned r.st i j 1).length := by rw [turned_len _ _ _ _ (by omega)]; omega
                  rw [nv_get _ _ hlen] at hc
                  generalize ((turned r.st i j 1)[i + j]'hlen).toNat = old at hc
                  have HT := Lib.hid (turned_succ r.st i j 1 (by omega))
                  have hsb : sb < w.heap.size := own_at HB.out.s rfl
                  have hnoG : g ≠ sb := fun e => HB.out.sg _ rfl e.symm
                  have hnoD : ∀ ad, da = some ad → ad.block ≠ sb := fun ad ha e => HB.out.ds ad _ ha rfl e
                  have hFsb : F sb := F3 _ rfl
                  clear hlen
                  go_wp2
                  go_roundw
                  case rel =>
                    have ks := Kept.set wr sb (i + j) (.int .i64 1)
                    refine ⟨j + 1, by push_cast; rfl, by omega, hH.other hnoG _ _, own_kept' hD ks (fun ad ha e => hnoD ad ha e), ?_, own_kept' hOj ks (fun ad ha e => by have := ownblk hOj ha; omega), hK.trans ks (fun k _ e => by rw [e]; exact hFsb)⟩
                    rw [HT.out, nv_set]
                    exact own_set hS (i + j) _
                  case measure => simp [intOf]; omega
                · obtain rfl : j = n := by omega
                  have d1 := hH.cell 1 rfl
                  have d1f := hH.free 1
                  have d2 := hH.cell 2 rfl
                  have d5f := hH.free 5
                  have d5 := hH.cell 5 rfl

                  have f2 : IntKind.i64.wrap ((i : Int) + (j : Int)) = (i : Int) + (j : Int) := by rw [IntKind.wrap_i64]; omega
                  have hgt : (r.sent : Int) < (i : Int) + (j : Int) := by omega
                  have k1 := Kept.set wr g 1 (.int .i64 ((i : Int) + (j : Int)))
                  have hH1 := hH.set 1 (.int .i64 ((i : Int) + (j : Int)))
                  have hD1 := own_kept' hD k1 (fun ad ha e => HB.out.dg ad ha e)
                  have hS1 := own_kept' hS k1 (fun ad ha e => HB.out.sg ad ha e)
                  have hO1 := own_kept' hOj k1 (fun ad ha e => by have := ownblk hOj ha; have := HB.out.has.lt; omega)
                  have hK1 := hK.trans k1 (fun k _ e => by rw [e]; exact F1)
                  have d2 := hH1.cell 2 rfl
                  have d5f := hH1.free 5
                  have d5 := hH1.cell 5 rfl
                  have hfin : ((i : Int) + (j : Int) == (r.data.length : Int)) = false := by rw [beq_eq_false_iff_ne]; omega
                  have HRES : Hid (RNexted F w g (r.outAt i j) (r.nextAt i j) (.returned (.tuple #[.int .i64 (i : Int), .slice ax j cx, .bool false, .bool true])) _) := Lib.hid (rn_some (s' := (i + j)) (e' := r.e) (by omega) (by omega) (by rw [HO.out]; simp; omega) (by omega) rfl hO1 hK1
                    (rat_mk (by omega) (by rw [show ((i + j : Nat) : Int) = (i : Int) + j by omega]; exact hH1) hD1 hS1 HB.out.dg HB.out.sg HB.out.ds F1 F2 F3))
                  clear hS hD hOj hK HB
                  go_wp2
                  refine bodyPost_ret (results_tmp4 rfl _ _ _) rfl ?_
                  exact HRES.out
        · by_cases heq : i + n = r.data.length
          · as_aux_lemma =>
              have B := HB.out.below hB
              have c1 := B.has.cell 1 rfl
              have c2 := B.has.cell 2 rfl
              have c4 := B.has.cell 4 rfl
              have c5 := B.has.cell 5 rfl
              rw [e1] at c4

              have HO := Lib.hid e4
              have hS0 : wr.ownsRow 0 3 1 (.slice sa r.st.length sc) r.st.length (nv (turned r.st i 0 1)) := by rw [turned_zero]; exact B.s
              have hH0 := B.has
              have hD0 := B.d
              clear B c1 c2
              have hK0 : Kept F w wr := Kept.of_below hB
              clear e4 e1
              go_wp2_with fail
              go_loopw [15] (fun v wq => ∃ j : Nat, v = .int .i64 (j : Int) ∧ j ≤ n ∧ Has wq g 48 (rcells r da dc sa sc) ∧ wq.ownsRow 0 5 1 (.slice da r.data.length dc) r.data.length (bv r.data) ∧
                wq.ownsRow 0 3 1 (.slice sa r.st.length sc) r.st.length (nv (turned r.st i j 1)) ∧ wq.ownsRow w.heap.size 5 1 (.slice ax n cx) n (bv ((r.data.drop i).take n)) ∧ Kept F w wq) (fun v _ => n - (intOf v).toNat)
              case atStart => exact ⟨0, rfl, Nat.zero_le _, hH0, hD0, hS0, hO, hK0⟩
              case round =>
                obtain ⟨j, rfl, hj, hH, hD, hS, hOj, hK⟩ := hrel
                clear hH0 hD0 hS0 hO hK0 c4 c5 hB
                by_cases hjn : j < n
                · have hjn' : (j : Int) < (n : Int) := by omega
                  have g2 : IntKind.i64.wrap ((j : Int) + 1) = (j : Int) + 1 := by rw [IntKind.wrap_i64]; omega
                  have g4 : IntKind.i64.wrap ((i : Int) + (j : Int)) = (i : Int) + j := by rw [IntKind.wrap_i64]; omega
                  have g5 : ((i : Int) + (j : Int)).toNat = i + j := by omega
                  have c3 := hH.cell 3 rfl
                  obtain ⟨sb, rfl, hc, hfz, h1, h2⟩ := own_cell hS (i := i + j) (by omega)
                  have hxl : (i : Int) + (j : Int) < (r.st.length : Int) := by omega
                  have hcI : (r.st.length : Int) ≤ (sc : Int) := by omega
                  have hlen : i + j < (turned r.st i j 1).length := by rw [turned_len _ _ _ _ (by omega)]; omega
                  rw [nv_get _ _ hlen] at hc
                  generalize ((turned r.st i j 1)[i + j]'hlen).toNat = old at hc
                  have HT := Lib.hid (turned_succ r.st i j 1 (by omega))
                  have hsb : sb < w.heap.size := own_at HB.out.s rfl
                  have hnoG : g ≠ sb := fun e => HB.out.sg _ rfl e.symm
                  have hnoD : ∀ ad, da = some ad → ad.block ≠ sb := fun ad ha e => HB.out.ds ad _ ha rfl e
                  have hFsb : F sb := F3 _ rfl
                  clear hlen
                  go_wp2
                  go_roundw
                  case rel =>
                    have ks := Kept.set wr sb (i + j) (.int .i64 1)
                    refine ⟨j + 1, by push_cast; rfl, by omega, hH.other hnoG _ _, own_kept' hD ks (fun ad ha e => hnoD ad ha e), ?_, own_kept' hOj ks (fun ad ha e => by have := ownblk hOj ha; omega), hK.trans ks (fun k _ e => by rw [e]; exact hFsb)⟩
                    rw [HT.out, nv_set]
                    exact own_set hS (i + j) _
                  case measure => simp [intOf]; omega
                · obtain rfl : j = n := by omega
                  have d1 := hH.cell 1 rfl
                  have d1f := hH.free 1
                  have d2 := hH.cell 2 rfl
                  have d5f := hH.free 5
                  have d5 := hH.cell 5 rfl

                  have f2 : IntKind.i64.wrap ((i : Int) + (j : Int)) = (i : Int) + (j : Int) := by rw [IntKind.wrap_i64]; omega
                  have hgt : (r.sent : Int) < (i : Int) + (j : Int) := by omega
                  have k1 := Kept.set wr g 1 (.int .i64 ((i : Int) + (j : Int)))
                  have hH1 := hH.set 1 (.int .i64 ((i : Int) + (j : Int)))
                  have hD1 := own_kept' hD k1 (fun ad ha e => HB.out.dg ad ha e)
                  have hS1 := own_kept' hS k1 (fun ad ha e => HB.out.sg ad ha e)
                  have hO1 := own_kept' hOj k1 (fun ad ha e => by have := ownblk hOj ha; have := HB.out.has.lt; omega)
                  have hK1 := hK.trans k1 (fun k _ e => by rw [e]; exact F1)
                  have d2 := hH1.cell 2 rfl
                  have d5f := hH1.free 5
                  have d5 := hH1.cell 5 rfl
                  have hfin : ((i : Int) + (j : Int) == (r.data.length : Int)) = true := by rw [beq_iff_eq]; omega
                  have k5 := Kept.set (wr.setCell ⟨g, 1, none⟩ (.int .i64 ((i : Int) + (j : Int)))) g 5 (.int .i64 1)
                  have hH5 := hH1.set 5 (.int .i64 1)
                  have hD5 := own_kept' hD1 k5 (fun ad ha e => HB.out.dg ad ha e)
                  have hS5 := own_kept' hS1 k5 (fun ad ha e => HB.out.sg ad ha e)
                  have hO5 := own_kept' hO1 k5 (fun ad ha e => by have := ownblk hO1 ha; have := HB.out.has.lt; omega)
                  have hK5 := hK1.trans k5 (fun k _ e => by rw [e]; exact F1)
                  have HRES : Hid (RNexted F w g (r.outAt i j) (r.nextAt i j) (.returned (.tuple #[.int .i64 (i : Int), .slice ax j cx, .bool true, .bool true])) _) := Lib.hid (rn_some (s' := (i + j)) (e' := 1) (by omega) (by omega) (by rw [HO.out]; simp; omega) (by omega) rfl hO5 hK5
                    (rat_mk (by omega) (by rw [show ((i + j : Nat) : Int) = (i : Int) + j by omega]; exact hH5) hD5 hS5 HB.out.dg HB.out.sg HB.out.ds F1 F2 F3))
                  clear hS hD hOj hK HB
                  go_wp2
                  refine bodyPost_ret (results_tmp4 rfl _ _ _) rfl ?_
                  exact HRES.out
          · as_aux_lemma =>
              have B := HB.out.below hB
              have c1 := B.has.cell 1 rfl
              have c2 := B.has.cell 2 rfl
              have c4 := B.has.cell 4 rfl
              have c5 := B.has.cell 5 rfl
              rw [e1] at c4

              have HO := Lib.hid e4
              have hS0 : wr.ownsRow 0 3 1 (.slice sa r.st.length sc) r.st.length (nv (turned r.st i 0 1)) := by rw [turned_zero]; exact B.s
              have hH0 := B.has
              have hD0 := B.d
              clear B c1 c2
              have hK0 : Kept F w wr := Kept.of_below hB
              clear e4 e1
              go_wp2_with fail
              go_loopw [15] (fun v wq => ∃ j : Nat, v = .int .i64 (j : Int) ∧ j ≤ n ∧ Has wq g 48 (rcells r da dc sa sc) ∧ wq.ownsRow 0 5 1 (.slice da r.data.length dc) r.data.length (bv r.data) ∧
                wq.ownsRow 0 3 1 (.slice sa r.st.length sc) r.st.length (nv (turned r.st i j 1)) ∧ wq.ownsRow w.heap.size 5 1 (.slice ax n cx) n (bv ((r.data.drop i).take n)) ∧ Kept F w wq) (fun v _ => n - (intOf v).toNat)
              case atStart => exact ⟨0, rfl, Nat.zero_le _, hH0, hD0, hS0, hO, hK0⟩
              case round =>
                obtain ⟨j, rfl, hj, hH, hD, hS, hOj, hK⟩ := hrel
                clear hH0 hD0 hS0 hO hK0 c4 c5 hB
                by_cases hjn : j < n
                · have hjn' : (j : Int) < (n : Int) := by omega
                  have g2 : IntKind.i64.wrap ((j : Int) + 1) = (j : Int) + 1 := by rw [IntKind.wrap_i64]; omega
                  have g4 : IntKind.i64.wrap ((i : Int) + (j : Int)) = (i : Int) + j := by rw [IntKind.wrap_i64]; omega
                  have g5 : ((i : Int) + (j : Int)).toNat = i + j := by omega
                  have c3 := hH.cell 3 rfl
                  obtain ⟨sb, rfl, hc, hfz, h1, h2⟩ := own_cell hS (i := i + j) (by omega)
                  have hxl : (i : Int) + (j : Int) < (r.st.length : Int) := by omega
                  have hcI : (r.st.length : Int) ≤ (sc : Int) := by omega
                  have hlen : i + j < (turned r.st i j 1).length := by rw [turned_len _ _ _ _ (by omega)]; omega
                  rw [nv_get _ _ hlen] at hc
                  generalize ((turned r.st i j 1)[i + j]'hlen).toNat = old at hc
                  have HT := Lib.hid (turned_succ r.st i j 1 (by omega))
                  have hsb : sb < w.heap.size := own_at HB.out.s rfl
                  have hnoG : g ≠ sb := fun e => HB.out.sg _ rfl e.symm
                  have hnoD : ∀ ad, da = some ad → ad.block ≠ sb := fun ad ha e => HB.out.ds ad _ ha rfl e
                  have hFsb : F sb := F3 _ rfl
                  clear hlen
                  go_wp2
                  go_roundw
                  case rel =>
                    have ks := Kept.set wr sb (i + j) (.int .i64 1)
                    refine ⟨j + 1, by push_cast; rfl, by omega, hH.other hnoG _ _, own_kept' hD ks (fun ad ha e => hnoD ad ha e), ?_, own_kept' hOj ks (fun ad ha e => by have := ownblk hOj ha; omega), hK.trans ks (fun k _ e => by rw [e]; exact hFsb)⟩
                    rw [HT.out, nv_set]
                    exact own_set hS (i + j) _
                  case measure => simp [intOf]; omega
                · obtain rfl : j = n := by omega
                  have d1 := hH.cell 1 rfl
                  have d1f := hH.free 1
                  have d2 := hH.cell 2 rfl
                  have d5f := hH.free 5
                  have d5 := hH.cell 5 rfl

                  have f2 : IntKind.i64.wrap ((i : Int) + (j : Int)) = (i : Int) + (j : Int) := by rw [IntKind.wrap_i64]; omega
                  have hgt : (r.sent : Int) < (i : Int) + (j : Int) := by omega
                  have k1 := Kept.set wr g 1 (.int .i64 ((i : Int) + (j : Int)))
                  have hH1 := hH.set 1 (.int .i64 ((i : Int) + (j : Int)))
                  have hD1 := own_kept' hD k1 (fun ad ha e => HB.out.dg ad ha e)
                  have hS1 := own_kept' hS k1 (fun ad ha e => HB.out.sg ad ha e)
                  have hO1 := own_kept' hOj k1 (fun ad ha e => by have := ownblk hOj ha; have := HB.out.has.lt; omega)
                  have hK1 := hK.trans k1 (fun k _ e => by rw [e]; exact F1)
                  have d2 := hH1.cell 2 rfl
                  have d5f := hH1.free 5
                  have d5 := hH1.cell 5 rfl
                  have hfin : ((i : Int) + (j : Int) == (r.data.length : Int)) = false := by rw [beq_eq_false_iff_ne]; omega
                  have HRES : Hid (RNexted F w g (r.outAt i j) (r.nextAt i j) (.returned (.tuple #[.int .i64 (i : Int), .slice ax j cx, .bool false, .bool true])) _) := Lib.hid (rn_some (s' := (i + j)) (e' := r.e) (by omega) (by omega) (by rw [HO.out]; simp; omega) (by omega) rfl hO1 hK1
                    (rat_mk (by omega) (by rw [show ((i + j : Nat) : Int) = (i : Int) + j by omega]; exact hH1) hD1 hS1 HB.out.dg HB.out.sg HB.out.ds F1 F2 F3))
                  clear hS hD hOj hK HB
                  go_wp2
                  refine bodyPost_ret (results_tmp4 rfl _ _ _) rfl ?_
                  exact HRES.out
        · as_aux_lemma =>
            have B := HB.out.below hB
            have c1 := B.has.cell 1 rfl
            have c2 := B.has.cell 2 rfl
            have c4 := B.has.cell 4 rfl
            have c5 := B.has.cell 5 rfl
            rw [e1] at c4

            have HO := Lib.hid e4
            have hS0 : wr.ownsRow 0 3 1 (.slice sa r.st.length sc) r.st.length (nv (turned r.st i 0 1)) := by rw [turned_zero]; exact B.s
            have hH0 := B.has
            have hD0 := B.d
            clear B c1 c2
            have hK0 : Kept F w wr := Kept.of_below hB
            clear e4 e1
            go_wp2_with fail
            go_loopw [15] (fun v wq => ∃ j : Nat, v = .int .i64 (j : Int) ∧ j ≤ n ∧ Has wq g 48 (rcells r da dc sa sc) ∧ wq.ownsRow 0 5 1 (.slice da r.data.length dc) r.data.length (bv r.data) ∧
              wq.ownsRow 0 3 1 (.slice sa r.st.length sc) r.st.length (nv (turned r.st i j 1)) ∧ wq.ownsRow w.heap.size 5 1 (.slice ax n cx) n (bv ((r.data.drop i).take n)) ∧ Kept F w wq) (fun v _ => n - (intOf v).toNat)
            case atStart => exact ⟨0, rfl, Nat.zero_le _, hH0, hD0, hS0, hO, hK0⟩
            case round =>
              obtain ⟨j, rfl, hj, hH, hD, hS, hOj, hK⟩ := hrel
              clear hH0 hD0 hS0 hO hK0 c4 c5 hB
              by_cases hjn : j < n
              · have hjn' : (j : Int) < (n : Int) := by omega
                have g2 : IntKind.i64.wrap ((j : Int) + 1) = (j : Int) + 1 := by rw [IntKind.wrap_i64]; omega
                have g4 : IntKind.i64.wrap ((i : Int) + (j : Int)) = (i : Int) + j := by rw [IntKind.wrap_i64]; omega
                have g5 : ((i : Int) + (j : Int)).toNat = i + j := by omega
                have c3 := hH.cell 3 rfl
                obtain ⟨sb, rfl, hc, hfz, h1, h2⟩ := own_cell hS (i := i + j) (by omega)
                have hxl : (i : Int) + (j : Int) < (r.st.length : Int) := by omega
                have hcI : (r.st.length : Int) ≤ (sc : Int) := by omega
                have hlen : i + j < (turned r.st i j 1).length := by rw [turned_len _ _ _ _ (by omega)]; omega
                rw [nv_get _ _ hlen] at hc
                generalize ((turned r.st i j 1)[i + j]'hlen).toNat = old at hc
                have HT := Lib.hid (turned_succ r.st i j 1 (by omega))
                have hsb : sb < w.heap.size := own_at HB.out.s rfl
                have hnoG : g ≠ sb := fun e => HB.out.sg _ rfl e.symm
                have hnoD : ∀ ad, da = some ad → ad.block ≠ sb := fun ad ha e => HB.out.ds ad _ ha rfl e
                have hFsb : F sb := F3 _ rfl
                clear hlen
                go_wp2
                go_roundw
                case rel =>
                  have ks := Kept.set wr sb (i + j) (.int .i64 1)
                  refine ⟨j + 1, by push_cast; rfl, by omega, hH.other hnoG _ _, own_kept' hD ks (fun ad ha e => hnoD ad ha e), ?_, own_kept' hOj ks (fun ad ha e => by have := ownblk hOj ha; omega), hK.trans ks (fun k _ e => by rw [e]; exact hFsb)⟩
                  rw [HT.out, nv_set]
                  exact own_set hS (i + j) _
                case measure => simp [intOf]; omega
              · obtain rfl : j = n := by omega
                have d1 := hH.cell 1 rfl
                have d1f := hH.free 1
                have d2 := hH.cell 2 rfl
                have d5f := hH.free 5
                have d5 := hH.cell 5 rfl

                have f2 : IntKind.i64.wrap ((i : Int) + (j : Int)) = (i : Int) + (j : Int) := by rw [IntKind.wrap_i64]; omega
                have hgt : (r.sent : Int) < (i : Int) + (j : Int) := by omega
                have k1 := Kept.set wr g 1 (.int .i64 ((i : Int) + (j : Int)))
                have hH1 := hH.set 1 (.int .i64 ((i : Int) + (j : Int)))
                have hD1 := own_kept' hD k1 (fun ad ha e => HB.out.dg ad ha e)
                have hS1 := own_kept' hS k1 (fun ad ha e => HB.out.sg ad ha e)
                have hO1 := own_kept' hOj k1 (fun ad ha e => by have := ownblk hOj ha; have := HB.out.has.lt; omega)
                have hK1 := hK.trans k1 (fun k _ e => by rw [e]; exact F1)
                have d2 := hH1.cell 2 rfl
                have d5f := hH1.free 5
                have d5 := hH1.cell 5 rfl
                have HRES : Hid (RNexted F w g (r.outAt i j) (r.nextAt i j) (.returned (.tuple #[.int .i64 (i : Int), .slice ax j cx, .bool false, .bool true])) _) := Lib.hid (rn_some (s' := (i + j)) (e' := r.e) (by omega) (by omega) (by rw [HO.out]; rfl) (by omega) rfl hO1 hK1
                  (rat_mk (by omega) (by rw [show ((i + j : Nat) : Int) = (i : Int) + j by omega]; exact hH1) hD1 hS1 HB.out.dg HB.out.sg HB.out.ds F1 F2 F3))
                clear hS hD hOj hK HB
                go_wp2
                refine bodyPost_ret (results_tmp4 rfl _ _ _) rfl ?_
                exact HRES.out
    have HKey := Lib.hid key
    clear key aK
    obtain ⟨j, ax, cx, rfl, rfl, hj, hO, hB⟩ := hrel
    have B := HB.out.below hB
    have c3 := B.has.cell 3 rfl
    have c2 := B.has.cell 2 rfl
    by_cases hjn : j < n
    · have g2 : IntKind.i64.wrap (((i + j : Nat) : Int) + 1) = ((i + (j + 1) : Nat) : Int) := by rw [IntKind.wrap_i64]; omega
      have hx1 : ((i + j : Nat) : Int) < (r.st.length : Int) := by omega
      have hx2 : ((i + j : Nat) : Int) < (r.data.length : Int) := by omega
      have hx3 : (j : Int) < most := by have := hmn (by omega); omega
      have hx4 : ((i + j : Nat) : Int) < limit := by have := hmn (by omega); omega
      obtain ⟨sb, rfl, hcs, _, s1, s2⟩ := own_cell B.s (i := i + j) (by omega)
      obtain ⟨db, rfl, hcd, _, s3, s4⟩ := own_cell B.d (i := i + j) (by omega)
      have hsI : (r.st.length : Int) ≤ (sc : Int) := by omega
      have hdI : (r.data.length : Int) ≤ (dc : Int) := by omega
      have hlt : i + j < r.st.length := by omega
      have hld : i + j < r.data.length := by omega
      rw [nv_get _ _ hlt] at hcs
      rw [bv_get _ _ hld] at hcd
      have hst := HAll.out j hjn
      rw [List.getElem?_eq_getElem hlt, Option.some.injEq] at hst
      rw [hst] at hcs
      have hcs : wr.cell? ⟨sb, i + j, none⟩ = some (.int .i64 0) := hcs
      have HTk : Hid ((r.data.drop i).take (j + 1) = (r.data.drop i).take j ++ [r.data[i + j]]) := Lib.hid (by
        rw [take_snoc _ j (by rw [List.length_drop]; omega)]
        congr 2
        rw [List.getElem_drop])
      clear hst
      generalize r.data[i + j] = y at hcd HTk
      have hal2 : Below wr.heap.size wr (wr.alloc (.cells #[.int .u8 (y.toNat : Int)] 5)) := (Below.refl _ _).alloc (Nat.le_refl _) _
      have hs1 := sl_one wr 5 (.int .u8 (y.toNat : Int))
      obtain ⟨a4, c4', w4, hr4, ho4, hg4, hno4⟩ := run_app_own (tyo := 27) tyU8 (B := w.heap.size) (own_below hO hal2) hs1 (bv_one [y]) (by omega) (by unfold maxLen; omega) (by have := hB.size; simp; omega)
      have hb4 : Below w.heap.size w w4 := (hB.trans (hal2.mono hB.size)).grown hg4 (by have := hB.size; simp; omega) (fun k hk => by
        cases ax with
        | none => cases hk
        | some x => simp only [Value.ownBlock, Option.some.injEq] at hk; have := ownblk hO rfl; omega)
      clear B hs1 hg4 hno4 hal2
      go_wp2_with (at_builtin; refine Lib.wpList_append_run _ rfl _ _ _ _ rfl (.slice ax j cx) (.slice (some ⟨wr.heap.size, 0, none⟩) 1 1) rfl rfl _ _ hr4 ?_)
      go_roundw
      case rel => exact ⟨j + 1, a4, c4', by rfl, rfl, by omega, by rw [HTk.out, bv_append]; exact ho4, hb4⟩
      case measure => simp [intOf]; omega
    · obtain rfl : j = n := by omega
      by_cases hE1 : i + j < r.st.length
      · have hx1 : ((i + j : Nat) : Int) < (r.st.length : Int) := by omega
        obtain ⟨sb, rfl, hcs, _, s1, s2⟩ := own_cell B.s hE1
        rw [nv_get _ _ hE1] at hcs
        have hsI : (r.st.length : Int) ≤ (sc : Int) := by omega
        by_cases hE2 : r.st[i + j] = 0
        · rw [hE2] at hcs
          have hcs : wr.cell? ⟨sb, i + j, none⟩ = some (.int .i64 0) := hcs
          have hge : ¬ j < (min most (limit - i)).toNat := fun h => HStop.out h (by rw [List.getElem?_eq_getElem hE1, hE2])
          clear B hE2
          by_cases hE3 : (j : Int) < most
          · have hx4 : ¬ ((i + j : Nat) : Int) < limit := by omega
            go_wp2
            exact HKey.out _ _ _ _ _ _ _ _ _ _ _ _ _ _ _ _ _ _ _ _ _ _ _ _ _ _ _ _ _ _ _ _ _ _ _ _ _ _ _ _ _ _ _ _ _ _ _ _ _ _ _ _ _ _ _ _ _ _ _ _ _ _ _ _ _ _ _ _ _ _ _ _ _ _ _ _ _ _ _ _ _ _ _ _ _ _ _ _ _ _ _ _ _ _ _ _ _ _ _ _ _ _ _ _ _ _ _ _ _ _ _ _ _ _ _ _ _ _ _ _ _ _ _ _ _ _ _ _ _ _ _ _ _ _ _ _ _ _ _ _ _ _ _ _ _ _ _ _ _ _ _ _ _ _ _ wr ax cx hO hB
          · go_wp2
            exact HKey.out _ _ _ _ _ _ _ _ _ _ _ _ _ _ _ _ _ _ _ _ _ _ _ _ _ _ _ _ _ _ _ _ _ _ _ _ _ _ _ _ _ _ _ _ _ _ _ _ _ _ _ _ _ _ _ _ _ _ _ _ _ _ _ _ _ _ _ _ _ _ _ _ _ _ _ _ _ _ _ _ _ _ _ _ _ _ _ _ _ _ _ _ _ _ _ _ _ _ _ _ _ _ _ _ _ _ _ _ _ _ _ _ _ _ _ _ _ _ _ _ _ _ _ _ _ _ _ _ _ _ _ _ _ _ _ _ _ _ _ _ _ _ _ _ _ _ _ _ _ _ _ _ _ _ _ wr ax cx hO hB
        · have hE2' : (((r.st[i + j]).toNat : Int) == 0) = false := by
            rw [beq_eq_false_iff_ne]
            intro h
            exact hE2 (UInt8.toNat_inj.1 (by have : (0 : UInt8).toNat = 0 := rfl; omega))
          generalize ((r.st[i + j]).toNat : Int) = y at hcs hE2'
          clear B hE2
          go_wp2
          exact HKey.out _ _ _ _ _ _ _ _ _ _ _ _ _ _ _ _ _ _ _ _ _ _ _ _ _ _ _ _ _ _ _ _ _ _ _ _ _ _ _ _ _ _ _ _ _ _ _ _ _ _ _ _ _ _ _ _ _ _ _ _ _ _ _ _ _ _ _ _ _ _ _ _ _ _ _ _ _ _ _ _ _ _ _ _ _ _ _ _ _ _ _ _ _ _ _ _ _ _ _ _ _ _ _ _ _ _ _ _ _ _ _ _ _ _ _ _ _ _ _ _ _ _ _ _ _ _ _ _ _ _ _ _ _ _ _ _ _ _ _ _ _ _ _ _ _ _ _ _ _ _ _ _ _ _ _ wr ax cx hO hB
      · have hx1 : ¬ ((i + j : Nat) : Int) < (r.st.length : Int) := by omega
        clear B
        go_wp2
        exact HKey.out _ _ _ _ _ _ _ _ _ _ _ _ _ _ _ _ _ _ _ _ _ _ _ _ _ _ _ _ _ _ _ _ _ _ _ _ _ _ _ _ _ _ _ _ _ _ _ _ _ _ _ _ _ _ _ _ _ _ _ _ _ _ _ _ _ _ _ _ _ _ _ _ _ _ _ _ _ _ _ _ _ _ _ _ _ _ _ _ _ _ _ _ _ _ _ _ _ _ _ _ _ _ _ _ _ _ _ _ _ _ _ _ _ _ _ _ _ _ _ _ _ _ _ _ _ _ _ _ _ _ _ _ _ _ _ _ _ _ _ _ _ _ _ _ _ _ _ _ _ _ _ _ _ _ _ wr ax cx hO hB

set_option maxRecDepth 100000 in
set_option maxHeartbeats 8000000 in
theorem rnext_no (w : World) {F : Nat → Prop} {g : Nat} {r : Qu} (h : RAt F w g r) (hq : r.ROk) (most limit : Int) (h2 : Lib.indexByte r.st 2 = -1) (h0 : Lib.indexByte r.st 0 = -1) :
    Calls Try.prog 34 #[.pointer (some ⟨g, 0, none⟩), .int .i64 most, .int .i64 limit] w (RNexted F w g (r.outAt 0 0) (r.nextAt 0 0)) := by
  have hstl : r.st.length ≤ 8796093022208 := by rw [hq.len]; exact hq.most
  have hlen := hq.len
  have HR := Lib.hid h
  have HF2 : Hid (∀ w', Below w.heap.size w w' → Calls Try.prog 40 #[.pointer (some ⟨g, 0, none⟩), .int .i64 2] w' (IntOf w' (-1))) := Lib.hid (fun w' hb => by
    have := rfirst_any w' (h.below hb) (by omega) 2
    rwa [h2] at this)
  have HF0 : Hid (∀ w', Below w.heap.size w w' → Calls Try.prog 40 #[.pointer (some ⟨g, 0, none⟩), .int .i64 0] w' (IntOf w' (-1))) := Lib.hid (fun w' hb => by
    have := rfirst_any w' (h.below hb) (by omega) 0
    rwa [h0] at this)
  obtain ⟨da, dc, sa, sc, hb, F1, F2, F3⟩ := h
  have HB := Lib.hid hb
  clear hb h2 h0
  go_enter Try.func34, Try.ntmps34
  go_wp2_with fail
  refine (HF2.out w (Below.refl _ _)).mono ?_
  rintro e w1 ⟨rfl, hb1⟩
  go_wp2_with fail
  refine (HF0.out w1 hb1).mono ?_
  rintro e w2 ⟨rfl, hb2⟩
  have hb1 := hb1.trans (hb2.mono hb1.size)
  obtain ⟨wr, hwr⟩ : ∃ wr, wr = w2 := ⟨_, rfl⟩
  have hB : Below w.heap.size w wr := by rw [hwr]; exact hb1
  rw [← hwr]
  have hO : wr.ownsRow w.heap.size 5 1 (.slice none 0 0) 0 [] := World.ownsRow_nil _ _ _ _
  clear hwr
  rcases opens_cases r with ⟨e1, e4⟩ | ⟨e1, e2, e4⟩ | ⟨e1, e2, e3, e4⟩ | ⟨e1, e2, e3, e4⟩
  · as_aux_lemma =>
      have B := HB.out.below hB
      have c1 := B.has.cell 1 rfl
      have c2 := B.has.cell 2 rfl
      have c4 := B.has.cell 4 rfl
      have c5 := B.has.cell 5 rfl
      rw [e1] at c4

      clear B
      have HO := Lib.hid e4
      clear e4 e1
      go_wp2_with fail

      refine Mx.region [] (fun _ => True) (by kernel_rfl) (by kernel_rfl) trivial ?_
      repeat ((first | (refine Mx.skips (by kernel_rfl) ?_; go_big_quiet_skip) | (refine Mx.quietly rfl ?_; go_big_quiet_want; go_big_quiet_op; go_big_quiet_on)); refine Mx.done ?_)
      refine Mx.nil ?_

      go_wp2
      refine bodyPost_ret (results_tmp4 rfl _ _ _) rfl ?_
      exact rn_none 0 (.inl HO.out) ((Kept.of_below hB).trans (Kept.drew F _) (fun _ _ h => h)) (HR.out.below (below_drewN hB 1))
  · by_cases hse : r.sent = r.data.length
    · as_aux_lemma =>
        have B := HB.out.below hB
        have c1 := B.has.cell 1 rfl
        have c2 := B.has.cell 2 rfl
        have c4 := B.has.cell 4 rfl
        have c5 := B.has.cell 5 rfl
        rw [e1] at c4

        have c5f := B.has.free 5
        have HO := Lib.hid e4
        have HSE := Lib.hid hse
        have hnn : ((r.sent : Int) != (r.data.length : Int)) = false := by rw [hse]; simp
        have hgt : ¬ (r.sent : Int) < (r.data.length : Int) := by omega
        have kd := Kept.drew none' wr
        have B2 := B.kept kd (fun h => h) (fun _ _ h => h) (fun _ _ h => h)
        have r1 := B2.has.cell 1 rfl
        have r2 := B2.has.cell 2 rfl
        have r5 := B2.has.cell 5 rfl
        have r5f := B2.has.free 5
        have ks := Kept.set wr.drew g 5 (.int .i64 1)
        have hO2 := (own_kept' (own_kept' hO kd (fun _ _ h => h)) ks (fun ad ha e => by have := (ownblk hO ha); have := HB.out.has.lt; omega))
        have HKK : Hid (Kept F w (wr.drew.setCell ⟨g, 5, none⟩ (.int .i64 1))) := Lib.hid (((Kept.of_below hB).trans kd (fun _ _ h => h.elim)).trans ks (fun _ _ e => by rw [e]; exact F1))
        have HRR : Hid (RAt F (wr.drew.setCell ⟨g, 5, none⟩ (.int .i64 1)) g { r with e := 1 }) := Lib.hid ⟨da, dc, sa, sc, ⟨B2.has.set 5 _, own_kept' B2.d ks (fun ad ha e => B2.dg ad ha e), own_kept' B2.s ks (fun ad ha e => B2.sg ad ha e), B2.dg, B2.sg, B2.ds⟩, F1, F2, F3⟩
        have HO2 := Lib.hid hO2
        clear B B2 hO hO2 hse e4 e1
        go_wp2_with fail

        refine Mx.region [] (fun w' => w'.cell? ⟨g, 1, none⟩ = some (.int .i64 (r.sent : Int)) ∧ w'.cell? ⟨g, 2, none⟩ = some (.slice da r.data.length dc)) (by kernel_rfl) (by kernel_rfl) ⟨c1, c2⟩ ?_
        repeat ((first | (refine Mx.skips (by kernel_rfl) ?_; go_big_quiet_skip) | (refine Mx.quietly rfl ?_; go_big_quiet_want; go_big_quiet_op; go_big_quiet_on)); refine Mx.done ?_)
        refine Mx.cell ⟨g, 1, none⟩ (.int .i64 (r.sent : Int)) (by kernel_rfl) (by kernel_rfl) (by kernel_rfl) Try.isAgg3 (fun w' h => h.1) ?_
        go_big_quiet_want; go_big_quiet_op; go_big_quiet_on; refine Mx.done ?_
        repeat ((first | (refine Mx.skips (by kernel_rfl) ?_; go_big_quiet_skip) | (refine Mx.quietly rfl ?_; go_big_quiet_want; go_big_quiet_op; go_big_quiet_on)); refine Mx.done ?_)
        refine Mx.cell ⟨g, 2, none⟩ (.slice da r.data.length dc) (by kernel_rfl) (by kernel_rfl) (by kernel_rfl) Try.isAgg27 (fun w' h => h.2) ?_
        go_big_quiet_want; go_big_quiet_op; go_big_quiet_on; refine Mx.done ?_
        repeat ((first | (refine Mx.skips (by kernel_rfl) ?_; go_big_quiet_skip) | (refine Mx.quietly rfl ?_; go_big_quiet_want; go_big_quiet_op; go_big_quiet_on)); refine Mx.done ?_)
        refine Mx.nil ?_

        go_wp2_with fail
        refine wp_loop_once ?_
        go_wp2_with fail
        refine bodyPost_ret (results_tmp4 rfl _ _ _) rfl ?_
        exact rn_end 0 HO.out HSE.out HO2.out HKK.out HRR.out
    · as_aux_lemma =>
        have B := HB.out.below hB
        have c1 := B.has.cell 1 rfl
        have c2 := B.has.cell 2 rfl
        have c4 := B.has.cell 4 rfl
        have c5 := B.has.cell 5 rfl
        rw [e1] at c4

        clear B
        have HSE := Lib.hid hse
        have hnn : ((r.sent : Int) != (r.data.length : Int)) = true := by rw [bne_iff_ne]; omega
        clear e4 e1 hse
        go_wp2_with fail

        refine Mx.region [] (fun w' => w'.cell? ⟨g, 1, none⟩ = some (.int .i64 (r.sent : Int)) ∧ w'.cell? ⟨g, 2, none⟩ = some (.slice da r.data.length dc)) (by kernel_rfl) (by kernel_rfl) ⟨c1, c2⟩ ?_
        repeat ((first | (refine Mx.skips (by kernel_rfl) ?_; go_big_quiet_skip) | (refine Mx.quietly rfl ?_; go_big_quiet_want; go_big_quiet_op; go_big_quiet_on)); refine Mx.done ?_)
        refine Mx.cell ⟨g, 1, none⟩ (.int .i64 (r.sent : Int)) (by kernel_rfl) (by kernel_rfl) (by kernel_rfl) Try.isAgg3 (fun w' h => h.1) ?_
        go_big_quiet_want; go_big_quiet_op; go_big_quiet_on; refine Mx.done ?_
        repeat ((first | (refine Mx.skips (by kernel_rfl) ?_; go_big_quiet_skip) | (refine Mx.quietly rfl ?_; go_big_quiet_want; go_big_quiet_op; go_big_quiet_on)); refine Mx.done ?_)
        refine Mx.cell ⟨g, 2, none⟩ (.slice da r.data.length dc) (by kernel_rfl) (by kernel_rfl) (by kernel_rfl) Try.isAgg27 (fun w' h => h.2) ?_
        go_big_quiet_want; go_big_quiet_op; go_big_quiet_on; refine Mx.done ?_
        repeat ((first | (refine Mx.skips (by kernel_rfl) ?_; go_big_quiet_skip) | (refine Mx.quietly rfl ?_; go_big_quiet_want; go_big_quiet_op; go_big_quiet_on)); refine Mx.done ?_)
        refine Mx.nil ?_

        go_wp2
        refine bodyPost_ret (results_tmp4 rfl _ _ _) rfl ?_
        exact rn_none 0 (.inr HSE.out) ((Kept.of_below hB).trans (Kept.drew F _) (fun _ _ h => h)) (HR.out.below (below_drewN hB 1))
  · by_cases hse : r.sent = r.data.length
    · as_aux_lemma =>
        have B := HB.out.below hB
        have c1 := B.has.cell 1 rfl
        have c2 := B.has.cell 2 rfl
        have c4 := B.has.cell 4 rfl
        have c5 := B.has.cell 5 rfl
        rw [e1] at c4

        have c5f := B.has.free 5
        have HO := Lib.hid e4
        have HSE := Lib.hid hse
        have hnn : ((r.sent : Int) != (r.data.length : Int)) = false := by rw [hse]; simp
        have hgt : ¬ (r.sent : Int) < (r.data.length : Int) := by omega
        have kd := Kept.drew none' wr
        have B2 := B.kept kd (fun h => h) (fun _ _ h => h) (fun _ _ h => h)
        have r1 := B2.has.cell 1 rfl
        have r2 := B2.has.cell 2 rfl
        have r5 := B2.has.cell 5 rfl
        have r5f := B2.has.free 5
        have ks := Kept.set wr.drew g 5 (.int .i64 1)
        have hO2 := (own_kept' (own_kept' hO kd (fun _ _ h => h)) ks (fun ad ha e => by have := (ownblk hO ha); have := HB.out.has.lt; omega))
        have HKK : Hid (Kept F w (wr.drew.setCell ⟨g, 5, none⟩ (.int .i64 1))) := Lib.hid (((Kept.of_below hB).trans kd (fun _ _ h => h.elim)).trans ks (fun _ _ e => by rw [e]; exact F1))
        have HRR : Hid (RAt F (wr.drew.setCell ⟨g, 5, none⟩ (.int .i64 1)) g { r with e := 1 }) := Lib.hid ⟨da, dc, sa, sc, ⟨B2.has.set 5 _, own_kept' B2.d ks (fun ad ha e => B2.dg ad ha e), own_kept' B2.s ks (fun ad ha e => B2.sg ad ha e), B2.dg, B2.sg, B2.ds⟩, F1, F2, F3⟩
        have HO2 := Lib.hid hO2
        clear B B2 hO hO2 hse e4 e1
        go_wp2_with fail

        refine Mx.region [] (fun w' => w'.cell? ⟨g, 1, none⟩ = some (.int .i64 (r.sent : Int)) ∧ w'.cell? ⟨g, 2, none⟩ = some (.slice da r.data.length dc)) (by kernel_rfl) (by kernel_rfl) ⟨c1, c2⟩ ?_
        repeat ((first | (refine Mx.skips (by kernel_rfl) ?_; go_big_quiet_skip) | (refine Mx.quietly rfl ?_; go_big_quiet_want; go_big_quiet_op; go_big_quiet_on)); refine Mx.done ?_)
        refine Mx.cell ⟨g, 1, none⟩ (.int .i64 (r.sent : Int)) (by kernel_rfl) (by kernel_rfl) (by kernel_rfl) Try.isAgg3 (fun w' h => h.1) ?_
        go_big_quiet_want; go_big_quiet_op; go_big_quiet_on; refine Mx.done ?_
        repeat ((first | (refine Mx.skips (by kernel_rfl) ?_; go_big_quiet_skip) | (refine Mx.quietly rfl ?_; go_big_quiet_want; go_big_quiet_op; go_big_quiet_on)); refine Mx.done ?_)
        refine Mx.cell ⟨g, 2, none⟩ (.slice da r.data.length dc) (by kernel_rfl) (by kernel_rfl) (by kernel_rfl) Try.isAgg27 (fun w' h => h.2) ?_
        go_big_quiet_want; go_big_quiet_op; go_big_quiet_on; refine Mx.done ?_
        repeat ((first | (refine Mx.skips (by kernel_rfl) ?_; go_big_quiet_skip) | (refine Mx.quietly rfl ?_; go_big_quiet_want; go_big_quiet_op; go_big_quiet_on)); refine Mx.done ?_)
        refine Mx.nil ?_

        go_wp2_with fail
        refine wp_loop_once ?_
        go_wp2_with fail
        refine bodyPost_ret (results_tmp4 rfl _ _ _) rfl ?_
        exact rn_end 0 HO.out HSE.out HO2.out HKK.out HRR.out
    · as_aux_lemma =>
        have B := HB.out.below hB
        have c1 := B.has.cell 1 rfl
        have c2 := B.has.cell 2 rfl
        have c4 := B.has.cell 4 rfl
        have c5 := B.has.cell 5 rfl
        rw [e1] at c4

        clear B
        have HSE := Lib.hid hse
        have hnn : ((r.sent : Int) != (r.data.length : Int)) = true := by rw [bne_iff_ne]; omega
        clear e4 e1 hse
        go_wp2_with fail

        refine Mx.region [] (fun w' => w'.cell? ⟨g, 1, none⟩ = some (.int .i64 (r.sent : Int)) ∧ w'.cell? ⟨g, 2, none⟩ = some (.slice da r.data.length dc)) (by kernel_rfl) (by kernel_rfl) ⟨c1, c2⟩ ?_
        repeat ((first | (refine Mx.skips (by kernel_rfl) ?_; go_big_quiet_skip) | (refine Mx.quietly rfl ?_; go_big_quiet_want; go_big_quiet_op; go_big_quiet_on)); refine Mx.done ?_)
        refine Mx.cell ⟨g, 1, none⟩ (.int .i64 (r.sent : Int)) (by kernel_rfl) (by kernel_rfl) (by kernel_rfl) Try.isAgg3 (fun w' h => h.1) ?_
        go_big_quiet_want; go_big_quiet_op; go_big_quiet_on; refine Mx.done ?_
        repeat ((first | (refine Mx.skips (by kernel_rfl) ?_; go_big_quiet_skip) | (refine Mx.quietly rfl ?_; go_big_quiet_want; go_big_quiet_op; go_big_quiet_on)); refine Mx.done ?_)
        refine Mx.cell ⟨g, 2, none⟩ (.slice da r.data.length dc) (by kernel_rfl) (by kernel_rfl) (by kernel_rfl) Try.isAgg27 (fun w' h => h.2) ?_
        go_big_quiet_want; go_big_quiet_op; go_big_quiet_on; refine Mx.done ?_
        repeat ((first | (refine Mx.skips (by kernel_rfl) ?_; go_big_quiet_skip) | (refine Mx.quietly rfl ?_; go_big_quiet_want; go_big_quiet_op; go_big_quiet_on)); refine Mx.done ?_)
        refine Mx.nil ?_

        go_wp2
        refine bodyPost_ret (results_tmp4 rfl _ _ _) rfl ?_
        exact rn_none 0 (.inr HSE.out) ((Kept.of_below hB).trans (Kept.drew F _) (fun _ _ h => h)) (HR.out.below (below_drewN hB 1))
  · as_aux_lemma =>
      have B := HB.out.below hB
      have c1 := B.has.cell 1 rfl
      have c2 := B.has.cell 2 rfl
      have c4 := B.has.cell 4 rfl
      have c5 := B.has.cell 5 rfl
      rw [e1] at c4

      clear B
      have HO := Lib.hid e4
      clear e4 e1
      go_wp2_with fail

      refine Mx.region [] (fun _ => True) (by kernel_rfl) (by kernel_rfl) trivial ?_
      repeat ((first | (refine Mx.skips (by kernel_rfl) ?_; go_big_quiet_skip) | (refine Mx.quietly rfl ?_; go_big_quiet_want; go_big_quiet_op; go_big_quiet_on)); refine Mx.done ?_)
      refine Mx.nil ?_

      go_wp2
      refine bodyPost_ret (results_tmp4 rfl _ _ _) rfl ?_
      exact rn_none 0 (.inl HO.out) ((Kept.of_below hB).trans (Kept.drew F _) (fun _ _ h => h)) (HR.out.below (below_drewN hB 1))

end Go.Proofs.Ytkjclgpecppokaa

/- Loss detection: contracts of Ack. -/
import Derived.Deep.DeepCutAuto
import Derived.Test.YtkpeegcpicckjaaLsDrop
import Derived.Test.YtkpeegcpicckjaaLsSample2
namespace Go.Proofs.Ytkpeegcpicckjaa
open Go.RowKit

theorem rsGo_le (high : Int) : ∀ (l : List Sn) (last z : Int), rsGo high l last = some z → (∀ x ∈ l, x.to_ ≤ high) ∧ (l ≠ [] → l.getLast?.map (·.to_) = some z)
  | [], _, _, _ => ⟨by simp, fun h => absurd rfl h⟩
  | x :: r, last, z, h => by
    unfold rsGo at h
    split at h
    · cases h
    · rename_i hc
      obtain ⟨h1, h2⟩ := rsGo_le high r x.to_ z h
      refine ⟨fun y hy => ?_, fun _ => ?_⟩
      · rcases List.mem_cons.1 hy with rfl | hy
        · omega
        · exact h1 y hy
      · cases r with
        | nil =>
          simp only [rsGo, Option.some.injEq] at h
          simp [h]
        | cons y r => rw [List.getLast?_cons_cons]; exact h2 (by simp)
theorem rightS_is {l : List Sn} {high : Int} (h : rightS l high = true) : 0 < l.length ∧ l.length ≤ 64 ∧ (∀ x ∈ l, x.to_ ≤ high) ∧ ∃ e, l[l.length - 1]?.map (·.to_) = some e ∧ 0 < e := by
  unfold rightS at h
  split at h
  · cases h
  · rename_i z hz
    simp only [Bool.and_eq_true, decide_eq_true_eq] at h
    obtain ⟨h1, h2⟩ := rsGo_le high l _ z hz
    refine ⟨h.1.1, h.1.2, h1, z, ?_, h.2⟩
    have := h2 (by intro hn; rw [hn] at h; simp at h)
    rwa [List.getLast?_eq_getElem?] at this
def askOf (l : List Sn) (p : Pk) : Bool := l.any (inB p)

def smp (L : Lo) (latest cut : Int) : Lo := if L.sampled then L.sample2 latest cut else L.sample1 latest
set_option maxRecDepth 100000 in
theorem smp_any (w : World) {F : Nat → Prop} {g : Nat} {L : Lo} (hL : LAt F w g L) (latest cut : Int) (h1 : 0 ≤ latest ∧ latest ≤ 1099511627776) (h2 : 0 ≤ cut ∧ cut ≤ 16383)
    (b1 : 0 ≤ L.least ∧ L.least ≤ 1099511627776) (b2 : 0 ≤ L.smooth ∧ L.smooth ≤ 1099511627776) (b3 : 0 ≤ L.vary ∧ L.vary ≤ 1099511627776) :
    Calls Try.prog 32 #[.pointer (some ⟨g, 0, none⟩), .int .i64 latest, .int .i64 cut] w (Done0 F w g (smp L latest cut)) := by
  unfold smp
  cases hs : L.sampled
  · exact sample_new w hL latest cut h1 hs
  · exact sample_old w hL latest cut h1 h2 hs b1 b2 b3
def growAll (L : Lo) (G : List Pk) : Lo := G.foldl Lo.grown L
theorem growAll_snoc (L : Lo) (G : List Pk) (p : Pk) : growAll L (G ++ [p]) = (growAll L G).grown p := by simp [growAll]
def Lo.acked0 (L : Lo) (en : Int) : Lo := { L with s0 := { L.s0 with acked := if L.s0.acked < en then en else L.s0.acked } }
def Lo.a02 (L : Lo) (l : List Sn) (now en : Int) : Lo := ((L.at' now).cut0 (askOf l)).acked0 en
def Lo.acked1 (L : Lo) (en : Int) : Lo := { L with s1 := { L.s1 with acked := if L.s1.acked < en then en else L.s1.acked } }
def Lo.a12 (L : Lo) (l : List Sn) (now en : Int) : Lo := ((L.at' now).cut1 (askOf l)).acked1 en
def Lo.acked2 (L : Lo) (en : Int) : Lo := { L with s2 := { L.s2 with acked := if L.s2.acked < en then en else L.s2.acked } }
def Lo.a22 (L : Lo) (l : List Sn) (now en : Int) : Lo := ((L.at' now).cut2 (askOf l)).acked2 en
set_option maxRecDepth 100000 in
set_option maxHeartbeats 4000000 in
theorem ack_none0 (w : World) {F : Nat → Prop} {g : Nat} {L : Lo} (hL : LAt F w g L) (hq : LoB L) {B : Nat} {a : Option Addr} {c : Nat} {l : List Sn} (hS : Sps w B a c l) (delay now : Int) (ht : L.now ≤ now ∧ now ≤ 1099511627776) (hr : rightS l L.s0.high = true) (hd : 0 ≤ delay ∧ delay ≤ 4611686018427387903)
    (hgot : L.s0.out.filter (askOf l) = []) (hsg : ∀ ad, a = some ad → ad.block ≠ g) :
    Calls Try.prog 15 #[.pointer (some ⟨g, 0, none⟩), .int .i64 0, .slice a l.length c, .int .i64 delay, .int .i64 now] w fun e w' => e = .returned (.tuple #[.slice none 0 0, .slice none 0 0, .int .i64 0]) ∧ Kept (fun k => k = g) w w' ∧ LAt (Fat F w w') w' g ((L.at' now).cut0 (askOf l)) := by
  obtain ⟨hl0, hl64, _, _, _⟩ := rightS_is hr
  have hgz := hL.lt
  have hFg := hL.fg
  have HSpc : Hid (∀ w', Calls Try.prog 21 #[.int .i64 0] w' fun e w'' => e = .returned (.bool true) ∧ w' = w'') := Lib.hid (fun w' => rightSpace_any w' 0)
  have halw : Below w.heap.size w (w.alloc (.cells #[.slice a l.length c] 40)) := (Below.refl _ _).alloc (Nat.le_refl _) _
  have Hbx : Has (w.alloc (.cells #[.slice a l.length c] 40)) w.heap.size 40 [.slice a l.length c] := Has.new _ _ _
  obtain ⟨wa, hwa⟩ : ∃ wa, wa = w.alloc (.cells #[.slice a l.length c] 40) := ⟨_, rfl⟩
  rw [← hwa] at halw Hbx
  have La := hL.below halw
  have Sa : Sps wa B a c l := own_below hS halw
  have HT := Lib.hid (rightTime_any wa La now)
  rw [decide_eq_true ht] at HT
  have HRs := Lib.hid (fun w' (hb : Below wa.heap.size wa w') => rightSpans_any w' (own_below Sa hb : Sps w' B a c l) (by omega) L.s0.high hq.b0.high)
  rw [hr] at HRs
  have bx := Hbx.cell 0 rfl
  have hhigh : wa.cell? ⟨g, 2, none⟩ = some (.int .i64 L.s0.high) := (La.cell 2 (fun _ _ _ _ _ _ => rfl)).1
  obtain ⟨c16, f16⟩ := La.cell 16 (v := .int .i64 L.now) (fun _ _ _ _ _ _ => rfl)
  have d1 : ¬ delay < 0 := by omega
  have d2 : ¬ 4611686018427387903 < delay := by omega
  have nbx : ¬ w.heap.size = g := by omega
  have hSg : ∀ ad, a = some ad → ¬ ad.block = g := hsg
  obtain ⟨G, hG⟩ : ∃ G, G = L.s0.out.filter (askOf l) := ⟨_, rfl⟩
  have HSp : Hid (∀ w4, Below wa.heap.size wa w4 → Calls Try.prog 26 #[.pointer (some ⟨g, 1, none⟩), .func (.func 27) #[] #[.pointer (some ⟨w.heap.size, 0, none⟩)]] (w4.setCell ⟨g, 16, none⟩ (.int .i64 now)) fun e w' => ∃ a c, e = .returned (.slice a G.length c) ∧ Yes w' w4.heap.size a c G ∧ Kept (fun k => k = g) w4 w' ∧ LAt (Fat F w4 w') w' g ((L.at' now).cut0 (askOf l)) ∧ (∀ ad, a = some ad → ad.block < w'.heap.size)) := Lib.hid (fun w4 hb => by
    have z : (w4.setCell ⟨g, 16, none⟩ (.int .i64 now)).heap.size = w4.heap.size := by simp [World.setCell]
    have ks := Kept.set w4 g 16 (.int .i64 now)
    have := split_A0 (w4.setCell ⟨g, 16, none⟩ (.int .i64 now)) (((La.below hb).set (L' := L.at' now) 16 (.int .i64 now) rfl rfl rfl (fun _ _ _ _ _ _ => rfl)).2) hq.b0.len (askOf l) w.heap.size (fun w' p hb' _ => by
      have S5 : Sps w' B a c l := own_below (own_kept' (own_below Sa hb) ks hSg) hb'
      have B5 := (((Hbx.kept (Kept.of_below (X := none') hb) (fun h => h)).kept ks nbx).kept (Kept.of_below (X := none') hb') (fun h => h)).cell 0 rfl
      exact got_any w' S5 (by omega) p w.heap.size B5)
    refine this.mono ?_
    rintro e w' ⟨a, c, h1, h2, h3, h4, h5⟩
    have e0 : (L.at' now).s0.out.filter (askOf l) = G := hG.symm
    rw [e0] at h1 h2
    rw [z] at h2
    exact ⟨a, c, h1, h2, ks.trans h3 (fun _ _ e => e), h4.more (fun k hk _ => hk.elim .inl (fun h => .inr ⟨by omega, h.2⟩)), h5⟩)
  have HLa := Lib.hid La
  have HSa := Lib.hid Sa
  have HBx := Lib.hid Hbx
  have HQ := Lib.hid hq
  have HWA := Lib.hid hwa
  clear hL ht hr hd La Sa Hbx hq hS
  rw [hgot] at hG
  subst hG
  clear hgot
  go_enter Try.func15, Try.ntmps15
  go_wp2_with fail
  rw [← hwa]
  clear hwa
  refine (HSpc.out wa).mono ?_
  rintro e w2 ⟨rfl, rfl⟩
  go_wp2_with fail
  refine HT.out.mono ?_
  rintro e w3 ⟨rfl, rfl⟩
  go_wp2_with fail
  have bxd : wa.drew.cell? ⟨w.heap.size, 0, none⟩ = some (.slice a l.length c) := bx
  have hid : wa.drew.cell? ⟨g, 2, none⟩ = some (.int .i64 L.s0.high) := hhigh
  have hd1 : Below wa.heap.size wa wa.drew := below_drewN (Below.refl _ wa) 1
  refine Mx.region [] (fun w' => w'.cell? ⟨w.heap.size, 0, none⟩ = some (.slice a l.length c) ∧ w'.cell? ⟨g, 2, none⟩ = some (.int .i64 L.s0.high)) (by kernel_rfl) (by kernel_rfl) ⟨bxd, hid⟩ ?_
  repeat ((first | (refine Mx.skips (by kernel_rfl) ?_; go_big_quiet_skip) | (refine Mx.quietly rfl ?_; go_big_quiet_want; go_big_quiet_op; go_big_quiet_on)); refine Mx.done ?_)
  refine Mx.cell ⟨w.heap.size, 0, none⟩ (.slice a l.length c) (by kernel_rfl) (by kernel_rfl) (by kernel_rfl) Try.isAgg40 (fun w' h => h.1) ?_
  go_big_quiet_want; go_big_quiet_op; go_big_quiet_on; refine Mx.done ?_
  repeat ((first | (refine Mx.skips (by kernel_rfl) ?_; go_big_quiet_skip) | (refine Mx.quietly rfl ?_; go_big_quiet_want; go_big_quiet_op; go_big_quiet_on)); refine Mx.done ?_)
  refine Mx.cell ⟨g, 2, none⟩ (.int .i64 L.s0.high) (by kernel_rfl) (by kernel_rfl) (by kernel_rfl) Try.isAgg3 (fun w' h => h.2) ?_
  go_big_quiet_want; go_big_quiet_op; go_big_quiet_on; refine Mx.done ?_
  repeat ((first | (refine Mx.skips (by kernel_rfl) ?_; go_big_quiet_skip) | (refine Mx.quietly rfl ?_; go_big_quiet_want; go_big_quiet_op; go_big_quiet_on)); refine Mx.done ?_)
  refine Mx.loudly (by kernel_rfl) (by kernel_rfl) ?_
  go_wp2_with fail
  refine (HRs.out _ hd1).mono ?_
  rintro e w4 ⟨rfl, hb4⟩
  have b4 := hd1.trans hb4
  have bx4 : w4.cell? ⟨w.heap.size, 0, none⟩ = some (.slice a l.length c) := (b4.cell (World.block_lt_of_cell? _ _ bx)).trans bx
  have hi4 : w4.cell? ⟨g, 2, none⟩ = some (.int .i64 L.s0.high) := (b4.cell (World.block_lt_of_cell? _ _ hhigh)).trans hhigh
  have c164 : w4.cell? ⟨g, 16, none⟩ = some (.int .i64 L.now) := (b4.cell (World.block_lt_of_cell? _ _ c16)).trans c16
  have f164 : w4.frozen? ⟨g, 16, none⟩ = false := ((HLa.out.below b4).cell 16 (v := .int .i64 L.now) (fun _ _ _ _ _ _ => rfl)).2
  have HSp4 := Lib.hid (HSp.out w4 b4)
  go_wp2_with fail
  repeat ((first | (refine Mx.skips (by kernel_rfl) ?_; go_big_quiet_skip) | (refine Mx.quietly rfl ?_; go_big_quiet_want; go_big_quiet_op; go_big_quiet_on)); refine Mx.done ?_)
  refine Mx.nil ?_
  go_wp2_with fail
  refine HSp4.out.mono ?_
  rintro e w6 ⟨a6, c6, rfl, hY6, hk6, hL6, _⟩
  have z4 := b4.size
  have zw := halw.size
  go_wp2
  go_ret3
  exact ⟨rfl, ((Kept.of_below halw).trans (Kept.of_below (X := none') b4) (fun _ _ h => h.elim)).trans hk6 (fun _ _ e => e), hL6.more (fun k h _ => h.elim .inl (fun h => .inr ⟨by omega, h.2⟩))⟩

set_option maxRecDepth 100000 in
set_option maxHeartbeats 8000000 in
theorem ack_got0 (w : World) {F : Nat → Prop} {g : Nat} {L : Lo} (hL : LAt F w g L) (hq : LoB L) {B : Nat} {a : Option Addr} {c : Nat} {l : List Sn} (hS : Sps w B a c l) (delay now : Int) (ht : L.now ≤ now ∧ now ≤ 1099511627776) (hr : rightS l L.s0.high = true) (hd : 0 ≤ delay ∧ delay ≤ 4611686018427387903)
    (hsg : ∀ ad, a = some ad → ad.block ≠ g) {G' : List Pk} (hG' : G' = L.s0.out.filter (askOf l)) {top : Pk} (htop : G'[G'.length - 1]? = some top) {en : Int} (hen : l[l.length - 1]?.map (·.to_) = some en) {L3 : Lo}
    (h3 : L3 = if top.num = en ∧ G'.any (·.el) = true then smp (L.a02 l now en) (now - top.at_) (min 0 L.most) else L.a02 l now en)
    (hW : ∀ j, j ≤ G'.length → 2400 ≤ (growAll L3 (G'.take j)).window ∧ (growAll L3 (G'.take j)).window ≤ 1152921504606846976) (hq5 : LoB { growAll L3 G' with probes := 0 }) :
    Calls Try.prog 15 #[.pointer (some ⟨g, 0, none⟩), .int .i64 0, .slice a l.length c, .int .i64 delay, .int .i64 now] w fun e w' => ∃ a1 c1 a2 c2, e = .returned (.tuple #[.slice a1 G'.length c1, .slice a2 (({ growAll L3 G' with probes := 0 } : Lo).s0.out.filter ({ growAll L3 G' with probes := 0 } : Lo).ask0).length c2, .int .i64 0]) ∧
      w'.ownsRow w.heap.size 3 1 (.slice a1 G'.length c1) G'.length (nums (G'.map (·.num))) ∧ w'.ownsRow w.heap.size 3 1 (.slice a2 (({ growAll L3 G' with probes := 0 } : Lo).s0.out.filter ({ growAll L3 G' with probes := 0 } : Lo).ask0).length c2) (({ growAll L3 G' with probes := 0 } : Lo).s0.out.filter ({ growAll L3 G' with probes := 0 } : Lo).ask0).length (nums ((({ growAll L3 G' with probes := 0 } : Lo).s0.out.filter ({ growAll L3 G' with probes := 0 } : Lo).ask0).map (·.num))) ∧ Kept (fun k => k = g) w w' ∧ LAt (Fat F w w') w' g ({ growAll L3 G' with probes := 0 } : Lo).found0 := by
  have hpk := fun p (hp : p ∈ G') => hq.b0.pk p (by rw [hG'] at hp; exact (List.mem_filter.1 hp).1)
  have htn := ht
  have hqm := hq.most
  have hql : 0 ≤ L.least ∧ L.least ≤ 1099511627776 := by have := hq.least; have := hq.latest; omega
  have hqs := hq.smooth
  have hqv := hq.vary
  have hqn := hq.now
  have hqa := hq.b0.acked
  have hqh := hq.b0.high
  have hGl : G'.length ≤ 4096 := by rw [hG']; exact Nat.le_trans (List.length_filter_le _ _) hq.b0.len
  obtain ⟨hl0, hl64, _, _, _⟩ := rightS_is hr
  have hgz := hL.lt
  have hFg := hL.fg
  have HSpc : Hid (∀ w', Calls Try.prog 21 #[.int .i64 0] w' fun e w'' => e = .returned (.bool true) ∧ w' = w'') := Lib.hid (fun w' => rightSpace_any w' 0)
  have halw : Below w.heap.size w (w.alloc (.cells #[.slice a l.length c] 40)) := (Below.refl _ _).alloc (Nat.le_refl _) _
  have Hbx : Has (w.alloc (.cells #[.slice a l.length c] 40)) w.heap.size 40 [.slice a l.length c] := Has.new _ _ _
  obtain ⟨wa, hwa⟩ : ∃ wa, wa = w.alloc (.cells #[.slice a l.length c] 40) := ⟨_, rfl⟩
  rw [← hwa] at halw Hbx
  have La := hL.below halw
  have Sa : Sps wa B a c l := own_below hS halw
  have HT := Lib.hid (rightTime_any wa La now)
  rw [decide_eq_true ht] at HT
  have HRs := Lib.hid (fun w' (hb : Below wa.heap.size wa w') => rightSpans_any w' (own_below Sa hb : Sps w' B a c l) (by omega) L.s0.high hq.b0.high)
  rw [hr] at HRs
  have bx := Hbx.cell 0 rfl
  have hhigh : wa.cell? ⟨g, 2, none⟩ = some (.int .i64 L.s0.high) := (La.cell 2 (fun _ _ _ _ _ _ => rfl)).1
  obtain ⟨c16, f16⟩ := La.cell 16 (v := .int .i64 L.now) (fun _ _ _ _ _ _ => rfl)
  have d1 : ¬ delay < 0 := by omega
  have d2 : ¬ 4611686018427387903 < delay := by omega
  have nbx : ¬ w.heap.size = g := by omega
  have hSg : ∀ ad, a = some ad → ¬ ad.block = g := hsg
  obtain ⟨G, hG⟩ : ∃ G, G = L.s0.out.filter (askOf l) := ⟨_, rfl⟩
  have HSp : Hid (∀ w4, Below wa.heap.size wa w4 → Calls Try.prog 26 #[.pointer (some ⟨g, 1, none⟩), .func (.func 27) #[] #[.pointer (some ⟨w.heap.size, 0, none⟩)]] (w4.setCell ⟨g, 16, none⟩ (.int .i64 now)) fun e w' => ∃ a c, e = .returned (.slice a G.length c) ∧ Yes w' w4.heap.size a c G ∧ Kept (fun k => k = g) w4 w' ∧ LAt (Fat F w4 w') w' g ((L.at' now).cut0 (askOf l)) ∧ (∀ ad, a = some ad → ad.block < w'.heap.size)) := Lib.hid (fun w4 hb => by
    have z : (w4.setCell ⟨g, 16, none⟩ (.int .i64 now)).heap.size = w4.heap.size := by simp [World.setCell]
    have ks := Kept.set w4 g 16 (.int .i64 now)
    have := split_A0 (w4.setCell ⟨g, 16, none⟩ (.int .i64 now)) (((La.below hb).set (L' := L.at' now) 16 (.int .i64 now) rfl rfl rfl (fun _ _ _ _ _ _ => rfl)).2) hq.b0.len (askOf l) w.heap.size (fun w' p hb' _ => by
      have S5 : Sps w' B a c l := own_below (own_kept' (own_below Sa hb) ks hSg) hb'
      have B5 := (((Hbx.kept (Kept.of_below (X := none') hb) (fun h => h)).kept ks nbx).kept (Kept.of_below (X := none') hb') (fun h => h)).cell 0 rfl
      exact got_any w' S5 (by omega) p w.heap.size B5)
    refine this.mono ?_
    rintro e w' ⟨a, c, h1, h2, h3, h4, h5⟩
    have e0 : (L.at' now).s0.out.filter (askOf l) = G := hG.symm
    rw [e0] at h1 h2
    rw [z] at h2
    exact ⟨a, c, h1, h2, ks.trans h3 (fun _ _ e => e), h4.more (fun k hk _ => hk.elim .inl (fun h => .inr ⟨by omega, h.2⟩)), h5⟩)
  have HLa := Lib.hid La
  have HSa := Lib.hid Sa
  have HBx := Lib.hid Hbx
  have HQ := Lib.hid hq
  have HWA := Lib.hid hwa
  clear hL ht hr hd La Sa Hbx hq hS
  obtain rfl : G = G' := by rw [hG, hG']
  have hn0 : 0 < G.length := by
    cases hg0 : G with
    | nil => rw [hg0] at htop; simp at htop
    | cons x r => simp
  clear hG hG'
  go_enter Try.func15, Try.ntmps15
  go_wp2_with fail
  rw [← hwa]
  clear hwa
  refine (HSpc.out wa).mono ?_
  rintro e w2 ⟨rfl, rfl⟩
  go_wp2_with fail
  refine HT.out.mono ?_
  rintro e w3 ⟨rfl, rfl⟩
  go_wp2_with fail
  have bxd : wa.drew.cell? ⟨w.heap.size, 0, none⟩ = some (.slice a l.length c) := bx
  have hid : wa.drew.cell? ⟨g, 2, none⟩ = some (.int .i64 L.s0.high) := hhigh
  have hd1 : Below wa.heap.size wa wa.drew := below_drewN (Below.refl _ wa) 1
  refine Mx.region [] (fun w' => w'.cell? ⟨w.heap.size, 0, none⟩ = some (.slice a l.length c) ∧ w'.cell? ⟨g, 2, none⟩ = some (.int .i64 L.s0.high)) (by kernel_rfl) (by kernel_rfl) ⟨bxd, hid⟩ ?_
  repeat ((first | (refine Mx.skips (by kernel_rfl) ?_; go_big_quiet_skip) | (refine Mx.quietly rfl ?_; go_big_quiet_want; go_big_quiet_op; go_big_quiet_on)); refine Mx.done ?_)
  refine Mx.cell ⟨w.heap.size, 0, none⟩ (.slice a l.length c) (by kernel_rfl) (by kernel_rfl) (by kernel_rfl) Try.isAgg40 (fun w' h => h.1) ?_
  go_big_quiet_want; go_big_quiet_op; go_big_quiet_on; refine Mx.done ?_
  repeat ((first | (refine Mx.skips (by kernel_rfl) ?_; go_big_quiet_skip) | (refine Mx.quietly rfl ?_; go_big_quiet_want; go_big_quiet_op; go_big_quiet_on)); refine Mx.done ?_)
  refine Mx.cell ⟨g, 2, none⟩ (.int .i64 L.s0.high) (by kernel_rfl) (by kernel_rfl) (by kernel_rfl) Try.isAgg3 (fun w' h => h.2) ?_
  go_big_quiet_want; go_big_quiet_op; go_big_quiet_on; refine Mx.done ?_
  repeat ((first | (refine Mx.skips (by kernel_rfl) ?_; go_big_quiet_skip) | (refine Mx.quietly rfl ?_; go_big_quiet_want; go_big_quiet_op; go_big_quiet_on)); refine Mx.done ?_)
  refine Mx.loudly (by kernel_rfl) (by kernel_rfl) ?_
  go_wp2_with fail
  refine (HRs.out _ hd1).mono ?_
  rintro e w4 ⟨rfl, hb4⟩
  have b4 := hd1.trans hb4
  have bx4 : w4.cell? ⟨w.heap.size, 0, none⟩ = some (.slice a l.length c) := (b4.cell (World.block_lt_of_cell? _ _ bx)).trans bx
  have hi4 : w4.cell? ⟨g, 2, none⟩ = some (.int .i64 L.s0.high) := (b4.cell (World.block_lt_of_cell? _ _ hhigh)).trans hhigh
  have c164 : w4.cell? ⟨g, 16, none⟩ = some (.int .i64 L.now) := (b4.cell (World.block_lt_of_cell? _ _ c16)).trans c16
  have f164 : w4.frozen? ⟨g, 16, none⟩ = false := ((HLa.out.below b4).cell 16 (v := .int .i64 L.now) (fun _ _ _ _ _ _ => rfl)).2
  have HSp4 := Lib.hid (HSp.out w4 b4)
  go_wp2_with fail
  repeat ((first | (refine Mx.skips (by kernel_rfl) ?_; go_big_quiet_skip) | (refine Mx.quietly rfl ?_; go_big_quiet_want; go_big_quiet_op; go_big_quiet_on)); refine Mx.done ?_)
  refine Mx.nil ?_
  go_wp2_with fail
  refine HSp4.out.mono ?_
  rintro e w6 ⟨a6, c6, rfl, hY6, hk6, hL6, _⟩
  have z4 := b4.size
  have zw := halw.size
  have z6 := hk6.size
  have bx6 : w6.cell? ⟨w.heap.size, 0, none⟩ = some (.slice a l.length c) := hk6.cell bx4 nbx
  have S6 : Sps w6 B a c l := own_kept' (own_below HSa.out b4) hk6 hSg
  have hnI : ¬ ((G.length : Int) = 0) := by omega
  have hnb : ((G.length : Int) == 0) = false := by rw [beq_eq_false_iff_ne]; exact hnI
  have hGI : (G.length : Int) ≤ 4096 := by omega
  have hlI : (l.length : Int) ≤ 64 := by omega
  have hl1 : l.length - 1 < l.length := by omega
  have hn1 : G.length - 1 < G.length := by omega
  rw [List.getElem?_eq_getElem hl1] at hen
  rw [List.getElem?_eq_getElem hn1] at htop
  simp only [Option.map_some, Option.some.injEq] at hen htop
  obtain ⟨sb, hsb, t0, t1, t2, t3⟩ := own_sn S6 rfl hl1
  rw [hen] at t1
  have i1 : IntKind.i64.wrap ((l.length : Int) - 1) = (l.length : Int) - 1 := by rw [IntKind.wrap_i64]; omega
  have i2 : ((l.length : Int) - 1).toNat = l.length - 1 := by omega
  have i3 : IntKind.i64.wrap ((G.length : Int) - 1) = (G.length : Int) - 1 := by rw [IntKind.wrap_i64]; omega
  have i4 : ((G.length : Int) - 1).toNat = G.length - 1 := by omega
  have i5 : (l.length : Int) ≤ (c : Int) := by omega
  -- the greatest acknowledged
  have cA := (hL6.cell 3 (v := .int .i64 L.s0.acked) (fun _ _ _ _ _ _ => rfl)).1
  have cAf := (hL6.cell 3 (v := .int .i64 L.s0.acked) (fun _ _ _ _ _ _ => rfl)).2
  have hF4 : ∀ k, Fat F w4 w6 k → Fat F w w6 k := fun k hk => hk.elim .inl (fun h => .inr ⟨by omega, h.2⟩)
  have K6 : Kept (fun k => k = g) w w6 := ((Kept.of_below halw).trans (Kept.of_below (X := none') b4) (fun _ _ h => h.elim)).trans hk6 (fun _ _ e => e)
  have L6' : LAt (Fat F w w6) w6 g ((L.at' now).cut0 (askOf l)) := hL6.more (fun k h _ => hF4 k h)
  have Y6 : Yes w6 w.heap.size a6 c6 G := own_mono hY6 (by omega)
  subst hsb
  have hG0 := hgz
  clear hL6 hY6 hk6 HSp4 HSp HRs HT HSpc HLa HSa HBx HQ HWA hF4 bx hhigh c16 f16 bx4 hi4 c164 f164 b4 halw hd1
  have hcs : (L.s0.acked < en ∧ (if L.s0.acked < en then en else L.s0.acked) = en) ∨ (¬ L.s0.acked < en ∧ (if L.s0.acked < en then en else L.s0.acked) = L.s0.acked) := by
    by_cases hh : L.s0.acked < en
    · exact .inl ⟨hh, if_pos hh⟩
    · exact .inr ⟨hh, if_neg hh⟩
  go_upto_region 15 with fail
  go_cut [] (fun wc => wc = w6.setCell ⟨g, 3, none⟩ (.int .i64 (if L.s0.acked < en then en else L.s0.acked)))
  case first =>
    rcases hcs with ⟨mA, hX⟩ | ⟨mA, hX⟩
    · clear h3
      go_wp2_with fail
      go_meet
      case rel => rw [hX]
    · clear h3
      go_wp2_with fail
      go_meet
      case rel => rw [hX]
  case rest =>
    subst hcut
    obtain ⟨am, hX⟩ : ∃ am, (if L.s0.acked < en then en else L.s0.acked) = am := ⟨_, rfl⟩
    rw [hX]
    clear hcs cA cAf
    have ks := Kept.set w6 g 3 (.int .i64 am)
    have L7 : LAt (Fat F w w6) (w6.setCell ⟨g, 3, none⟩ (.int .i64 am)) g (L.a02 l now en) := by
      have e : L.a02 l now en = { (L.at' now).cut0 (askOf l) with s0 := { ((L.at' now).cut0 (askOf l)).s0 with acked := am } } := by
        unfold Lo.a02 Lo.acked0
        rw [show ((L.at' now).cut0 (askOf l)).s0.acked = L.s0.acked from rfl, hX]
      rw [e]
      obtain ⟨a0, c0, a1, c1, a2, c2, hb, f, f0, f1, f2⟩ := L6'
      exact ⟨a0, c0, a1, c1, a2, c2, hb.set 3 (.int .i64 am) rfl rfl rfl rfl, f, f0, f1, f2⟩
    have Y7 : Yes (w6.setCell ⟨g, 3, none⟩ (.int .i64 am)) w.heap.size a6 c6 G := own_kept' Y6 ks (fun ad ha e => by have := ownblk Y6 ha; omega)
    have K7 : Kept (fun k => k = g) w6 (w6.setCell ⟨g, 3, none⟩ (.int .i64 am)) := ks
    have z7 : (w6.setCell ⟨g, 3, none⟩ (.int .i64 am)).heap.size = w6.heap.size := by simp [World.setCell]
    obtain ⟨gb, hgb, tp0, tp1, tp2, tp3, tc1, tc2⟩ := own_pk Y7 rfl hn1
    rw [htop] at tp0 tp1 tp2 tp3
    have tI : (G.length : Int) ≤ (c6 : Int) := by omega
    have hal8 : Below (w6.setCell ⟨g, 3, none⟩ (.int .i64 am)).heap.size (w6.setCell ⟨g, 3, none⟩ (.int .i64 am)) ((w6.setCell ⟨g, 3, none⟩ (.int .i64 am)).alloc (.cells #[.int .i64 top.num, .int .i64 top.size, .int .i64 top.at_, .bool top.el] 68)) := (Below.refl _ _).alloc (Nat.le_refl _) _
    have H8 : Has ((w6.setCell ⟨g, 3, none⟩ (.int .i64 am)).alloc (.cells #[.int .i64 top.num, .int .i64 top.size, .int .i64 top.at_, .bool top.el] 68)) w6.heap.size 68 [.int .i64 top.num, .int .i64 top.size, .int .i64 top.at_, .bool top.el] := by
      have := Has.new (w6.setCell ⟨g, 3, none⟩ (.int .i64 am)) 68 #[.int .i64 top.num, .int .i64 top.size, .int .i64 top.at_, .bool top.el]
      rw [z7] at this
      exact this
    have L8 := L7.below hal8
    have Y8 : Yes _ w.heap.size a6 c6 G := own_below Y7 hal8
    have K8 := K7.trans (Kept.of_below (X := none') hal8) (fun _ _ h => h.elim)
    obtain ⟨w8, hw8⟩ : ∃ w8, w8 = ((w6.setCell ⟨g, 3, none⟩ (.int .i64 am)).alloc (.cells #[.int .i64 top.num, .int .i64 top.size, .int .i64 top.at_, .bool top.el] 68)) := ⟨_, rfl⟩
    rw [← hw8] at H8 L8 Y8 K8
    have HC := Lib.hid (containsEl2_any _ (own_mono Y8 (Nat.zero_le _)) (by omega))
    subst hgb
    have HL8 := Lib.hid L8
    have HY8 := Lib.hid Y8
    have HK8 := Lib.hid K8
    have BX8 := Lib.hid H8
    have x0 : w8.cell? ⟨w6.heap.size, 0, none⟩ = some (.int .i64 top.num) := H8.cell 0 rfl
    have HW8 := Lib.hid hw8
    clear L7 Y7 K7 L8 Y8 K8 H8 L6' ks hX hal8 hw8
    go_upto_region 17 with fail
    rw [← HW8.out]
    go_cut [90] (fun s90 wc => s90 = .bool (decide (top.num = en) && G.any (·.el)) ∧ Below w8.heap.size w8 wc)
    case first =>
      by_cases hte : top.num = en
      · have hteb : (top.num == en) = true := by rw [hte]; simp
        have hted : decide (top.num = en) = true := decide_eq_true hte
        clear hte h3
        cases hany : G.any (·.el)
        · have HCf := HC
          rw [hany] at HCf
          have HA := Lib.hid hany
          clear hany
          go_wp2_with fail
          refine HCf.out.mono ?_
          rintro e w9 ⟨rfl, hb9⟩
          go_wp2_with fail
          go_meet
          case rel => exact ⟨by rw [hted, HA.out]; rfl, hb9⟩
        · have HCf := HC
          rw [hany] at HCf
          have HA := Lib.hid hany
          clear hany
          go_wp2_with fail
          refine HCf.out.mono ?_
          rintro e w9 ⟨rfl, hb9⟩
          go_wp2_with fail
          go_meet
          case rel => exact ⟨by rw [hted, HA.out]; rfl, hb9⟩
      · have hteb : (top.num == en) = false := by rw [beq_eq_false_iff_ne]; exact hte
        have hted : decide (top.num = en) = false := decide_eq_false hte
        clear hte h3
        go_wp2_with fail
        go_meet
        case rel => exact ⟨by rw [hted]; rfl, Below.refl _ _⟩
    case rest =>
      obtain ⟨rfl, hb9⟩ := hcut
      obtain ⟨w9, hw9⟩ : ∃ w9, w9 = wc := ⟨_, rfl⟩
      subst hw9
      obtain ⟨b, hb⟩ : ∃ b, b = (decide (top.num = en) && G.any (·.el)) := ⟨_, rfl⟩
      rw [← hb]
      have Y9a := own_below HY8.out hb9
      have K9a := HK8.out.trans (Kept.of_below (X := none') hb9) (fun _ _ h => h.elim)
      have L9a := HL8.out.below hb9
      have B9 := BX8.out.kept (Kept.of_below (X := none') hb9) (fun h => h)
      have HY9a := Lib.hid Y9a
      have HK9a := Lib.hid K9a
      have HL9a := Lib.hid L9a
      have HB9 := Lib.hid B9
      clear Y9a K9a L9a B9 hb9 x0 HL8 HY8 HK8 BX8 HW8 HC
      go_upto_if 90 with fail
      go_cut [] (fun wc => LAt (Fat F w w6) wc g L3 ∧ Yes wc w.heap.size (some ⟨gb, 0, none⟩) c6 G ∧ Kept (fun k => k = g) w6 wc)
      case first =>
        cases b
        · have HL3 : Hid (L3 = L.a02 l now en) := Lib.hid (by
            rw [h3, if_neg]
            rintro ⟨e1, e2⟩
            rw [e1, e2] at hb
            simp at hb)
          clear hb h3
          go_wp2_with fail
          go_meet
          case rel => exact ⟨by rw [HL3.out]; exact HL9a.out, HY9a.out, HK9a.out⟩
        · have HL3 : Hid (L3 = smp (L.a02 l now en) (now - top.at_) (min 0 L.most)) := Lib.hid (by
            have hb' := hb.symm
            simp only [Bool.and_eq_true, decide_eq_true_eq] at hb'
            rw [h3, if_pos hb'])
          clear hb h3
          have htp := hpk top (by rw [← htop]; exact List.getElem_mem hn1)
          have fl : IntKind.i64.wrap (now - top.at_) = now - top.at_ := by rw [IntKind.wrap_i64]; omega
          obtain ⟨cv, hcv⟩ : ∃ cv, cv = min 0 L.most := ⟨_, rfl⟩
          have hcc : (L.most < 0 ∧ cv = L.most) ∨ (¬ L.most < 0 ∧ cv = 0) := by omega
          rw [← hcv] at HL3
          clear hcv
          rcases hcc with ⟨hmm, hcv⟩ | ⟨hmm, hcv⟩
          · rw [hcv] at HL3
            clear hcv
            exfalso
            omega
          · rw [hcv] at HL3
            clear hcv
            have L9d := HL9a.out.below (below_drewN (Below.refl _ w9) 1)
            have B9d := HB9.out.kept (Kept.of_below (X := none') (below_drewN (Below.refl _ w9) 1)) (fun h => h)
            have xat : w9.drew.cell? ⟨w6.heap.size, 2, none⟩ = some (.int .i64 top.at_) := B9d.cell 2 rfl
            have xmo : w9.drew.cell? ⟨g, 0, none⟩ = some (.int .i64 L.most) := (L9d.cell 0 (fun _ _ _ _ _ _ => rfl)).1
            have HSm := Lib.hid (smp_any w9.drew L9d (now - top.at_) 0 (by omega) (by omega) hql hqs hqv)
            have HL9d := Lib.hid L9d
            have HB9d := Lib.hid B9d
            have HYd := Lib.hid (own_below HY9a.out (below_drewN (Below.refl _ w9) 1))
            have HKd := Lib.hid (HK9a.out.trans (Kept.of_below (X := none') (below_drewN (Below.refl _ w9) 1)) (fun _ _ h => h.elim))
            clear L9d B9d
            go_wp2_with fail
            refine Mx.region [] (fun w' => w'.cell? ⟨g, 0, none⟩ = some (.int .i64 L.most) ∧ w'.cell? ⟨w6.heap.size, 2, none⟩ = some (.int .i64 top.at_)) (by kernel_rfl) (by kernel_rfl) ⟨xmo, xat⟩ ?_
            repeat ((first | (refine Mx.skips (by kernel_rfl) ?_; go_big_quiet_skip) | (refine Mx.quietly rfl ?_; go_big_quiet_want; go_big_quiet_op; go_big_quiet_on)); refine Mx.done ?_)
            refine Mx.cell ⟨w6.heap.size, 2, none⟩ (.int .i64 top.at_) (by kernel_rfl) (by kernel_rfl) (by kernel_rfl) Try.isAgg3 (fun w' h => h.2) ?_
            go_big_quiet_want; go_big_quiet_op; go_big_quiet_on; refine Mx.done ?_
            repeat ((first | (refine Mx.skips (by kernel_rfl) ?_; go_big_quiet_skip) | (refine Mx.quietly rfl ?_; go_big_quiet_want; go_big_quiet_op; go_big_quiet_on)); refine Mx.done ?_)
            refine Mx.cell ⟨g, 0, none⟩ (.int .i64 L.most) (by kernel_rfl) (by kernel_rfl) (by kernel_rfl) Try.isAgg3 (fun w' h => h.1) ?_
            go_big_quiet_want; go_big_quiet_op; go_big_quiet_on; refine Mx.done ?_
            repeat ((first | (refine Mx.skips (by kernel_rfl) ?_; go_big_quiet_skip) | (refine Mx.quietly rfl ?_; go_big_quiet_want; go_big_quiet_op; go_big_quiet_on)); refine Mx.done ?_)
            refine Mx.loudly (by kernel_rfl) (by kernel_rfl) ?_
            go_wp2_with fail
            refine HSm.out.mono ?_
            rintro e w10 ⟨rfl, hk10, hL10⟩
            have n10 : ¬ w6.heap.size = g := by omega
            have ymo : w10.cell? ⟨g, 0, none⟩ = some (.int .i64 L.most) := (hL10.cell 0 (fun _ _ _ _ _ _ => by unfold smp Lo.sample1 Lo.sample2; split <;> rfl)).1
            have yat : w10.cell? ⟨w6.heap.size, 2, none⟩ = some (.int .i64 top.at_) := (HB9d.out.kept hk10 n10).cell 2 rfl
            go_wp2_with fail
            repeat ((first | (refine Mx.skips (by kernel_rfl) ?_; go_big_quiet_skip) | (refine Mx.quietly rfl ?_; go_big_quiet_want; go_big_quiet_op; go_big_quiet_on)); refine Mx.done ?_)
            refine Mx.nil ?_
            have L9 : LAt (Fat F w w6) w10 g L3 := by rw [HL3.out]; exact hL10
            have Y9 : Yes w10 w.heap.size (some ⟨gb, 0, none⟩) c6 G := own_kept' HYd.out hk10 (fun ad ha e => by have := ownblk HYd.out ha; omega)
            have K9 := HKd.out.trans hk10 (fun _ _ e => e)
            clear ymo yat hk10 hL10
            go_wp2_with fail
            go_meet
            case rel => exact ⟨L9, Y9, K9⟩
      case rest =>
        obtain ⟨L9, Y9, K9⟩ := hcut
        clear h3 hb HY9a HK9a HL9a HB9
        have HL9 := Lib.hid L9
        clear L9
        go_wp2_with fail
        go_loopw [107] (fun iv wv => ∃ j : Nat, iv = .int .i64 (j : Int) ∧ j ≤ G.length ∧ LAt (Fat F w w6) wv g (growAll L3 (G.take j)) ∧ Yes wv w.heap.size (some ⟨gb, 0, none⟩) c6 G ∧ Kept (fun k => k = g) w6 wv) (fun iv _ => G.length - (intOf iv).toNat)
        case atStart => exact ⟨0, rfl, Nat.zero_le _, by rw [List.take_zero]; exact HL9.out, Y9, K9⟩
        case round =>
          obtain ⟨j, rfl, hj, hLj, hYj, hKj⟩ := hrel
          clear Y9 K9 HL9
          have hgb : ∀ ad, some (⟨gb, 0, none⟩ : Addr) = some ad → ¬ ad.block = g := fun ad ha e => by have := ownblk hYj ha; omega
          by_cases hjl : j < G.length
          · have hjl' : (j : Int) < (G.length : Int) := by omega
            have g2 : IntKind.i64.wrap ((j : Int) + 1) = (j : Int) + 1 := by rw [IntKind.wrap_i64]; omega
            obtain ⟨sb2, hsb2, e0, e1, e2, e3, s1, s2⟩ := own_pk hYj rfl hjl
            cases hsb2
            have HG : Hid (growAll L3 (G.take (j + 1)) = (growAll L3 (G.take j)).grown G[j]) := Lib.hid (by rw [List.take_succ_eq_append_getElem hjl, growAll_snoc])
            have hwb := hW j hj
            have hpb := hpk _ (List.getElem_mem hjl)
            generalize growAll L3 (G.take j) = Lj at HG hwb hLj
            generalize G[j] = p at HG hpb e0 e1 e2 e3
            have hal : Below wr.heap.size wr (wr.alloc (.cells #[.int .i64 p.num, .int .i64 p.size, .int .i64 p.at_, .bool p.el] 68)) := (Below.refl _ _).alloc (Nat.le_refl _) _
            have HGr := Lib.hid (grow_any _ (hLj.below hal) p hwb ⟨hpb.2.2.1, hpb.2.2.2.1⟩)
            have HYa := Lib.hid (own_below hYj hal)
            have HKa := Lib.hid (hKj.trans (Kept.of_below (X := none') hal) (fun _ _ h => h.elim))
            clear hLj hYj hKj hal
            go_wp2_with fail
            refine HGr.out.mono ?_
            rintro e w2 ⟨rfl, hk2, hL2⟩
            go_wp2
            go_roundw
            case rel => exact ⟨j + 1, by push_cast; rfl, by omega, by rw [HG.out]; exact hL2, own_kept' HYa.out hk2 hgb, HKa.out.trans hk2 (fun _ _ e => e)⟩
            case measure => simp [intOf]; omega
          · obtain rfl : j = G.length := by omega
            rw [List.take_length] at hLj
            obtain ⟨c25, f25⟩ := hLj.cell 25 (v := .int .i64 (growAll L3 G).probes) (fun _ _ _ _ _ _ => rfl)
            obtain ⟨k5, L5⟩ := hLj.set' (L' := { growAll L3 G with probes := 0 }) 25 (.int .i64 0) rfl rfl rfl (fun _ _ _ _ _ _ => rfl)
            have Y5 : Yes _ w.heap.size (some ⟨gb, 0, none⟩) c6 G := own_kept' hYj k5 hgb
            have HN := Lib.hid (numbers_any _ Y5 hGl)
            have hlost : (({ growAll L3 G with probes := 0 } : Lo).s0.out.filter ({ growAll L3 G with probes := 0 } : Lo).ask0).length ≤ 4096 := Nat.le_trans (List.length_filter_le _ _) hq5.b0.len
            have HFd := Lib.hid (fun w' (hb : Below (wr.setCell ⟨g, 25, none⟩ (.int .i64 0)).heap.size (wr.setCell ⟨g, 25, none⟩ (.int .i64 0)) w') => find_0 w' (L5.below hb) hq5)
            have zz5 : (wr.setCell ⟨g, 25, none⟩ (.int .i64 0)).heap.size = wr.heap.size := by simp [World.setCell]
            have HK5 := Lib.hid (hKj.trans k5 (fun _ _ e => e))
            have zKj := hKj.size
            generalize (growAll L3 G).probes = pr at c25
            obtain ⟨Lf, hLf⟩ : ∃ Lf : Lo, Lf = { growAll L3 G with probes := 0 } := ⟨_, rfl⟩
            rw [← hLf] at HFd hlost
            obtain ⟨lost, hlo⟩ : ∃ lost, lost = Lf.s0.out.filter Lf.ask0 := ⟨_, rfl⟩
            rw [← hlo] at HFd hlost
            have HLf := Lib.hid hLf
            have HLo := Lib.hid hlo
            have HM1 : Hid ((G.map (·.num)).length = G.length) := Lib.hid (by simp)
            have HM2 : Hid ((lost.map (·.num)).length = lost.length) := Lib.hid (by simp)
            clear hLj L5 Y5 hYj hKj k5 hLf hlo hW hq5
            go_wp2_with fail
            refine HN.out.mono ?_
            rintro e wx ⟨ax, cx, rfl, hox, hbx⟩
            have HF2 := Lib.hid (HFd.out wx hbx)
            rw [HM1.out] at hox
            have zx := hbx.size
            go_wp2_with fail
            refine HF2.out.mono ?_
            rintro e wy ⟨ay, cy, rfl, hYy, hky, hLy⟩
            have zy := hky.size
            have HN2 := Lib.hid (numbers_any wy hYy hlost)
            have hoy := own_kept' hox hky (fun ad ha e => by have := ownblk hox ha; omega)
            clear hYy HF2 hox
            go_wp2_with fail
            refine HN2.out.mono ?_
            rintro e wz ⟨az, cz, rfl, hoz, hbz⟩
            have zz := hbz.size
            rw [HM2.out] at hoz
            have HEND : Hid (wz.ownsRow w.heap.size 3 1 (.slice ax G.length cx) G.length (nums (G.map (·.num))) ∧ wz.ownsRow w.heap.size 3 1 (.slice az lost.length cz) lost.length (nums (lost.map (·.num))) ∧ Kept (fun k => k = g) w wz ∧ LAt (Fat F w wz) wz g Lf.found0) := Lib.hid ⟨own_mono (own_below hoy hbz) (by omega), own_mono hoz (by omega), (((K6.trans HK5.out (fun _ _ e => e)).trans (Kept.of_below (X := none') hbx) (fun _ _ h => h.elim)).trans hky (fun _ _ e => e)).trans (Kept.of_below (X := none') hbz) (fun _ _ h => h.elim), (hLy.below hbz).more (fun k h _ => by
              rcases h with (h | h) | h
              · exact .inl h
              · exact .inr ⟨h.1, by omega⟩
              · exact .inr ⟨by omega, by omega⟩)⟩
            clear hoy hbz hLy hky hbx
            go_wp2
            go_ret3
            have ef := HLf.out
            subst ef
            have el := HLo.out
            subst el
            exact ⟨ax, cx, az, cz, rfl, HEND.out⟩

set_option maxRecDepth 100000 in
set_option maxHeartbeats 4000000 in
theorem ack_none1 (w : World) {F : Nat → Prop} {g : Nat} {L : Lo} (hL : LAt F w g L) (hq : LoB L) {B : Nat} {a : Option Addr} {c : Nat} {l : List Sn} (hS : Sps w B a c l) (delay now : Int) (ht : L.now ≤ now ∧ now ≤ 1099511627776) (hr : rightS l L.s1.high = true) (hd : 0 ≤ delay ∧ delay ≤ 4611686018427387903)
    (hgot : L.s1.out.filter (askOf l) = []) (hsg : ∀ ad, a = some ad → ad.block ≠ g) :
    Calls Try.prog 15 #[.pointer (some ⟨g, 0, none⟩), .int .i64 1, .slice a l.length c, .int .i64 delay, .int .i64 now] w fun e w' => e = .returned (.tuple #[.slice none 0 0, .slice none 0 0, .int .i64 0]) ∧ Kept (fun k => k = g) w w' ∧ LAt (Fat F w w') w' g ((L.at' now).cut1 (askOf l)) := by
  obtain ⟨hl0, hl64, _, _, _⟩ := rightS_is hr
  have hgz := hL.lt
  have hFg := hL.fg
  have HSpc : Hid (∀ w', Calls Try.prog 21 #[.int .i64 1] w' fun e w'' => e = .returned (.bool true) ∧ w' = w'') := Lib.hid (fun w' => rightSpace_any w' 1)
  have halw : Below w.heap.size w (w.alloc (.cells #[.slice a l.length c] 40)) := (Below.refl _ _).alloc (Nat.le_refl _) _
  have Hbx : Has (w.alloc (.cells #[.slice a l.length c] 40)) w.heap.size 40 [.slice a l.length c] := Has.new _ _ _
  obtain ⟨wa, hwa⟩ : ∃ wa, wa = w.alloc (.cells #[.slice a l.length c] 40) := ⟨_, rfl⟩
  rw [← hwa] at halw Hbx
  have La := hL.below halw
  have Sa : Sps wa B a c l := own_below hS halw
  have HT := Lib.hid (rightTime_any wa La now)
  rw [decide_eq_true ht] at HT
  have HRs := Lib.hid (fun w' (hb : Below wa.heap.size wa w') => rightSpans_any w' (own_below Sa hb : Sps w' B a c l) (by omega) L.s1.high hq.b1.high)
  rw [hr] at HRs
  have bx := Hbx.cell 0 rfl
  have hhigh : wa.cell? ⟨g, 7, none⟩ = some (.int .i64 L.s1.high) := (La.cell 7 (fun _ _ _ _ _ _ => rfl)).1
  obtain ⟨c16, f16⟩ := La.cell 16 (v := .int .i64 L.now) (fun _ _ _ _ _ _ => rfl)
  have d1 : ¬ delay < 0 := by omega
  have d2 : ¬ 4611686018427387903 < delay := by omega
  have nbx : ¬ w.heap.size = g := by omega
  have hSg : ∀ ad, a = some ad → ¬ ad.block = g := hsg
  obtain ⟨G, hG⟩ : ∃ G, G = L.s1.out.filter (askOf l) := ⟨_, rfl⟩
  have HSp : Hid (∀ w4, Below wa.heap.size wa w4 → Calls Try.prog 26 #[.pointer (some ⟨g, 6, none⟩), .func (.func 27) #[] #[.pointer (some ⟨w.heap.size, 0, none⟩)]] (w4.setCell ⟨g, 16, none⟩ (.int .i64 now)) fun e w' => ∃ a c, e = .returned (.slice a G.length c) ∧ Yes w' w4.heap.size a c G ∧ Kept (fun k => k = g) w4 w' ∧ LAt (Fat F w4 w') w' g ((L.at' now).cut1 (askOf l)) ∧ (∀ ad, a = some ad → ad.block < w'.heap.size)) := Lib.hid (fun w4 hb => by
    have z : (w4.setCell ⟨g, 16, none⟩ (.int .i64 now)).heap.size = w4.heap.size := by simp [World.setCell]
    have ks := Kept.set w4 g 16 (.int .i64 now)
    have := split_A1 (w4.setCell ⟨g, 16, none⟩ (.int .i64 now)) (((La.below hb).set (L' := L.at' now) 16 (.int .i64 now) rfl rfl rfl (fun _ _ _ _ _ _ => rfl)).2) hq.b1.len (askOf l) w.heap.size (fun w' p hb' _ => by
      have S5 : Sps w' B a c l := own_below (own_kept' (own_below Sa hb) ks hSg) hb'
      have B5 := (((Hbx.kept (Kept.of_below (X := none') hb) (fun h => h)).kept ks nbx).kept (Kept.of_below (X := none') hb') (fun h => h)).cell 0 rfl
      exact got_any w' S5 (by omega) p w.heap.size B5)
    refine this.mono ?_
    rintro e w' ⟨a, c, h1, h2, h3, h4, h5⟩
    have e0 : (L.at' now).s1.out.filter (askOf l) = G := hG.symm
    rw [e0] at h1 h2
    rw [z] at h2
    exact ⟨a, c, h1, h2, ks.trans h3 (fun _ _ e => e), h4.more (fun k hk _ => hk.elim .inl (fun h => .inr ⟨by omega, h.2⟩)), h5⟩)
  have HLa := Lib.hid La
  have HSa := Lib.hid Sa
  have HBx := Lib.hid Hbx
  have HQ := Lib.hid hq
  have HWA := Lib.hid hwa
  clear hL ht hr hd La Sa Hbx hq hS
  rw [hgot] at hG
  subst hG
  clear hgot
  go_enter Try.func15, Try.ntmps15
  go_wp2_with fail
  rw [← hwa]
  clear hwa
  refine (HSpc.out wa).mono ?_
  rintro e w2 ⟨rfl, rfl⟩
  go_wp2_with fail
  refine HT.out.mono ?_
  rintro e w3 ⟨rfl, rfl⟩
  go_wp2_with fail
  have bxd : wa.drew.cell? ⟨w.heap.size, 0, none⟩ = some (.slice a l.length c) := bx
  have hid : wa.drew.cell? ⟨g, 7, none⟩ = some (.int .i64 L.s1.high) := hhigh
  have hd1 : Below wa.heap.size wa wa.drew := below_drewN (Below.refl _ wa) 1
  refine Mx.region [] (fun w' => w'.cell? ⟨w.heap.size, 0, none⟩ = some (.slice a l.length c) ∧ w'.cell? ⟨g, 7, none⟩ = some (.int .i64 L.s1.high)) (by kernel_rfl) (by kernel_rfl) ⟨bxd, hid⟩ ?_
  repeat ((first | (refine Mx.skips (by kernel_rfl) ?_; go_big_quiet_skip) | (refine Mx.quietly rfl ?_; go_big_quiet_want; go_big_quiet_op; go_big_quiet_on)); refine Mx.done ?_)
  refine Mx.cell ⟨w.heap.size, 0, none⟩ (.slice a l.length c) (by kernel_rfl) (by kernel_rfl) (by kernel_rfl) Try.isAgg40 (fun w' h => h.1) ?_
  go_big_quiet_want; go_big_quiet_op; go_big_quiet_on; refine Mx.done ?_
  repeat ((first | (refine Mx.skips (by kernel_rfl) ?_; go_big_quiet_skip) | (refine Mx.quietly rfl ?_; go_big_quiet_want; go_big_quiet_op; go_big_quiet_on)); refine Mx.done ?_)
  refine Mx.cell ⟨g, 7, none⟩ (.int .i64 L.s1.high) (by kernel_rfl) (by kernel_rfl) (by kernel_rfl) Try.isAgg3 (fun w' h => h.2) ?_
  go_big_quiet_want; go_big_quiet_op; go_big_quiet_on; refine Mx.done ?_
  repeat ((first | (refine Mx.skips (by kernel_rfl) ?_; go_big_quiet_skip) | (refine Mx.quietly rfl ?_; go_big_quiet_want; go_big_quiet_op; go_big_quiet_on)); refine Mx.done ?_)
  refine Mx.loudly (by kernel_rfl) (by kernel_rfl) ?_
  go_wp2_with fail
  refine (HRs.out _ hd1).mono ?_
  rintro e w4 ⟨rfl, hb4⟩
  have b4 := hd1.trans hb4
  have bx4 : w4.cell? ⟨w.heap.size, 0, none⟩ = some (.slice a l.length c) := (b4.cell (World.block_lt_of_cell? _ _ bx)).trans bx
  have hi4 : w4.cell? ⟨g, 7, none⟩ = some (.int .i64 L.s1.high) := (b4.cell (World.block_lt_of_cell? _ _ hhigh)).trans hhigh
  have c164 : w4.cell? ⟨g, 16, none⟩ = some (.int .i64 L.now) := (b4.cell (World.block_lt_of_cell? _ _ c16)).trans c16
  have f164 : w4.frozen? ⟨g, 16, none⟩ = false := ((HLa.out.below b4).cell 16 (v := .int .i64 L.now) (fun _ _ _ _ _ _ => rfl)).2
  have HSp4 := Lib.hid (HSp.out w4 b4)
  go_wp2_with fail
  repeat ((first | (refine Mx.skips (by kernel_rfl) ?_; go_big_quiet_skip) | (refine Mx.quietly rfl ?_; go_big_quiet_want; go_big_quiet_op; go_big_quiet_on)); refine Mx.done ?_)
  refine Mx.nil ?_
  go_wp2_with fail
  refine HSp4.out.mono ?_
  rintro e w6 ⟨a6, c6, rfl, hY6, hk6, hL6, _⟩
  have z4 := b4.size
  have zw := halw.size
  go_wp2
  go_ret3
  exact ⟨rfl, ((Kept.of_below halw).trans (Kept.of_below (X := none') b4) (fun _ _ h => h.elim)).trans hk6 (fun _ _ e => e), hL6.more (fun k h _ => h.elim .inl (fun h => .inr ⟨by omega, h.2⟩))⟩

set_option maxRecDepth 100000 in
set_option maxHeartbeats 8000000 in
theorem ack_got1 (w : World) {F : Nat → Prop} {g : Nat} {L : Lo} (hL : LAt F w g L) (hq : LoB L) {B : Nat} {a : Option Addr} {c : Nat} {l : List Sn} (hS : Sps w B a c l) (delay now : Int) (ht : L.now ≤ now ∧ now ≤ 1099511627776) (hr : rightS l L.s1.high = true) (hd : 0 ≤ delay ∧ delay ≤ 4611686018427387903)
    (hsg : ∀ ad, a = some ad → ad.block ≠ g) {G' : List Pk} (hG' : G' = L.s1.out.filter (askOf l)) {top : Pk} (htop : G'[G'.length - 1]? = some top) {en : Int} (hen : l[l.length - 1]?.map (·.to_) = some en) {L3 : Lo}
    (h3 : L3 = if top.num = en ∧ G'.any (·.el) = true then smp (L.a12 l now en) (now - top.at_) (min 0 L.most) else L.a12 l now en)
    (hW : ∀ j, j ≤ G'.length → 2400 ≤ (growAll L3 (G'.take j)).window ∧ (growAll L3 (G'.take j)).window ≤ 1152921504606846976) (hq5 : LoB { growAll L3 G' with probes := 0 }) :
    Calls Try.prog 15 #[.pointer (some ⟨g, 0, none⟩), .int .i64 1, .slice a l.length c, .int .i64 delay, .int .i64 now] w fun e w' => ∃ a1 c1 a2 c2, e = .returned (.tuple #[.slice a1 G'.length c1, .slice a2 (({ growAll L3 G' with probes := 0 } : Lo).s1.out.filter ({ growAll L3 G' with probes := 0 } : Lo).ask1).length c2, .int .i64 0]) ∧
      w'.ownsRow w.heap.size 3 1 (.slice a1 G'.length c1) G'.length (nums (G'.map (·.num))) ∧ w'.ownsRow w.heap.size 3 1 (.slice a2 (({ growAll L3 G' with probes := 0 } : Lo).s1.out.filter ({ growAll L3 G' with probes := 0 } : Lo).ask1).length c2) (({ growAll L3 G' with probes := 0 } : Lo).s1.out.filter ({ growAll L3 G' with probes := 0 } : Lo).ask1).length (nums ((({ growAll L3 G' with probes := 0 } : Lo).s1.out.filter ({ growAll L3 G' with probes := 0 } : Lo).ask1).map (·.num))) ∧ Kept (fun k => k = g) w w' ∧ LAt (Fat F w w') w' g ({ growAll L3 G' with probes := 0 } : Lo).found1 := by
  have hpk := fun p (hp : p ∈ G') => hq.b1.pk p (by rw [hG'] at hp; exact (List.mem_filter.1 hp).1)
  have htn := ht
  have hqm := hq.most
  have hql : 0 ≤ L.least ∧ L.least ≤ 1099511627776 := by have := hq.least; have := hq.latest; omega
  have hqs := hq.smooth
  have hqv := hq.vary
  have hqn := hq.now
  have hqa := hq.b1.acked
  have hqh := hq.b1.high
  have hGl : G'.length ≤ 4096 := by rw [hG']; exact Nat.le_trans (List.length_filter_le _ _) hq.b1.len
  obtain ⟨hl0, hl64, _, _, _⟩ := rightS_is hr
  have hgz := hL.lt
  have hFg := hL.fg
  have HSpc : Hid (∀ w', Calls Try.prog 21 #[.int .i64 1] w' fun e w'' => e = .returned (.bool true) ∧ w' = w'') := Lib.hid (fun w' => rightSpace_any w' 1)
  have halw : Below w.heap.size w (w.alloc (.cells #[.slice a l.length c] 40)) := (Below.refl _ _).alloc (Nat.le_refl _) _
  have Hbx : Has (w.alloc (.cells #[.slice a l.length c] 40)) w.heap.size 40 [.slice a l.length c] := Has.new _ _ _
  obtain ⟨wa, hwa⟩ : ∃ wa, wa = w.alloc (.cells #[.slice a l.length c] 40) := ⟨_, rfl⟩
  rw [← hwa] at halw Hbx
  have La := hL.below halw
  have Sa : Sps wa B a c l := own_below hS halw
  have HT := Lib.hid (rightTime_any wa La now)
  rw [decide_eq_true ht] at HT
  have HRs := Lib.hid (fun w' (hb : Below wa.heap.size wa w') => rightSpans_any w' (own_below Sa hb : Sps w' B a c l) (by omega) L.s1.high hq.b1.high)
  rw [hr] at HRs
  have bx := Hbx.cell 0 rfl
  have hhigh : wa.cell? ⟨g, 7, none⟩ = some (.int .i64 L.s1.high) := (La.cell 7 (fun _ _ _ _ _ _ => rfl)).1
  obtain ⟨c16, f16⟩ := La.cell 16 (v := .int .i64 L.now) (fun _ _ _ _ _ _ => rfl)
  have d1 : ¬ delay < 0 := by omega
  have d2 : ¬ 4611686018427387903 < delay := by omega
  have nbx : ¬ w.heap.size = g := by omega
  have hSg : ∀ ad, a = some ad → ¬ ad.block = g := hsg
  obtain ⟨G, hG⟩ : ∃ G, G = L.s1.out.filter (askOf l) := ⟨_, rfl⟩
  have HSp : Hid (∀ w4, Below wa.heap.size wa w4 → Calls Try.prog 26 #[.pointer (some ⟨g, 6, none⟩), .func (.func 27) #[] #[.pointer (some ⟨w.heap.size, 0, none⟩)]] (w4.setCell ⟨g, 16, none⟩ (.int .i64 now)) fun e w' => ∃ a c, e = .returned (.slice a G.length c) ∧ Yes w' w4.heap.size a c G ∧ Kept (fun k => k = g) w4 w' ∧ LAt (Fat F w4 w') w' g ((L.at' now).cut1 (askOf l)) ∧ (∀ ad, a = some ad → ad.block < w'.heap.size)) := Lib.hid (fun w4 hb => by
    have z : (w4.setCell ⟨g, 16, none⟩ (.int .i64 now)).heap.size = w4.heap.size := by simp [World.setCell]
    have ks := Kept.set w4 g 16 (.int .i64 now)
    have := split_A1 (w4.setCell ⟨g, 16, none⟩ (.int .i64 now)) (((La.below hb).set (L' := L.at' now) 16 (.int .i64 now) rfl rfl rfl (fun _ _ _ _ _ _ => rfl)).2) hq.b1.len (askOf l) w.heap.size (fun w' p hb' _ => by
      have S5 : Sps w' B a c l := own_below (own_kept' (own_below Sa hb) ks hSg) hb'
      have B5 := (((Hbx.kept (Kept.of_below (X := none') hb) (fun h => h)).kept ks nbx).kept (Kept.of_below (X := none') hb') (fun h => h)).cell 0 rfl
      exact got_any w' S5 (by omega) p w.heap.size B5)
    refine this.mono ?_
    rintro e w' ⟨a, c, h1, h2, h3, h4, h5⟩
    have e0 : (L.at' now).s1.out.filter (askOf l) = G := hG.symm
    rw [e0] at h1 h2
    rw [z] at h2
    exact ⟨a, c, h1, h2, ks.trans h3 (fun _ _ e => e), h4.more (fun k hk _ => hk.elim .inl (fun h => .inr ⟨by omega, h.2⟩)), h5⟩)
  have HLa := Lib.hid La
  have HSa := Lib.hid Sa
  have HBx := Lib.hid Hbx
  have HQ := Lib.hid hq
  have HWA := Lib.hid hwa
  clear hL ht hr hd La Sa Hbx hq hS
  obtain rfl : G = G' := by rw [hG, hG']
  have hn0 : 0 < G.length := by
    cases hg0 : G with
    | nil => rw [hg0] at htop; simp at htop
    | cons x r => simp
  clear hG hG'
  go_enter Try.func15, Try.ntmps15
  go_wp2_with fail
  rw [← hwa]
  clear hwa
  refine (HSpc.out wa).mono ?_
  rintro e w2 ⟨rfl, rfl⟩
  go_wp2_with fail
  refine HT.out.mono ?_
  rintro e w3 ⟨rfl, rfl⟩
  go_wp2_with fail
  have bxd : wa.drew.cell? ⟨w.heap.size, 0, none⟩ = some (.slice a l.length c) := bx
  have hid : wa.drew.cell? ⟨g, 7, none⟩ = some (.int .i64 L.s1.high) := hhigh
  have hd1 : Below wa.heap.size wa wa.drew := below_drewN (Below.refl _ wa) 1
  refine Mx.region [] (fun w' => w'.cell? ⟨w.heap.size, 0, none⟩ = some (.slice a l.length c) ∧ w'.cell? ⟨g, 7, none⟩ = some (.int .i64 L.s1.high)) (by kernel_rfl) (by kernel_rfl) ⟨bxd, hid⟩ ?_
  repeat ((first | (refine Mx.skips (by kernel_rfl) ?_; go_big_quiet_skip) | (refine Mx.quietly rfl ?_; go_big_quiet_want; go_big_quiet_op; go_big_quiet_on)); refine Mx.done ?_)
  refine Mx.cell ⟨w.heap.size, 0, none⟩ (.slice a l.length c) (by kernel_rfl) (by kernel_rfl) (by kernel_rfl) Try.isAgg40 (fun w' h => h.1) ?_
  go_big_quiet_want; go_big_quiet_op; go_big_quiet_on; refine Mx.done ?_
  repeat ((first | (refine Mx.skips (by kernel_rfl) ?_; go_big_quiet_skip) | (refine Mx.quietly rfl ?_; go_big_quiet_want; go_big_quiet_op; go_big_quiet_on)); refine Mx.done ?_)
  refine Mx.cell ⟨g, 7, none⟩ (.int .i64 L.s1.high) (by kernel_rfl) (by kernel_rfl) (by kernel_rfl) Try.isAgg3 (fun w' h => h.2) ?_
  go_big_quiet_want; go_big_quiet_op; go_big_quiet_on; refine Mx.done ?_
  repeat ((first | (refine Mx.skips (by kernel_rfl) ?_; go_big_quiet_skip) | (refine Mx.quietly rfl ?_; go_big_quiet_want; go_big_quiet_op; go_big_quiet_on)); refine Mx.done ?_)
  refine Mx.loudly (by kernel_rfl) (by kernel_rfl) ?_
  go_wp2_with fail
  refine (HRs.out _ hd1).mono ?_
  rintro e w4 ⟨rfl, hb4⟩
  have b4 := hd1.trans hb4
  have bx4 : w4.cell? ⟨w.heap.size, 0, none⟩ = some (.slice a l.length c) := (b4.cell (World.block_lt_of_cell? _ _ bx)).trans bx
  have hi4 : w4.cell? ⟨g, 7, none⟩ = some (.int .i64 L.s1.high) := (b4.cell (World.block_lt_of_cell? _ _ hhigh)).trans hhigh
  have c164 : w4.cell? ⟨g, 16, none⟩ = some (.int .i64 L.now) := (b4.cell (World.block_lt_of_cell? _ _ c16)).trans c16
  have f164 : w4.frozen? ⟨g, 16, none⟩ = false := ((HLa.out.below b4).cell 16 (v := .int .i64 L.now) (fun _ _ _ _ _ _ => rfl)).2
  have HSp4 := Lib.hid (HSp.out w4 b4)
  go_wp2_with fail
  repeat ((first | (refine Mx.skips (by kernel_rfl) ?_; go_big_quiet_skip) | (refine Mx.quietly rfl ?_; go_big_quiet_want; go_big_quiet_op; go_big_quiet_on)); refine Mx.done ?_)
  refine Mx.nil ?_
  go_wp2_with fail
  refine HSp4.out.mono ?_
  rintro e w6 ⟨a6, c6, rfl, hY6, hk6, hL6, _⟩
  have z4 := b4.size
  have zw := halw.size
  have z6 := hk6.size
  have bx6 : w6.cell? ⟨w.heap.size, 0, none⟩ = some (.slice a l.length c) := hk6.cell bx4 nbx
  have S6 : Sps w6 B a c l := own_kept' (own_below HSa.out b4) hk6 hSg
  have hnI : ¬ ((G.length : Int) = 0) := by omega
  have hnb : ((G.length : Int) == 0) = false := by rw [beq_eq_false_iff_ne]; exact hnI
  have hGI : (G.length : Int) ≤ 4096 := by omega
  have hlI : (l.length : Int) ≤ 64 := by omega
  have hl1 : l.length - 1 < l.length := by omega
  have hn1 : G.length - 1 < G.length := by omega
  rw [List.getElem?_eq_getElem hl1] at hen
  rw [List.getElem?_eq_getElem hn1] at htop
  simp only [Option.map_some, Option.some.injEq] at hen htop
  obtain ⟨sb, hsb, t0, t1, t2, t3⟩ := own_sn S6 rfl hl1
  rw [hen] at t1
  have i1 : IntKind.i64.wrap ((l.length : Int) - 1) = (l.length : Int) - 1 := by rw [IntKind.wrap_i64]; omega
  have i2 : ((l.length : Int) - 1).toNat = l.length - 1 := by omega
  have i3 : IntKind.i64.wrap ((G.length : Int) - 1) = (G.length : Int) - 1 := by rw [IntKind.wrap_i64]; omega
  have i4 : ((G.length : Int) - 1).toNat = G.length - 1 := by omega
  have i5 : (l.length : Int) ≤ (c : Int) := by omega
  -- the greatest acknowledged
  have cA := (hL6.cell 8 (v := .int .i64 L.s1.acked) (fun _ _ _ _ _ _ => rfl)).1
  have cAf := (hL6.cell 8 (v := .int .i64 L.s1.acked) (fun _ _ _ _ _ _ => rfl)).2
  have hF4 : ∀ k, Fat F w4 w6 k → Fat F w w6 k := fun k hk => hk.elim .inl (fun h => .inr ⟨by omega, h.2⟩)
  have K6 : Kept (fun k => k = g) w w6 := ((Kept.of_below halw).trans (Kept.of_below (X := none') b4) (fun _ _ h => h.elim)).trans hk6 (fun _ _ e => e)
  have L6' : LAt (Fat F w w6) w6 g ((L.at' now).cut1 (askOf l)) := hL6.more (fun k h _ => hF4 k h)
  have Y6 : Yes w6 w.heap.size a6 c6 G := own_mono hY6 (by omega)
  subst hsb
  have hG0 := hgz
  clear hL6 hY6 hk6 HSp4 HSp HRs HT HSpc HLa HSa HBx HQ HWA hF4 bx hhigh c16 f16 bx4 hi4 c164 f164 b4 halw hd1
  have hcs : (L.s1.acked < en ∧ (if L.s1.acked < en then en else L.s1.acked) = en) ∨ (¬ L.s1.acked < en ∧ (if L.s1.acked < en then en else L.s1.acked) = L.s1.acked) := by
    by_cases hh : L.s1.acked < en
    · exact .inl ⟨hh, if_pos hh⟩
    · exact .inr ⟨hh, if_neg hh⟩
  go_upto_region 15 with fail
  go_cut [] (fun wc => wc = w6.setCell ⟨g, 8, none⟩ (.int .i64 (if L.s1.acked < en then en else L.s1.acked)))
  case first =>
    rcases hcs with ⟨mA, hX⟩ | ⟨mA, hX⟩
    · clear h3
      go_wp2_with fail
      go_meet
      case rel => rw [hX]
    · clear h3
      go_wp2_with fail
      go_meet
      case rel => rw [hX]
  case rest =>
    subst hcut
    obtain ⟨am, hX⟩ : ∃ am, (if L.s1.acked < en then en else L.s1.acked) = am := ⟨_, rfl⟩
    rw [hX]
    clear hcs cA cAf
    have ks := Kept.set w6 g 8 (.int .i64 am)
    have L7 : LAt (Fat F w w6) (w6.setCell ⟨g, 8, none⟩ (.int .i64 am)) g (L.a12 l now en) := by
      have e : L.a12 l now en = { (L.at' now).cut1 (askOf l) with s1 := { ((L.at' now).cut1 (askOf l)).s1 with acked := am } } := by
        unfold Lo.a12 Lo.acked1
        rw [show ((L.at' now).cut1 (askOf l)).s1.acked = L.s1.acked from rfl, hX]
      rw [e]
      obtain ⟨a0, c0, a1, c1, a2, c2, hb, f, f0, f1, f2⟩ := L6'
      exact ⟨a0, c0, a1, c1, a2, c2, hb.set 8 (.int .i64 am) rfl rfl rfl rfl, f, f0, f1, f2⟩
    have Y7 : Yes (w6.setCell ⟨g, 8, none⟩ (.int .i64 am)) w.heap.size a6 c6 G := own_kept' Y6 ks (fun ad ha e => by have := ownblk Y6 ha; omega)
    have K7 : Kept (fun k => k = g) w6 (w6.setCell ⟨g, 8, none⟩ (.int .i64 am)) := ks
    have z7 : (w6.setCell ⟨g, 8, none⟩ (.int .i64 am)).heap.size = w6.heap.size := by simp [World.setCell]
    obtain ⟨gb, hgb, tp0, tp1, tp2, tp3, tc1, tc2⟩ := own_pk Y7 rfl hn1
    rw [htop] at tp0 tp1 tp2 tp3
    have tI : (G.length : Int) ≤ (c6 : Int) := by omega
    have hal8 : Below (w6.setCell ⟨g, 8, none⟩ (.int .i64 am)).heap.size (w6.setCell ⟨g, 8, none⟩ (.int .i64 am)) ((w6.setCell ⟨g, 8, none⟩ (.int .i64 am)).alloc (.cells #[.int .i64 top.num, .int .i64 top.size, .int .i64 top.at_, .bool top.el] 68)) := (Below.refl _ _).alloc (Nat.le_refl _) _
    have H8 : Has ((w6.setCell ⟨g, 8, none⟩ (.int .i64 am)).alloc (.cells #[.int .i64 top.num, .int .i64 top.size, .int .i64 top.at_, .bool top.el] 68)) w6.heap.size 68 [.int .i64 top.num, .int .i64 top.size, .int .i64 top.at_, .bool top.el] := by
      have := Has.new (w6.setCell ⟨g, 8, none⟩ (.int .i64 am)) 68 #[.int .i64 top.num, .int .i64 top.size, .int .i64 top.at_, .bool top.el]
      rw [z7] at this
      exact this
    have L8 := L7.below hal8
    have Y8 : Yes _ w.heap.size a6 c6 G := own_below Y7 hal8
    have K8 := K7.trans (Kept.of_below (X := none') hal8) (fun _ _ h => h.elim)
    obtain ⟨w8, hw8⟩ : ∃ w8, w8 = ((w6.setCell ⟨g, 8, none⟩ (.int .i64 am)).alloc (.cells #[.int .i64 top.num, .int .i64 top.size, .int .i64 top.at_, .bool top.el] 68)) := ⟨_, rfl⟩
    rw [← hw8] at H8 L8 Y8 K8
    have HC := Lib.hid (containsEl2_any _ (own_mono Y8 (Nat.zero_le _)) (by omega))
    subst hgb
    have HL8 := Lib.hid L8
    have HY8 := Lib.hid Y8
    have HK8 := Lib.hid K8
    have BX8 := Lib.hid H8
    have x0 : w8.cell? ⟨w6.heap.size, 0, none⟩ = some (.int .i64 top.num) := H8.cell 0 rfl
    have HW8 := Lib.hid hw8
    clear L7 Y7 K7 L8 Y8 K8 H8 L6' ks hX hal8 hw8
    go_upto_region 17 with fail
    rw [← HW8.out]
    go_cut [90] (fun s90 wc => s90 = .bool (decide (top.num = en) && G.any (·.el)) ∧ Below w8.heap.size w8 wc)
    case first =>
      by_cases hte : top.num = en
      · have hteb : (top.num == en) = true := by rw [hte]; simp
        have hted : decide (top.num = en) = true := decide_eq_true hte
        clear hte h3
        cases hany : G.any (·.el)
        · have HCf := HC
          rw [hany] at HCf
          have HA := Lib.hid hany
          clear hany
          go_wp2_with fail
          refine HCf.out.mono ?_
          rintro e w9 ⟨rfl, hb9⟩
          go_wp2_with fail
          go_meet
          case rel => exact ⟨by rw [hted, HA.out]; rfl, hb9⟩
        · have HCf := HC
          rw [hany] at HCf
          have HA := Lib.hid hany
          clear hany
          go_wp2_with fail
          refine HCf.out.mono ?_
          rintro e w9 ⟨rfl, hb9⟩
          go_wp2_with fail
          go_meet
          case rel => exact ⟨by rw [hted, HA.out]; rfl, hb9⟩
      · have hteb : (top.num == en) = false := by rw [beq_eq_false_iff_ne]; exact hte
        have hted : decide (top.num = en) = false := decide_eq_false hte
        clear hte h3
        go_wp2_with fail
        go_meet
        case rel => exact ⟨by rw [hted]; rfl, Below.refl _ _⟩
    case rest =>
      obtain ⟨rfl, hb9⟩ := hcut
      obtain ⟨w9, hw9⟩ : ∃ w9, w9 = wc := ⟨_, rfl⟩
      subst hw9
      obtain ⟨b, hb⟩ : ∃ b, b = (decide (top.num = en) && G.any (·.el)) := ⟨_, rfl⟩
      rw [← hb]
      have Y9a := own_below HY8.out hb9
      have K9a := HK8.out.trans (Kept.of_below (X := none') hb9) (fun _ _ h => h.elim)
      have L9a := HL8.out.below hb9
      have B9 := BX8.out.kept (Kept.of_below (X := none') hb9) (fun h => h)
      have HY9a := Lib.hid Y9a
      have HK9a := Lib.hid K9a
      have HL9a := Lib.hid L9a
      have HB9 := Lib.hid B9
      clear Y9a K9a L9a B9 hb9 x0 HL8 HY8 HK8 BX8 HW8 HC
      go_upto_if 90 with fail
      go_cut [] (fun wc => LAt (Fat F w w6) wc g L3 ∧ Yes wc w.heap.size (some ⟨gb, 0, none⟩) c6 G ∧ Kept (fun k => k = g) w6 wc)
      case first =>
        cases b
        · have HL3 : Hid (L3 = L.a12 l now en) := Lib.hid (by
            rw [h3, if_neg]
            rintro ⟨e1, e2⟩
            rw [e1, e2] at hb
            simp at hb)
          clear hb h3
          go_wp2_with fail
          go_meet
          case rel => exact ⟨by rw [HL3.out]; exact HL9a.out, HY9a.out, HK9a.out⟩
        · have HL3 : Hid (L3 = smp (L.a12 l now en) (now - top.at_) (min 0 L.most)) := Lib.hid (by
            have hb' := hb.symm
            simp only [Bool.and_eq_true, decide_eq_true_eq] at hb'
            rw [h3, if_pos hb'])
          clear hb h3
          have htp := hpk top (by rw [← htop]; exact List.getElem_mem hn1)
          have fl : IntKind.i64.wrap (now - top.at_) = now - top.at_ := by rw [IntKind.wrap_i64]; omega
          obtain ⟨cv, hcv⟩ : ∃ cv, cv = min 0 L.most := ⟨_, rfl⟩
          have hcc : (L.most < 0 ∧ cv = L.most) ∨ (¬ L.most < 0 ∧ cv = 0) := by omega
          rw [← hcv] at HL3
          clear hcv
          rcases hcc with ⟨hmm, hcv⟩ | ⟨hmm, hcv⟩
          · rw [hcv] at HL3
            clear hcv
            exfalso
            omega
          · rw [hcv] at HL3
            clear hcv
            have L9d := HL9a.out.below (below_drewN (Below.refl _ w9) 1)
            have B9d := HB9.out.kept (Kept.of_below (X := none') (below_drewN (Below.refl _ w9) 1)) (fun h => h)
            have xat : w9.drew.cell? ⟨w6.heap.size, 2, none⟩ = some (.int .i64 top.at_) := B9d.cell 2 rfl
            have xmo : w9.drew.cell? ⟨g, 0, none⟩ = some (.int .i64 L.most) := (L9d.cell 0 (fun _ _ _ _ _ _ => rfl)).1
            have HSm := Lib.hid (smp_any w9.drew L9d (now - top.at_) 0 (by omega) (by omega) hql hqs hqv)
            have HL9d := Lib.hid L9d
            have HB9d := Lib.hid B9d
            have HYd := Lib.hid (own_below HY9a.out (below_drewN (Below.refl _ w9) 1))
            have HKd := Lib.hid (HK9a.out.trans (Kept.of_below (X := none') (below_drewN (Below.refl _ w9) 1)) (fun _ _ h => h.elim))
            clear L9d B9d
            go_wp2_with fail
            refine Mx.region [] (fun w' => w'.cell? ⟨g, 0, none⟩ = some (.int .i64 L.most) ∧ w'.cell? ⟨w6.heap.size, 2, none⟩ = some (.int .i64 top.at_)) (by kernel_rfl) (by kernel_rfl) ⟨xmo, xat⟩ ?_
            repeat ((first | (refine Mx.skips (by kernel_rfl) ?_; go_big_quiet_skip) | (refine Mx.quietly rfl ?_; go_big_quiet_want; go_big_quiet_op; go_big_quiet_on)); refine Mx.done ?_)
            refine Mx.cell ⟨w6.heap.size, 2, none⟩ (.int .i64 top.at_) (by kernel_rfl) (by kernel_rfl) (by kernel_rfl) Try.isAgg3 (fun w' h => h.2) ?_
            go_big_quiet_want; go_big_quiet_op; go_big_quiet_on; refine Mx.done ?_
            repeat ((first | (refine Mx.skips (by kernel_rfl) ?_; go_big_quiet_skip) | (refine Mx.quietly rfl ?_; go_big_quiet_want; go_big_quiet_op; go_big_quiet_on)); refine Mx.done ?_)
            refine Mx.cell ⟨g, 0, none⟩ (.int .i64 L.most) (by kernel_rfl) (by kernel_rfl) (by kernel_rfl) Try.isAgg3 (fun w' h => h.1) ?_
            go_big_quiet_want; go_big_quiet_op; go_big_quiet_on; refine Mx.done ?_
            repeat ((first | (refine Mx.skips (by kernel_rfl) ?_; go_big_quiet_skip) | (refine Mx.quietly rfl ?_; go_big_quiet_want; go_big_quiet_op; go_big_quiet_on)); refine Mx.done ?_)
            refine Mx.loudly (by kernel_rfl) (by kernel_rfl) ?_
            go_wp2_with fail
            refine HSm.out.mono ?_
            rintro e w10 ⟨rfl, hk10, hL10⟩
            have n10 : ¬ w6.heap.size = g := by omega
            have ymo : w10.cell? ⟨g, 0, none⟩ = some (.int .i64 L.most) := (hL10.cell 0 (fun _ _ _ _ _ _ => by unfold smp Lo.sample1 Lo.sample2; split <;> rfl)).1
            have yat : w10.cell? ⟨w6.heap.size, 2, none⟩ = some (.int .i64 top.at_) := (HB9d.out.kept hk10 n10).cell 2 rfl
            go_wp2_with fail
            repeat ((first | (refine Mx.skips (by kernel_rfl) ?_; go_big_quiet_skip) | (refine Mx.quietly rfl ?_; go_big_quiet_want; go_big_quiet_op; go_big_quiet_on)); refine Mx.done ?_)
            refine Mx.nil ?_
            have L9 : LAt (Fat F w w6) w10 g L3 := by rw [HL3.out]; exact hL10
            have Y9 : Yes w10 w.heap.size (some ⟨gb, 0, none⟩) c6 G := own_kept' HYd.out hk10 (fun ad ha e => by have := ownblk HYd.out ha; omega)
            have K9 := HKd.out.trans hk10 (fun _ _ e => e)
            clear ymo yat hk10 hL10
            go_wp2_with fail
            go_meet
            case rel => exact ⟨L9, Y9, K9⟩
      case rest =>
        obtain ⟨L9, Y9, K9⟩ := hcut
        clear h3 hb HY9a HK9a HL9a HB9
        have HL9 := Lib.hid L9
        clear L9
        go_wp2_with fail
        go_loopw [107] (fun iv wv => ∃ j : Nat, iv = .int .i64 (j : Int) ∧ j ≤ G.length ∧ LAt (Fat F w w6) wv g (growAll L3 (G.take j)) ∧ Yes wv w.heap.size (some ⟨gb, 0, none⟩) c6 G ∧ Kept (fun k => k = g) w6 wv) (fun iv _ => G.length - (intOf iv).toNat)
        case atStart => exact ⟨0, rfl, Nat.zero_le _, by rw [List.take_zero]; exact HL9.out, Y9, K9⟩
        case round =>
          obtain ⟨j, rfl, hj, hLj, hYj, hKj⟩ := hrel
          clear Y9 K9 HL9
          have hgb : ∀ ad, some (⟨gb, 0, none⟩ : Addr) = some ad → ¬ ad.block = g := fun ad ha e => by have := ownblk hYj ha; omega
          by_cases hjl : j < G.length
          · have hjl' : (j : Int) < (G.length : Int) := by omega
            have g2 : IntKind.i64.wrap ((j : Int) + 1) = (j : Int) + 1 := by rw [IntKind.wrap_i64]; omega
            obtain ⟨sb2, hsb2, e0, e1, e2, e3, s1, s2⟩ := own_pk hYj rfl hjl
            cases hsb2
            have HG : Hid (growAll L3 (G.take (j + 1)) = (growAll L3 (G.take j)).grown G[j]) := Lib.hid (by rw [List.take_succ_eq_append_getElem hjl, growAll_snoc])
            have hwb := hW j hj
            have hpb := hpk _ (List.getElem_mem hjl)
            generalize growAll L3 (G.take j) = Lj at HG hwb hLj
            generalize G[j] = p at HG hpb e0 e1 e2 e3
            have hal : Below wr.heap.size wr (wr.alloc (.cells #[.int .i64 p.num, .int .i64 p.size, .int .i64 p.at_, .bool p.el] 68)) := (Below.refl _ _).alloc (Nat.le_refl _) _
            have HGr := Lib.hid (grow_any _ (hLj.below hal) p hwb ⟨hpb.2.2.1, hpb.2.2.2.1⟩)
            have HYa := Lib.hid (own_below hYj hal)
            have HKa := Lib.hid (hKj.trans (Kept.of_below (X := none') hal) (fun _ _ h => h.elim))
            clear hLj hYj hKj hal
            go_wp2_with fail
            refine HGr.out.mono ?_
            rintro e w2 ⟨rfl, hk2, hL2⟩
            go_wp2
            go_roundw
            case rel => exact ⟨j + 1, by push_cast; rfl, by omega, by rw [HG.out]; exact hL2, own_kept' HYa.out hk2 hgb, HKa.out.trans hk2 (fun _ _ e => e)⟩
            case measure => simp [intOf]; omega
          · obtain rfl : j = G.length := by omega
            rw [List.take_length] at hLj
            obtain ⟨c25, f25⟩ := hLj.cell 25 (v := .int .i64 (growAll L3 G).probes) (fun _ _ _ _ _ _ => rfl)
            obtain ⟨k5, L5⟩ := hLj.set' (L' := { growAll L3 G with probes := 0 }) 25 (.int .i64 0) rfl rfl rfl (fun _ _ _ _ _ _ => rfl)
            have Y5 : Yes _ w.heap.size (some ⟨gb, 0, none⟩) c6 G := own_kept' hYj k5 hgb
            have HN := Lib.hid (numbers_any _ Y5 hGl)
            have hlost : (({ growAll L3 G with probes := 0 } : Lo).s1.out.filter ({ growAll L3 G with probes := 0 } : Lo).ask1).length ≤ 4096 := Nat.le_trans (List.length_filter_le _ _) hq5.b1.len
            have HFd := Lib.hid (fun w' (hb : Below (wr.setCell ⟨g, 25, none⟩ (.int .i64 0)).heap.size (wr.setCell ⟨g, 25, none⟩ (.int .i64 0)) w') => find_1 w' (L5.below hb) hq5)
            have zz5 : (wr.setCell ⟨g, 25, none⟩ (.int .i64 0)).heap.size = wr.heap.size := by simp [World.setCell]
            have HK5 := Lib.hid (hKj.trans k5 (fun _ _ e => e))
            have zKj := hKj.size
            generalize (growAll L3 G).probes = pr at c25
            obtain ⟨Lf, hLf⟩ : ∃ Lf : Lo, Lf = { growAll L3 G with probes := 0 } := ⟨_, rfl⟩
            rw [← hLf] at HFd hlost
            obtain ⟨lost, hlo⟩ : ∃ lost, lost = Lf.s1.out.filter Lf.ask1 := ⟨_, rfl⟩
            rw [← hlo] at HFd hlost
            have HLf := Lib.hid hLf
            have HLo := Lib.hid hlo
            have HM1 : Hid ((G.map (·.num)).length = G.length) := Lib.hid (by simp)
            have HM2 : Hid ((lost.map (·.num)).length = lost.length) := Lib.hid (by simp)
            clear hLj L5 Y5 hYj hKj k5 hLf hlo hW hq5
            go_wp2_with fail
            refine HN.out.mono ?_
            rintro e wx ⟨ax, cx, rfl, hox, hbx⟩
            have HF2 := Lib.hid (HFd.out wx hbx)
            rw [HM1.out] at hox
            have zx := hbx.size
            go_wp2_with fail
            refine HF2.out.mono ?_
            rintro e wy ⟨ay, cy, rfl, hYy, hky, hLy⟩
            have zy := hky.size
            have HN2 := Lib.hid (numbers_any wy hYy hlost)
            have hoy := own_kept' hox hky (fun ad ha e => by have := ownblk hox ha; omega)
            clear hYy HF2 hox
            go_wp2_with fail
            refine HN2.out.mono ?_
            rintro e wz ⟨az, cz, rfl, hoz, hbz⟩
            have zz := hbz.size
            rw [HM2.out] at hoz
            have HEND : Hid (wz.ownsRow w.heap.size 3 1 (.slice ax G.length cx) G.length (nums (G.map (·.num))) ∧ wz.ownsRow w.heap.size 3 1 (.slice az lost.length cz) lost.length (nums (lost.map (·.num))) ∧ Kept (fun k => k = g) w wz ∧ LAt (Fat F w wz) wz g Lf.found1) := Lib.hid ⟨own_mono (own_below hoy hbz) (by omega), own_mono hoz (by omega), (((K6.trans HK5.out (fun _ _ e => e)).trans (Kept.of_below (X := none') hbx) (fun _ _ h => h.elim)).trans hky (fun _ _ e => e)).trans (Kept.of_below (X := none') hbz) (fun _ _ h => h.elim), (hLy.below hbz).more (fun k h _ => by
              rcases h with (h | h) | h
              · exact .inl h
              · exact .inr ⟨h.1, by omega⟩
              · exact .inr ⟨by omega, by omega⟩)⟩
            clear hoy hbz hLy hky hbx
            go_wp2
            go_ret3
            have ef := HLf.out
            subst ef
            have el := HLo.out
            subst el
            exact ⟨ax, cx, az, cz, rfl, HEND.out⟩

set_option maxRecDepth 100000 in
set_option maxHeartbeats 4000000 in
theorem ack_none2 (w : World) {F : Nat → Prop} {g : Nat} {L : Lo} (hL : LAt F w g L) (hq : LoB L) {B : Nat} {a : Option Addr} {c : Nat} {l : List Sn} (hS : Sps w B a c l) (delay now : Int) (ht : L.now ≤ now ∧ now ≤ 1099511627776) (hr : rightS l L.s2.high = true) (hd : 0 ≤ delay ∧ delay ≤ 4611686018427387903)
    (hgot : L.s2.out.filter (askOf l) = []) (hsg : ∀ ad, a = some ad → ad.block ≠ g) :
    Calls Try.prog 15 #[.pointer (some ⟨g, 0, none⟩), .int .i64 2, .slice a l.length c, .int .i64 delay, .int .i64 now] w fun e w' => e = .returned (.tuple #[.slice none 0 0, .slice none 0 0, .int .i64 0]) ∧ Kept (fun k => k = g) w w' ∧ LAt (Fat F w w') w' g ((L.at' now).cut2 (askOf l)) := by
  obtain ⟨hl0, hl64, _, _, _⟩ := rightS_is hr
  have hgz := hL.lt
  have hFg := hL.fg
  have HSpc : Hid (∀ w', Calls Try.prog 21 #[.int .i64 2] w' fun e w'' => e = .returned (.bool true) ∧ w' = w'') := Lib.hid (fun w' => rightSpace_any w' 2)
  have halw : Below w.heap.size w (w.alloc (.cells #[.slice a l.length c] 40)) := (Below.refl _ _).alloc (Nat.le_refl _) _
  have Hbx : Has (w.alloc (.cells #[.slice a l.length c] 40)) w.heap.size 40 [.slice a l.length c] := Has.new _ _ _
  obtain ⟨wa, hwa⟩ : ∃ wa, wa = w.alloc (.cells #[.slice a l.length c] 40) := ⟨_, rfl⟩
  rw [← hwa] at halw Hbx
  have La := hL.below halw
  have Sa : Sps wa B a c l := own_below hS halw
  have HT := Lib.hid (rightTime_any wa La now)
  rw [decide_eq_true ht] at HT
  have HRs := Lib.hid (fun w' (hb : Below wa.heap.size wa w') => rightSpans_any w' (own_below Sa hb : Sps w' B a c l) (by omega) L.s2.high hq.b2.high)
  rw [hr] at HRs
  have bx := Hbx.cell 0 rfl
  have hhigh : wa.cell? ⟨g, 12, none⟩ = some (.int .i64 L.s2.high) := (La.cell 12 (fun _ _ _ _ _ _ => rfl)).1
  obtain ⟨c16, f16⟩ := La.cell 16 (v := .int .i64 L.now) (fun _ _ _ _ _ _ => rfl)
  have d1 : ¬ delay < 0 := by omega
  have d2 : ¬ 4611686018427387903 < delay := by omega
  have nbx : ¬ w.heap.size = g := by omega
  have hSg : ∀ ad, a = some ad → ¬ ad.block = g := hsg
  obtain ⟨G, hG⟩ : ∃ G, G = L.s2.out.filter (askOf l) := ⟨_, rfl⟩
  have HSp : Hid (∀ w4, Below wa.heap.size wa w4 → Calls Try.prog 26 #[.pointer (some ⟨g, 11, none⟩), .func (.func 27) #[] #[.pointer (some ⟨w.heap.size, 0, none⟩)]] (w4.setCell ⟨g, 16, none⟩ (.int .i64 now)) fun e w' => ∃ a c, e = .returned (.slice a G.length c) ∧ Yes w' w4.heap.size a c G ∧ Kept (fun k => k = g) w4 w' ∧ LAt (Fat F w4 w') w' g ((L.at' now).cut2 (askOf l)) ∧ (∀ ad, a = some ad → ad.block < w'.heap.size)) := Lib.hid (fun w4 hb => by
    have z : (w4.setCell ⟨g, 16, none⟩ (.int .i64 now)).heap.size = w4.heap.size := by simp [World.setCell]
    have ks := Kept.set w4 g 16 (.int .i64 now)
    have := split_A2 (w4.setCell ⟨g, 16, none⟩ (.int .i64 now)) (((La.below hb).set (L' := L.at' now) 16 (.int .i64 now) rfl rfl rfl (fun _ _ _ _ _ _ => rfl)).2) hq.b2.len (askOf l) w.heap.size (fun w' p hb' _ => by
      have S5 : Sps w' B a c l := own_below (own_kept' (own_below Sa hb) ks hSg) hb'
      have B5 := (((Hbx.kept (Kept.of_below (X := none') hb) (fun h => h)).kept ks nbx).kept (Kept.of_below (X := none') hb') (fun h => h)).cell 0 rfl
      exact got_any w' S5 (by omega) p w.heap.size B5)
    refine this.mono ?_
    rintro e w' ⟨a, c, h1, h2, h3, h4, h5⟩
    have e0 : (L.at' now).s2.out.filter (askOf l) = G := hG.symm
    rw [e0] at h1 h2
    rw [z] at h2
    exact ⟨a, c, h1, h2, ks.trans h3 (fun _ _ e => e), h4.more (fun k hk _ => hk.elim .inl (fun h => .inr ⟨by omega, h.2⟩)), h5⟩)
  have HLa := Lib.hid La
  have HSa := Lib.hid Sa
  have HBx := Lib.hid Hbx
  have HQ := Lib.hid hq
  have HWA := Lib.hid hwa
  clear hL ht hr hd La Sa Hbx hq hS
  rw [hgot] at hG
  subst hG
  clear hgot
  go_enter Try.func15, Try.ntmps15
  go_wp2_with fail
  rw [← hwa]
  clear hwa
  refine (HSpc.out wa).mono ?_
  rintro e w2 ⟨rfl, rfl⟩
  go_wp2_with fail
  refine HT.out.mono ?_
  rintro e w3 ⟨rfl, rfl⟩
  go_wp2_with fail
  have bxd : wa.drew.cell? ⟨w.heap.size, 0, none⟩ = some (.slice a l.length c) := bx
  have hid : wa.drew.cell? ⟨g, 12, none⟩ = some (.int .i64 L.s2.high) := hhigh
  have hd1 : Below wa.heap.size wa wa.drew := below_drewN (Below.refl _ wa) 1
  refine Mx.region [] (fun w' => w'.cell? ⟨w.heap.size, 0, none⟩ = some (.slice a l.length c) ∧ w'.cell? ⟨g, 12, none⟩ = some (.int .i64 L.s2.high)) (by kernel_rfl) (by kernel_rfl) ⟨bxd, hid⟩ ?_
  repeat ((first | (refine Mx.skips (by kernel_rfl) ?_; go_big_quiet_skip) | (refine Mx.quietly rfl ?_; go_big_quiet_want; go_big_quiet_op; go_big_quiet_on)); refine Mx.done ?_)
  refine Mx.cell ⟨w.heap.size, 0, none⟩ (.slice a l.length c) (by kernel_rfl) (by kernel_rfl) (by kernel_rfl) Try.isAgg40 (fun w' h => h.1) ?_
  go_big_quiet_want; go_big_quiet_op; go_big_quiet_on; refine Mx.done ?_
  repeat ((first | (refine Mx.skips (by kernel_rfl) ?_; go_big_quiet_skip) | (refine Mx.quietly rfl ?_; go_big_quiet_want; go_big_quiet_op; go_big_quiet_on)); refine Mx.done ?_)
  refine Mx.cell ⟨g, 12, none⟩ (.int .i64 L.s2.high) (by kernel_rfl) (by kernel_rfl) (by kernel_rfl) Try.isAgg3 (fun w' h => h.2) ?_
  go_big_quiet_want; go_big_quiet_op; go_big_quiet_on; refine Mx.done ?_
  repeat ((first | (refine Mx.skips (by kernel_rfl) ?_; go_big_quiet_skip) | (refine Mx.quietly rfl ?_; go_big_quiet_want; go_big_quiet_op; go_big_quiet_on)); refine Mx.done ?_)
  refine Mx.loudly (by kernel_rfl) (by kernel_rfl) ?_
  go_wp2_with fail
  refine (HRs.out _ hd1).mono ?_
  rintro e w4 ⟨rfl, hb4⟩
  have b4 := hd1.trans hb4
  have bx4 : w4.cell? ⟨w.heap.size, 0, none⟩ = some (.slice a l.length c) := (b4.cell (World.block_lt_of_cell? _ _ bx)).trans bx
  have hi4 : w4.cell? ⟨g, 12, none⟩ = some (.int .i64 L.s2.high) := (b4.cell (World.block_lt_of_cell? _ _ hhigh)).trans hhigh
  have c164 : w4.cell? ⟨g, 16, none⟩ = some (.int .i64 L.now) := (b4.cell (World.block_lt_of_cell? _ _ c16)).trans c16
  have f164 : w4.frozen? ⟨g, 16, none⟩ = false := ((HLa.out.below b4).cell 16 (v := .int .i64 L.now) (fun _ _ _ _ _ _ => rfl)).2
  have HSp4 := Lib.hid (HSp.out w4 b4)
  go_wp2_with fail
  repeat ((first | (refine Mx.skips (by kernel_rfl) ?_; go_big_quiet_skip) | (refine Mx.quietly rfl ?_; go_big_quiet_want; go_big_quiet_op; go_big_quiet_on)); refine Mx.done ?_)
  refine Mx.nil ?_
  go_wp2_with fail
  refine HSp4.out.mono ?_
  rintro e w6 ⟨a6, c6, rfl, hY6, hk6, hL6, _⟩
  have z4 := b4.size
  have zw := halw.size
  go_wp2
  go_ret3
  exact ⟨rfl, ((Kept.of_below halw).trans (Kept.of_below (X := none') b4) (fun _ _ h => h.elim)).trans hk6 (fun _ _ e => e), hL6.more (fun k h _ => h.elim .inl (fun h => .inr ⟨by omega, h.2⟩))⟩

set_option maxRecDepth 100000 in
set_option maxHeartbeats 8000000 in
theorem ack_got2 (w : World) {F : Nat → Prop} {g : Nat} {L : Lo} (hL : LAt F w g L) (hq : LoB L) {B : Nat} {a : Option Addr} {c : Nat} {l : List Sn} (hS : Sps w B a c l) (delay now : Int) (ht : L.now ≤ now ∧ now ≤ 1099511627776) (hr : rightS l L.s2.high = true) (hd : 0 ≤ delay ∧ delay ≤ 4611686018427387903)
    (hsg : ∀ ad, a = some ad → ad.block ≠ g) {G' : List Pk} (hG' : G' = L.s2.out.filter (askOf l)) {top : Pk} (htop : G'[G'.length - 1]? = some top) {en : Int} (hen : l[l.length - 1]?.map (·.to_) = some en) {L3 : Lo}
    (h3 : L3 = if top.num = en ∧ G'.any (·.el) = true then smp (L.a22 l now en) (now - top.at_) (min delay L.most) else L.a22 l now en)
    (hW : ∀ j, j ≤ G'.length → 2400 ≤ (growAll L3 (G'.take j)).window ∧ (growAll L3 (G'.take j)).window ≤ 1152921504606846976) (hq5 : LoB { growAll L3 G' with probes := 0 }) :
    Calls Try.prog 15 #[.pointer (some ⟨g, 0, none⟩), .int .i64 2, .slice a l.length c, .int .i64 delay, .int .i64 now] w fun e w' => ∃ a1 c1 a2 c2, e = .returned (.tuple #[.slice a1 G'.length c1, .slice a2 (({ growAll L3 G' with probes := 0 } : Lo).s2.out.filter ({ growAll L3 G' with probes := 0 } : Lo).ask2).length c2, .int .i64 0]) ∧
      w'.ownsRow w.heap.size 3 1 (.slice a1 G'.length c1) G'.length (nums (G'.map (·.num))) ∧ w'.ownsRow w.heap.size 3 1 (.slice a2 (({ growAll L3 G' with probes := 0 } : Lo).s2.out.filter ({ growAll L3 G' with probes := 0 } : Lo).ask2).length c2) (({ growAll L3 G' with probes := 0 } : Lo).s2.out.filter ({ growAll L3 G' with probes := 0 } : Lo).ask2).length (nums ((({ growAll L3 G' with probes := 0 } : Lo).s2.out.filter ({ growAll L3 G' with probes := 0 } : Lo).ask2).map (·.num))) ∧ Kept (fun k => k = g) w w' ∧ LAt (Fat F w w') w' g ({ growAll L3 G' with probes := 0 } : Lo).found2 := by
  have hpk := fun p (hp : p ∈ G') => hq.b2.pk p (by rw [hG'] at hp; exact (List.mem_filter.1 hp).1)
  have htn := ht
  have hqm := hq.most
  have hql : 0 ≤ L.least ∧ L.least ≤ 1099511627776 := by have := hq.least; have := hq.latest; omega
  have hqs := hq.smooth
  have hqv := hq.vary
  have hqn := hq.now
  have hqa := hq.b2.acked
  have hqh := hq.b2.high
  have hGl : G'.length ≤ 4096 := by rw [hG']; exact Nat.le_trans (List.length_filter_le _ _) hq.b2.len
  obtain ⟨hl0, hl64, _, _, _⟩ := rightS_is hr
  have hgz := hL.lt
  have hFg := hL.fg
  have HSpc : Hid (∀ w', Calls Try.prog 21 #[.int .i64 2] w' fun e w'' => e = .returned (.bool true) ∧ w' = w'') := Lib.hid (fun w' => rightSpace_any w' 2)
  have halw : Below w.heap.size w (w.alloc (.cells #[.slice a l.length c] 40)) := (Below.refl _ _).alloc (Nat.le_refl _) _
  have Hbx : Has (w.alloc (.cells #[.slice a l.length c] 40)) w.heap.size 40 [.slice a l.length c] := Has.new _ _ _
  obtain ⟨wa, hwa⟩ : ∃ wa, wa = w.alloc (.cells #[.slice a l.length c] 40) := ⟨_, rfl⟩
  rw [← hwa] at halw Hbx
  have La := hL.below halw
  have Sa : Sps wa B a c l := own_below hS halw
  have HT := Lib.hid (rightTime_any wa La now)
  rw [decide_eq_true ht] at HT
  have HRs := Lib.hid (fun w' (hb : Below wa.heap.size wa w') => rightSpans_any w' (own_below Sa hb : Sps w' B a c l) (by omega) L.s2.high hq.b2.high)
  rw [hr] at HRs
  have bx := Hbx.cell 0 rfl
  have hhigh : wa.cell? ⟨g, 12, none⟩ = some (.int .i64 L.s2.high) := (La.cell 12 (fun _ _ _ _ _ _ => rfl)).1
  obtain ⟨c16, f16⟩ := La.cell 16 (v := .int .i64 L.now) (fun _ _ _ _ _ _ => rfl)
  have d1 : ¬ delay < 0 := by omega
  have d2 : ¬ 4611686018427387903 < delay := by omega
  have nbx : ¬ w.heap.size = g := by omega
  have hSg : ∀ ad, a = some ad → ¬ ad.block = g := hsg
  obtain ⟨G, hG⟩ : ∃ G, G = L.s2.out.filter (askOf l) := ⟨_, rfl⟩
  have HSp : Hid (∀ w4, Below wa.heap.size wa w4 → Calls Try.prog 26 #[.pointer (some ⟨g, 11, none⟩), .func (.func 27) #[] #[.pointer (some ⟨w.heap.size, 0, none⟩)]] (w4.setCell ⟨g, 16, none⟩ (.int .i64 now)) fun e w' => ∃ a c, e = .returned (.slice a G.length c) ∧ Yes w' w4.heap.size a c G ∧ Kept (fun k => k = g) w4 w' ∧ LAt (Fat F w4 w') w' g ((L.at' now).cut2 (askOf l)) ∧ (∀ ad, a = some ad → ad.block < w'.heap.size)) := Lib.hid (fun w4 hb => by
    have z : (w4.setCell ⟨g, 16, none⟩ (.int .i64 now)).heap.size = w4.heap.size := by simp [World.setCell]
    have ks := Kept.set w4 g 16 (.int .i64 now)
    have := split_A2 (w4.setCell ⟨g, 16, none⟩ (.int .i64 now)) (((La.below hb).set (L' := L.at' now) 16 (.int .i64 now) rfl rfl rfl (fun _ _ _ _ _ _ => rfl)).2) hq.b2.len (askOf l) w.heap.size (fun w' p hb' _ => by
      have S5 : Sps w' B a c l := own_below (own_kept' (own_below Sa hb) ks hSg) hb'
      have B5 := (((Hbx.kept (Kept.of_below (X := none') hb) (fun h => h)).kept ks nbx).kept (Kept.of_below (X := none') hb') (fun h => h)).cell 0 rfl
      exact got_any w' S5 (by omega) p w.heap.size B5)
    refine this.mono ?_
    rintro e w' ⟨a, c, h1, h2, h3, h4, h5⟩
    have e0 : (L.at' now).s2.out.filter (askOf l) = G := hG.symm
    rw [e0] at h1 h2
    rw [z] at h2
    exact ⟨a, c, h1, h2, ks.trans h3 (fun _ _ e => e), h4.more (fun k hk _ => hk.elim .inl (fun h => .inr ⟨by omega, h.2⟩)), h5⟩)
  have HLa := Lib.hid La
  have HSa := Lib.hid Sa
  have HBx := Lib.hid Hbx
  have HQ := Lib.hid hq
  have HWA := Lib.hid hwa
  clear hL ht hr hd La Sa Hbx hq hS
  obtain rfl : G = G' := by rw [hG, hG']
  have hn0 : 0 < G.length := by
    cases hg0 : G with
    | nil => rw [hg0] at htop; simp at htop
    | cons x r => simp
  clear hG hG'
  go_enter Try.func15, Try.ntmps15
  go_wp2_with fail
  rw [← hwa]
  clear hwa
  refine (HSpc.out wa).mono ?_
  rintro e w2 ⟨rfl, rfl⟩
  go_wp2_with fail
  refine HT.out.mono ?_
  rintro e w3 ⟨rfl, rfl⟩
  go_wp2_with fail
  have bxd : wa.drew.cell? ⟨w.heap.size, 0, none⟩ = some (.slice a l.length c) := bx
  have hid : wa.drew.cell? ⟨g, 12, none⟩ = some (.int .i64 L.s2.high) := hhigh
  have hd1 : Below wa.heap.size wa wa.drew := below_drewN (Below.refl _ wa) 1
  refine Mx.region [] (fun w' => w'.cell? ⟨w.heap.size, 0, none⟩ = some (.slice a l.length c) ∧ w'.cell? ⟨g, 12, none⟩ = some (.int .i64 L.s2.high)) (by kernel_rfl) (by kernel_rfl) ⟨bxd, hid⟩ ?_
  repeat ((first | (refine Mx.skips (by kernel_rfl) ?_; go_big_quiet_skip) | (refine Mx.quietly rfl ?_; go_big_quiet_want; go_big_quiet_op; go_big_quiet_on)); refine Mx.done ?_)
  refine Mx.cell ⟨w.heap.size, 0, none⟩ (.slice a l.length c) (by kernel_rfl) (by kernel_rfl) (by kernel_rfl) Try.isAgg40 (fun w' h => h.1) ?_
  go_big_quiet_want; go_big_quiet_op; go_big_quiet_on; refine Mx.done ?_
  repeat ((first | (refine Mx.skips (by kernel_rfl) ?_; go_big_quiet_skip) | (refine Mx.quietly rfl ?_; go_big_quiet_want; go_big_quiet_op; go_big_quiet_on)); refine Mx.done ?_)
  refine Mx.cell ⟨g, 12, none⟩ (.int .i64 L.s2.high) (by kernel_rfl) (by kernel_rfl) (by kernel_rfl) Try.isAgg3 (fun w' h => h.2) ?_
  go_big_quiet_want; go_big_quiet_op; go_big_quiet_on; refine Mx.done ?_
  repeat ((first | (refine Mx.skips (by kernel_rfl) ?_; go_big_quiet_skip) | (refine Mx.quietly rfl ?_; go_big_quiet_want; go_big_quiet_op; go_big_quiet_on)); refine Mx.done ?_)
  refine Mx.loudly (by kernel_rfl) (by kernel_rfl) ?_
  go_wp2_with fail
  refine (HRs.out _ hd1).mono ?_
  rintro e w4 ⟨rfl, hb4⟩
  have b4 := hd1.trans hb4
  have bx4 : w4.cell? ⟨w.heap.size, 0, none⟩ = some (.slice a l.length c) := (b4.cell (World.block_lt_of_cell? _ _ bx)).trans bx
  have hi4 : w4.cell? ⟨g, 12, none⟩ = some (.int .i64 L.s2.high) := (b4.cell (World.block_lt_of_cell? _ _ hhigh)).trans hhigh
  have c164 : w4.cell? ⟨g, 16, none⟩ = some (.int .i64 L.now) := (b4.cell (World.block_lt_of_cell? _ _ c16)).trans c16
  have f164 : w4.frozen? ⟨g, 16, none⟩ = false := ((HLa.out.below b4).cell 16 (v := .int .i64 L.now) (fun _ _ _ _ _ _ => rfl)).2
  have HSp4 := Lib.hid (HSp.out w4 b4)
  go_wp2_with fail
  repeat ((first | (refine Mx.skips (by kernel_rfl) ?_; go_big_quiet_skip) | (refine Mx.quietly rfl ?_; go_big_quiet_want; go_big_quiet_op; go_big_quiet_on)); refine Mx.done ?_)
  refine Mx.nil ?_
  go_wp2_with fail
  refine HSp4.out.mono ?_
  rintro e w6 ⟨a6, c6, rfl, hY6, hk6, hL6, _⟩
  have z4 := b4.size
  have zw := halw.size
  have z6 := hk6.size
  have bx6 : w6.cell? ⟨w.heap.size, 0, none⟩ = some (.slice a l.length c) := hk6.cell bx4 nbx
  have S6 : Sps w6 B a c l := own_kept' (own_below HSa.out b4) hk6 hSg
  have hnI : ¬ ((G.length : Int) = 0) := by omega
  have hnb : ((G.length : Int) == 0) = false := by rw [beq_eq_false_iff_ne]; exact hnI
  have hGI : (G.length : Int) ≤ 4096 := by omega
  have hlI : (l.length : Int) ≤ 64 := by omega
  have hl1 : l.length - 1 < l.length := by omega
  have hn1 : G.length - 1 < G.length := by omega
  rw [List.getElem?_eq_getElem hl1] at hen
  rw [List.getElem?_eq_getElem hn1] at htop
  simp only [Option.map_some, Option.some.injEq] at hen htop
  obtain ⟨sb, hsb, t0, t1, t2, t3⟩ := own_sn S6 rfl hl1
  rw [hen] at t1
  have i1 : IntKind.i64.wrap ((l.length : Int) - 1) = (l.length : Int) - 1 := by rw [IntKind.wrap_i64]; omega
  have i2 : ((l.length : Int) - 1).toNat = l.length - 1 := by omega
  have i3 : IntKind.i64.wrap ((G.length : Int) - 1) = (G.length : Int) - 1 := by rw [IntKind.wrap_i64]; omega
  have i4 : ((G.length : Int) - 1).toNat = G.length - 1 := by omega
  have i5 : (l.length : Int) ≤ (c : Int) := by omega
  -- the greatest acknowledged
  have cA := (hL6.cell 13 (v := .int .i64 L.s2.acked) (fun _ _ _ _ _ _ => rfl)).1
  have cAf := (hL6.cell 13 (v := .int .i64 L.s2.acked) (fun _ _ _ _ _ _ => rfl)).2
  have hF4 : ∀ k, Fat F w4 w6 k → Fat F w w6 k := fun k hk => hk.elim .inl (fun h => .inr ⟨by omega, h.2⟩)
  have K6 : Kept (fun k => k = g) w w6 := ((Kept.of_below halw).trans (Kept.of_below (X := none') b4) (fun _ _ h => h.elim)).trans hk6 (fun _ _ e => e)
  have L6' : LAt (Fat F w w6) w6 g ((L.at' now).cut2 (askOf l)) := hL6.more (fun k h _ => hF4 k h)
  have Y6 : Yes w6 w.heap.size a6 c6 G := own_mono hY6 (by omega)
  subst hsb
  have hG0 := hgz
  clear hL6 hY6 hk6 HSp4 HSp HRs HT HSpc HLa HSa HBx HQ HWA hF4 bx hhigh c16 f16 bx4 hi4 c164 f164 b4 halw hd1
  have hcs : (L.s2.acked < en ∧ (if L.s2.acked < en then en else L.s2.acked) = en) ∨ (¬ L.s2.acked < en ∧ (if L.s2.acked < en then en else L.s2.acked) = L.s2.acked) := by
    by_cases hh : L.s2.acked < en
    · exact .inl ⟨hh, if_pos hh⟩
    · exact .inr ⟨hh, if_neg hh⟩
  go_upto_region 15 with fail
  go_cut [] (fun wc => wc = w6.setCell ⟨g, 13, none⟩ (.int .i64 (if L.s2.acked < en then en else L.s2.acked)))
  case first =>
    rcases hcs with ⟨mA, hX⟩ | ⟨mA, hX⟩
    · clear h3
      go_wp2_with fail
      go_meet
      case rel => rw [hX]
    · clear h3
      go_wp2_with fail
      go_meet
      case rel => rw [hX]
  case rest =>
    subst hcut
    obtain ⟨am, hX⟩ : ∃ am, (if L.s2.acked < en then en else L.s2.acked) = am := ⟨_, rfl⟩
    rw [hX]
    clear hcs cA cAf
    have ks := Kept.set w6 g 13 (.int .i64 am)
    have L7 : LAt (Fat F w w6) (w6.setCell ⟨g, 13, none⟩ (.int .i64 am)) g (L.a22 l now en) := by
      have e : L.a22 l now en = { (L.at' now).cut2 (askOf l) with s2 := { ((L.at' now).cut2 (askOf l)).s2 with acked := am } } := by
        unfold Lo.a22 Lo.acked2
        rw [show ((L.at' now).cut2 (askOf l)).s2.acked = L.s2.acked from rfl, hX]
      rw [e]
      obtain ⟨a0, c0, a1, c1, a2, c2, hb, f, f0, f1, f2⟩ := L6'
      exact ⟨a0, c0, a1, c1, a2, c2, hb.set 13 (.int .i64 am) rfl rfl rfl rfl, f, f0, f1, f2⟩
    have Y7 : Yes (w6.setCell ⟨g, 13, none⟩ (.int .i64 am)) w.heap.size a6 c6 G := own_kept' Y6 ks (fun ad ha e => by have := ownblk Y6 ha; omega)
    have K7 : Kept (fun k => k = g) w6 (w6.setCell ⟨g, 13, none⟩ (.int .i64 am)) := ks
    have z7 : (w6.setCell ⟨g, 13, none⟩ (.int .i64 am)).heap.size = w6.heap.size := by simp [World.setCell]
    obtain ⟨gb, hgb, tp0, tp1, tp2, tp3, tc1, tc2⟩ := own_pk Y7 rfl hn1
    rw [htop] at tp0 tp1 tp2 tp3
    have tI : (G.length : Int) ≤ (c6 : Int) := by omega
    have hal8 : Below (w6.setCell ⟨g, 13, none⟩ (.int .i64 am)).heap.size (w6.setCell ⟨g, 13, none⟩ (.int .i64 am)) ((w6.setCell ⟨g, 13, none⟩ (.int .i64 am)).alloc (.cells #[.int .i64 top.num, .int .i64 top.size, .int .i64 top.at_, .bool top.el] 68)) := (Below.refl _ _).alloc (Nat.le_refl _) _
    have H8 : Has ((w6.setCell ⟨g, 13, none⟩ (.int .i64 am)).alloc (.cells #[.int .i64 top.num, .int .i64 top.size, .int .i64 top.at_, .bool top.el] 68)) w6.heap.size 68 [.int .i64 top.num, .int .i64 top.size, .int .i64 top.at_, .bool top.el] := by
      have := Has.new (w6.setCell ⟨g, 13, none⟩ (.int .i64 am)) 68 #[.int .i64 top.num, .int .i64 top.size, .int .i64 top.at_, .bool top.el]
      rw [z7] at this
      exact this
    have L8 := L7.below hal8
    have Y8 : Yes _ w.heap.size a6 c6 G := own_below Y7 hal8
    have K8 := K7.trans (Kept.of_below (X := none') hal8) (fun _ _ h => h.elim)
    obtain ⟨w8, hw8⟩ : ∃ w8, w8 = ((w6.setCell ⟨g, 13, none⟩ (.int .i64 am)).alloc (.cells #[.int .i64 top.num, .int .i64 top.size, .int .i64 top.at_, .bool top.el] 68)) := ⟨_, rfl⟩
    rw [← hw8] at H8 L8 Y8 K8
    have HC := Lib.hid (containsEl2_any _ (own_mono Y8 (Nat.zero_le _)) (by omega))
    subst hgb
    have HL8 := Lib.hid L8
    have HY8 := Lib.hid Y8
    have HK8 := Lib.hid K8
    have BX8 := Lib.hid H8
    have x0 : w8.cell? ⟨w6.heap.size, 0, none⟩ = some (.int .i64 top.num) := H8.cell 0 rfl
    have HW8 := Lib.hid hw8
    clear L7 Y7 K7 L8 Y8 K8 H8 L6' ks hX hal8 hw8
    go_upto_region 17 with fail
    rw [← HW8.out]
    go_cut [90] (fun s90 wc => s90 = .bool (decide (top.num = en) && G.any (·.el)) ∧ Below w8.heap.size w8 wc)
    case first =>
      by_cases hte : top.num = en
      · have hteb : (top.num == en) = true := by rw [hte]; simp
        have hted : decide (top.num = en) = true := decide_eq_true hte
        clear hte h3
        cases hany : G.any (·.el)
        · have HCf := HC
          rw [hany] at HCf
          have HA := Lib.hid hany
          clear hany
          go_wp2_with fail
          refine HCf.out.mono ?_
          rintro e w9 ⟨rfl, hb9⟩
          go_wp2_with fail
          go_meet
          case rel => exact ⟨by rw [hted, HA.out]; rfl, hb9⟩
        · have HCf := HC
          rw [hany] at HCf
          have HA := Lib.hid hany
          clear hany
          go_wp2_with fail
          refine HCf.out.mono ?_
          rintro e w9 ⟨rfl, hb9⟩
          go_wp2_with fail
          go_meet
          case rel => exact ⟨by rw [hted, HA.out]; rfl, hb9⟩
      · have hteb : (top.num == en) = false := by rw [beq_eq_false_iff_ne]; exact hte
        have hted : decide (top.num = en) = false := decide_eq_false hte
        clear hte h3
        go_wp2_with fail
        go_meet
        case rel => exact ⟨by rw [hted]; rfl, Below.refl _ _⟩
    case rest =>
      obtain ⟨rfl, hb9⟩ := hcut
      obtain ⟨w9, hw9⟩ : ∃ w9, w9 = wc := ⟨_, rfl⟩
      subst hw9
      obtain ⟨b, hb⟩ : ∃ b, b = (decide (top.num = en) && G.any (·.el)) := ⟨_, rfl⟩
      rw [← hb]
      have Y9a := own_below HY8.out hb9
      have K9a := HK8.out.trans (Kept.of_below (X := none') hb9) (fun _ _ h => h.elim)
      have L9a := HL8.out.below hb9
      have B9 := BX8.out.kept (Kept.of_below (X := none') hb9) (fun h => h)
      have HY9a := Lib.hid Y9a
      have HK9a := Lib.hid K9a
      have HL9a := Lib.hid L9a
      have HB9 := Lib.hid B9
      clear Y9a K9a L9a B9 hb9 x0 HL8 HY8 HK8 BX8 HW8 HC
      go_upto_if 90 with fail
      go_cut [] (fun wc => LAt (Fat F w w6) wc g L3 ∧ Yes wc w.heap.size (some ⟨gb, 0, none⟩) c6 G ∧ Kept (fun k => k = g) w6 wc)
      case first =>
        cases b
        · have HL3 : Hid (L3 = L.a22 l now en) := Lib.hid (by
            rw [h3, if_neg]
            rintro ⟨e1, e2⟩
            rw [e1, e2] at hb
            simp at hb)
          clear hb h3
          go_wp2_with fail
          go_meet
          case rel => exact ⟨by rw [HL3.out]; exact HL9a.out, HY9a.out, HK9a.out⟩
        · have HL3 : Hid (L3 = smp (L.a22 l now en) (now - top.at_) (min delay L.most)) := Lib.hid (by
            have hb' := hb.symm
            simp only [Bool.and_eq_true, decide_eq_true_eq] at hb'
            rw [h3, if_pos hb'])
          clear hb h3
          have htp := hpk top (by rw [← htop]; exact List.getElem_mem hn1)
          have fl : IntKind.i64.wrap (now - top.at_) = now - top.at_ := by rw [IntKind.wrap_i64]; omega
          obtain ⟨cv, hcv⟩ : ∃ cv, cv = min delay L.most := ⟨_, rfl⟩
          have hcc : (L.most < delay ∧ cv = L.most) ∨ (¬ L.most < delay ∧ cv = delay) := by omega
          rw [← hcv] at HL3
          clear hcv
          rcases hcc with ⟨hmm, hcv⟩ | ⟨hmm, hcv⟩
          · rw [hcv] at HL3
            clear hcv
            have L9d := HL9a.out.below (below_drewN (Below.refl _ w9) 1)
            have B9d := HB9.out.kept (Kept.of_below (X := none') (below_drewN (Below.refl _ w9) 1)) (fun h => h)
            have xat : w9.drew.cell? ⟨w6.heap.size, 2, none⟩ = some (.int .i64 top.at_) := B9d.cell 2 rfl
            have xmo : w9.drew.cell? ⟨g, 0, none⟩ = some (.int .i64 L.most) := (L9d.cell 0 (fun _ _ _ _ _ _ => rfl)).1
            have HSm := Lib.hid (smp_any w9.drew L9d (now - top.at_) L.most (by omega) (by omega) hql hqs hqv)
            have HL9d := Lib.hid L9d
            have HB9d := Lib.hid B9d
            have HYd := Lib.hid (own_below HY9a.out (below_drewN (Below.refl _ w9) 1))
            have HKd := Lib.hid (HK9a.out.trans (Kept.of_below (X := none') (below_drewN (Below.refl _ w9) 1)) (fun _ _ h => h.elim))
            clear L9d B9d
            go_wp2_with fail
            refine Mx.region [] (fun w' => w'.cell? ⟨g, 0, none⟩ = some (.int .i64 L.most) ∧ w'.cell? ⟨w6.heap.size, 2, none⟩ = some (.int .i64 top.at_)) (by kernel_rfl) (by kernel_rfl) ⟨xmo, xat⟩ ?_
            repeat ((first | (refine Mx.skips (by kernel_rfl) ?_; go_big_quiet_skip) | (refine Mx.quietly rfl ?_; go_big_quiet_want; go_big_quiet_op; go_big_quiet_on)); refine Mx.done ?_)
            refine Mx.cell ⟨w6.heap.size, 2, none⟩ (.int .i64 top.at_) (by kernel_rfl) (by kernel_rfl) (by kernel_rfl) Try.isAgg3 (fun w' h => h.2) ?_
            go_big_quiet_want; go_big_quiet_op; go_big_quiet_on; refine Mx.done ?_
            repeat ((first | (refine Mx.skips (by kernel_rfl) ?_; go_big_quiet_skip) | (refine Mx.quietly rfl ?_; go_big_quiet_want; go_big_quiet_op; go_big_quiet_on)); refine Mx.done ?_)
            refine Mx.cell ⟨g, 0, none⟩ (.int .i64 L.most) (by kernel_rfl) (by kernel_rfl) (by kernel_rfl) Try.isAgg3 (fun w' h => h.1) ?_
            go_big_quiet_want; go_big_quiet_op; go_big_quiet_on; refine Mx.done ?_
            repeat ((first | (refine Mx.skips (by kernel_rfl) ?_; go_big_quiet_skip) | (refine Mx.quietly rfl ?_; go_big_quiet_want; go_big_quiet_op; go_big_quiet_on)); refine Mx.done ?_)
            refine Mx.loudly (by kernel_rfl) (by kernel_rfl) ?_
            go_wp2_with fail
            refine HSm.out.mono ?_
            rintro e w10 ⟨rfl, hk10, hL10⟩
            have n10 : ¬ w6.heap.size = g := by omega
            have ymo : w10.cell? ⟨g, 0, none⟩ = some (.int .i64 L.most) := (hL10.cell 0 (fun _ _ _ _ _ _ => by unfold smp Lo.sample1 Lo.sample2; split <;> rfl)).1
            have yat : w10.cell? ⟨w6.heap.size, 2, none⟩ = some (.int .i64 top.at_) := (HB9d.out.kept hk10 n10).cell 2 rfl
            go_wp2_with fail
            repeat ((first | (refine Mx.skips (by kernel_rfl) ?_; go_big_quiet_skip) | (refine Mx.quietly rfl ?_; go_big_quiet_want; go_big_quiet_op; go_big_quiet_on)); refine Mx.done ?_)
            refine Mx.nil ?_
            have L9 : LAt (Fat F w w6) w10 g L3 := by rw [HL3.out]; exact hL10
            have Y9 : Yes w10 w.heap.size (some ⟨gb, 0, none⟩) c6 G := own_kept' HYd.out hk10 (fun ad ha e => by have := ownblk HYd.out ha; omega)
            have K9 := HKd.out.trans hk10 (fun _ _ e => e)
            clear ymo yat hk10 hL10
            go_wp2_with fail
            go_meet
            case rel => exact ⟨L9, Y9, K9⟩
          · rw [hcv] at HL3
            clear hcv
            have L9d := HL9a.out.below (below_drewN (Below.refl _ w9) 1)
            have B9d := HB9.out.kept (Kept.of_below (X := none') (below_drewN (Below.refl _ w9) 1)) (fun h => h)
            have xat : w9.drew.cell? ⟨w6.heap.size, 2, none⟩ = some (.int .i64 top.at_) := B9d.cell 2 rfl
            have xmo : w9.drew.cell? ⟨g, 0, none⟩ = some (.int .i64 L.most) := (L9d.cell 0 (fun _ _ _ _ _ _ => rfl)).1
            have HSm := Lib.hid (smp_any w9.drew L9d (now - top.at_) delay (by omega) (by omega) hql hqs hqv)
            have HL9d := Lib.hid L9d
            have HB9d := Lib.hid B9d
            have HYd := Lib.hid (own_below HY9a.out (below_drewN (Below.refl _ w9) 1))
            have HKd := Lib.hid (HK9a.out.trans (Kept.of_below (X := none') (below_drewN (Below.refl _ w9) 1)) (fun _ _ h => h.elim))
            clear L9d B9d
            go_wp2_with fail
            refine Mx.region [] (fun w' => w'.cell? ⟨g, 0, none⟩ = some (.int .i64 L.most) ∧ w'.cell? ⟨w6.heap.size, 2, none⟩ = some (.int .i64 top.at_)) (by kernel_rfl) (by kernel_rfl) ⟨xmo, xat⟩ ?_
            repeat ((first | (refine Mx.skips (by kernel_rfl) ?_; go_big_quiet_skip) | (refine Mx.quietly rfl ?_; go_big_quiet_want; go_big_quiet_op; go_big_quiet_on)); refine Mx.done ?_)
            refine Mx.cell ⟨w6.heap.size, 2, none⟩ (.int .i64 top.at_) (by kernel_rfl) (by kernel_rfl) (by kernel_rfl) Try.isAgg3 (fun w' h => h.2) ?_
            go_big_quiet_want; go_big_quiet_op; go_big_quiet_on; refine Mx.done ?_
            repeat ((first | (refine Mx.skips (by kernel_rfl) ?_; go_big_quiet_skip) | (refine Mx.quietly rfl ?_; go_big_quiet_want; go_big_quiet_op; go_big_quiet_on)); refine Mx.done ?_)
            refine Mx.cell ⟨g, 0, none⟩ (.int .i64 L.most) (by kernel_rfl) (by kernel_rfl) (by kernel_rfl) Try.isAgg3 (fun w' h => h.1) ?_
            go_big_quiet_want; go_big_quiet_op; go_big_quiet_on; refine Mx.done ?_
            repeat ((first | (refine Mx.skips (by kernel_rfl) ?_; go_big_quiet_skip) | (refine Mx.quietly rfl ?_; go_big_quiet_want; go_big_quiet_op; go_big_quiet_on)); refine Mx.done ?_)
            refine Mx.loudly (by kernel_rfl) (by kernel_rfl) ?_
            go_wp2_with fail
            refine HSm.out.mono ?_
            rintro e w10 ⟨rfl, hk10, hL10⟩
            have n10 : ¬ w6.heap.size = g := by omega
            have ymo : w10.cell? ⟨g, 0, none⟩ = some (.int .i64 L.most) := (hL10.cell 0 (fun _ _ _ _ _ _ => by unfold smp Lo.sample1 Lo.sample2; split <;> rfl)).1
            have yat : w10.cell? ⟨w6.heap.size, 2, none⟩ = some (.int .i64 top.at_) := (HB9d.out.kept hk10 n10).cell 2 rfl
            go_wp2_with fail
            repeat ((first | (refine Mx.skips (by kernel_rfl) ?_; go_big_quiet_skip) | (refine Mx.quietly rfl ?_; go_big_quiet_want; go_big_quiet_op; go_big_quiet_on)); refine Mx.done ?_)
            refine Mx.nil ?_
            have L9 : LAt (Fat F w w6) w10 g L3 := by rw [HL3.out]; exact hL10
            have Y9 : Yes w10 w.heap.size (some ⟨gb, 0, none⟩) c6 G := own_kept' HYd.out hk10 (fun ad ha e => by have := ownblk HYd.out ha; omega)
            have K9 := HKd.out.trans hk10 (fun _ _ e => e)
            clear ymo yat hk10 hL10
            go_wp2_with fail
            go_meet
            case rel => exact ⟨L9, Y9, K9⟩
      case rest =>
        obtain ⟨L9, Y9, K9⟩ := hcut
        clear h3 hb HY9a HK9a HL9a HB9
        have HL9 := Lib.hid L9
        clear L9
        go_wp2_with fail
        go_loopw [107] (fun iv wv => ∃ j : Nat, iv = .int .i64 (j : Int) ∧ j ≤ G.length ∧ LAt (Fat F w w6) wv g (growAll L3 (G.take j)) ∧ Yes wv w.heap.size (some ⟨gb, 0, none⟩) c6 G ∧ Kept (fun k => k = g) w6 wv) (fun iv _ => G.length - (intOf iv).toNat)
        case atStart => exact ⟨0, rfl, Nat.zero_le _, by rw [List.take_zero]; exact HL9.out, Y9, K9⟩
        case round =>
          obtain ⟨j, rfl, hj, hLj, hYj, hKj⟩ := hrel
          clear Y9 K9 HL9
          have hgb : ∀ ad, some (⟨gb, 0, none⟩ : Addr) = some ad → ¬ ad.block = g := fun ad ha e => by have := ownblk hYj ha; omega
          by_cases hjl : j < G.length
          · have hjl' : (j : Int) < (G.length : Int) := by omega
            have g2 : IntKind.i64.wrap ((j : Int) + 1) = (j : Int) + 1 := by rw [IntKind.wrap_i64]; omega
            obtain ⟨sb2, hsb2, e0, e1, e2, e3, s1, s2⟩ := own_pk hYj rfl hjl
            cases hsb2
            have HG : Hid (growAll L3 (G.take (j + 1)) = (growAll L3 (G.take j)).grown G[j]) := Lib.hid (by rw [List.take_succ_eq_append_getElem hjl, growAll_snoc])
            have hwb := hW j hj
            have hpb := hpk _ (List.getElem_mem hjl)
            generalize growAll L3 (G.take j) = Lj at HG hwb hLj
            generalize G[j] = p at HG hpb e0 e1 e2 e3
            have hal : Below wr.heap.size wr (wr.alloc (.cells #[.int .i64 p.num, .int .i64 p.size, .int .i64 p.at_, .bool p.el] 68)) := (Below.refl _ _).alloc (Nat.le_refl _) _
            have HGr := Lib.hid (grow_any _ (hLj.below hal) p hwb ⟨hpb.2.2.1, hpb.2.2.2.1⟩)
            have HYa := Lib.hid (own_below hYj hal)
            have HKa := Lib.hid (hKj.trans (Kept.of_below (X := none') hal) (fun _ _ h => h.elim))
            clear hLj hYj hKj hal
            go_wp2_with fail
            refine HGr.out.mono ?_
            rintro e w2 ⟨rfl, hk2, hL2⟩
            go_wp2
            go_roundw
            case rel => exact ⟨j + 1, by push_cast; rfl, by omega, by rw [HG.out]; exact hL2, own_kept' HYa.out hk2 hgb, HKa.out.trans hk2 (fun _ _ e => e)⟩
            case measure => simp [intOf]; omega
          · obtain rfl : j = G.length := by omega
            rw [List.take_length] at hLj
            obtain ⟨c25, f25⟩ := hLj.cell 25 (v := .int .i64 (growAll L3 G).probes) (fun _ _ _ _ _ _ => rfl)
            obtain ⟨k5, L5⟩ := hLj.set' (L' := { growAll L3 G with probes := 0 }) 25 (.int .i64 0) rfl rfl rfl (fun _ _ _ _ _ _ => rfl)
            have Y5 : Yes _ w.heap.size (some ⟨gb, 0, none⟩) c6 G := own_kept' hYj k5 hgb
            have HN := Lib.hid (numbers_any _ Y5 hGl)
            have hlost : (({ growAll L3 G with probes := 0 } : Lo).s2.out.filter ({ growAll L3 G with probes := 0 } : Lo).ask2).length ≤ 4096 := Nat.le_trans (List.length_filter_le _ _) hq5.b2.len
            have HFd := Lib.hid (fun w' (hb : Below (wr.setCell ⟨g, 25, none⟩ (.int .i64 0)).heap.size (wr.setCell ⟨g, 25, none⟩ (.int .i64 0)) w') => find_2 w' (L5.below hb) hq5)
            have zz5 : (wr.setCell ⟨g, 25, none⟩ (.int .i64 0)).heap.size = wr.heap.size := by simp [World.setCell]
            have HK5 := Lib.hid (hKj.trans k5 (fun _ _ e => e))
            have zKj := hKj.size
            generalize (growAll L3 G).probes = pr at c25
            obtain ⟨Lf, hLf⟩ : ∃ Lf : Lo, Lf = { growAll L3 G with probes := 0 } := ⟨_, rfl⟩
            rw [← hLf] at HFd hlost
            obtain ⟨lost, hlo⟩ : ∃ lost, lost = Lf.s2.out.filter Lf.ask2 := ⟨_, rfl⟩
            rw [← hlo] at HFd hlost
            have HLf := Lib.hid hLf
            have HLo := Lib.hid hlo
            have HM1 : Hid ((G.map (·.num)).length = G.length) := Lib.hid (by simp)
            have HM2 : Hid ((lost.map (·.num)).length = lost.length) := Lib.hid (by simp)
            clear hLj L5 Y5 hYj hKj k5 hLf hlo hW hq5
            go_wp2_with fail
            refine HN.out.mono ?_
            rintro e wx ⟨ax, cx, rfl, hox, hbx⟩
            have HF2 := Lib.hid (HFd.out wx hbx)
            rw [HM1.out] at hox
            have zx := hbx.size
            go_wp2_with fail
            refine HF2.out.mono ?_
            rintro e wy ⟨ay, cy, rfl, hYy, hky, hLy⟩
            have zy := hky.size
            have HN2 := Lib.hid (numbers_any wy hYy hlost)
            have hoy := own_kept' hox hky (fun ad ha e => by have := ownblk hox ha; omega)
            clear hYy HF2 hox
            go_wp2_with fail
            refine HN2.out.mono ?_
            rintro e wz ⟨az, cz, rfl, hoz, hbz⟩
            have zz := hbz.size
            rw [HM2.out] at hoz
            have HEND : Hid (wz.ownsRow w.heap.size 3 1 (.slice ax G.length cx) G.length (nums (G.map (·.num))) ∧ wz.ownsRow w.heap.size 3 1 (.slice az lost.length cz) lost.length (nums (lost.map (·.num))) ∧ Kept (fun k => k = g) w wz ∧ LAt (Fat F w wz) wz g Lf.found2) := Lib.hid ⟨own_mono (own_below hoy hbz) (by omega), own_mono hoz (by omega), (((K6.trans HK5.out (fun _ _ e => e)).trans (Kept.of_below (X := none') hbx) (fun _ _ h => h.elim)).trans hky (fun _ _ e => e)).trans (Kept.of_below (X := none') hbz) (fun _ _ h => h.elim), (hLy.below hbz).more (fun k h _ => by
              rcases h with (h | h) | h
              · exact .inl h
              · exact .inr ⟨h.1, by omega⟩
              · exact .inr ⟨by omega, by omega⟩)⟩
            clear hoy hbz hLy hky hbx
            go_wp2
            go_ret3
            have ef := HLf.out
            subst ef
            have el := HLo.out
            subst el
            exact ⟨ax, cx, az, cz, rfl, HEND.out⟩

end Go.Proofs.Ytkpeegcpicckjaa

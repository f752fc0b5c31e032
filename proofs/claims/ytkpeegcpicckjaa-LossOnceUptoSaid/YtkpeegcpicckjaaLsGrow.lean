/- Loss detection: a packet appended to a row of one's own; contract of Timer. -/
import Derived.Test.YtkpeegcpicckjaaLsDead
namespace Go.Proofs.Ytkpeegcpicckjaa
open Go.RowKit

theorem run_app_s {P : Program} {t e : TypeId} {z : Value} {i : TypeInfo} {s bytes : Nat} (ht : P.underlying t = some (.slice e)) (hi : P.info? e = some i) (hz : i.zero = some z) (hsize : i.size = s) (hby : i.bytes = bytes) (hzs : z.cells.size = s) (h0 : 0 < s)
    {B : Nat} {w : World} {tyo : TypeId} {a1 : Option Addr} {n1 c1 : Nat} {xs1 : List Value} {ad : Addr} {n2 c2 : Nat} {xs2 : List Value}
    (hown : w.ownsRow B e s (.slice a1 n1 c1) n1 xs1) (hl2 : xs2.length = n2 * s) (hnews : ∀ j u, xs2[j]? = some u → w.cell? (ad.add j) = some u) (h1 : ∀ u ∈ xs2, u.oneCell' = true) (hn2 : 0 < n2)
    (hsz : (n1 + n2) * bytes ≤ 140737488355328) (hmx : n1 + n2 ≤ maxLen) (hBw : B ≤ w.heap.size) :
    ∃ a' c' w', (Builtin.append_ #[t, t] tyo #[.slice a1 n1 c1, .slice (some ad) n2 c2]).run P w = .ok (.slice a' (n1 + n2) c') w' ∧
      w'.ownsRow B e s (.slice a' (n1 + n2) c') (n1 + n2) (xs1 ++ xs2) ∧ w.grownBy w' (Value.ownBlock (.slice a1 n1 c1)) ∧ NewOr w (.slice a1 n1 c1) (.slice a' (n1 + n2) c') := by
  have h63 : n1 + n2 ≤ 9223372036854775807 := by simp only [maxLen] at hmx; omega
  obtain ⟨v', w', hr, hown', hgr, hiff⟩ := run_append_own (P := P) w B t tyo e i z s bytes ht hi hz hsize hby hzs h0 (.slice a1 n1 c1) n1 xs1 hown ad n2 c2 xs2 hl2 hnews h1 hmx hsz hBw
  have hwhere : NewOr w (.slice a1 n1 c1) v' := by
    rcases hown.2 with ⟨hv, rfl⟩ | ⟨g, cap, cur, hv, hbg, hg, hnc, hcm, hcs, htake⟩
    · simp only [Value.slice.injEq] at hv
      obtain ⟨rfl, _, rfl⟩ := hv
      have hr2 := run_append_nil (P := P) w t tyo e i z ht hi hz ad n2 c2 xs2 (by rw [hsize]; exact hl2) hnews hn2 (by omega) (by rw [hby]; simp only [Nat.zero_add] at hsz; omega)
      have he := hr.symm.trans hr2
      simp only [Result.ok.injEq] at he
      intro k hk
      rw [he.1] at hk
      simp only [Value.ownBlock, Option.some.injEq] at hk
      exact .inr (by omega)
    · simp only [Value.slice.injEq, true_and] at hv
      obtain ⟨rfl, rfl⟩ := hv
      by_cases hroom : n1 + n2 ≤ c1
      · have hfit : n1 * i.size + xs2.length ≤ cur.size := by
          rw [hl2, hcs, hsize, ← Nat.add_mul]
          exact Nat.mul_le_mul_right s hroom
        have hr2 := run_append_room (P := P) w t tyo e i ht hi g n1 c1 cur hg ad n2 c2 xs2 (by rw [hsize]; exact hl2) hnews h1 hroom hfit
        have he := hr.symm.trans hr2
        simp only [Result.ok.injEq] at he
        intro k hk
        rw [he.1] at hk
        exact .inl hk
      · have hr2 := run_append_grow (P := P) w t tyo e i z ht hi hz ⟨g, 0, none⟩ n1 c1 xs1 (by rw [hsize]; exact hown.1) (hown.cells (g := g) rfl) ad n2 c2 xs2 (by rw [hsize]; exact hl2) hnews (by omega) (by omega) (growslice_fits (by omega) (by rw [hby]; exact hsz))
        have he := hr.symm.trans hr2
        simp only [Result.ok.injEq] at he
        intro k hk
        rw [he.1] at hk
        simp only [Value.ownBlock, Option.some.injEq] at hk
        exact .inr (by omega)
  obtain ⟨a', c', rfl⟩ := own_slice hown'
  exact ⟨a', c', w', hr, hown', hgr, hwhere⟩

theorem infoPk : (Try.prog.info? 68).map (fun i => (i.zero, i.size, i.bytes)) = some (some (.agg #[.int .i64 0, .int .i64 0, .int .i64 0, .bool false]), 4, 32) := by kernel_rfl

/-- a packet appended -/
theorem run_app_pk {B : Nat} {w : World} {tyo : TypeId} {a1 : Option Addr} {c1 : Nat} {l : List Pk} {b : Nat} {p : Pk} (hown : w.ownsRow B 68 4 (.slice a1 l.length c1) l.length (pv l))
    (hrow : w.heap[b]? = some (.cells #[.int .i64 p.num, .int .i64 p.size, .int .i64 p.at_, .bool p.el] 68 (0, 0))) (hsz : l.length ≤ 1099511627776) (hBw : B ≤ w.heap.size) :
    ∃ a' c' w', (Builtin.append_ #[59, 59] tyo #[.slice a1 l.length c1, .slice (some ⟨b, 0, none⟩) 1 1]).run Try.prog w = .ok (.slice a' (l.length + 1) c') w' ∧
      w'.ownsRow B 68 4 (.slice a' (l.length + 1) c') (l.length + 1) (pv (l ++ [p])) ∧ w.grownBy w' (Value.ownBlock (.slice a1 l.length c1)) ∧ NewOr w (.slice a1 l.length c1) (.slice a' (l.length + 1) c') := by
  obtain ⟨i, hi, h1, h2, h3⟩ := info_parts infoPk
  have hcell : ∀ j u, (pcells p)[j]? = some u → w.cell? ((⟨b, 0, none⟩ : Addr).add j) = some u := by
    intro j u hu
    rw [addr_add, Nat.zero_add, cell_of_row w b j _ _ _ hrow, ← hu]
    simp [pcells]
  have e : pv (l ++ [p]) = pv l ++ pcells p := by rw [pv_append]; simp [pv]
  rw [e]
  exact run_app_s (s := 4) (bytes := 32) (z := .agg #[.int .i64 0, .int .i64 0, .int .i64 0, .bool false]) Try.underlying59 hi h1 h2 h3 rfl (by decide) hown (by simp [pcells]) hcell
    (by intro u hu; simp only [pcells, List.mem_cons, List.not_mem_nil, or_false] at hu; rcases hu with rfl | rfl | rfl | rfl <;> rfl) (by decide) (by omega) (by unfold maxLen; omega) hBw

set_option maxRecDepth 100000 in
theorem timer_any (w : World) {F : Nat → Prop} {g : Nat} {L : Lo} (h : LAt F w g L) (hq : L.TimeOk) :
    Calls Try.prog 10 #[.pointer (some ⟨g, 0, none⟩)] w fun e w' => e = .returned (.tuple #[.int .i64 L.dead.2.1, .bool (decide (0 ≤ L.dead.1))]) ∧ Below w.heap.size w w' := by
  have HD := Lib.hid (deadline_any w h hq)
  obtain ⟨d, hd⟩ : ∃ d, d = L.dead := ⟨_, rfl⟩
  rw [← hd] at HD ⊢
  clear hd h hq
  go_enter Try.func10, Try.ntmps10
  go_wp2_with fail
  refine HD.out.mono ?_
  rintro e w2 ⟨rfl, hb2⟩
  go_wp2
  go_ret2
  exact ⟨rfl, hb2⟩
end Go.Proofs.Ytkpeegcpicckjaa

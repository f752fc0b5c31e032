/- Appending to a row of one's own whose elements take more than one cell, with where it lies then. No condition on the program. -/
import Derived.Test.YtaeanhpdlkgghaaDoorGrow
import Derived.Test.YtaeanhpdlkgghaaDoorWalk
namespace Go.Proofs.YtaeanhpdlkgghaaDoor
open Go.RowKit

theorem run_app_s {P : Program} {t e : TypeId} {z : Value} {i : TypeInfo} {s bytes : Nat} (ht : P.underlying t = some (.slice e)) (hi : P.info? e = some i) (hz : i.zero = some z) (hsize : i.size = s) (hby : i.bytes = bytes) (hzs : z.cells.size = s) (h0 : 0 < s)
    {B : Nat} {w : World} {tyo : TypeId} {a1 : Option Addr} {n1 c1 : Nat} {xs1 : List Value} {ad : Addr} {n2 c2 : Nat} {xs2 : List Value}
    (hown : w.ownsRow B e s (.slice a1 n1 c1) n1 xs1) (hl2 : xs2.length = n2 * s) (hnews : ∀ j u, xs2[j]? = some u → w.cell? (ad.add j) = some u) (h1 : ∀ u ∈ xs2, u.oneCell' = true) (hn2 : 0 < n2)
    (hsz : (n1 + n2) * bytes ≤ 140737488355328) (hmx : n1 + n2 ≤ maxLen) (hBw : B ≤ w.heap.size) :
    ∃ a' c' w', (Builtin.append_ #[t, t] tyo #[.slice a1 n1 c1, .slice (some ad) n2 c2]).run P w = .ok (.slice a' (n1 + n2) c') w' ∧
      w'.ownsRow B e s (.slice a' (n1 + n2) c') (n1 + n2) (xs1 ++ xs2) ∧ w.grownBy w' (Value.ownBlock (.slice a1 n1 c1)) ∧ NewOr w (.slice a1 n1 c1) (.slice a' (n1 + n2) c') := by
  have h63 : n1 + n2 ≤ 9223372036854775807 := by simp only [maxLen] at hmx; omega
  obtain ⟨v', w', hr, hown', hgr, hiff⟩ := run_append_own (P := P) w B t tyo e i z s bytes ht hi hz hsize hby hzs h0 (.slice a1 n1 c1) n1 xs1 hown ad n2 c2 xs2 hl2 hnews h1 hmx hsz hBw
  have hwhere : NewOr w (.slice a1 n1 c1) v' := by
    rcases hown.2 with ⟨hv, rfl⟩ | ⟨g, cap, cur, hv, hbg, hg, hnc, hcm, hcs, htake⟩
    · simp only [Value.slice.injEq] at hv
      obtain ⟨rfl, _, rfl⟩ := hv
      have hr2 := run_append_nil (P := P) w t tyo e i z ht hi hz ad n2 c2 xs2 (by rw [hsize]; exact hl2) hnews hn2 (by omega) (by rw [hby]; simp only [Nat.zero_add] at hsz; omega)
      have he := hr.symm.trans hr2
      simp only [Result.ok.injEq] at he
      intro k hk
      rw [he.1] at hk
      simp only [Value.ownBlock, Option.some.injEq] at hk
      exact .inr (by omega)
    · simp only [Value.slice.injEq, true_and] at hv
      obtain ⟨rfl, rfl⟩ := hv
      by_cases hroom : n1 + n2 ≤ c1
      · have hfit : n1 * i.size + xs2.length ≤ cur.size := by
          rw [hl2, hcs, hsize, ← Nat.add_mul]
          exact Nat.mul_le_mul_right s hroom
        have hr2 := run_append_room (P := P) w t tyo e i ht hi g n1 c1 cur hg ad n2 c2 xs2 (by rw [hsize]; exact hl2) hnews h1 hroom hfit
        have he := hr.symm.trans hr2
        simp only [Result.ok.injEq] at he
        intro k hk
        rw [he.1] at hk
        exact .inl hk
      · have hr2 := run_append_grow (P := P) w t tyo e i z ht hi hz ⟨g, 0, none⟩ n1 c1 xs1 (by rw [hsize]; exact hown.1) (hown.cells (g := g) rfl) ad n2 c2 xs2 (by rw [hsize]; exact hl2) hnews (by omega) (by omega) (growslice_fits (by omega) (by rw [hby]; exact hsz))
        have he := hr.symm.trans hr2
        simp only [Result.ok.injEq] at he
        intro k hk
        rw [he.1] at hk
        simp only [Value.ownBlock, Option.some.injEq] at hk
        exact .inr (by omega)
  obtain ⟨a', c', rfl⟩ := own_slice hown'
  exact ⟨a', c', w', hr, hown', hgr, hwhere⟩

end Go.Proofs.YtaeanhpdlkgghaaDoor

/- A frame behind junk: contract of framed. No condition but the sizes. -/
import Derived.Test.YtbplmnmkgkgkhaaHfInv2
import Derived.Test.YtbplmnmkgkgkhaaHfSet
import Derived.Test.YtbplmnmkgkgkhaaJoin
namespace Go.Proofs.Ytbplmnmkgkgkhaa
open Go.RowKit

theorem frB_fr {k : Nat} (hk : k ≤ 4611686018427387903) {p : List UInt8} (hp : p.length ≤ 1048576) : frB (k : Int) p = (fr k p, 0) := by
  unfold frB
  rw [if_neg (by omega), if_neg (by omega), Int.toNat_natCast]
  rfl
theorem fr_len (k : Nat) (p : List UInt8) : (fr k p).length ≤ p.length + 16 := by
  have h1 := (szN_pos k).2
  have h2 := (szN_pos p.length).2
  unfold fr
  rw [List.length_append, List.length_append, vl_length, vl_length]; omega
set_option maxRecDepth 100000 in
set_option maxHeartbeats 4000000 in
theorem framed_any (w : World) {ja : Option Addr} {jn jc : Nat} {j : List UInt8} (hj : Sl w ja jn jc (bv j)) (hjn : jn ≤ 1048600) {k : Nat} (hk : k ≤ 4611686018427387903) {pa : Option Addr} {pn pc : Nat} {p : List UInt8} (hp : Sl w pa pn pc (bv p)) (hpn : pn ≤ 1048576) :
    Calls Try.prog 12 #[.slice ja jn jc, .int .i64 (k : Int), .slice pa pn pc] w (RetB w (j ++ fr k p)) := by
  have hpl := hp.byte
  have hjl := hj.byte
  have HC := Lib.hid (copy_any w hp (by omega))
  have HJ := Lib.hid hj
  have HFl := Lib.hid (fr_len k p)
  have HE := Lib.hid (frB_fr hk (p := p) (by omega))
  have HPl := Lib.hid hpl
  have HJl := Lib.hid hjl
  clear hp hj hpl hjl
  go_enter Try.func12, Try.ntmps12
  go_wp2_with fail
  refine HC.out.mono ?_
  rintro e w2 ⟨ca, cc, rfl, ho2, hb2⟩
  have HF := Lib.hid (frame_any w2 (k : Int) (own_sl ho2))
  rw [HE.out] at HF
  have HB2 := Lib.hid hb2
  clear ho2 hb2
  go_wp2_with fail
  refine HF.out.mono ?_
  rintro e w3 ⟨fa, fc, rfl, ho3, hb3⟩
  have hb3 := HB2.out.trans (hb3.mono HB2.out.size)
  obtain ⟨q, hq⟩ : ∃ q, q = fr k p := ⟨_, rfl⟩
  have hql : q.length ≤ p.length + 16 := by rw [hq]; exact HFl.out
  have ho3 : w3.ownsRow w2.heap.size 5 1 (.slice fa q.length fc) q.length (bv q) := by rw [hq]; exact ho3
  have hs3 := own_sl ho3
  have hal : Below w3.heap.size w3 (w3.alloc (.cells #[.slice ja jn jc, .slice fa q.length fc] 22)) := (Below.refl _ _).alloc (Nat.le_refl _) _
  have HJn := Lib.hid (join_any (w3.alloc (.cells #[.slice ja jn jc, .slice fa q.length fc] 22)) (ps := [⟨ja, jn, jc, j⟩, ⟨fa, q.length, fc, q⟩]) (n := 2) sl_two (by
    intro x hx
    simp only [List.mem_cons, List.not_mem_nil, or_false] at hx
    rcases hx with rfl | rfl
    · exact (HJ.out.below hb3).below hal
    · exact hs3.below hal) (by have := HPl.out; have := HJl.out; simp [joined]; omega))
  obtain ⟨J, hJ⟩ : ∃ J, J = j ++ q := ⟨_, rfl⟩
  have HJJ : Hid (joined [⟨ja, jn, jc, j⟩, ⟨fa, q.length, fc, q⟩] = J) := Lib.hid (by rw [hJ]; simp [joined])
  have HB3 := Lib.hid (hb3.trans (hal.mono hb3.size))
  have HJe : Hid (j ++ fr k p = J) := Lib.hid (by rw [hJ, hq])
  rw [← hq]
  clear hq hql ho3 hs3 hb3 hal hJ
  simp only
  go_wp2_with fail
  rw [HJJ.out] at HJn
  refine HJn.out.mono ?_
  rintro e w5 ⟨xa, xc, rfl, ho5, hb5⟩
  go_wp2
  go_ret
  rw [HJe.out]
  exact ⟨xa, xc, rfl, own_mono ho5 (by have := HB3.out.size; omega), HB3.out.trans (hb5.mono HB3.out.size)⟩
end Go.Proofs.Ytbplmnmkgkgkhaa

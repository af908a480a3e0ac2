/- The scalar laws of octets return true: their walks, from the contracts. No condition. -/
import Derived.Test.YtochcepfljafoaaScalars
namespace Go.Proofs.Ytochcepfljafoaa
open Go.RowKit Go.Shp Go.Deep
attribute [local go_sem ↓] Go.wp_at_zero Go.wp_at_succ

set_option maxHeartbeats 1000000 in
theorem octetsReckons_walk (w : World) (x0 : Int) (bx0 : 0 ≤ x0 ∧ x0 ≤ 18446744073709551615) (x1 : Int) (bx1 : 0 ≤ x1 ∧ x1 ≤ 18446744073709551615) :
    Calls Try.prog 5 #[.int .u64 x0, .int .u64 x1] w fun e w' => e = .returned (.bool true) ∧ Below w.heap.size w w' := by
  have B0 : Hid (0 ≤ x0 ∧ x0 < 18446744073709551616) := ⟨bx0.1, by omega⟩
  have B1 : Hid (0 ≤ x1 ∧ x1 < 18446744073709551616) := ⟨bx1.1, by omega⟩
  clear bx0 bx1
  obtain ⟨s, hs⟩ : ∃ s, addS x0 x1 = s := ⟨_, rfl⟩
  obtain ⟨k, hk⟩ : ∃ s, addE x0 x1 = s := ⟨_, rfl⟩
  obtain ⟨t, ht⟩ : ∃ s, mulS x0 x1 = s := ⟨_, rfl⟩
  obtain ⟨j, hj⟩ : ∃ s, mulE x0 x1 = s := ⟨_, rfl⟩
  have H1 := Lib.hid hs
  have H2 := Lib.hid hk
  have H3 := Lib.hid ht
  have H4 := Lib.hid hj
  clear hs hk ht hj
  go_enter Try.func5, Try.ntmps5
  go_wp2_with fail
  go_at_call 8
  refine (lives_ok _).mono ?_
  rintro e w1 ⟨rfl, hb1⟩
  dsimp only
  go_wp2_with fail
  go_at_call 16
  refine (add_any _ _ _ B0.out B1.out _ _ H1.out H2.out).mono ?_
  rintro e wx ⟨rfl, hwx⟩
  rw [hwx]
  clear hwx wx
  dsimp only
  go_wp2_with fail
  go_at_call 17
  refine (radd_any _ _ _ B0.out B1.out _ _ H1.out H2.out).mono ?_
  rintro e wx ⟨rfl, hwx⟩
  rw [hwx]
  clear hwx wx
  dsimp only
  go_wp2_with fail
  go_at_call 18
  refine (mul_any _ _ _ B0.out B1.out _ _ H3.out H4.out).mono ?_
  rintro e wx ⟨rfl, hwx⟩
  rw [hwx]
  clear hwx wx
  dsimp only
  go_wp2_with fail
  go_at_call 19
  refine (rmul_any _ _ _ B0.out B1.out _ _ H3.out H4.out).mono ?_
  rintro e wx ⟨rfl, hwx⟩
  rw [hwx]
  clear hwx wx
  dsimp only
  go_wp2
  go_ret
  exact ⟨rfl, hb1⟩
end Go.Proofs.Ytochcepfljafoaa

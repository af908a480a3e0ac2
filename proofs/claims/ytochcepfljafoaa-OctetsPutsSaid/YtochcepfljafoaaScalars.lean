/- The scalar laws of octets return true: their walks, from the contracts. No condition. -/
import Derived.Test.YtochcepfljafoaaGet
namespace Go.Proofs.Ytochcepfljafoaa
open Go.RowKit Go.Shp Go.Deep
attribute [local go_sem ↓] Go.wp_at_zero Go.wp_at_succ

theorem lit12 (W : World) (B : Nat) (hB : B = W.heap.size) : SlI (W.alloc (.cells #[.int .u8 1, .int .u8 2] 5)) .u8 1 [1, 2] (some ⟨B, 0, none⟩) 2 :=
  (OwI.lit W W.heap.size 5 .u8 [1, 2] hB.symm (Nat.le_refl _) (by decide) (by decide) rfl (n := 2) rfl).slN rfl (by decide)
set_option maxHeartbeats 1000000 in
theorem lives_ok (W : World) : Calls Try.prog 8 #[] W fun e w' => e = .returned (.bool true) ∧ Below W.heap.size W w' := by
  have hg : getN true (([1, 2] : List Int).drop 0 |>.take 2) = 258 := by decide
  have hh : getN false (([1, 2] : List Int).drop 0 |>.take 2) = 513 := by decide
  go_enter Try.func8, Try.ntmps8
  go_wp2_with fail
  go_at_call 11
  refine (get_yes _ [1, 2] _ _ 0 2 true (lit12 W _ rfl) (by decide) (by decide) _ hg).mono ?_
  rintro e w1 ⟨rfl, hb1⟩
  dsimp only
  go_wp2_with fail
  go_at_call 11
  refine (get_yes _ [1, 2] _ _ 0 2 false (lit12 w1 _ rfl) (by decide) (by decide) _ hh).mono ?_
  rintro e w2 ⟨rfl, hb2⟩
  dsimp only
  have hz1 := hb1.size
  have hz2 := hb2.size
  simp at hz1 hz2
  go_wp2
  go_ret
  exact ⟨rfl, by repeat (first | exact Below.refl _ _ | refine Below.drew ?_ | refine below_drewN ?_ _ | (refine Below.alloc ?_ (by first | (simp; done) | omega | (simp; omega)) _) | (refine Below.setCell ?_ (by first | (simp; done) | omega | (simp; omega)) _) | (refine Below.trans ?_ (hb2.mono (by first | (simp; done) | omega | (simp; omega)))) | (refine Below.trans ?_ (hb1.mono (by first | (simp; done) | omega | (simp; omega)))))⟩

theorem addS_comm (a b : Int) : addS b a = addS a b := by unfold addS; rw [Int.add_comm]
theorem addE_comm (a b : Int) : addE b a = addE a b := by unfold addE; rw [Int.add_comm]
theorem mulS_comm (a b : Int) : mulS b a = mulS a b := by unfold mulS; rw [Int.mul_comm]
theorem mulE_comm (a b : Int) : mulE b a = mulE a b := by unfold mulE; rw [Int.mul_comm]
theorem addS_lt {a b : Int} (ha : 0 ≤ a) (hb : 0 ≤ b) : 0 ≤ addS a b ∧ addS a b < 18446744073709551616 := by unfold addS; split <;> omega
theorem mulS_lt {a b : Int} (ha : 0 ≤ a) (hb : 0 ≤ b) : 0 ≤ mulS a b ∧ mulS a b < 18446744073709551616 := by
  have := Int.mul_nonneg ha hb
  unfold mulS; split <;> omega
theorem addE_0 {a b : Int} (h : addE a b = 0) : a + b < 18446744073709551616 := by
  unfold addE at h; split at h
  · assumption
  · omega
theorem mulE_0 {a b : Int} (h : mulE a b = 0) : a * b < 18446744073709551616 := by
  unfold mulE at h; split at h
  · assumption
  · omega
end Go.Proofs.Ytochcepfljafoaa

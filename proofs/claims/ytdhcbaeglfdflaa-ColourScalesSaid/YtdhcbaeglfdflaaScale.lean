/- The contracts of colour.Scale and of the reference's Scale: what they return for any sample and any number of bits. Conditions: a sample of 32 bits. -/
import Derived.Test.YtdhcbaeglfdflaaRows
import Derived.WalkKit
import Derived.WalkLawsBesides
import Derived.BigQuiet
import Derived.Lib.Hide
namespace Go.Proofs.Ytdhcbaeglfdflaa
open Go.RowKit

theorem scale_arg (v wide : Int) (w : World) (h : wide < 1 ∨ 32 < wide) :
    Calls Try.prog 8 #[.int .u32 v, .int .i64 wide] w fun e w' => e = .returned (.tuple #[.int .u8 0, .int .i64 1]) ∧ w = w' := by
  rcases h with h | h
  · go_enter Try.func8, Try.ntmps8
    go_wp2
    go_ret2
    exact ⟨rfl, rfl⟩
  · have h' : ¬ wide < 1 := by omega
    go_enter Try.func8, Try.ntmps8
    go_wp2
    go_ret2
    exact ⟨rfl, rfl⟩

/-- a sample as one of eight bits; T is the greatest one -/
def sc (T v : Int) : Int := (v * 510 + T) / (2 * T)
theorem sc_bd (T v : Int) (h : 0 ≤ v) (h1 : v ≤ T) (hT : 1 ≤ T) : 0 ≤ sc T v ∧ sc T v ≤ 255 := by
  have hq : 0 ≤ (v * 510 + T) / (2 * T) := Int.ediv_nonneg (by omega) (by omega)
  have : (v * 510 + T) / (2 * T) < 256 := Int.ediv_lt_of_lt_mul (by omega) (by omega)
  unfold sc; omega
theorem sc_mono (T v w : Int) (h : v ≤ w) (hT : 1 ≤ T) : sc T v ≤ sc T w := Int.ediv_le_ediv (by omega) (by omega)
theorem sc_top (T : Int) (hT : 1 ≤ T) : sc T T = 255 := by
  unfold sc
  rw [show T * 510 + T = T + 255 * (2 * T) from by omega, Int.add_mul_ediv_right _ _ (by omega), Int.ediv_eq_zero_of_lt (by omega) (by omega)]; rfl
theorem sc_zero (T : Int) (hT : 1 ≤ T) : sc T 0 = 0 := by
  unfold sc
  exact Int.ediv_eq_zero_of_lt (by omega) (by omega)

theorem scale_ok (v : Int) (wide : Nat) (T : Int) (w : World) (h1 : 1 ≤ wide) (h2 : wide ≤ 32) (hv : 0 ≤ v) (hT : (2:Int) ^ wide = T + 1) (hT1 : 1 ≤ T) (hT2 : T ≤ 4294967295) (hc : v ≤ T) :
    Calls Try.prog 8 #[.int .u32 v, .int .i64 (wide : Int)] w fun e w' => (e = .returned (.tuple #[.int .u8 (sc T v), .int .i64 0])) ∧ w = w' := by
  have hb := sc_bd T v hv hc hT1
  unfold sc at *
  go_enter Try.func8, Try.ntmps8
  go_wp2
  go_ret2
  exact ⟨rfl, rfl⟩
theorem scale_over (v : Int) (wide : Nat) (T : Int) (w : World) (hv : 0 ≤ v) (hv2 : v ≤ 4294967295) (h1 : 1 ≤ wide) (h2 : wide ≤ 32) (hT : (2:Int) ^ wide = T + 1) (hT1 : 1 ≤ T) (hT2 : T ≤ 4294967295) (hc : T < v) :
    Calls Try.prog 8 #[.int .u32 v, .int .i64 (wide : Int)] w fun e w' => (e = .returned (.tuple #[.int .u8 0, .int .i64 7])) ∧ w = w' := by
  go_enter Try.func8, Try.ntmps8
  go_wp2
  go_ret2
  exact ⟨rfl, rfl⟩

/-- the nearest whole number of a fraction -/
def nr (a b : Int) : Int := (2 * a + b) / (2 * b)
theorem nr_up (a b : Int) (hb : 1 ≤ b) (h : b ≤ 2 * (a - a / b * b)) : nr a b = a / b + 1 := by
  have h1 := Int.mul_ediv_add_emod a b
  have h2 := Int.emod_lt_of_pos a (show 0 < b by omega)
  have e1 : a / b * b = b * (a / b) := Int.mul_comm _ _
  unfold nr
  rw [show 2 * a + b = (2 * (a % b) - b) + (a / b + 1) * (2 * b) from by rw [Int.add_mul, show a / b * (2 * b) = 2 * (b * (a / b)) from by rw [Int.mul_left_comm, e1]]; omega,
    Int.add_mul_ediv_right _ _ (by omega), Int.ediv_eq_zero_of_lt (by omega) (by omega)]
  omega
theorem nr_down (a b : Int) (hb : 1 ≤ b) (h : 2 * (a - a / b * b) < b) : nr a b = a / b := by
  have h1 := Int.mul_ediv_add_emod a b
  have h2 := Int.emod_nonneg a (show b ≠ 0 by omega)
  have e1 : a / b * b = b * (a / b) := Int.mul_comm _ _
  unfold nr
  rw [show 2 * a + b = (2 * (a % b) + b) + (a / b) * (2 * b) from by rw [show a / b * (2 * b) = 2 * (b * (a / b)) from by rw [Int.mul_left_comm, e1]]; omega,
    Int.add_mul_ediv_right _ _ (by omega), Int.ediv_eq_zero_of_lt (by omega) (by omega)]
  omega
theorem nr_sc (T v : Int) : nr (255 * v) T = sc T v := by unfold nr sc; congr 1; omega

theorem near_any (a b : Int) (w : World) (ha : 0 ≤ a) (ha2 : a ≤ 2199023255552) (hb : 1 ≤ b) (hb2 : b ≤ 1099511627776) :
    Calls Try.prog 17 #[.int .i64 a, .int .i64 b] w fun e w' => e = .returned (.int .i64 (nr a b)) ∧ w = w' := by
  have h0 : 0 ≤ a / b := Int.ediv_nonneg ha (by omega)
  have h1 : a / b ≤ a := Int.ediv_le_self _ ha
  have h2 : a / b * b ≤ a := Int.ediv_mul_le _ (by omega)
  have h3 : 0 ≤ a / b * b := Int.mul_nonneg h0 (by omega)
  by_cases hc : b ≤ 2 * (a - a / b * b)
  · have hn := Lib.hid (nr_up a b hb hc)
    go_enter Try.func17, Try.ntmps17
    go_wp2
    go_ret
    exact ⟨by rw [hn.out]; rfl, rfl⟩
  · have hn := Lib.hid (nr_down a b hb (by omega))
    go_enter Try.func17, Try.ntmps17
    go_wp2
    go_ret
    exact ⟨by rw [hn.out]; rfl, rfl⟩

theorem rscale_arg (v wide : Int) (w : World) (h : wide < 1 ∨ 32 < wide) :
    Calls Try.prog 9 #[.int .i64 v, .int .i64 wide] w fun e w' => e = .returned (.tuple #[.int .i64 0, .int .i64 1]) ∧ w = w' := by
  rcases h with h | h
  · go_enter Try.func9, Try.ntmps9
    go_wp2
    go_ret2
    exact ⟨rfl, rfl⟩
  · have h' : ¬ wide < 1 := by omega
    go_enter Try.func9, Try.ntmps9
    go_wp2
    go_ret2
    exact ⟨rfl, rfl⟩
theorem rscale_ok (v : Int) (wide : Nat) (T : Int) (w : World) (h1 : 1 ≤ wide) (h2 : wide ≤ 32) (hv : 0 ≤ v) (hT : (2:Int) ^ wide = T + 1) (hT1 : 1 ≤ T) (hT2 : T ≤ 4294967295) (hc : v ≤ T) :
    Calls Try.prog 9 #[.int .i64 v, .int .i64 (wide : Int)] w fun e w' => (e = .returned (.tuple #[.int .i64 (sc T v), .int .i64 0])) ∧ w = w' := by
  have hn := Lib.hid (nr_sc T v)
  go_enter Try.func9, Try.ntmps9
  go_wp2_with (go_at_call 17; refine (near_any _ _ _ (by omega) (by omega) (by omega) (by omega)).mono ?_; rintro e w' ⟨rfl, rfl⟩)
  go_ret2
  exact ⟨by rw [← hn.out]; rfl, rfl⟩
theorem rscale_over (v : Int) (wide : Nat) (T : Int) (w : World) (h1 : 1 ≤ wide) (h2 : wide ≤ 32) (hT : (2:Int) ^ wide = T + 1) (hT1 : 1 ≤ T) (hT2 : T ≤ 4294967295) (hc : T < v) :
    Calls Try.prog 9 #[.int .i64 v, .int .i64 (wide : Int)] w fun e w' => (e = .returned (.tuple #[.int .i64 0, .int .i64 7])) ∧ w = w' := by
  go_enter Try.func9, Try.ntmps9
  go_wp2
  go_ret2
  exact ⟨rfl, rfl⟩

theorem lives_ok (w : World) : Calls Try.prog 7 #[] w fun e w' => e = .returned (.bool true) ∧ w = w' := by
  go_enter Try.func7, Try.ntmps7
  go_wp2_with (go_at_call 8; refine (scale_ok _ 4 15 _ (by omega) (by omega) (by omega) (by decide) (by omega) (by omega) (by omega)).mono ?_; rintro e w' ⟨rfl, rfl⟩)
  go_ret
  exact ⟨rfl, rfl⟩
end Go.Proofs.Ytdhcbaeglfdflaa

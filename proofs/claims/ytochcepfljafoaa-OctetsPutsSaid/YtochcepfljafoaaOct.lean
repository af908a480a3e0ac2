/- The contracts of octets' sums and products (octets, ref01). No condition. -/
import Derived.Test.YtochcepfljafoaaOwn
import Derived.Test.YtochcepfljafoaaRows
import Derived.WalkKit
import Derived.WalkLawsBesides
import Derived.BigQuiet
import Derived.Deep.QuietTactic
import Derived.Deep.RegionHeld3
import Derived.Deep.DrawnRows
import Derived.Lib.Hide
import Derived.Deep.OwnRows
import Derived.Lib.Mul64
import Derived.Laws.Externs
import Derived.Laws.Bits64b
namespace Go.Proofs.Ytochcepfljafoaa
open Go.RowKit Go.Shp Go.Deep
attribute [local go_sem ↓] Go.wp_at_zero Go.wp_at_succ

def addS (a b : Int) : Int := if a + b < 18446744073709551616 then a + b else 0
def addE (a b : Int) : Int := if a + b < 18446744073709551616 then 0 else 7
def mulS (a b : Int) : Int := if a * b < 18446744073709551616 then a * b else 0
def mulE (a b : Int) : Int := if a * b < 18446744073709551616 then 0 else 7
def sizedB (n : Int) : Bool := decide (n = 1 ∨ n = 2 ∨ n = 4 ∨ n = 8)
theorem add_yes {a b : Int} (h : a + b < 18446744073709551616) : addS a b = a + b ∧ addE a b = 0 := by simp [addS, addE, h]
theorem add_no {a b : Int} (h : ¬ a + b < 18446744073709551616) : addS a b = 0 ∧ addE a b = 7 := by simp [addS, addE, h]
theorem mul_yes {a b : Int} (h : a * b < 18446744073709551616) : mulS a b = a * b ∧ mulE a b = 0 := by simp [mulS, mulE, h]
theorem mul_no {a b : Int} (h : ¬ a * b < 18446744073709551616) : mulS a b = 0 ∧ mulE a b = 7 := by simp [mulS, mulE, h]

theorem run_a64 (x y : Int) (hx : 0 ≤ x) (hy : 0 ≤ y) (w : World) :
    (callFunc 23 #[.int .u64 x, .int .u64 y, .int .u64 0]).run Try.prog w = .ok (.value (.tuple #[.int .u64 ((x + y) % 18446744073709551616), .int .u64 ((x + y) / 18446744073709551616)])) w := by
  rw [run_callFunc_extern Try.func23 (by kernel_rfl) (by kernel_rfl) (by kernel_rfl) (e := add64Entry) (by kernel_rfl), run_add64 x y 0 hx hy (by decide) (by decide)]
  simp only [Result.andThen, Int.add_zero]

set_option maxHeartbeats 1000000 in
theorem add_any (W : World) (a b : Int) (ha : 0 ≤ a ∧ a < 18446744073709551616) (hb : 0 ≤ b ∧ b < 18446744073709551616) (s k : Int) (hs : addS a b = s) (hk : addE a b = k) :
    Calls Try.prog 16 #[.int .u64 a, .int .u64 b] W fun e w' => e = .returned (.tuple #[.int .u64 s, .int .i64 k]) ∧ w' = W := by
  subst hs hk
  by_cases h : a + b < 18446744073709551616
  · rw [(add_yes h).1, (add_yes h).2]
    have e1 : (a + b) / 18446744073709551616 = 0 := by omega
    have e2 : (a + b) % 18446744073709551616 = a + b := by omega
    have c := fun w => run_a64 a b ha.1 hb.1 w
    simp only [e1, e2] at c
    go_enter Try.func16, Try.ntmps16
    go_wp2_with (simp only [c])
    go_ret2
    exact ⟨rfl, rfl⟩
  · rw [(add_no h).1, (add_no h).2]
    have e1 : (a + b) / 18446744073709551616 = 1 := by omega
    have c := fun w => run_a64 a b ha.1 hb.1 w
    simp only [e1] at c
    go_enter Try.func16, Try.ntmps16
    go_wp2_with (simp only [c])
    go_ret2
    exact ⟨rfl, rfl⟩

set_option maxHeartbeats 1000000 in
theorem radd_any (W : World) (a b : Int) (ha : 0 ≤ a ∧ a < 18446744073709551616) (hb : 0 ≤ b ∧ b < 18446744073709551616) (s k : Int) (hs : addS a b = s) (hk : addE a b = k) :
    Calls Try.prog 17 #[.int .u64 a, .int .u64 b] W fun e w' => e = .returned (.tuple #[.int .u64 s, .int .i64 k]) ∧ w' = W := by
  subst hs hk
  have w1 : IntKind.u64.wrap (18446744073709551615 - a) = 18446744073709551615 - a := by rw [IntKind.wrap_u64]; omega
  by_cases h : a + b < 18446744073709551616
  · rw [(add_yes h).1, (add_yes h).2]
    have w2 : IntKind.u64.wrap (a + b) = a + b := by rw [IntKind.wrap_u64]; omega
    have h1 : ¬ 18446744073709551615 - a < b := by omega
    go_enter Try.func17, Try.ntmps17
    go_wp2
    go_ret2
    exact ⟨rfl, rfl⟩
  · rw [(add_no h).1, (add_no h).2]
    have h1 : 18446744073709551615 - a < b := by omega
    go_enter Try.func17, Try.ntmps17
    go_wp2
    go_ret2
    exact ⟨rfl, rfl⟩

namespace M64
theorem maskN (a : Nat) (ha : a < 18446744073709551616) : bits .and .u64 (a : Int) 4294967295 = ((a % 4294967296 : Nat) : Int) := by
  have h := bits_and_u64_nat a 4294967295 ha (by omega)
  have e : a &&& 4294967295 = a % 4294967296 := Nat.and_two_pow_sub_one_eq_mod a 32
  rw [e] at h
  exact h
theorem divN (a : Nat) : (a : Int) / 4294967296 = ((a / 4294967296 : Nat) : Int) := by omega
theorem mulN (a b : Nat) : (a : Int) * (b : Int) = ((a * b : Nat) : Int) := (Int.natCast_mul a b).symm
theorem addN (a b : Nat) : (a : Int) + (b : Int) = ((a + b : Nat) : Int) := (Int.natCast_add a b).symm
theorem wrapN (a : Nat) (ha : a < 18446744073709551616) : IntKind.u64.wrap (a : Int) = (a : Int) := by rw [IntKind.wrap_u64]; omega
theorem wrapM (a : Nat) : IntKind.u64.wrap (a : Int) = ((a % 18446744073709551616 : Nat) : Int) := by rw [IntKind.wrap_u64]; omega
end M64

set_option maxHeartbeats 1000000 in
theorem m64_any (x y : Nat) (hx : x < 18446744073709551616) (hy : y < 18446744073709551616) (w : World) :
    Calls Try.prog 24 #[.int .u64 x, .int .u64 y] w fun e w' => e = .returned (.tuple #[.int .u64 ((x * y / 18446744073709551616 : Nat) : Int), .int .u64 ((x * y % 18446744073709551616 : Nat) : Int)]) ∧ w' = w := by
  obtain ⟨bd, bt, bw, hhi⟩ := Lib.mul64_hi x y hx hy
  have ba := Lib.half_mul_le (a := x / 4294967296) (b := y / 4294967296) (by omega) (by omega)
  have bb := Lib.half_mul_le (a := x / 4294967296) (b := y % 4294967296) (by omega) (by omega)
  have bc := Lib.half_mul_le (a := x % 4294967296) (b := y / 4294967296) (by omega) (by omega)
  have ba' : x / 4294967296 * (y / 4294967296) < 18446744073709551616 := by omega
  have bb' : x / 4294967296 * (y % 4294967296) < 18446744073709551616 := by omega
  have bc' : x % 4294967296 * (y / 4294967296) < 18446744073709551616 := by omega
  have bh1 : x / 4294967296 * (y / 4294967296) + (x / 4294967296 * (y % 4294967296) + x % 4294967296 * (y % 4294967296) / 4294967296) / 4294967296 < 18446744073709551616 := by omega
  have bh : x / 4294967296 * (y / 4294967296) + (x / 4294967296 * (y % 4294967296) + x % 4294967296 * (y % 4294967296) / 4294967296) / 4294967296 + ((x / 4294967296 * (y % 4294967296) + x % 4294967296 * (y % 4294967296) / 4294967296) % 4294967296 + x % 4294967296 * (y / 4294967296)) / 4294967296 < 18446744073709551616 := by omega
  go_enter Try.func24, Try.ntmps24
  go_wp2
  simp only [M64.maskN x hx, M64.maskN y hy, M64.divN, M64.mulN, M64.addN, M64.wrapN _ bd, M64.wrapN _ bb', M64.wrapN _ bt, M64.maskN _ bt, M64.wrapN _ bc', M64.wrapN _ bw, M64.wrapN _ ba', M64.wrapN _ bh1, M64.wrapN _ bh, M64.wrapM (x * y)]
  rw [hhi]
  go_ret2
  exact ⟨rfl, rfl⟩

theorem mul_split (a b : Nat) : (a * b < 18446744073709551616 → a * b / 18446744073709551616 = 0 ∧ a * b % 18446744073709551616 = a * b) ∧ (¬ a * b < 18446744073709551616 → ((a * b / 18446744073709551616 : Nat) : Int) ≠ 0) := by
  generalize a * b = c
  exact ⟨fun h => by omega, fun h => by omega⟩

set_option maxHeartbeats 1000000 in
theorem mul_any (W : World) (a b : Int) (ha : 0 ≤ a ∧ a < 18446744073709551616) (hb : 0 ≤ b ∧ b < 18446744073709551616) (s k : Int) (hs : mulS a b = s) (hk : mulE a b = k) :
    Calls Try.prog 18 #[.int .u64 a, .int .u64 b] W fun e w' => e = .returned (.tuple #[.int .u64 s, .int .i64 k]) ∧ w' = W := by
  subst hs hk
  obtain ⟨x, rfl⟩ := Int.eq_ofNat_of_zero_le ha.1
  obtain ⟨y, rfl⟩ := Int.eq_ofNat_of_zero_le hb.1
  have hm : (x : Int) * (y : Int) = ((x * y : Nat) : Int) := by simp
  have c := m64_any x y (by omega) (by omega) W
  obtain ⟨s1, s2⟩ := mul_split x y
  by_cases h : (x : Int) * (y : Int) < 18446744073709551616
  · rw [(mul_yes h).1, (mul_yes h).2]
    have h' : x * y < 18446744073709551616 := by omega
    rw [(s1 h').1, (s1 h').2, ← hm] at c
    obtain ⟨p, hp⟩ : ∃ p : Int, (x : Int) * (y : Int) = p := ⟨_, rfl⟩
    rw [hp] at c ⊢
    clear hm hp h s1 s2 h'
    go_enter Try.func18, Try.ntmps18
    go_wp2_with (go_at_call 24; refine c.mono ?_; rintro e w1 ⟨rfl, rfl⟩)
    go_ret2
    exact ⟨rfl, rfl⟩
  · rw [(mul_no h).1, (mul_no h).2]
    have h' := s2 (by omega)
    obtain ⟨p, hp⟩ : ∃ p : Int, ((x * y / 18446744073709551616 : Nat) : Int) = p := ⟨_, rfl⟩
    obtain ⟨q, hq⟩ : ∃ p : Int, ((x * y % 18446744073709551616 : Nat) : Int) = p := ⟨_, rfl⟩
    rw [hp] at h'
    rw [hp, hq] at c
    clear hm hp hq h s1 s2
    go_enter Try.func18, Try.ntmps18
    go_wp2_with (go_at_call 24; refine c.mono ?_; rintro e w1 ⟨rfl, rfl⟩)
    go_ret2
    exact ⟨rfl, rfl⟩

theorem rmul_test (a b : Int) (ha : 0 < a) : (18446744073709551615 / a < b) ↔ ¬ a * b < 18446744073709551616 := by
  rw [Int.ediv_lt_iff_lt_mul ha, Int.mul_comm]
  omega
set_option maxHeartbeats 1000000 in
theorem rmul_any (W : World) (a b : Int) (ha : 0 ≤ a ∧ a < 18446744073709551616) (hb : 0 ≤ b ∧ b < 18446744073709551616) (s k : Int) (hs : mulS a b = s) (hk : mulE a b = k) :
    Calls Try.prog 19 #[.int .u64 a, .int .u64 b] W fun e w' => e = .returned (.tuple #[.int .u64 s, .int .i64 k]) ∧ w' = W := by
  subst hs hk
  by_cases h0 : a = 0
  · subst h0
    have h : (0 : Int) * b < 18446744073709551616 := by omega
    rw [(mul_yes h).1, (mul_yes h).2, Int.zero_mul]
    clear h
    go_enter Try.func19, Try.ntmps19
    go_wp2
    go_ret2
    exact ⟨rfl, rfl⟩
  · have hp : 0 < a := by omega
    have ht := rmul_test a b hp
    have hab : 0 ≤ a * b := Int.mul_nonneg ha.1 hb.1
    have hdv : Int.tdiv 18446744073709551615 a = 18446744073709551615 / a := Int.tdiv_eq_ediv_of_nonneg (by omega)
    by_cases h : a * b < 18446744073709551616
    · rw [(mul_yes h).1, (mul_yes h).2]
      have hn : ¬ 18446744073709551615 / a < b := fun x => (ht.1 x) h
      have w2 : IntKind.u64.wrap (a * b) = a * b := by rw [IntKind.wrap_u64]; omega
      obtain ⟨d, hd⟩ : ∃ d, Int.tdiv 18446744073709551615 a = d := ⟨_, rfl⟩
      rw [← hdv, hd] at hn
      have hdb : 0 ≤ d ∧ d ≤ 18446744073709551615 := by rw [← hd, hdv]; exact ⟨Int.ediv_nonneg (by omega) ha.1, Int.ediv_le_self _ (by omega)⟩
      have w3 : IntKind.u64.wrap d = d := by rw [IntKind.wrap_u64]; omega
      clear ht hdv
      go_enter Try.func19, Try.ntmps19
      go_wp2
      go_ret2
      exact ⟨rfl, rfl⟩
    · rw [(mul_no h).1, (mul_no h).2]
      have hn : 18446744073709551615 / a < b := ht.2 h
      obtain ⟨d, hd⟩ : ∃ d, Int.tdiv 18446744073709551615 a = d := ⟨_, rfl⟩
      rw [← hdv, hd] at hn
      have hdb : 0 ≤ d ∧ d ≤ 18446744073709551615 := by rw [← hd, hdv]; exact ⟨Int.ediv_nonneg (by omega) ha.1, Int.ediv_le_self _ (by omega)⟩
      have w3 : IntKind.u64.wrap d = d := by rw [IntKind.wrap_u64]; omega
      clear ht hdv
      go_enter Try.func19, Try.ntmps19
      go_wp2
      go_ret2
      exact ⟨rfl, rfl⟩

set_option maxHeartbeats 1000000 in
theorem sized_any (W : World) (n : Int) (r : Bool) (hr : sizedB n = r) :
    Calls Try.prog 20 #[.int .i64 n] W fun e w' => e = .returned (.bool r) ∧ w' = W := by
  subst hr
  by_cases h : n = 1 ∨ n = 2 ∨ n = 4 ∨ n = 8
  · have hs : sizedB n = true := by simp [sizedB, h]
    rw [hs]
    clear hs
    rcases h with rfl | rfl | rfl | rfl <;>
    · go_enter Try.func20, Try.ntmps20
      go_wp2
      go_ret
      exact ⟨rfl, rfl⟩
  · have hs : sizedB n = false := by simp [sizedB, h]
    rw [hs]
    clear hs
    have h1 : ¬ n = 1 := by omega
    have h2 : ¬ n = 2 := by omega
    have h4 : ¬ n = 4 := by omega
    have h8 : ¬ n = 8 := by omega
    clear h
    go_enter Try.func20, Try.ntmps20
    go_wp2
    go_ret
    exact ⟨by simp [h1, h2, h4, h8], rfl⟩

set_option maxHeartbeats 1000000 in
theorem rsized_any (W : World) (n : Int) (r : Bool) (hr : sizedB n = r) :
    Calls Try.prog 21 #[.int .i64 n] W fun e w' => e = .returned (.bool r) ∧ w' = W := by
  subst hr
  by_cases h : n = 1 ∨ n = 2 ∨ n = 4 ∨ n = 8
  · have hs : sizedB n = true := by simp [sizedB, h]
    rw [hs]
    clear hs
    rcases h with rfl | rfl | rfl | rfl <;>
    · go_enter Try.func21, Try.ntmps21
      go_wp2
      go_ret
      exact ⟨rfl, rfl⟩
  · have hs : sizedB n = false := by simp [sizedB, h]
    rw [hs]
    clear hs
    have h1 : ¬ n = 1 := by omega
    have h2 : ¬ n = 2 := by omega
    have h4 : ¬ n = 4 := by omega
    have h8 : ¬ n = 8 := by omega
    clear h
    go_enter Try.func21, Try.ntmps21
    go_wp2
    go_ret
    exact ⟨by simp [h1, h2, h4, h8], rfl⟩
end Go.Proofs.Ytochcepfljafoaa


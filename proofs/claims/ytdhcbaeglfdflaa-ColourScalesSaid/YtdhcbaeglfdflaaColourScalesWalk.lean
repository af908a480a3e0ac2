/- The law ColourScales returns true: its walk, from the contracts of Scale. For all samples of 32 bits and any number of bits. -/
import Derived.Test.YtdhcbaeglfdflaaScale
import Derived.Below
namespace Go.Proofs.Ytdhcbaeglfdflaa
open Go.RowKit

theorem two_pow_top (n : Nat) (h1 : 1 ≤ n) (h2 : n ≤ 32) : ∃ T : Int, (2:Int) ^ n = T + 1 ∧ 1 ≤ T ∧ T ≤ 4294967295 := by
  have hn : 2 ^ 1 ≤ 2 ^ n := Nat.pow_le_pow_right (by omega) h1
  have hx : 2 ^ n ≤ 2 ^ 32 := Nat.pow_le_pow_right (by omega) h2
  have : ((2 ^ n : Nat) : Int) = (2:Int) ^ n := by simp
  exact ⟨(2:Int) ^ n - 1, by omega, by omega, by omega⟩

set_option maxHeartbeats 1000000 in
theorem colourScales_walk (w : World) (x0 : Int) (bx0 : 0 ≤ x0 ∧ x0 ≤ 4294967295) (x1 : Int) (bx1 : 0 ≤ x1 ∧ x1 ≤ 4294967295) (x2 : Int) (bx2 : -9223372036854775808 ≤ x2 ∧ x2 ≤ 9223372036854775807) :
    Calls Try.prog 3 #[.int .u32 x0, .int .u32 x1, .int .i64 x2] w fun e w' => e = .returned (.bool true) ∧ Below w.heap.size w w' := by
  obtain ⟨b1, b2⟩ := bx0
  obtain ⟨b3, b4⟩ := bx1
  by_cases hw : 1 ≤ x2 ∧ x2 ≤ 32
  · obtain ⟨w1, w2⟩ := hw
    obtain ⟨n, rfl⟩ := Int.eq_ofNat_of_zero_le (show 0 ≤ x2 by omega)
    obtain ⟨T, hT, t1, t2⟩ := two_pow_top n (by omega) (by omega)
    have e0 := sc_zero T t1
    have eT := sc_top T t1
    have top : ∀ w : World, Calls Try.prog 8 #[.int .u32 T, .int .i64 (n : Int)] w fun e w' => (e = .returned (.tuple #[.int .u8 255, .int .i64 0])) ∧ w = w' := fun w => by
      have := scale_ok T n T w (by omega) (by omega) (by omega) hT t1 t2 (by omega); rwa [eT] at this
    have non : ∀ w : World, Calls Try.prog 8 #[.int .u32 0, .int .i64 (n : Int)] w fun e w' => (e = .returned (.tuple #[.int .u8 0, .int .i64 0])) ∧ w = w' := fun w => by
      have := scale_ok 0 n T w (by omega) (by omega) (by omega) hT t1 t2 (by omega); rwa [e0] at this
    have top' := Lib.hid top
    have non' := Lib.hid non
    clear top non e0 eT
    by_cases h0 : x0 ≤ T
    · have s0 := sc_bd T x0 b1 h0 t1
      have c0 := Lib.hid (fun w => scale_ok x0 n T w (by omega) (by omega) b1 hT t1 t2 h0)
      have r0 := Lib.hid (fun w => rscale_ok x0 n T w (by omega) (by omega) b1 hT t1 t2 h0)
      by_cases h1 : x1 ≤ T
      · have s1 := sc_bd T x1 b3 h1 t1
        have c1 := Lib.hid (fun w => scale_ok x1 n T w (by omega) (by omega) b3 hT t1 t2 h1)
        by_cases hv : x1 < x0
        · go_enter Try.func3, Try.ntmps3
          go_wp2_with (first
            | (go_at_call 7; refine (lives_ok _).mono ?_; rintro e w' ⟨rfl, rfl⟩)
            | (go_at_call 8; ((with_reducible refine (c0.out _).mono ?_); rintro e w' ⟨rfl, rfl⟩))
            | (go_at_call 8; ((with_reducible refine (c1.out _).mono ?_); rintro e w' ⟨rfl, rfl⟩))
            | (go_at_call 8; ((with_reducible refine (top'.out _).mono ?_); rintro e w' ⟨rfl, rfl⟩))
            | (go_at_call 8; ((with_reducible refine (non'.out _).mono ?_); rintro e w' ⟨rfl, rfl⟩))
            | (go_at_call 9; ((with_reducible refine (r0.out _).mono ?_); rintro e w' ⟨rfl, rfl⟩)))
          go_ret
          exact ⟨rfl, Below.refl _ _⟩
        · have hm := sc_mono T x0 x1 (by omega) t1
          go_enter Try.func3, Try.ntmps3
          go_wp2_with (first
            | (go_at_call 7; refine (lives_ok _).mono ?_; rintro e w' ⟨rfl, rfl⟩)
            | (go_at_call 8; ((with_reducible refine (c0.out _).mono ?_); rintro e w' ⟨rfl, rfl⟩))
            | (go_at_call 8; ((with_reducible refine (c1.out _).mono ?_); rintro e w' ⟨rfl, rfl⟩))
            | (go_at_call 8; ((with_reducible refine (top'.out _).mono ?_); rintro e w' ⟨rfl, rfl⟩))
            | (go_at_call 8; ((with_reducible refine (non'.out _).mono ?_); rintro e w' ⟨rfl, rfl⟩))
            | (go_at_call 9; ((with_reducible refine (r0.out _).mono ?_); rintro e w' ⟨rfl, rfl⟩)))
          go_ret
          exact ⟨rfl, Below.refl _ _⟩
      · have c1 := Lib.hid (fun w => scale_over x1 n T w b3 b4 (by omega) (by omega) hT t1 t2 (by omega))
        go_enter Try.func3, Try.ntmps3
        go_wp2_with (first
          | (go_at_call 7; refine (lives_ok _).mono ?_; rintro e w' ⟨rfl, rfl⟩)
          | (go_at_call 8; ((with_reducible refine (c0.out _).mono ?_); rintro e w' ⟨rfl, rfl⟩))
          | (go_at_call 8; ((with_reducible refine (c1.out _).mono ?_); rintro e w' ⟨rfl, rfl⟩))
          | (go_at_call 8; ((with_reducible refine (top'.out _).mono ?_); rintro e w' ⟨rfl, rfl⟩))
          | (go_at_call 8; ((with_reducible refine (non'.out _).mono ?_); rintro e w' ⟨rfl, rfl⟩))
          | (go_at_call 9; ((with_reducible refine (r0.out _).mono ?_); rintro e w' ⟨rfl, rfl⟩)))
        go_ret
        exact ⟨rfl, Below.refl _ _⟩
    · have c0 := Lib.hid (fun w => scale_over x0 n T w b1 b2 (by omega) (by omega) hT t1 t2 (by omega))
      have r0 := Lib.hid (fun w => rscale_over x0 n T w (by omega) (by omega) hT t1 t2 (by omega))
      by_cases h1 : x1 ≤ T
      · have c1 := Lib.hid (fun w => scale_ok x1 n T w (by omega) (by omega) b3 hT t1 t2 h1)
        go_enter Try.func3, Try.ntmps3
        go_wp2_with (first
          | (go_at_call 7; refine (lives_ok _).mono ?_; rintro e w' ⟨rfl, rfl⟩)
          | (go_at_call 8; ((with_reducible refine (c0.out _).mono ?_); rintro e w' ⟨rfl, rfl⟩))
          | (go_at_call 8; ((with_reducible refine (c1.out _).mono ?_); rintro e w' ⟨rfl, rfl⟩))
          | (go_at_call 8; ((with_reducible refine (top'.out _).mono ?_); rintro e w' ⟨rfl, rfl⟩))
          | (go_at_call 8; ((with_reducible refine (non'.out _).mono ?_); rintro e w' ⟨rfl, rfl⟩))
          | (go_at_call 9; ((with_reducible refine (r0.out _).mono ?_); rintro e w' ⟨rfl, rfl⟩)))
        go_ret
        exact ⟨rfl, Below.refl _ _⟩
      · have c1 := Lib.hid (fun w => scale_over x1 n T w b3 b4 (by omega) (by omega) hT t1 t2 (by omega))
        go_enter Try.func3, Try.ntmps3
        go_wp2_with (first
          | (go_at_call 7; refine (lives_ok _).mono ?_; rintro e w' ⟨rfl, rfl⟩)
          | (go_at_call 8; ((with_reducible refine (c0.out _).mono ?_); rintro e w' ⟨rfl, rfl⟩))
          | (go_at_call 8; ((with_reducible refine (c1.out _).mono ?_); rintro e w' ⟨rfl, rfl⟩))
          | (go_at_call 8; ((with_reducible refine (top'.out _).mono ?_); rintro e w' ⟨rfl, rfl⟩))
          | (go_at_call 8; ((with_reducible refine (non'.out _).mono ?_); rintro e w' ⟨rfl, rfl⟩))
          | (go_at_call 9; ((with_reducible refine (r0.out _).mono ?_); rintro e w' ⟨rfl, rfl⟩)))
        go_ret
        exact ⟨rfl, Below.refl _ _⟩
  · have hw2 : x2 < 1 ∨ 32 < x2 := by omega
    have c0 := Lib.hid (fun v w => scale_arg v x2 w hw2)
    have r0 := Lib.hid (fun w => rscale_arg x0 x2 w hw2)
    clear hw
    rcases hw2 with hw2 | hw2
    all_goals
      go_enter Try.func3, Try.ntmps3
      go_wp2_with (first
        | (go_at_call 7; refine (lives_ok _).mono ?_; rintro e w' ⟨rfl, rfl⟩)
        | (go_at_call 8; ((with_reducible refine (c0.out _ _).mono ?_); rintro e w' ⟨rfl, rfl⟩))
        | (go_at_call 9; ((with_reducible refine (r0.out _).mono ?_); rintro e w' ⟨rfl, rfl⟩)))
      go_ret
      exact ⟨rfl, Below.refl _ _⟩
end Go.Proofs.Ytdhcbaeglfdflaa

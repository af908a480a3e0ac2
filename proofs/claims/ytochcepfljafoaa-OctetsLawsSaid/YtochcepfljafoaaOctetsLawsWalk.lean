/- The scalar laws of octets return true: their walks, from the contracts. No condition. -/
import Derived.Test.YtochcepfljafoaaScalars
namespace Go.Proofs.Ytochcepfljafoaa
open Go.RowKit Go.Shp Go.Deep
attribute [local go_sem ↓] Go.wp_at_zero Go.wp_at_succ

set_option maxHeartbeats 4000000 in
theorem octetsLaws_walk (w : World) (x0 : Int) (bx0 : 0 ≤ x0 ∧ x0 ≤ 18446744073709551615) (x1 : Int) (bx1 : 0 ≤ x1 ∧ x1 ≤ 18446744073709551615) (x2 : Int) (bx2 : 0 ≤ x2 ∧ x2 ≤ 18446744073709551615) :
    Calls Try.prog 6 #[.int .u64 x0, .int .u64 x1, .int .u64 x2] w fun e w' => e = .returned (.bool true) ∧ Below w.heap.size w w' := by
  have B0 : Hid (0 ≤ x0 ∧ x0 < 18446744073709551616) := ⟨bx0.1, by omega⟩
  have B1 : Hid (0 ≤ x1 ∧ x1 < 18446744073709551616) := ⟨bx1.1, by omega⟩
  have B2 : Hid (0 ≤ x2 ∧ x2 < 18446744073709551616) := ⟨bx2.1, by omega⟩
  clear bx0 bx1 bx2
  obtain ⟨s, hs⟩ : ∃ s, addS x0 x1 = s := ⟨_, rfl⟩
  have Hs := Lib.hid hs
  clear hs
  obtain ⟨e, he⟩ : ∃ s, addE x0 x1 = s := ⟨_, rfl⟩
  have He := Lib.hid he
  clear he
  obtain ⟨z, hz⟩ : ∃ s, mulS x0 x1 = s := ⟨_, rfl⟩
  have Hz := Lib.hid hz
  clear hz
  obtain ⟨g, hg⟩ : ∃ s, mulE x0 x1 = s := ⟨_, rfl⟩
  have Hg := Lib.hid hg
  clear hg
  by_cases hbc : x1 < x2
  · obtain ⟨u, hu⟩ : ∃ s, addS x0 x2 = s := ⟨_, rfl⟩
    have Hu := Lib.hid hu
    clear hu
    obtain ⟨i, hi⟩ : ∃ s, addE x0 x2 = s := ⟨_, rfl⟩
    have Hi := Lib.hid hi
    clear hi
    obtain ⟨v, hv⟩ : ∃ s, mulS x0 x2 = s := ⟨_, rfl⟩
    have Hv := Lib.hid hv
    clear hv
    obtain ⟨j, hj⟩ : ∃ s, mulE x0 x2 = s := ⟨_, rfl⟩
    have Hj := Lib.hid hj
    clear hj
    by_cases he : e = 0
    · have h1 := addE_0 (He.out.trans he)
      have h2 := Hs.out
      rw [(add_yes h1).1] at h2
      have q1 : ¬ s < x0 := by have := B1.out; omega
      have q2 : ¬ s < x1 := by have := B0.out; omega
      subst he
      clear h1 h2
      by_cases hg : g = 0
      · have hz : ¬ (0 < x1 ∧ z < x0) := by
          rw [← Hz.out, (mul_yes (mulE_0 (Hg.out.trans hg))).1]
          rintro ⟨q1, q2⟩
          have := Int.mul_le_mul_of_nonneg_left (show 1 ≤ x1 by omega) B0.out.1
          omega
        subst hg
        by_cases hx : 0 < x1
        · have hz : ¬ z < x0 := fun q => hz ⟨hx, q⟩
          go_enter Try.func6, Try.ntmps6
          go_wp2_with fail
          go_at_call 8
          refine (lives_ok _).mono ?_
          rintro e w1 ⟨rfl, hb1⟩
          dsimp only
          go_wp2_with fail
          go_at_call 16
          refine (add_any _ _ _ B0.out B1.out _ _ Hs.out He.out).mono ?_
          rintro e wx ⟨rfl, hwx⟩
          rw [hwx]
          clear hwx wx
          dsimp only
          go_wp2_with fail
          go_at_call 16
          refine (add_any _ _ _ B1.out B0.out _ _ ((addS_comm _ _).trans Hs.out) ((addE_comm _ _).trans He.out)).mono ?_
          rintro e wx ⟨rfl, hwx⟩
          rw [hwx]
          clear hwx wx
          dsimp only
          go_wp2_with fail
          go_at_call 18
          refine (mul_any _ _ _ B0.out B1.out _ _ Hz.out Hg.out).mono ?_
          rintro e wx ⟨rfl, hwx⟩
          rw [hwx]
          clear hwx wx
          dsimp only
          go_wp2_with fail
          go_at_call 18
          refine (mul_any _ _ _ B1.out B0.out _ _ ((mulS_comm _ _).trans Hz.out) ((mulE_comm _ _).trans Hg.out)).mono ?_
          rintro e wx ⟨rfl, hwx⟩
          rw [hwx]
          clear hwx wx
          dsimp only
          go_wp2_with fail
          go_at_call 16
          refine (add_any _ _ _ B0.out B2.out _ _ Hu.out Hi.out).mono ?_
          rintro e wx ⟨rfl, hwx⟩
          rw [hwx]
          clear hwx wx
          dsimp only
          go_wp2_with fail
          go_at_call 18
          refine (mul_any _ _ _ B0.out B2.out _ _ Hv.out Hj.out).mono ?_
          rintro e wx ⟨rfl, hwx⟩
          rw [hwx]
          clear hwx wx
          dsimp only
          go_wp2
          go_ret
          exact ⟨rfl, hb1⟩
        · clear hz
          go_enter Try.func6, Try.ntmps6
          go_wp2_with fail
          go_at_call 8
          refine (lives_ok _).mono ?_
          rintro e w1 ⟨rfl, hb1⟩
          dsimp only
          go_wp2_with fail
          go_at_call 16
          refine (add_any _ _ _ B0.out B1.out _ _ Hs.out He.out).mono ?_
          rintro e wx ⟨rfl, hwx⟩
          rw [hwx]
          clear hwx wx
          dsimp only
          go_wp2_with fail
          go_at_call 16
          refine (add_any _ _ _ B1.out B0.out _ _ ((addS_comm _ _).trans Hs.out) ((addE_comm _ _).trans He.out)).mono ?_
          rintro e wx ⟨rfl, hwx⟩
          rw [hwx]
          clear hwx wx
          dsimp only
          go_wp2_with fail
          go_at_call 18
          refine (mul_any _ _ _ B0.out B1.out _ _ Hz.out Hg.out).mono ?_
          rintro e wx ⟨rfl, hwx⟩
          rw [hwx]
          clear hwx wx
          dsimp only
          go_wp2_with fail
          go_at_call 18
          refine (mul_any _ _ _ B1.out B0.out _ _ ((mulS_comm _ _).trans Hz.out) ((mulE_comm _ _).trans Hg.out)).mono ?_
          rintro e wx ⟨rfl, hwx⟩
          rw [hwx]
          clear hwx wx
          dsimp only
          go_wp2_with fail
          go_at_call 16
          refine (add_any _ _ _ B0.out B2.out _ _ Hu.out Hi.out).mono ?_
          rintro e wx ⟨rfl, hwx⟩
          rw [hwx]
          clear hwx wx
          dsimp only
          go_wp2_with fail
          go_at_call 18
          refine (mul_any _ _ _ B0.out B2.out _ _ Hv.out Hj.out).mono ?_
          rintro e wx ⟨rfl, hwx⟩
          rw [hwx]
          clear hwx wx
          dsimp only
          go_wp2
          go_ret
          exact ⟨rfl, hb1⟩
      · have hj : ¬ j = 0 := by
          intro q
          have h1 := mulE_0 (Hj.out.trans q)
          have h2 : ¬ x0 * x1 < 18446744073709551616 := fun h => hg (Hg.out.symm.trans (mul_yes h).2)
          have := Int.mul_le_mul_of_nonneg_left (show x1 ≤ x2 by omega) B0.out.1
          omega
        go_enter Try.func6, Try.ntmps6
        go_wp2_with fail
        go_at_call 8
        refine (lives_ok _).mono ?_
        rintro e w1 ⟨rfl, hb1⟩
        dsimp only
        go_wp2_with fail
        go_at_call 16
        refine (add_any _ _ _ B0.out B1.out _ _ Hs.out He.out).mono ?_
        rintro e wx ⟨rfl, hwx⟩
        rw [hwx]
        clear hwx wx
        dsimp only
        go_wp2_with fail
        go_at_call 16
        refine (add_any _ _ _ B1.out B0.out _ _ ((addS_comm _ _).trans Hs.out) ((addE_comm _ _).trans He.out)).mono ?_
        rintro e wx ⟨rfl, hwx⟩
        rw [hwx]
        clear hwx wx
        dsimp only
        go_wp2_with fail
        go_at_call 18
        refine (mul_any _ _ _ B0.out B1.out _ _ Hz.out Hg.out).mono ?_
        rintro e wx ⟨rfl, hwx⟩
        rw [hwx]
        clear hwx wx
        dsimp only
        go_wp2_with fail
        go_at_call 18
        refine (mul_any _ _ _ B1.out B0.out _ _ ((mulS_comm _ _).trans Hz.out) ((mulE_comm _ _).trans Hg.out)).mono ?_
        rintro e wx ⟨rfl, hwx⟩
        rw [hwx]
        clear hwx wx
        dsimp only
        go_wp2_with fail
        go_at_call 16
        refine (add_any _ _ _ B0.out B2.out _ _ Hu.out Hi.out).mono ?_
        rintro e wx ⟨rfl, hwx⟩
        rw [hwx]
        clear hwx wx
        dsimp only
        go_wp2_with fail
        go_at_call 18
        refine (mul_any _ _ _ B0.out B2.out _ _ Hv.out Hj.out).mono ?_
        rintro e wx ⟨rfl, hwx⟩
        rw [hwx]
        clear hwx wx
        dsimp only
        go_wp2
        go_ret
        exact ⟨by simp [hj], hb1⟩
    · have hi : ¬ i = 0 := by
        intro q
        have h1 := addE_0 (Hi.out.trans q)
        have h2 : ¬ x0 + x1 < 18446744073709551616 := fun h => he (He.out.symm.trans (add_yes h).2)
        omega
      have hi' : (i == 0) = false := by simpa using hi
      have he' : (e != 0) = true := by simpa using he
      clear hi
      by_cases hg : g = 0
      · have hz : ¬ (0 < x1 ∧ z < x0) := by
          rw [← Hz.out, (mul_yes (mulE_0 (Hg.out.trans hg))).1]
          rintro ⟨q1, q2⟩
          have := Int.mul_le_mul_of_nonneg_left (show 1 ≤ x1 by omega) B0.out.1
          omega
        subst hg
        by_cases hx : 0 < x1
        · have hz : ¬ z < x0 := fun q => hz ⟨hx, q⟩
          go_enter Try.func6, Try.ntmps6
          go_wp2_with fail
          go_at_call 8
          refine (lives_ok _).mono ?_
          rintro e w1 ⟨rfl, hb1⟩
          dsimp only
          go_wp2_with fail
          go_at_call 16
          refine (add_any _ _ _ B0.out B1.out _ _ Hs.out He.out).mono ?_
          rintro e wx ⟨rfl, hwx⟩
          rw [hwx]
          clear hwx wx
          dsimp only
          go_wp2_with fail
          go_at_call 16
          refine (add_any _ _ _ B1.out B0.out _ _ ((addS_comm _ _).trans Hs.out) ((addE_comm _ _).trans He.out)).mono ?_
          rintro e wx ⟨rfl, hwx⟩
          rw [hwx]
          clear hwx wx
          dsimp only
          go_wp2_with fail
          go_at_call 18
          refine (mul_any _ _ _ B0.out B1.out _ _ Hz.out Hg.out).mono ?_
          rintro e wx ⟨rfl, hwx⟩
          rw [hwx]
          clear hwx wx
          dsimp only
          go_wp2_with fail
          go_at_call 18
          refine (mul_any _ _ _ B1.out B0.out _ _ ((mulS_comm _ _).trans Hz.out) ((mulE_comm _ _).trans Hg.out)).mono ?_
          rintro e wx ⟨rfl, hwx⟩
          rw [hwx]
          clear hwx wx
          dsimp only
          go_wp2_with fail
          go_at_call 16
          refine (add_any _ _ _ B0.out B2.out _ _ Hu.out Hi.out).mono ?_
          rintro e wx ⟨rfl, hwx⟩
          rw [hwx]
          clear hwx wx
          dsimp only
          go_wp2_with fail
          go_at_call 18
          refine (mul_any _ _ _ B0.out B2.out _ _ Hv.out Hj.out).mono ?_
          rintro e wx ⟨rfl, hwx⟩
          rw [hwx]
          clear hwx wx
          dsimp only
          go_wp2
          go_ret
          exact ⟨rfl, hb1⟩
        · clear hz
          go_enter Try.func6, Try.ntmps6
          go_wp2_with fail
          go_at_call 8
          refine (lives_ok _).mono ?_
          rintro e w1 ⟨rfl, hb1⟩
          dsimp only
          go_wp2_with fail
          go_at_call 16
          refine (add_any _ _ _ B0.out B1.out _ _ Hs.out He.out).mono ?_
          rintro e wx ⟨rfl, hwx⟩
          rw [hwx]
          clear hwx wx
          dsimp only
          go_wp2_with fail
          go_at_call 16
          refine (add_any _ _ _ B1.out B0.out _ _ ((addS_comm _ _).trans Hs.out) ((addE_comm _ _).trans He.out)).mono ?_
          rintro e wx ⟨rfl, hwx⟩
          rw [hwx]
          clear hwx wx
          dsimp only
          go_wp2_with fail
          go_at_call 18
          refine (mul_any _ _ _ B0.out B1.out _ _ Hz.out Hg.out).mono ?_
          rintro e wx ⟨rfl, hwx⟩
          rw [hwx]
          clear hwx wx
          dsimp only
          go_wp2_with fail
          go_at_call 18
          refine (mul_any _ _ _ B1.out B0.out _ _ ((mulS_comm _ _).trans Hz.out) ((mulE_comm _ _).trans Hg.out)).mono ?_
          rintro e wx ⟨rfl, hwx⟩
          rw [hwx]
          clear hwx wx
          dsimp only
          go_wp2_with fail
          go_at_call 16
          refine (add_any _ _ _ B0.out B2.out _ _ Hu.out Hi.out).mono ?_
          rintro e wx ⟨rfl, hwx⟩
          rw [hwx]
          clear hwx wx
          dsimp only
          go_wp2_with fail
          go_at_call 18
          refine (mul_any _ _ _ B0.out B2.out _ _ Hv.out Hj.out).mono ?_
          rintro e wx ⟨rfl, hwx⟩
          rw [hwx]
          clear hwx wx
          dsimp only
          go_wp2
          go_ret
          exact ⟨rfl, hb1⟩
      · have hj : ¬ j = 0 := by
          intro q
          have h1 := mulE_0 (Hj.out.trans q)
          have h2 : ¬ x0 * x1 < 18446744073709551616 := fun h => hg (Hg.out.symm.trans (mul_yes h).2)
          have := Int.mul_le_mul_of_nonneg_left (show x1 ≤ x2 by omega) B0.out.1
          omega
        go_enter Try.func6, Try.ntmps6
        go_wp2_with fail
        go_at_call 8
        refine (lives_ok _).mono ?_
        rintro e w1 ⟨rfl, hb1⟩
        dsimp only
        go_wp2_with fail
        go_at_call 16
        refine (add_any _ _ _ B0.out B1.out _ _ Hs.out He.out).mono ?_
        rintro e wx ⟨rfl, hwx⟩
        rw [hwx]
        clear hwx wx
        dsimp only
        go_wp2_with fail
        go_at_call 16
        refine (add_any _ _ _ B1.out B0.out _ _ ((addS_comm _ _).trans Hs.out) ((addE_comm _ _).trans He.out)).mono ?_
        rintro e wx ⟨rfl, hwx⟩
        rw [hwx]
        clear hwx wx
        dsimp only
        go_wp2_with fail
        go_at_call 18
        refine (mul_any _ _ _ B0.out B1.out _ _ Hz.out Hg.out).mono ?_
        rintro e wx ⟨rfl, hwx⟩
        rw [hwx]
        clear hwx wx
        dsimp only
        go_wp2_with fail
        go_at_call 18
        refine (mul_any _ _ _ B1.out B0.out _ _ ((mulS_comm _ _).trans Hz.out) ((mulE_comm _ _).trans Hg.out)).mono ?_
        rintro e wx ⟨rfl, hwx⟩
        rw [hwx]
        clear hwx wx
        dsimp only
        go_wp2_with fail
        go_at_call 16
        refine (add_any _ _ _ B0.out B2.out _ _ Hu.out Hi.out).mono ?_
        rintro e wx ⟨rfl, hwx⟩
        rw [hwx]
        clear hwx wx
        dsimp only
        go_wp2_with fail
        go_at_call 18
        refine (mul_any _ _ _ B0.out B2.out _ _ Hv.out Hj.out).mono ?_
        rintro e wx ⟨rfl, hwx⟩
        rw [hwx]
        clear hwx wx
        dsimp only
        go_wp2
        go_ret
        exact ⟨by simp [hj], hb1⟩
  · obtain ⟨u, hu⟩ : ∃ s, addS x0 x1 = s := ⟨_, rfl⟩
    have Hu := Lib.hid hu
    clear hu
    obtain ⟨i, hi⟩ : ∃ s, addE x0 x1 = s := ⟨_, rfl⟩
    have Hi := Lib.hid hi
    clear hi
    obtain ⟨v, hv⟩ : ∃ s, mulS x0 x1 = s := ⟨_, rfl⟩
    have Hv := Lib.hid hv
    clear hv
    obtain ⟨j, hj⟩ : ∃ s, mulE x0 x1 = s := ⟨_, rfl⟩
    have Hj := Lib.hid hj
    clear hj
    by_cases he : e = 0
    · have h1 := addE_0 (He.out.trans he)
      have h2 := Hs.out
      rw [(add_yes h1).1] at h2
      have q1 : ¬ s < x0 := by have := B1.out; omega
      have q2 : ¬ s < x1 := by have := B0.out; omega
      subst he
      clear h1 h2
      by_cases hg : g = 0
      · have hz : ¬ (0 < x1 ∧ z < x0) := by
          rw [← Hz.out, (mul_yes (mulE_0 (Hg.out.trans hg))).1]
          rintro ⟨q1, q2⟩
          have := Int.mul_le_mul_of_nonneg_left (show 1 ≤ x1 by omega) B0.out.1
          omega
        subst hg
        by_cases hx : 0 < x1
        · have hz : ¬ z < x0 := fun q => hz ⟨hx, q⟩
          go_enter Try.func6, Try.ntmps6
          go_wp2_with fail
          go_at_call 8
          refine (lives_ok _).mono ?_
          rintro e w1 ⟨rfl, hb1⟩
          dsimp only
          go_wp2_with fail
          go_at_call 16
          refine (add_any _ _ _ B0.out B1.out _ _ Hs.out He.out).mono ?_
          rintro e wx ⟨rfl, hwx⟩
          rw [hwx]
          clear hwx wx
          dsimp only
          go_wp2_with fail
          go_at_call 16
          refine (add_any _ _ _ B1.out B0.out _ _ ((addS_comm _ _).trans Hs.out) ((addE_comm _ _).trans He.out)).mono ?_
          rintro e wx ⟨rfl, hwx⟩
          rw [hwx]
          clear hwx wx
          dsimp only
          go_wp2_with fail
          go_at_call 18
          refine (mul_any _ _ _ B0.out B1.out _ _ Hz.out Hg.out).mono ?_
          rintro e wx ⟨rfl, hwx⟩
          rw [hwx]
          clear hwx wx
          dsimp only
          go_wp2_with fail
          go_at_call 18
          refine (mul_any _ _ _ B1.out B0.out _ _ ((mulS_comm _ _).trans Hz.out) ((mulE_comm _ _).trans Hg.out)).mono ?_
          rintro e wx ⟨rfl, hwx⟩
          rw [hwx]
          clear hwx wx
          dsimp only
          go_wp2_with fail
          go_at_call 16
          refine (add_any _ _ _ B0.out B1.out _ _ Hu.out Hi.out).mono ?_
          rintro e wx ⟨rfl, hwx⟩
          rw [hwx]
          clear hwx wx
          dsimp only
          go_wp2_with fail
          go_at_call 18
          refine (mul_any _ _ _ B0.out B1.out _ _ Hv.out Hj.out).mono ?_
          rintro e wx ⟨rfl, hwx⟩
          rw [hwx]
          clear hwx wx
          dsimp only
          go_wp2
          go_ret
          exact ⟨rfl, hb1⟩
        · clear hz
          go_enter Try.func6, Try.ntmps6
          go_wp2_with fail
          go_at_call 8
          refine (lives_ok _).mono ?_
          rintro e w1 ⟨rfl, hb1⟩
          dsimp only
          go_wp2_with fail
          go_at_call 16
          refine (add_any _ _ _ B0.out B1.out _ _ Hs.out He.out).mono ?_
          rintro e wx ⟨rfl, hwx⟩
          rw [hwx]
          clear hwx wx
          dsimp only
          go_wp2_with fail
          go_at_call 16
          refine (add_any _ _ _ B1.out B0.out _ _ ((addS_comm _ _).trans Hs.out) ((addE_comm _ _).trans He.out)).mono ?_
          rintro e wx ⟨rfl, hwx⟩
          rw [hwx]
          clear hwx wx
          dsimp only
          go_wp2_with fail
          go_at_call 18
          refine (mul_any _ _ _ B0.out B1.out _ _ Hz.out Hg.out).mono ?_
          rintro e wx ⟨rfl, hwx⟩
          rw [hwx]
          clear hwx wx
          dsimp only
          go_wp2_with fail
          go_at_call 18
          refine (mul_any _ _ _ B1.out B0.out _ _ ((mulS_comm _ _).trans Hz.out) ((mulE_comm _ _).trans Hg.out)).mono ?_
          rintro e wx ⟨rfl, hwx⟩
          rw [hwx]
          clear hwx wx
          dsimp only
          go_wp2_with fail
          go_at_call 16
          refine (add_any _ _ _ B0.out B1.out _ _ Hu.out Hi.out).mono ?_
          rintro e wx ⟨rfl, hwx⟩
          rw [hwx]
          clear hwx wx
          dsimp only
          go_wp2_with fail
          go_at_call 18
          refine (mul_any _ _ _ B0.out B1.out _ _ Hv.out Hj.out).mono ?_
          rintro e wx ⟨rfl, hwx⟩
          rw [hwx]
          clear hwx wx
          dsimp only
          go_wp2
          go_ret
          exact ⟨rfl, hb1⟩
      · have hj : ¬ j = 0 := by
          intro q
          have h1 := mulE_0 (Hj.out.trans q)
          have h2 : ¬ x0 * x1 < 18446744073709551616 := fun h => hg (Hg.out.symm.trans (mul_yes h).2)
          have := Int.mul_le_mul_of_nonneg_left (show x1 ≤ x1 by omega) B0.out.1
          omega
        go_enter Try.func6, Try.ntmps6
        go_wp2_with fail
        go_at_call 8
        refine (lives_ok _).mono ?_
        rintro e w1 ⟨rfl, hb1⟩
        dsimp only
        go_wp2_with fail
        go_at_call 16
        refine (add_any _ _ _ B0.out B1.out _ _ Hs.out He.out).mono ?_
        rintro e wx ⟨rfl, hwx⟩
        rw [hwx]
        clear hwx wx
        dsimp only
        go_wp2_with fail
        go_at_call 16
        refine (add_any _ _ _ B1.out B0.out _ _ ((addS_comm _ _).trans Hs.out) ((addE_comm _ _).trans He.out)).mono ?_
        rintro e wx ⟨rfl, hwx⟩
        rw [hwx]
        clear hwx wx
        dsimp only
        go_wp2_with fail
        go_at_call 18
        refine (mul_any _ _ _ B0.out B1.out _ _ Hz.out Hg.out).mono ?_
        rintro e wx ⟨rfl, hwx⟩
        rw [hwx]
        clear hwx wx
        dsimp only
        go_wp2_with fail
        go_at_call 18
        refine (mul_any _ _ _ B1.out B0.out _ _ ((mulS_comm _ _).trans Hz.out) ((mulE_comm _ _).trans Hg.out)).mono ?_
        rintro e wx ⟨rfl, hwx⟩
        rw [hwx]
        clear hwx wx
        dsimp only
        go_wp2_with fail
        go_at_call 16
        refine (add_any _ _ _ B0.out B1.out _ _ Hu.out Hi.out).mono ?_
        rintro e wx ⟨rfl, hwx⟩
        rw [hwx]
        clear hwx wx
        dsimp only
        go_wp2_with fail
        go_at_call 18
        refine (mul_any _ _ _ B0.out B1.out _ _ Hv.out Hj.out).mono ?_
        rintro e wx ⟨rfl, hwx⟩
        rw [hwx]
        clear hwx wx
        dsimp only
        go_wp2
        go_ret
        exact ⟨by simp [hj], hb1⟩
    · have hi : ¬ i = 0 := by
        intro q
        have h1 := addE_0 (Hi.out.trans q)
        have h2 : ¬ x0 + x1 < 18446744073709551616 := fun h => he (He.out.symm.trans (add_yes h).2)
        omega
      have hi' : (i == 0) = false := by simpa using hi
      have he' : (e != 0) = true := by simpa using he
      clear hi
      by_cases hg : g = 0
      · have hz : ¬ (0 < x1 ∧ z < x0) := by
          rw [← Hz.out, (mul_yes (mulE_0 (Hg.out.trans hg))).1]
          rintro ⟨q1, q2⟩
          have := Int.mul_le_mul_of_nonneg_left (show 1 ≤ x1 by omega) B0.out.1
          omega
        subst hg
        by_cases hx : 0 < x1
        · have hz : ¬ z < x0 := fun q => hz ⟨hx, q⟩
          go_enter Try.func6, Try.ntmps6
          go_wp2_with fail
          go_at_call 8
          refine (lives_ok _).mono ?_
          rintro e w1 ⟨rfl, hb1⟩
          dsimp only
          go_wp2_with fail
          go_at_call 16
          refine (add_any _ _ _ B0.out B1.out _ _ Hs.out He.out).mono ?_
          rintro e wx ⟨rfl, hwx⟩
          rw [hwx]
          clear hwx wx
          dsimp only
          go_wp2_with fail
          go_at_call 16
          refine (add_any _ _ _ B1.out B0.out _ _ ((addS_comm _ _).trans Hs.out) ((addE_comm _ _).trans He.out)).mono ?_
          rintro e wx ⟨rfl, hwx⟩
          rw [hwx]
          clear hwx wx
          dsimp only
          go_wp2_with fail
          go_at_call 18
          refine (mul_any _ _ _ B0.out B1.out _ _ Hz.out Hg.out).mono ?_
          rintro e wx ⟨rfl, hwx⟩
          rw [hwx]
          clear hwx wx
          dsimp only
          go_wp2_with fail
          go_at_call 18
          refine (mul_any _ _ _ B1.out B0.out _ _ ((mulS_comm _ _).trans Hz.out) ((mulE_comm _ _).trans Hg.out)).mono ?_
          rintro e wx ⟨rfl, hwx⟩
          rw [hwx]
          clear hwx wx
          dsimp only
          go_wp2_with fail
          go_at_call 16
          refine (add_any _ _ _ B0.out B1.out _ _ Hu.out Hi.out).mono ?_
          rintro e wx ⟨rfl, hwx⟩
          rw [hwx]
          clear hwx wx
          dsimp only
          go_wp2_with fail
          go_at_call 18
          refine (mul_any _ _ _ B0.out B1.out _ _ Hv.out Hj.out).mono ?_
          rintro e wx ⟨rfl, hwx⟩
          rw [hwx]
          clear hwx wx
          dsimp only
          go_wp2
          go_ret
          exact ⟨rfl, hb1⟩
        · clear hz
          go_enter Try.func6, Try.ntmps6
          go_wp2_with fail
          go_at_call 8
          refine (lives_ok _).mono ?_
          rintro e w1 ⟨rfl, hb1⟩
          dsimp only
          go_wp2_with fail
          go_at_call 16
          refine (add_any _ _ _ B0.out B1.out _ _ Hs.out He.out).mono ?_
          rintro e wx ⟨rfl, hwx⟩
          rw [hwx]
          clear hwx wx
          dsimp only
          go_wp2_with fail
          go_at_call 16
          refine (add_any _ _ _ B1.out B0.out _ _ ((addS_comm _ _).trans Hs.out) ((addE_comm _ _).trans He.out)).mono ?_
          rintro e wx ⟨rfl, hwx⟩
          rw [hwx]
          clear hwx wx
          dsimp only
          go_wp2_with fail
          go_at_call 18
          refine (mul_any _ _ _ B0.out B1.out _ _ Hz.out Hg.out).mono ?_
          rintro e wx ⟨rfl, hwx⟩
          rw [hwx]
          clear hwx wx
          dsimp only
          go_wp2_with fail
          go_at_call 18
          refine (mul_any _ _ _ B1.out B0.out _ _ ((mulS_comm _ _).trans Hz.out) ((mulE_comm _ _).trans Hg.out)).mono ?_
          rintro e wx ⟨rfl, hwx⟩
          rw [hwx]
          clear hwx wx
          dsimp only
          go_wp2_with fail
          go_at_call 16
          refine (add_any _ _ _ B0.out B1.out _ _ Hu.out Hi.out).mono ?_
          rintro e wx ⟨rfl, hwx⟩
          rw [hwx]
          clear hwx wx
          dsimp only
          go_wp2_with fail
          go_at_call 18
          refine (mul_any _ _ _ B0.out B1.out _ _ Hv.out Hj.out).mono ?_
          rintro e wx ⟨rfl, hwx⟩
          rw [hwx]
          clear hwx wx
          dsimp only
          go_wp2
          go_ret
          exact ⟨rfl, hb1⟩
      · have hj : ¬ j = 0 := by
          intro q
          have h1 := mulE_0 (Hj.out.trans q)
          have h2 : ¬ x0 * x1 < 18446744073709551616 := fun h => hg (Hg.out.symm.trans (mul_yes h).2)
          have := Int.mul_le_mul_of_nonneg_left (show x1 ≤ x1 by omega) B0.out.1
          omega
        go_enter Try.func6, Try.ntmps6
        go_wp2_with fail
        go_at_call 8
        refine (lives_ok _).mono ?_
        rintro e w1 ⟨rfl, hb1⟩
        dsimp only
        go_wp2_with fail
        go_at_call 16
        refine (add_any _ _ _ B0.out B1.out _ _ Hs.out He.out).mono ?_
        rintro e wx ⟨rfl, hwx⟩
        rw [hwx]
        clear hwx wx
        dsimp only
        go_wp2_with fail
        go_at_call 16
        refine (add_any _ _ _ B1.out B0.out _ _ ((addS_comm _ _).trans Hs.out) ((addE_comm _ _).trans He.out)).mono ?_
        rintro e wx ⟨rfl, hwx⟩
        rw [hwx]
        clear hwx wx
        dsimp only
        go_wp2_with fail
        go_at_call 18
        refine (mul_any _ _ _ B0.out B1.out _ _ Hz.out Hg.out).mono ?_
        rintro e wx ⟨rfl, hwx⟩
        rw [hwx]
        clear hwx wx
        dsimp only
        go_wp2_with fail
        go_at_call 18
        refine (mul_any _ _ _ B1.out B0.out _ _ ((mulS_comm _ _).trans Hz.out) ((mulE_comm _ _).trans Hg.out)).mono ?_
        rintro e wx ⟨rfl, hwx⟩
        rw [hwx]
        clear hwx wx
        dsimp only
        go_wp2_with fail
        go_at_call 16
        refine (add_any _ _ _ B0.out B1.out _ _ Hu.out Hi.out).mono ?_
        rintro e wx ⟨rfl, hwx⟩
        rw [hwx]
        clear hwx wx
        dsimp only
        go_wp2_with fail
        go_at_call 18
        refine (mul_any _ _ _ B0.out B1.out _ _ Hv.out Hj.out).mono ?_
        rintro e wx ⟨rfl, hwx⟩
        rw [hwx]
        clear hwx wx
        dsimp only
        go_wp2
        go_ret
        exact ⟨by simp [hj], hb1⟩
end Go.Proofs.Ytochcepfljafoaa

/- The scalar laws of octets return true: their walks, from the contracts. No condition. -/
import Derived.Test.YtochcepfljafoaaScalars
namespace Go.Proofs.Ytochcepfljafoaa
open Go.RowKit Go.Shp Go.Deep
attribute [local go_sem ↓] Go.wp_at_zero Go.wp_at_succ

set_option maxHeartbeats 4000000 in
theorem octetsSwaps_walk (w : World) (x0 : Int) (bx0 : 0 ≤ x0 ∧ x0 ≤ 18446744073709551615) (x1 : Int) (bx1 : 0 ≤ x1 ∧ x1 ≤ 18446744073709551615) (x2 : Int) (bx2 : 0 ≤ x2 ∧ x2 ≤ 18446744073709551615) :
    Calls Try.prog 7 #[.int .u64 x0, .int .u64 x1, .int .u64 x2] w fun e w' => e = .returned (.bool true) ∧ Below w.heap.size w w' := by
  have B0 : Hid (0 ≤ x0 ∧ x0 < 18446744073709551616) := ⟨bx0.1, by omega⟩
  have B1 : Hid (0 ≤ x1 ∧ x1 < 18446744073709551616) := ⟨bx1.1, by omega⟩
  have B2 : Hid (0 ≤ x2 ∧ x2 < 18446744073709551616) := ⟨bx2.1, by omega⟩
  clear bx0 bx1 bx2
  obtain ⟨s, hs⟩ : ∃ s, addS x0 x1 = s := ⟨_, rfl⟩
  have Hs := Lib.hid hs
  clear hs
  obtain ⟨e, he⟩ : ∃ s, addE x0 x1 = s := ⟨_, rfl⟩
  have He := Lib.hid he
  clear he
  obtain ⟨z, hz⟩ : ∃ s, mulS x0 x1 = s := ⟨_, rfl⟩
  have Hz := Lib.hid hz
  clear hz
  obtain ⟨g, hg⟩ : ∃ s, mulE x0 x1 = s := ⟨_, rfl⟩
  have Hg := Lib.hid hg
  clear hg
  obtain ⟨su, hsu⟩ : ∃ s, addS x1 x2 = s := ⟨_, rfl⟩
  have Hsu := Lib.hid hsu
  clear hsu
  obtain ⟨i, hi⟩ : ∃ s, addE x1 x2 = s := ⟨_, rfl⟩
  have Hi := Lib.hid hi
  clear hi
  obtain ⟨al, hal⟩ : ∃ s, mulS x0 su = s := ⟨_, rfl⟩
  have Hal := Lib.hid hal
  clear hal
  obtain ⟨j, hj⟩ : ∃ s, mulE x0 su = s := ⟨_, rfl⟩
  have Hj := Lib.hid hj
  clear hj
  obtain ⟨p, hp⟩ : ∃ s, mulS x0 x2 = s := ⟨_, rfl⟩
  have Hp := Lib.hid hp
  clear hp
  obtain ⟨k, hk⟩ : ∃ s, mulE x0 x2 = s := ⟨_, rfl⟩
  have Hk := Lib.hid hk
  clear hk
  obtain ⟨bo, hbo⟩ : ∃ s, addS z p = s := ⟨_, rfl⟩
  have Hbo := Lib.hid hbo
  clear hbo
  obtain ⟨m, hm⟩ : ∃ s, addE z p = s := ⟨_, rfl⟩
  have Hm := Lib.hid hm
  clear hm
  have Bsu : Hid (0 ≤ su ∧ su < 18446744073709551616) := by unfold Hid; rw [← Hsu.out]; exact addS_lt B1.out.1 B2.out.1
  have Bz : Hid (0 ≤ z ∧ z < 18446744073709551616) := by unfold Hid; rw [← Hz.out]; exact mulS_lt B0.out.1 B1.out.1
  have Bp : Hid (0 ≤ p ∧ p < 18446744073709551616) := by unfold Hid; rw [← Hp.out]; exact mulS_lt B0.out.1 B2.out.1
  by_cases hi : i = 0
  · subst hi
    by_cases hj : j = 0
    · subst hj
      by_cases hg : g = 0
      · subst hg
        by_cases hk : k = 0
        · subst hk
          by_cases hm : m = 0
          · subst hm
            have hab : al = bo := by
              have h1 := addE_0 Hi.out
              have h2 := mulE_0 Hj.out
              have h3 := mulE_0 Hg.out
              have h4 := mulE_0 Hk.out
              have h5 := addE_0 Hm.out
              rw [← Hal.out, ← Hbo.out, (mul_yes h2).1, (add_yes h5).1, ← Hz.out, ← Hp.out, ← Hsu.out, (mul_yes h3).1, (mul_yes h4).1, (add_yes h1).1, Int.mul_add]
            subst hab
            go_enter Try.func7, Try.ntmps7
            go_wp2_with fail
            go_at_call 8
            refine (lives_ok _).mono ?_
            rintro e w1 ⟨rfl, hb1⟩
            dsimp only
            go_wp2_with fail
            go_at_call 16
            refine (add_any _ _ _ B0.out B1.out _ _ Hs.out He.out).mono ?_
            rintro e wx ⟨rfl, hwx⟩
            rw [hwx]
            clear hwx wx
            dsimp only
            go_wp2_with fail
            go_at_call 16
            refine (add_any _ _ _ B1.out B0.out _ _ ((addS_comm _ _).trans Hs.out) ((addE_comm _ _).trans He.out)).mono ?_
            rintro e wx ⟨rfl, hwx⟩
            rw [hwx]
            clear hwx wx
            dsimp only
            go_wp2_with fail
            go_at_call 18
            refine (mul_any _ _ _ B0.out B1.out _ _ Hz.out Hg.out).mono ?_
            rintro e wx ⟨rfl, hwx⟩
            rw [hwx]
            clear hwx wx
            dsimp only
            go_wp2_with fail
            go_at_call 18
            refine (mul_any _ _ _ B1.out B0.out _ _ ((mulS_comm _ _).trans Hz.out) ((mulE_comm _ _).trans Hg.out)).mono ?_
            rintro e wx ⟨rfl, hwx⟩
            rw [hwx]
            clear hwx wx
            dsimp only
            go_wp2_with fail
            go_at_call 16
            refine (add_any _ _ _ B1.out B2.out _ _ Hsu.out Hi.out).mono ?_
            rintro e wx ⟨rfl, hwx⟩
            rw [hwx]
            clear hwx wx
            dsimp only
            go_wp2_with fail
            go_at_call 18
            refine (mul_any _ _ _ B0.out Bsu.out _ _ Hal.out Hj.out).mono ?_
            rintro e wx ⟨rfl, hwx⟩
            rw [hwx]
            clear hwx wx
            dsimp only
            go_wp2_with fail
            go_at_call 18
            refine (mul_any _ _ _ B0.out B2.out _ _ Hp.out Hk.out).mono ?_
            rintro e wx ⟨rfl, hwx⟩
            rw [hwx]
            clear hwx wx
            dsimp only
            go_wp2_with fail
            go_at_call 16
            refine (add_any _ _ _ Bz.out Bp.out _ _ Hbo.out Hm.out).mono ?_
            rintro e wx ⟨rfl, hwx⟩
            rw [hwx]
            clear hwx wx
            dsimp only
            go_wp2
            go_ret
            exact ⟨rfl, hb1⟩
          · go_enter Try.func7, Try.ntmps7
            go_wp2_with fail
            go_at_call 8
            refine (lives_ok _).mono ?_
            rintro e w1 ⟨rfl, hb1⟩
            dsimp only
            go_wp2_with fail
            go_at_call 16
            refine (add_any _ _ _ B0.out B1.out _ _ Hs.out He.out).mono ?_
            rintro e wx ⟨rfl, hwx⟩
            rw [hwx]
            clear hwx wx
            dsimp only
            go_wp2_with fail
            go_at_call 16
            refine (add_any _ _ _ B1.out B0.out _ _ ((addS_comm _ _).trans Hs.out) ((addE_comm _ _).trans He.out)).mono ?_
            rintro e wx ⟨rfl, hwx⟩
            rw [hwx]
            clear hwx wx
            dsimp only
            go_wp2_with fail
            go_at_call 18
            refine (mul_any _ _ _ B0.out B1.out _ _ Hz.out Hg.out).mono ?_
            rintro e wx ⟨rfl, hwx⟩
            rw [hwx]
            clear hwx wx
            dsimp only
            go_wp2_with fail
            go_at_call 18
            refine (mul_any _ _ _ B1.out B0.out _ _ ((mulS_comm _ _).trans Hz.out) ((mulE_comm _ _).trans Hg.out)).mono ?_
            rintro e wx ⟨rfl, hwx⟩
            rw [hwx]
            clear hwx wx
            dsimp only
            go_wp2_with fail
            go_at_call 16
            refine (add_any _ _ _ B1.out B2.out _ _ Hsu.out Hi.out).mono ?_
            rintro e wx ⟨rfl, hwx⟩
            rw [hwx]
            clear hwx wx
            dsimp only
            go_wp2_with fail
            go_at_call 18
            refine (mul_any _ _ _ B0.out Bsu.out _ _ Hal.out Hj.out).mono ?_
            rintro e wx ⟨rfl, hwx⟩
            rw [hwx]
            clear hwx wx
            dsimp only
            go_wp2_with fail
            go_at_call 18
            refine (mul_any _ _ _ B0.out B2.out _ _ Hp.out Hk.out).mono ?_
            rintro e wx ⟨rfl, hwx⟩
            rw [hwx]
            clear hwx wx
            dsimp only
            go_wp2_with fail
            go_at_call 16
            refine (add_any _ _ _ Bz.out Bp.out _ _ Hbo.out Hm.out).mono ?_
            rintro e wx ⟨rfl, hwx⟩
            rw [hwx]
            clear hwx wx
            dsimp only
            go_wp2
            go_ret
            exact ⟨rfl, hb1⟩
        · go_enter Try.func7, Try.ntmps7
          go_wp2_with fail
          go_at_call 8
          refine (lives_ok _).mono ?_
          rintro e w1 ⟨rfl, hb1⟩
          dsimp only
          go_wp2_with fail
          go_at_call 16
          refine (add_any _ _ _ B0.out B1.out _ _ Hs.out He.out).mono ?_
          rintro e wx ⟨rfl, hwx⟩
          rw [hwx]
          clear hwx wx
          dsimp only
          go_wp2_with fail
          go_at_call 16
          refine (add_any _ _ _ B1.out B0.out _ _ ((addS_comm _ _).trans Hs.out) ((addE_comm _ _).trans He.out)).mono ?_
          rintro e wx ⟨rfl, hwx⟩
          rw [hwx]
          clear hwx wx
          dsimp only
          go_wp2_with fail
          go_at_call 18
          refine (mul_any _ _ _ B0.out B1.out _ _ Hz.out Hg.out).mono ?_
          rintro e wx ⟨rfl, hwx⟩
          rw [hwx]
          clear hwx wx
          dsimp only
          go_wp2_with fail
          go_at_call 18
          refine (mul_any _ _ _ B1.out B0.out _ _ ((mulS_comm _ _).trans Hz.out) ((mulE_comm _ _).trans Hg.out)).mono ?_
          rintro e wx ⟨rfl, hwx⟩
          rw [hwx]
          clear hwx wx
          dsimp only
          go_wp2_with fail
          go_at_call 16
          refine (add_any _ _ _ B1.out B2.out _ _ Hsu.out Hi.out).mono ?_
          rintro e wx ⟨rfl, hwx⟩
          rw [hwx]
          clear hwx wx
          dsimp only
          go_wp2_with fail
          go_at_call 18
          refine (mul_any _ _ _ B0.out Bsu.out _ _ Hal.out Hj.out).mono ?_
          rintro e wx ⟨rfl, hwx⟩
          rw [hwx]
          clear hwx wx
          dsimp only
          go_wp2_with fail
          go_at_call 18
          refine (mul_any _ _ _ B0.out B2.out _ _ Hp.out Hk.out).mono ?_
          rintro e wx ⟨rfl, hwx⟩
          rw [hwx]
          clear hwx wx
          dsimp only
          go_wp2_with fail
          go_at_call 16
          refine (add_any _ _ _ Bz.out Bp.out _ _ Hbo.out Hm.out).mono ?_
          rintro e wx ⟨rfl, hwx⟩
          rw [hwx]
          clear hwx wx
          dsimp only
          go_wp2
          go_ret
          exact ⟨rfl, hb1⟩
      · go_enter Try.func7, Try.ntmps7
        go_wp2_with fail
        go_at_call 8
        refine (lives_ok _).mono ?_
        rintro e w1 ⟨rfl, hb1⟩
        dsimp only
        go_wp2_with fail
        go_at_call 16
        refine (add_any _ _ _ B0.out B1.out _ _ Hs.out He.out).mono ?_
        rintro e wx ⟨rfl, hwx⟩
        rw [hwx]
        clear hwx wx
        dsimp only
        go_wp2_with fail
        go_at_call 16
        refine (add_any _ _ _ B1.out B0.out _ _ ((addS_comm _ _).trans Hs.out) ((addE_comm _ _).trans He.out)).mono ?_
        rintro e wx ⟨rfl, hwx⟩
        rw [hwx]
        clear hwx wx
        dsimp only
        go_wp2_with fail
        go_at_call 18
        refine (mul_any _ _ _ B0.out B1.out _ _ Hz.out Hg.out).mono ?_
        rintro e wx ⟨rfl, hwx⟩
        rw [hwx]
        clear hwx wx
        dsimp only
        go_wp2_with fail
        go_at_call 18
        refine (mul_any _ _ _ B1.out B0.out _ _ ((mulS_comm _ _).trans Hz.out) ((mulE_comm _ _).trans Hg.out)).mono ?_
        rintro e wx ⟨rfl, hwx⟩
        rw [hwx]
        clear hwx wx
        dsimp only
        go_wp2_with fail
        go_at_call 16
        refine (add_any _ _ _ B1.out B2.out _ _ Hsu.out Hi.out).mono ?_
        rintro e wx ⟨rfl, hwx⟩
        rw [hwx]
        clear hwx wx
        dsimp only
        go_wp2_with fail
        go_at_call 18
        refine (mul_any _ _ _ B0.out Bsu.out _ _ Hal.out Hj.out).mono ?_
        rintro e wx ⟨rfl, hwx⟩
        rw [hwx]
        clear hwx wx
        dsimp only
        go_wp2_with fail
        go_at_call 18
        refine (mul_any _ _ _ B0.out B2.out _ _ Hp.out Hk.out).mono ?_
        rintro e wx ⟨rfl, hwx⟩
        rw [hwx]
        clear hwx wx
        dsimp only
        go_wp2_with fail
        go_at_call 16
        refine (add_any _ _ _ Bz.out Bp.out _ _ Hbo.out Hm.out).mono ?_
        rintro e wx ⟨rfl, hwx⟩
        rw [hwx]
        clear hwx wx
        dsimp only
        go_wp2
        go_ret
        exact ⟨rfl, hb1⟩
    · go_enter Try.func7, Try.ntmps7
      go_wp2_with fail
      go_at_call 8
      refine (lives_ok _).mono ?_
      rintro e w1 ⟨rfl, hb1⟩
      dsimp only
      go_wp2_with fail
      go_at_call 16
      refine (add_any _ _ _ B0.out B1.out _ _ Hs.out He.out).mono ?_
      rintro e wx ⟨rfl, hwx⟩
      rw [hwx]
      clear hwx wx
      dsimp only
      go_wp2_with fail
      go_at_call 16
      refine (add_any _ _ _ B1.out B0.out _ _ ((addS_comm _ _).trans Hs.out) ((addE_comm _ _).trans He.out)).mono ?_
      rintro e wx ⟨rfl, hwx⟩
      rw [hwx]
      clear hwx wx
      dsimp only
      go_wp2_with fail
      go_at_call 18
      refine (mul_any _ _ _ B0.out B1.out _ _ Hz.out Hg.out).mono ?_
      rintro e wx ⟨rfl, hwx⟩
      rw [hwx]
      clear hwx wx
      dsimp only
      go_wp2_with fail
      go_at_call 18
      refine (mul_any _ _ _ B1.out B0.out _ _ ((mulS_comm _ _).trans Hz.out) ((mulE_comm _ _).trans Hg.out)).mono ?_
      rintro e wx ⟨rfl, hwx⟩
      rw [hwx]
      clear hwx wx
      dsimp only
      go_wp2_with fail
      go_at_call 16
      refine (add_any _ _ _ B1.out B2.out _ _ Hsu.out Hi.out).mono ?_
      rintro e wx ⟨rfl, hwx⟩
      rw [hwx]
      clear hwx wx
      dsimp only
      go_wp2_with fail
      go_at_call 18
      refine (mul_any _ _ _ B0.out Bsu.out _ _ Hal.out Hj.out).mono ?_
      rintro e wx ⟨rfl, hwx⟩
      rw [hwx]
      clear hwx wx
      dsimp only
      go_wp2_with fail
      go_at_call 18
      refine (mul_any _ _ _ B0.out B2.out _ _ Hp.out Hk.out).mono ?_
      rintro e wx ⟨rfl, hwx⟩
      rw [hwx]
      clear hwx wx
      dsimp only
      go_wp2_with fail
      go_at_call 16
      refine (add_any _ _ _ Bz.out Bp.out _ _ Hbo.out Hm.out).mono ?_
      rintro e wx ⟨rfl, hwx⟩
      rw [hwx]
      clear hwx wx
      dsimp only
      go_wp2
      go_ret
      exact ⟨rfl, hb1⟩
  · go_enter Try.func7, Try.ntmps7
    go_wp2_with fail
    go_at_call 8
    refine (lives_ok _).mono ?_
    rintro e w1 ⟨rfl, hb1⟩
    dsimp only
    go_wp2_with fail
    go_at_call 16
    refine (add_any _ _ _ B0.out B1.out _ _ Hs.out He.out).mono ?_
    rintro e wx ⟨rfl, hwx⟩
    rw [hwx]
    clear hwx wx
    dsimp only
    go_wp2_with fail
    go_at_call 16
    refine (add_any _ _ _ B1.out B0.out _ _ ((addS_comm _ _).trans Hs.out) ((addE_comm _ _).trans He.out)).mono ?_
    rintro e wx ⟨rfl, hwx⟩
    rw [hwx]
    clear hwx wx
    dsimp only
    go_wp2_with fail
    go_at_call 18
    refine (mul_any _ _ _ B0.out B1.out _ _ Hz.out Hg.out).mono ?_
    rintro e wx ⟨rfl, hwx⟩
    rw [hwx]
    clear hwx wx
    dsimp only
    go_wp2_with fail
    go_at_call 18
    refine (mul_any _ _ _ B1.out B0.out _ _ ((mulS_comm _ _).trans Hz.out) ((mulE_comm _ _).trans Hg.out)).mono ?_
    rintro e wx ⟨rfl, hwx⟩
    rw [hwx]
    clear hwx wx
    dsimp only
    go_wp2_with fail
    go_at_call 16
    refine (add_any _ _ _ B1.out B2.out _ _ Hsu.out Hi.out).mono ?_
    rintro e wx ⟨rfl, hwx⟩
    rw [hwx]
    clear hwx wx
    dsimp only
    go_wp2_with fail
    go_at_call 18
    refine (mul_any _ _ _ B0.out Bsu.out _ _ Hal.out Hj.out).mono ?_
    rintro e wx ⟨rfl, hwx⟩
    rw [hwx]
    clear hwx wx
    dsimp only
    go_wp2_with fail
    go_at_call 18
    refine (mul_any _ _ _ B0.out B2.out _ _ Hp.out Hk.out).mono ?_
    rintro e wx ⟨rfl, hwx⟩
    rw [hwx]
    clear hwx wx
    dsimp only
    go_wp2_with fail
    go_at_call 16
    refine (add_any _ _ _ Bz.out Bp.out _ _ Hbo.out Hm.out).mono ?_
    rintro e wx ⟨rfl, hwx⟩
    rw [hwx]
    clear hwx wx
    dsimp only
    go_wp2
    go_ret
    exact ⟨rfl, hb1⟩
end Go.Proofs.Ytochcepfljafoaa

/- The law OctetsPuts returns true: its walk. No condition. -/
import Derived.Test.YtochcepfljafoaaOctetsWindowsWalk
import Derived.Test.YtochcepfljafoaaPut
namespace Go.Proofs.Ytochcepfljafoaa
open Go.RowKit Go.Shp Go.Deep
attribute [local go_sem ↓] Go.wp_at_zero Go.wp_at_succ

theorem SlI_drewN {w : World} {k : IntKind} {b : Nat} {zs : List Int} {a : Option Addr} {cap : Nat} (h : SlI w k b zs a cap) (n : Nat) : SlI (w.drewN n) k b zs a cap := h.below (below_drewN (Below.refl _ _) n) (Nat.le_refl _)
theorem get_n (W : World) (zs : List Int) (a : Option Addr) (c n : Nat) (hn : zs.length = n) (x size : Int) (big : Bool) (hs : SlI W .u8 1 zs a c) (hx : 0 ≤ x ∧ x < 18446744073709551616) (r k : Int) (hr : rgetS zs x size big = r) (hk : rgetE zs x size = k) :
    Calls Try.prog 11 #[.slice a n c, .int .u64 x, .int .i64 size, .bool big] W fun e w' => e = .returned (.tuple #[.int .u64 r, .int .i64 k]) ∧ Below W.heap.size W w' := by
  subst hn
  exact get_any W zs a c x size big hs hx r k hr hk
set_option maxHeartbeats 2000000 in
theorem puts_any (W : World) (x : Int) (hx : 0 ≤ x ∧ x < 18446744073709551616) (size : Int) :
    Calls Try.prog 4 #[.int .u64 x, .int .i64 size] W fun e w' => e = .returned (.bool true) ∧ Below W.heap.size W w' := by
  cases hz : sizedB size with
  | false =>
    have HZ := Lib.hid hz
    clear hz
    go_enter Try.func4, Try.ntmps4
    go_wp2_with fail
    go_at_call 8
    refine (lives_ok _).mono ?_
    rintro e w1 ⟨rfl, hb1⟩
    have hB1 : Below W.heap.size W w1 := ((Below.refl W.heap.size W)).trans (hb1.mono (by first | omega | (simp; done) | (simp; omega)))
    have z1 := hb1.size
    try simp at z1
    go_wp2_with fail
    go_at_call 13
    refine (put_arg _ _ _ _ HZ.out).mono ?_
    rintro e wx ⟨rfl, hwx⟩
    rw [hwx]
    clear hwx wx
    dsimp only
    go_wp2_with fail
    go_at_call 13
    refine (put_arg _ _ _ _ HZ.out).mono ?_
    rintro e wx ⟨rfl, hwx⟩
    rw [hwx]
    clear hwx wx
    dsimp only
    go_wp2_with fail
    go_at_call 14
    refine (rput_arg _ _ _ _ HZ.out).mono ?_
    rintro e wx ⟨rfl, hwx⟩
    rw [hwx]
    clear hwx wx
    dsimp only
    have kn : ∀ n, (convert 22 9 (.slice none 0 0)).run Try.prog (World.drewN w1 n) = .ok (.string (strOfNums [])) (World.drewN w1 n) := fun n => run_convert_bytes_nil (P := Try.prog) _ 22 5 Try.underlying22 Try.underlying5 0 0 9 Try.underlying9
    go_wp2_with fail
    go_quiet ((go_at_call 15; exact Calls.quiet_of_same (turn_any _ _ (by decide) _ rfl)))
    obtain ⟨wq, hwq⟩ : ∃ wq, wq = World.drewN w1 nq := ⟨_, rfl⟩
    rw [← hwq]
    have hbq : Below w1.heap.size w1 wq := by rw [hwq]; exact below_drewN (Below.refl _ _) _
    clear hwq
    have hBq : Below W.heap.size W wq := (hB1).trans (hbq.mono (by first | omega | (simp; done) | (simp; omega)))
    clear hB1
    have zq := hbq.size
    try simp at zq
    go_wp2_with fail
    go_at_call 11
    refine (get_arg _ _ _ _ _ HZ.out).mono ?_
    rintro e wx ⟨rfl, hwx⟩
    rw [hwx]
    clear hwx wx
    dsimp only
    go_wp2_with fail
    go_at_call 11
    refine (get_arg _ _ _ _ _ HZ.out).mono ?_
    rintro e wx ⟨rfl, hwx⟩
    rw [hwx]
    clear hwx wx
    dsimp only
    go_wp2
    go_ret
    exact ⟨rfl, hBq⟩
  | true =>
    obtain ⟨m, rfl⟩ := Int.eq_ofNat_of_zero_le (show 0 ≤ size by have := sized_le hz; omega)
    by_cases ho : x < 256 ^ m
    · have HZ := Lib.hid hz
      obtain ⟨l, hl⟩ : ∃ l, bigB x m = l := ⟨_, rfl⟩
      have HLB : Hid (turnB true (bigB x m) = l) := hl
      have HLL : Hid (turnB false (bigB x m) = l.reverse) := by unfold Hid; rw [← hl]; rfl
      have HS : Hid (rputS x m true = l) := by unfold Hid; rw [rputS, if_pos ho]; exact hl
      have HK : Hid (rputE x m = 0) := by unfold Hid; rw [rputE, if_pos ho]
      have HO := Lib.hid ho
      have hsz := sized_le hz
      have hlm : l.length = m := by rw [← hl, bigB_len]
      have HLM := Lib.hid hlm
      have HG1 : Hid (rgetS l 0 (m : Int) true = x) := by unfold Hid; rw [rgetS, hz, if_pos rfl, rwinS, if_pos (by omega)]; simp only [Int.toNat_zero, List.drop_zero, Int.toNat_natCast, ← hlm, List.take_length]; rw [← hl]; exact getN_turnB x m true hx.1 ho
      have HG2 : Hid (rgetS l.reverse 0 (m : Int) false = x) := by unfold Hid; rw [rgetS, hz, if_pos rfl, rwinS, if_pos (by rw [List.length_reverse]; omega)]; simp only [Int.toNat_zero, List.drop_zero, Int.toNat_natCast]; rw [List.take_of_length_le (by rw [List.length_reverse]; omega), ← hl]; exact getN_turnB x m false hx.1 ho
      have HE1 : Hid (rgetE l 0 (m : Int) = 0) := by unfold Hid; rw [rgetE, hz, if_pos rfl, rwinE, if_pos (by omega)]
      have HE2 : Hid (rgetE l.reverse 0 (m : Int) = 0) := by unfold Hid; rw [rgetE, hz, if_pos rfl, rwinE, if_pos (by rw [List.length_reverse]; omega)]
      have HRM : Hid (l.reverse.length = m) := by unfold Hid; rw [List.length_reverse]; exact hlm
      clear hz ho hl hlm
      go_enter Try.func4, Try.ntmps4
      go_wp2_with fail
      go_at_call 8
      refine (lives_ok _).mono ?_
      rintro e w1 ⟨rfl, hb1⟩
      have hB1 : Below W.heap.size W w1 := ((Below.refl W.heap.size W)).trans (hb1.mono (by first | omega | (simp; done) | (simp; omega)))
      have z1 := hb1.size
      try simp at z1
      go_wp2_with fail
      go_at_call 13
      refine (put_yes _ _ _ _ HZ.out hx HO.out _ HLB.out).mono ?_
      rintro e w2 ⟨a1, c1, rfl, oa, hb2⟩
      have hB2 : Below W.heap.size W w2 := (hB1).trans (hb2.mono (by first | omega | (simp; done) | (simp; omega)))
      clear hB1
      have z2 := hb2.size
      try simp at z2
      have sa := oa.slN (bytes := 1) HLM.out (by omega)
      clear oa
      have HBY := Lib.hid sa.bytes
      go_wp2_with fail
      go_at_call 13
      refine (put_yes _ _ _ _ HZ.out hx HO.out _ HLL.out).mono ?_
      rintro e w3 ⟨a2, c2, rfl, ob, hb3⟩
      replace sa : SlI w3 .u8 1 l a1 c1 := (sa).below hb3 (by first | omega | (simp; done) | (simp; omega))
      have hB3 : Below W.heap.size W w3 := (hB2).trans (hb3.mono (by first | omega | (simp; done) | (simp; omega)))
      clear hB2
      have z3 := hb3.size
      try simp at z3
      have sb := ob.slN (bytes := 1) HRM.out (by omega)
      clear ob
      go_wp2_with fail
      go_at_call 14
      refine (rput_any _ _ _ _ HZ.out hx _ _ HS.out HK.out).mono ?_
      rintro e w4 ⟨rfl, hb4⟩
      replace sa : SlI w4 .u8 1 l a1 c1 := (sa).below hb4 (by first | omega | (simp; done) | (simp; omega))
      replace sb : SlI w4 .u8 1 l.reverse a2 c2 := (sb).below hb4 (by first | omega | (simp; done) | (simp; omega))
      have hB4 : Below W.heap.size W w4 := (hB3).trans (hb4.mono (by first | omega | (simp; done) | (simp; omega)))
      clear hB3
      have z4 := hb4.size
      try simp at z4
      have ka : ∀ n, (convert 22 9 (.slice a1 m c1)).run Try.prog (World.drewN w4 n) = .ok (.string (strOfNums l)) (World.drewN w4 n) := fun n => by have := SlI.conv (P := Try.prog) (w := World.drewN w4 n) (SlI_drewN sa n) 22 9 5 Try.underlying22 Try.underlying5 Try.underlying9; rwa [HLM.out] at this
      have kb : ∀ n, (convert 22 9 (.slice a2 m c2)).run Try.prog (World.drewN w4 n) = .ok (.string (strOfNums l.reverse)) (World.drewN w4 n) := fun n => by have := SlI.conv (P := Try.prog) (w := World.drewN w4 n) (SlI_drewN sb n) 22 9 5 Try.underlying22 Try.underlying5 Try.underlying9; rwa [HRM.out] at this
      have HLQ : Hid (l.length ≤ 140737488355328) := by unfold Hid; have := HLM.out; omega
      go_wp2_with fail
      go_quiet ((go_at_call 15; exact Calls.quiet_of_same (turn_any _ _ HLQ.out _ rfl)))
      obtain ⟨wq, hwq⟩ : ∃ wq, wq = World.drewN w4 nq := ⟨_, rfl⟩
      rw [← hwq]
      have hbq : Below w4.heap.size w4 wq := by rw [hwq]; exact below_drewN (Below.refl _ _) _
      clear hwq
      replace sa : SlI wq .u8 1 l a1 c1 := (sa).below hbq (by first | omega | (simp; done) | (simp; omega))
      replace sb : SlI wq .u8 1 l.reverse a2 c2 := (sb).below hbq (by first | omega | (simp; done) | (simp; omega))
      have hBq : Below W.heap.size W wq := (hB4).trans (hbq.mono (by first | omega | (simp; done) | (simp; omega)))
      clear hB4
      have zq := hbq.size
      try simp at zq
      clear ka kb
      go_wp2_with fail
      go_at_call 11
      refine (get_n _ l _ _ _ HLM.out _ _ _ sa (by omega) _ _ HG1.out HE1.out).mono ?_
      rintro e w5 ⟨rfl, hb5⟩
      replace sa : SlI w5 .u8 1 l a1 c1 := (sa).below hb5 (by first | omega | (simp; done) | (simp; omega))
      replace sb : SlI w5 .u8 1 l.reverse a2 c2 := (sb).below hb5 (by first | omega | (simp; done) | (simp; omega))
      have hB5 : Below W.heap.size W w5 := (hBq).trans (hb5.mono (by first | omega | (simp; done) | (simp; omega)))
      clear hBq
      have z5 := hb5.size
      try simp at z5
      go_wp2_with fail
      go_at_call 11
      refine (get_n _ l.reverse _ _ _ HRM.out _ _ _ sb (by omega) _ _ HG2.out HE2.out).mono ?_
      rintro e w6 ⟨rfl, hb6⟩
      replace sa : SlI w6 .u8 1 l a1 c1 := (sa).below hb6 (by first | omega | (simp; done) | (simp; omega))
      replace sb : SlI w6 .u8 1 l.reverse a2 c2 := (sb).below hb6 (by first | omega | (simp; done) | (simp; omega))
      have hB6 : Below W.heap.size W w6 := (hB5).trans (hb6.mono (by first | omega | (simp; done) | (simp; omega)))
      clear hB5
      have z6 := hb6.size
      try simp at z6
      go_wp2
      go_ret
      exact ⟨rfl, hB6⟩
    · have HZ := Lib.hid hz
      have HS : Hid (rputS x m true = []) := by unfold Hid; rw [rputS, if_neg ho]
      have HK : Hid (rputE x m = 7) := by unfold Hid; rw [rputE, if_neg ho]
      have HO := Lib.hid ho
      have hsz := sized_le hz
      clear hz ho
      go_enter Try.func4, Try.ntmps4
      go_wp2_with fail
      go_at_call 8
      refine (lives_ok _).mono ?_
      rintro e w1 ⟨rfl, hb1⟩
      have hB1 : Below W.heap.size W w1 := ((Below.refl W.heap.size W)).trans (hb1.mono (by first | omega | (simp; done) | (simp; omega)))
      have z1 := hb1.size
      try simp at z1
      go_wp2_with fail
      go_at_call 13
      refine (put_over _ _ _ _ HZ.out hx (by have := HO.out; omega)).mono ?_
      rintro e wx ⟨rfl, hwx⟩
      rw [hwx]
      clear hwx wx
      dsimp only
      go_wp2_with fail
      go_at_call 13
      refine (put_over _ _ _ _ HZ.out hx (by have := HO.out; omega)).mono ?_
      rintro e wx ⟨rfl, hwx⟩
      rw [hwx]
      clear hwx wx
      dsimp only
      go_wp2_with fail
      go_at_call 14
      refine (rput_any _ _ _ _ HZ.out hx _ _ HS.out HK.out).mono ?_
      rintro e w2 ⟨rfl, hb2⟩
      have hB2 : Below W.heap.size W w2 := (hB1).trans (hb2.mono (by first | omega | (simp; done) | (simp; omega)))
      clear hB1
      have z2 := hb2.size
      try simp at z2
      have kn : ∀ n, (convert 22 9 (.slice none 0 0)).run Try.prog (World.drewN w2 n) = .ok (.string (strOfNums [])) (World.drewN w2 n) := fun n => run_convert_bytes_nil (P := Try.prog) _ 22 5 Try.underlying22 Try.underlying5 0 0 9 Try.underlying9
      go_wp2_with fail
      go_quiet ((go_at_call 15; exact Calls.quiet_of_same (turn_any _ _ (by decide) _ rfl)))
      obtain ⟨wq, hwq⟩ : ∃ wq, wq = World.drewN w2 nq := ⟨_, rfl⟩
      rw [← hwq]
      have hbq : Below w2.heap.size w2 wq := by rw [hwq]; exact below_drewN (Below.refl _ _) _
      clear hwq
      have hBq : Below W.heap.size W wq := (hB2).trans (hbq.mono (by first | omega | (simp; done) | (simp; omega)))
      clear hB2
      have zq := hbq.size
      try simp at zq
      go_wp2_with fail
      go_at_call 11
      refine (get_cut _ _ _ _ _ _ _ (by omega) (by omega) HZ.out (by omega)).mono ?_
      rintro e wx ⟨rfl, hwx⟩
      rw [hwx]
      clear hwx wx
      dsimp only
      go_wp2_with fail
      go_at_call 11
      refine (get_cut _ _ _ _ _ _ _ (by omega) (by omega) HZ.out (by omega)).mono ?_
      rintro e wx ⟨rfl, hwx⟩
      rw [hwx]
      clear hwx wx
      dsimp only
      go_wp2
      go_ret
      exact ⟨rfl, hBq⟩
theorem octetsPuts_walk (w : World) (x0 : Int) (bx0 : 0 ≤ x0 ∧ x0 ≤ 18446744073709551615) (x1 : Int) (_b : -9223372036854775808 ≤ x1 ∧ x1 ≤ 9223372036854775807) :
    Calls Try.prog 4 #[.int .u64 x0, .int .i64 x1] w fun e w' => e = .returned (.bool true) ∧ Below w.heap.size w w' :=
  puts_any w _ ⟨bx0.1, by omega⟩ _
end Go.Proofs.Ytochcepfljafoaa

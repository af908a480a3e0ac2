/- The contracts of octets.Window. No condition. -/
import Derived.Test.YtochcepfljafoaaOct
import Derived.Test.YtochcepfljafoaaMore
namespace Go.Proofs.Ytochcepfljafoaa
open Go.RowKit Go.Shp Go.Deep
attribute [local go_sem ↓] Go.wp_at_zero Go.wp_at_succ

theorem EB : ElemOk Try.prog 22 5 (.int .u8 0) 1 1 := ⟨Try.underlying22, info_parts (by kernel_rfl), rfl, by decide⟩

set_option maxHeartbeats 1000000 in
theorem window_no (W : World) (a : Option Addr) (n c : Nat) (x m : Int) (hl : n ≤ 9223372036854775807) (hat : 0 ≤ x ∧ x < 18446744073709551616) (hn : 0 ≤ m ∧ m < 18446744073709551616) (hh : ¬ x + m ≤ (n : Int)) :
    Calls Try.prog 9 #[.slice a n c, .int .u64 x, .int .u64 m] W fun e w' => e = .returned (.tuple #[.slice none 0 0, .int .i64 2]) ∧ w' = W := by
  have wl : IntKind.u64.wrap (n : Int) = (n : Int) := by rw [IntKind.wrap_u64]; omega
  obtain ⟨s, hs⟩ : ∃ s, addS x m = s := ⟨_, rfl⟩
  obtain ⟨k, hk⟩ : ∃ s, addE x m = s := ⟨_, rfl⟩
  have hs2 := hs
  have hk2 := hk
  by_cases h : x + m < 18446744073709551616
  · rw [(add_yes h).1] at hs
    rw [(add_yes h).2] at hk
    subst hk
    have h1 : (n : Int) < s := by omega
    have hs2 := Lib.hid hs2
    have hk2 := Lib.hid hk2
    clear hs hh h
    go_enter Try.func9, Try.ntmps9
    go_wp2_with (go_at_call 16; refine (add_any _ _ _ hat hn _ _ hs2.out hk2.out).mono ?_; rintro e w1 ⟨rfl, hw1⟩; rw [hw1]; clear hw1; dsimp only)
    go_ret2
    exact ⟨rfl, rfl⟩
  · rw [(add_no h).1] at hs
    rw [(add_no h).2] at hk
    subst hk hs
    have hs2 := Lib.hid hs2
    have hk2 := Lib.hid hk2
    clear hh h
    go_enter Try.func9, Try.ntmps9
    go_wp2_with (go_at_call 16; refine (add_any _ _ _ hat hn _ _ hs2.out hk2.out).mono ?_; rintro e w1 ⟨rfl, hw1⟩; rw [hw1]; clear hw1; dsimp only)
    go_ret2
    exact ⟨rfl, rfl⟩

set_option maxHeartbeats 1000000 in
theorem window_yes (W : World) (zs : List Int) (a : Option Addr) (c : Nat) (lo m : Nat) (hs : SlI W .u8 1 zs a c) (hh : lo + m ≤ zs.length) :
    Calls Try.prog 9 #[.slice a zs.length c, .int .u64 (lo : Int), .int .u64 (m : Int)] W fun e w' => ∃ v, e = .returned (.tuple #[v, .int .i64 0]) ∧
      OwI w' W.heap.size 5 .u8 ((zs.drop lo).take m) v ∧ Below W.heap.size W w' := by
  have hl := hs.len63
  have hle := hs.le
  have hrr := hs.reach
  have HS := Lib.hid hs
  have wl : IntKind.u64.wrap (zs.length : Int) = (zs.length : Int) := by rw [IntKind.wrap_u64]; omega
  have hab : (lo : Int) + (m : Int) < 18446744073709551616 := by omega
  have HB := Lib.hid (add_yes hab).2
  obtain ⟨t, ht⟩ : ∃ t, t = lo + m := ⟨_, rfl⟩
  have HA := Lib.hid ((add_yes hab).1.trans (show (lo : Int) + (m : Int) = (t : Int) by omega))
  have q1 : (lo : Int) ≤ (t : Int) := by omega
  have q2 : (t : Int) ≤ (c : Int) := by omega
  have q3 : (lo : Int) ≤ (c : Int) := by omega
  have q5 : (t : Int) ≤ (zs.length : Int) := by omega
  have q6 : ¬ (zs.length : Int) < (t : Int) := by omega
  have HT := Lib.hid ht
  clear ht hab
  clear hs
  by_cases hcl : c = lo
  · obtain rfl : m = 0 := by omega
    subst hcl
    obtain rfl : t = c := HT.out
    go_enter Try.func9, Try.ntmps9
    go_wp2_with (first | (at_builtin; refine halt_ ?_) | (go_at_call 16; refine (add_any _ _ _ (by omega) (by omega) _ _ HA.out HB.out).mono ?_; rintro e w1 ⟨rfl, hw1⟩; rw [hw1]; clear hw1; dsimp only))
    refine go_on ?_
    refine append_sl (zs := []) (ms := []) EB rfl (.tmp 25) (.tmp 29) rfl W.heap.size rfl rfl rfl (OwI.lit _ _ _ _ [] rfl (Nat.le_refl _) (by decide) (by simp) rfl rfl) (SlI.empty _ .u8 1 _ _ (by simp [maxLen])) (N := 0) rfl (by omega) (by omega) (by simp) ?_
    intro a2 c2 w2 ho hg2 hb2
    clear hg2
    simp only [List.nil_append] at ho
    have hz2 : W.heap.size < w2.heap.size := by have := hb2.size; simp at this; omega
    go_wp2
    go_ret2
    refine ⟨_, rfl, ?_, ?_⟩
    · rw [List.take_zero]
      exact ho
    · repeat (first | exact Below.refl _ _ | refine Below.drew ?_ | refine below_drewN ?_ _ | (refine Below.alloc ?_ (by first | (simp; done) | omega | (simp; omega)) _) | (refine Below.setCell ?_ (by first | (simp; done) | omega | (simp; omega)) _) | (refine Below.trans ?_ (hb2.mono (by first | (simp; done) | omega | (simp; omega)))))
  · have hcl' : ((c : Int) == (lo : Int)) = false := by simp; omega
    have hlm : ((zs.drop lo).take m).length = m := by rw [List.length_take, List.length_drop]; omega
    have HLM := Lib.hid hlm
    clear hlm
    go_enter Try.func9, Try.ntmps9
    go_wp2_with (first | (at_builtin; refine halt_ ?_) | (go_at_call 16; refine (add_any _ _ _ (by omega) (by omega) _ _ HA.out HB.out).mono ?_; rintro e w1 ⟨rfl, hw1⟩; rw [hw1]; clear hw1; dsimp only))
    refine go_on ?_
    refine append_sl (zs := []) EB rfl (.tmp 25) (.tmp 29) rfl W.heap.size rfl rfl (by have := HT.out; have := HLM.out; omega) (OwI.lit _ _ _ _ [] rfl (Nat.le_refl _) (by decide) (by simp) rfl rfl) ((HS.out.alloc _).sub lo m (by omega)) (N := m) ((Nat.zero_add _).trans HLM.out) (by omega) (by omega) (by simp) ?_
    intro a2 c2 w2 ho hg2 hb2
    clear hg2
    simp only [List.nil_append] at ho
    have hz2 : W.heap.size < w2.heap.size := by have := hb2.size; simp at this; omega
    go_wp2
    go_ret2
    refine ⟨_, rfl, ?_, ?_⟩
    · exact ho
    · repeat (first | exact Below.refl _ _ | refine Below.drew ?_ | refine below_drewN ?_ _ | (refine Below.alloc ?_ (by first | (simp; done) | omega | (simp; omega)) _) | (refine Below.setCell ?_ (by first | (simp; done) | omega | (simp; omega)) _) | (refine Below.trans ?_ (hb2.mono (by first | (simp; done) | omega | (simp; omega)))))
end Go.Proofs.Ytochcepfljafoaa

/- The contracts of the reference's windows and numbers of bytes (ref01). No condition. -/
import Derived.Test.YtochcepfljafoaaStr
import Derived.Test.YtochcepfljafoaaGet
namespace Go.Proofs.Ytochcepfljafoaa
open Go.RowKit Go.Shp Go.Deep
attribute [local go_sem ↓] Go.wp_at_zero Go.wp_at_succ

/-- what the reference's Window answers -/
def rwinS (l : List Int) (x m : Int) : List Int := if x + m ≤ (l.length : Int) then (l.drop x.toNat).take m.toNat else []
def rwinE (l : List Int) (x m : Int) : Int := if x + m ≤ (l.length : Int) then 0 else 2

set_option maxHeartbeats 1000000 in
theorem rwin_any (W : World) (l : List Int) (x m : Int) (hl : l.length ≤ 140737488355328) (hx : 0 ≤ x ∧ x < 18446744073709551616) (hm : 0 ≤ m ∧ m < 18446744073709551616) (s : List Int) (k : Int) (hs : rwinS l x m = s) (hk : rwinE l x m = k) :
    Calls Try.prog 10 #[.string (strOfNums l), .int .u64 x, .int .u64 m] W fun e w' => e = .returned (.tuple #[.string (strOfNums s), .int .i64 k]) ∧ w' = W := by
  have hsz := strOfNums_size l
  have wl : IntKind.u64.wrap ((strOfNums l).size : Int) = ((strOfNums l).size : Int) := by rw [IntKind.wrap_u64, hsz]; omega
  by_cases hh : x + m ≤ (l.length : Int)
  · obtain ⟨lo, rfl⟩ := Int.eq_ofNat_of_zero_le hx.1
    obtain ⟨n, rfl⟩ := Int.eq_ofNat_of_zero_le hm.1
    have hab : (lo : Int) + (n : Int) < 18446744073709551616 := by omega
    have hss : s = (l.drop lo).take n := by rw [← hs, rwinS, if_pos hh]; simp
    have hkk : k = 0 := by rw [← hk, rwinE, if_pos hh]
    clear hs hk
    subst hkk
    obtain ⟨t, ht⟩ : ∃ t, t = lo + n := ⟨_, rfl⟩
    have HA := Lib.hid ((add_yes hab).1.trans (show (lo : Int) + (n : Int) = (t : Int) by omega))
    have HB := Lib.hid (add_yes hab).2
    have hex : (strOfNums l).extract lo t = strOfNums s := by rw [str_extract, hss, show t - lo = n by omega]
    have q1 : (lo : Int) ≤ (t : Int) := by omega
    have q2 : (t : Int) ≤ (l.length : Int) := by omega
    rw [← hsz] at q2
    have q6 : ¬ ((strOfNums l).size : Int) < (t : Int) := by omega
    clear ht hab hh hsz hss
    go_enter Try.func10, Try.ntmps10
    go_wp2_with (go_at_call 17; refine (radd_any _ _ _ (by omega) (by omega) _ _ HA.out HB.out).mono ?_; rintro e w1 ⟨rfl, hw1⟩; rw [hw1]; clear hw1; dsimp only)
    go_ret2
    exact ⟨rfl, rfl⟩
  · have hss : s = [] := by rw [← hs, rwinS, if_neg hh]
    have hkk : k = 2 := by rw [← hk, rwinE, if_neg hh]
    clear hs hk
    subst hss hkk
    rw [← hsz] at hh
    by_cases hab : x + m < 18446744073709551616
    · have HA := Lib.hid (add_yes hab).1
      have HB := Lib.hid (add_yes hab).2
      have q2 : ((strOfNums l).size : Int) < x + m := by omega
      clear hh hab hsz
      obtain ⟨t, ht⟩ : ∃ t, x + m = t := ⟨_, rfl⟩
      rw [ht] at HA q2
      clear ht
      go_enter Try.func10, Try.ntmps10
      go_wp2_with (go_at_call 17; refine (radd_any _ _ _ (by omega) (by omega) _ _ HA.out HB.out).mono ?_; rintro e w1 ⟨rfl, hw1⟩; rw [hw1]; clear hw1; dsimp only)
      go_ret2
      exact ⟨rfl, rfl⟩
    · have HA := Lib.hid (add_no hab).1
      have HB := Lib.hid (add_no hab).2
      clear hh hab hsz
      go_enter Try.func10, Try.ntmps10
      go_wp2_with (go_at_call 17; refine (radd_any _ _ _ (by omega) (by omega) _ _ HA.out HB.out).mono ?_; rintro e w1 ⟨rfl, hw1⟩; rw [hw1]; clear hw1; dsimp only)
      go_ret2
      exact ⟨rfl, rfl⟩

set_option maxHeartbeats 1000000 in
theorem turn_any (W : World) (l : List Int) (hl : l.length ≤ 140737488355328) (s : List Int) (hs : l.reverse = s) :
    Calls Try.prog 15 #[.string (strOfNums l)] W fun e w' => e = .returned (.string (strOfNums s)) ∧ w' = W := by
  have hsz := strOfNums_size l
  have HS := Lib.hid hs
  clear hs
  go_enter Try.func15, Try.ntmps15
  go_wp2
  go_loopw [3, 4] (fun o i wr => ∃ k : Nat, k ≤ l.length ∧ i = .int .i64 (k : Int) ∧ wr = W ∧ o = .string (strOfNums (l.take k).reverse)) (fun _ i _ => l.length - (intOf i).toNat)
  case atStart => exact ⟨0, Nat.zero_le _, rfl, rfl, rfl⟩
  case round =>
    obtain ⟨k, hk, rfl, hwr, rfl⟩ := hrel
    subst hwr
    by_cases hlt : k < l.length
    · have hx := str_one l k hlt
      have hx2 : (l.take (k + 1)).reverse = l.getD k 0 :: (l.take k).reverse := by
        rw [List.take_succ_eq_append_getElem hlt, List.reverse_append]
        simp [List.getD, hlt]
      obtain ⟨z, hz⟩ : ∃ z, l.getD k 0 = z := ⟨_, rfl⟩
      obtain ⟨r, hr⟩ : ∃ r, (l.take k).reverse = r := ⟨_, rfl⟩
      have hrl : r.length = k := by rw [← hr, List.length_reverse, List.length_take]; omega
      rw [hz] at hx hx2
      rw [hr] at hx2 ⊢
      have hap : strOfNums [z] ++ strOfNums r = strOfNums (z :: r) := str_append [z] r
      have hs1 : (strOfNums [z]).size = 1 := strOfNums_size _
      have hs2 : (strOfNums r).size = k := by rw [strOfNums_size, hrl]
      have q1 : (k : Int) < ((strOfNums l).size : Int) := by rw [hsz]; omega
      obtain ⟨j, hj⟩ : ∃ j, k + 1 = j := ⟨_, rfl⟩
      have q3 : (j : Int) ≤ ((strOfNums l).size : Int) := by omega
      have q4 : (k : Int) ≤ (j : Int) := by omega
      have g1 : IntKind.i64.wrap ((k : Int) + 1) = (j : Int) := by rw [IntWalk.i64_in _ (by omega)]; omega
      rw [hj] at hx hx2
      have HJ := Lib.hid hj
      have HX2 := Lib.hid hx2
      have HSZ := Lib.hid hsz
      clear hx2 hr hz hsz hrl hj
      go_wp2
      go_roundw
      case rel => exact ⟨j, by have := HJ.out; omega, rfl, trivial, by rw [HX2.out]⟩
      case measure => have := HJ.out; simp [intOf]; omega
    · obtain rfl : k = l.length := by omega
      have q1 : ¬ (l.length : Int) < ((strOfNums l).size : Int) := by rw [hsz]; omega
      have hx2 := HS.out
      rw [List.take_length, hx2]
      clear hsz
      go_wp2
      go_ret
      exact ⟨rfl, rfl⟩

set_option maxHeartbeats 1000000 in
theorem number_any (W : World) (l : List Int) (big : Bool) (hb : Bytes l) (hl : l.length ≤ 8) (r : Int) (hr : getN big l = r) :
    Calls Try.prog 22 #[.string (strOfNums l), .bool big] W fun e w' => e = .returned (.int .u64 r) ∧ w' = W := by
  obtain ⟨s, hs⟩ : ∃ s, turnB big l = s := ⟨_, rfl⟩
  have hsb : Bytes s := fun z hz => hb z ((turnB_mem big l z).1 (hs ▸ hz))
  have hsl : s.length ≤ 8 := by rw [← hs, turnB_len]; exact hl
  have hsr : numB s = r := by rw [← hs]; exact hr
  have hsz := strOfNums_size s
  have HR := Lib.hid hsr
  have HSB := Lib.hid hsb
  cases big with
  | true =>
    have hs' : s = l := by rw [← hs]; rfl
    subst hs'
    clear hs hr hsr hb hl hsb
    go_enter Try.func22, Try.ntmps22
    go_wp2
    go_loopw [5, 6] (fun p i wr => ∃ k : Nat, k ≤ s.length ∧ i = .int .i64 (k : Int) ∧ wr = W ∧ ∃ y, p = .int .u64 y ∧ Hid (y = numB (s.take k))) (fun _ i _ => s.length - (intOf i).toNat)
    case atStart => exact ⟨0, Nat.zero_le _, rfl, rfl, 0, rfl, by simp [Hid, numB]⟩
    case round =>
      obtain ⟨k, hk, rfl, hwr, y, rfl, HY⟩ := hrel
      subst hwr
      by_cases hlt : k < s.length
      · have hyb := numB_take_lt _ HSB.out k (by omega)
        rw [← HY.out] at hyb
        have hnx := numB_take s k hlt
        rw [← HY.out] at hnx
        have hzb := HSB.out.get k
        have hlt2 : k < (strOfNums s).size := by rw [hsz]; exact hlt
        have hat := str_at s k hlt2 HSB.out
        obtain ⟨z, hz⟩ : ∃ z, s.getD k 0 = z := ⟨_, rfl⟩
        rw [hz] at hnx hzb hat
        have q1 : (k : Int) < ((strOfNums s).size : Int) := by rw [hsz]; omega
        have g1 : IntKind.i64.wrap ((k : Int) + 1) = (k : Int) + 1 := IntWalk.i64_in _ (by omega)
        have wy : IntKind.u64.wrap (y * 256) = y * 256 := by rw [IntKind.wrap_u64]; omega
        have wz : IntKind.u64.wrap z = z := by rw [IntKind.wrap_u64]; omega
        have wyz : IntKind.u64.wrap (y * 256 + z) = y * 256 + z := by rw [IntKind.wrap_u64]; omega
        have HNX := Lib.hid hnx
        have HSZ := Lib.hid hsz
        clear hnx hz hsz
        go_wp2
        go_roundw
        case rel => exact ⟨k + 1, by omega, by go_num, trivial, y * 256 + z, rfl, HNX.out.symm⟩
        case measure => simp [intOf]; omega
      · obtain rfl : k = s.length := by omega
        have q1 : ¬ (s.length : Int) < ((strOfNums s).size : Int) := by rw [hsz]; omega
        have hy : y = r := by rw [HY.out, ← HR.out, List.take_length]
        subst hy
        clear hsz
        go_wp2
        go_ret
        exact ⟨rfl, rfl⟩
  | false =>
    have HT : Hid (l.reverse = s) := by unfold Hid; rw [← hs]; rfl
    have HL : Hid (l.length ≤ 140737488355328) := by unfold Hid; omega
    clear hs hr hsr hb hl hsb
    go_enter Try.func22, Try.ntmps22
    go_wp2_with (go_at_call 15; refine (turn_any _ _ HL.out _ HT.out).mono ?_; rintro e w1 ⟨rfl, hw1⟩; rw [hw1]; clear hw1; dsimp only)
    go_loopw [5, 6] (fun p i wr => ∃ k : Nat, k ≤ s.length ∧ i = .int .i64 (k : Int) ∧ wr = W ∧ ∃ y, p = .int .u64 y ∧ Hid (y = numB (s.take k))) (fun _ i _ => s.length - (intOf i).toNat)
    case atStart => exact ⟨0, Nat.zero_le _, rfl, rfl, 0, rfl, by simp [Hid, numB]⟩
    case round =>
      obtain ⟨k, hk, rfl, hwr, y, rfl, HY⟩ := hrel
      subst hwr
      by_cases hlt : k < s.length
      · have hyb := numB_take_lt _ HSB.out k (by omega)
        rw [← HY.out] at hyb
        have hnx := numB_take s k hlt
        rw [← HY.out] at hnx
        have hzb := HSB.out.get k
        have hlt2 : k < (strOfNums s).size := by rw [hsz]; exact hlt
        have hat := str_at s k hlt2 HSB.out
        obtain ⟨z, hz⟩ : ∃ z, s.getD k 0 = z := ⟨_, rfl⟩
        rw [hz] at hnx hzb hat
        have q1 : (k : Int) < ((strOfNums s).size : Int) := by rw [hsz]; omega
        have g1 : IntKind.i64.wrap ((k : Int) + 1) = (k : Int) + 1 := IntWalk.i64_in _ (by omega)
        have wy : IntKind.u64.wrap (y * 256) = y * 256 := by rw [IntKind.wrap_u64]; omega
        have wz : IntKind.u64.wrap z = z := by rw [IntKind.wrap_u64]; omega
        have wyz : IntKind.u64.wrap (y * 256 + z) = y * 256 + z := by rw [IntKind.wrap_u64]; omega
        have HNX := Lib.hid hnx
        have HSZ := Lib.hid hsz
        clear hnx hz hsz
        go_wp2
        go_roundw
        case rel => exact ⟨k + 1, by omega, by go_num, trivial, y * 256 + z, rfl, HNX.out.symm⟩
        case measure => simp [intOf]; omega
      · obtain rfl : k = s.length := by omega
        have q1 : ¬ (s.length : Int) < ((strOfNums s).size : Int) := by rw [hsz]; omega
        have hy : y = r := by rw [HY.out, ← HR.out, List.take_length]
        subst hy
        clear hsz
        go_wp2
        go_ret
        exact ⟨rfl, rfl⟩

/-- what the reference's Get answers -/
def rgetS (l : List Int) (x size : Int) (big : Bool) : Int := if sizedB size then getN big (rwinS l x size) else 0
def rgetE (l : List Int) (x size : Int) : Int := if sizedB size then rwinE l x size else 1
theorem sized_le {n : Int} (h : sizedB n = true) : 1 ≤ n ∧ n ≤ 8 := by simp [sizedB] at h; omega
theorem rwinS_bytes {l : List Int} (h : Bytes l) (x m : Int) : Bytes (rwinS l x m) := by
  unfold rwinS; split
  · exact (h.drop _).take _
  · intro z hz; simp at hz
theorem rwinS_len (l : List Int) (x m : Int) : (rwinS l x m).length ≤ m.toNat := by
  unfold rwinS; split
  · rw [List.length_take]; omega
  · simp
set_option maxHeartbeats 1000000 in
theorem rget_any (W : World) (l : List Int) (x size : Int) (big : Bool) (hb : Bytes l) (hl : l.length ≤ 140737488355328) (hx : 0 ≤ x ∧ x < 18446744073709551616) (r k : Int) (hr : rgetS l x size big = r) (hk : rgetE l x size = k) :
    Calls Try.prog 12 #[.string (strOfNums l), .int .u64 x, .int .i64 size, .bool big] W fun e w' => e = .returned (.tuple #[.int .u64 r, .int .i64 k]) ∧ w' = W := by
  cases hz : sizedB size with
  | false =>
    have HZ := Lib.hid hz
    have h1 : r = 0 := by rw [← hr, rgetS, hz]; rfl
    have h2 : k = 1 := by rw [← hk, rgetE, hz]; rfl
    clear hz hr hk
    subst h1 h2
    go_enter Try.func12, Try.ntmps12
    go_wp2_with (go_at_call 21; refine (rsized_any _ _ _ HZ.out).mono ?_; rintro e w1 ⟨rfl, hw1⟩; rw [hw1]; clear hw1; dsimp only)
    go_ret2
    exact ⟨rfl, rfl⟩
  | true =>
    have hsz := sized_le hz
    have HZ := Lib.hid hz
    have h1 : getN big (rwinS l x size) = r := by rw [← hr, rgetS, hz]; rfl
    have h2 : rwinE l x size = k := by rw [← hk, rgetE, hz]; rfl
    have wl : IntKind.u64.wrap size = size := by rw [IntKind.wrap_u64]; omega
    obtain ⟨s, hs⟩ : ∃ s, rwinS l x size = s := ⟨_, rfl⟩
    have HBY : Hid (Bytes s) := by unfold Hid; rw [← hs]; exact rwinS_bytes hb _ _
    have HL8 : Hid (s.length ≤ 8) := by unfold Hid; have := rwinS_len l x size; rw [hs] at this; omega
    rw [hs] at h1
    have HR := Lib.hid h1
    have HK := Lib.hid h2
    have HS := Lib.hid hs
    clear hz hr hk hs h1 h2 hb
    go_enter Try.func12, Try.ntmps12
    go_wp2_with (first | (go_at_call 21; refine (rsized_any _ _ _ HZ.out).mono ?_; rintro e w1 ⟨rfl, hw1⟩; rw [hw1]; clear hw1; dsimp only) | (go_at_call 22; refine (number_any _ _ _ HBY.out HL8.out _ HR.out).mono ?_; rintro e w1 ⟨rfl, hw1⟩; rw [hw1]; clear hw1; dsimp only) | (go_at_call 10; refine (rwin_any _ _ _ _ hl hx (by omega) _ _ HS.out HK.out).mono ?_; rintro e w1 ⟨rfl, hw1⟩; rw [hw1]; clear hw1; dsimp only))
    go_ret2
    exact ⟨rfl, rfl⟩
end Go.Proofs.Ytochcepfljafoaa

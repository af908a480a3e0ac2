/- The contracts of octets.Get. No condition. -/
import Derived.Test.YtochcepfljafoaaWin
namespace Go.Proofs.Ytochcepfljafoaa
open Go.RowKit Go.Shp Go.Deep
attribute [local go_sem ↓] Go.wp_at_zero Go.wp_at_succ

/-- the number of bytes, the first the greatest -/
def numB (l : List Int) : Int := l.foldl (fun n c => n * 256 + c) 0
def turnB (big : Bool) (l : List Int) : List Int := if big then l else l.reverse
def getN (big : Bool) (l : List Int) : Int := numB (turnB big l)
theorem numB_snoc (l : List Int) (c : Int) : numB (l ++ [c]) = numB l * 256 + c := by simp [numB]
theorem numB_take (l : List Int) (i : Nat) (hi : i < l.length) : numB (l.take (i + 1)) = numB (l.take i) * 256 + l.getD i 0 := by
  rw [List.take_succ_eq_append_getElem hi, numB_snoc]
  simp [List.getD, hi]
theorem foldB_lt (l : List Int) (h : ∀ z ∈ l, 0 ≤ z ∧ z < 256) : ∀ n : Int, 0 ≤ n → 0 ≤ l.foldl (fun n c => n * 256 + c) n ∧ l.foldl (fun n c => n * 256 + c) n < (n + 1) * ((256 ^ l.length : Nat) : Int) := by
  induction l with
  | nil => intro n hn; simp; omega
  | cons c l ih =>
    intro n hn
    have h2 := h c (by simp)
    have h1 := ih (fun z hz => h z (by simp [hz])) (n * 256 + c) (by omega)
    rw [List.foldl_cons, List.length_cons, Nat.pow_succ]
    refine ⟨h1.1, Int.lt_of_lt_of_le h1.2 ?_⟩
    rw [Int.natCast_mul, Int.mul_comm ((256 ^ l.length : Nat) : Int), ← Int.mul_assoc]
    exact Int.mul_le_mul_of_nonneg_right (by omega) (Int.natCast_nonneg _)
theorem numB_lt (l : List Int) (h : ∀ z ∈ l, 0 ≤ z ∧ z < 256) : 0 ≤ numB l ∧ numB l < ((256 ^ l.length : Nat) : Int) := by
  have := foldB_lt l h 0 (by omega)
  rw [Int.zero_add, Int.one_mul] at this
  exact this
theorem numB_take_lt (l : List Int) (h : ∀ z ∈ l, 0 ≤ z ∧ z < 256) (i : Nat) (hi : i < 8) : 0 ≤ numB (l.take i) ∧ numB (l.take i) < 72057594037927936 := by
  have h1 := numB_lt (l.take i) fun z hz => h z (List.mem_of_mem_take hz)
  have hp : 256 ^ (l.take i).length ≤ 256 ^ 7 := Nat.pow_le_pow_right (by omega) (by rw [List.length_take]; omega)
  have h7 : (256 : Nat) ^ 7 = 72057594037927936 := by decide
  rw [h7] at hp
  generalize 256 ^ (l.take i).length = N at *
  omega
theorem wf8 {z : Int} (h : (Lit.int .u8 z).wf = true) : 0 ≤ z ∧ z < 256 := by
  simp [Lit.wf, IntKind.min, IntKind.max, IntKind.signed, IntKind.bits] at h
  omega
theorem turnB_len (big : Bool) (l : List Int) : (turnB big l).length = l.length := by cases big <;> simp [turnB]
theorem turnB_mem (big : Bool) (l : List Int) (z : Int) : z ∈ turnB big l ↔ z ∈ l := by cases big <;> simp [turnB]
theorem turnB_at (big : Bool) (l : List Int) (i : Nat) (hi : i < l.length) : (turnB big l).getD i 0 = if big then l.getD i 0 else l.getD (l.length - 1 - i) 0 := by
  cases big
  · simp only [turnB, List.getD, Bool.false_eq_true, if_false, List.getElem?_reverse hi]
  · simp [turnB]
theorem or256 (p q : Int) (hp : 0 ≤ p ∧ p < 72057594037927936) (hq : 0 ≤ q ∧ q < 256) : bits .or .u64 (p * 256) q = p * 256 + q := by
  obtain ⟨a, rfl⟩ := Int.eq_ofNat_of_zero_le hp.1
  obtain ⟨b, rfl⟩ := Int.eq_ofNat_of_zero_le hq.1
  have h := bits_or_u64_nat (a * 256) b (by omega) (by omega)
  have e : a * 256 ||| b = a * 256 + b := by
    have := Nat.two_pow_add_eq_or_of_lt (i := 8) (b := b) (by omega) a
    rw [Nat.mul_comm] at this
    exact this.symm
  rw [e, Int.natCast_add, Int.natCast_mul] at h
  exact h

set_option maxHeartbeats 1000000 in
theorem get_arg (W : World) (v : Value) (x size : Int) (big : Bool) (hz : sizedB size = false) :
    Calls Try.prog 11 #[v, .int .u64 x, .int .i64 size, .bool big] W fun e w' => e = .returned (.tuple #[.int .u64 0, .int .i64 1]) ∧ w' = W := by
  have HZ := Lib.hid hz
  clear hz
  go_enter Try.func11, Try.ntmps11
  go_wp2_with (go_at_call 20; refine (sized_any _ _ _ HZ.out).mono ?_; rintro e w1 ⟨rfl, hw1⟩; rw [hw1]; clear hw1; dsimp only)
  go_ret2
  exact ⟨rfl, rfl⟩

set_option maxHeartbeats 1000000 in
theorem get_cut (W : World) (a : Option Addr) (n c : Nat) (x size : Int) (big : Bool) (hl : n ≤ 9223372036854775807) (hat : 0 ≤ x ∧ x < 18446744073709551616) (hz : sizedB size = true) (hh : ¬ x + size ≤ (n : Int)) :
    Calls Try.prog 11 #[.slice a n c, .int .u64 x, .int .i64 size, .bool big] W fun e w' => e = .returned (.tuple #[.int .u64 0, .int .i64 2]) ∧ w' = W := by
  have hsz : 0 ≤ size ∧ size ≤ 8 := by simp [sizedB] at hz; omega
  have HZ := Lib.hid hz
  have HH := Lib.hid hh
  have wl : IntKind.u64.wrap size = size := by rw [IntKind.wrap_u64]; omega
  clear hz hh
  go_enter Try.func11, Try.ntmps11
  go_wp2_with (first | (go_at_call 20; refine (sized_any _ _ _ HZ.out).mono ?_; rintro e w1 ⟨rfl, hw1⟩; rw [hw1]; clear hw1; dsimp only) | (go_at_call 9; refine (window_no _ _ _ _ _ _ hl hat (by omega) HH.out).mono ?_; rintro e w1 ⟨rfl, hw1⟩; rw [hw1]; clear hw1; dsimp only))
  go_ret2
  exact ⟨rfl, rfl⟩

set_option maxHeartbeats 1000000 in
theorem get_yes (W : World) (zs : List Int) (a : Option Addr) (c : Nat) (lo m : Nat) (big : Bool) (hs : SlI W .u8 1 zs a c) (hz : sizedB (m : Int) = true) (hh : lo + m ≤ zs.length) (r : Int) (hr : getN big ((zs.drop lo).take m) = r) :
    Calls Try.prog 11 #[.slice a zs.length c, .int .u64 (lo : Int), .int .i64 (m : Int), .bool big] W fun e w' => e = .returned (.tuple #[.int .u64 r, .int .i64 0]) ∧ Below W.heap.size W w' := by
  have hsz : m ≤ 8 := by simp [sizedB] at hz; omega
  have HZ := Lib.hid hz
  have HR := Lib.hid hr
  have HS := Lib.hid hs
  have wl : IntKind.u64.wrap (m : Int) = (m : Int) := by rw [IntKind.wrap_u64]; omega
  obtain ⟨l, hl⟩ : ∃ l, l = (zs.drop lo).take m := ⟨_, rfl⟩
  have hlm : l.length = m := by rw [hl, List.length_take, List.length_drop]; omega
  have HL := Lib.hid hl
  have HLM := Lib.hid hlm
  clear hz hs hr hl hlm
  go_enter Try.func11, Try.ntmps11
  go_wp2_with (first | (go_at_call 20; refine (sized_any _ _ _ HZ.out).mono ?_; rintro e w1 ⟨rfl, hw1⟩; rw [hw1]; clear hw1; dsimp only) | (go_at_call 9; refine (window_yes _ _ _ _ _ _ HS.out hh).mono ?_; rintro e w1 ⟨v, rfl, ho, hb1⟩; rw [← HL.out] at ho; obtain ⟨a1, c1, hv, _, _⟩ := ho.form; subst hv; rw [HLM.out] at ho; rw [HLM.out]; dsimp only; refine halt_ ?_))
  refine go_on ?_
  have hsl := ho.slN (bytes := 1) HLM.out (by omega)
  have hok := fun z hz => wf8 (ho.ok z hz)
  have HOK : Hid (∀ z ∈ turnB big l, 0 ≤ z ∧ z < 256) := fun z hz => hok z ((turnB_mem big l z).1 hz)
  have HSL := Lib.hid hsl
  have HTL : Hid ((turnB big l).length = m) := (turnB_len big l).trans HLM.out
  clear hsl hok
  go_wp2
  go_loopw [12, 31] (fun p i wr => ∃ k : Nat, k ≤ m ∧ i = .int .i64 (k : Int) ∧ wr = w1 ∧ ∃ y, p = .int .u64 y ∧ Hid (y = numB ((turnB big l).take k))) (fun _ i _ => m - (intOf i).toNat)
  case atStart => exact ⟨0, Nat.zero_le _, rfl, rfl, 0, rfl, by simp [Hid, numB]⟩
  case round =>
    obtain ⟨k, hk, rfl, hwr, y, rfl, HY⟩ := hrel
    subst hwr
    by_cases hlt : k < m
    · obtain ⟨b1, o1, rfl, q1, c1⟩ := HSL.out.cells (by have := HLM.out; omega)
      have e1 := c1 k (by have := HLM.out; omega)
      have e2 := c1 (m - 1 - k) (by have := HLM.out; omega)
      have hyb := numB_take_lt _ HOK.out k (by omega)
      rw [← HY.out] at hyb
      have hnx := numB_take (turnB big l) k (by have := HTL.out; omega)
      rw [← HY.out, turnB_at big l k (by have := HLM.out; omega), HLM.out] at hnx
      have hmem : 0 ≤ (if big then l.getD k 0 else l.getD (m - 1 - k) 0) ∧ (if big then l.getD k 0 else l.getD (m - 1 - k) 0) < 256 := by
        rw [← HLM.out, ← turnB_at big l k (by have := HLM.out; omega)]
        exact HOK.out _ (by simp only [List.getD, List.getElem?_eq_getElem (show k < (turnB big l).length from by have := HTL.out; omega), Option.getD_some]; exact List.getElem_mem _)
      obtain ⟨u, hu⟩ : ∃ u, l.getD k 0 = u := ⟨_, rfl⟩
      obtain ⟨v, hv⟩ : ∃ u, l.getD (m - 1 - k) 0 = u := ⟨_, rfl⟩
      rw [hu, hv] at hnx hmem
      rw [hu] at e1
      rw [hv] at e2
      obtain ⟨j, hj⟩ : ∃ j, j = m - 1 - k := ⟨_, rfl⟩
      rw [← hj] at e2
      have g1 : IntKind.i64.wrap ((m : Int) - 1) = (m : Int) - 1 := IntWalk.i64_in _ (by omega)
      have g2 : IntKind.i64.wrap ((m : Int) - 1 - (k : Int)) = (j : Int) := by rw [IntWalk.i64_in _ (by omega)]; omega
      have wy : IntKind.u64.wrap (y * 256) = y * 256 := by rw [IntKind.wrap_u64]; omega
      have hjm : (j : Int) < (m : Int) := by omega
      have hoi := or256 y _ hyb hmem
      have HNX := Lib.hid hnx
      have HJ := Lib.hid hj
      clear hnx hu hv c1 hj
      cases big with
      | true =>
        simp only [if_true] at hoi hmem HNX
        go_wp2
        go_roundw
        case rel => exact ⟨k + 1, by omega, by go_num, trivial, y * 256 + u, rfl, HNX.out.symm⟩
        case measure => simp [intOf]; omega
      | false =>
        simp only [Bool.false_eq_true, if_false] at hoi hmem HNX
        go_wp2
        go_roundw
        case rel => exact ⟨k + 1, by omega, by go_num, trivial, y * 256 + v, rfl, HNX.out.symm⟩
        case measure => simp [intOf]; omega
    · obtain rfl : k = m := by omega
      have hy : y = r := by
        rw [HY.out, ← HR.out, ← HL.out, getN, List.take_of_length_le (by have := HTL.out; omega)]
      subst hy
      go_wp2
      go_ret2
      exact ⟨rfl, hb1⟩
end Go.Proofs.Ytochcepfljafoaa

/- The contracts of octets.Put and the reference's Put. No condition. -/
import Derived.Test.YtochcepfljafoaaRef
namespace Go.Proofs.Ytochcepfljafoaa
open Go.RowKit Go.Shp Go.Deep
attribute [local go_sem ↓] Go.wp_at_zero Go.wp_at_succ

/-- a number's byte number i, the least the first -/
def dig (x : Int) (i : Nat) : Int := x / 256 ^ i % 256
/-- a number in m bytes, the greatest first -/
def bigB (x : Int) : Nat → List Int
  | 0 => []
  | m + 1 => bigB (x / 256) m ++ [x % 256]
theorem bigB_len (x : Int) (m : Nat) : (bigB x m).length = m := by
  induction m generalizing x with
  | zero => rfl
  | succ m ih => simp [bigB, ih]
theorem dig_div (x : Int) (i : Nat) : dig (x / 256) i = dig x (i + 1) := by
  unfold dig
  rw [Int.pow_succ, Int.mul_comm, Int.ediv_ediv_of_nonneg (by omega)]
theorem bigB_cons (x : Int) (m : Nat) : bigB x (m + 1) = dig x m :: bigB x m := by
  induction m generalizing x with
  | zero => simp [bigB, dig]
  | succ m ih =>
    rw [show bigB x (m + 1 + 1) = bigB (x / 256) (m + 1) ++ [x % 256] from rfl, ih, dig_div]
    rfl
theorem bigB_at (x : Int) (m j : Nat) (hj : j < m) : (bigB x m).getD j 0 = dig x (m - 1 - j) := by
  induction m generalizing j with
  | zero => omega
  | succ m ih =>
    rw [bigB_cons]
    cases j with
    | zero => simp
    | succ j =>
      rw [List.getD_cons_succ, ih j (by omega)]
      congr 1
      omega
theorem bigB_bytes (x : Int) (m : Nat) : Bytes (bigB x m) := by
  induction m generalizing x with
  | zero => intro z hz; simp [bigB] at hz
  | succ m ih =>
    intro z hz
    rw [bigB, List.mem_append, List.mem_singleton] at hz
    rcases hz with hz | rfl
    · exact ih _ z hz
    · omega
theorem numB_bigB (x : Int) (m : Nat) (h0 : 0 ≤ x) (hx : x < 256 ^ m) : numB (bigB x m) = x := by
  induction m generalizing x with
  | zero => simp [bigB, numB] at *; omega
  | succ m ih =>
    rw [bigB, numB_snoc, ih (x / 256) (by omega) (by rw [Int.pow_succ] at hx; omega)]
    omega
theorem getN_turnB (x : Int) (m : Nat) (big : Bool) (h0 : 0 ≤ x) (hx : x < 256 ^ m) : getN big (turnB big (bigB x m)) = x := by
  cases big
  · simp [getN, turnB, numB_bigB x m h0 hx]
  · simp [getN, turnB, numB_bigB x m h0 hx]
/-- Put's row behind i rounds -/
def putRow (x : Int) (m : Nat) (big : Bool) (i : Nat) : List Int := (List.range m).map fun j => if (if big then m - 1 - j else j) < i then dig x (if big then m - 1 - j else j) else 0
theorem putRow_len (x : Int) (m : Nat) (big : Bool) (i : Nat) : (putRow x m big i).length = m := by simp [putRow]
theorem putRow_zero (x : Int) (m : Nat) (big : Bool) : putRow x m big 0 = List.replicate m 0 := by
  simp [putRow, List.map_const']
theorem putRow_set (x : Int) (m : Nat) (big : Bool) (i p : Nat) (hi : i < m) (hp : p = if big then m - 1 - i else i) : (putRow x m big i).set p (dig x i) = putRow x m big (i + 1) := by
  refine List.ext_getElem (by simp [putRow]) fun j h1 h2 => ?_
  have hj : j < m := by simpa [putRow] using h2
  rw [List.getElem_set]
  simp only [putRow, List.getElem_map, List.getElem_range]
  cases big
  · simp only [Bool.false_eq_true, if_false] at hp ⊢
    by_cases h : p = j
    · subst h hp; simp
    · rw [if_neg h]
      by_cases h3 : j < i
      · rw [if_pos h3, if_pos (by omega)]
      · rw [if_neg h3, if_neg (by omega)]
  · simp only [if_true] at hp ⊢
    by_cases h : p = j
    · rw [if_pos h, if_pos (by omega)]
      congr 1
      omega
    · rw [if_neg h]
      by_cases h3 : m - 1 - j < i
      · rw [if_pos h3, if_pos (by omega)]
      · rw [if_neg h3, if_neg (by omega)]
theorem putRow_all (x : Int) (m : Nat) (big : Bool) : putRow x m big m = turnB big (bigB x m) := by
  refine List.ext_getElem (by rw [putRow_len, turnB_len, bigB_len]) fun j h1 h2 => ?_
  have hj : j < m := by rwa [putRow_len] at h1
  have e := turnB_at big (bigB x m) j (by rw [bigB_len]; exact hj)
  simp only [List.getD, List.getElem?_eq_getElem h2, Option.getD_some] at e
  rw [e]
  simp only [putRow, List.getElem_map, List.getElem_range]
  have q1 := bigB_at x m j hj
  have q2 := bigB_at x m (m - 1 - j) (by omega)
  simp only [List.getD] at q1 q2
  cases big
  · simp only [Bool.false_eq_true, if_false]
    rw [if_pos hj, bigB_len, q2]
    congr 1
    omega
  · simp only [if_true]
    rw [if_pos (by omega), q1]
theorem dig_bd (x : Int) (i : Nat) : 0 ≤ dig x i ∧ dig x i < 256 := by unfold dig; omega
theorem pow_256 (k : Nat) : (2 : Int) ^ (8 * k) = 256 ^ k := by rw [Int.pow_mul]; rfl
theorem dig_wrap (x : Int) (i s : Nat) (hs : s = 8 * i) (q : Int) (hq : x / 2 ^ s = q) : IntKind.u8.wrap q = dig x i := by
  subst hs hq
  rw [pow_256, IntKind.wrap_u8]
  rfl
theorem wf_dig (x : Int) (i : Nat) : (Lit.int .u8 (dig x i)).wf = true := WalkArith.wf_u8 (by have := dig_bd x i; omega)

set_option maxHeartbeats 1000000 in
theorem put_arg (W : World) (x size : Int) (big : Bool) (hz : sizedB size = false) :
    Calls Try.prog 13 #[.int .u64 x, .int .i64 size, .bool big] W fun e w' => e = .returned (.tuple #[.slice none 0 0, .int .i64 1]) ∧ w' = W := by
  have HZ := Lib.hid hz
  clear hz
  go_enter Try.func13, Try.ntmps13
  go_wp2_with (go_at_call 20; refine (sized_any _ _ _ HZ.out).mono ?_; rintro e w1 ⟨rfl, hw1⟩; rw [hw1]; clear hw1; dsimp only)
  go_ret2
  exact ⟨rfl, rfl⟩

theorem over_q (x : Int) (m : Nat) (hx : ¬ x < 256 ^ m) : x / 2 ^ (8 * m) ≠ 0 := by
  rw [pow_256]
  intro h
  have h1 := Int.emod_add_mul_ediv x (256 ^ m)
  have h2 := Int.emod_lt_of_pos x (show (0 : Int) < 256 ^ m from Int.pow_pos (by omega))
  rw [h, Int.mul_zero] at h1
  omega
theorem fits_q (x : Int) (m : Nat) (h0 : 0 ≤ x) (hx : x < 256 ^ m) : x / 2 ^ (8 * m) = 0 := by
  rw [pow_256]
  exact Int.ediv_eq_zero_of_lt h0 hx

set_option maxHeartbeats 1000000 in
theorem put_over (W : World) (x : Int) (m : Nat) (big : Bool) (hz : sizedB (m : Int) = true) (hx : 0 ≤ x ∧ x < 18446744073709551616) (ho : ¬ x < 256 ^ m) :
    Calls Try.prog 13 #[.int .u64 x, .int .i64 (m : Int), .bool big] W fun e w' => e = .returned (.tuple #[.slice none 0 0, .int .i64 7]) ∧ w' = W := by
  have hq := over_q x m ho
  have h8 : (m : Int) < 8 := by
    have := sized_le hz
    rcases (by omega : m < 8 ∨ m = 8) with h | h
    · omega
    · subst h
      exact absurd (show x < 256 ^ 8 by have : (256 : Int) ^ 8 = 18446744073709551616 := by decide
                                        omega) ho
  have HZ := Lib.hid hz
  obtain ⟨s, hs⟩ : ∃ s, 8 * m = s := ⟨_, rfl⟩
  rw [hs] at hq
  obtain ⟨q, hqq⟩ : ∃ q, x / 2 ^ s = q := ⟨_, rfl⟩
  rw [hqq] at hq
  have g1 : IntKind.i64.wrap (8 * (m : Int)) = (s : Int) := by rw [IntWalk.i64_in _ (by omega)]; omega
  have g2 : (s : Int) ≤ 64 := by omega
  have hmn : min s 64 = s := by omega
  clear hz ho hs
  go_enter Try.func13, Try.ntmps13
  go_wp2_with (go_at_call 20; refine (sized_any _ _ _ HZ.out).mono ?_; rintro e w1 ⟨rfl, hw1⟩; rw [hw1]; clear hw1; dsimp only)
  go_ret2
  exact ⟨rfl, rfl⟩

set_option maxHeartbeats 1000000 in
theorem put_yes (W : World) (x : Int) (m : Nat) (big : Bool) (hz : sizedB (m : Int) = true) (hx : 0 ≤ x ∧ x < 18446744073709551616) (ho : x < 256 ^ m) (l : List Int) (hl : turnB big (bigB x m) = l) :
    Calls Try.prog 13 #[.int .u64 x, .int .i64 (m : Int), .bool big] W fun e w' => ∃ a c, e = .returned (.tuple #[.slice a m c, .int .i64 0]) ∧ OwI w' W.heap.size 5 .u8 l (.slice a m c) ∧ Below W.heap.size W w' := by
  have hm := sized_le hz
  have hmk := run_make_row' (P := Try.prog) 22 5 (.int .u8 0) 1 Try.underlying22 (by kernel_rfl) rfl .i64 .i64 m (by omega) (by omega)
  have HZ := Lib.hid hz
  have hq := fits_q x m hx.1 ho
  obtain ⟨s, hs⟩ : ∃ s, 8 * m = s := ⟨_, rfl⟩
  rw [hs] at hq
  have g1 : IntKind.i64.wrap (8 * (m : Int)) = (s : Int) := by rw [IntWalk.i64_in _ (by omega)]; omega
  have g2 : (s : Int) ≤ 64 := by omega
  have hmn : min s 64 = s := by omega
  have HL := Lib.hid hl
  have hm0 : m ≠ 0 := by omega
  have HM0 := Lib.hid hm0
  have r0 : OwI (W.alloc (.cells (madeCells #[Value.int .u8 0] m) 5)) W.heap.size 5 .u8 (List.replicate m 0) (.slice (some ⟨W.heap.size, 0, none⟩) m m) :=
    OwI.lit _ _ _ _ (List.replicate m 0) (by simp) (by simp) (by simp [maxLen]; omega) (ok_replicate _ _) (madeCells_int _ _) (by simp)
  have HR := Lib.hid r0
  clear hz ho hs hl hm0 r0
  go_enter Try.func13, Try.ntmps13
  by_cases h8 : (m : Int) < 8
  · go_wp2_with (go_at_call 20; refine (sized_any _ _ _ HZ.out).mono ?_; rintro e w1 ⟨rfl, hw1⟩; rw [hw1]; clear hw1; dsimp only)
    go_loopw [27] (fun iv wr => ∃ i : Nat, i ≤ m ∧ iv = .int .i64 (i : Int) ∧ OwI wr W.heap.size 5 .u8 (putRow x m big i) (.slice (some ⟨W.heap.size, 0, none⟩) m m) ∧ Below W.heap.size W wr) (fun iv _ => m - (intOf iv).toNat)
    case atStart => exact ⟨0, Nat.zero_le _, rfl, by rw [putRow_zero]; exact HR.out, (Below.refl _ _).alloc (Nat.le_refl _) _⟩
    case round =>
      obtain ⟨i, hi, rfl, ho, hbw⟩ := hrel
      clear hq g1 g2 hmn h8
      by_cases hlt : i < m
      · obtain ⟨p, hp⟩ : ∃ p, p = if big then m - 1 - i else i := ⟨_, rfl⟩
        have hpm : p < m := by rw [hp]; split <;> omega
        have hln := putRow_len x m big i
        have hset := putRow_set x m big i p hlt hp
        have hwf := wf_dig x i
        obtain ⟨t, ht⟩ : ∃ t, t = 8 * i := ⟨_, rfl⟩
        obtain ⟨q, hq⟩ : ∃ q, x / 2 ^ t = q := ⟨_, rfl⟩
        have hd := dig_wrap x i t ht q hq
        obtain ⟨d, hdd⟩ : ∃ d, dig x i = d := ⟨_, rfl⟩
        rw [hdd] at hd hset hwf
        have g1 : IntKind.i64.wrap (8 * (i : Int)) = (t : Int) := by rw [IntWalk.i64_in _ (by omega)]; omega
        have g2 : (t : Int) ≤ 64 := by omega
        have hmn : min t 64 = t := by omega
        have g3 : IntKind.i64.wrap ((m : Int) - 1) = (m : Int) - 1 := IntWalk.i64_in _ (by omega)
        have i1 : (0 : Int) ≤ (p : Int) := by omega
        have i2 : (p : Int) < (m : Int) := by omega
        obtain ⟨g, hg, _, hgl, hgf, hgc⟩ := ho.atN hln HM0.out
        injection hg with hg
        injection hg with hg
        subst hg
        have hgf1 := hgf p
        have hgc1 := hgc p hpm
        clear hgf hgc
        have hST := ho.setN hln p hwf
        rw [hset] at hST
        have HST := Lib.hid hST
        have HT := Lib.hid ht
        have HP := Lib.hid hp
        clear hST hset hdd ht hwf hln ho hp
        cases big with
        | true =>
          have g4 : IntKind.i64.wrap ((m : Int) - 1 - (i : Int)) = (p : Int) := by have := HP.out; simp only [if_true] at this; rw [IntWalk.i64_in _ (by omega)]; omega
          go_wp2
          go_roundw
          case rel => exact ⟨i + 1, by omega, by go_num, HST.out.1, hbw.setCell (Nat.le_refl _) _⟩
          case measure => simp [intOf]; omega
        | false =>
          obtain rfl : p = i := by have := HP.out; simpa using this
          go_wp2
          go_roundw
          case rel => exact ⟨p + 1, by omega, by go_num, HST.out.1, hbw.setCell (Nat.le_refl _) _⟩
          case measure => simp [intOf]; omega
      · obtain rfl : i = m := by omega
        rw [putRow_all, HL.out] at ho
        have HO := Lib.hid ho
        clear ho
        go_wp2
        go_ret2
        exact ⟨_, _, rfl, HO.out, hbw⟩
  · go_wp2_with (go_at_call 20; refine (sized_any _ _ _ HZ.out).mono ?_; rintro e w1 ⟨rfl, hw1⟩; rw [hw1]; clear hw1; dsimp only)
    go_loopw [27] (fun iv wr => ∃ i : Nat, i ≤ m ∧ iv = .int .i64 (i : Int) ∧ OwI wr W.heap.size 5 .u8 (putRow x m big i) (.slice (some ⟨W.heap.size, 0, none⟩) m m) ∧ Below W.heap.size W wr) (fun iv _ => m - (intOf iv).toNat)
    case atStart => exact ⟨0, Nat.zero_le _, rfl, by rw [putRow_zero]; exact HR.out, (Below.refl _ _).alloc (Nat.le_refl _) _⟩
    case round =>
      obtain ⟨i, hi, rfl, ho, hbw⟩ := hrel
      clear hq g1 g2 hmn h8
      by_cases hlt : i < m
      · obtain ⟨p, hp⟩ : ∃ p, p = if big then m - 1 - i else i := ⟨_, rfl⟩
        have hpm : p < m := by rw [hp]; split <;> omega
        have hln := putRow_len x m big i
        have hset := putRow_set x m big i p hlt hp
        have hwf := wf_dig x i
        obtain ⟨t, ht⟩ : ∃ t, t = 8 * i := ⟨_, rfl⟩
        obtain ⟨q, hq⟩ : ∃ q, x / 2 ^ t = q := ⟨_, rfl⟩
        have hd := dig_wrap x i t ht q hq
        obtain ⟨d, hdd⟩ : ∃ d, dig x i = d := ⟨_, rfl⟩
        rw [hdd] at hd hset hwf
        have g1 : IntKind.i64.wrap (8 * (i : Int)) = (t : Int) := by rw [IntWalk.i64_in _ (by omega)]; omega
        have g2 : (t : Int) ≤ 64 := by omega
        have hmn : min t 64 = t := by omega
        have g3 : IntKind.i64.wrap ((m : Int) - 1) = (m : Int) - 1 := IntWalk.i64_in _ (by omega)
        have i1 : (0 : Int) ≤ (p : Int) := by omega
        have i2 : (p : Int) < (m : Int) := by omega
        obtain ⟨g, hg, _, hgl, hgf, hgc⟩ := ho.atN hln HM0.out
        injection hg with hg
        injection hg with hg
        subst hg
        have hgf1 := hgf p
        have hgc1 := hgc p hpm
        clear hgf hgc
        have hST := ho.setN hln p hwf
        rw [hset] at hST
        have HST := Lib.hid hST
        have HT := Lib.hid ht
        have HP := Lib.hid hp
        clear hST hset hdd ht hwf hln ho hp
        cases big with
        | true =>
          have g4 : IntKind.i64.wrap ((m : Int) - 1 - (i : Int)) = (p : Int) := by have := HP.out; simp only [if_true] at this; rw [IntWalk.i64_in _ (by omega)]; omega
          go_wp2
          go_roundw
          case rel => exact ⟨i + 1, by omega, by go_num, HST.out.1, hbw.setCell (Nat.le_refl _) _⟩
          case measure => simp [intOf]; omega
        | false =>
          obtain rfl : p = i := by have := HP.out; simpa using this
          go_wp2
          go_roundw
          case rel => exact ⟨p + 1, by omega, by go_num, HST.out.1, hbw.setCell (Nat.le_refl _) _⟩
          case measure => simp [intOf]; omega
      · obtain rfl : i = m := by omega
        rw [putRow_all, HL.out] at ho
        have HO := Lib.hid ho
        clear ho
        go_wp2
        go_ret2
        exact ⟨_, _, rfl, HO.out, hbw⟩

/-- what the reference's Put answers -/
def rputS (x : Int) (m : Nat) (big : Bool) : List Int := if x < 256 ^ m then turnB big (bigB x m) else []
def rputE (x : Int) (m : Nat) : Int := if x < 256 ^ m then 0 else 7
set_option maxHeartbeats 1000000 in
theorem rput_arg (W : World) (x size : Int) (big : Bool) (hz : sizedB size = false) :
    Calls Try.prog 14 #[.int .u64 x, .int .i64 size, .bool big] W fun e w' => e = .returned (.tuple #[.string (strOfNums []), .int .i64 1]) ∧ w' = W := by
  have HZ := Lib.hid hz
  clear hz
  go_enter Try.func14, Try.ntmps14
  go_wp2_with (go_at_call 21; refine (rsized_any _ _ _ HZ.out).mono ?_; rintro e w1 ⟨rfl, hw1⟩; rw [hw1]; clear hw1; dsimp only)
  go_ret2
  exact ⟨rfl, rfl⟩
theorem ediv_step (x : Int) (i : Nat) : x / 256 ^ (i + 1) = x / 256 ^ i / 256 := by
  rw [Int.pow_succ, Int.ediv_ediv_of_nonneg (Int.pow_nonneg (by omega))]
theorem ediv_bd (x : Int) (i : Nat) (hx : 0 ≤ x ∧ x < 18446744073709551616) : 0 ≤ x / 256 ^ i ∧ x / 256 ^ i < 18446744073709551616 := by
  induction i with
  | zero => simpa using hx
  | succ i ih => rw [ediv_step]; omega
theorem conv_one (w : World) (d : Int) (hd : (Lit.int .u8 d).wf = true) : (convert 22 9 (.slice (some ⟨w.heap.size, 0, none⟩) 1 1)).run Try.prog (w.alloc (.cells #[.int .u8 d] 5)) = .ok (.string (strOfNums [d])) (w.alloc (.cells #[.int .u8 d] 5)) :=
  (SlI.one (bytes := 1) (k := .u8) ((Blk.new w 5 #[.int .u8 d] rfl).at_ 0 rfl) hd (by omega)).conv 22 9 5 Try.underlying22 Try.underlying5 Try.underlying9

set_option maxHeartbeats 2000000 in
theorem rput_any (W : World) (x : Int) (m : Nat) (big : Bool) (hz : sizedB (m : Int) = true) (hx : 0 ≤ x ∧ x < 18446744073709551616) (s : List Int) (k : Int) (hs : rputS x m big = s) (hk : rputE x m = k) :
    Calls Try.prog 14 #[.int .u64 x, .int .i64 (m : Int), .bool big] W fun e w' => e = .returned (.tuple #[.string (strOfNums s), .int .i64 k]) ∧ Below W.heap.size W w' := by
  have hm := sized_le hz
  have HZ := Lib.hid hz
  have HS := Lib.hid hs
  have HK := Lib.hid hk
  clear hz hs hk
  go_enter Try.func14, Try.ntmps14
  go_wp2_with (go_at_call 21; refine (rsized_any _ _ _ HZ.out).mono ?_; rintro e w1 ⟨rfl, hw1⟩; rw [hw1]; clear hw1; dsimp only)
  go_loopw [0, 8, 9] (fun nv sv iv wr => ∃ i : Nat, i ≤ m ∧ iv = .int .i64 (i : Int) ∧ sv = .string (strOfNums (bigB x i)) ∧ (∃ y, nv = .int .u64 y ∧ Hid (y = x / 256 ^ i)) ∧ Below W.heap.size W wr) (fun _ _ iv _ => m - (intOf iv).toNat)
  case atStart => exact ⟨0, Nat.zero_le _, rfl, rfl, ⟨x, rfl, by simp [Hid]⟩, Below.refl _ _⟩
  case round =>
    obtain ⟨i, hi, rfl, rfl, ⟨y, rfl, HY⟩, hbw⟩ := hrel
    by_cases hlt : i < m
    · have hyb := ediv_bd x i hx
      rw [← HY.out] at hyb
      have hst := ediv_step x i
      rw [← HY.out] at hst
      have hdg : y % 256 = dig x i := by unfold dig; rw [← HY.out]
      have hcs := bigB_cons x i
      have hrl := bigB_len x i
      have hwf := wf_dig x i
      have hdb := dig_bd x i
      obtain ⟨d, hd⟩ : ∃ d, dig x i = d := ⟨_, rfl⟩
      obtain ⟨r, hr⟩ : ∃ r, bigB x i = r := ⟨_, rfl⟩
      rw [hd] at hdg hcs hwf hdb
      rw [hr] at hcs hrl ⊢
      have t1 : Int.tmod y 256 = d := by rw [← hdg]; exact Int.tmod_eq_emod_of_nonneg hyb.1
      obtain ⟨y2, hy2⟩ : ∃ y2, y / 256 = y2 := ⟨_, rfl⟩
      have t2 : Int.tdiv y 256 = y2 := by rw [← hy2]; exact Int.tdiv_eq_ediv_of_nonneg hyb.1
      have w1 : IntKind.u64.wrap d = d := by rw [IntKind.wrap_u64]; omega
      have w2 : IntKind.u8.wrap d = d := by rw [IntKind.wrap_u8]; omega
      have w3 : IntKind.u64.wrap y2 = y2 := by rw [IntKind.wrap_u64]; omega
      have hap : strOfNums [d] ++ strOfNums r = strOfNums (d :: r) := str_append [d] r
      have hs1 : (strOfNums [d]).size = 1 := strOfNums_size _
      have hs2 : (strOfNums r).size = i := by rw [strOfNums_size, hrl]
      have kc := conv_one wr d hwf
      have g1 : IntKind.i64.wrap ((i : Int) + 1) = (i : Int) + 1 := IntWalk.i64_in _ (by omega)
      have HST := Lib.hid (hst.trans hy2)
      have HCS := Lib.hid hcs
      clear hst hcs hd hr hy2 hdg hrl hwf
      go_wp2
      go_roundw
      case rel => exact ⟨i + 1, by omega, by go_num, by rw [HCS.out], ⟨y2, rfl, HST.out.symm⟩, hbw.alloc (by have := hbw.size; omega) _⟩
      case measure => simp [intOf]; omega
    · obtain rfl : i = m := by omega
      by_cases hf : x < 256 ^ i
      · have hy : y = 0 := by rw [HY.out]; exact Int.ediv_eq_zero_of_lt hx.1 hf
        have hk := HK.out
        rw [rputE, if_pos hf] at hk
        have hs := HS.out
        rw [rputS, if_pos hf] at hs
        have HSS := Lib.hid hs
        have hl := bigB_len x i
        have HL : Hid ((bigB x i).length ≤ 140737488355328) := by unfold Hid; omega
        subst hk hy
        clear hl hs hf
        cases big with
        | true =>
          have e : bigB x i = s := HSS.out
          subst e
          go_wp2
          go_ret2
          exact ⟨rfl, hbw⟩
        | false =>
          go_wp2_with (go_at_call 15; refine (turn_any _ _ HL.out _ HSS.out).mono ?_; rintro e w1 ⟨rfl, hw1⟩; rw [hw1]; clear hw1; dsimp only)
          go_ret2
          exact ⟨rfl, hbw⟩
      · have hy : ¬ y = 0 := by
          rw [HY.out, ← pow_256]
          exact over_q x i hf
        have hk := HK.out
        rw [rputE, if_neg hf] at hk
        have hs := HS.out
        rw [rputS, if_neg hf] at hs
        subst hk hs
        clear hf
        go_wp2
        go_ret2
        exact ⟨rfl, hbw⟩
end Go.Proofs.Ytochcepfljafoaa

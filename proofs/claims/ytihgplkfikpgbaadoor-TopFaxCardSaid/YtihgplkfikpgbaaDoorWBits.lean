/- Bits in bytes; the writer and the reader. No condition but what each says. -/
import Derived.Test.YtihgplkfikpgbaaDoorWF
import Derived.Test.YtihgplkfikpgbaaDoorLFx
set_option linter.unusedSimpArgs false
set_option linter.unusedVariables false
set_option maxRecDepth 8000
set_option maxHeartbeats 4000000
namespace Go.Proofs.YtihgplkfikpgbaaDoor
open Go.Eng Go.RowKit
/-- the number of the first k digits of g -/
def hn (g : Nat → Int) : Nat → Int
  | 0 => 0
  | k + 1 => 2 * hn g k + g k
def Bit (g : Nat → Int) : Prop := ∀ i, g i = 0 ∨ g i = 1
theorem hn_b {g : Nat → Int} (h : Bit g) : ∀ k, 0 ≤ hn g k ∧ hn g k < 2 ^ k
  | 0 => by simp [hn]
  | k + 1 => by
    have := hn_b h k
    have := h k
    rw [hn, Int.pow_succ]; omega
theorem hn_congr {f g : Nat → Int} : ∀ k, (∀ i, i < k → f i = g i) → hn f k = hn g k
  | 0, _ => rfl
  | k + 1, h => by rw [hn, hn, hn_congr k fun i hi => h i (by omega), h k (by omega)]
/-- digit j of byte i of the first n digits -/
def cut (f : Nat → Int) (n i j : Nat) : Int := if 8 * i + j < n then f (8 * i + j) else 0
theorem cut_bit {f : Nat → Int} (h : Bit f) (n i : Nat) : Bit (cut f n i) := fun j => by
  unfold cut; split
  · exact h _
  · exact .inl rfl
def byteF (f : Nat → Int) (n i : Nat) : Int := hn (cut f n i) 8
def pk (f : Nat → Int) (n : Nat) : List Int := tab (byteF f n) ((n + 7) / 8)
theorem byteF_b {f : Nat → Int} (h : Bit f) (n i : Nat) : 0 ≤ byteF f n i ∧ byteF f n i < 256 := hn_b (cut_bit h n i) 8
theorem pk_len (f : Nat → Int) (n : Nat) : (pk f n).length = (n + 7) / 8 := tab_len ..
theorem pk_bytes {f : Nat → Int} (h : Bit f) (n : Nat) : Bytes (pk f n) := tab_bytes fun i _ => byteF_b h n i
theorem hn_zero {g : Nat → Int} {k : Nat} : ∀ m, (∀ i, k ≤ i → i < k + m → g i = 0) → hn g (k + m) = hn g k * 2 ^ m
  | 0, _ => by simp
  | m + 1, h => by
    rw [← Nat.add_assoc, hn, hn_zero m fun i h1 h2 => h i h1 (by omega), h (k + m) (by omega) (by omega), Int.pow_succ, Int.add_zero, Int.mul_comm 2, Int.mul_assoc]
/-- a byte whose last digit put is n's -/
theorem byteF_at (f : Nat → Int) (n : Nat) : byteF f n (n / 8) = hn (cut f n (n / 8)) (n % 8) * 2 ^ (8 - n % 8) := by
  have h := hn_zero (g := cut f n (n / 8)) (k := n % 8) (8 - n % 8) fun i h1 h2 => by
    unfold cut; rw [if_neg (by omega)]
  rw [show n % 8 + (8 - n % 8) = 8 by omega] at h
  exact h
theorem byteF_next (f : Nat → Int) (n : Nat) : byteF f (n + 1) (n / 8) = byteF f n (n / 8) + f n * 2 ^ (7 - n % 8) := by
  have h1 := hn_zero (g := cut f (n + 1) (n / 8)) (k := n % 8 + 1) (7 - n % 8) fun i h1 h2 => by
    unfold cut; rw [if_neg (by omega)]
  have h0 : hn (cut f (n + 1) (n / 8)) (n % 8 + 1) = 2 * hn (cut f (n + 1) (n / 8)) (n % 8) + cut f (n + 1) (n / 8) (n % 8) := rfl
  rw [show n % 8 + 1 + (7 - n % 8) = 8 by omega, h0] at h1
  have h2 : hn (cut f (n + 1) (n / 8)) (n % 8) = hn (cut f n (n / 8)) (n % 8) := hn_congr _ fun i hi => by
    unfold cut; rw [if_pos (by omega), if_pos (by omega)]
  have h3 : cut f (n + 1) (n / 8) (n % 8) = f n := by
    unfold cut; rw [if_pos (by omega), show 8 * (n / 8) + n % 8 = n by omega]
  rw [h2, h3] at h1
  rw [byteF_at]
  unfold byteF
  rw [h1, Int.add_mul, show 8 - n % 8 = (7 - n % 8) + 1 by omega, Int.pow_succ, Int.mul_comm 2, Int.mul_assoc, Int.mul_comm (2 ^ (7 - n % 8)) 2]
theorem byteF_other (f : Nat → Int) {n i : Nat} (h : i ≠ n / 8) : byteF f (n + 1) i = byteF f n i := hn_congr _ fun j hj => by
  unfold cut
  by_cases c : 8 * i + j < n
  · rw [if_pos c, if_pos (by omega)]
  · rw [if_neg c, if_neg (by omega)]
/-- the row ahead of a digit: a byte of noughts behind it, if one is full -/
theorem row_ready (f : Nat → Int) (n : Nat) : (if n % 8 = 0 then pk f n ++ [0] else pk f n) = tab (byteF f n) (n / 8 + 1) := by
  by_cases h : n % 8 = 0
  · rw [if_pos h, pk, show (n + 7) / 8 = n / 8 by omega]
    have : byteF f n (n / 8) = 0 := by rw [byteF_at, h]; simp [hn]
    exact tab_snoc _ this.symm
  · rw [if_neg h, pk, show (n + 7) / 8 = n / 8 + 1 by omega]
theorem row_put (f : Nat → Int) (n : Nat) : (tab (byteF f n) (n / 8 + 1)).set (n / 8) (byteF f n (n / 8) + f n * 2 ^ (7 - n % 8)) = pk f (n + 1) := by
  rw [tab_set _ (by omega), pk, show (n + 1 + 7) / 8 = n / 8 + 1 by omega]
  refine tab_congr _ fun i hi => ?_
  by_cases c : i = n / 8
  · rw [if_pos c, c, byteF_next]
  · rw [if_neg c, byteF_other f c]
theorem or_put {f : Nat → Int} (hf : Bit f) (n : Nat) : bits .or .u8 (byteF f n (n / 8)) (f n * 2 ^ (7 - n % 8)) = byteF f n (n / 8) + f n * 2 ^ (7 - n % 8) ∧ 0 ≤ f n * 2 ^ (7 - n % 8) ∧ f n * 2 ^ (7 - n % 8) < 256 := by
  have hb := byteF_b hf n (n / 8)
  have hh := hn_b (cut_bit hf n (n / 8)) (n % 8)
  have e := byteF_at f n
  obtain ⟨a, ha⟩ := Int.eq_ofNat_of_zero_le hh.1
  have hp : ∀ k : Nat, ((2 : Int) ^ k) = ((2 ^ k : Nat) : Int) := fun k => by rw [Int.natCast_pow]; rfl
  have hlt : 2 ^ (7 - n % 8) ≤ 2 ^ 7 := Nat.pow_le_pow_right (by decide) (by omega)
  have h2 : 2 ^ (8 - n % 8) = 2 ^ (7 - n % 8) * 2 := by rw [show 8 - n % 8 = (7 - n % 8) + 1 by omega, Nat.pow_succ]
  rw [ha, hp] at e
  rw [hp]
  have hpos : 0 < 2 ^ (7 - n % 8) := Nat.pow_pos (by decide)
  rcases hf n with h | h
  · rw [h, Int.zero_mul, Int.add_zero]
    refine ⟨?_, by decide, by decide⟩
    rw [u8_or _ _ hb.1 hb.2 (by decide) (by decide)]
    simp; omega
  · rw [h, Int.one_mul]
    refine ⟨?_, by omega, by omega⟩
    rw [u8_or _ _ hb.1 hb.2 (by omega) (by omega)]
    have hs := Nat.shiftLeft_add_eq_or_of_lt (show 2 ^ (7 - n % 8) < 2 ^ (8 - n % 8) by omega) a
    have e1 : (byteF f n (n / 8)).toNat = a <<< (8 - n % 8) := by rw [e, Nat.shiftLeft_eq, ← Int.natCast_mul, Int.toNat_natCast]
    rw [e1, Int.toNat_natCast, ← hs, Nat.shiftLeft_eq, e]
    simp
theorem put_m (f : Nat → Int) (hf : Bit f) (n : Nat) (hn : n < 1000000) : GivM Tryd.prog 37 [.ptr 2000000 0, .d (.c (.int .u32 (f n)))] [(2000000, .box [.sl 1000000 1 0 (pk f n).length, .d (.c (.int .i64 n)), .d (.c (.bool false))]), (1000000, .row 1 (li .u8 (pk f n)))] (.tup [])
    [(2000000, .box [.sl 1000000 1 0 (pk f (n + 1)).length, .d (.c (.int .i64 (n + 1 : Nat))), .d (.c (.bool false))]), (1000000, .row 1 (li .u8 (pk f (n + 1))))] := by
  have hpl := pk_len f n
  have hpl2 := pk_len f (n + 1)
  have htl : (tab (byteF f n) (n / 8 + 1)).length = n / 8 + 1 := tab_len _ _
  have htg : (tab (byteF f n) (n / 8 + 1)).getD (n / 8) 0 = byteF f n (n / 8) := tab_get _ (by omega)
  have hrr := row_ready f n
  have hrp := row_put f n
  obtain ⟨ho1, ho2, ho3⟩ := or_put hf n
  have hb := byteF_b hf n (n / 8)
  have hb2 := byteF_b hf (n + 1) (n / 8)
  rw [byteF_next] at hb2
  have hfn := hf n
  have hmod : (n : Int).tmod 8 = ((n % 8 : Nat) : Int) := by rw [Int.tmod_eq_emod_of_nonneg (by omega)]; omega
  have e7 : min (7 - ((n % 8 : Nat) : Int)).toNat IntKind.u8.bits = 7 - n % 8 := by simp [IntKind.bits]; omega
  have hidx : (((n / 8 : Nat) : Int) + 1 - 1).toNat = n / 8 := by omega
  refine GivM.of mixed c37 (Nat.le_of_ble_eq_true rfl) rfl rfl ?_
  by_cases hz : n % 8 = 0
  · rw [if_pos hz] at hrr
    have hz2 : ((n % 8 : Nat) : Int) = 0 := by omega
    have hl1 : (pk f n).length + 1 = n / 8 + 1 := by rw [hpl]; omega
    have hpl3 : (pk f n).length = n / 8 := by rw [hpl]; omega
    have hpl4 : (pk f (n + 1)).length = n / 8 + 1 := by rw [hpl2]; omega
    have e70 : min 7 IntKind.u8.bits = 7 - n % 8 := by rw [hz]; decide
    simp -dsimp -implicitDefEqProofs (disch := first | omega | (simp only [List.length_append, List.length_cons, List.length_nil, List.length_take, List.length_drop]; omega)) only [a37, hmod, ibeq_t hz2, hpl3, ↓aPre, aPost, oneW, allOne, retV, retVA, simprocAttr]
    refine end_of rfl ?_
    simp -dsimp -implicitDefEqProofs (disch := first | omega | (simp only [List.length_append, List.length_cons, List.length_nil, List.length_take, List.length_drop]; omega)) only [hrr, htl, htg, hz2, e7, e70, ho1, hrp, hpl3, hpl4, hidx, ↓aPre, aPost, oneW, allOne, retV, retVA, simprocAttr]
  · rw [if_neg hz] at hrr
    have hz2 : ¬ ((n % 8 : Nat) : Int) = 0 := by omega
    have hpl3 : (pk f n).length = n / 8 + 1 := by rw [hpl]; omega
    have hpl4 : (pk f (n + 1)).length = n / 8 + 1 := by rw [hpl2]; omega
    rw [hrr] at *
    simp -dsimp -implicitDefEqProofs (disch := first | omega | (simp only [List.length_append, List.length_cons, List.length_nil, List.length_take, List.length_drop]; omega)) only [a37, hmod, ibeq_f hz2, htl, ↓aPre, aPost, oneW, allOne, retV, retVA, simprocAttr]
    refine end_of rfl ?_
    simp -dsimp -implicitDefEqProofs (disch := first | omega | (simp only [List.length_append, List.length_cons, List.length_nil, List.length_take, List.length_drop]; omega)) only [htl, htg, e7, ho1, hrp, hpl4, hidx, ↓aPre, aPost, oneW, allOne, retV, retVA, simprocAttr]
/-- digit i of so many of a number, the highest first -/
def dg (v : Nat) (w i : Nat) : Int := ((v / 2 ^ (w - 1 - i) % 2 : Nat) : Int)
theorem dg_bit (v w : Nat) : Bit (dg v w) := fun i => by unfold dg; omega
theorem write_m (f : Nat → Int) (hf : Bit f) (n v w : Nat) (hn : n + w < 1000000) (hw : 1 ≤ w ∧ w ≤ 32) (hv : v < 2 ^ w) (hd : ∀ i, i < w → f (n + i) = dg v w i) : GivM Tryd.prog 39 [.ptr 2000000 0, .d (.c (.int .u32 v)), .d (.c (.int .i64 w))] [(2000000, .box [.sl 1000000 1 0 (pk f n).length, .d (.c (.int .i64 n)), .d (.c (.bool false))]), (1000000, .row 1 (li .u8 (pk f n)))] (.d (.c (.int .i64 0)))
    [(2000000, .box [.sl 1000000 1 0 (pk f (n + w)).length, .d (.c (.int .i64 (n + w : Nat))), .d (.c (.bool false))]), (1000000, .row 1 (li .u8 (pk f (n + w))))] := by
  have hv32 : v < 4294967296 := Nat.lt_of_lt_of_le hv (Nat.pow_le_pow_right (by decide) hw.2 : 2 ^ w ≤ 2 ^ 32)
  have hsh : ∀ k : Nat, k ≤ 32 → (v : Int).fdiv (2 ^ min k IntKind.u32.bits) = ((v / 2 ^ k : Nat) : Int) := fun k hk => by
    rw [show min k IntKind.u32.bits = k by simp [IntKind.bits]; omega, Int.fdiv_eq_ediv_of_nonneg _ (Int.le_of_lt (Int.pow_pos (by decide)))]
    rw [show (2 : Int) ^ k = ((2 ^ k : Nat) : Int) by rw [Int.natCast_pow]; rfl, ← Int.natCast_ediv]
  have h0 : v / 2 ^ w = 0 := Nat.div_eq_of_lt hv
  refine GivM.of mixed c39 (Nat.le_of_ble_eq_true rfl) rfl rfl ?_
  have hsw := hsh w hw.2
  rw [h0] at hsw
  by_cases hw32 : (w : Int) < 32
  all_goals
    simp -dsimp -implicitDefEqProofs (disch := first | omega | (simp only [List.length_append, List.length_cons, List.length_nil, List.length_take, List.length_drop]; omega)) only [a39, hw32, hsw, Int.natCast_zero, ↓aPre, aPost, oneW, allOne, retV, retVA, simprocAttr]
    refine loop_of (fun s => ∃ (k : Nat), k ≤ w ∧ s.tm 28 = .d (.c (.int .i64 k)) ∧ s.tm 27 = .d (.c (.int .i64 w)) ∧ s.tm 0 = .ptr 2000000 0 ∧ s.tm 1 = .d (.c (.int .u32 v)) ∧ s.tm 2 = .d (.c (.int .i64 w)) ∧ s.hp 2000000 = some (.box [.sl 1000000 1 0 (pk f (n + k)).length, .d (.c (.int .i64 (n + k : Nat))), .d (.c (.bool false))]) ∧ s.hp 1000000 = some (.row 1 (li .u8 (pk f (n + k))))) (fun s => w - (avN (s.tm 28)).toNat) ?_ ?_
    · refine ⟨0, Nat.zero_le _, ?_⟩
      simp -dsimp -implicitDefEqProofs (disch := first | omega | (simp only [List.length_append, List.length_cons, List.length_nil, List.length_take, List.length_drop]; omega)) only [Int.natCast_zero, ↓aPre, aPost, oneW, allOne, retV, retVA, simprocAttr]
    rintro s ⟨k, hk, hs⟩
    by_cases hkw : k < w
    · have hpm := put_m f hf (n + k) (by omega)
      have e1 : ((w : Int) - 1 - k).toNat = w - 1 - k := by omega
      have hs2 := hsh (w - 1 - k) (by omega)
      have hand : bits .and .u32 ((v / 2 ^ (w - 1 - k) : Nat) : Int) 1 = f (n + k) := by
        rw [hd k hkw, dg, u32_and _ 1 (Int.natCast_nonneg _) (Int.ofNat_lt.2 (Nat.lt_of_le_of_lt (Nat.div_le_self _ _) hv32)) (by decide) (by decide), Int.toNat_natCast, show (1 : Int).toNat = 2 ^ 1 - 1 from rfl, Nat.and_two_pow_sub_one_eq_mod]
      simp -dsimp -implicitDefEqProofs (disch := first | omega | (simp only [List.length_append, List.length_cons, List.length_nil, List.length_take, List.length_drop]; omega)) only [hs, e1, hs2, hand, ↓aPre, aPost, oneW, allOne, retV, retVA, simprocAttr]
      refine call_mut hpm [] rfl rfl ?_ ?_
      · simp -dsimp -implicitDefEqProofs (disch := first | omega | (simp only [List.length_append, List.length_cons, List.length_nil, List.length_take, List.length_drop]; omega)) only [hs, ↓aPre, aPost, oneW, allOne, retV, retVA, simprocAttr]
      simp -dsimp -implicitDefEqProofs (disch := first | omega | (simp only [List.length_append, List.length_cons, List.length_nil, List.length_take, List.length_drop]; omega)) only [hs, ↓aPre, aPost, oneW, allOne, retV, retVA, simprocAttr]
      refine round_of ⟨k + 1, by omega, ?_⟩ ?_
      · simp -dsimp -implicitDefEqProofs (disch := first | omega | (simp only [List.length_append, List.length_cons, List.length_nil, List.length_take, List.length_drop]; omega)) only [hs, Nat.add_assoc, ↓aPre, aPost, oneW, allOne, retV, retVA, simprocAttr]
      · simp -dsimp -implicitDefEqProofs (disch := first | omega | (simp only [List.length_append, List.length_cons, List.length_nil, List.length_take, List.length_drop]; omega)) only [hs, ↓aPre, aPost, oneW, allOne, retV, retVA, simprocAttr]
        omega
    · obtain rfl : k = w := by omega
      simp -dsimp -implicitDefEqProofs (disch := first | omega | (simp only [List.length_append, List.length_cons, List.length_nil, List.length_take, List.length_drop]; omega)) only [hs, ↓aPre, aPost, oneW, allOne, retV, retVA, simprocAttr]
      refine end_of rfl ?_
      simp -dsimp -implicitDefEqProofs (disch := first | omega | (simp only [List.length_append, List.length_cons, List.length_nil, List.length_take, List.length_drop]; omega)) only [hs, ↓aPre, aPost, oneW, allOne, retV, retVA, simprocAttr]
/-- a number of too many digits is not written -/
theorem write_e (f : Nat → Int) (n v w : Nat) (hw : 1 ≤ w ∧ w ≤ 32) (hv : ¬ v < 2 ^ w) (hv32 : v < 4294967296) : GivM Tryd.prog 39 [.ptr 2000000 0, .d (.c (.int .u32 v)), .d (.c (.int .i64 w))] [(2000000, .box [.sl 1000000 1 0 (pk f n).length, .d (.c (.int .i64 n)), .d (.c (.bool false))]), (1000000, .row 1 (li .u8 (pk f n)))] (.d (.c (.int .i64 7)))
    [(2000000, .box [.sl 1000000 1 0 (pk f n).length, .d (.c (.int .i64 n)), .d (.c (.bool false))]), (1000000, .row 1 (li .u8 (pk f n)))] := by
  have hw32 : (w : Int) < 32 := by
    refine Decidable.byContradiction fun c => ?_
    obtain rfl : w = 32 := by omega
    exact hv hv32
  have hne : ¬ ((v / 2 ^ w : Nat) : Int) = 0 := fun h => by
    have h3 : v / 2 ^ w = 0 := by omega
    rcases Nat.div_eq_zero_iff.1 h3 with h4 | h4
    · have := Nat.pow_pos (n := w) (show 0 < 2 by decide); omega
    · exact hv h4
  have hsw : (v : Int).fdiv (2 ^ min w IntKind.u32.bits) = ((v / 2 ^ w : Nat) : Int) := by
    rw [show min w IntKind.u32.bits = w by simp [IntKind.bits]; omega, Int.fdiv_eq_ediv_of_nonneg _ (Int.le_of_lt (Int.pow_pos (by decide)))]
    rw [show (2 : Int) ^ w = ((2 ^ w : Nat) : Int) by rw [Int.natCast_pow]; rfl, ← Int.natCast_ediv]
  obtain ⟨q, hq⟩ : ∃ q : Nat, q = v / 2 ^ w := ⟨_, rfl⟩
  rw [← hq] at hne hsw
  refine GivM.of mixed c39 (Nat.le_of_ble_eq_true rfl) rfl rfl ?_
  simp -dsimp -implicitDefEqProofs (disch := first | omega | (simp only [List.length_append, List.length_cons, List.length_nil, List.length_take, List.length_drop]; omega)) only [a39, hw32, hsw, ibne_t hne, ↓aPre, aPost, oneW, allOne, retV, retVA, simprocAttr]
  refine end_of rfl ?_
  simp -dsimp -implicitDefEqProofs (disch := first | omega | (simp only [List.length_append, List.length_cons, List.length_nil, List.length_take, List.length_drop]; omega)) only [↓aPre, aPost, oneW, allOne, retV, retVA, simprocAttr]
theorem bytes_m (f : Nat → Int) (n : Nat) (hn : n < 1000000) : GivM Tryd.prog 19 [.ptr 2000000 0] [(2000000, .box [.sl 1000000 1 0 (pk f n).length, .d (.c (.int .i64 n)), .d (.c (.bool false))]), (1000000, .row 1 (li .u8 (pk f n)))] (.sl 5 1 0 (pk f n).length)
    [(2000000, .box [.sl 1000000 1 0 (pk f n).length, .d (.c (.int .i64 n)), .d (.c (.bool false))]), (1000000, .row 1 (li .u8 (pk f n))), (5, .row 1 (li .u8 (pk f n)))] := by
  have hpl := pk_len f n
  refine GivM.of mixed c19 (Nat.le_of_ble_eq_true rfl) rfl rfl ?_
  simp -dsimp -implicitDefEqProofs (disch := first | omega | (simp only [List.length_append, List.length_cons, List.length_nil, List.length_take, List.length_drop]; omega)) only [a19, ↓aPre, aPost, oneW, allOne, retV, retVA, simprocAttr]
  refine end_of rfl ?_
  simp -dsimp -implicitDefEqProofs (disch := first | omega | (simp only [List.length_append, List.length_cons, List.length_nil, List.length_take, List.length_drop]; omega)) only [take_all, ↓aPre, aPost, oneW, allOne, retV, retVA, simprocAttr]
def bt (b : List Int) (k : Nat) : Int := dg (b.getD (k / 8) 0).toNat 8 (k % 8)
theorem bt_bit (b : List Int) : Bit (bt b) := fun k => dg_bit _ _ _
theorem dg_hn {g : Nat → Int} (hg : Bit g) : ∀ (w j : Nat), j < w → dg (hn g w).toNat w j = g j
  | w + 1, j, hj => by
    have hb := hn_b hg w
    have hb2 := hn_b hg (w + 1)
    obtain ⟨a, ha⟩ := Int.eq_ofNat_of_zero_le hb.1
    have hgw := hg w
    have e : (hn g (w + 1)).toNat = 2 * a + (g w).toNat := by rw [hn, ha]; omega
    rw [e, dg]
    by_cases c : j = w
    · subst c
      rw [show j + 1 - 1 - j = 0 by omega, Nat.pow_zero, Nat.div_one]
      omega
    · have hj2 : j < w := by omega
      have := dg_hn hg w j hj2
      rw [ha, Int.toNat_natCast, dg] at this
      rw [show w + 1 - 1 - j = (w - 1 - j) + 1 by omega, Nat.pow_succ, Nat.mul_comm (2 ^ (w - 1 - j)) 2, ← Nat.div_div_eq_div_mul, show (2 * a + (g w).toNat) / 2 = a by omega]
      exact this
theorem bt_pk (f : Nat → Int) (hf : Bit f) {n i : Nat} (hi : i < n) : bt (pk f n) i = f i := by
  rw [bt, pk, tab_get _ (by omega), byteF, dg_hn (cut_bit hf n (i / 8)) 8 _ (by omega), cut, if_pos (by omega), show 8 * (i / 8) + i % 8 = i by omega]
theorem left_m (l : List Int) (p : Nat) (hl : l.length ≤ 100000) (hp : p ≤ 8 * l.length) : GivM Tryd.prog 46 [.ptr 2000000 0] [(2000000, .box [.sl 1000000 1 0 l.length, .d (.c (.int .i64 (p : Nat))), .d (.c (.bool false))]), (1000000, .row 1 (li .u8 l))] (.d (.c (.int .i64 (8 * (l.length : Int) - (p : Int))))) [(2000000, .box [.sl 1000000 1 0 l.length, .d (.c (.int .i64 (p : Nat))), .d (.c (.bool false))]), (1000000, .row 1 (li .u8 l))] := by
  refine GivM.of mixed c46 (Nat.le_of_ble_eq_true rfl) rfl rfl ?_
  simp -dsimp -implicitDefEqProofs (disch := first | omega | (simp only [List.length_append, List.length_cons, List.length_nil, List.length_take, List.length_drop]; omega)) only [a46, ↓aPre, aPost, oneW, allOne, retV, retVA, simprocAttr]
  refine end_of rfl ?_
  simp -dsimp -implicitDefEqProofs (disch := first | omega | (simp only [List.length_append, List.length_cons, List.length_nil, List.length_take, List.length_drop]; omega)) only [↓aPre, aPost, oneW, allOne, retV, retVA, simprocAttr]
theorem bit_m (l : List Int) (p i : Nat) (hl : l.length ≤ 100000) (hB : Bytes l) (hi : i < 8 * l.length) : GivM Tryd.prog 60 [.ptr 2000000 0, .d (.c (.int .i64 i))] [(2000000, .box [.sl 1000000 1 0 l.length, .d (.c (.int .i64 (p : Nat))), .d (.c (.bool false))]), (1000000, .row 1 (li .u8 l))] (.d (.c (.int .u32 (bt l i)))) [(2000000, .box [.sl 1000000 1 0 l.length, .d (.c (.int .i64 (p : Nat))), .d (.c (.bool false))]), (1000000, .row 1 (li .u8 l))] := by
  have hmod : (i : Int).tmod 8 = ((i % 8 : Nat) : Int) := by rw [Int.tmod_eq_emod_of_nonneg (by omega)]; omega
  have hdiv : ((i : Int) / 8).toNat = i / 8 := by omega
  have hb := hB.get (i / 8)
  obtain ⟨v, hv⟩ : ∃ v : Nat, l.getD (i / 8) 0 = v := ⟨(l.getD (i / 8) 0).toNat, by omega⟩
  have hsh : (v : Int).fdiv (2 ^ min (7 - ((i % 8 : Nat) : Int)).toNat IntKind.u8.bits) = ((v / 2 ^ (7 - i % 8) : Nat) : Int) := by
    rw [show min (7 - ((i % 8 : Nat) : Int)).toNat IntKind.u8.bits = 7 - i % 8 by simp [IntKind.bits]; omega, Int.fdiv_eq_ediv_of_nonneg _ (Int.le_of_lt (Int.pow_pos (by decide)))]
    rw [show (2 : Int) ^ (7 - i % 8) = ((2 ^ (7 - i % 8) : Nat) : Int) by rw [Int.natCast_pow]; rfl, ← Int.natCast_ediv]
  rw [hv] at hb
  have hle : v / 2 ^ (7 - i % 8) ≤ v := Nat.div_le_self _ _
  obtain ⟨q, hq⟩ : ∃ q, q = v / 2 ^ (7 - i % 8) := ⟨_, rfl⟩
  rw [← hq] at hle hsh
  have hand : bits .and .u32 (q : Int) 1 = bt l i := by
    rw [bt, hv, Int.toNat_natCast, dg, u32_and _ 1 (by omega) (by omega) (by decide) (by decide), Int.toNat_natCast, show (1 : Int).toNat = 2 ^ 1 - 1 from rfl, Nat.and_two_pow_sub_one_eq_mod, hq]
  refine GivM.of mixed c60 (Nat.le_of_ble_eq_true rfl) rfl rfl ?_
  simp -dsimp -implicitDefEqProofs (disch := first | omega | (simp only [List.length_append, List.length_cons, List.length_nil, List.length_take, List.length_drop]; omega)) only [a60, hdiv, hv, hmod, hsh, hand, ↓aPre, aPost, oneW, allOne, retV, retVA, simprocAttr]
  refine end_of rfl ?_
  simp -dsimp -implicitDefEqProofs (disch := first | omega | (simp only [List.length_append, List.length_cons, List.length_nil, List.length_take, List.length_drop]; omega)) only [↓aPre, aPost, oneW, allOne, retV, retVA, simprocAttr]
/-- the bits from a place on; behind the last, noughts -/
def pkF (l : List Int) (p k : Nat) : Int := if p + k < 8 * l.length then bt l (p + k) else 0
theorem pkF_bit (l : List Int) (p : Nat) : Bit (pkF l p) := fun k => by
  unfold pkF; split
  · exact bt_bit l _
  · exact .inl rfl
theorem peek_m (l : List Int) (p w : Nat) (hl : l.length ≤ 100000) (hB : Bytes l) (hp : p ≤ 8 * l.length) (hw : w ≤ 32) : GivM Tryd.prog 45 [.ptr 2000000 0, .d (.c (.int .i64 w))] [(2000000, .box [.sl 1000000 1 0 l.length, .d (.c (.int .i64 (p : Nat))), .d (.c (.bool false))]), (1000000, .row 1 (li .u8 l))] (.tup [.d (.c (.int .u32 (hn (pkF l p) w))), .d (.c (.int .i64 0))]) [(2000000, .box [.sl 1000000 1 0 l.length, .d (.c (.int .i64 (p : Nat))), .d (.c (.bool false))]), (1000000, .row 1 (li .u8 l))] := by
  refine GivM.of mixed c45 (Nat.le_of_ble_eq_true rfl) rfl rfl ?_
  have hleft := left_m l p hl hp
  simp -dsimp -implicitDefEqProofs (disch := first | omega | (simp only [List.length_append, List.length_cons, List.length_nil, List.length_take, List.length_drop]; omega)) only [a45, ↓aPre, aPost, oneW, allOne, retV, retVA, simprocAttr]
  refine loop_of (fun s => ∃ (k : Nat), k ≤ w ∧ s.tm 0 = .ptr 2000000 0 ∧ s.tm 1 = .d (.c (.int .i64 w)) ∧ s.tm 15 = .d (.c (.int .i64 w)) ∧ s.tm 16 = .d (.c (.int .i64 k)) ∧ s.tm 6 = .d (.c (.int .u32 (hn (pkF l p) k))) ∧ s.hp 2000000 = some (.box [.sl 1000000 1 0 l.length, .d (.c (.int .i64 (p : Nat))), .d (.c (.bool false))]) ∧ s.hp 1000000 = some (.row 1 (li .u8 l))) (fun s => w - (avN (s.tm 16)).toNat) ?_ ?_
  · refine ⟨0, Nat.zero_le _, ?_⟩
    simp -dsimp -implicitDefEqProofs (disch := first | omega | (simp only [List.length_append, List.length_cons, List.length_nil, List.length_take, List.length_drop]; omega)) only [hn, Int.natCast_zero, ↓aPre, aPost, oneW, allOne, retV, retVA, simprocAttr]
  rintro s ⟨k, hk, hs⟩
  by_cases hlt : k < w
  · have hb := hn_b (pkF_bit l p) (k + 1)
    have hb0 := hn_b (pkF_bit l p) k
    have hpw : ∀ j : Nat, j ≤ 32 → (2 : Int) ^ j ≤ 4294967296 := fun j hj => by
      have h1 : 2 ^ j ≤ 2 ^ 32 := Nat.pow_le_pow_right (by decide) hj
      have h2 : ((2 ^ j : Nat) : Int) ≤ ((2 ^ 32 : Nat) : Int) := Int.ofNat_le.2 h1
      rw [Int.natCast_pow] at h2
      simpa using h2
    have h1 := hpw (k + 1) (by omega)
    have h2 := hpw k (by omega)
    rw [hn] at hb
    have hfk := pkF_bit l p k
    have hsh : IntKind.u32.wrap (hn (pkF l p) k * 2 ^ min 1 IntKind.u32.bits) = 2 * hn (pkF l p) k := by
      rw [show min 1 IntKind.u32.bits = 1 from rfl, show (2 : Int) ^ 1 = 2 from rfl, Int.mul_comm]
      simp only [IntKind.wrap, IntKind.signed, IntKind.bits]
      simp
      omega
    have hor : ∀ z : Int, z = pkF l p k → bits .or .u32 (2 * hn (pkF l p) k) z = hn (pkF l p) (k + 1) := fun z hz => by
      obtain ⟨a, ha⟩ := Int.eq_ofNat_of_zero_le hb0.1
      rw [hz, hn, u32_or _ _ (by omega) (by omega) (by omega) (by omega), ha]
      rcases hfk with e | e
      · rw [e]; simp; omega
      · have h3 := Nat.shiftLeft_add_eq_or_of_lt (show 1 < 2 ^ 1 by decide) a
        rw [e, show (2 * (a : Int)).toNat = a <<< 1 by rw [Nat.shiftLeft_eq]; omega, show (1 : Int).toNat = 1 from rfl, ← h3, Nat.shiftLeft_eq]
        omega
    simp -dsimp -implicitDefEqProofs (disch := first | omega | (simp only [List.length_append, List.length_cons, List.length_nil, List.length_take, List.length_drop]; omega)) only [hs, ↓aPre, aPost, oneW, allOne, retV, retVA, simprocAttr]
    refine call_mut hleft [] rfl rfl ?_ ?_
    · simp -dsimp -implicitDefEqProofs (disch := first | omega | (simp only [List.length_append, List.length_cons, List.length_nil, List.length_take, List.length_drop]; omega)) only [hs, ↓aPre, aPost, oneW, allOne, retV, retVA, simprocAttr]
    by_cases hin : p + k < 8 * l.length
    · have hin' : (k : Int) < 8 * (l.length : Int) - (p : Int) := by omega
      have hbit := bit_m l p (p + k) hl hB hin
      have hz : bt l (p + k) = pkF l p k := by rw [pkF, if_pos hin]
      rw [hz] at hbit
      have ho := hor _ rfl
      simp -dsimp -implicitDefEqProofs (disch := first | omega | (simp only [List.length_append, List.length_cons, List.length_nil, List.length_take, List.length_drop]; omega)) only [hs, hin', ↓aPre, aPost, oneW, allOne, retV, retVA, simprocAttr]
      refine call_mut hbit [] rfl rfl ?_ ?_
      · simp -dsimp -implicitDefEqProofs (disch := first | omega | (simp only [List.length_append, List.length_cons, List.length_nil, List.length_take, List.length_drop]; omega)) only [hs, ↓aPre, aPost, oneW, allOne, retV, retVA, simprocAttr]
      simp -dsimp -implicitDefEqProofs (disch := first | omega | (simp only [List.length_append, List.length_cons, List.length_nil, List.length_take, List.length_drop]; omega)) only [hs, hsh, ho, ↓aPre, aPost, oneW, allOne, retV, retVA, simprocAttr]
      refine round_of ⟨k + 1, by omega, ?_⟩ ?_
      · simp -dsimp -implicitDefEqProofs (disch := first | omega | (simp only [List.length_append, List.length_cons, List.length_nil, List.length_take, List.length_drop]; omega)) only [hs, ↓aPre, aPost, oneW, allOne, retV, retVA, simprocAttr]
      · simp -dsimp -implicitDefEqProofs (disch := first | omega | (simp only [List.length_append, List.length_cons, List.length_nil, List.length_take, List.length_drop]; omega)) only [hs, ↓aPre, aPost, oneW, allOne, retV, retVA, simprocAttr]
        omega
    · have hin' : ¬ (k : Int) < 8 * (l.length : Int) - (p : Int) := by omega
      have ho := hor 0 (by rw [pkF, if_neg hin])
      simp -dsimp -implicitDefEqProofs (disch := first | omega | (simp only [List.length_append, List.length_cons, List.length_nil, List.length_take, List.length_drop]; omega)) only [hs, hin', hsh, ho, ↓aPre, aPost, oneW, allOne, retV, retVA, simprocAttr]
      refine round_of ⟨k + 1, by omega, ?_⟩ ?_
      · simp -dsimp -implicitDefEqProofs (disch := first | omega | (simp only [List.length_append, List.length_cons, List.length_nil, List.length_take, List.length_drop]; omega)) only [hs, ↓aPre, aPost, oneW, allOne, retV, retVA, simprocAttr]
      · simp -dsimp -implicitDefEqProofs (disch := first | omega | (simp only [List.length_append, List.length_cons, List.length_nil, List.length_take, List.length_drop]; omega)) only [hs, ↓aPre, aPost, oneW, allOne, retV, retVA, simprocAttr]
        omega
  · obtain rfl : k = w := by omega
    simp -dsimp -implicitDefEqProofs (disch := first | omega | (simp only [List.length_append, List.length_cons, List.length_nil, List.length_take, List.length_drop]; omega)) only [hs, ↓aPre, aPost, oneW, allOne, retV, retVA, simprocAttr]
    refine end_of rfl ?_
    simp -dsimp -implicitDefEqProofs (disch := first | omega | (simp only [List.length_append, List.length_cons, List.length_nil, List.length_take, List.length_drop]; omega)) only [hs, ↓aPre, aPost, oneW, allOne, retV, retVA, simprocAttr]
theorem read_m (l : List Int) (p w : Nat) (hl : l.length ≤ 100000) (hB : Bytes l) (hp : p + w ≤ 8 * l.length) (hw : w ≤ 32) : GivM Tryd.prog 27 [.ptr 2000000 0, .d (.c (.int .i64 w))] [(2000000, .box [.sl 1000000 1 0 l.length, .d (.c (.int .i64 (p : Nat))), .d (.c (.bool false))]), (1000000, .row 1 (li .u8 l))] (.tup [.d (.c (.int .u32 (hn (pkF l p) w))), .d (.c (.int .i64 0))]) [(2000000, .box [.sl 1000000 1 0 l.length, .d (.c (.int .i64 (p + w : Nat))), .d (.c (.bool false))]), (1000000, .row 1 (li .u8 l))] := by
  refine GivM.of mixed c27 (Nat.le_of_ble_eq_true rfl) rfl rfl ?_
  have hleft := left_m l p hl (by omega)
  have hpeek := peek_m l p w hl hB (by omega) hw
  have hno : ¬ (w : Int) > 8 * (l.length : Int) - (p : Int) := by omega
  simp -dsimp -implicitDefEqProofs (disch := first | omega | (simp only [List.length_append, List.length_cons, List.length_nil, List.length_take, List.length_drop]; omega)) only [a27, ↓aPre, aPost, oneW, allOne, retV, retVA, simprocAttr]
  refine call_mut hpeek [] rfl rfl ?_ ?_
  · simp -dsimp -implicitDefEqProofs (disch := first | omega | (simp only [List.length_append, List.length_cons, List.length_nil, List.length_take, List.length_drop]; omega)) only [↓aPre, aPost, oneW, allOne, retV, retVA, simprocAttr]
  simp -dsimp -implicitDefEqProofs (disch := first | omega | (simp only [List.length_append, List.length_cons, List.length_nil, List.length_take, List.length_drop]; omega)) only [↓aPre, aPost, oneW, allOne, retV, retVA, simprocAttr]
  refine call_mut hleft [] rfl rfl ?_ ?_
  · simp -dsimp -implicitDefEqProofs (disch := first | omega | (simp only [List.length_append, List.length_cons, List.length_nil, List.length_take, List.length_drop]; omega)) only [↓aPre, aPost, oneW, allOne, retV, retVA, simprocAttr]
  simp -dsimp -implicitDefEqProofs (disch := first | omega | (simp only [List.length_append, List.length_cons, List.length_nil, List.length_take, List.length_drop]; omega)) only [hno, ↓aPre, aPost, oneW, allOne, retV, retVA, simprocAttr]
  refine end_of rfl ?_
  simp -dsimp -implicitDefEqProofs (disch := first | omega | (simp only [List.length_append, List.length_cons, List.length_nil, List.length_take, List.length_drop]; omega)) only [Int.natCast_add, ↓aPre, aPost, oneW, allOne, retV, retVA, simprocAttr]
theorem newreader_m (l : List Int) (hl : l.length ≤ 100000) : GivM Tryd.prog 23 [.d (.lst 1 (li .u8 l)), .d (.c (.bool false))] [] (.ptr 10 0) [(10, .box [.sl 5 1 0 l.length, .d (.c (.int .i64 0)), .d (.c (.bool false))]), (5, .row 1 (li .u8 l))] := by
  refine GivM.of mixed c23 (Nat.le_of_ble_eq_true rfl) rfl rfl ?_
  simp -dsimp -implicitDefEqProofs (disch := first | omega | (simp only [List.length_append, List.length_cons, List.length_nil, List.length_take, List.length_drop]; omega)) only [a23, ↓aPre, aPost, oneW, allOne, retV, retVA, simprocAttr]
  refine end_of rfl ?_
  simp -dsimp -implicitDefEqProofs (disch := first | omega | (simp only [List.length_append, List.length_cons, List.length_nil, List.length_take, List.length_drop]; omega)) only [↓aPre, aPost, oneW, allOne, retV, retVA, simprocAttr]
end Go.Proofs.YtihgplkfikpgbaaDoor

/- Unpack and its reference. No condition but what each says. -/
import Derived.Test.YtlhmhopgbkmafaaWRead
set_option linter.unusedSimpArgs false
set_option linter.unusedVariables false
set_option maxRecDepth 8000
set_option maxHeartbeats 4000000
namespace Go.Proofs.Ytlhmhopgbkmafaa
open Go.Eng Go.RowKit
theorem hn_add (g : Nat → Int) (a : Nat) : ∀ b, hn g (a + b) = hn g a * 2 ^ b + hn (fun i => g (a + i)) b
  | 0 => by simp [hn]
  | b + 1 => by rw [← Nat.add_assoc, hn, hn, hn_add g a b, Int.pow_succ, Int.mul_add, ← Int.add_assoc, Int.mul_comm (2 ^ b) 2, ← Int.mul_assoc, ← Int.mul_assoc, Int.mul_comm 2 (hn g a)]
theorem hn_byte {x : List Int} (hB : Bytes x) (k : Nat) : hn (fun i => bt x (8 * k + i)) 8 = x.getD k 0 := by
  have hb := hB.get k
  rw [hn_congr (g := dg (x.getD k 0).toNat 8) 8 fun j hj => ?_]
  · rw [hn_dg_all (show (x.getD k 0).toNat < 256 by omega)]
    omega
  · show bt x (8 * k + j) = _
    rw [bt, Nat.mul_add_div (by decide), Nat.mul_add_mod, Nat.div_eq_of_lt hj, Nat.mod_eq_of_lt hj, Nat.add_zero]
theorem hn_gv {x : List Int} (hB : Bytes x) : ∀ m, hn (bt x) (8 * m) = gvK x true m
  | 0 => rfl
  | m + 1 => by
    rw [Nat.mul_add, hn_add, hn_gv hB m, hn_byte hB m, gvK, gF, if_pos rfl]
    rfl
theorem bt_cut (b : List Int) (p : Nat) {m i : Nat} (hi : i < 8 * m) : bt ((b.drop p).take m) i = bt b (8 * p + i) := by
  rw [bt, bt, getD_take, if_pos (by omega), getD_drop, Nat.mul_add_div (by decide), Nat.mul_add_mod]
theorem bt_take (b : List Int) {t i : Nat} (hi : i < 8 * t) : bt (b.take t) i = bt b i := by
  rw [bt, bt, getD_take, if_pos (by omega)]
/-- sample k -/
def U (b : List Int) (w : Nat) (big : Bool) (k : Nat) : Int := if wh w then gvK ((b.drop (k * (w / 8))).take (w / 8)) big (w / 8) else hn (fun i => bt b (k * w + i)) w
theorem hn32 {g : Nat → Int} (h : Bit g) {w : Nat} (hw : w ≤ 32) : 0 ≤ hn g w ∧ hn g w < 4294967296 := by
  have h1 := hn_b h w
  have h2 := (pow_le hw).1
  omega
theorem U_b {b : List Int} (hB : Bytes b) {w : Nat} (hw : w ≤ 32) (big : Bool) (k : Nat) : 0 ≤ U b w big k ∧ U b w big k < 4294967296 := by
  unfold U
  by_cases c : wh w
  · rw [if_pos c]
    have hg := gvK_b (w := (b.drop (k * (w / 8))).take (w / 8)) (fun z hz => hB z (List.mem_of_mem_drop (List.mem_of_mem_take hz))) big (w / 8)
    have e := (pow_256 c).1
    have e2 : ((256 : Int) ^ (w / 8)) = ((256 ^ (w / 8) : Nat) : Int) := by rw [Int.natCast_pow]; rfl
    have h3 := (pow_le hw)
    rw [e2, e, ← h3.2] at hg
    omega
  · rw [if_neg c]
    exact hn32 (fun i => bt_bit b _) hw
theorem tab_full (g : Nat → Int) (n : Nat) : tab (csF g n) n = tab g n := tab_congr n fun i hi => by rw [csF, if_pos hi]
/-- what is asked of bytes that samples are read from -/
structure Unp (b : List Int) (n w t : Nat) : Prop where
  b1 : b.length ≤ 10000
  B : Bytes b
  n1 : n ≤ 100000
  w1 : 1 ≤ w ∧ w ≤ 32
  te : t = (n * w + 7) / 8
  tb : t ≤ b.length
theorem Unp.sz {b : List Int} {n w t : Nat} (h : Unp b n w t) : szE n w = 0 ∧ szV n w = t := by
  have e : szE n w = 0 := if_neg (by have := h.n1; have := h.w1; omega)
  refine ⟨e, ?_⟩
  rw [szV, if_pos e, h.te, ← Int.natCast_mul]
  omega
theorem unpack_giv (b : List Int) (n w t : Nat) (big : Bool) (h : Unp b n w t) : Giv Try.prog 13 [.lst 1 (li .u8 b), .c (.int .i64 n), .c (.int .i64 w), .c (.bool big)] (retV [.lst 1 (li .u32 (tab (U b w big) n)), .c (.int .i64 0)]) := by
  refine Giv.of mixed c13 (Nat.le_of_ble_eq_true rfl) ?_
  have hs := (size_giv n w).1
  rw [h.sz.1, h.sz.2] at hs
  have hwl := whole_giv w h.w1.2
  have hb1 := h.b1
  have hn1 := h.n1
  have hw1 := h.w1
  have htb := h.tb
  have hnw : n * w ≤ 8 * t := by rw [h.te]; omega
  have hno : ¬ (t : Int) > (b.length : Int) := by omega
  have e0 := cs_0 (U b w big) n
  by_cases hwh : wh w
  · rw [decide_eq_true hwh] at hwl
    obtain ⟨m, hm⟩ : ∃ m, m = w / 8 := ⟨_, rfl⟩
    have hw8 : w = 8 * m := by unfold wh at hwh; omega
    have hwd : (w : Int) / 8 = (m : Int) := by omega
    have hsz := (pow_256 hwh).2.1
    rw [← hm] at hsz
    have hm4 : m ≤ 4 := by omega
    have htn : t = n * m := by rw [h.te, hw8, Nat.mul_left_comm]; omega
    simp -dsimp -implicitDefEqProofs (disch := first | omega | (simp only [List.length_append, List.length_cons, List.length_nil, List.length_take, List.length_drop]; omega)) only [a13, ↓aPre, aPost, oneW, allOne, retV, retVA, ↓reduceIte, reduceCtorEq, Nat.reduceAdd, Nat.reduceSub, Nat.reduceMul, Nat.reduceLT, Nat.reduceLeDiff, Nat.reduceEqDiff, Nat.reduceDiv, Nat.reduceMod, Nat.reducePow, Int.reduceAdd, Int.reduceSub, Int.reduceMul, Int.reduceLT, Int.reduceLE, Int.reduceEq, Int.reduceNe, Int.reducePow, Int.reduceToNat, Int.reduceNeg]
    refine call_giv hs ?_
    simp -dsimp -implicitDefEqProofs (disch := first | omega | (simp only [List.length_append, List.length_cons, List.length_nil, List.length_take, List.length_drop]; omega)) only [hno, ↓aPre, aPost, oneW, allOne, retV, retVA, ↓reduceIte, reduceCtorEq, Nat.reduceAdd, Nat.reduceSub, Nat.reduceMul, Nat.reduceLT, Nat.reduceLeDiff, Nat.reduceEqDiff, Nat.reduceDiv, Nat.reduceMod, Nat.reducePow, Int.reduceAdd, Int.reduceSub, Int.reduceMul, Int.reduceLT, Int.reduceLE, Int.reduceEq, Int.reduceNe, Int.reducePow, Int.reduceToNat, Int.reduceNeg]
    refine call_giv hwl ?_
    simp -dsimp -implicitDefEqProofs (disch := first | omega | (simp only [List.length_append, List.length_cons, List.length_nil, List.length_take, List.length_drop]; omega)) only [↓aPre, aPost, oneW, allOne, retV, retVA, ↓reduceIte, reduceCtorEq, Nat.reduceAdd, Nat.reduceSub, Nat.reduceMul, Nat.reduceLT, Nat.reduceLeDiff, Nat.reduceEqDiff, Nat.reduceDiv, Nat.reduceMod, Nat.reducePow, Int.reduceAdd, Int.reduceSub, Int.reduceMul, Int.reduceLT, Int.reduceLE, Int.reduceEq, Int.reduceNe, Int.reducePow, Int.reduceToNat, Int.reduceNeg]
    refine loop_of (fun s => ∃ (k : Nat), k ≤ n ∧ s.tm 0 = .d (.lst 1 (li .u8 b)) ∧ s.tm 2 = .d (.c (.int .i64 w)) ∧ s.tm 3 = .d (.c (.bool big)) ∧ s.tm 12 = .sl 36 1 0 n ∧ s.tm 40 = .d (.c (.int .i64 n)) ∧ s.tm 41 = .d (.c (.int .i64 k)) ∧ s.hp 36 = some (.row 1 (li .u32 (tab (csF (U b w big) k) n)))) (fun s => n - (avN (s.tm 41)).toNat) ?_ ?_
    · refine ⟨0, Nat.zero_le _, ?_⟩
      simp -dsimp -implicitDefEqProofs (disch := first | omega | (simp only [List.length_append, List.length_cons, List.length_nil, List.length_take, List.length_drop]; omega)) only [e0, Int.natCast_zero, ↓aPre, aPost, oneW, allOne, retV, retVA, ↓reduceIte, reduceCtorEq, Nat.reduceAdd, Nat.reduceSub, Nat.reduceMul, Nat.reduceLT, Nat.reduceLeDiff, Nat.reduceEqDiff, Nat.reduceDiv, Nat.reduceMod, Nat.reducePow, Int.reduceAdd, Int.reduceSub, Int.reduceMul, Int.reduceLT, Int.reduceLE, Int.reduceEq, Int.reduceNe, Int.reducePow, Int.reduceToNat, Int.reduceNeg]
    rintro s ⟨k, hk, hs⟩
    have el := tab_len (csF (U b w big) k) n
    by_cases hlt : k < n
    · have hU := U_b h.B hw1.2 big k
      obtain ⟨p, hp⟩ : ∃ p, p = k * m := ⟨_, rfl⟩
      have hkw : (k : Int) * (w : Int) = 8 * (p : Int) := by rw [hp, hw8, Int.natCast_mul, Int.natCast_mul, Int.mul_left_comm]; rfl
      have hkd : 8 * (p : Int) / 8 = (p : Int) := by omega
      have hpm : p + m ≤ b.length := by
        have := Nat.mul_le_mul_right m (show k + 1 ≤ n by omega)
        rw [Nat.succ_mul] at this
        omega
      have hg := get_t b p (m : Int) big hsz (by omega) h.B (by rw [Int.toNat_natCast]; exact hpm)
      rw [Int.toNat_natCast] at hg
      have hUe : U b w big k = gvK ((b.drop p).take m) big m := by rw [U, if_pos hwh, ← hm, ← hp]
      rw [← hUe] at hg
      have hst := cs_set (U b w big) hlt
      simp -dsimp -implicitDefEqProofs (disch := first | omega | (simp only [List.length_append, List.length_cons, List.length_nil, List.length_take, List.length_drop]; omega)) only [hs, hkw, hkd, hwd, ↓aPre, aPost, oneW, allOne, retV, retVA, ↓reduceIte, reduceCtorEq, Nat.reduceAdd, Nat.reduceSub, Nat.reduceMul, Nat.reduceLT, Nat.reduceLeDiff, Nat.reduceEqDiff, Nat.reduceDiv, Nat.reduceMod, Nat.reducePow, Int.reduceAdd, Int.reduceSub, Int.reduceMul, Int.reduceLT, Int.reduceLE, Int.reduceEq, Int.reduceNe, Int.reducePow, Int.reduceToNat, Int.reduceNeg]
      refine call_giv hg ?_
      simp -dsimp -implicitDefEqProofs (disch := first | omega | (simp only [List.length_append, List.length_cons, List.length_nil, List.length_take, List.length_drop]; omega)) only [hs, el, hst, ↓aPre, aPost, oneW, allOne, retV, retVA, ↓reduceIte, reduceCtorEq, Nat.reduceAdd, Nat.reduceSub, Nat.reduceMul, Nat.reduceLT, Nat.reduceLeDiff, Nat.reduceEqDiff, Nat.reduceDiv, Nat.reduceMod, Nat.reducePow, Int.reduceAdd, Int.reduceSub, Int.reduceMul, Int.reduceLT, Int.reduceLE, Int.reduceEq, Int.reduceNe, Int.reducePow, Int.reduceToNat, Int.reduceNeg]
      refine round_of ⟨k + 1, by omega, ?_⟩ ?_
      · simp -dsimp -implicitDefEqProofs (disch := first | omega | (simp only [List.length_append, List.length_cons, List.length_nil, List.length_take, List.length_drop]; omega)) only [hs, el, hst, ↓aPre, aPost, oneW, allOne, retV, retVA, ↓reduceIte, reduceCtorEq, Nat.reduceAdd, Nat.reduceSub, Nat.reduceMul, Nat.reduceLT, Nat.reduceLeDiff, Nat.reduceEqDiff, Nat.reduceDiv, Nat.reduceMod, Nat.reducePow, Int.reduceAdd, Int.reduceSub, Int.reduceMul, Int.reduceLT, Int.reduceLE, Int.reduceEq, Int.reduceNe, Int.reducePow, Int.reduceToNat, Int.reduceNeg]
      · simp -dsimp -implicitDefEqProofs (disch := first | omega | (simp only [List.length_append, List.length_cons, List.length_nil, List.length_take, List.length_drop]; omega)) only [hs, ↓aPre, aPost, oneW, allOne, retV, retVA, ↓reduceIte, reduceCtorEq, Nat.reduceAdd, Nat.reduceSub, Nat.reduceMul, Nat.reduceLT, Nat.reduceLeDiff, Nat.reduceEqDiff, Nat.reduceDiv, Nat.reduceMod, Nat.reducePow, Int.reduceAdd, Int.reduceSub, Int.reduceMul, Int.reduceLT, Int.reduceLE, Int.reduceEq, Int.reduceNe, Int.reducePow, Int.reduceToNat, Int.reduceNeg]
        omega
    · obtain rfl : k = n := by omega
      rw [tab_full] at hs
      have et : (tab (U b w big) k).take k = tab (U b w big) k := tab_take _ (Nat.le_refl _)
      have el2 := tab_len (U b w big) k
      simp -dsimp -implicitDefEqProofs (disch := first | omega | (simp only [List.length_append, List.length_cons, List.length_nil, List.length_take, List.length_drop]; omega)) only [hs, et, el2, ↓aPre, aPost, oneW, allOne, retV, retVA, ↓reduceIte, reduceCtorEq, Nat.reduceAdd, Nat.reduceSub, Nat.reduceMul, Nat.reduceLT, Nat.reduceLeDiff, Nat.reduceEqDiff, Nat.reduceDiv, Nat.reduceMod, Nat.reducePow, Int.reduceAdd, Int.reduceSub, Int.reduceMul, Int.reduceLT, Int.reduceLE, Int.reduceEq, Int.reduceNe, Int.reducePow, Int.reduceToNat, Int.reduceNeg]
      exact post_eq rfl
  · rw [decide_eq_false hwh] at hwl
    obtain ⟨c, hc⟩ : ∃ c, c = b.take t := ⟨_, rfl⟩
    have hcl : c.length = t := by rw [hc, List.length_take]; omega
    have hcB : Bytes c := fun z hz => by rw [hc] at hz; exact h.B z (List.mem_of_mem_take hz)
    have hnr := newreader_m c (by omega)
    simp -dsimp -implicitDefEqProofs (disch := first | omega | (simp only [List.length_append, List.length_cons, List.length_nil, List.length_take, List.length_drop]; omega)) only [a13, ↓aPre, aPost, oneW, allOne, retV, retVA, ↓reduceIte, reduceCtorEq, Nat.reduceAdd, Nat.reduceSub, Nat.reduceMul, Nat.reduceLT, Nat.reduceLeDiff, Nat.reduceEqDiff, Nat.reduceDiv, Nat.reduceMod, Nat.reducePow, Int.reduceAdd, Int.reduceSub, Int.reduceMul, Int.reduceLT, Int.reduceLE, Int.reduceEq, Int.reduceNe, Int.reducePow, Int.reduceToNat, Int.reduceNeg]
    refine call_giv hs ?_
    simp -dsimp -implicitDefEqProofs (disch := first | omega | (simp only [List.length_append, List.length_cons, List.length_nil, List.length_take, List.length_drop]; omega)) only [hno, ↓aPre, aPost, oneW, allOne, retV, retVA, ↓reduceIte, reduceCtorEq, Nat.reduceAdd, Nat.reduceSub, Nat.reduceMul, Nat.reduceLT, Nat.reduceLeDiff, Nat.reduceEqDiff, Nat.reduceDiv, Nat.reduceMod, Nat.reducePow, Int.reduceAdd, Int.reduceSub, Int.reduceMul, Int.reduceLT, Int.reduceLE, Int.reduceEq, Int.reduceNe, Int.reducePow, Int.reduceToNat, Int.reduceNeg]
    refine call_giv hwl ?_
    simp -dsimp -implicitDefEqProofs (disch := first | omega | (simp only [List.length_append, List.length_cons, List.length_nil, List.length_take, List.length_drop]; omega)) only [hc.symm, ↓aPre, aPost, oneW, allOne, retV, retVA, ↓reduceIte, reduceCtorEq, Nat.reduceAdd, Nat.reduceSub, Nat.reduceMul, Nat.reduceLT, Nat.reduceLeDiff, Nat.reduceEqDiff, Nat.reduceDiv, Nat.reduceMod, Nat.reducePow, Int.reduceAdd, Int.reduceSub, Int.reduceMul, Int.reduceLT, Int.reduceLE, Int.reduceEq, Int.reduceNe, Int.reducePow, Int.reduceToNat, Int.reduceNeg]
    refine call_mut hnr [(10, 300), (5, 301)] rfl rfl ?_ ?_
    · simp -dsimp -implicitDefEqProofs (disch := first | omega | (simp only [List.length_append, List.length_cons, List.length_nil, List.length_take, List.length_drop]; omega)) only [↓aPre, aPost, oneW, allOne, retV, retVA, ↓reduceIte, reduceCtorEq, Nat.reduceAdd, Nat.reduceSub, Nat.reduceMul, Nat.reduceLT, Nat.reduceLeDiff, Nat.reduceEqDiff, Nat.reduceDiv, Nat.reduceMod, Nat.reducePow, Int.reduceAdd, Int.reduceSub, Int.reduceMul, Int.reduceLT, Int.reduceLE, Int.reduceEq, Int.reduceNe, Int.reducePow, Int.reduceToNat, Int.reduceNeg]
    simp -dsimp -implicitDefEqProofs (disch := first | omega | (simp only [List.length_append, List.length_cons, List.length_nil, List.length_take, List.length_drop]; omega)) only [↓aPre, aPost, oneW, allOne, retV, retVA, ↓reduceIte, reduceCtorEq, Nat.reduceAdd, Nat.reduceSub, Nat.reduceMul, Nat.reduceLT, Nat.reduceLeDiff, Nat.reduceEqDiff, Nat.reduceDiv, Nat.reduceMod, Nat.reducePow, Int.reduceAdd, Int.reduceSub, Int.reduceMul, Int.reduceLT, Int.reduceLE, Int.reduceEq, Int.reduceNe, Int.reducePow, Int.reduceToNat, Int.reduceNeg]
    refine loop_of (fun s => ∃ (k : Nat), k ≤ n ∧ s.tm 2 = .d (.c (.int .i64 w)) ∧ s.tm 12 = .sl 36 1 0 n ∧ s.tm 16 = .ptr 300 0 ∧ s.tm 72 = .d (.c (.int .i64 n)) ∧ s.tm 73 = .d (.c (.int .i64 k)) ∧ s.hp 36 = some (.row 1 (li .u32 (tab (csF (U b w big) k) n))) ∧ s.hp 300 = some (.box [.sl 301 1 0 c.length, .d (.c (.int .i64 (k * w : Nat))), .d (.c (.bool false))]) ∧ s.hp 301 = some (.row 1 (li .u8 c))) (fun s => n - (avN (s.tm 73)).toNat) ?_ ?_
    · refine ⟨0, Nat.zero_le _, ?_⟩
      simp -dsimp -implicitDefEqProofs (disch := first | omega | (simp only [List.length_append, List.length_cons, List.length_nil, List.length_take, List.length_drop]; omega)) only [e0, Int.natCast_zero, Nat.zero_mul, ↓aPre, aPost, oneW, allOne, retV, retVA, ↓reduceIte, reduceCtorEq, Nat.reduceAdd, Nat.reduceSub, Nat.reduceMul, Nat.reduceLT, Nat.reduceLeDiff, Nat.reduceEqDiff, Nat.reduceDiv, Nat.reduceMod, Nat.reducePow, Int.reduceAdd, Int.reduceSub, Int.reduceMul, Int.reduceLT, Int.reduceLE, Int.reduceEq, Int.reduceNe, Int.reducePow, Int.reduceToNat, Int.reduceNeg]
    rintro s ⟨k, hk, hs⟩
    have el := tab_len (csF (U b w big) k) n
    by_cases hlt : k < n
    · have hU := U_b h.B hw1.2 big k
      have hpm : k * w + w ≤ 8 * t := by
        have := Nat.mul_le_mul_right w (show k + 1 ≤ n by omega)
        rw [Nat.succ_mul] at this
        omega
      have hk1 : (k + 1) * w = k * w + w := Nat.succ_mul k w
      have hg := read_m c (k * w) w (by omega) hcB (by omega) hw1.2
      have hUe : hn (pkF c (k * w)) w = U b w big k := by
        rw [U, if_neg hwh]
        refine hn_congr w fun i hi => ?_
        rw [pkF, if_pos (by omega), hc, bt_take b (by omega)]
      rw [hUe] at hg
      have hst := cs_set (U b w big) hlt
      obtain ⟨p, hp⟩ : ∃ p, p = k * w := ⟨_, rfl⟩
      rw [← hp] at hg hs hk1 hpm
      simp -dsimp -implicitDefEqProofs (disch := first | omega | (simp only [List.length_append, List.length_cons, List.length_nil, List.length_take, List.length_drop]; omega)) only [hs, ↓aPre, aPost, oneW, allOne, retV, retVA, ↓reduceIte, reduceCtorEq, Nat.reduceAdd, Nat.reduceSub, Nat.reduceMul, Nat.reduceLT, Nat.reduceLeDiff, Nat.reduceEqDiff, Nat.reduceDiv, Nat.reduceMod, Nat.reducePow, Int.reduceAdd, Int.reduceSub, Int.reduceMul, Int.reduceLT, Int.reduceLE, Int.reduceEq, Int.reduceNe, Int.reducePow, Int.reduceToNat, Int.reduceNeg]
      refine call_mut hg [(2000000, 300), (1000000, 301)] rfl rfl ?_ ?_
      · simp -dsimp -implicitDefEqProofs (disch := first | omega | (simp only [List.length_append, List.length_cons, List.length_nil, List.length_take, List.length_drop]; omega)) only [hs, ↓aPre, aPost, oneW, allOne, retV, retVA, ↓reduceIte, reduceCtorEq, Nat.reduceAdd, Nat.reduceSub, Nat.reduceMul, Nat.reduceLT, Nat.reduceLeDiff, Nat.reduceEqDiff, Nat.reduceDiv, Nat.reduceMod, Nat.reducePow, Int.reduceAdd, Int.reduceSub, Int.reduceMul, Int.reduceLT, Int.reduceLE, Int.reduceEq, Int.reduceNe, Int.reducePow, Int.reduceToNat, Int.reduceNeg]
      simp -dsimp -implicitDefEqProofs (disch := first | omega | (simp only [List.length_append, List.length_cons, List.length_nil, List.length_take, List.length_drop]; omega)) only [hs, el, hst, ↓aPre, aPost, oneW, allOne, retV, retVA, ↓reduceIte, reduceCtorEq, Nat.reduceAdd, Nat.reduceSub, Nat.reduceMul, Nat.reduceLT, Nat.reduceLeDiff, Nat.reduceEqDiff, Nat.reduceDiv, Nat.reduceMod, Nat.reducePow, Int.reduceAdd, Int.reduceSub, Int.reduceMul, Int.reduceLT, Int.reduceLE, Int.reduceEq, Int.reduceNe, Int.reducePow, Int.reduceToNat, Int.reduceNeg]
      refine round_of ⟨k + 1, by omega, ?_⟩ ?_
      · simp -dsimp -implicitDefEqProofs (disch := first | omega | (simp only [List.length_append, List.length_cons, List.length_nil, List.length_take, List.length_drop]; omega)) only [hs, el, hst, hk1, ↓aPre, aPost, oneW, allOne, retV, retVA, ↓reduceIte, reduceCtorEq, Nat.reduceAdd, Nat.reduceSub, Nat.reduceMul, Nat.reduceLT, Nat.reduceLeDiff, Nat.reduceEqDiff, Nat.reduceDiv, Nat.reduceMod, Nat.reducePow, Int.reduceAdd, Int.reduceSub, Int.reduceMul, Int.reduceLT, Int.reduceLE, Int.reduceEq, Int.reduceNe, Int.reducePow, Int.reduceToNat, Int.reduceNeg]
      · simp -dsimp -implicitDefEqProofs (disch := first | omega | (simp only [List.length_append, List.length_cons, List.length_nil, List.length_take, List.length_drop]; omega)) only [hs, ↓aPre, aPost, oneW, allOne, retV, retVA, ↓reduceIte, reduceCtorEq, Nat.reduceAdd, Nat.reduceSub, Nat.reduceMul, Nat.reduceLT, Nat.reduceLeDiff, Nat.reduceEqDiff, Nat.reduceDiv, Nat.reduceMod, Nat.reducePow, Int.reduceAdd, Int.reduceSub, Int.reduceMul, Int.reduceLT, Int.reduceLE, Int.reduceEq, Int.reduceNe, Int.reducePow, Int.reduceToNat, Int.reduceNeg]
        omega
    · obtain rfl : k = n := by omega
      rw [tab_full] at hs
      have et : (tab (U b w big) k).take k = tab (U b w big) k := tab_take _ (Nat.le_refl _)
      have el2 := tab_len (U b w big) k
      simp -dsimp -implicitDefEqProofs (disch := first | omega | (simp only [List.length_append, List.length_cons, List.length_nil, List.length_take, List.length_drop]; omega)) only [hs, et, el2, ↓aPre, aPost, oneW, allOne, retV, retVA, ↓reduceIte, reduceCtorEq, Nat.reduceAdd, Nat.reduceSub, Nat.reduceMul, Nat.reduceLT, Nat.reduceLeDiff, Nat.reduceEqDiff, Nat.reduceDiv, Nat.reduceMod, Nat.reducePow, Int.reduceAdd, Int.reduceSub, Int.reduceMul, Int.reduceLT, Int.reduceLE, Int.reduceEq, Int.reduceNe, Int.reducePow, Int.reduceToNat, Int.reduceNeg]
      exact post_eq rfl
/-- bytes turned, as bits -/
theorem gv_bits {x : List Int} (hB : Bytes x) {m : Nat} (hx : x.length = m) (big : Bool) : gvK x big m = hn (bt (if big = true then x else turnK x m)) (8 * m) := by
  cases big with
  | true => rw [if_pos rfl, hn_gv hB]
  | false =>
    rw [if_neg (by decide), hn_gv (turnK_bytes hB m)]
    have := gv_turn x m (by omega)
    rw [hx] at this
    exact this.symm
theorem U_bits {b : List Int} (hB : Bytes b) {w : Nat} (hw : wh w) (big : Bool) {k t : Nat} (hk : k * w + w ≤ 8 * t) (ht : t ≤ b.length) : U b w big k = hn (fun i => if big = true then bt b (k * w + i) else bt b (k * w + (8 * (w / 8 - 1 - i / 8) + i % 8))) w := by
  obtain ⟨m, hm⟩ : ∃ m, m = w / 8 := ⟨_, rfl⟩
  have hw8 : w = 8 * m := by unfold wh at hw; omega
  have hkm : k * w = 8 * (k * m) := by rw [hw8, Nat.mul_left_comm]
  obtain ⟨p, hp⟩ : ∃ p, p = k * m := ⟨_, rfl⟩
  rw [← hp] at hkm
  have hxl : ((b.drop p).take m).length = m := by rw [List.length_take, List.length_drop]; omega
  rw [U, if_pos hw, ← hm, ← hp, gv_bits (fun z hz => hB z (List.mem_of_mem_drop (List.mem_of_mem_take hz))) hxl, hw8]
  refine hn_congr _ fun i hi => ?_
  cases big with
  | true => rw [if_pos rfl, if_pos rfl, bt_cut b p hi, hw8.symm, hkm]
  | false =>
    rw [if_neg (by decide), if_neg (by decide), bt, turnK_get _ m _ (by omega), getD_take, if_pos (by omega), getD_drop, hw8.symm, hkm, bt]
    rw [show (8 * p + (8 * (m - 1 - i / 8) + i % 8)) / 8 = p + (m - 1 - i / 8) by omega, show (8 * p + (8 * (m - 1 - i / 8) + i % 8)) % 8 = i % 8 by omega]
theorem U_no {b : List Int} {w : Nat} (hw : ¬ wh w) (big : Bool) (k : Nat) : U b w big k = hn (fun i => bt b (k * w + i)) w := by rw [U, if_neg hw]
theorem runpack_giv (b : List Int) (n w t : Nat) (big : Bool) (h : Unp b n w t) : Giv Try.prog 14 [.c (.string (strOfNums b)), .c (.int .i64 n), .c (.int .i64 w), .c (.bool big)] (retV [.lst 1 (li .u32 (tab (U b w big) n)), .c (.int .i64 0)]) := by
  refine Giv.of mixed c14 (Nat.le_of_ble_eq_true rfl) ?_
  have hs := (size_giv n w).2
  rw [h.sz.1, h.sz.2] at hs
  have hb1 := h.b1
  have hn1 := h.n1
  have hw1 := h.w1
  have htb := h.tb
  have hnw : n * w ≤ 8 * t := by rw [h.te]; omega
  have hno : ¬ (b.length : Int) < (t : Int) := by omega
  obtain ⟨c, hc⟩ : ∃ c, c = b.take t := ⟨_, rfl⟩
  have hcl : c.length = t := by rw [hc, List.length_take]; omega
  have hcB : Bytes c := fun z hz => by rw [hc] at hz; exact h.B z (List.mem_of_mem_take hz)
  have hro := rof_giv c (by omega) hcB
  rw [hcl] at hro
  have xl := tx_len (bt c) (8 * t)
  simp -dsimp -implicitDefEqProofs (disch := first | omega | (simp only [List.length_append, List.length_cons, List.length_nil, List.length_take, List.length_drop]; omega)) only [a14, ↓aPre, aPost, oneW, allOne, retV, retVA, ↓reduceIte, reduceCtorEq, Nat.reduceAdd, Nat.reduceSub, Nat.reduceMul, Nat.reduceLT, Nat.reduceLeDiff, Nat.reduceEqDiff, Nat.reduceDiv, Nat.reduceMod, Nat.reducePow, Int.reduceAdd, Int.reduceSub, Int.reduceMul, Int.reduceLT, Int.reduceLE, Int.reduceEq, Int.reduceNe, Int.reducePow, Int.reduceToNat, Int.reduceNeg]
  refine call_giv hs ?_
  simp -dsimp -implicitDefEqProofs (disch := first | omega | (simp only [List.length_append, List.length_cons, List.length_nil, List.length_take, List.length_drop]; omega)) only [hno, hc.symm, ↓aPre, aPost, oneW, allOne, retV, retVA, ↓reduceIte, reduceCtorEq, Nat.reduceAdd, Nat.reduceSub, Nat.reduceMul, Nat.reduceLT, Nat.reduceLeDiff, Nat.reduceEqDiff, Nat.reduceDiv, Nat.reduceMod, Nat.reducePow, Int.reduceAdd, Int.reduceSub, Int.reduceMul, Int.reduceLT, Int.reduceLE, Int.reduceEq, Int.reduceNe, Int.reducePow, Int.reduceToNat, Int.reduceNeg]
  refine call_giv hro ?_
  simp -dsimp -implicitDefEqProofs (disch := first | omega | (simp only [List.length_append, List.length_cons, List.length_nil, List.length_take, List.length_drop]; omega)) only [↓aPre, aPost, oneW, allOne, retV, retVA, ↓reduceIte, reduceCtorEq, Nat.reduceAdd, Nat.reduceSub, Nat.reduceMul, Nat.reduceLT, Nat.reduceLeDiff, Nat.reduceEqDiff, Nat.reduceDiv, Nat.reduceMod, Nat.reducePow, Int.reduceAdd, Int.reduceSub, Int.reduceMul, Int.reduceLT, Int.reduceLE, Int.reduceEq, Int.reduceNe, Int.reducePow, Int.reduceToNat, Int.reduceNeg]
  refine loop_nil 13 101 1 (fun s => ∃ (k : Nat), k ≤ n ∧ s.tm 1 = .d (.c (.int .i64 n)) ∧ s.tm 2 = .d (.c (.int .i64 w)) ∧ s.tm 3 = .d (.c (.bool big)) ∧ s.tm 12 = .d (.c (.string (strOfNums (tx (bt c) (8 * t))))) ∧ s.tm 14 = .d (.c (.int .i64 k)) ∧ s.tm 13 = .sl 101 1 0 k ∧ s.hp 101 = some (.row 1 (li .u32 (tab (U b w big) k)))) (fun s => n - (avN (s.tm 14)).toNat) ?_ (by decide) ?_ ?_
  · simp -dsimp -implicitDefEqProofs (disch := first | omega | (simp only [List.length_append, List.length_cons, List.length_nil, List.length_take, List.length_drop]; omega)) only [↓aPre, aPost, oneW, allOne, retV, retVA, ↓reduceIte, reduceCtorEq, Nat.reduceAdd, Nat.reduceSub, Nat.reduceMul, Nat.reduceLT, Nat.reduceLeDiff, Nat.reduceEqDiff, Nat.reduceDiv, Nat.reduceMod, Nat.reducePow, Int.reduceAdd, Int.reduceSub, Int.reduceMul, Int.reduceLT, Int.reduceLE, Int.reduceEq, Int.reduceNe, Int.reducePow, Int.reduceToNat, Int.reduceNeg]
  · refine ⟨0, Nat.zero_le _, ?_⟩
    simp -dsimp -implicitDefEqProofs (disch := first | omega | (simp only [List.length_append, List.length_cons, List.length_nil, List.length_take, List.length_drop]; omega)) only [tab, Int.natCast_zero, ↓aPre, aPost, oneW, allOne, retV, retVA, ↓reduceIte, reduceCtorEq, Nat.reduceAdd, Nat.reduceSub, Nat.reduceMul, Nat.reduceLT, Nat.reduceLeDiff, Nat.reduceEqDiff, Nat.reduceDiv, Nat.reduceMod, Nat.reducePow, Int.reduceAdd, Int.reduceSub, Int.reduceMul, Int.reduceLT, Int.reduceLE, Int.reduceEq, Int.reduceNe, Int.reducePow, Int.reduceToNat, Int.reduceNeg]
  rintro s ⟨k, hk, hs⟩
  have el := tab_len (U b w big) k
  by_cases hlt : k < n
  · have hU := U_b h.B hw1.2 big k
    have hpm : k * w + w ≤ 8 * t := by
      have := Nat.mul_le_mul_right w (show k + 1 ≤ n by omega)
      rw [Nat.succ_mul] at this
      omega
    obtain ⟨p, hp⟩ : ∃ p, p = k * w := ⟨_, rfl⟩
    have hkw : (k : Int) * (w : Int) = (p : Int) := by rw [hp, Int.natCast_mul]
    rw [← hp] at hpm
    have hpw : ((p : Int) + (w : Int)).toNat - p = w := by omega
    have ec := tx_cut (bt c) hpm
    have hbc : ∀ i, i < w → bt c (p + i) = bt b (p + i) := fun i hi => by rw [hc, bt_take b (by omega)]
    obtain ⟨g, hg⟩ : ∃ g : Nat → Int, g = fun i => bt c (p + i) := ⟨_, rfl⟩
    have hgb : Bit g := fun i => by rw [hg]; exact bt_bit c _
    rw [← hg] at ec
    by_cases hbig : big = true
    · subst hbig
      have hUe : hn g w = U b w true k := by
        by_cases hwh : wh w
        · rw [U_bits h.B hwh true (t := t) (by omega) htb]
          refine hn_congr w fun i hi => ?_
          rw [if_pos rfl, hg, ← hp]
          exact hbc i hi
        · rw [U_no hwh]
          refine hn_congr w fun i hi => ?_
          rw [hg, ← hp]
          exact hbc i hi
      have hnum := number_giv g hgb w hw1.2
      rw [hUe] at hnum
      simp -dsimp -implicitDefEqProofs (disch := first | omega | (simp only [List.length_append, List.length_cons, List.length_nil, List.length_take, List.length_drop]; omega)) only [hs, hkw, hpw, ec, el, ↓aPre, aPost, oneW, allOne, retV, retVA, ↓reduceIte, reduceCtorEq, Nat.reduceAdd, Nat.reduceSub, Nat.reduceMul, Nat.reduceLT, Nat.reduceLeDiff, Nat.reduceEqDiff, Nat.reduceDiv, Nat.reduceMod, Nat.reducePow, Int.reduceAdd, Int.reduceSub, Int.reduceMul, Int.reduceLT, Int.reduceLE, Int.reduceEq, Int.reduceNe, Int.reducePow, Int.reduceToNat, Int.reduceNeg]
      refine call_giv hnum ?_
      simp -dsimp -implicitDefEqProofs (disch := first | omega | (simp only [List.length_append, List.length_cons, List.length_nil, List.length_take, List.length_drop]; omega)) only [hs, el, ↓aPre, aPost, oneW, allOne, retV, retVA, ↓reduceIte, reduceCtorEq, Nat.reduceAdd, Nat.reduceSub, Nat.reduceMul, Nat.reduceLT, Nat.reduceLeDiff, Nat.reduceEqDiff, Nat.reduceDiv, Nat.reduceMod, Nat.reducePow, Int.reduceAdd, Int.reduceSub, Int.reduceMul, Int.reduceLT, Int.reduceLE, Int.reduceEq, Int.reduceNe, Int.reducePow, Int.reduceToNat, Int.reduceNeg]
      refine round_of ⟨k + 1, by omega, ?_⟩ ?_
      · simp -dsimp -implicitDefEqProofs (disch := first | omega | (simp only [List.length_append, List.length_cons, List.length_nil, List.length_take, List.length_drop]; omega)) only [hs, tab, li_append, el, ↓aPre, aPost, oneW, allOne, retV, retVA, ↓reduceIte, reduceCtorEq, Nat.reduceAdd, Nat.reduceSub, Nat.reduceMul, Nat.reduceLT, Nat.reduceLeDiff, Nat.reduceEqDiff, Nat.reduceDiv, Nat.reduceMod, Nat.reducePow, Int.reduceAdd, Int.reduceSub, Int.reduceMul, Int.reduceLT, Int.reduceLE, Int.reduceEq, Int.reduceNe, Int.reducePow, Int.reduceToNat, Int.reduceNeg]
      · simp -dsimp -implicitDefEqProofs (disch := first | omega | (simp only [List.length_append, List.length_cons, List.length_nil, List.length_take, List.length_drop]; omega)) only [hs, ↓aPre, aPost, oneW, allOne, retV, retVA, ↓reduceIte, reduceCtorEq, Nat.reduceAdd, Nat.reduceSub, Nat.reduceMul, Nat.reduceLT, Nat.reduceLeDiff, Nat.reduceEqDiff, Nat.reduceDiv, Nat.reduceMod, Nat.reducePow, Int.reduceAdd, Int.reduceSub, Int.reduceMul, Int.reduceLT, Int.reduceLE, Int.reduceEq, Int.reduceNe, Int.reducePow, Int.reduceToNat, Int.reduceNeg]
        omega
    obtain rfl : big = false := by cases big <;> simp_all
    by_cases h16 : w = 16
    · subst h16
      have n16 : ((16 : Nat) : Int) = 16 := rfl
      simp only [n16] at hs hkw hpw
      have el16 := tx_len g 16
      have a1 : ((tx g 16).drop 8).take 8 = tx (fun i => g (8 + i)) 8 := tx_cut g (by decide)
      have a2 : (tx g 16).take 8 = tx g 8 := tx_take g (by decide)
      have a3 : tx (fun i => g (8 + i)) 8 ++ tx g 8 = tx (fun i => if i < 8 then g (8 + i) else g (i - 8)) 16 := tx_app _ _ 8 8
      obtain ⟨g2, hg2⟩ : ∃ g2 : Nat → Int, g2 = fun i => if i < 8 then g (8 + i) else g (i - 8) := ⟨_, rfl⟩
      rw [← hg2] at a3
      have hgb2 : Bit g2 := fun i => by rw [hg2]; dsimp only; split <;> exact hgb _
      have el8 := tx_len g 8
      have el8b := tx_len (fun i => g (8 + i)) 8
      have hUe : hn g2 16 = U b 16 false k := by
        rw [U_bits h.B (.inl rfl) false (t := t) (by omega) htb]
        refine hn_congr 16 fun i hi => ?_
        rw [if_neg (by decide), hg2, ← hp]
        dsimp only
        by_cases c8 : i < 8
        · rw [if_pos c8, hg]
          dsimp only
          rw [hbc _ (by omega), show 8 + i = 8 * (16 / 8 - 1 - i / 8) + i % 8 by omega]
        · rw [if_neg c8, hg]
          dsimp only
          rw [hbc _ (by omega), show i - 8 = 8 * (16 / 8 - 1 - i / 8) + i % 8 by omega]
      have hnum := number_giv g2 hgb2 16 (by decide)
      rw [hUe] at hnum
      simp -dsimp -implicitDefEqProofs (disch := first | omega | (simp only [List.length_append, List.length_cons, List.length_nil, List.length_take, List.length_drop]; omega)) only [hs, hkw, hpw, ec, el, el16, a1, a2, a3, el8, el8b, ↓aPre, aPost, oneW, allOne, retV, retVA, ↓reduceIte, reduceCtorEq, Nat.reduceAdd, Nat.reduceSub, Nat.reduceMul, Nat.reduceLT, Nat.reduceLeDiff, Nat.reduceEqDiff, Nat.reduceDiv, Nat.reduceMod, Nat.reducePow, Int.reduceAdd, Int.reduceSub, Int.reduceMul, Int.reduceLT, Int.reduceLE, Int.reduceEq, Int.reduceNe, Int.reducePow, Int.reduceToNat, Int.reduceNeg]
      refine call_giv hnum ?_
      simp -dsimp -implicitDefEqProofs (disch := first | omega | (simp only [List.length_append, List.length_cons, List.length_nil, List.length_take, List.length_drop]; omega)) only [hs, el, ↓aPre, aPost, oneW, allOne, retV, retVA, ↓reduceIte, reduceCtorEq, Nat.reduceAdd, Nat.reduceSub, Nat.reduceMul, Nat.reduceLT, Nat.reduceLeDiff, Nat.reduceEqDiff, Nat.reduceDiv, Nat.reduceMod, Nat.reducePow, Int.reduceAdd, Int.reduceSub, Int.reduceMul, Int.reduceLT, Int.reduceLE, Int.reduceEq, Int.reduceNe, Int.reducePow, Int.reduceToNat, Int.reduceNeg]
      refine round_of ⟨k + 1, by omega, ?_⟩ ?_
      · simp -dsimp -implicitDefEqProofs (disch := first | omega | (simp only [List.length_append, List.length_cons, List.length_nil, List.length_take, List.length_drop]; omega)) only [hs, tab, li_append, el, ↓aPre, aPost, oneW, allOne, retV, retVA, ↓reduceIte, reduceCtorEq, Nat.reduceAdd, Nat.reduceSub, Nat.reduceMul, Nat.reduceLT, Nat.reduceLeDiff, Nat.reduceEqDiff, Nat.reduceDiv, Nat.reduceMod, Nat.reducePow, Int.reduceAdd, Int.reduceSub, Int.reduceMul, Int.reduceLT, Int.reduceLE, Int.reduceEq, Int.reduceNe, Int.reducePow, Int.reduceToNat, Int.reduceNeg]
      · simp -dsimp -implicitDefEqProofs (disch := first | omega | (simp only [List.length_append, List.length_cons, List.length_nil, List.length_take, List.length_drop]; omega)) only [hs, ↓aPre, aPost, oneW, allOne, retV, retVA, ↓reduceIte, reduceCtorEq, Nat.reduceAdd, Nat.reduceSub, Nat.reduceMul, Nat.reduceLT, Nat.reduceLeDiff, Nat.reduceEqDiff, Nat.reduceDiv, Nat.reduceMod, Nat.reducePow, Int.reduceAdd, Int.reduceSub, Int.reduceMul, Int.reduceLT, Int.reduceLE, Int.reduceEq, Int.reduceNe, Int.reducePow, Int.reduceToNat, Int.reduceNeg]
        omega
    by_cases h32 : w = 32
    · subst h32
      have n32 : ((32 : Nat) : Int) = 32 := rfl
      simp only [n32] at hs hkw hpw
      have el32 := tx_len g 32
      have a1 : ((tx g 32).drop 24).take 8 = tx (fun i => g (24 + i)) 8 := tx_cut g (by decide)
      have a2 : ((tx g 32).drop 16).take 8 = tx (fun i => g (16 + i)) 8 := tx_cut g (by decide)
      have a3 : ((tx g 32).drop 8).take 8 = tx (fun i => g (8 + i)) 8 := tx_cut g (by decide)
      have a4 : (tx g 32).take 8 = tx g 8 := tx_take g (by decide)
      obtain ⟨g2, hg2⟩ : ∃ g2 : Nat → Int, g2 = fun i => g (8 * (3 - i / 8) + i % 8) := ⟨_, rfl⟩
      have hgb2 : Bit g2 := fun i => by rw [hg2]; exact hgb _
      have a5 : tx (fun i => g (24 + i)) 8 ++ tx (fun i => g (16 + i)) 8 ++ tx (fun i => g (8 + i)) 8 ++ tx g 8 = tx g2 32 := by
        rw [tx_app, tx_app, tx_app]
        refine tx_congr _ fun i hi => ?_
        rw [hg2]
        dsimp only
        by_cases c1 : i < 24
        · rw [if_pos (by omega)]
          by_cases c2 : i < 16
          · rw [if_pos (by omega)]
            by_cases c3 : i < 8
            · rw [if_pos c3, show 24 + i = 8 * (3 - i / 8) + i % 8 by omega]
            · rw [if_neg c3, show 16 + (i - 8) = 8 * (3 - i / 8) + i % 8 by omega]
          · rw [if_neg (by omega), show 8 + (i - (8 + 8)) = 8 * (3 - i / 8) + i % 8 by omega]
        · rw [if_neg (by omega), show i - (8 + 8 + 8) = 8 * (3 - i / 8) + i % 8 by omega]
      have l1 := tx_len (fun i => g (24 + i)) 8
      have l2 := tx_len (fun i => g (16 + i)) 8
      have l3 := tx_len (fun i => g (8 + i)) 8
      have l4 := tx_len g 8
      have hUe : hn g2 32 = U b 32 false k := by
        rw [U_bits h.B (.inr rfl) false (t := t) (by omega) htb]
        refine hn_congr 32 fun i hi => ?_
        rw [if_neg (by decide), hg2, ← hp]
        dsimp only
        rw [hg]
        dsimp only
        rw [hbc _ (by omega), show 32 / 8 - 1 - i / 8 = 3 - i / 8 by omega]
      have hnum := number_giv g2 hgb2 32 (by decide)
      rw [hUe] at hnum
      simp -dsimp -implicitDefEqProofs (disch := first | omega | (simp only [List.length_append, List.length_cons, List.length_nil, List.length_take, List.length_drop]; omega)) only [hs, hkw, hpw, ec, el, el32, a1, a2, a3, a4, a5, l1, l2, l3, l4, ↓aPre, aPost, oneW, allOne, retV, retVA, ↓reduceIte, reduceCtorEq, Nat.reduceAdd, Nat.reduceSub, Nat.reduceMul, Nat.reduceLT, Nat.reduceLeDiff, Nat.reduceEqDiff, Nat.reduceDiv, Nat.reduceMod, Nat.reducePow, Int.reduceAdd, Int.reduceSub, Int.reduceMul, Int.reduceLT, Int.reduceLE, Int.reduceEq, Int.reduceNe, Int.reducePow, Int.reduceToNat, Int.reduceNeg]
      refine call_giv hnum ?_
      simp -dsimp -implicitDefEqProofs (disch := first | omega | (simp only [List.length_append, List.length_cons, List.length_nil, List.length_take, List.length_drop]; omega)) only [hs, el, ↓aPre, aPost, oneW, allOne, retV, retVA, ↓reduceIte, reduceCtorEq, Nat.reduceAdd, Nat.reduceSub, Nat.reduceMul, Nat.reduceLT, Nat.reduceLeDiff, Nat.reduceEqDiff, Nat.reduceDiv, Nat.reduceMod, Nat.reducePow, Int.reduceAdd, Int.reduceSub, Int.reduceMul, Int.reduceLT, Int.reduceLE, Int.reduceEq, Int.reduceNe, Int.reducePow, Int.reduceToNat, Int.reduceNeg]
      refine round_of ⟨k + 1, by omega, ?_⟩ ?_
      · simp -dsimp -implicitDefEqProofs (disch := first | omega | (simp only [List.length_append, List.length_cons, List.length_nil, List.length_take, List.length_drop]; omega)) only [hs, tab, li_append, el, ↓aPre, aPost, oneW, allOne, retV, retVA, ↓reduceIte, reduceCtorEq, Nat.reduceAdd, Nat.reduceSub, Nat.reduceMul, Nat.reduceLT, Nat.reduceLeDiff, Nat.reduceEqDiff, Nat.reduceDiv, Nat.reduceMod, Nat.reducePow, Int.reduceAdd, Int.reduceSub, Int.reduceMul, Int.reduceLT, Int.reduceLE, Int.reduceEq, Int.reduceNe, Int.reducePow, Int.reduceToNat, Int.reduceNeg]
      · simp -dsimp -implicitDefEqProofs (disch := first | omega | (simp only [List.length_append, List.length_cons, List.length_nil, List.length_take, List.length_drop]; omega)) only [hs, ↓aPre, aPost, oneW, allOne, retV, retVA, ↓reduceIte, reduceCtorEq, Nat.reduceAdd, Nat.reduceSub, Nat.reduceMul, Nat.reduceLT, Nat.reduceLeDiff, Nat.reduceEqDiff, Nat.reduceDiv, Nat.reduceMod, Nat.reducePow, Int.reduceAdd, Int.reduceSub, Int.reduceMul, Int.reduceLT, Int.reduceLE, Int.reduceEq, Int.reduceNe, Int.reducePow, Int.reduceToNat, Int.reduceNeg]
        omega
    have hwh : ¬ wh w := by unfold wh; omega
    have hUe : hn g w = U b w false k := by
      rw [U_no hwh]
      refine hn_congr w fun i hi => ?_
      rw [hg, ← hp]
      exact hbc i hi
    have h16' : ¬ (w : Int) = 16 := by omega
    have h32' : ¬ (w : Int) = 32 := by omega
    have hnum := number_giv g hgb w hw1.2
    rw [hUe] at hnum
    simp -dsimp -implicitDefEqProofs (disch := first | omega | (simp only [List.length_append, List.length_cons, List.length_nil, List.length_take, List.length_drop]; omega)) only [hs, hkw, hpw, ec, ibeq_f h16', ibeq_f h32', ↓aPre, aPost, oneW, allOne, retV, retVA, ↓reduceIte, reduceCtorEq, Nat.reduceAdd, Nat.reduceSub, Nat.reduceMul, Nat.reduceLT, Nat.reduceLeDiff, Nat.reduceEqDiff, Nat.reduceDiv, Nat.reduceMod, Nat.reducePow, Int.reduceAdd, Int.reduceSub, Int.reduceMul, Int.reduceLT, Int.reduceLE, Int.reduceEq, Int.reduceNe, Int.reducePow, Int.reduceToNat, Int.reduceNeg]
    refine call_giv hnum ?_
    simp -dsimp -implicitDefEqProofs (disch := first | omega | (simp only [List.length_append, List.length_cons, List.length_nil, List.length_take, List.length_drop]; omega)) only [hs, el, ↓aPre, aPost, oneW, allOne, retV, retVA, ↓reduceIte, reduceCtorEq, Nat.reduceAdd, Nat.reduceSub, Nat.reduceMul, Nat.reduceLT, Nat.reduceLeDiff, Nat.reduceEqDiff, Nat.reduceDiv, Nat.reduceMod, Nat.reducePow, Int.reduceAdd, Int.reduceSub, Int.reduceMul, Int.reduceLT, Int.reduceLE, Int.reduceEq, Int.reduceNe, Int.reducePow, Int.reduceToNat, Int.reduceNeg]
    refine round_of ⟨k + 1, by omega, ?_⟩ ?_
    · simp -dsimp -implicitDefEqProofs (disch := first | omega | (simp only [List.length_append, List.length_cons, List.length_nil, List.length_take, List.length_drop]; omega)) only [hs, tab, li_append, el, ↓aPre, aPost, oneW, allOne, retV, retVA, ↓reduceIte, reduceCtorEq, Nat.reduceAdd, Nat.reduceSub, Nat.reduceMul, Nat.reduceLT, Nat.reduceLeDiff, Nat.reduceEqDiff, Nat.reduceDiv, Nat.reduceMod, Nat.reducePow, Int.reduceAdd, Int.reduceSub, Int.reduceMul, Int.reduceLT, Int.reduceLE, Int.reduceEq, Int.reduceNe, Int.reducePow, Int.reduceToNat, Int.reduceNeg]
    · simp -dsimp -implicitDefEqProofs (disch := first | omega | (simp only [List.length_append, List.length_cons, List.length_nil, List.length_take, List.length_drop]; omega)) only [hs, ↓aPre, aPost, oneW, allOne, retV, retVA, ↓reduceIte, reduceCtorEq, Nat.reduceAdd, Nat.reduceSub, Nat.reduceMul, Nat.reduceLT, Nat.reduceLeDiff, Nat.reduceEqDiff, Nat.reduceDiv, Nat.reduceMod, Nat.reducePow, Int.reduceAdd, Int.reduceSub, Int.reduceMul, Int.reduceLT, Int.reduceLE, Int.reduceEq, Int.reduceNe, Int.reducePow, Int.reduceToNat, Int.reduceNeg]
      omega
  · obtain rfl : k = n := by omega
    have et : (tab (U b w big) k).take k = tab (U b w big) k := tab_take _ (Nat.le_refl _)
    simp -dsimp -implicitDefEqProofs (disch := first | omega | (simp only [List.length_append, List.length_cons, List.length_nil, List.length_take, List.length_drop]; omega)) only [hs, et, el, ↓aPre, aPost, oneW, allOne, retV, retVA, ↓reduceIte, reduceCtorEq, Nat.reduceAdd, Nat.reduceSub, Nat.reduceMul, Nat.reduceLT, Nat.reduceLeDiff, Nat.reduceEqDiff, Nat.reduceDiv, Nat.reduceMod, Nat.reducePow, Int.reduceAdd, Int.reduceSub, Int.reduceMul, Int.reduceLT, Int.reduceLE, Int.reduceEq, Int.reduceNe, Int.reducePow, Int.reduceToNat, Int.reduceNeg]
    exact post_eq rfl
end Go.Proofs.Ytlhmhopgbkmafaa

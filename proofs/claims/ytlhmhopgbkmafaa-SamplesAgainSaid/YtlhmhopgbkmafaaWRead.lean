/- The reader of bits. No condition but what each says. -/
import Derived.Test.YtlhmhopgbkmafaaLJoins
set_option linter.unusedSimpArgs false
set_option linter.unusedVariables false
set_option maxRecDepth 8000
set_option maxHeartbeats 4000000
namespace Go.Proofs.Ytlhmhopgbkmafaa
open Go.Eng Go.RowKit
theorem left_m (l : List Int) (p : Nat) (hl : l.length ≤ 100000) (hp : p ≤ 8 * l.length) : GivM Try.prog 36 [.ptr 2000000 0] [(2000000, .box [.sl 1000000 1 0 l.length, .d (.c (.int .i64 (p : Nat))), .d (.c (.bool false))]), (1000000, .row 1 (li .u8 l))] (.d (.c (.int .i64 (8 * (l.length : Int) - (p : Int))))) [(2000000, .box [.sl 1000000 1 0 l.length, .d (.c (.int .i64 (p : Nat))), .d (.c (.bool false))]), (1000000, .row 1 (li .u8 l))] := by
  refine GivM.of mixed c36 (Nat.le_of_ble_eq_true rfl) rfl rfl ?_
  simp -dsimp -implicitDefEqProofs (disch := first | omega | (simp only [List.length_append, List.length_cons, List.length_nil, List.length_take, List.length_drop]; omega)) only [a36, ↓aPre, aPost, oneW, allOne, retV, retVA, ↓reduceIte, reduceCtorEq, Nat.reduceAdd, Nat.reduceSub, Nat.reduceMul, Nat.reduceLT, Nat.reduceLeDiff, Nat.reduceEqDiff, Nat.reduceDiv, Nat.reduceMod, Nat.reducePow, Int.reduceAdd, Int.reduceSub, Int.reduceMul, Int.reduceLT, Int.reduceLE, Int.reduceEq, Int.reduceNe, Int.reducePow, Int.reduceToNat, Int.reduceNeg]
  refine end_of rfl ?_
  simp -dsimp -implicitDefEqProofs (disch := first | omega | (simp only [List.length_append, List.length_cons, List.length_nil, List.length_take, List.length_drop]; omega)) only [↓aPre, aPost, oneW, allOne, retV, retVA, ↓reduceIte, reduceCtorEq, Nat.reduceAdd, Nat.reduceSub, Nat.reduceMul, Nat.reduceLT, Nat.reduceLeDiff, Nat.reduceEqDiff, Nat.reduceDiv, Nat.reduceMod, Nat.reducePow, Int.reduceAdd, Int.reduceSub, Int.reduceMul, Int.reduceLT, Int.reduceLE, Int.reduceEq, Int.reduceNe, Int.reducePow, Int.reduceToNat, Int.reduceNeg]
theorem bit_m (l : List Int) (p i : Nat) (hl : l.length ≤ 100000) (hB : Bytes l) (hi : i < 8 * l.length) : GivM Try.prog 38 [.ptr 2000000 0, .d (.c (.int .i64 i))] [(2000000, .box [.sl 1000000 1 0 l.length, .d (.c (.int .i64 (p : Nat))), .d (.c (.bool false))]), (1000000, .row 1 (li .u8 l))] (.d (.c (.int .u32 (bt l i)))) [(2000000, .box [.sl 1000000 1 0 l.length, .d (.c (.int .i64 (p : Nat))), .d (.c (.bool false))]), (1000000, .row 1 (li .u8 l))] := by
  have hmod : (i : Int).tmod 8 = ((i % 8 : Nat) : Int) := by rw [Int.tmod_eq_emod_of_nonneg (by omega)]; omega
  have hdiv : ((i : Int) / 8).toNat = i / 8 := by omega
  have hb := hB.get (i / 8)
  obtain ⟨v, hv⟩ : ∃ v : Nat, l.getD (i / 8) 0 = v := ⟨(l.getD (i / 8) 0).toNat, by omega⟩
  have hsh : (v : Int).fdiv (2 ^ min (7 - ((i % 8 : Nat) : Int)).toNat IntKind.u8.bits) = ((v / 2 ^ (7 - i % 8) : Nat) : Int) := by
    rw [show min (7 - ((i % 8 : Nat) : Int)).toNat IntKind.u8.bits = 7 - i % 8 by simp [IntKind.bits]; omega, Int.fdiv_eq_ediv_of_nonneg _ (Int.le_of_lt (Int.pow_pos (by decide)))]
    rw [show (2 : Int) ^ (7 - i % 8) = ((2 ^ (7 - i % 8) : Nat) : Int) by rw [Int.natCast_pow]; rfl, ← Int.natCast_ediv]
  rw [hv] at hb
  have hle : v / 2 ^ (7 - i % 8) ≤ v := Nat.div_le_self _ _
  obtain ⟨q, hq⟩ : ∃ q, q = v / 2 ^ (7 - i % 8) := ⟨_, rfl⟩
  rw [← hq] at hle hsh
  have hand : bits .and .u32 (q : Int) 1 = bt l i := by
    rw [bt, hv, Int.toNat_natCast, dg, u32_and _ 1 (by omega) (by omega) (by decide) (by decide), Int.toNat_natCast, show (1 : Int).toNat = 2 ^ 1 - 1 from rfl, Nat.and_two_pow_sub_one_eq_mod, hq]
  refine GivM.of mixed c38 (Nat.le_of_ble_eq_true rfl) rfl rfl ?_
  simp -dsimp -implicitDefEqProofs (disch := first | omega | (simp only [List.length_append, List.length_cons, List.length_nil, List.length_take, List.length_drop]; omega)) only [a38, hdiv, hv, hmod, hsh, hand, ↓aPre, aPost, oneW, allOne, retV, retVA, ↓reduceIte, reduceCtorEq, Nat.reduceAdd, Nat.reduceSub, Nat.reduceMul, Nat.reduceLT, Nat.reduceLeDiff, Nat.reduceEqDiff, Nat.reduceDiv, Nat.reduceMod, Nat.reducePow, Int.reduceAdd, Int.reduceSub, Int.reduceMul, Int.reduceLT, Int.reduceLE, Int.reduceEq, Int.reduceNe, Int.reducePow, Int.reduceToNat, Int.reduceNeg]
  refine end_of rfl ?_
  simp -dsimp -implicitDefEqProofs (disch := first | omega | (simp only [List.length_append, List.length_cons, List.length_nil, List.length_take, List.length_drop]; omega)) only [↓aPre, aPost, oneW, allOne, retV, retVA, ↓reduceIte, reduceCtorEq, Nat.reduceAdd, Nat.reduceSub, Nat.reduceMul, Nat.reduceLT, Nat.reduceLeDiff, Nat.reduceEqDiff, Nat.reduceDiv, Nat.reduceMod, Nat.reducePow, Int.reduceAdd, Int.reduceSub, Int.reduceMul, Int.reduceLT, Int.reduceLE, Int.reduceEq, Int.reduceNe, Int.reducePow, Int.reduceToNat, Int.reduceNeg]
/-- the bits from a place on; behind the last, noughts -/
def pkF (l : List Int) (p k : Nat) : Int := if p + k < 8 * l.length then bt l (p + k) else 0
theorem pkF_bit (l : List Int) (p : Nat) : Bit (pkF l p) := fun k => by
  unfold pkF; split
  · exact bt_bit l _
  · exact .inl rfl
theorem peek_m (l : List Int) (p w : Nat) (hl : l.length ≤ 100000) (hB : Bytes l) (hp : p ≤ 8 * l.length) (hw : w ≤ 32) : GivM Try.prog 35 [.ptr 2000000 0, .d (.c (.int .i64 w))] [(2000000, .box [.sl 1000000 1 0 l.length, .d (.c (.int .i64 (p : Nat))), .d (.c (.bool false))]), (1000000, .row 1 (li .u8 l))] (.tup [.d (.c (.int .u32 (hn (pkF l p) w))), .d (.c (.int .i64 0))]) [(2000000, .box [.sl 1000000 1 0 l.length, .d (.c (.int .i64 (p : Nat))), .d (.c (.bool false))]), (1000000, .row 1 (li .u8 l))] := by
  refine GivM.of mixed c35 (Nat.le_of_ble_eq_true rfl) rfl rfl ?_
  have hleft := left_m l p hl hp
  simp -dsimp -implicitDefEqProofs (disch := first | omega | (simp only [List.length_append, List.length_cons, List.length_nil, List.length_take, List.length_drop]; omega)) only [a35, ↓aPre, aPost, oneW, allOne, retV, retVA, ↓reduceIte, reduceCtorEq, Nat.reduceAdd, Nat.reduceSub, Nat.reduceMul, Nat.reduceLT, Nat.reduceLeDiff, Nat.reduceEqDiff, Nat.reduceDiv, Nat.reduceMod, Nat.reducePow, Int.reduceAdd, Int.reduceSub, Int.reduceMul, Int.reduceLT, Int.reduceLE, Int.reduceEq, Int.reduceNe, Int.reducePow, Int.reduceToNat, Int.reduceNeg]
  refine loop_of (fun s => ∃ (k : Nat), k ≤ w ∧ s.tm 0 = .ptr 2000000 0 ∧ s.tm 1 = .d (.c (.int .i64 w)) ∧ s.tm 15 = .d (.c (.int .i64 w)) ∧ s.tm 16 = .d (.c (.int .i64 k)) ∧ s.tm 6 = .d (.c (.int .u32 (hn (pkF l p) k))) ∧ s.hp 2000000 = some (.box [.sl 1000000 1 0 l.length, .d (.c (.int .i64 (p : Nat))), .d (.c (.bool false))]) ∧ s.hp 1000000 = some (.row 1 (li .u8 l))) (fun s => w - (avN (s.tm 16)).toNat) ?_ ?_
  · refine ⟨0, Nat.zero_le _, ?_⟩
    simp -dsimp -implicitDefEqProofs (disch := first | omega | (simp only [List.length_append, List.length_cons, List.length_nil, List.length_take, List.length_drop]; omega)) only [hn, Int.natCast_zero, ↓aPre, aPost, oneW, allOne, retV, retVA, ↓reduceIte, reduceCtorEq, Nat.reduceAdd, Nat.reduceSub, Nat.reduceMul, Nat.reduceLT, Nat.reduceLeDiff, Nat.reduceEqDiff, Nat.reduceDiv, Nat.reduceMod, Nat.reducePow, Int.reduceAdd, Int.reduceSub, Int.reduceMul, Int.reduceLT, Int.reduceLE, Int.reduceEq, Int.reduceNe, Int.reducePow, Int.reduceToNat, Int.reduceNeg]
  rintro s ⟨k, hk, hs⟩
  by_cases hlt : k < w
  · have hb := hn_b (pkF_bit l p) (k + 1)
    have hb0 := hn_b (pkF_bit l p) k
    have hpw : ∀ j : Nat, j ≤ 32 → (2 : Int) ^ j ≤ 4294967296 := fun j hj => by
      have h1 : 2 ^ j ≤ 2 ^ 32 := Nat.pow_le_pow_right (by decide) hj
      have h2 : ((2 ^ j : Nat) : Int) ≤ ((2 ^ 32 : Nat) : Int) := Int.ofNat_le.2 h1
      rw [Int.natCast_pow] at h2
      simpa using h2
    have h1 := hpw (k + 1) (by omega)
    have h2 := hpw k (by omega)
    rw [hn] at hb
    have hfk := pkF_bit l p k
    have hsh : IntKind.u32.wrap (hn (pkF l p) k * 2 ^ min 1 IntKind.u32.bits) = 2 * hn (pkF l p) k := by
      rw [show min 1 IntKind.u32.bits = 1 from rfl, show (2 : Int) ^ 1 = 2 from rfl, Int.mul_comm]
      simp only [IntKind.wrap, IntKind.signed, IntKind.bits]
      simp
      omega
    have hor : ∀ z : Int, z = pkF l p k → bits .or .u32 (2 * hn (pkF l p) k) z = hn (pkF l p) (k + 1) := fun z hz => by
      obtain ⟨a, ha⟩ := Int.eq_ofNat_of_zero_le hb0.1
      rw [hz, hn, u32_or _ _ (by omega) (by omega) (by omega) (by omega), ha]
      rcases hfk with e | e
      · rw [e]; simp; omega
      · have h3 := Nat.shiftLeft_add_eq_or_of_lt (show 1 < 2 ^ 1 by decide) a
        rw [e, show (2 * (a : Int)).toNat = a <<< 1 by rw [Nat.shiftLeft_eq]; omega, show (1 : Int).toNat = 1 from rfl, ← h3, Nat.shiftLeft_eq]
        omega
    simp -dsimp -implicitDefEqProofs (disch := first | omega | (simp only [List.length_append, List.length_cons, List.length_nil, List.length_take, List.length_drop]; omega)) only [hs, ↓aPre, aPost, oneW, allOne, retV, retVA, ↓reduceIte, reduceCtorEq, Nat.reduceAdd, Nat.reduceSub, Nat.reduceMul, Nat.reduceLT, Nat.reduceLeDiff, Nat.reduceEqDiff, Nat.reduceDiv, Nat.reduceMod, Nat.reducePow, Int.reduceAdd, Int.reduceSub, Int.reduceMul, Int.reduceLT, Int.reduceLE, Int.reduceEq, Int.reduceNe, Int.reducePow, Int.reduceToNat, Int.reduceNeg]
    refine call_mut hleft [] rfl rfl ?_ ?_
    · simp -dsimp -implicitDefEqProofs (disch := first | omega | (simp only [List.length_append, List.length_cons, List.length_nil, List.length_take, List.length_drop]; omega)) only [hs, ↓aPre, aPost, oneW, allOne, retV, retVA, ↓reduceIte, reduceCtorEq, Nat.reduceAdd, Nat.reduceSub, Nat.reduceMul, Nat.reduceLT, Nat.reduceLeDiff, Nat.reduceEqDiff, Nat.reduceDiv, Nat.reduceMod, Nat.reducePow, Int.reduceAdd, Int.reduceSub, Int.reduceMul, Int.reduceLT, Int.reduceLE, Int.reduceEq, Int.reduceNe, Int.reducePow, Int.reduceToNat, Int.reduceNeg]
    by_cases hin : p + k < 8 * l.length
    · have hin' : (k : Int) < 8 * (l.length : Int) - (p : Int) := by omega
      have hbit := bit_m l p (p + k) hl hB hin
      have hz : bt l (p + k) = pkF l p k := by rw [pkF, if_pos hin]
      rw [hz] at hbit
      have ho := hor _ rfl
      simp -dsimp -implicitDefEqProofs (disch := first | omega | (simp only [List.length_append, List.length_cons, List.length_nil, List.length_take, List.length_drop]; omega)) only [hs, hin', ↓aPre, aPost, oneW, allOne, retV, retVA, ↓reduceIte, reduceCtorEq, Nat.reduceAdd, Nat.reduceSub, Nat.reduceMul, Nat.reduceLT, Nat.reduceLeDiff, Nat.reduceEqDiff, Nat.reduceDiv, Nat.reduceMod, Nat.reducePow, Int.reduceAdd, Int.reduceSub, Int.reduceMul, Int.reduceLT, Int.reduceLE, Int.reduceEq, Int.reduceNe, Int.reducePow, Int.reduceToNat, Int.reduceNeg]
      refine call_mut hbit [] rfl rfl ?_ ?_
      · simp -dsimp -implicitDefEqProofs (disch := first | omega | (simp only [List.length_append, List.length_cons, List.length_nil, List.length_take, List.length_drop]; omega)) only [hs, ↓aPre, aPost, oneW, allOne, retV, retVA, ↓reduceIte, reduceCtorEq, Nat.reduceAdd, Nat.reduceSub, Nat.reduceMul, Nat.reduceLT, Nat.reduceLeDiff, Nat.reduceEqDiff, Nat.reduceDiv, Nat.reduceMod, Nat.reducePow, Int.reduceAdd, Int.reduceSub, Int.reduceMul, Int.reduceLT, Int.reduceLE, Int.reduceEq, Int.reduceNe, Int.reducePow, Int.reduceToNat, Int.reduceNeg]
      simp -dsimp -implicitDefEqProofs (disch := first | omega | (simp only [List.length_append, List.length_cons, List.length_nil, List.length_take, List.length_drop]; omega)) only [hs, hsh, ho, ↓aPre, aPost, oneW, allOne, retV, retVA, ↓reduceIte, reduceCtorEq, Nat.reduceAdd, Nat.reduceSub, Nat.reduceMul, Nat.reduceLT, Nat.reduceLeDiff, Nat.reduceEqDiff, Nat.reduceDiv, Nat.reduceMod, Nat.reducePow, Int.reduceAdd, Int.reduceSub, Int.reduceMul, Int.reduceLT, Int.reduceLE, Int.reduceEq, Int.reduceNe, Int.reducePow, Int.reduceToNat, Int.reduceNeg]
      refine round_of ⟨k + 1, by omega, ?_⟩ ?_
      · simp -dsimp -implicitDefEqProofs (disch := first | omega | (simp only [List.length_append, List.length_cons, List.length_nil, List.length_take, List.length_drop]; omega)) only [hs, ↓aPre, aPost, oneW, allOne, retV, retVA, ↓reduceIte, reduceCtorEq, Nat.reduceAdd, Nat.reduceSub, Nat.reduceMul, Nat.reduceLT, Nat.reduceLeDiff, Nat.reduceEqDiff, Nat.reduceDiv, Nat.reduceMod, Nat.reducePow, Int.reduceAdd, Int.reduceSub, Int.reduceMul, Int.reduceLT, Int.reduceLE, Int.reduceEq, Int.reduceNe, Int.reducePow, Int.reduceToNat, Int.reduceNeg]
      · simp -dsimp -implicitDefEqProofs (disch := first | omega | (simp only [List.length_append, List.length_cons, List.length_nil, List.length_take, List.length_drop]; omega)) only [hs, ↓aPre, aPost, oneW, allOne, retV, retVA, ↓reduceIte, reduceCtorEq, Nat.reduceAdd, Nat.reduceSub, Nat.reduceMul, Nat.reduceLT, Nat.reduceLeDiff, Nat.reduceEqDiff, Nat.reduceDiv, Nat.reduceMod, Nat.reducePow, Int.reduceAdd, Int.reduceSub, Int.reduceMul, Int.reduceLT, Int.reduceLE, Int.reduceEq, Int.reduceNe, Int.reducePow, Int.reduceToNat, Int.reduceNeg]
        omega
    · have hin' : ¬ (k : Int) < 8 * (l.length : Int) - (p : Int) := by omega
      have ho := hor 0 (by rw [pkF, if_neg hin])
      simp -dsimp -implicitDefEqProofs (disch := first | omega | (simp only [List.length_append, List.length_cons, List.length_nil, List.length_take, List.length_drop]; omega)) only [hs, hin', hsh, ho, ↓aPre, aPost, oneW, allOne, retV, retVA, ↓reduceIte, reduceCtorEq, Nat.reduceAdd, Nat.reduceSub, Nat.reduceMul, Nat.reduceLT, Nat.reduceLeDiff, Nat.reduceEqDiff, Nat.reduceDiv, Nat.reduceMod, Nat.reducePow, Int.reduceAdd, Int.reduceSub, Int.reduceMul, Int.reduceLT, Int.reduceLE, Int.reduceEq, Int.reduceNe, Int.reducePow, Int.reduceToNat, Int.reduceNeg]
      refine round_of ⟨k + 1, by omega, ?_⟩ ?_
      · simp -dsimp -implicitDefEqProofs (disch := first | omega | (simp only [List.length_append, List.length_cons, List.length_nil, List.length_take, List.length_drop]; omega)) only [hs, ↓aPre, aPost, oneW, allOne, retV, retVA, ↓reduceIte, reduceCtorEq, Nat.reduceAdd, Nat.reduceSub, Nat.reduceMul, Nat.reduceLT, Nat.reduceLeDiff, Nat.reduceEqDiff, Nat.reduceDiv, Nat.reduceMod, Nat.reducePow, Int.reduceAdd, Int.reduceSub, Int.reduceMul, Int.reduceLT, Int.reduceLE, Int.reduceEq, Int.reduceNe, Int.reducePow, Int.reduceToNat, Int.reduceNeg]
      · simp -dsimp -implicitDefEqProofs (disch := first | omega | (simp only [List.length_append, List.length_cons, List.length_nil, List.length_take, List.length_drop]; omega)) only [hs, ↓aPre, aPost, oneW, allOne, retV, retVA, ↓reduceIte, reduceCtorEq, Nat.reduceAdd, Nat.reduceSub, Nat.reduceMul, Nat.reduceLT, Nat.reduceLeDiff, Nat.reduceEqDiff, Nat.reduceDiv, Nat.reduceMod, Nat.reducePow, Int.reduceAdd, Int.reduceSub, Int.reduceMul, Int.reduceLT, Int.reduceLE, Int.reduceEq, Int.reduceNe, Int.reducePow, Int.reduceToNat, Int.reduceNeg]
        omega
  · obtain rfl : k = w := by omega
    simp -dsimp -implicitDefEqProofs (disch := first | omega | (simp only [List.length_append, List.length_cons, List.length_nil, List.length_take, List.length_drop]; omega)) only [hs, ↓aPre, aPost, oneW, allOne, retV, retVA, ↓reduceIte, reduceCtorEq, Nat.reduceAdd, Nat.reduceSub, Nat.reduceMul, Nat.reduceLT, Nat.reduceLeDiff, Nat.reduceEqDiff, Nat.reduceDiv, Nat.reduceMod, Nat.reducePow, Int.reduceAdd, Int.reduceSub, Int.reduceMul, Int.reduceLT, Int.reduceLE, Int.reduceEq, Int.reduceNe, Int.reducePow, Int.reduceToNat, Int.reduceNeg]
    refine end_of rfl ?_
    simp -dsimp -implicitDefEqProofs (disch := first | omega | (simp only [List.length_append, List.length_cons, List.length_nil, List.length_take, List.length_drop]; omega)) only [hs, ↓aPre, aPost, oneW, allOne, retV, retVA, ↓reduceIte, reduceCtorEq, Nat.reduceAdd, Nat.reduceSub, Nat.reduceMul, Nat.reduceLT, Nat.reduceLeDiff, Nat.reduceEqDiff, Nat.reduceDiv, Nat.reduceMod, Nat.reducePow, Int.reduceAdd, Int.reduceSub, Int.reduceMul, Int.reduceLT, Int.reduceLE, Int.reduceEq, Int.reduceNe, Int.reducePow, Int.reduceToNat, Int.reduceNeg]
theorem read_m (l : List Int) (p w : Nat) (hl : l.length ≤ 100000) (hB : Bytes l) (hp : p + w ≤ 8 * l.length) (hw : w ≤ 32) : GivM Try.prog 27 [.ptr 2000000 0, .d (.c (.int .i64 w))] [(2000000, .box [.sl 1000000 1 0 l.length, .d (.c (.int .i64 (p : Nat))), .d (.c (.bool false))]), (1000000, .row 1 (li .u8 l))] (.tup [.d (.c (.int .u32 (hn (pkF l p) w))), .d (.c (.int .i64 0))]) [(2000000, .box [.sl 1000000 1 0 l.length, .d (.c (.int .i64 (p + w : Nat))), .d (.c (.bool false))]), (1000000, .row 1 (li .u8 l))] := by
  refine GivM.of mixed c27 (Nat.le_of_ble_eq_true rfl) rfl rfl ?_
  have hleft := left_m l p hl (by omega)
  have hpeek := peek_m l p w hl hB (by omega) hw
  have hno : ¬ (w : Int) > 8 * (l.length : Int) - (p : Int) := by omega
  simp -dsimp -implicitDefEqProofs (disch := first | omega | (simp only [List.length_append, List.length_cons, List.length_nil, List.length_take, List.length_drop]; omega)) only [a27, ↓aPre, aPost, oneW, allOne, retV, retVA, ↓reduceIte, reduceCtorEq, Nat.reduceAdd, Nat.reduceSub, Nat.reduceMul, Nat.reduceLT, Nat.reduceLeDiff, Nat.reduceEqDiff, Nat.reduceDiv, Nat.reduceMod, Nat.reducePow, Int.reduceAdd, Int.reduceSub, Int.reduceMul, Int.reduceLT, Int.reduceLE, Int.reduceEq, Int.reduceNe, Int.reducePow, Int.reduceToNat, Int.reduceNeg]
  refine call_mut hpeek [] rfl rfl ?_ ?_
  · simp -dsimp -implicitDefEqProofs (disch := first | omega | (simp only [List.length_append, List.length_cons, List.length_nil, List.length_take, List.length_drop]; omega)) only [↓aPre, aPost, oneW, allOne, retV, retVA, ↓reduceIte, reduceCtorEq, Nat.reduceAdd, Nat.reduceSub, Nat.reduceMul, Nat.reduceLT, Nat.reduceLeDiff, Nat.reduceEqDiff, Nat.reduceDiv, Nat.reduceMod, Nat.reducePow, Int.reduceAdd, Int.reduceSub, Int.reduceMul, Int.reduceLT, Int.reduceLE, Int.reduceEq, Int.reduceNe, Int.reducePow, Int.reduceToNat, Int.reduceNeg]
  simp -dsimp -implicitDefEqProofs (disch := first | omega | (simp only [List.length_append, List.length_cons, List.length_nil, List.length_take, List.length_drop]; omega)) only [↓aPre, aPost, oneW, allOne, retV, retVA, ↓reduceIte, reduceCtorEq, Nat.reduceAdd, Nat.reduceSub, Nat.reduceMul, Nat.reduceLT, Nat.reduceLeDiff, Nat.reduceEqDiff, Nat.reduceDiv, Nat.reduceMod, Nat.reducePow, Int.reduceAdd, Int.reduceSub, Int.reduceMul, Int.reduceLT, Int.reduceLE, Int.reduceEq, Int.reduceNe, Int.reducePow, Int.reduceToNat, Int.reduceNeg]
  refine call_mut hleft [] rfl rfl ?_ ?_
  · simp -dsimp -implicitDefEqProofs (disch := first | omega | (simp only [List.length_append, List.length_cons, List.length_nil, List.length_take, List.length_drop]; omega)) only [↓aPre, aPost, oneW, allOne, retV, retVA, ↓reduceIte, reduceCtorEq, Nat.reduceAdd, Nat.reduceSub, Nat.reduceMul, Nat.reduceLT, Nat.reduceLeDiff, Nat.reduceEqDiff, Nat.reduceDiv, Nat.reduceMod, Nat.reducePow, Int.reduceAdd, Int.reduceSub, Int.reduceMul, Int.reduceLT, Int.reduceLE, Int.reduceEq, Int.reduceNe, Int.reducePow, Int.reduceToNat, Int.reduceNeg]
  simp -dsimp -implicitDefEqProofs (disch := first | omega | (simp only [List.length_append, List.length_cons, List.length_nil, List.length_take, List.length_drop]; omega)) only [hno, ↓aPre, aPost, oneW, allOne, retV, retVA, ↓reduceIte, reduceCtorEq, Nat.reduceAdd, Nat.reduceSub, Nat.reduceMul, Nat.reduceLT, Nat.reduceLeDiff, Nat.reduceEqDiff, Nat.reduceDiv, Nat.reduceMod, Nat.reducePow, Int.reduceAdd, Int.reduceSub, Int.reduceMul, Int.reduceLT, Int.reduceLE, Int.reduceEq, Int.reduceNe, Int.reducePow, Int.reduceToNat, Int.reduceNeg]
  refine end_of rfl ?_
  simp -dsimp -implicitDefEqProofs (disch := first | omega | (simp only [List.length_append, List.length_cons, List.length_nil, List.length_take, List.length_drop]; omega)) only [Int.natCast_add, ↓aPre, aPost, oneW, allOne, retV, retVA, ↓reduceIte, reduceCtorEq, Nat.reduceAdd, Nat.reduceSub, Nat.reduceMul, Nat.reduceLT, Nat.reduceLeDiff, Nat.reduceEqDiff, Nat.reduceDiv, Nat.reduceMod, Nat.reducePow, Int.reduceAdd, Int.reduceSub, Int.reduceMul, Int.reduceLT, Int.reduceLE, Int.reduceEq, Int.reduceNe, Int.reducePow, Int.reduceToNat, Int.reduceNeg]
theorem newreader_m (l : List Int) (hl : l.length ≤ 100000) : GivM Try.prog 26 [.d (.lst 1 (li .u8 l)), .d (.c (.bool false))] [] (.ptr 10 0) [(10, .box [.sl 5 1 0 l.length, .d (.c (.int .i64 0)), .d (.c (.bool false))]), (5, .row 1 (li .u8 l))] := by
  refine GivM.of mixed c26 (Nat.le_of_ble_eq_true rfl) rfl rfl ?_
  simp -dsimp -implicitDefEqProofs (disch := first | omega | (simp only [List.length_append, List.length_cons, List.length_nil, List.length_take, List.length_drop]; omega)) only [a26, ↓aPre, aPost, oneW, allOne, retV, retVA, ↓reduceIte, reduceCtorEq, Nat.reduceAdd, Nat.reduceSub, Nat.reduceMul, Nat.reduceLT, Nat.reduceLeDiff, Nat.reduceEqDiff, Nat.reduceDiv, Nat.reduceMod, Nat.reducePow, Int.reduceAdd, Int.reduceSub, Int.reduceMul, Int.reduceLT, Int.reduceLE, Int.reduceEq, Int.reduceNe, Int.reducePow, Int.reduceToNat, Int.reduceNeg]
  refine end_of rfl ?_
  simp -dsimp -implicitDefEqProofs (disch := first | omega | (simp only [List.length_append, List.length_cons, List.length_nil, List.length_take, List.length_drop]; omega)) only [↓aPre, aPost, oneW, allOne, retV, retVA, ↓reduceIte, reduceCtorEq, Nat.reduceAdd, Nat.reduceSub, Nat.reduceMul, Nat.reduceLT, Nat.reduceLeDiff, Nat.reduceEqDiff, Nat.reduceDiv, Nat.reduceMod, Nat.reducePow, Int.reduceAdd, Int.reduceSub, Int.reduceMul, Int.reduceLT, Int.reduceLE, Int.reduceEq, Int.reduceNe, Int.reducePow, Int.reduceToNat, Int.reduceNeg]
end Go.Proofs.Ytlhmhopgbkmafaa

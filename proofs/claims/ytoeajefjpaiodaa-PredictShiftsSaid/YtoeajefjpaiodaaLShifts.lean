/- The same added to all samples changes only the first ones of what is told: the law's walk and its plain law. No further condition. -/
import Derived.Test.YtoeajefjpaiodaaLAgain
set_option linter.unusedSimpArgs false
set_option linter.unusedVariables false
set_option maxRecDepth 8000
set_option maxHeartbeats 2000000
namespace Go.Proofs.Ytoeajefjpaiodaa
open Go.Eng Go.RowKit
theorem wrap_u64 (x : Int) : ∃ q : Nat, IntKind.u64.wrap x = q ∧ q < 18446744073709551616 := by
  refine ⟨(IntKind.u64.wrap x).toNat, ?_, ?_⟩ <;> · simp [IntKind.wrap, IntKind.signed, IntKind.bits]; try omega
theorem and_in {w : Int} (h : wid w) {x : Int} (h0 : 0 ≤ x ∧ x < 4294967296) : bits .and .u32 x (mkI w) = x % (mkI w + 1) := by
  have := and_mod h x
  rwa [show IntKind.u32.wrap x = x by simp [IntKind.wrap, IntKind.signed, IntKind.bits]; omega] at this
def sa (t : List Int) (M : Int) (k : Nat) (j : Nat) : Int := if j < k then t.getD j 0 % M else t.getD j 0
def sb (t : List Int) (M more : Int) (j : Nat) : Int := (t.getD j 0 % M + more) % M
theorem shift_dif {w : Int} (h : wid w) (a b more : Int) : ((a + more) % (mkI w + 1) - (b + more) % (mkI w + 1)) % (mkI w + 1) = (a - b) % (mkI w + 1) := by
  rw [← Int.sub_emod]
  congr 1
  omega
theorem shE {v : Int} (h : wid v) : IntKind.u32.wrap (IntKind.u32.wrap (1 * 2 ^ min v.toNat IntKind.u32.bits) - 1) = mkI v := by
  rcases h with rfl | rfl | rfl <;> decide +kernel
theorem clone_own (a : List Int) (h : 0 < a.length) (ha : a.length * 4 ≤ 140737488355328) : GivO Try.prog 7 [.lst 1 (li .u32 a)] (.sl 0 1 0 a.length) (.row 1 (li .u32 a)) := by
  refine GivO.of mixed c7 (Nat.le_of_ble_eq_true rfl) ?_
  simp -dsimp -implicitDefEqProofs (disch := first | omega | (simp only [List.length_append, List.length_cons, List.length_nil, List.length_take, List.length_drop]; omega)) only [a7, ↓aPre, aPost, oneW, allOne, retV, retVA, ↓reduceIte, reduceCtorEq, Nat.reduceAdd, Nat.reduceSub, Nat.reduceMul, Nat.reduceLT, Nat.reduceLeDiff, Nat.reduceEqDiff, Nat.reduceDiv, Nat.reduceMod, Nat.reducePow, Int.reduceAdd, Int.reduceSub, Int.reduceMul, Int.reduceLT, Int.reduceLE, Int.reduceEq, Int.reduceNe, Int.reducePow, Int.reduceToNat, Int.reduceNeg]
  refine nil_split (fun h => by omega) ?_
  simp -dsimp -implicitDefEqProofs (disch := first | omega | (simp only [List.length_append, List.length_cons, List.length_nil, List.length_take, List.length_drop]; omega)) only [↓aPre, aPost, oneW, allOne, retV, retVA, ↓reduceIte, reduceCtorEq, Nat.reduceAdd, Nat.reduceSub, Nat.reduceMul, Nat.reduceLT, Nat.reduceLeDiff, Nat.reduceEqDiff, Nat.reduceDiv, Nat.reduceMod, Nat.reducePow, Int.reduceAdd, Int.reduceSub, Int.reduceMul, Int.reduceLT, Int.reduceLE, Int.reduceEq, Int.reduceNe, Int.reducePow, Int.reduceToNat, Int.reduceNeg]
  refine ⟨5, _, _, by decide, rfl, ?_, rfl, rfl, rfl⟩
  simp -dsimp -implicitDefEqProofs (disch := first | omega | (simp only [List.length_append, List.length_cons, List.length_nil, List.length_take, List.length_drop]; omega)) only [Ob.ren, ↓aPre, aPost, oneW, allOne, retV, retVA, ↓reduceIte, reduceCtorEq, Nat.reduceAdd, Nat.reduceSub, Nat.reduceMul, Nat.reduceLT, Nat.reduceLeDiff, Nat.reduceEqDiff, Nat.reduceDiv, Nat.reduceMod, Nat.reducePow, Int.reduceAdd, Int.reduceSub, Int.reduceMul, Int.reduceLT, Int.reduceLE, Int.reduceEq, Int.reduceNe, Int.reducePow, Int.reduceToNat, Int.reduceNeg]
theorem predictShifts_giv (y0 : List Int) (h0 : (y0.length * 4 ≤ 140737488351232 ∧ ∀ z ∈ y0, 0 ≤ z ∧ z ≤ 4294967295)) (y1 : (Int) × (Int)) (h1 : ((-9223372036854775808 ≤ y1.1 ∧ y1.1 ≤ 9223372036854775807) ∧ (-9223372036854775808 ≤ y1.2 ∧ y1.2 ≤ 9223372036854775807))) (y2 : Int) (h2 : (0 ≤ y2 ∧ y2 ≤ 4294967295)) : Giv Try.prog 3 [.lst 1 (li .u32 y0), .agg [.c (.int .i64 y1.1), .c (.int .i64 y1.2)], .c (.int .u32 y2)] (.d (.c (.bool true))) := by
  have hU : In 4294967296 y0 := fun z hz => by have := h0.2 z hz; omega
  refine Giv.of (out := [.c (.bool true)]) mixed c3 (Nat.le_of_ble_eq_true rfl) ?_
  simp -dsimp -implicitDefEqProofs (disch := first | omega | (simp only [List.length_append, List.length_cons, List.length_nil, List.length_take, List.length_drop]; omega)) only [a3, ↓aPre, aPost, oneW, allOne, retV, retVA, ↓reduceIte, reduceCtorEq, Nat.reduceAdd, Nat.reduceSub, Nat.reduceMul, Nat.reduceLT, Nat.reduceLeDiff, Nat.reduceEqDiff, Nat.reduceDiv, Nat.reduceMod, Nat.reducePow, Int.reduceAdd, Int.reduceSub, Int.reduceMul, Int.reduceLT, Int.reduceLE, Int.reduceEq, Int.reduceNe, Int.reducePow, Int.reduceToNat, Int.reduceNeg]
  refine call_giv lives_giv ?_
  by_cases hl : 400 < y0.length
  · simp -dsimp -implicitDefEqProofs (disch := first | omega | (simp only [List.length_append, List.length_cons, List.length_nil, List.length_take, List.length_drop]; omega)) only [↓aPre, aPost, oneW, allOne, retV, retVA, ↓reduceIte, reduceCtorEq, Nat.reduceAdd, Nat.reduceSub, Nat.reduceMul, Nat.reduceLT, Nat.reduceLeDiff, Nat.reduceEqDiff, Nat.reduceDiv, Nat.reduceMod, Nat.reducePow, Int.reduceAdd, Int.reduceSub, Int.reduceMul, Int.reduceLT, Int.reduceLE, Int.reduceEq, Int.reduceNe, Int.reducePow, Int.reduceToNat, Int.reduceNeg]
    refine call_giv lives_giv ?_
    simp -dsimp -implicitDefEqProofs (disch := first | omega | (simp only [List.length_append, List.length_cons, List.length_nil, List.length_take, List.length_drop]; omega)) only [↓aPre, aPost, oneW, allOne, retV, retVA, ↓reduceIte, reduceCtorEq, Nat.reduceAdd, Nat.reduceSub, Nat.reduceMul, Nat.reduceLT, Nat.reduceLeDiff, Nat.reduceEqDiff, Nat.reduceDiv, Nat.reduceMod, Nat.reducePow, Int.reduceAdd, Int.reduceSub, Int.reduceMul, Int.reduceLT, Int.reduceLE, Int.reduceEq, Int.reduceNe, Int.reducePow, Int.reduceToNat, Int.reduceNeg]
    exact post_eq rfl
  obtain ⟨q1, hq1, hq1'⟩ := wrap_u64 y1.1
  obtain ⟨q2, hq2, hq2'⟩ := wrap_u64 y1.2
  obtain ⟨v, hv, hvw⟩ : ∃ v, [D.c (.int .i64 8), D.c (.int .i64 16), D.c (.int .i64 32)].getD (q2 % 3) default = D.c (.int .i64 v) ∧ wid v := by
    obtain h | h | h : q2 % 3 = 0 ∨ q2 % 3 = 1 ∨ q2 % 3 = 2 := by omega
    · rw [h]; exact ⟨8, rfl, .inl rfl⟩
    · rw [h]; exact ⟨16, rfl, .inr (.inl rfl)⟩
    · rw [h]; exact ⟨32, rfl, .inr (.inr rfl)⟩
  have hmk := mkI_pos hvw
  obtain ⟨p, hp⟩ : ∃ p : Nat, p = 1 + q1 % 4 := ⟨_, rfl⟩
  have hp1 : 1 + (q1 : Int) % 4 = p := by omega
  have eq3 : ((q2 : Int) % 3).toNat = q2 % 3 := by omega
  have hv0 : 0 ≤ v ∧ v ≤ 32 := by unfold wid at hvw; omega
  obtain ⟨n, hn⟩ : ∃ n : Nat, n = y0.length / p * p := ⟨_, rfl⟩
  have hn1 : n ≤ y0.length := by rw [hn]; exact Nat.div_mul_le_self _ _
  have hn2 : n % p = 0 := by rw [hn]; exact Nat.mul_mod_left _ _
  have hn3 : (y0.length : Int) / p * p = n := by rw [hn]; simp
  have hn4 : 0 ≤ (y0.length : Int) / p ∧ (y0.length : Int) / p ≤ y0.length := ⟨Int.ediv_nonneg (by omega) (by omega), Int.ediv_le_self _ (by omega)⟩
  obtain ⟨t, ht⟩ : ∃ t, t = y0.take n := ⟨_, rfl⟩
  have htl : t.length = n := by rw [ht, List.length_take]; omega
  have htU : In 4294967296 t := by rw [ht]; exact hU.take n
  obtain ⟨M, hM⟩ : ∃ M, M = mkI v + 1 := ⟨_, rfl⟩
  simp -dsimp -implicitDefEqProofs (disch := first | omega | (simp only [List.length_append, List.length_cons, List.length_nil, List.length_take, List.length_drop]; omega)) only [hq1, hq2, eq3, hv, hp1, shE hvw, hn3, ← ht, ↓aPre, aPost, oneW, allOne, retV, retVA, ↓reduceIte, reduceCtorEq, Nat.reduceAdd, Nat.reduceSub, Nat.reduceMul, Nat.reduceLT, Nat.reduceLeDiff, Nat.reduceEqDiff, Nat.reduceDiv, Nat.reduceMod, Nat.reducePow, Int.reduceAdd, Int.reduceSub, Int.reduceMul, Int.reduceLT, Int.reduceLE, Int.reduceEq, Int.reduceNe, Int.reducePow, Int.reduceToNat, Int.reduceNeg]
  obtain ⟨ta, hta⟩ : ∃ ta : Nat → Int, ta = fun j => t.getD j 0 % M := ⟨_, rfl⟩
  obtain ⟨tb, htb⟩ : ∃ tb : Nat → Int, tb = sb t M y2 := ⟨_, rfl⟩
  have hin1 : ∀ j, 0 ≤ ta j ∧ ta j < M := fun j => by rw [hta]; exact ⟨Int.emod_nonneg _ (by omega), Int.emod_lt_of_pos _ (by omega)⟩
  have hin2 : ∀ j, 0 ≤ tb j ∧ tb j < M := fun j => by rw [htb]; exact ⟨Int.emod_nonneg _ (by omega), Int.emod_lt_of_pos _ (by omega)⟩
  have hla : (tab ta n).length = n := tab_len ..
  have hlb : (tab tb n).length = n := tab_len ..
  have hia : In 4294967296 (tab ta n) := In.tab fun i _ => by have := hin1 i; omega
  have hib : In 4294967296 (tab tb n) := In.tab fun i _ => by have := hin2 i; omega
  have hok : okA n p v := ⟨hvw, by omega, by rw [← Int.natCast_emod, hn2]; rfl⟩
  have hea : errP (tab ta n) p v = 0 := by
    rw [errP, if_pos (by rw [hla]; exact hok), if_pos fun j hj => by rw [tab_get _ (by omega)]; have := hin1 j; omega]
  have heb : errP (tab tb n) p v = 0 := by
    rw [errP, if_pos (by rw [hlb]; exact hok), if_pos fun j hj => by rw [tab_get _ (by omega)]; have := hin2 j; omega]
  have hx := diffL_len (tab ta n) p v
  have hy := diffL_len (tab tb n) p v
  have hpb : -9223372036854775808 ≤ (p : Int) ∧ (p : Int) ≤ 9223372036854775807 := by omega
  have gx : ∀ i, i < n → (diffL (tab ta n) p v).getD i 0 = difF (tab ta n) p M i := fun i hi => by rw [diffL, tab_get _ (by omega), hM, Int.toNat_natCast]
  have gy : ∀ i, i < n → (diffL (tab tb n) p v).getD i 0 = difF (tab tb n) p M i := fun i hi => by rw [diffL, tab_get _ (by omega), hM, Int.toNat_natCast]
  have low : ∀ i, i < n → i < p → (diffL (tab tb n) p v).getD i 0 = bits .and .u32 (IntKind.u32.wrap ((diffL (tab ta n) p v).getD i 0 + y2)) (mkI v) := fun i hi hip => by
    rw [gx i hi, gy i hi, and_mod hvw, ← hM, difF, difF, if_pos hip, if_pos hip, tab_get _ hi, tab_get _ hi, hta, htb]; rfl
  have high : ∀ i, i < n → ¬ i < p → (diffL (tab tb n) p v).getD i 0 = (diffL (tab ta n) p v).getD i 0 := fun i hi hip => by
    rw [gx i hi, gy i hi, difF, difF, if_neg hip, if_neg hip, tab_get _ hi, tab_get _ hi, tab_get _ (by omega), tab_get _ (by omega), hta, htb]
    unfold sb
    rw [hM, shift_dif hvw]
  by_cases hn0 : n = 0
  · subst hn0
    refine call_giv (clone_giv t (by omega)) ?_
    have et : t = [] := List.eq_nil_of_length_eq_zero htl
    simp -dsimp -implicitDefEqProofs (disch := first | omega | (simp only [List.length_append, List.length_cons, List.length_nil, List.length_take, List.length_drop]; omega)) only [↓aPre, aPost, oneW, allOne, retV, retVA, ↓reduceIte, reduceCtorEq, Nat.reduceAdd, Nat.reduceSub, Nat.reduceMul, Nat.reduceLT, Nat.reduceLeDiff, Nat.reduceEqDiff, Nat.reduceDiv, Nat.reduceMod, Nat.reducePow, Int.reduceAdd, Int.reduceSub, Int.reduceMul, Int.reduceLT, Int.reduceLE, Int.reduceEq, Int.reduceNe, Int.reducePow, Int.reduceToNat, Int.reduceNeg]
    refine loop_nil 13 100 1 (fun s => s.tm 58 = .d (.c (.int .i64 0)) ∧ s.tm 57 = .d (.c (.int .i64 0)) ∧ s.tm 2 = .d (.c (.int .u32 y2)) ∧ s.tm 11 = .d (.c (.int .u32 (mkI v))) ∧ s.tm 10 = .d (.c (.int .i64 p)) ∧ s.tm 9 = .d (.c (.int .i64 v)) ∧ s.tm 12 = .d (.lst 1 (li .u32 t)) ∧ s.tm 13 = .sl 100 1 0 0 ∧ s.hp 100 = some (.row 1 (li .u32 (tab tb 0)))) (fun s => 0) ?_ (by decide) ?_ ?_
    · simp -dsimp -implicitDefEqProofs (disch := first | omega | (simp only [List.length_append, List.length_cons, List.length_nil, List.length_take, List.length_drop]; omega)) only [↓aPre, aPost, oneW, allOne, retV, retVA, ↓reduceIte, reduceCtorEq, Nat.reduceAdd, Nat.reduceSub, Nat.reduceMul, Nat.reduceLT, Nat.reduceLeDiff, Nat.reduceEqDiff, Nat.reduceDiv, Nat.reduceMod, Nat.reducePow, Int.reduceAdd, Int.reduceSub, Int.reduceMul, Int.reduceLT, Int.reduceLE, Int.reduceEq, Int.reduceNe, Int.reducePow, Int.reduceToNat, Int.reduceNeg]
    · simp -dsimp -implicitDefEqProofs (disch := first | omega | (simp only [List.length_append, List.length_cons, List.length_nil, List.length_take, List.length_drop]; omega)) only [tab, htl, Int.natCast_zero, ↓aPre, aPost, oneW, allOne, retV, retVA, ↓reduceIte, reduceCtorEq, Nat.reduceAdd, Nat.reduceSub, Nat.reduceMul, Nat.reduceLT, Nat.reduceLeDiff, Nat.reduceEqDiff, Nat.reduceDiv, Nat.reduceMod, Nat.reducePow, Int.reduceAdd, Int.reduceSub, Int.reduceMul, Int.reduceLT, Int.reduceLE, Int.reduceEq, Int.reduceNe, Int.reducePow, Int.reduceToNat, Int.reduceNeg]
    rintro s hs
    have ea : t = tab ta 0 := et
    rw [ea] at hs
    simp -dsimp -implicitDefEqProofs (disch := first | omega | (simp only [List.length_append, List.length_cons, List.length_nil, List.length_take, List.length_drop]; omega)) only [hs, hla, hlb, ↓aPre, aPost, oneW, allOne, retV, retVA, ↓reduceIte, reduceCtorEq, Nat.reduceAdd, Nat.reduceSub, Nat.reduceMul, Nat.reduceLT, Nat.reduceLeDiff, Nat.reduceEqDiff, Nat.reduceDiv, Nat.reduceMod, Nat.reducePow, Int.reduceAdd, Int.reduceSub, Int.reduceMul, Int.reduceLT, Int.reduceLE, Int.reduceEq, Int.reduceNe, Int.reducePow, Int.reduceToNat, Int.reduceNeg]
    refine call_giv (diff_giv (tab ta 0) p v (by omega) hia hpb) ?_
    simp -dsimp -implicitDefEqProofs (disch := first | omega | (simp only [List.length_append, List.length_cons, List.length_nil, List.length_take, List.length_drop]; omega)) only [hs, hla, hlb, diffD_ok hea, ↓aPre, aPost, oneW, allOne, retV, retVA, ↓reduceIte, reduceCtorEq, Nat.reduceAdd, Nat.reduceSub, Nat.reduceMul, Nat.reduceLT, Nat.reduceLeDiff, Nat.reduceEqDiff, Nat.reduceDiv, Nat.reduceMod, Nat.reducePow, Int.reduceAdd, Int.reduceSub, Int.reduceMul, Int.reduceLT, Int.reduceLE, Int.reduceEq, Int.reduceNe, Int.reducePow, Int.reduceToNat, Int.reduceNeg]
    refine call_giv (diff_giv (tab tb 0) p v (by omega) hib hpb) ?_
    simp -dsimp -implicitDefEqProofs (disch := first | omega | (simp only [List.length_append, List.length_cons, List.length_nil, List.length_take, List.length_drop]; omega)) only [hs, hla, hlb, diffD_ok hea, diffD_ok heb, hx, hy, ↓aPre, aPost, oneW, allOne, retV, retVA, ↓reduceIte, reduceCtorEq, Nat.reduceAdd, Nat.reduceSub, Nat.reduceMul, Nat.reduceLT, Nat.reduceLeDiff, Nat.reduceEqDiff, Nat.reduceDiv, Nat.reduceMod, Nat.reducePow, Int.reduceAdd, Int.reduceSub, Int.reduceMul, Int.reduceLT, Int.reduceLE, Int.reduceEq, Int.reduceNe, Int.reducePow, Int.reduceToNat, Int.reduceNeg]
    refine loop_of (fun s => s.tm 116 = .d (.c (.int .i64 0)) ∧ s.tm 115 = .d (.c (.int .i64 0))) (fun s => 0) ?_ ?_
    · simp -dsimp -implicitDefEqProofs (disch := first | omega | (simp only [List.length_append, List.length_cons, List.length_nil, List.length_take, List.length_drop]; omega)) only [hs, hla, hlb, diffD_ok hea, diffD_ok heb, hx, hy, Int.natCast_zero, ↓aPre, aPost, oneW, allOne, retV, retVA, ↓reduceIte, reduceCtorEq, Nat.reduceAdd, Nat.reduceSub, Nat.reduceMul, Nat.reduceLT, Nat.reduceLeDiff, Nat.reduceEqDiff, Nat.reduceDiv, Nat.reduceMod, Nat.reducePow, Int.reduceAdd, Int.reduceSub, Int.reduceMul, Int.reduceLT, Int.reduceLE, Int.reduceEq, Int.reduceNe, Int.reducePow, Int.reduceToNat, Int.reduceNeg]
    rintro s2 hs2
    simp -dsimp -implicitDefEqProofs (disch := first | omega | (simp only [List.length_append, List.length_cons, List.length_nil, List.length_take, List.length_drop]; omega)) only [hs2, ↓aPre, aPost, oneW, allOne, retV, retVA, ↓reduceIte, reduceCtorEq, Nat.reduceAdd, Nat.reduceSub, Nat.reduceMul, Nat.reduceLT, Nat.reduceLeDiff, Nat.reduceEqDiff, Nat.reduceDiv, Nat.reduceMod, Nat.reducePow, Int.reduceAdd, Int.reduceSub, Int.reduceMul, Int.reduceLT, Int.reduceLE, Int.reduceEq, Int.reduceNe, Int.reducePow, Int.reduceToNat, Int.reduceNeg]
    exact post_eq rfl
  · have hc := clone_own t (by omega) (by omega)
    rw [htl] at hc
    refine call_own hc ?_
    simp -dsimp -implicitDefEqProofs (disch := first | omega | (simp only [List.length_append, List.length_cons, List.length_nil, List.length_take, List.length_drop]; omega)) only [AV.ren, Ob.ren, ↓aPre, aPost, oneW, allOne, retV, retVA, ↓reduceIte, reduceCtorEq, Nat.reduceAdd, Nat.reduceSub, Nat.reduceMul, Nat.reduceLT, Nat.reduceLeDiff, Nat.reduceEqDiff, Nat.reduceDiv, Nat.reduceMod, Nat.reducePow, Int.reduceAdd, Int.reduceSub, Int.reduceMul, Int.reduceLT, Int.reduceLE, Int.reduceEq, Int.reduceNe, Int.reducePow, Int.reduceToNat, Int.reduceNeg]
    refine loop_nil 13 100 1 (fun s => ∃ (k : Nat), k ≤ n ∧ s.tm 58 = .d (.c (.int .i64 k)) ∧ s.tm 57 = .d (.c (.int .i64 n)) ∧ s.tm 2 = .d (.c (.int .u32 y2)) ∧ s.tm 11 = .d (.c (.int .u32 (mkI v))) ∧ s.tm 10 = .d (.c (.int .i64 p)) ∧ s.tm 9 = .d (.c (.int .i64 v)) ∧ s.tm 12 = .sl 55 1 0 n ∧ s.hp 55 = some (.row 1 (li .u32 (tab (sa t M k) n))) ∧ s.tm 13 = .sl 100 1 0 k ∧ s.hp 100 = some (.row 1 (li .u32 (tab tb k)))) (fun s => (n - (avN (s.tm 58)).toNat)) ?_ (by decide) ?_ ?_
    · simp -dsimp -implicitDefEqProofs (disch := first | omega | (simp only [List.length_append, List.length_cons, List.length_nil, List.length_take, List.length_drop]; omega)) only [↓aPre, aPost, oneW, allOne, retV, retVA, ↓reduceIte, reduceCtorEq, Nat.reduceAdd, Nat.reduceSub, Nat.reduceMul, Nat.reduceLT, Nat.reduceLeDiff, Nat.reduceEqDiff, Nat.reduceDiv, Nat.reduceMod, Nat.reducePow, Int.reduceAdd, Int.reduceSub, Int.reduceMul, Int.reduceLT, Int.reduceLE, Int.reduceEq, Int.reduceNe, Int.reducePow, Int.reduceToNat, Int.reduceNeg]
    · refine ⟨0, Nat.zero_le _, ?_⟩
      have e0 : tab (sa t M 0) n = t := (list_tab htl fun i _ => by rw [sa, if_neg (by omega)]).symm
      simp -dsimp -implicitDefEqProofs (disch := first | omega | (simp only [List.length_append, List.length_cons, List.length_nil, List.length_take, List.length_drop]; omega)) only [e0, tab, Int.natCast_zero, AV.ren, Ob.ren, ↓aPre, aPost, oneW, allOne, retV, retVA, ↓reduceIte, reduceCtorEq, Nat.reduceAdd, Nat.reduceSub, Nat.reduceMul, Nat.reduceLT, Nat.reduceLeDiff, Nat.reduceEqDiff, Nat.reduceDiv, Nat.reduceMod, Nat.reducePow, Int.reduceAdd, Int.reduceSub, Int.reduceMul, Int.reduceLT, Int.reduceLE, Int.reduceEq, Int.reduceNe, Int.reducePow, Int.reduceToNat, Int.reduceNeg]
    rintro s ⟨k, hk, hs⟩
    have el := tab_len (sa t M k) n
    have el2 := tab_len tb k
    by_cases hlt : k < n
    · have hz := htU.get (by decide) k
      have g1 : (tab (sa t M k) n).getD k 0 = t.getD k 0 := by rw [tab_get _ hlt, sa, if_neg (by omega)]
      have ga : bits .and .u32 (t.getD k 0) (mkI v) = ta k := by rw [and_in hvw hz, hta, hM]
      have gb : bits .and .u32 (IntKind.u32.wrap (ta k + y2)) (mkI v) = tb k := by rw [and_mod hvw, hta, htb, sb, hM]
      have es : (tab (sa t M k) n).set k (ta k) = tab (sa t M (k + 1)) n := by
        rw [tab_set _ hlt]
        refine tab_congr _ fun j hj => ?_
        unfold sa
        by_cases c : j = k
        · subst c; rw [if_pos rfl, if_pos (by omega), hta]
        · rw [if_neg c]
          by_cases c2 : j < k
          · rw [if_pos c2, if_pos (by omega)]
          · rw [if_neg c2, if_neg (by omega)]
      have g2 : (tab (sa t M (k + 1)) n).getD k 0 = ta k := by rw [tab_get _ hlt, sa, if_pos (by omega), hta]
      have el3 := tab_len (sa t M (k + 1)) n
      simp -dsimp -implicitDefEqProofs (disch := first | omega | (simp only [List.length_append, List.length_cons, List.length_nil, List.length_take, List.length_drop]; omega)) only [hs, el, el2, g1, ga, es, g2, gb, el3, ↓aPre, aPost, oneW, allOne, retV, retVA, ↓reduceIte, reduceCtorEq, Nat.reduceAdd, Nat.reduceSub, Nat.reduceMul, Nat.reduceLT, Nat.reduceLeDiff, Nat.reduceEqDiff, Nat.reduceDiv, Nat.reduceMod, Nat.reducePow, Int.reduceAdd, Int.reduceSub, Int.reduceMul, Int.reduceLT, Int.reduceLE, Int.reduceEq, Int.reduceNe, Int.reducePow, Int.reduceToNat, Int.reduceNeg]
      refine round_of ⟨k + 1, by omega, ?_⟩ ?_
      · simp -dsimp -implicitDefEqProofs (disch := first | omega | (simp only [List.length_append, List.length_cons, List.length_nil, List.length_take, List.length_drop]; omega)) only [hs, el, el2, g1, ga, es, g2, gb, el3, tab, ↓aPre, aPost, oneW, allOne, retV, retVA, ↓reduceIte, reduceCtorEq, Nat.reduceAdd, Nat.reduceSub, Nat.reduceMul, Nat.reduceLT, Nat.reduceLeDiff, Nat.reduceEqDiff, Nat.reduceDiv, Nat.reduceMod, Nat.reducePow, Int.reduceAdd, Int.reduceSub, Int.reduceMul, Int.reduceLT, Int.reduceLE, Int.reduceEq, Int.reduceNe, Int.reducePow, Int.reduceToNat, Int.reduceNeg]
      · simp -dsimp -implicitDefEqProofs (disch := first | omega | (simp only [List.length_append, List.length_cons, List.length_nil, List.length_take, List.length_drop]; omega)) only [hs, ↓aPre, aPost, oneW, allOne, retV, retVA, ↓reduceIte, reduceCtorEq, Nat.reduceAdd, Nat.reduceSub, Nat.reduceMul, Nat.reduceLT, Nat.reduceLeDiff, Nat.reduceEqDiff, Nat.reduceDiv, Nat.reduceMod, Nat.reducePow, Int.reduceAdd, Int.reduceSub, Int.reduceMul, Int.reduceLT, Int.reduceLE, Int.reduceEq, Int.reduceNe, Int.reducePow, Int.reduceToNat, Int.reduceNeg]
        omega
    · obtain rfl : k = n := by omega
      have ea : tab (sa t M k) k = tab ta k := tab_congr _ fun j hj => by rw [sa, if_pos hj, hta]
      rw [ea] at hs
      simp -dsimp -implicitDefEqProofs (disch := first | omega | (simp only [List.length_append, List.length_cons, List.length_nil, List.length_take, List.length_drop]; omega)) only [hs, hla, hlb, ↓aPre, aPost, oneW, allOne, retV, retVA, ↓reduceIte, reduceCtorEq, Nat.reduceAdd, Nat.reduceSub, Nat.reduceMul, Nat.reduceLT, Nat.reduceLeDiff, Nat.reduceEqDiff, Nat.reduceDiv, Nat.reduceMod, Nat.reducePow, Int.reduceAdd, Int.reduceSub, Int.reduceMul, Int.reduceLT, Int.reduceLE, Int.reduceEq, Int.reduceNe, Int.reducePow, Int.reduceToNat, Int.reduceNeg]
      refine call_giv (diff_giv (tab ta k) p v (by omega) hia hpb) ?_
      simp -dsimp -implicitDefEqProofs (disch := first | omega | (simp only [List.length_append, List.length_cons, List.length_nil, List.length_take, List.length_drop]; omega)) only [hs, hla, hlb, diffD_ok hea, ↓aPre, aPost, oneW, allOne, retV, retVA, ↓reduceIte, reduceCtorEq, Nat.reduceAdd, Nat.reduceSub, Nat.reduceMul, Nat.reduceLT, Nat.reduceLeDiff, Nat.reduceEqDiff, Nat.reduceDiv, Nat.reduceMod, Nat.reducePow, Int.reduceAdd, Int.reduceSub, Int.reduceMul, Int.reduceLT, Int.reduceLE, Int.reduceEq, Int.reduceNe, Int.reducePow, Int.reduceToNat, Int.reduceNeg]
      refine call_giv (diff_giv (tab tb k) p v (by omega) hib hpb) ?_
      simp -dsimp -implicitDefEqProofs (disch := first | omega | (simp only [List.length_append, List.length_cons, List.length_nil, List.length_take, List.length_drop]; omega)) only [hs, hla, hlb, diffD_ok hea, diffD_ok heb, hx, hy, ↓aPre, aPost, oneW, allOne, retV, retVA, ↓reduceIte, reduceCtorEq, Nat.reduceAdd, Nat.reduceSub, Nat.reduceMul, Nat.reduceLT, Nat.reduceLeDiff, Nat.reduceEqDiff, Nat.reduceDiv, Nat.reduceMod, Nat.reducePow, Int.reduceAdd, Int.reduceSub, Int.reduceMul, Int.reduceLT, Int.reduceLE, Int.reduceEq, Int.reduceNe, Int.reducePow, Int.reduceToNat, Int.reduceNeg]
      refine loop_of (fun s => ∃ (i : Nat), i ≤ k ∧ s.tm 116 = .d (.c (.int .i64 i)) ∧ s.tm 115 = .d (.c (.int .i64 k)) ∧ s.tm 2 = .d (.c (.int .u32 y2)) ∧ s.tm 11 = .d (.c (.int .u32 (mkI v))) ∧ s.tm 10 = .d (.c (.int .i64 p)) ∧ s.tm 15 = .d (.lst 1 (li .u32 (diffL (tab ta k) p v))) ∧ s.tm 17 = .d (.lst 1 (li .u32 (diffL (tab tb k) p v)))) (fun s => (k - (avN (s.tm 116)).toNat)) ?_ ?_
      · refine ⟨0, Nat.zero_le _, ?_⟩
        simp -dsimp -implicitDefEqProofs (disch := first | omega | (simp only [List.length_append, List.length_cons, List.length_nil, List.length_take, List.length_drop]; omega)) only [hs, hla, hlb, diffD_ok hea, diffD_ok heb, hx, hy, Int.natCast_zero, ↓aPre, aPost, oneW, allOne, retV, retVA, ↓reduceIte, reduceCtorEq, Nat.reduceAdd, Nat.reduceSub, Nat.reduceMul, Nat.reduceLT, Nat.reduceLeDiff, Nat.reduceEqDiff, Nat.reduceDiv, Nat.reduceMod, Nat.reducePow, Int.reduceAdd, Int.reduceSub, Int.reduceMul, Int.reduceLT, Int.reduceLE, Int.reduceEq, Int.reduceNe, Int.reducePow, Int.reduceToNat, Int.reduceNeg]
      rintro s2 ⟨i, hi, hs2⟩
      by_cases hik : i < k
      · have hXb : 0 ≤ (diffL (tab ta k) p v).getD i 0 ∧ (diffL (tab ta k) p v).getD i 0 < M := by rw [gx i hik]; exact difF_in (n := k) (by omega) (fun j hj => by rw [tab_get _ hj]; exact hin1 j) i hik
        have hl1 : (diffL (tab ta k) p v).length = k := hx.trans hla
        have hl2 : (diffL (tab tb k) p v).length = k := hy.trans hlb
        have hlow := low i hik
        have hhigh := high i hik
        generalize (diffL (tab ta k) p v) = xs at *
        generalize (diffL (tab tb k) p v) = ys at *
        clear low high gx gy hin1 hin2 hia hib hea heb hok hx hy
        by_cases c : i < p
        · have hlow := (hlow c).symm
          simp -dsimp -implicitDefEqProofs (disch := first | omega | (simp only [List.length_append, List.length_cons, List.length_nil, List.length_take, List.length_drop]; omega)) only [hs2, hl1, hl2, hlow, ↓aPre, aPost, oneW, allOne, retV, retVA, ↓reduceIte, reduceCtorEq, Nat.reduceAdd, Nat.reduceSub, Nat.reduceMul, Nat.reduceLT, Nat.reduceLeDiff, Nat.reduceEqDiff, Nat.reduceDiv, Nat.reduceMod, Nat.reducePow, Int.reduceAdd, Int.reduceSub, Int.reduceMul, Int.reduceLT, Int.reduceLE, Int.reduceEq, Int.reduceNe, Int.reducePow, Int.reduceToNat, Int.reduceNeg]
          refine round_of ⟨i + 1, by omega, ?_⟩ ?_
          · simp -dsimp -implicitDefEqProofs (disch := first | omega | (simp only [List.length_append, List.length_cons, List.length_nil, List.length_take, List.length_drop]; omega)) only [hs2, ↓aPre, aPost, oneW, allOne, retV, retVA, ↓reduceIte, reduceCtorEq, Nat.reduceAdd, Nat.reduceSub, Nat.reduceMul, Nat.reduceLT, Nat.reduceLeDiff, Nat.reduceEqDiff, Nat.reduceDiv, Nat.reduceMod, Nat.reducePow, Int.reduceAdd, Int.reduceSub, Int.reduceMul, Int.reduceLT, Int.reduceLE, Int.reduceEq, Int.reduceNe, Int.reducePow, Int.reduceToNat, Int.reduceNeg]
          · simp -dsimp -implicitDefEqProofs (disch := first | omega | (simp only [List.length_append, List.length_cons, List.length_nil, List.length_take, List.length_drop]; omega)) only [hs2, ↓aPre, aPost, oneW, allOne, retV, retVA, ↓reduceIte, reduceCtorEq, Nat.reduceAdd, Nat.reduceSub, Nat.reduceMul, Nat.reduceLT, Nat.reduceLeDiff, Nat.reduceEqDiff, Nat.reduceDiv, Nat.reduceMod, Nat.reducePow, Int.reduceAdd, Int.reduceSub, Int.reduceMul, Int.reduceLT, Int.reduceLE, Int.reduceEq, Int.reduceNe, Int.reducePow, Int.reduceToNat, Int.reduceNeg]
            omega
        · have hhigh := hhigh c
          simp -dsimp -implicitDefEqProofs (disch := first | omega | (simp only [List.length_append, List.length_cons, List.length_nil, List.length_take, List.length_drop]; omega)) only [hs2, hl1, hl2, hhigh, ↓aPre, aPost, oneW, allOne, retV, retVA, ↓reduceIte, reduceCtorEq, Nat.reduceAdd, Nat.reduceSub, Nat.reduceMul, Nat.reduceLT, Nat.reduceLeDiff, Nat.reduceEqDiff, Nat.reduceDiv, Nat.reduceMod, Nat.reducePow, Int.reduceAdd, Int.reduceSub, Int.reduceMul, Int.reduceLT, Int.reduceLE, Int.reduceEq, Int.reduceNe, Int.reducePow, Int.reduceToNat, Int.reduceNeg]
          refine round_of ⟨i + 1, by omega, ?_⟩ ?_
          · simp -dsimp -implicitDefEqProofs (disch := first | omega | (simp only [List.length_append, List.length_cons, List.length_nil, List.length_take, List.length_drop]; omega)) only [hs2, ↓aPre, aPost, oneW, allOne, retV, retVA, ↓reduceIte, reduceCtorEq, Nat.reduceAdd, Nat.reduceSub, Nat.reduceMul, Nat.reduceLT, Nat.reduceLeDiff, Nat.reduceEqDiff, Nat.reduceDiv, Nat.reduceMod, Nat.reducePow, Int.reduceAdd, Int.reduceSub, Int.reduceMul, Int.reduceLT, Int.reduceLE, Int.reduceEq, Int.reduceNe, Int.reducePow, Int.reduceToNat, Int.reduceNeg]
          · simp -dsimp -implicitDefEqProofs (disch := first | omega | (simp only [List.length_append, List.length_cons, List.length_nil, List.length_take, List.length_drop]; omega)) only [hs2, ↓aPre, aPost, oneW, allOne, retV, retVA, ↓reduceIte, reduceCtorEq, Nat.reduceAdd, Nat.reduceSub, Nat.reduceMul, Nat.reduceLT, Nat.reduceLeDiff, Nat.reduceEqDiff, Nat.reduceDiv, Nat.reduceMod, Nat.reducePow, Int.reduceAdd, Int.reduceSub, Int.reduceMul, Int.reduceLT, Int.reduceLE, Int.reduceEq, Int.reduceNe, Int.reducePow, Int.reduceToNat, Int.reduceNeg]
            omega
      · simp -dsimp -implicitDefEqProofs (disch := first | omega | (simp only [List.length_append, List.length_cons, List.length_nil, List.length_take, List.length_drop]; omega)) only [hs2, ↓aPre, aPost, oneW, allOne, retV, retVA, ↓reduceIte, reduceCtorEq, Nat.reduceAdd, Nat.reduceSub, Nat.reduceMul, Nat.reduceLT, Nat.reduceLeDiff, Nat.reduceEqDiff, Nat.reduceDiv, Nat.reduceMod, Nat.reducePow, Int.reduceAdd, Int.reduceSub, Int.reduceMul, Int.reduceLT, Int.reduceLE, Int.reduceEq, Int.reduceNe, Int.reducePow, Int.reduceToNat, Int.reduceNeg]
        exact post_eq rfl
end Go.Proofs.Ytoeajefjpaiodaa

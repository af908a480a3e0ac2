/- SamplesJoins: the law's function gives true of all data. No condition but that whole numbers are of their kinds. -/
import Derived.Test.YtlhmhopgbkmafaaLPacks
set_option linter.unusedSimpArgs false
set_option linter.unusedVariables false
set_option maxRecDepth 8000
set_option maxHeartbeats 4000000
namespace Go.Proofs.Ytlhmhopgbkmafaa
open Go.Eng Go.RowKit
theorem clone_o (l : List Int) (hl : l.length ≤ 100000000) : GivO Try.prog 10 [.lst 1 (li .u32 l)] (.sl 0 1 0 l.length) (.row 1 (li .u32 l)) := by
  refine GivO.of mixed c10 (Nat.le_of_ble_eq_true rfl) ?_
  simp -dsimp -implicitDefEqProofs (disch := first | omega | (simp only [List.length_append, List.length_cons, List.length_nil, List.length_take, List.length_drop]; omega)) only [a10, ↓aPre, aPost, oneW, allOne, retV, retVA, ↓reduceIte, reduceCtorEq, Nat.reduceAdd, Nat.reduceSub, Nat.reduceMul, Nat.reduceLT, Nat.reduceLeDiff, Nat.reduceEqDiff, Nat.reduceDiv, Nat.reduceMod, Nat.reducePow, Int.reduceAdd, Int.reduceSub, Int.reduceMul, Int.reduceLT, Int.reduceLE, Int.reduceEq, Int.reduceNe, Int.reducePow, Int.reduceToNat, Int.reduceNeg]
  refine nil_split (fun h0 => ?_) ?_
  · simp -dsimp -implicitDefEqProofs (disch := first | omega | (simp only [List.length_append, List.length_cons, List.length_nil, List.length_take, List.length_drop]; omega)) only [↓aPre, aPost, oneW, allOne, retV, retVA, ↓reduceIte, reduceCtorEq, Nat.reduceAdd, Nat.reduceSub, Nat.reduceMul, Nat.reduceLT, Nat.reduceLeDiff, Nat.reduceEqDiff, Nat.reduceDiv, Nat.reduceMod, Nat.reducePow, Int.reduceAdd, Int.reduceSub, Int.reduceMul, Int.reduceLT, Int.reduceLE, Int.reduceEq, Int.reduceNe, Int.reducePow, Int.reduceToNat, Int.reduceNeg]
    have hn : l = [] := List.eq_nil_of_length_eq_zero h0
    rw [hn]
    exact own_nil 1 (by decide) rfl ⟨rfl, rfl⟩
  · simp -dsimp -implicitDefEqProofs (disch := first | omega | (simp only [List.length_append, List.length_cons, List.length_nil, List.length_take, List.length_drop]; omega)) only [↓aPre, aPost, oneW, allOne, retV, retVA, ↓reduceIte, reduceCtorEq, Nat.reduceAdd, Nat.reduceSub, Nat.reduceMul, Nat.reduceLT, Nat.reduceLeDiff, Nat.reduceEqDiff, Nat.reduceDiv, Nat.reduceMod, Nat.reducePow, Int.reduceAdd, Int.reduceSub, Int.reduceMul, Int.reduceLT, Int.reduceLE, Int.reduceEq, Int.reduceNe, Int.reducePow, Int.reduceToNat, Int.reduceNeg]
    exact own_of 5 _ _ (by decide) rfl (by simp -dsimp -implicitDefEqProofs (disch := first | omega | (simp only [List.length_append, List.length_cons, List.length_nil, List.length_take, List.length_drop]; omega)) only [↓aPre, aPost, oneW, allOne, retV, retVA, ↓reduceIte, reduceCtorEq, Nat.reduceAdd, Nat.reduceSub, Nat.reduceMul, Nat.reduceLT, Nat.reduceLeDiff, Nat.reduceEqDiff, Nat.reduceDiv, Nat.reduceMod, Nat.reducePow, Int.reduceAdd, Int.reduceSub, Int.reduceMul, Int.reduceLT, Int.reduceLE, Int.reduceEq, Int.reduceNe, Int.reducePow, Int.reduceToNat, Int.reduceNeg]) rfl ⟨rfl, rfl⟩
theorem pk_congr {f g : Nat → Int} (n : Nat) (h : ∀ i, i < n → f i = g i) : pk f n = pk g n := by
  refine tab_congr _ fun i _ => hn_congr _ fun j _ => ?_
  unfold cut
  by_cases c : 8 * i + j < n
  · rw [if_pos c, if_pos c, h _ c]
  · rw [if_neg c, if_neg c]
theorem pk_app (f : Nat → Int) {n : Nat} (m : Nat) (h : n % 8 = 0) : pk f (n + m) = pk f n ++ pk (fun i => f (n + i)) m := by
  rw [pk, pk, pk, tab_app, show (n + m + 7) / 8 = (n + 7) / 8 + (m + 7) / 8 by omega]
  refine tab_congr _ fun i _ => ?_
  by_cases c : i < (n + 7) / 8
  · rw [if_pos c]
    refine hn_congr _ fun j _ => ?_
    unfold cut
    rw [if_pos (by omega), if_pos (by omega)]
  · rw [if_neg c]
    refine hn_congr _ fun j _ => ?_
    unfold cut
    have e : n + (8 * (i - (n + 7) / 8) + j) = 8 * i + j := by omega
    by_cases d : 8 * i + j < n + m
    · rw [if_pos d, if_pos (by omega)]
      show f (8 * i + j) = f (n + _)
      rw [e]
    · rw [if_neg d, if_neg (by omega)]
theorem F_left (a b : List Int) (w : Nat) {k : Nat} (h : k < a.length * w) : F (a ++ b) w k = F a w k := by
  have h2 : k / w < a.length := Nat.div_lt_of_lt_mul (by rw [Nat.mul_comm]; exact h)
  rw [F, F, getD_append, if_pos h2]
theorem F_right (a b : List Int) {w : Nat} (hw : 0 < w) (k : Nat) : F (a ++ b) w (a.length * w + k) = F b w k := by
  rw [F, F, Nat.mul_comm a.length w, Nat.mul_add_div hw, Nat.mul_add_mod, getD_append, if_neg (Nat.not_lt.2 (Nat.le_add_right _ _)), Nat.add_sub_cancel_left]
theorem cat_left (a b : List Int) (n : Nat) (big : Bool) : ∀ i, i ≤ a.length → cat (a ++ b) n big i = cat a n big i
  | 0, _ => rfl
  | i + 1, h => by rw [cat, cat, cat_left a b n big i (by omega), getD_append, if_pos (by omega)]
theorem cat_app (a b : List Int) (n : Nat) (big : Bool) : ∀ i, cat (a ++ b) n big (a.length + i) = cat a n big a.length ++ cat b n big i
  | 0 => by rw [Nat.add_zero, cat_left a b n big _ (Nat.le_refl _), cat, List.append_nil]
  | i + 1 => by rw [← Nat.add_assoc, cat, cat, cat_app a b n big i, getD_append, if_neg (by omega), Nat.add_sub_cancel_left, List.append_assoc]
theorem pkB_app (a b : List Int) {w : Nat} (hw : 0 < w) (big : Bool) (h8 : a.length % 8 = 0) : pkB (a ++ b) w big = pkB a w big ++ pkB b w big := by
  unfold pkB
  by_cases c : wh w
  · rw [if_pos c, if_pos c, if_pos c, List.length_append, cat_app]
  · rw [if_neg c, if_neg c, if_neg c, List.length_append, Nat.add_mul, pk_app _ _ (by rw [Nat.mul_mod, h8, Nat.zero_mul, Nat.zero_mod])]
    rw [pk_congr _ fun i hi => F_left a b w hi, pk_congr _ fun i hi => F_right a b hw i]
theorem fit_app (a b : List Int) (w : Nat) : Fit (a ++ b) w (a.length + b.length) ↔ Fit a w a.length ∧ Fit b w b.length := by
  constructor
  · intro h
    refine ⟨fun i hi => ?_, fun i hi => ?_⟩
    · have := h i (by omega)
      rwa [getD_append, if_pos hi] at this
    · have := h (a.length + i) (by omega)
      rwa [getD_append, if_neg (by omega), Nat.add_sub_cancel_left] at this
  · intro h i hi
    rw [getD_append]
    by_cases c : i < a.length
    · rw [if_pos c]; exact h.1 i c
    · rw [if_neg c]; exact h.2 _ (by omega)
/-- packed, or not -/
theorem pack_two (l : List Int) (w : Nat) (big : Bool) (h : Smp l w) :
    (Fit l w l.length ∧ Giv Try.prog 8 [.lst 1 (li .u32 l), .c (.int .i64 w), .c (.bool big)] (retV [.lst 1 (li .u8 (pkB l w big)), .c (.int .i64 0)])) ∨ (¬ Fit l w l.length ∧ Giv Try.prog 8 [.lst 1 (li .u32 l), .c (.int .i64 w), .c (.bool big)] (retV [.lst 1 [], .c (.int .i64 7)])) := by
  obtain ⟨m, hm, hok, hend⟩ := stop_ex (fun i => l.getD i 0 < 2 ^ w) l.length
  have g := pack_giv l w big h m hm hok hend
  by_cases c : m = l.length
  · rw [if_pos c] at g
    exact .inl ⟨by rw [← c]; exact hok, g⟩
  · rw [if_neg c] at g
    exact .inr ⟨fun k => (hend.resolve_left c) (k m (by omega)), g⟩
theorem pk8 (l : List Int) (hI : In 4294967296 l) (hF : Fit l 8 l.length) {i : Nat} (hi : i < l.length) (big : Bool) : (pkB l 8 big).getD i 0 = l.getD i 0 := by
  have hv : l.getD i 0 < 256 := hF i hi
  have hb := hI.get (by decide) i
  rw [pkB, if_neg (by unfold wh; omega), pk, tab_get _ (by omega), byteF]
  rw [hn_congr (g := dg (l.getD i 0).toNat 8) 8 fun j hj => ?_]
  · rw [hn_dg_all (show (l.getD i 0).toNat < 256 by omega)]
    omega
  · unfold cut
    rw [if_pos (by omega), Nat.mul_comm 8 i, F_at l hj]
theorem pkB_le (l : List Int) (w : Nat) (big : Bool) (hw : w ≤ 32) : (pkB l w big).length ≤ l.length * 4 := by
  have h := Nat.mul_le_mul_left l.length hw
  have h2 := Nat.mul_le_mul_left l.length (show w / 8 ≤ 4 by omega)
  unfold pkB
  split
  · rw [cat_len]; exact h2
  · rw [pk_len]; omega
theorem samplesJoins_giv (y0 : (List Int) × (List Int)) (h0 : ((y0.1.length * 4 ≤ 140737488351232 ∧ ∀ z ∈ y0.1, 0 ≤ z ∧ z ≤ 4294967295) ∧ (y0.2.length * 4 ≤ 140737488351232 ∧ ∀ z ∈ y0.2, 0 ≤ z ∧ z ≤ 4294967295))) (y1 : Int) (h1 : (-9223372036854775808 ≤ y1 ∧ y1 ≤ 9223372036854775807)) (y2 : Bool) (h2 : True) : Giv Try.prog 4 [.agg [.lst 1 (li .u32 y0.1), .lst 1 (li .u32 y0.2)], .c (.int .i64 y1), .c (.bool y2)] (.d (.c (.bool true))) := by
  obtain ⟨a, b⟩ := y0
  obtain ⟨⟨ha, hai⟩, hb, hbi⟩ := h0
  dsimp only at ha hai hb hbi
  refine Giv.of (out := [.c (.bool true)]) mixed c4 (Nat.le_of_ble_eq_true rfl) ?_
  simp -dsimp -implicitDefEqProofs (disch := first | omega | (simp only [List.length_append, List.length_cons, List.length_nil, List.length_take, List.length_drop]; omega)) only [a4, ↓aPre, aPost, oneW, allOne, retV, retVA, ↓reduceIte, reduceCtorEq, Nat.reduceAdd, Nat.reduceSub, Nat.reduceMul, Nat.reduceLT, Nat.reduceLeDiff, Nat.reduceEqDiff, Nat.reduceDiv, Nat.reduceMod, Nat.reducePow, Int.reduceAdd, Int.reduceSub, Int.reduceMul, Int.reduceLT, Int.reduceLE, Int.reduceEq, Int.reduceNe, Int.reducePow, Int.reduceToNat, Int.reduceNeg]
  refine call_giv lives_giv ?_
  by_cases hc : a.length + b.length > 500
  · have hc' : (a.length : Int) + (b.length : Int) > 500 := by omega
    simp -dsimp -implicitDefEqProofs (disch := first | omega | (simp only [List.length_append, List.length_cons, List.length_nil, List.length_take, List.length_drop]; omega)) only [hc', ↓aPre, aPost, oneW, allOne, retV, retVA, ↓reduceIte, reduceCtorEq, Nat.reduceAdd, Nat.reduceSub, Nat.reduceMul, Nat.reduceLT, Nat.reduceLeDiff, Nat.reduceEqDiff, Nat.reduceDiv, Nat.reduceMod, Nat.reducePow, Int.reduceAdd, Int.reduceSub, Int.reduceMul, Int.reduceLT, Int.reduceLE, Int.reduceEq, Int.reduceNe, Int.reducePow, Int.reduceToNat, Int.reduceNeg]
    refine call_giv lives_giv ?_
    simp -dsimp -implicitDefEqProofs (disch := first | omega | (simp only [List.length_append, List.length_cons, List.length_nil, List.length_take, List.length_drop]; omega)) only [↓aPre, aPost, oneW, allOne, retV, retVA, ↓reduceIte, reduceCtorEq, Nat.reduceAdd, Nat.reduceSub, Nat.reduceMul, Nat.reduceLT, Nat.reduceLeDiff, Nat.reduceEqDiff, Nat.reduceDiv, Nat.reduceMod, Nat.reducePow, Int.reduceAdd, Int.reduceSub, Int.reduceMul, Int.reduceLT, Int.reduceLE, Int.reduceEq, Int.reduceNe, Int.reducePow, Int.reduceToNat, Int.reduceNeg]
    exact post_eq rfl
  have hc' : ¬ (a.length : Int) + (b.length : Int) > 500 := by omega
  obtain ⟨v, hv, hv1, hv2⟩ : ∃ v : Nat, 1 + (IntKind.u64.wrap y1).tmod 32 = v ∧ 1 ≤ v ∧ v ≤ 32 := by
    have hp : (2 : Int) ^ IntKind.u64.bits = 18446744073709551616 := rfl
    have hw : 0 ≤ IntKind.u64.wrap y1 := by
      have e : IntKind.u64.wrap y1 = y1 % 18446744073709551616 := by simp [IntKind.wrap, IntKind.signed, IntKind.bits]
      omega
    rw [Int.tmod_eq_emod_of_nonneg hw]
    exact ⟨(1 + IntKind.u64.wrap y1 % 32).toNat, by omega, by omega, by omega⟩
  obtain ⟨n8, hn8⟩ : ∃ n8, n8 = a.length / 8 * 8 := ⟨_, rfl⟩
  have hn82 : (a.length : Int) / 8 * 8 = (n8 : Int) := by omega
  have hle : n8 ≤ a.length := by omega
  obtain ⟨A, hA⟩ : ∃ A, A = a.take n8 := ⟨_, rfl⟩
  have hAl : A.length = n8 := by rw [hA, List.length_take]; omega
  have hAi : In 4294967296 A := fun z hz => by
    rw [hA] at hz
    have := hai z (List.mem_of_mem_take hz); omega
  have hBi : In 4294967296 b := fun z hz => by have := hbi z hz; omega
  have hCi : In 4294967296 (A ++ b) := fun z hz => by
    rcases List.mem_append.1 hz with q | q
    · exact hAi z q
    · exact hBi z q
  have hCl : (A ++ b).length = A.length + b.length := List.length_append
  have hSA : Smp A v := ⟨by omega, hAi, hv1, hv2⟩
  have hSB : Smp b v := ⟨by omega, hBi, hv1, hv2⟩
  have hSC : Smp (A ++ b) v := ⟨by omega, hCi, hv1, hv2⟩
  have hfa := fit_app A b v
  rw [← hCl] at hfa
  have hclo := clone_o A (by omega)
  rw [hAl] at hclo
  have lA := pkB_le A v y2 hv2
  have lB := pkB_le b v y2 hv2
  simp -dsimp -implicitDefEqProofs (disch := first | omega | (simp only [List.length_append, List.length_cons, List.length_nil, List.length_take, List.length_drop]; omega)) only [hc', hv, hn82, hA.symm, ↓aPre, aPost, oneW, allOne, retV, retVA, ↓reduceIte, reduceCtorEq, Nat.reduceAdd, Nat.reduceSub, Nat.reduceMul, Nat.reduceLT, Nat.reduceLeDiff, Nat.reduceEqDiff, Nat.reduceDiv, Nat.reduceMod, Nat.reducePow, Int.reduceAdd, Int.reduceSub, Int.reduceMul, Int.reduceLT, Int.reduceLE, Int.reduceEq, Int.reduceNe, Int.reducePow, Int.reduceToNat, Int.reduceNeg]
  have gA := pack_two A v y2 hSA
  have gB := pack_two b v y2 hSB
  have gC := pack_two (A ++ b) v y2 hSC
  rcases gA with ⟨fA, gA⟩ | ⟨fA, gA⟩
  all_goals
    rcases gB with ⟨fB, gB⟩ | ⟨fB, gB⟩
    all_goals
      rcases gC with ⟨fC, gC⟩ | ⟨fC, gC⟩
  · have hpe := pkB_app A b (w := v) (by omega) y2 (by omega)
    rw [hpe] at gC
    refine call_giv gA ?_
    simp -dsimp -implicitDefEqProofs (disch := first | omega | (simp only [List.length_append, List.length_cons, List.length_nil, List.length_take, List.length_drop]; omega)) only [↓aPre, aPost, oneW, allOne, retV, retVA, ↓reduceIte, reduceCtorEq, Nat.reduceAdd, Nat.reduceSub, Nat.reduceMul, Nat.reduceLT, Nat.reduceLeDiff, Nat.reduceEqDiff, Nat.reduceDiv, Nat.reduceMod, Nat.reducePow, Int.reduceAdd, Int.reduceSub, Int.reduceMul, Int.reduceLT, Int.reduceLE, Int.reduceEq, Int.reduceNe, Int.reducePow, Int.reduceToNat, Int.reduceNeg]
    refine call_giv gB ?_
    simp -dsimp -implicitDefEqProofs (disch := first | omega | (simp only [List.length_append, List.length_cons, List.length_nil, List.length_take, List.length_drop]; omega)) only [↓aPre, aPost, oneW, allOne, retV, retVA, ↓reduceIte, reduceCtorEq, Nat.reduceAdd, Nat.reduceSub, Nat.reduceMul, Nat.reduceLT, Nat.reduceLeDiff, Nat.reduceEqDiff, Nat.reduceDiv, Nat.reduceMod, Nat.reducePow, Int.reduceAdd, Int.reduceSub, Int.reduceMul, Int.reduceLT, Int.reduceLE, Int.reduceEq, Int.reduceNe, Int.reducePow, Int.reduceToNat, Int.reduceNeg]
    refine call_own hclo ?_
    simp -dsimp -implicitDefEqProofs (disch := first | omega | (simp only [List.length_append, List.length_cons, List.length_nil, List.length_take, List.length_drop]; omega)) only [AV.ren, Ob.ren, hAl, ↓aPre, aPost, oneW, allOne, retV, retVA, ↓reduceIte, reduceCtorEq, Nat.reduceAdd, Nat.reduceSub, Nat.reduceMul, Nat.reduceLT, Nat.reduceLeDiff, Nat.reduceEqDiff, Nat.reduceDiv, Nat.reduceMod, Nat.reducePow, Int.reduceAdd, Int.reduceSub, Int.reduceMul, Int.reduceLT, Int.reduceLE, Int.reduceEq, Int.reduceNe, Int.reducePow, Int.reduceToNat, Int.reduceNeg]
    refine call_giv gC ?_
    simp -dsimp -implicitDefEqProofs (disch := first | omega | (simp only [List.length_append, List.length_cons, List.length_nil, List.length_take, List.length_drop]; omega)) only [bne_self_eq_false, ↓aPre, aPost, oneW, allOne, retV, retVA, ↓reduceIte, reduceCtorEq, Nat.reduceAdd, Nat.reduceSub, Nat.reduceMul, Nat.reduceLT, Nat.reduceLeDiff, Nat.reduceEqDiff, Nat.reduceDiv, Nat.reduceMod, Nat.reducePow, Int.reduceAdd, Int.reduceSub, Int.reduceMul, Int.reduceLT, Int.reduceLE, Int.reduceEq, Int.reduceNe, Int.reducePow, Int.reduceToNat, Int.reduceNeg]
    by_cases hv8 : v = 8
    rotate_left
    · have hv8' : ¬ (v : Int) = 8 := by omega
      simp -dsimp -implicitDefEqProofs (disch := first | omega | (simp only [List.length_append, List.length_cons, List.length_nil, List.length_take, List.length_drop]; omega)) only [ibne_t hv8', ↓aPre, aPost, oneW, allOne, retV, retVA, ↓reduceIte, reduceCtorEq, Nat.reduceAdd, Nat.reduceSub, Nat.reduceMul, Nat.reduceLT, Nat.reduceLeDiff, Nat.reduceEqDiff, Nat.reduceDiv, Nat.reduceMod, Nat.reducePow, Int.reduceAdd, Int.reduceSub, Int.reduceMul, Int.reduceLT, Int.reduceLE, Int.reduceEq, Int.reduceNe, Int.reducePow, Int.reduceToNat, Int.reduceNeg]
      exact post_eq rfl
    subst hv8
    have hC8 : pkB A 8 y2 ++ pkB b 8 y2 = pkB (A ++ b) 8 y2 := hpe.symm
    rw [hC8]
    have hpl : (pkB (A ++ b) 8 y2).length = n8 + b.length := by
      rw [pkB, if_neg (by unfold wh; omega), pk_len, hCl]
      omega
    simp -dsimp -implicitDefEqProofs (disch := first | omega | (simp only [List.length_append, List.length_cons, List.length_nil, List.length_take, List.length_drop]; omega)) only [↓aPre, aPost, oneW, allOne, retV, retVA, ↓reduceIte, reduceCtorEq, Nat.reduceAdd, Nat.reduceSub, Nat.reduceMul, Nat.reduceLT, Nat.reduceLeDiff, Nat.reduceEqDiff, Nat.reduceDiv, Nat.reduceMod, Nat.reducePow, Int.reduceAdd, Int.reduceSub, Int.reduceMul, Int.reduceLT, Int.reduceLE, Int.reduceEq, Int.reduceNe, Int.reducePow, Int.reduceToNat, Int.reduceNeg]
    refine call_own hclo ?_
    simp -dsimp -implicitDefEqProofs (disch := first | omega | (simp only [List.length_append, List.length_cons, List.length_nil, List.length_take, List.length_drop]; omega)) only [AV.ren, Ob.ren, hAl, ↓aPre, aPost, oneW, allOne, retV, retVA, ↓reduceIte, reduceCtorEq, Nat.reduceAdd, Nat.reduceSub, Nat.reduceMul, Nat.reduceLT, Nat.reduceLeDiff, Nat.reduceEqDiff, Nat.reduceDiv, Nat.reduceMod, Nat.reducePow, Int.reduceAdd, Int.reduceSub, Int.reduceMul, Int.reduceLT, Int.reduceLE, Int.reduceEq, Int.reduceNe, Int.reducePow, Int.reduceToNat, Int.reduceNeg]
    refine loop_of (fun s => ∃ (k : Nat), k ≤ n8 + b.length ∧ s.tm 14 = .d (.lst 1 (li .u8 (pkB (A ++ b) 8 y2))) ∧ s.tm 93 = .sl 91 1 0 (n8 + b.length) ∧ s.tm 94 = .d (.c (.int .i64 (n8 + b.length : Nat))) ∧ s.tm 95 = .d (.c (.int .i64 k)) ∧ s.hp 91 = some (.row 1 (li .u32 (A ++ b)))) (fun s => n8 + b.length - (avN (s.tm 95)).toNat) ?_ ?_
    · refine ⟨0, Nat.zero_le _, ?_⟩
      simp -dsimp -implicitDefEqProofs (disch := first | omega | (simp only [List.length_append, List.length_cons, List.length_nil, List.length_take, List.length_drop]; omega)) only [Int.natCast_zero, li_append, Int.natCast_add, ↓aPre, aPost, oneW, allOne, retV, retVA, ↓reduceIte, reduceCtorEq, Nat.reduceAdd, Nat.reduceSub, Nat.reduceMul, Nat.reduceLT, Nat.reduceLeDiff, Nat.reduceEqDiff, Nat.reduceDiv, Nat.reduceMod, Nat.reducePow, Int.reduceAdd, Int.reduceSub, Int.reduceMul, Int.reduceLT, Int.reduceLE, Int.reduceEq, Int.reduceNe, Int.reducePow, Int.reduceToNat, Int.reduceNeg]
    rintro s ⟨k, hk, hs⟩
    by_cases hlt : k < n8 + b.length
    · have he := pk8 (A ++ b) hCi fC (i := k) (by omega) y2
      have hr := fC k (by omega)
      have hr2 := hCi.get (by decide) k
      have hr3 : (A ++ b).getD k 0 < 256 := hr
      obtain ⟨c, hcc⟩ : ∃ c, c = (A ++ b).getD k 0 := ⟨_, rfl⟩
      rw [← hcc] at he hr2 hr3
      simp -dsimp -implicitDefEqProofs (disch := first | omega | (simp only [List.length_append, List.length_cons, List.length_nil, List.length_take, List.length_drop]; omega)) only [hs, hpl, he, hcc.symm, hCl, hAl, ibne_f, ↓aPre, aPost, oneW, allOne, retV, retVA, ↓reduceIte, reduceCtorEq, Nat.reduceAdd, Nat.reduceSub, Nat.reduceMul, Nat.reduceLT, Nat.reduceLeDiff, Nat.reduceEqDiff, Nat.reduceDiv, Nat.reduceMod, Nat.reducePow, Int.reduceAdd, Int.reduceSub, Int.reduceMul, Int.reduceLT, Int.reduceLE, Int.reduceEq, Int.reduceNe, Int.reducePow, Int.reduceToNat, Int.reduceNeg]
      refine round_of ⟨k + 1, by omega, ?_⟩ ?_
      · simp -dsimp -implicitDefEqProofs (disch := first | omega | (simp only [List.length_append, List.length_cons, List.length_nil, List.length_take, List.length_drop]; omega)) only [hs, ↓aPre, aPost, oneW, allOne, retV, retVA, ↓reduceIte, reduceCtorEq, Nat.reduceAdd, Nat.reduceSub, Nat.reduceMul, Nat.reduceLT, Nat.reduceLeDiff, Nat.reduceEqDiff, Nat.reduceDiv, Nat.reduceMod, Nat.reducePow, Int.reduceAdd, Int.reduceSub, Int.reduceMul, Int.reduceLT, Int.reduceLE, Int.reduceEq, Int.reduceNe, Int.reducePow, Int.reduceToNat, Int.reduceNeg]
      · simp -dsimp -implicitDefEqProofs (disch := first | omega | (simp only [List.length_append, List.length_cons, List.length_nil, List.length_take, List.length_drop]; omega)) only [hs, ↓aPre, aPost, oneW, allOne, retV, retVA, ↓reduceIte, reduceCtorEq, Nat.reduceAdd, Nat.reduceSub, Nat.reduceMul, Nat.reduceLT, Nat.reduceLeDiff, Nat.reduceEqDiff, Nat.reduceDiv, Nat.reduceMod, Nat.reducePow, Int.reduceAdd, Int.reduceSub, Int.reduceMul, Int.reduceLT, Int.reduceLE, Int.reduceEq, Int.reduceNe, Int.reducePow, Int.reduceToNat, Int.reduceNeg]
        omega
    · obtain rfl : k = n8 + b.length := by omega
      simp -dsimp -implicitDefEqProofs (disch := first | omega | (simp only [List.length_append, List.length_cons, List.length_nil, List.length_take, List.length_drop]; omega)) only [hs, ↓aPre, aPost, oneW, allOne, retV, retVA, ↓reduceIte, reduceCtorEq, Nat.reduceAdd, Nat.reduceSub, Nat.reduceMul, Nat.reduceLT, Nat.reduceLeDiff, Nat.reduceEqDiff, Nat.reduceDiv, Nat.reduceMod, Nat.reducePow, Int.reduceAdd, Int.reduceSub, Int.reduceMul, Int.reduceLT, Int.reduceLE, Int.reduceEq, Int.reduceNe, Int.reducePow, Int.reduceToNat, Int.reduceNeg]
      exact post_eq rfl
  · exact absurd (hfa.2 ⟨fA, fB⟩) fC
  · exact absurd (hfa.1 fC).2 fB
  · refine call_giv gA ?_
    simp -dsimp -implicitDefEqProofs (disch := first | omega | (simp only [List.length_append, List.length_cons, List.length_nil, List.length_take, List.length_drop]; omega)) only [↓aPre, aPost, oneW, allOne, retV, retVA, ↓reduceIte, reduceCtorEq, Nat.reduceAdd, Nat.reduceSub, Nat.reduceMul, Nat.reduceLT, Nat.reduceLeDiff, Nat.reduceEqDiff, Nat.reduceDiv, Nat.reduceMod, Nat.reducePow, Int.reduceAdd, Int.reduceSub, Int.reduceMul, Int.reduceLT, Int.reduceLE, Int.reduceEq, Int.reduceNe, Int.reducePow, Int.reduceToNat, Int.reduceNeg]
    refine call_giv gB ?_
    simp -dsimp -implicitDefEqProofs (disch := first | omega | (simp only [List.length_append, List.length_cons, List.length_nil, List.length_take, List.length_drop]; omega)) only [↓aPre, aPost, oneW, allOne, retV, retVA, ↓reduceIte, reduceCtorEq, Nat.reduceAdd, Nat.reduceSub, Nat.reduceMul, Nat.reduceLT, Nat.reduceLeDiff, Nat.reduceEqDiff, Nat.reduceDiv, Nat.reduceMod, Nat.reducePow, Int.reduceAdd, Int.reduceSub, Int.reduceMul, Int.reduceLT, Int.reduceLE, Int.reduceEq, Int.reduceNe, Int.reducePow, Int.reduceToNat, Int.reduceNeg]
    refine call_own hclo ?_
    simp -dsimp -implicitDefEqProofs (disch := first | omega | (simp only [List.length_append, List.length_cons, List.length_nil, List.length_take, List.length_drop]; omega)) only [AV.ren, Ob.ren, hAl, ↓aPre, aPost, oneW, allOne, retV, retVA, ↓reduceIte, reduceCtorEq, Nat.reduceAdd, Nat.reduceSub, Nat.reduceMul, Nat.reduceLT, Nat.reduceLeDiff, Nat.reduceEqDiff, Nat.reduceDiv, Nat.reduceMod, Nat.reducePow, Int.reduceAdd, Int.reduceSub, Int.reduceMul, Int.reduceLT, Int.reduceLE, Int.reduceEq, Int.reduceNe, Int.reducePow, Int.reduceToNat, Int.reduceNeg]
    refine call_giv gC ?_
    simp -dsimp -implicitDefEqProofs (disch := first | omega | (simp only [List.length_append, List.length_cons, List.length_nil, List.length_take, List.length_drop]; omega)) only [↓aPre, aPost, oneW, allOne, retV, retVA, ↓reduceIte, reduceCtorEq, Nat.reduceAdd, Nat.reduceSub, Nat.reduceMul, Nat.reduceLT, Nat.reduceLeDiff, Nat.reduceEqDiff, Nat.reduceDiv, Nat.reduceMod, Nat.reducePow, Int.reduceAdd, Int.reduceSub, Int.reduceMul, Int.reduceLT, Int.reduceLE, Int.reduceEq, Int.reduceNe, Int.reducePow, Int.reduceToNat, Int.reduceNeg]
    exact post_eq rfl
  · exact absurd (hfa.1 fC).1 fA
  · refine call_giv gA ?_
    simp -dsimp -implicitDefEqProofs (disch := first | omega | (simp only [List.length_append, List.length_cons, List.length_nil, List.length_take, List.length_drop]; omega)) only [↓aPre, aPost, oneW, allOne, retV, retVA, ↓reduceIte, reduceCtorEq, Nat.reduceAdd, Nat.reduceSub, Nat.reduceMul, Nat.reduceLT, Nat.reduceLeDiff, Nat.reduceEqDiff, Nat.reduceDiv, Nat.reduceMod, Nat.reducePow, Int.reduceAdd, Int.reduceSub, Int.reduceMul, Int.reduceLT, Int.reduceLE, Int.reduceEq, Int.reduceNe, Int.reducePow, Int.reduceToNat, Int.reduceNeg]
    refine call_giv gB ?_
    simp -dsimp -implicitDefEqProofs (disch := first | omega | (simp only [List.length_append, List.length_cons, List.length_nil, List.length_take, List.length_drop]; omega)) only [↓aPre, aPost, oneW, allOne, retV, retVA, ↓reduceIte, reduceCtorEq, Nat.reduceAdd, Nat.reduceSub, Nat.reduceMul, Nat.reduceLT, Nat.reduceLeDiff, Nat.reduceEqDiff, Nat.reduceDiv, Nat.reduceMod, Nat.reducePow, Int.reduceAdd, Int.reduceSub, Int.reduceMul, Int.reduceLT, Int.reduceLE, Int.reduceEq, Int.reduceNe, Int.reducePow, Int.reduceToNat, Int.reduceNeg]
    refine call_own hclo ?_
    simp -dsimp -implicitDefEqProofs (disch := first | omega | (simp only [List.length_append, List.length_cons, List.length_nil, List.length_take, List.length_drop]; omega)) only [AV.ren, Ob.ren, hAl, ↓aPre, aPost, oneW, allOne, retV, retVA, ↓reduceIte, reduceCtorEq, Nat.reduceAdd, Nat.reduceSub, Nat.reduceMul, Nat.reduceLT, Nat.reduceLeDiff, Nat.reduceEqDiff, Nat.reduceDiv, Nat.reduceMod, Nat.reducePow, Int.reduceAdd, Int.reduceSub, Int.reduceMul, Int.reduceLT, Int.reduceLE, Int.reduceEq, Int.reduceNe, Int.reducePow, Int.reduceToNat, Int.reduceNeg]
    refine call_giv gC ?_
    simp -dsimp -implicitDefEqProofs (disch := first | omega | (simp only [List.length_append, List.length_cons, List.length_nil, List.length_take, List.length_drop]; omega)) only [↓aPre, aPost, oneW, allOne, retV, retVA, ↓reduceIte, reduceCtorEq, Nat.reduceAdd, Nat.reduceSub, Nat.reduceMul, Nat.reduceLT, Nat.reduceLeDiff, Nat.reduceEqDiff, Nat.reduceDiv, Nat.reduceMod, Nat.reducePow, Int.reduceAdd, Int.reduceSub, Int.reduceMul, Int.reduceLT, Int.reduceLE, Int.reduceEq, Int.reduceNe, Int.reducePow, Int.reduceToNat, Int.reduceNeg]
    exact post_eq rfl
  · exact absurd (hfa.1 fC).1 fA
  · refine call_giv gA ?_
    simp -dsimp -implicitDefEqProofs (disch := first | omega | (simp only [List.length_append, List.length_cons, List.length_nil, List.length_take, List.length_drop]; omega)) only [↓aPre, aPost, oneW, allOne, retV, retVA, ↓reduceIte, reduceCtorEq, Nat.reduceAdd, Nat.reduceSub, Nat.reduceMul, Nat.reduceLT, Nat.reduceLeDiff, Nat.reduceEqDiff, Nat.reduceDiv, Nat.reduceMod, Nat.reducePow, Int.reduceAdd, Int.reduceSub, Int.reduceMul, Int.reduceLT, Int.reduceLE, Int.reduceEq, Int.reduceNe, Int.reducePow, Int.reduceToNat, Int.reduceNeg]
    refine call_giv gB ?_
    simp -dsimp -implicitDefEqProofs (disch := first | omega | (simp only [List.length_append, List.length_cons, List.length_nil, List.length_take, List.length_drop]; omega)) only [↓aPre, aPost, oneW, allOne, retV, retVA, ↓reduceIte, reduceCtorEq, Nat.reduceAdd, Nat.reduceSub, Nat.reduceMul, Nat.reduceLT, Nat.reduceLeDiff, Nat.reduceEqDiff, Nat.reduceDiv, Nat.reduceMod, Nat.reducePow, Int.reduceAdd, Int.reduceSub, Int.reduceMul, Int.reduceLT, Int.reduceLE, Int.reduceEq, Int.reduceNe, Int.reducePow, Int.reduceToNat, Int.reduceNeg]
    refine call_own hclo ?_
    simp -dsimp -implicitDefEqProofs (disch := first | omega | (simp only [List.length_append, List.length_cons, List.length_nil, List.length_take, List.length_drop]; omega)) only [AV.ren, Ob.ren, hAl, ↓aPre, aPost, oneW, allOne, retV, retVA, ↓reduceIte, reduceCtorEq, Nat.reduceAdd, Nat.reduceSub, Nat.reduceMul, Nat.reduceLT, Nat.reduceLeDiff, Nat.reduceEqDiff, Nat.reduceDiv, Nat.reduceMod, Nat.reducePow, Int.reduceAdd, Int.reduceSub, Int.reduceMul, Int.reduceLT, Int.reduceLE, Int.reduceEq, Int.reduceNe, Int.reducePow, Int.reduceToNat, Int.reduceNeg]
    refine call_giv gC ?_
    simp -dsimp -implicitDefEqProofs (disch := first | omega | (simp only [List.length_append, List.length_cons, List.length_nil, List.length_take, List.length_drop]; omega)) only [↓aPre, aPost, oneW, allOne, retV, retVA, ↓reduceIte, reduceCtorEq, Nat.reduceAdd, Nat.reduceSub, Nat.reduceMul, Nat.reduceLT, Nat.reduceLeDiff, Nat.reduceEqDiff, Nat.reduceDiv, Nat.reduceMod, Nat.reducePow, Int.reduceAdd, Int.reduceSub, Int.reduceMul, Int.reduceLT, Int.reduceLE, Int.reduceEq, Int.reduceNe, Int.reducePow, Int.reduceToNat, Int.reduceNeg]
    exact post_eq rfl
end Go.Proofs.Ytlhmhopgbkmafaa

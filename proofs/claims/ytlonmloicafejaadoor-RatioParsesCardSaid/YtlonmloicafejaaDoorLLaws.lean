/- The chapter's examples; the laws RatioParses, RatioReduces, RatioKeeps. No condition but what each says. -/
import Derived.Test.YtlonmloicafejaaDoorWSm
set_option linter.unusedSimpArgs false
set_option linter.unusedVariables false
set_option maxRecDepth 8000
set_option maxHeartbeats 4000000
namespace Go.Proofs.YtlonmloicafejaaDoor
open Go.Eng Go.RowKit
theorem par_254 : parS [50, 46, 53, 52] = (254, 100, 0) := by
  have h1 : numS (([50, 46, 53, 52] : List Int).take (pos [50, 46, 53, 52] 46)) = some 2 := by
    rw [show ([50, 46, 53, 52] : List Int).take (pos [50, 46, 53, 52] 46) = dec 2 by rw [dec_one (by decide)]; rfl]
    exact numS_dec (by decide)
  rw [parS_e (by decide) h1 (by decide)]
  rfl
theorem lives_giv : Giv Tryd.prog 8 [] (retV [.c (.bool true)]) := by
  have g := parse_giv [50, 46, 53, 52] (by intro z hz; simp at hz; omega) (by decide)
  rw [par_254] at g
  have r := reduce_giv 300 2 (by decide) (by decide)
  rw [show redS 300 2 = (150, 1) by decide] at r
  have r' : Giv Tryd.prog 11 [.agg [.c (.int .u32 300), .c (.int .u32 2)]] (retV [.agg [.c (.int .u32 150), .c (.int .u32 1)]]) := r
  unfold rd at g
  refine Giv.of mixed c8 (Nat.le_of_ble_eq_true rfl) ?_
  simp -dsimp -implicitDefEqProofs (disch := first | omega | (simp only [List.length_append, List.length_cons, List.length_nil, List.length_take, List.length_drop]; omega)) only [a8, ↓aPre, aPost, oneW, allOne, retV, retVA, simprocAttr]
  refine call_giv g ?_
  simp -dsimp -implicitDefEqProofs (disch := first | omega | (simp only [List.length_append, List.length_cons, List.length_nil, List.length_take, List.length_drop]; omega)) only [beq_self_eq_true, Bool.and_true, Bool.not_true, Bool.false_eq_true, if_false, ↓aPre, aPost, oneW, allOne, retV, retVA, simprocAttr]
  refine call_giv r' ?_
  simp -dsimp -implicitDefEqProofs (disch := first | omega | (simp only [List.length_append, List.length_cons, List.length_nil, List.length_take, List.length_drop]; omega)) only [beq_self_eq_true, Bool.and_true, Bool.not_true, Bool.false_eq_true, if_false, ↓aPre, aPost, oneW, allOne, retV, retVA, simprocAttr]
  exact post_eq rfl
theorem parS_le (l : List Int) : (parS l).1 ≤ 4294967295 ∧ (parS l).2.1 ≤ 4294967295 ∧ (parS l).2.2 ≤ 7 := by
  have key : ∀ n part, ¬ 9 < List.length part → (fracS n part).1 ≤ 4294967295 ∧ (fracS n part).2.1 ≤ 4294967295 ∧ (fracS n part).2.2 ≤ 7 := fun n part hl => by
    unfold fracS
    simp only []
    have h1 := (shr_le 64 (vf n part) (10 ^ part.length)).2
    have h2 := pow_le10 (show part.length ≤ 9 by omega)
    split
    · simp only []; omega
    · simp only []; omega
  have z : ((0, 0, 3) : Nat × Nat × Nat).1 ≤ 4294967295 ∧ ((0, 0, 3) : Nat × Nat × Nat).2.1 ≤ 4294967295 ∧ ((0, 0, 3) : Nat × Nat × Nat).2.2 ≤ 7 := by decide
  by_cases h : pos l 47 < l.length
  · rcases some_or (numS (l.take (pos l 47))) with c1 | ⟨n, c1⟩
    · rw [parS_b h (.inl c1)]; exact z
    · rcases some_or (numS (bhd l 47)) with c2 | ⟨d, c2⟩
      · rw [parS_b h (.inr c2)]; exact z
      · rw [parS_a h c1 c2]
        exact ⟨(numS_some c1).2, (numS_some c2).2, Nat.zero_le _⟩
  · rcases some_or (numS (l.take (pos l 46))) with c1 | ⟨n, c1⟩
    · rw [parS_c h c1]; exact z
    · by_cases c : 9 < (bhd l 46).length ∨ (pos l 46 < l.length ∧ bhd l 46 = []) ∨ ¬ isD (bhd l 46)
      · rw [parS_d h c1 c]; exact z
      · rw [parS_e h c1 c]
        exact key _ _ (fun k => c (.inl k))
theorem ratioParses_giv (y0 : ByteArray) (h0 : y0.size ≤ 140737488351232) : Giv Tryd.prog 3 [.c (.string y0)] (.d (.c (.bool true))) := by
  have hb := nums_bytes y0
  have hl := nums_length y0
  obtain ⟨l, hle⟩ : ∃ l, l = nums y0 := ⟨_, rfl⟩
  rw [nums_str y0]
  rw [← hle] at hb hl ⊢
  have hL : l.length ≤ 140737488355328 := by omega
  clear hle
  refine Giv.of (out := [.c (.bool true)]) mixed c3 (Nat.le_of_ble_eq_true rfl) ?_
  by_cases h : 100 < l.length
  · simp -dsimp -implicitDefEqProofs (disch := first | omega | (simp only [List.length_append, List.length_cons, List.length_nil, List.length_take, List.length_drop]; omega)) only [a3, ↓aPre, aPost, oneW, allOne, retV, retVA, simprocAttr]
    refine call_giv lives_giv ?_
    simp -dsimp -implicitDefEqProofs (disch := first | omega | (simp only [List.length_append, List.length_cons, List.length_nil, List.length_take, List.length_drop]; omega)) only [↓aPre, aPost, oneW, allOne, retV, retVA, simprocAttr]
    refine call_giv lives_giv ?_
    simp -dsimp -implicitDefEqProofs (disch := first | omega | (simp only [List.length_append, List.length_cons, List.length_nil, List.length_take, List.length_drop]; omega)) only [↓aPre, aPost, oneW, allOne, retV, retVA, simprocAttr]
    exact post_eq rfl
  have g1 := parse_giv l hb hL
  have g2 := rpar_giv l hb hL
  have hp := parS_le l
  unfold rd at g1
  unfold rI at g2
  obtain ⟨⟨n, d, e⟩, hpe⟩ : ∃ p, p = parS l := ⟨_, rfl⟩
  rw [← hpe] at g1 g2 hp
  dsimp only at g1 g2 hp
  simp -dsimp -implicitDefEqProofs (disch := first | omega | (simp only [List.length_append, List.length_cons, List.length_nil, List.length_take, List.length_drop]; omega)) only [a3, ↓aPre, aPost, oneW, allOne, retV, retVA, simprocAttr]
  refine call_giv lives_giv ?_
  simp -dsimp -implicitDefEqProofs (disch := first | omega | (simp only [List.length_append, List.length_cons, List.length_nil, List.length_take, List.length_drop]; omega)) only [↓aPre, aPost, oneW, allOne, retV, retVA, simprocAttr]
  refine call_giv g1 ?_
  simp -dsimp -implicitDefEqProofs (disch := first | omega | (simp only [List.length_append, List.length_cons, List.length_nil, List.length_take, List.length_drop]; omega)) only [↓aPre, aPost, oneW, allOne, retV, retVA, simprocAttr]
  refine call_giv g2 ?_
  simp -dsimp -implicitDefEqProofs (disch := first | omega | (simp only [List.length_append, List.length_cons, List.length_nil, List.length_take, List.length_drop]; omega)) only [↓aPre, aPost, oneW, allOne, retV, retVA, simprocAttr]
  exact post_eq rfl
theorem ratioReduces_giv (y0 : Int) (h0 : 0 ≤ y0 ∧ y0 ≤ 4294967295) (y1 : Int) (h1 : 0 ≤ y1 ∧ y1 ≤ 4294967295) : Giv Tryd.prog 4 [.c (.int .u32 y0), .c (.int .u32 y1)] (.d (.c (.bool true))) := by
  obtain ⟨n, rfl⟩ := Int.eq_ofNat_of_zero_le h0.1
  obtain ⟨d, rfl⟩ := Int.eq_ofNat_of_zero_le h1.1
  have hn : n < 4294967296 := by omega
  have hd : d < 4294967296 := by omega
  have l1 := dec_len 9 n (by omega)
  have l2 := dec_len 9 d (by omega)
  have hB := ((dec_bytes n).app (Bytes.one (x := 47) (by decide))).app (dec_bytes d)
  have g9 := parse_giv (dec n ++ [47] ++ dec d) hB (by simp only [List.length_append, List.length_singleton]; omega)
  rw [parS_text (by omega) (by omega)] at g9
  unfold rd at g9
  have g11 := reduce_giv n d hn hd
  have g12 := rreduce_giv n d hn hd
  have rl := red_le n d
  have g11' := reduce_giv (redS n d).1 (redS n d).2 (by omega) (by omega)
  rw [red_red] at g11'
  obtain ⟨⟨x, y⟩, hxy⟩ : ∃ p, p = redS n d := ⟨_, rfl⟩
  rw [← hxy] at g11 g12 g11' rl
  dsimp only at g9 g11 g12 g11' rl
  have g13 := itoa_giv n (by omega)
  have g13' := itoa_giv d (by omega)
  have g14 := text_giv n d hn hd
  have g16 := value_giv n d hn hd
  obtain ⟨t, ht⟩ : ∃ t, t = dec n ++ [47] ++ dec d := ⟨_, rfl⟩
  rw [← ht] at g9 g14 hB
  obtain ⟨v, hv⟩ : ∃ v : Nat, v = n * 4294967296 + d := ⟨_, rfl⟩
  rw [← hv] at g16
  have g15 := of_giv v (by omega)
  rw [show v / 4294967296 = n by omega, show v % 4294967296 = d by omega] at g15
  have hv2 : (n : Int) * 4294967296 + (d : Int) = (v : Int) := by omega
  have hv3 : v < 18446744073709551616 := by omega
  refine Giv.of (out := [.c (.bool true)]) mixed c4 (Nat.le_of_ble_eq_true rfl) ?_
  simp -dsimp -implicitDefEqProofs (disch := first | omega | (simp only [List.length_append, List.length_cons, List.length_nil, List.length_take, List.length_drop]; omega)) only [a4, ↓aPre, aPost, oneW, allOne, retV, retVA, simprocAttr]
  refine call_giv lives_giv ?_
  simp -dsimp -implicitDefEqProofs (disch := first | omega | (simp only [List.length_append, List.length_cons, List.length_nil, List.length_take, List.length_drop]; omega)) only [↓aPre, aPost, oneW, allOne, retV, retVA, simprocAttr]
  refine call_giv g11 ?_
  simp -dsimp -implicitDefEqProofs (disch := first | omega | (simp only [List.length_append, List.length_cons, List.length_nil, List.length_take, List.length_drop]; omega)) only [↓aPre, aPost, oneW, allOne, retV, retVA, simprocAttr]
  refine call_giv g12 ?_
  simp -dsimp -implicitDefEqProofs (disch := first | omega | (simp only [List.length_append, List.length_cons, List.length_nil, List.length_take, List.length_drop]; omega)) only [↓aPre, aPost, oneW, allOne, retV, retVA, simprocAttr]
  refine call_giv g13 ?_
  simp -dsimp -implicitDefEqProofs (disch := first | omega | (simp only [List.length_append, List.length_cons, List.length_nil, List.length_take, List.length_drop]; omega)) only [↓aPre, aPost, oneW, allOne, retV, retVA, simprocAttr]
  refine call_giv g13' ?_
  simp -dsimp -implicitDefEqProofs (disch := first | omega | (simp only [List.length_append, List.length_cons, List.length_nil, List.length_take, List.length_drop]; omega)) only [← ht, ↓aPre, aPost, oneW, allOne, retV, retVA, simprocAttr]
  refine call_giv g9 ?_
  simp -dsimp -implicitDefEqProofs (disch := first | omega | (simp only [List.length_append, List.length_cons, List.length_nil, List.length_take, List.length_drop]; omega)) only [beq_self_eq_true, Bool.and_true, Bool.not_true, Bool.false_eq_true, if_false, ↓aPre, aPost, oneW, allOne, retV, retVA, simprocAttr]
  refine call_giv g14 ?_
  simp -dsimp -implicitDefEqProofs (disch := first | omega | (simp only [List.length_append, List.length_cons, List.length_nil, List.length_take, List.length_drop]; omega)) only [beq_self_eq_true, Bool.and_true, Bool.not_true, Bool.false_eq_true, if_false, str_beq hB hB, ↓aPre, aPost, oneW, allOne, retV, retVA, simprocAttr]
  refine call_giv g16 ?_
  simp -dsimp -implicitDefEqProofs (disch := first | omega | (simp only [List.length_append, List.length_cons, List.length_nil, List.length_take, List.length_drop]; omega)) only [beq_self_eq_true, Bool.and_true, Bool.not_true, Bool.false_eq_true, if_false, ↓aPre, aPost, oneW, allOne, retV, retVA, simprocAttr]
  refine call_giv g15 ?_
  simp -dsimp -implicitDefEqProofs (disch := first | omega | (simp only [List.length_append, List.length_cons, List.length_nil, List.length_take, List.length_drop]; omega)) only [beq_self_eq_true, Bool.and_true, Bool.not_true, Bool.false_eq_true, if_false, ↓aPre, aPost, oneW, allOne, retV, retVA, simprocAttr]
  refine call_giv g16 ?_
  simp -dsimp -implicitDefEqProofs (disch := first | omega | (simp only [List.length_append, List.length_cons, List.length_nil, List.length_take, List.length_drop]; omega)) only [beq_self_eq_true, Bool.and_true, Bool.not_true, Bool.false_eq_true, if_false, hv2, ↓aPre, aPost, oneW, allOne, retV, retVA, simprocAttr]
  refine call_giv g11' ?_
  simp -dsimp -implicitDefEqProofs (disch := first | omega | (simp only [List.length_append, List.length_cons, List.length_nil, List.length_take, List.length_drop]; omega)) only [beq_self_eq_true, Bool.and_true, Bool.not_true, Bool.false_eq_true, if_false, ↓aPre, aPost, oneW, allOne, retV, retVA, simprocAttr]
  exact post_eq rfl
theorem ratioKeeps_giv (y0 : Int) (h0 : 0 ≤ y0 ∧ y0 ≤ 18446744073709551615) : Giv Tryd.prog 7 [.c (.int .u64 y0)] (.d (.c (.bool true))) := by
  obtain ⟨v, rfl⟩ := Int.eq_ofNat_of_zero_le h0.1
  have g15 := of_giv v (by omega)
  obtain ⟨n, hn⟩ : ∃ n, n = v / 4294967296 := ⟨_, rfl⟩
  obtain ⟨d, hd⟩ : ∃ d, d = v % 4294967296 := ⟨_, rfl⟩
  rw [← hn, ← hd] at g15
  have hn1 : n < 4294967296 := by omega
  have hd1 : d < 4294967296 := by omega
  have g16 := value_giv n d hn1 hd1
  rw [show n * 4294967296 + d = v by omega] at g16
  have g11 := reduce_giv n d hn1 hd1
  have rl := red_le n d
  have hsame := red_same n d
  have hcmp := compare_giv n d (redS n d).1 (redS n d).2 hn1 hd1 (by omega) (by omega)
  have g11' := reduce_giv (redS n d).1 (redS n d).2 (by omega) (by omega)
  have hdp : 0 < d → 0 < (redS n d).2 := red_d
  rw [red_red] at g11'
  obtain ⟨⟨x, y⟩, hxy⟩ : ∃ p, p = redS n d := ⟨_, rfl⟩
  rw [← hxy] at g11 g11' rl hsame hcmp hdp
  dsimp only at g11 g11' rl hsame hcmp hdp
  refine Giv.of (out := [.c (.bool true)]) mixed c7 (Nat.le_of_ble_eq_true rfl) ?_
  by_cases h : d = 0
  · have hc : cmpS n d x y = (0, 1) := by unfold cmpS; rw [if_pos (.inl h)]
    rw [hc] at hcmp
    have hdI : (d : Int) = 0 := by omega
    simp -dsimp -implicitDefEqProofs (disch := first | omega | (simp only [List.length_append, List.length_cons, List.length_nil, List.length_take, List.length_drop]; omega)) only [a7, ↓aPre, aPost, oneW, allOne, retV, retVA, simprocAttr]
    refine call_giv lives_giv ?_
    simp -dsimp -implicitDefEqProofs (disch := first | omega | (simp only [List.length_append, List.length_cons, List.length_nil, List.length_take, List.length_drop]; omega)) only [↓aPre, aPost, oneW, allOne, retV, retVA, simprocAttr]
    refine call_giv g15 ?_
    simp -dsimp -implicitDefEqProofs (disch := first | omega | (simp only [List.length_append, List.length_cons, List.length_nil, List.length_take, List.length_drop]; omega)) only [↓aPre, aPost, oneW, allOne, retV, retVA, simprocAttr]
    refine call_giv g11 ?_
    simp -dsimp -implicitDefEqProofs (disch := first | omega | (simp only [List.length_append, List.length_cons, List.length_nil, List.length_take, List.length_drop]; omega)) only [↓aPre, aPost, oneW, allOne, retV, retVA, simprocAttr]
    refine call_giv hcmp ?_
    simp -dsimp -implicitDefEqProofs (disch := first | omega | (simp only [List.length_append, List.length_cons, List.length_nil, List.length_take, List.length_drop]; omega)) only [↓aPre, aPost, oneW, allOne, retV, retVA, simprocAttr]
    refine call_giv g16 ?_
    simp -dsimp -implicitDefEqProofs (disch := first | omega | (simp only [List.length_append, List.length_cons, List.length_nil, List.length_take, List.length_drop]; omega)) only [↓aPre, aPost, oneW, allOne, retV, retVA, simprocAttr]
    refine call_giv g11' ?_
    simp -dsimp -implicitDefEqProofs (disch := first | omega | (simp only [List.length_append, List.length_cons, List.length_nil, List.length_take, List.length_drop]; omega)) only [beq_self_eq_true, Bool.and_true, Bool.not_true, Bool.false_eq_true, if_false, ibeq_t hdI, hdI, Int.natCast_zero, ↓aPre, aPost, oneW, allOne, retV, retVA, simprocAttr]
    exact post_eq rfl
  · have hc : cmpS n d x y = (0, 0) := by
      unfold cmpS
      rw [if_neg (fun c => c.elim h (by omega)), hsame, if_neg (Nat.lt_irrefl _), if_neg (Nat.lt_irrefl _)]
    rw [hc] at hcmp
    have hdI : ¬ (d : Int) = 0 := by omega
    simp -dsimp -implicitDefEqProofs (disch := first | omega | (simp only [List.length_append, List.length_cons, List.length_nil, List.length_take, List.length_drop]; omega)) only [a7, ↓aPre, aPost, oneW, allOne, retV, retVA, simprocAttr]
    refine call_giv lives_giv ?_
    simp -dsimp -implicitDefEqProofs (disch := first | omega | (simp only [List.length_append, List.length_cons, List.length_nil, List.length_take, List.length_drop]; omega)) only [↓aPre, aPost, oneW, allOne, retV, retVA, simprocAttr]
    refine call_giv g15 ?_
    simp -dsimp -implicitDefEqProofs (disch := first | omega | (simp only [List.length_append, List.length_cons, List.length_nil, List.length_take, List.length_drop]; omega)) only [↓aPre, aPost, oneW, allOne, retV, retVA, simprocAttr]
    refine call_giv g11 ?_
    simp -dsimp -implicitDefEqProofs (disch := first | omega | (simp only [List.length_append, List.length_cons, List.length_nil, List.length_take, List.length_drop]; omega)) only [↓aPre, aPost, oneW, allOne, retV, retVA, simprocAttr]
    refine call_giv hcmp ?_
    simp -dsimp -implicitDefEqProofs (disch := first | omega | (simp only [List.length_append, List.length_cons, List.length_nil, List.length_take, List.length_drop]; omega)) only [↓aPre, aPost, oneW, allOne, retV, retVA, simprocAttr]
    refine call_giv g16 ?_
    simp -dsimp -implicitDefEqProofs (disch := first | omega | (simp only [List.length_append, List.length_cons, List.length_nil, List.length_take, List.length_drop]; omega)) only [↓aPre, aPost, oneW, allOne, retV, retVA, simprocAttr]
    refine call_giv g11' ?_
    simp -dsimp -implicitDefEqProofs (disch := first | omega | (simp only [List.length_append, List.length_cons, List.length_nil, List.length_take, List.length_drop]; omega)) only [beq_self_eq_true, Bool.and_true, Bool.not_true, Bool.false_eq_true, if_false, hdI, ↓aPre, aPost, oneW, allOne, retV, retVA, simprocAttr]
    exact post_eq rfl
end Go.Proofs.YtlonmloicafejaaDoor

/- The chapter's example; the law AsciiTimes. No further condition. -/
import Derived.Test.YtfighiceodplnaaDoorWRef2
set_option linter.unusedSimpArgs false
set_option linter.unusedVariables false
set_option maxRecDepth 8000
set_option maxHeartbeats 4000000
namespace Go.Proofs.YtfighiceodplnaaDoor
open Go.Eng Go.RowKit
def exL : List Int := [48, 48, 48, 48, 58, 48, 51, 58, 48, 49, 32, 48, 48, 58, 48, 48, 58, 48, 48]
theorem ex_par : parD exL = [tD 0 3 1 0 0 0, .c (.int .i64 0)] := by
  have hF : okF exL := by decide
  have h0 : fv exL 0 4 = 0 := by decide
  have h1 : fv exL 5 2 = 3 := by decide
  have h2 : fv exL 8 2 = 1 := by decide
  have h3 : fv exL 11 2 = 0 := by decide
  have h4 : fv exL 14 2 = 0 := by decide
  have h5 : fv exL 17 2 = 0 := by decide
  unfold parD
  rw [if_pos hF, h0, h1, h2, h3, h4, h5, if_pos (by decide +kernel)]
  rfl
theorem lives_giv : Giv Tryd.prog 5 [] (retV [.c (.bool true)]) := by
  have gp := parse_giv exL (by intro z hz; simp only [exL, List.mem_cons, List.not_mem_nil, or_false] at hz; omega)
  rw [ex_par] at gp
  unfold exL at gp
  refine Giv.of mixed c5 (Nat.le_of_ble_eq_true rfl) ?_
  have hn := number_t 0 3 1 0 0 0 (by decide) (by decide) (by decide) (by decide) (by decide) (by decide)
  rw [show num 0 3 1 0 0 0 = 5184000 from by decide +kernel] at hn
  simp -dsimp -implicitDefEqProofs (disch := first | omega | (simp only [List.length_append, List.length_cons, List.length_nil, List.length_take, List.length_drop]; omega)) only [a5, ↓aPre, aPost, oneW, allOne, retV, retVA, simprocAttr]
  refine call_giv gp ?_
  simp -dsimp -implicitDefEqProofs (disch := first | omega | (simp only [List.length_append, List.length_cons, List.length_nil, List.length_take, List.length_drop]; omega)) only [tD, ↓aPre, aPost, oneW, allOne, retV, retVA, simprocAttr]
  refine call_giv hn ?_
  simp -dsimp -implicitDefEqProofs (disch := first | omega | (simp only [List.length_append, List.length_cons, List.length_nil, List.length_take, List.length_drop]; omega)) only [tD, ↓aPre, aPost, oneW, allOne, retV, retVA, simprocAttr]
  exact post_eq rfl
theorem txt_of {l : List Int} (h : okF l) : txt (fv l 0 4) (fv l 5 2) (fv l 8 2) (fv l 11 2) (fv l 14 2) (fv l 17 2) = l := by
  obtain ⟨s4, s7, s10, s13, s16, g0, g1, g2, g3, g4, g5⟩ := okF_to h
  have hl := h.1
  have p0 := pad_vf 3 (seg l 0 4) g0 (by rw [seg, List.length_take, List.length_drop]; omega)
  have p1 := pad_vf 1 (seg l 5 2) g1 (by rw [seg, List.length_take, List.length_drop]; omega)
  have p2 := pad_vf 1 (seg l 8 2) g2 (by rw [seg, List.length_take, List.length_drop]; omega)
  have p3 := pad_vf 1 (seg l 11 2) g3 (by rw [seg, List.length_take, List.length_drop]; omega)
  have p4 := pad_vf 1 (seg l 14 2) g4 (by rw [seg, List.length_take, List.length_drop]; omega)
  have p5 := pad_vf 1 (seg l 17 2) g5 (by rw [seg, List.length_take, List.length_drop]; omega)
  unfold txt fv
  unfold seg at p0 p1 p2 p3 p4 p5
  rw [p0, p1, p2, p3, p4, p5]
  match l, hl with
  | [a, b, c, d, e, f, g, h, i, j, k, m, n, o, p, q, r, s, t], _ =>
    simp only [List.getD_cons_zero, List.getD_cons_succ] at s4 s7 s10 s13 s16
    subst s4 s7 s10 s13 s16
    rfl
theorem asciiTimes_giv (y0 : ByteArray) (h0 : y0.size ≤ 140737488351232) : Giv Tryd.prog 3 [.c (.string y0)] (.d (.c (.bool true))) := by
  have hb := nums_bytes y0
  have hl := nums_length y0
  obtain ⟨l, hle⟩ : ∃ l, l = nums y0 := ⟨_, rfl⟩
  rw [nums_str y0]
  rw [← hle] at hb hl ⊢
  clear hle
  refine Giv.of (out := [.c (.bool true)]) mixed c3 (Nat.le_of_ble_eq_true rfl) ?_
  by_cases h : 60 < l.length
  · simp -dsimp -implicitDefEqProofs (disch := first | omega | (simp only [List.length_append, List.length_cons, List.length_nil, List.length_take, List.length_drop]; omega)) only [a3, ↓aPre, aPost, oneW, allOne, retV, retVA, simprocAttr]
    refine call_giv lives_giv ?_
    simp -dsimp -implicitDefEqProofs (disch := first | omega | (simp only [List.length_append, List.length_cons, List.length_nil, List.length_take, List.length_drop]; omega)) only [↓aPre, aPost, oneW, allOne, retV, retVA, simprocAttr]
    refine call_giv lives_giv ?_
    simp -dsimp -implicitDefEqProofs (disch := first | omega | (simp only [List.length_append, List.length_cons, List.length_nil, List.length_take, List.length_drop]; omega)) only [↓aPre, aPost, oneW, allOne, retV, retVA, simprocAttr]
    exact post_eq rfl
  have g1 := parse_giv l hb
  have g2 := rparse_giv l hb
  by_cases hF : ¬ okF l
  · rw [parD_3 hF] at g1
    rw [rparD_3 hF] at g2
    unfold tD at g1
    simp -dsimp -implicitDefEqProofs (disch := first | omega | (simp only [List.length_append, List.length_cons, List.length_nil, List.length_take, List.length_drop]; omega)) only [a3, ↓aPre, aPost, oneW, allOne, retV, retVA, simprocAttr]
    refine call_giv lives_giv ?_
    simp -dsimp -implicitDefEqProofs (disch := first | omega | (simp only [List.length_append, List.length_cons, List.length_nil, List.length_take, List.length_drop]; omega)) only [↓aPre, aPost, oneW, allOne, retV, retVA, simprocAttr]
    refine call_giv g1 ?_
    simp -dsimp -implicitDefEqProofs (disch := first | omega | (simp only [List.length_append, List.length_cons, List.length_nil, List.length_take, List.length_drop]; omega)) only [↓aPre, aPost, oneW, allOne, retV, retVA, simprocAttr]
    refine call_giv g2 ?_
    simp -dsimp -implicitDefEqProofs (disch := first | omega | (simp only [List.length_append, List.length_cons, List.length_nil, List.length_take, List.length_drop]; omega)) only [beq_self_eq_true, Bool.and_true, Bool.not_true, Bool.false_eq_true, if_false, ↓aPre, aPost, oneW, allOne, retV, retVA, simprocAttr]
    exact post_eq rfl
  replace hF := Decidable.not_not.1 hF
  have ht := txt_of hF
  unfold parD at g1
  unfold rparD at g2
  rw [if_pos hF] at g1 g2
  by_cases hr : ¬ rightP (fv l 0 4) (fv l 5 2) (fv l 8 2) (fv l 11 2) (fv l 14 2) (fv l 17 2)
  · rw [if_neg hr] at g1 g2
    unfold tD at g1
    simp -dsimp -implicitDefEqProofs (disch := first | omega | (simp only [List.length_append, List.length_cons, List.length_nil, List.length_take, List.length_drop]; omega)) only [a3, ↓aPre, aPost, oneW, allOne, retV, retVA, simprocAttr]
    refine call_giv lives_giv ?_
    simp -dsimp -implicitDefEqProofs (disch := first | omega | (simp only [List.length_append, List.length_cons, List.length_nil, List.length_take, List.length_drop]; omega)) only [↓aPre, aPost, oneW, allOne, retV, retVA, simprocAttr]
    refine call_giv g1 ?_
    simp -dsimp -implicitDefEqProofs (disch := first | omega | (simp only [List.length_append, List.length_cons, List.length_nil, List.length_take, List.length_drop]; omega)) only [↓aPre, aPost, oneW, allOne, retV, retVA, simprocAttr]
    refine call_giv g2 ?_
    simp -dsimp -implicitDefEqProofs (disch := first | omega | (simp only [List.length_append, List.length_cons, List.length_nil, List.length_take, List.length_drop]; omega)) only [beq_self_eq_true, Bool.and_true, Bool.not_true, Bool.false_eq_true, if_false, ↓aPre, aPost, oneW, allOne, retV, retVA, simprocAttr]
    exact post_eq rfl
  replace hr := Decidable.not_not.1 hr
  rw [if_pos hr] at g1 g2
  have gt := text_t _ _ _ _ _ _ hr
  rw [ht] at gt
  obtain ⟨y, hy⟩ : ∃ y, y = fv l 0 4 := ⟨_, rfl⟩
  obtain ⟨m, hm⟩ : ∃ m, m = fv l 5 2 := ⟨_, rfl⟩
  obtain ⟨d, hd⟩ : ∃ d, d = fv l 8 2 := ⟨_, rfl⟩
  obtain ⟨hh, hhh⟩ : ∃ h, h = fv l 11 2 := ⟨_, rfl⟩
  obtain ⟨mi, hmi⟩ : ∃ m, m = fv l 14 2 := ⟨_, rfl⟩
  obtain ⟨se, hse⟩ : ∃ s, s = fv l 17 2 := ⟨_, rfl⟩
  rw [← hy, ← hm, ← hd, ← hhh, ← hmi, ← hse] at g1 g2 gt
  have g8 := of_giv8 y m d hh mi se
  have hLl : (tL y m d hh mi se).length = 6 := rfl
  obtain ⟨T, hT⟩ : ∃ T, T = tL y m d hh mi se := ⟨_, rfl⟩
  rw [← hT] at g2 g8 hLl
  unfold tD at g1 g8 gt
  simp -dsimp -implicitDefEqProofs (disch := first | omega | (simp only [List.length_append, List.length_cons, List.length_nil, List.length_take, List.length_drop]; omega)) only [a3, ↓aPre, aPost, oneW, allOne, retV, retVA, simprocAttr]
  refine call_giv lives_giv ?_
  simp -dsimp -implicitDefEqProofs (disch := first | omega | (simp only [List.length_append, List.length_cons, List.length_nil, List.length_take, List.length_drop]; omega)) only [↓aPre, aPost, oneW, allOne, retV, retVA, simprocAttr]
  refine call_giv g1 ?_
  simp -dsimp -implicitDefEqProofs (disch := first | omega | (simp only [List.length_append, List.length_cons, List.length_nil, List.length_take, List.length_drop]; omega)) only [↓aPre, aPost, oneW, allOne, retV, retVA, simprocAttr]
  refine call_giv g2 ?_
  simp -dsimp -implicitDefEqProofs (disch := first | omega | (simp only [List.length_append, List.length_cons, List.length_nil, List.length_take, List.length_drop]; omega)) only [beq_self_eq_true, Bool.and_true, Bool.not_true, Bool.false_eq_true, if_false, ↓aPre, aPost, oneW, allOne, retV, retVA, simprocAttr]
  refine call_giv g8 ?_
  simp -dsimp -implicitDefEqProofs (disch := first | omega | (simp only [List.length_append, List.length_cons, List.length_nil, List.length_take, List.length_drop]; omega)) only [hLl, ↓aPre, aPost, oneW, allOne, retV, retVA, simprocAttr]
  refine loop_of (fun s => ∃ k : Nat, k ≤ 6 ∧ s.tm 40 = .d (.c (.int .i64 k)) ∧ s.tm 39 = .d (.c (.int .i64 6)) ∧ s.tm 38 = .d (.lst 1 (li .i64 T)) ∧ s.tm 5 = .d (.lst 1 (li .i64 T)) ∧ s.tm 3 = .ptr 3 0 ∧ s.tm 0 = .d (.c (.string (strOfNums l))) ∧ s.hp 3 = some (.box [.d (.c (.int .i64 y)), .d (.c (.int .i64 m)), .d (.c (.int .i64 d)), .d (.c (.int .i64 hh)), .d (.c (.int .i64 mi)), .d (.c (.int .i64 se))])) (fun s => 6 - (avN (s.tm 40)).toNat) ?_ ?_
  · refine ⟨0, by omega, ?_⟩
    simp -dsimp -implicitDefEqProofs (disch := first | omega | (simp only [List.length_append, List.length_cons, List.length_nil, List.length_take, List.length_drop]; omega)) only [Int.natCast_zero, hLl, ↓aPre, aPost, oneW, allOne, retV, retVA, simprocAttr]
  rintro s ⟨k, hk, hs⟩
  by_cases hlt : k < 6
  · simp -dsimp -implicitDefEqProofs (disch := first | omega | (simp only [List.length_append, List.length_cons, List.length_nil, List.length_take, List.length_drop]; omega)) only [hs, hLl, ↓aPre, aPost, oneW, allOne, retV, retVA, simprocAttr]
    refine round_of ⟨k + 1, by omega, ?_⟩ ?_
    · simp -dsimp -implicitDefEqProofs (disch := first | omega | (simp only [List.length_append, List.length_cons, List.length_nil, List.length_take, List.length_drop]; omega)) only [hs, ↓aPre, aPost, oneW, allOne, retV, retVA, simprocAttr]
    · simp -dsimp -implicitDefEqProofs (disch := first | omega | (simp only [List.length_append, List.length_cons, List.length_nil, List.length_take, List.length_drop]; omega)) only [hs, ↓aPre, aPost, oneW, allOne, retV, retVA, simprocAttr]
      omega
  · simp -dsimp -implicitDefEqProofs (disch := first | omega | (simp only [List.length_append, List.length_cons, List.length_nil, List.length_take, List.length_drop]; omega)) only [hs, hLl, ↓aPre, aPost, oneW, allOne, retV, retVA, simprocAttr]
    refine call_giv gt ?_
    simp -dsimp -implicitDefEqProofs (disch := first | omega | (simp only [List.length_append, List.length_cons, List.length_nil, List.length_take, List.length_drop]; omega)) only [hs, str_beq hb hb, ↓aPre, aPost, oneW, allOne, retV, retVA, simprocAttr]
    exact post_eq rfl
end Go.Proofs.YtfighiceodplnaaDoor

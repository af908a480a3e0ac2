/- The law AsciiNumbers. No further condition. -/
import Derived.Test.YtfighiceodplnaaDoorLOrd
set_option linter.unusedSimpArgs false
set_option linter.unusedVariables false
set_option maxRecDepth 8000
set_option maxHeartbeats 8000000
namespace Go.Proofs.YtfighiceodplnaaDoor
open Go.Eng Go.RowKit
theorem asciiNumbers_giv (y0 : (Int) × (Int) × (Int) × (Int) × (Int) × (Int)) (h0 : ((-9223372036854775808 ≤ y0.1 ∧ y0.1 ≤ 9223372036854775807) ∧ (-9223372036854775808 ≤ y0.2.1 ∧ y0.2.1 ≤ 9223372036854775807) ∧ (-9223372036854775808 ≤ y0.2.2.1 ∧ y0.2.2.1 ≤ 9223372036854775807) ∧ (-9223372036854775808 ≤ y0.2.2.2.1 ∧ y0.2.2.2.1 ≤ 9223372036854775807) ∧ (-9223372036854775808 ≤ y0.2.2.2.2.1 ∧ y0.2.2.2.2.1 ≤ 9223372036854775807) ∧ (-9223372036854775808 ≤ y0.2.2.2.2.2 ∧ y0.2.2.2.2.2 ≤ 9223372036854775807))) : Giv Tryd.prog 4 [.agg [.c (.int .i64 y0.1), .c (.int .i64 y0.2.1), .c (.int .i64 y0.2.2.1), .c (.int .i64 y0.2.2.2.1), .c (.int .i64 y0.2.2.2.2.1), .c (.int .i64 y0.2.2.2.2.2)]] (.d (.c (.bool true))) := by
  obtain ⟨Y, M, D, H, I, S⟩ := y0
  clear h0
  dsimp only
  have g8 := of_giv8 Y M D H I S
  have gr := rright_giv Y M D H I S
  have hLl : (tL Y M D H I S).length = 6 := rfl
  by_cases hr : ¬ rightP Y M D H I S
  · have g9 := text_f Y M D H I S hr
    have g10 := number_f Y M D H I S hr
    have g12 := right_f Y M D H I S hr
    rw [decide_eq_false hr] at gr
    obtain ⟨T, hT⟩ : ∃ T, T = tL Y M D H I S := ⟨_, rfl⟩
    rw [← hT] at g8 gr hLl
    unfold tD at g8 g9 g10 g12
    have hB0 : Bytes [] := Bytes.nil
    refine Giv.of (out := [.c (.bool true)]) mixed c4 (Nat.le_of_ble_eq_true rfl) ?_
    simp -dsimp -implicitDefEqProofs (disch := first | omega | (simp only [List.length_append, List.length_cons, List.length_nil, List.length_take, List.length_drop]; omega)) only [a4, ↓aPre, aPost, oneW, allOne, retV, retVA, simprocAttr]
    refine call_giv lives_giv ?_
    simp -dsimp -implicitDefEqProofs (disch := first | omega | (simp only [List.length_append, List.length_cons, List.length_nil, List.length_take, List.length_drop]; omega)) only [↓aPre, aPost, oneW, allOne, retV, retVA, simprocAttr]
    refine call_giv g9 ?_
    simp -dsimp -implicitDefEqProofs (disch := first | omega | (simp only [List.length_append, List.length_cons, List.length_nil, List.length_take, List.length_drop]; omega)) only [↓aPre, aPost, oneW, allOne, retV, retVA, simprocAttr]
    refine call_giv g10 ?_
    simp -dsimp -implicitDefEqProofs (disch := first | omega | (simp only [List.length_append, List.length_cons, List.length_nil, List.length_take, List.length_drop]; omega)) only [↓aPre, aPost, oneW, allOne, retV, retVA, simprocAttr]
    refine call_giv g8 ?_
    simp -dsimp -implicitDefEqProofs (disch := first | omega | (simp only [List.length_append, List.length_cons, List.length_nil, List.length_take, List.length_drop]; omega)) only [↓aPre, aPost, oneW, allOne, retV, retVA, simprocAttr]
    refine call_giv gr ?_
    simp -dsimp -implicitDefEqProofs (disch := first | omega | (simp only [List.length_append, List.length_cons, List.length_nil, List.length_take, List.length_drop]; omega)) only [↓aPre, aPost, oneW, allOne, retV, retVA, simprocAttr]
    refine call_giv g12 ?_
    simp -dsimp -implicitDefEqProofs (disch := first | omega | (simp only [List.length_append, List.length_cons, List.length_nil, List.length_take, List.length_drop]; omega)) only [str_beq hB0 hB0, ↓aPre, aPost, oneW, allOne, retV, retVA, simprocAttr]
    exact post_eq rfl
  replace hr := Decidable.not_not.1 hr
  rw [decide_eq_true hr] at gr
  obtain ⟨y, rfl⟩ := Int.eq_ofNat_of_zero_le hr.1.1
  obtain ⟨m, rfl⟩ := Int.eq_ofNat_of_zero_le (show 0 ≤ M by have := hr.2.1; omega)
  obtain ⟨d, rfl⟩ := Int.eq_ofNat_of_zero_le (show 0 ≤ D by have := hr.2.2.1; omega)
  obtain ⟨h, rfl⟩ := Int.eq_ofNat_of_zero_le hr.2.2.2.1.1
  obtain ⟨mi, rfl⟩ := Int.eq_ofNat_of_zero_le hr.2.2.2.2.1.1
  obtain ⟨s, rfl⟩ := Int.eq_ofNat_of_zero_le hr.2.2.2.2.2.1
  have g9 := text_t y m d h mi s hr
  have g10 := number_t y m d h mi s (by have := hr.1; omega) (by have := hr.2.1; omega) hr.2.2.1 hr.2.2.2.1 hr.2.2.2.2.1 hr.2.2.2.2.2
  have g12 := right_t y m d h mi s hr.1 hr.2.1 hr.2.2.1 hr.2.2.2.1 hr.2.2.2.2.1 hr.2.2.2.2.2
  have g14 := rtext_giv y m d h mi s hr
  have g15 := rnumber_giv y m d h mi s hr
  obtain ⟨n0, n1, n2, n3, n4, n5, n6⟩ := num_of hr
  have hlast := num_last hr
  have g13 := of_t _ n0 n1 y m n2
  rw [n3, n4, n5, n6] at g13
  have hTB := txt_bytes y m d h mi s
  have hln : lastN = 315569519999 := rfl
  have gnext : ∀ (z : Int), z = num y m d h mi s + 1 → z ≤ lastN → ∃ y' m' d' h' mi' s' : Nat, rightP y' m' d' h' mi' s' ∧ num y' m' d' h' mi' s' = z ∧ Giv Tryd.prog 13 [.c (.int .i64 z)] (retV [tD y' m' d' h' mi' s', .c (.int .i64 0)]) := fun z hz hzl => by
    obtain ⟨E, hE⟩ : ∃ E : Nat, z / 86400 = E := ⟨(z / 86400).toNat, by omega⟩
    obtain ⟨y', m', hd'⟩ := date_ex E
    rw [← hE] at hd'
    have hy9 := date_year hd' (by omega)
    have hdd := date_day hd'
    have gt := of_t z (by omega) hzl y' m' hd'
    obtain ⟨d', hd1⟩ : ∃ d' : Nat, 1 + (z / 86400 - yS y' - mS y' (m' - 1)) = (d' : Int) := ⟨(1 + (z / 86400 - yS y' - mS y' (m' - 1))).toNat, by omega⟩
    obtain ⟨h', hh1⟩ : ∃ h' : Nat, z / 3600 % 24 = (h' : Int) := ⟨(z / 3600 % 24).toNat, by omega⟩
    obtain ⟨i', hi1⟩ : ∃ i' : Nat, z / 60 % 60 = (i' : Int) := ⟨(z / 60 % 60).toNat, by omega⟩
    obtain ⟨s', hs1⟩ : ∃ s' : Nat, z % 60 = (s' : Int) := ⟨(z % 60).toNat, by omega⟩
    rw [hd1] at hdd
    rw [hd1, hh1, hi1, hs1] at gt
    have hm1 := hd'.m1
    have hm2 := hd'.m2
    refine ⟨y', m', d', h', i', s', ⟨by omega, by omega, hdd, by omega, by omega, by omega⟩, ?_, gt⟩
    rw [num_day]
    unfold dayN
    omega
  obtain ⟨N, hN⟩ : ∃ N, N = num y m d h mi s := ⟨_, rfl⟩
  obtain ⟨X, hX⟩ : ∃ X, X = txt y m d h mi s := ⟨_, rfl⟩
  obtain ⟨T, hT⟩ : ∃ T, T = tL y m d h mi s := ⟨_, rfl⟩
  rw [← hT] at g8 gr hLl g14 g15
  rw [← hN] at g10 g15 n0 n1 hlast g13 gnext
  rw [← hX] at g9 g14 hTB
  unfold tD at g8 g9 g10 g12 g13
  obtain ⟨N1, hN1⟩ : ∃ N1, N1 = N + 1 := ⟨_, rfl⟩
  have e1 : N + 1 = N1 := hN1.symm
  refine Giv.of (out := [.c (.bool true)]) mixed c4 (Nat.le_of_ble_eq_true rfl) ?_
  by_cases hl : N = lastN
  · obtain ⟨rfl, rfl, rfl, rfl, rfl, rfl⟩ := hlast.1 hl
    have gv := of_f N1 (.inr (by omega))
    unfold tD at gv
    simp -dsimp -implicitDefEqProofs (disch := first | omega | (simp only [List.length_append, List.length_cons, List.length_nil, List.length_take, List.length_drop]; omega)) only [a4, ↓aPre, aPost, oneW, allOne, retV, retVA, simprocAttr]
    refine call_giv lives_giv ?_
    simp -dsimp -implicitDefEqProofs (disch := first | omega | (simp only [List.length_append, List.length_cons, List.length_nil, List.length_take, List.length_drop]; omega)) only [↓aPre, aPost, oneW, allOne, retV, retVA, simprocAttr]
    refine call_giv g9 ?_
    simp -dsimp -implicitDefEqProofs (disch := first | omega | (simp only [List.length_append, List.length_cons, List.length_nil, List.length_take, List.length_drop]; omega)) only [↓aPre, aPost, oneW, allOne, retV, retVA, simprocAttr]
    refine call_giv g10 ?_
    simp -dsimp -implicitDefEqProofs (disch := first | omega | (simp only [List.length_append, List.length_cons, List.length_nil, List.length_take, List.length_drop]; omega)) only [↓aPre, aPost, oneW, allOne, retV, retVA, simprocAttr]
    refine call_giv g8 ?_
    simp -dsimp -implicitDefEqProofs (disch := first | omega | (simp only [List.length_append, List.length_cons, List.length_nil, List.length_take, List.length_drop]; omega)) only [↓aPre, aPost, oneW, allOne, retV, retVA, simprocAttr]
    refine call_giv gr ?_
    simp -dsimp -implicitDefEqProofs (disch := first | omega | (simp only [List.length_append, List.length_cons, List.length_nil, List.length_take, List.length_drop]; omega)) only [↓aPre, aPost, oneW, allOne, retV, retVA, simprocAttr]
    refine call_giv g12 ?_
    simp -dsimp -implicitDefEqProofs (disch := first | omega | (simp only [List.length_append, List.length_cons, List.length_nil, List.length_take, List.length_drop]; omega)) only [↓aPre, aPost, oneW, allOne, retV, retVA, simprocAttr]
    refine call_giv g13 ?_
    simp -dsimp -implicitDefEqProofs (disch := first | omega | (simp only [List.length_append, List.length_cons, List.length_nil, List.length_take, List.length_drop]; omega)) only [e1, ↓aPre, aPost, oneW, allOne, retV, retVA, simprocAttr]
    refine call_giv gv ?_
    simp -dsimp -implicitDefEqProofs (disch := first | omega | (simp only [List.length_append, List.length_cons, List.length_nil, List.length_take, List.length_drop]; omega)) only [beq_self_eq_true, Bool.and_true, Bool.not_true, Bool.false_eq_true, if_false, e1, ↓aPre, aPost, oneW, allOne, retV, retVA, simprocAttr]
    refine call_giv g8 ?_
    simp -dsimp -implicitDefEqProofs (disch := first | omega | (simp only [List.length_append, List.length_cons, List.length_nil, List.length_take, List.length_drop]; omega)) only [beq_self_eq_true, Bool.and_true, Bool.not_true, Bool.false_eq_true, if_false, ↓aPre, aPost, oneW, allOne, retV, retVA, simprocAttr]
    refine call_giv g14 ?_
    simp -dsimp -implicitDefEqProofs (disch := first | omega | (simp only [List.length_append, List.length_cons, List.length_nil, List.length_take, List.length_drop]; omega)) only [beq_self_eq_true, Bool.and_true, Bool.not_true, Bool.false_eq_true, if_false, str_beq hTB hTB, ↓aPre, aPost, oneW, allOne, retV, retVA, simprocAttr]
    refine call_giv g8 ?_
    simp -dsimp -implicitDefEqProofs (disch := first | omega | (simp only [List.length_append, List.length_cons, List.length_nil, List.length_take, List.length_drop]; omega)) only [beq_self_eq_true, Bool.and_true, Bool.not_true, Bool.false_eq_true, if_false, ↓aPre, aPost, oneW, allOne, retV, retVA, simprocAttr]
    refine call_giv g15 ?_
    simp -dsimp -implicitDefEqProofs (disch := first | omega | (simp only [List.length_append, List.length_cons, List.length_nil, List.length_take, List.length_drop]; omega)) only [beq_self_eq_true, Bool.and_true, Bool.not_true, Bool.false_eq_true, if_false, str_beq hTB hTB, ↓aPre, aPost, oneW, allOne, retV, retVA, simprocAttr]
    exact post_eq rfl
  obtain ⟨y', m', d', h', mi', s', hr', hnum, gv⟩ := gnext N1 hN1 (by omega)
  have k10 := number_t y' m' d' h' mi' s' (by have := hr'.1; omega) (by have := hr'.2.1; omega) hr'.2.2.1 hr'.2.2.2.1 hr'.2.2.2.2.1 hr'.2.2.2.2.2
  have k9 := text_t y' m' d' h' mi' s' hr'
  rw [hnum] at k10
  have hlt := time_lt hr hr' (by rw [← hN, hnum]; omega)
  have b3 := dys_b y m
  have b3' := dys_b y' m'
  have hx := txt_lt (y := y) (y' := y') (m := m) (m' := m') (d := d) (d' := d') (h := h) (h' := h') (mi := mi) (mi' := mi') (s := s) (s' := s') (by have := hr.1; have := hr'.1; omega) (by have := hr.2.1; have := hr'.2.1; omega) (by have := hr.2.2.1; have := hr'.2.2.1; omega) (by have := hr.2.2.2.1; have := hr'.2.2.2.1; omega) (by have := hr.2.2.2.2.1; have := hr'.2.2.2.2.1; omega) (by have := hr.2.2.2.2.2; have := hr'.2.2.2.2.2; omega) hlt
  have hTB' := txt_bytes y' m' d' h' mi' s'
  rw [← hX] at hx
  obtain ⟨X', hX'⟩ : ∃ X, X = txt y' m' d' h' mi' s' := ⟨_, rfl⟩
  rw [← hX'] at hx hTB' k9
  have hgt := str_gt hTB hTB' hx
  have hsb : ∀ K : Value → Prop, strBin .gtr (strOfNums X') (strOfNums X) K = K (.bool true) := fun K => congrArg (fun b => K (.bool b)) hgt
  unfold tD at gv k9 k10
  have hne : ¬ (y = 9999 ∧ m = 12 ∧ d = 31 ∧ h = 23 ∧ mi = 59 ∧ s = 59) := fun c => hl (hlast.2 c)
  have cs : (¬ (y : Int) = 9999) ∨ ((y : Int) = 9999 ∧ ¬ (m : Int) = 12) ∨ ((y : Int) = 9999 ∧ (m : Int) = 12 ∧ ¬ (d : Int) = 31) ∨ ((y : Int) = 9999 ∧ (m : Int) = 12 ∧ (d : Int) = 31 ∧ ¬ (h : Int) = 23) ∨ ((y : Int) = 9999 ∧ (m : Int) = 12 ∧ (d : Int) = 31 ∧ (h : Int) = 23 ∧ ¬ (mi : Int) = 59) ∨ ((y : Int) = 9999 ∧ (m : Int) = 12 ∧ (d : Int) = 31 ∧ (h : Int) = 23 ∧ (mi : Int) = 59 ∧ ¬ (s : Int) = 59) := by omega
  have hcs : ((y : Int) == 9999 && ((m : Int) == 12 && ((d : Int) == 31 && ((h : Int) == 23 && ((mi : Int) == 59 && ((s : Int) == 59)))))) = false := by
    rcases cs with c | ⟨c0, c⟩ | ⟨c0, c1, c⟩ | ⟨c0, c1, c2, c⟩ | ⟨c0, c1, c2, c3, c⟩ | ⟨c0, c1, c2, c3, c4, c⟩
    all_goals
      simp only [ibeq_f c, Bool.false_and, Bool.and_false]
  simp -dsimp -implicitDefEqProofs (disch := first | omega | (simp only [List.length_append, List.length_cons, List.length_nil, List.length_take, List.length_drop]; omega)) only [a4, ↓aPre, aPost, oneW, allOne, retV, retVA, simprocAttr]
  refine call_giv lives_giv ?_
  simp -dsimp -implicitDefEqProofs (disch := first | omega | (simp only [List.length_append, List.length_cons, List.length_nil, List.length_take, List.length_drop]; omega)) only [↓aPre, aPost, oneW, allOne, retV, retVA, simprocAttr]
  refine call_giv g9 ?_
  simp -dsimp -implicitDefEqProofs (disch := first | omega | (simp only [List.length_append, List.length_cons, List.length_nil, List.length_take, List.length_drop]; omega)) only [↓aPre, aPost, oneW, allOne, retV, retVA, simprocAttr]
  refine call_giv g10 ?_
  simp -dsimp -implicitDefEqProofs (disch := first | omega | (simp only [List.length_append, List.length_cons, List.length_nil, List.length_take, List.length_drop]; omega)) only [↓aPre, aPost, oneW, allOne, retV, retVA, simprocAttr]
  refine call_giv g8 ?_
  simp -dsimp -implicitDefEqProofs (disch := first | omega | (simp only [List.length_append, List.length_cons, List.length_nil, List.length_take, List.length_drop]; omega)) only [↓aPre, aPost, oneW, allOne, retV, retVA, simprocAttr]
  refine call_giv gr ?_
  simp -dsimp -implicitDefEqProofs (disch := first | omega | (simp only [List.length_append, List.length_cons, List.length_nil, List.length_take, List.length_drop]; omega)) only [↓aPre, aPost, oneW, allOne, retV, retVA, simprocAttr]
  refine call_giv g12 ?_
  simp -dsimp -implicitDefEqProofs (disch := first | omega | (simp only [List.length_append, List.length_cons, List.length_nil, List.length_take, List.length_drop]; omega)) only [↓aPre, aPost, oneW, allOne, retV, retVA, simprocAttr]
  refine call_giv g13 ?_
  simp -dsimp -implicitDefEqProofs (disch := first | omega | (simp only [List.length_append, List.length_cons, List.length_nil, List.length_take, List.length_drop]; omega)) only [e1, ↓aPre, aPost, oneW, allOne, retV, retVA, simprocAttr]
  refine call_giv gv ?_
  simp -dsimp -implicitDefEqProofs (disch := first | omega | (simp only [List.length_append, List.length_cons, List.length_nil, List.length_take, List.length_drop]; omega)) only [beq_self_eq_true, Bool.and_true, Bool.not_true, Bool.false_eq_true, if_false, e1, hcs, ↓aPre, aPost, oneW, allOne, retV, retVA, simprocAttr]
  refine call_giv g8 ?_
  simp -dsimp -implicitDefEqProofs (disch := first | omega | (simp only [List.length_append, List.length_cons, List.length_nil, List.length_take, List.length_drop]; omega)) only [beq_self_eq_true, Bool.and_true, Bool.not_true, Bool.false_eq_true, if_false, ↓aPre, aPost, oneW, allOne, retV, retVA, simprocAttr]
  refine call_giv g14 ?_
  simp -dsimp -implicitDefEqProofs (disch := first | omega | (simp only [List.length_append, List.length_cons, List.length_nil, List.length_take, List.length_drop]; omega)) only [beq_self_eq_true, Bool.and_true, Bool.not_true, Bool.false_eq_true, if_false, str_beq hTB hTB, ↓aPre, aPost, oneW, allOne, retV, retVA, simprocAttr]
  refine call_giv g8 ?_
  simp -dsimp -implicitDefEqProofs (disch := first | omega | (simp only [List.length_append, List.length_cons, List.length_nil, List.length_take, List.length_drop]; omega)) only [beq_self_eq_true, Bool.and_true, Bool.not_true, Bool.false_eq_true, if_false, ↓aPre, aPost, oneW, allOne, retV, retVA, simprocAttr]
  refine call_giv g15 ?_
  simp -dsimp -implicitDefEqProofs (disch := first | omega | (simp only [List.length_append, List.length_cons, List.length_nil, List.length_take, List.length_drop]; omega)) only [beq_self_eq_true, Bool.and_true, Bool.not_true, Bool.false_eq_true, if_false, str_beq hTB hTB, hcs, ↓aPre, aPost, oneW, allOne, retV, retVA, simprocAttr]
  refine call_giv k10 ?_
  simp -dsimp -implicitDefEqProofs (disch := first | omega | (simp only [List.length_append, List.length_cons, List.length_nil, List.length_take, List.length_drop]; omega)) only [beq_self_eq_true, Bool.and_true, Bool.not_true, Bool.false_eq_true, if_false, e1, ↓aPre, aPost, oneW, allOne, retV, retVA, simprocAttr]
  refine call_giv k9 ?_
  simp -dsimp -implicitDefEqProofs (disch := first | omega | (simp only [List.length_append, List.length_cons, List.length_nil, List.length_take, List.length_drop]; omega)) only [beq_self_eq_true, Bool.and_true, Bool.not_true, Bool.false_eq_true, if_false, e1, hsb, ↓aPre, aPost, oneW, allOne, retV, retVA, simprocAttr]
  exact post_eq rfl
end Go.Proofs.YtfighiceodplnaaDoor

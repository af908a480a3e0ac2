/- The reference's number of a time, and its reading of a text. No condition but what each says. -/
import Derived.Test.YtfighiceodplnaaDoorWRef
set_option linter.unusedSimpArgs false
set_option linter.unusedVariables false
set_option maxRecDepth 8000
set_option maxHeartbeats 4000000
namespace Go.Proofs.YtfighiceodplnaaDoor
open Go.Eng Go.RowKit
theorem rnumber_giv (y m : Nat) (d h mi s : Int) (hr : rightP y m d h mi s) : Giv Tryd.prog 15 [.lst 1 (li .i64 (tL y m d h mi s))] (retV [.c (.int .i64 (num y m d h mi s))]) := by
  obtain ⟨r1, r2, r3, r4, r5, r6⟩ := hr
  have hl : (tL y m d h mi s).length = 6 := rfl
  have q0 : (tL y m d h mi s).getD 0 0 = y := rfl
  have q1 : (tL y m d h mi s).getD 1 0 = m := rfl
  have q2 : (tL y m d h mi s).getD 2 0 = d := rfl
  have q3 : (tL y m d h mi s).getD 3 0 = h := rfl
  have q4 : (tL y m d h mi s).getD 4 0 = mi := rfl
  have q5 : (tL y m d h mi s).getD 5 0 = s := rfl
  have hdb := dys_b y m
  obtain ⟨T, hT⟩ : ∃ T, T = tL y m d h mi s := ⟨_, rfl⟩
  rw [← hT] at hl q0 q1 q2 q3 q4 q5 ⊢
  have hY0 := yS_b y
  refine Giv.of mixed c15 (Nat.le_of_ble_eq_true rfl) ?_
  simp -dsimp -implicitDefEqProofs (disch := first | omega | (simp only [List.length_append, List.length_cons, List.length_nil, List.length_take, List.length_drop]; omega)) only [a15, ↓aPre, aPost, oneW, allOne, retV, retVA, simprocAttr]
  refine loop_of (fun s => ∃ (k : Nat), k ≤ y ∧ s.tm 4 = .d (.c (.int .i64 k)) ∧ s.tm 3 = .d (.c (.int .i64 (yS k))) ∧ s.tm 0 = .d (.lst 1 (li .i64 T))) (fun s => y - (avN (s.tm 4)).toNat) ?_ ?_
  · refine ⟨0, by omega, ?_⟩
    simp -dsimp -implicitDefEqProofs (disch := first | omega | (simp only [List.length_append, List.length_cons, List.length_nil, List.length_take, List.length_drop]; omega)) only [yS, Int.natCast_zero, ↓aPre, aPost, oneW, allOne, retV, retVA, simprocAttr]
  rintro s1 ⟨k, hk, hs⟩
  have hyb := yS_b k
  have hfb := feb_b k
  by_cases hlt : k < y
  · have h1 : (daysL (k : Int)).getD 1 0 = feb k := rfl
    have hl2 : (daysL (k : Int)).length = 12 := rfl
    simp -dsimp -implicitDefEqProofs (disch := first | omega | (simp only [List.length_append, List.length_cons, List.length_nil, List.length_take, List.length_drop]; omega)) only [hs, hl, q0, ↓aPre, aPost, oneW, allOne, retV, retVA, simprocAttr]
    refine call_giv (rdays_giv k (by omega)) ?_
    simp -dsimp -implicitDefEqProofs (disch := first | omega | (simp only [List.length_append, List.length_cons, List.length_nil, List.length_take, List.length_drop]; omega)) only [hs, h1, hl2, ↓aPre, aPost, oneW, allOne, retV, retVA, simprocAttr]
    refine round_of ⟨k + 1, by omega, ?_⟩ ?_
    · simp -dsimp -implicitDefEqProofs (disch := first | omega | (simp only [List.length_append, List.length_cons, List.length_nil, List.length_take, List.length_drop]; omega)) only [hs, h1, hl2, yS, Int.add_assoc, ↓aPre, aPost, oneW, allOne, retV, retVA, simprocAttr]
    · simp -dsimp -implicitDefEqProofs (disch := first | omega | (simp only [List.length_append, List.length_cons, List.length_nil, List.length_take, List.length_drop]; omega)) only [hs, ↓aPre, aPost, oneW, allOne, retV, retVA, simprocAttr]
      omega
  · obtain rfl : k = y := by omega
    simp -dsimp -implicitDefEqProofs (disch := first | omega | (simp only [List.length_append, List.length_cons, List.length_nil, List.length_take, List.length_drop]; omega)) only [hs, hl, q0, ↓aPre, aPost, oneW, allOne, retV, retVA, simprocAttr]
    refine loop_of (fun s => ∃ (j : Nat), j + 1 ≤ m ∧ s.tm 5 = .d (.c (.int .i64 (j + 1 : Nat))) ∧ s.tm 3 = .d (.c (.int .i64 (yS k + mS k j))) ∧ s.tm 0 = .d (.lst 1 (li .i64 T))) (fun s => m - (avN (s.tm 5)).toNat) ?_ ?_
    · refine ⟨0, by omega, ?_⟩
      simp -dsimp -implicitDefEqProofs (disch := first | omega | (simp only [List.length_append, List.length_cons, List.length_nil, List.length_take, List.length_drop]; omega)) only [hs, mS, Int.natCast_zero, Int.add_zero, ↓aPre, aPost, oneW, allOne, retV, retVA, simprocAttr]
    rintro s2 ⟨j, hj, hs2⟩
    have hmb := mS_b k j
    by_cases hj2 : j + 1 < m
    · have hdk := dys_b k (j + 1 : Nat)
      have hg := daysL_get k j (by omega)
      have hl2 : (daysL (k : Int)).length = 12 := rfl
      have e1 : ((j : Int) + 1 - 1).toNat = j := by omega
      rw [Int.natCast_add, Int.natCast_one] at hdk hg
      simp -dsimp -implicitDefEqProofs (disch := first | omega | (simp only [List.length_append, List.length_cons, List.length_nil, List.length_take, List.length_drop]; omega)) only [hs2, hl, q0, q1, ↓aPre, aPost, oneW, allOne, retV, retVA, simprocAttr]
      refine call_giv (rdays_giv k (by omega)) ?_
      simp -dsimp -implicitDefEqProofs (disch := first | omega | (simp only [List.length_append, List.length_cons, List.length_nil, List.length_take, List.length_drop]; omega)) only [hs2, hl, q0, q1, hl2, e1, hg, ↓aPre, aPost, oneW, allOne, retV, retVA, simprocAttr]
      refine round_of ⟨j + 1, by omega, ?_⟩ ?_
      · simp -dsimp -implicitDefEqProofs (disch := first | omega | (simp only [List.length_append, List.length_cons, List.length_nil, List.length_take, List.length_drop]; omega)) only [hs2, hl2, e1, hg, mS, Int.add_assoc, ↓aPre, aPost, oneW, allOne, retV, retVA, simprocAttr]
      · simp -dsimp -implicitDefEqProofs (disch := first | omega | (simp only [List.length_append, List.length_cons, List.length_nil, List.length_take, List.length_drop]; omega)) only [hs2, ↓aPre, aPost, oneW, allOne, retV, retVA, simprocAttr]
        omega
    · obtain rfl : m = j + 1 := by omega
      simp -dsimp -implicitDefEqProofs (disch := first | omega | (simp only [List.length_append, List.length_cons, List.length_nil, List.length_take, List.length_drop]; omega)) only [hs2, hl, q1, q2, q3, q4, q5, ↓aPre, aPost, oneW, allOne, retV, retVA, simprocAttr]
      refine post_eq ?_
      rw [num, Nat.add_sub_cancel]
      congr 3
      omega
def numD (l : List Int) : Int := if isD l then (vf 0 l : Nat) else -1
theorem rnum_giv (l : List Int) (hb : Bytes l) (h : l.length ≤ 4) : Giv Tryd.prog 16 [.c (.string (strOfNums l))] (retV [.c (.int .i64 (numD l))]) := by
  refine Giv.of mixed c16 (Nat.le_of_ble_eq_true rfl) ?_
  simp -dsimp -implicitDefEqProofs (disch := first | omega | (simp only [List.length_append, List.length_cons, List.length_nil, List.length_take, List.length_drop]; omega)) only [a16, ↓aPre, aPost, oneW, allOne, retV, retVA, simprocAttr]
  refine loop_of (fun s => ∃ k : Nat, k ≤ l.length ∧ (∀ j, j < k → 48 ≤ l.getD j 0 ∧ l.getD j 0 ≤ 57) ∧ s.tm 4 = .d (.c (.int .i64 k)) ∧ s.tm 3 = .d (.c (.int .i64 (vf 0 (l.take k) : Nat))) ∧ s.tm 0 = .d (.c (.string (strOfNums l)))) (fun s => l.length - (avN (s.tm 4)).toNat) ?_ ?_
  · refine ⟨0, Nat.zero_le _, fun j hj => by omega, ?_⟩
    have e0 : vf 0 [] = 0 := rfl
    simp -dsimp -implicitDefEqProofs (disch := first | omega | (simp only [List.length_append, List.length_cons, List.length_nil, List.length_take, List.length_drop]; omega)) only [Int.natCast_zero, e0, ↓aPre, aPost, oneW, allOne, retV, retVA, simprocAttr]
  rintro s ⟨k, hk, hj, hs⟩
  have dig : isD (l.take k) := by
    intro z hz
    obtain ⟨j, hj2, rfl⟩ := List.getElem_of_mem hz
    rw [List.length_take] at hj2
    have := hj j (by omega)
    simp only [List.getD, List.getElem?_eq_getElem (show j < l.length by omega), Option.getD_some] at this
    rw [List.getElem_take]
    exact this
  have hlt10 := vf_lt (l.take k) 0 1 dig (by decide)
  rw [List.length_take, Nat.one_mul, Nat.min_eq_left hk] at hlt10
  have hpw : 10 ^ k ≤ 10 ^ 4 := Nat.pow_le_pow_right (by decide) (by omega)
  by_cases hlt : k < l.length
  · have hg := str_get hb hlt
    have hz := hb.get k
    have hsn : vf 0 (l.take (k + 1)) = 10 * vf 0 (l.take k) + (l.getD k 0 - 48).toNat := by rw [take_at hlt, vf_snoc1]
    have hin : isD l → 48 ≤ l.getD k 0 ∧ l.getD k 0 ≤ 57 := fun c => by
      simp only [List.getD, List.getElem?_eq_getElem hlt, Option.getD_some]
      exact c _ (List.getElem_mem _)
    obtain ⟨z, hze⟩ : ∃ z, z = l.getD k 0 := ⟨_, rfl⟩
    obtain ⟨n, hn⟩ : ∃ n, n = vf 0 (l.take k) := ⟨_, rfl⟩
    rw [← hze] at hg hz hsn hin
    rw [← hn] at hs hsn hlt10
    by_cases c1 : 48 ≤ z ∧ z ≤ 57
    · obtain ⟨c1, c2⟩ := c1
      have e1 : 10 * (n : Int) + (z - 48) = ((10 * n + (z - 48).toNat : Nat) : Int) := by omega
      rw [← hsn] at e1
      simp -dsimp -implicitDefEqProofs (disch := first | omega | (simp only [List.length_append, List.length_cons, List.length_nil, List.length_take, List.length_drop]; omega)) only [hs, hg, e1, ↓aPre, aPost, oneW, allOne, retV, retVA, simprocAttr]
      refine round_of ⟨k + 1, by omega, fun j hjk => ?_, ?_⟩ ?_
      · by_cases e : j < k
        · exact hj j e
        · obtain rfl : j = k := by omega
          rw [← hze]; exact ⟨c1, c2⟩
      · simp -dsimp -implicitDefEqProofs (disch := first | omega | (simp only [List.length_append, List.length_cons, List.length_nil, List.length_take, List.length_drop]; omega)) only [hs, ↓aPre, aPost, oneW, allOne, retV, retVA, simprocAttr]
      · simp -dsimp -implicitDefEqProofs (disch := first | omega | (simp only [List.length_append, List.length_cons, List.length_nil, List.length_take, List.length_drop]; omega)) only [hs, ↓aPre, aPost, oneW, allOne, retV, retVA, simprocAttr]
        omega
    · rw [show numD l = -1 from if_neg (fun c => c1 (hin c))]
      by_cases c2 : z < 48
      · simp -dsimp -implicitDefEqProofs (disch := first | omega | (simp only [List.length_append, List.length_cons, List.length_nil, List.length_take, List.length_drop]; omega)) only [hs, hg, ↓aPre, aPost, oneW, allOne, retV, retVA, simprocAttr]
        exact post_eq rfl
      · simp -dsimp -implicitDefEqProofs (disch := first | omega | (simp only [List.length_append, List.length_cons, List.length_nil, List.length_take, List.length_drop]; omega)) only [hs, hg, ↓aPre, aPost, oneW, allOne, retV, retVA, simprocAttr]
        exact post_eq rfl
  · have hka : l.take k = l := take_all (by omega)
    rw [hka] at hs dig
    rw [show numD l = ((vf 0 l : Nat) : Int) from if_pos dig]
    simp -dsimp -implicitDefEqProofs (disch := first | omega | (simp only [List.length_append, List.length_cons, List.length_nil, List.length_take, List.length_drop]; omega)) only [hs, ↓aPre, aPost, oneW, allOne, retV, retVA, simprocAttr]
    exact post_eq rfl
def rparD (l : List Int) : List D := if okF l then (if rightP (fv l 0 4) (fv l 5 2) (fv l 8 2) (fv l 11 2) (fv l 14 2) (fv l 17 2) then [.lst 1 (li .i64 (tL (fv l 0 4) (fv l 5 2) (fv l 8 2) (fv l 11 2) (fv l 14 2) (fv l 17 2))), .c (.int .i64 0)] else [.lst 1 [], .c (.int .i64 1)]) else [.lst 1 [], .c (.int .i64 3)]
theorem rparD_3 {l : List Int} (h : ¬ okF l) : rparD l = [.lst 1 [], .c (.int .i64 3)] := if_neg h
def seg (l : List Int) (st k : Nat) : List Int := (l.drop st).take k
theorem seg_get {l : List Int} {st k j : Nat} (hj : j < k) (h : st + k ≤ l.length) : (seg l st k).getD j 0 = l.getD (st + j) 0 := by
  simp only [seg, List.getD, List.getElem?_take_of_lt hj, List.getElem?_drop]
theorem seg_isD {l : List Int} {st k : Nat} (h : st + k ≤ l.length) : isD (seg l st k) ↔ ∀ j, j < k → 48 ≤ l.getD (st + j) 0 ∧ l.getD (st + j) 0 ≤ 57 := by
  have hl : (seg l st k).length = k := by rw [seg, List.length_take, List.length_drop]; omega
  constructor
  · intro hd j hj
    rw [← seg_get hj h]
    simp only [List.getD, List.getElem?_eq_getElem (show j < (seg l st k).length by omega), Option.getD_some]
    exact hd _ (List.getElem_mem _)
  · intro hd z hz
    obtain ⟨j, hj, rfl⟩ := List.getElem_of_mem hz
    have := hd j (by omega)
    rw [← seg_get (by omega) h] at this
    simpa only [List.getD, List.getElem?_eq_getElem hj, Option.getD_some] using this
theorem numD_pos {l : List Int} : 0 ≤ numD l ↔ isD l := by
  unfold numD
  by_cases h : isD l
  · rw [if_pos h]; exact ⟨fun _ => h, fun _ => by omega⟩
  · rw [if_neg h]; exact ⟨fun c => by omega, fun c => absurd c h⟩
theorem numD_t {l : List Int} {st k : Nat} (h : isD (seg l st k)) : numD (seg l st k) = (fv l st k : Nat) := if_pos h
theorem okF_to {l : List Int} (h : okF l) : l.getD 4 0 = 58 ∧ l.getD 7 0 = 58 ∧ l.getD 10 0 = 32 ∧ l.getD 13 0 = 58 ∧ l.getD 16 0 = 58 ∧ isD (seg l 0 4) ∧ isD (seg l 5 2) ∧ isD (seg l 8 2) ∧ isD (seg l 11 2) ∧ isD (seg l 14 2) ∧ isD (seg l 17 2) := by
  obtain ⟨hl, h⟩ := h
  refine ⟨(okc_s (by decide)).1 (h 4 (by decide)), (okc_s (by decide)).1 (h 7 (by decide)), (okc_s (by decide)).1 (h 10 (by decide)), (okc_s (by decide)).1 (h 13 (by decide)), (okc_s (by decide)).1 (h 16 (by decide)), (seg_isD (by omega)).2 fun j hj => (okc_d (by rcases (show j = 0 ∨ j = 1 ∨ j = 2 ∨ j = 3 by omega) with rfl | rfl | rfl | rfl <;> rfl)).1 (h _ (by omega)), (seg_isD (by omega)).2 fun j hj => (okc_d (by rcases (show j = 0 ∨ j = 1 by omega) with rfl | rfl <;> rfl)).1 (h _ (by omega)), (seg_isD (by omega)).2 fun j hj => (okc_d (by rcases (show j = 0 ∨ j = 1 by omega) with rfl | rfl <;> rfl)).1 (h _ (by omega)), (seg_isD (by omega)).2 fun j hj => (okc_d (by rcases (show j = 0 ∨ j = 1 by omega) with rfl | rfl <;> rfl)).1 (h _ (by omega)), (seg_isD (by omega)).2 fun j hj => (okc_d (by rcases (show j = 0 ∨ j = 1 by omega) with rfl | rfl <;> rfl)).1 (h _ (by omega)), (seg_isD (by omega)).2 fun j hj => (okc_d (by rcases (show j = 0 ∨ j = 1 by omega) with rfl | rfl <;> rfl)).1 (h _ (by omega))⟩
theorem okF_of {l : List Int} (hl : l.length = 19) (s4 : l.getD 4 0 = 58) (s7 : l.getD 7 0 = 58) (s10 : l.getD 10 0 = 32) (s13 : l.getD 13 0 = 58) (s16 : l.getD 16 0 = 58) (g0 : isD (seg l 0 4)) (g5 : isD (seg l 5 2)) (g8 : isD (seg l 8 2)) (g11 : isD (seg l 11 2)) (g14 : isD (seg l 14 2)) (g17 : isD (seg l 17 2)) : okF l := by
  refine ⟨hl, fun j hj => ?_⟩
  rcases (show j = 0 ∨ j = 1 ∨ j = 2 ∨ j = 3 ∨ j = 4 ∨ j = 5 ∨ j = 6 ∨ j = 7 ∨ j = 8 ∨ j = 9 ∨ j = 10 ∨ j = 11 ∨ j = 12 ∨ j = 13 ∨ j = 14 ∨ j = 15 ∨ j = 16 ∨ j = 17 ∨ j = 18 by omega) with rfl | rfl | rfl | rfl | rfl | rfl | rfl | rfl | rfl | rfl | rfl | rfl | rfl | rfl | rfl | rfl | rfl | rfl | rfl
  · exact (okc_d rfl).2 ((seg_isD (by omega)).1 g0 0 (by decide))
  · exact (okc_d rfl).2 ((seg_isD (by omega)).1 g0 1 (by decide))
  · exact (okc_d rfl).2 ((seg_isD (by omega)).1 g0 2 (by decide))
  · exact (okc_d rfl).2 ((seg_isD (by omega)).1 g0 3 (by decide))
  · exact (okc_s (by decide)).2 s4
  · exact (okc_d rfl).2 ((seg_isD (by omega)).1 g5 0 (by decide))
  · exact (okc_d rfl).2 ((seg_isD (by omega)).1 g5 1 (by decide))
  · exact (okc_s (by decide)).2 s7
  · exact (okc_d rfl).2 ((seg_isD (by omega)).1 g8 0 (by decide))
  · exact (okc_d rfl).2 ((seg_isD (by omega)).1 g8 1 (by decide))
  · exact (okc_s (by decide)).2 s10
  · exact (okc_d rfl).2 ((seg_isD (by omega)).1 g11 0 (by decide))
  · exact (okc_d rfl).2 ((seg_isD (by omega)).1 g11 1 (by decide))
  · exact (okc_s (by decide)).2 s13
  · exact (okc_d rfl).2 ((seg_isD (by omega)).1 g14 0 (by decide))
  · exact (okc_d rfl).2 ((seg_isD (by omega)).1 g14 1 (by decide))
  · exact (okc_s (by decide)).2 s16
  · exact (okc_d rfl).2 ((seg_isD (by omega)).1 g17 0 (by decide))
  · exact (okc_d rfl).2 ((seg_isD (by omega)).1 g17 1 (by decide))
theorem rparse_giv (l : List Int) (hb : Bytes l) : Giv Tryd.prog 7 [.c (.string (strOfNums l))] (retV (rparD l)) := by
  refine Giv.of mixed c7 (Nat.le_of_ble_eq_true rfl) ?_
  by_cases hl : ¬ l.length = 19
  · rw [rparD_3 (fun c => hl c.1)]
    have hlI : ¬ (l.length : Int) = 19 := by omega
    simp -dsimp -implicitDefEqProofs (disch := first | omega | (simp only [List.length_append, List.length_cons, List.length_nil, List.length_take, List.length_drop]; omega)) only [a7, hlI, ↓aPre, aPost, oneW, allOne, retV, retVA, simprocAttr]
    exact post_le (by repeat (first | exact leD.nil | exact leE.refl _ | exact leE.nil _ | refine leD.cons ?_ ?_ | refine leE.agg ?_))
  replace hl := Decidable.not_not.1 hl
  by_cases s4 : ¬ l.getD 4 0 = 58
  · rw [rparD_3 (fun c => s4 (okF_to c).1)]
    simp -dsimp -implicitDefEqProofs (disch := first | omega | (simp only [List.length_append, List.length_cons, List.length_nil, List.length_take, List.length_drop]; omega)) only [a7, hl, str_get hb, s4, ↓aPre, aPost, oneW, allOne, retV, retVA, simprocAttr]
    exact post_le (by repeat (first | exact leD.nil | exact leE.refl _ | exact leE.nil _ | refine leD.cons ?_ ?_ | refine leE.agg ?_))
  replace s4 := Decidable.not_not.1 s4
  by_cases s7 : ¬ l.getD 7 0 = 58
  · rw [rparD_3 (fun c => s7 (okF_to c).2.1)]
    simp -dsimp -implicitDefEqProofs (disch := first | omega | (simp only [List.length_append, List.length_cons, List.length_nil, List.length_take, List.length_drop]; omega)) only [a7, hl, str_get hb, s4, s7, ↓aPre, aPost, oneW, allOne, retV, retVA, simprocAttr]
    exact post_le (by repeat (first | exact leD.nil | exact leE.refl _ | exact leE.nil _ | refine leD.cons ?_ ?_ | refine leE.agg ?_))
  replace s7 := Decidable.not_not.1 s7
  by_cases s10 : ¬ l.getD 10 0 = 32
  · rw [rparD_3 (fun c => s10 (okF_to c).2.2.1)]
    simp -dsimp -implicitDefEqProofs (disch := first | omega | (simp only [List.length_append, List.length_cons, List.length_nil, List.length_take, List.length_drop]; omega)) only [a7, hl, str_get hb, s4, s7, s10, ↓aPre, aPost, oneW, allOne, retV, retVA, simprocAttr]
    exact post_le (by repeat (first | exact leD.nil | exact leE.refl _ | exact leE.nil _ | refine leD.cons ?_ ?_ | refine leE.agg ?_))
  replace s10 := Decidable.not_not.1 s10
  by_cases s13 : ¬ l.getD 13 0 = 58
  · rw [rparD_3 (fun c => s13 (okF_to c).2.2.2.1)]
    simp -dsimp -implicitDefEqProofs (disch := first | omega | (simp only [List.length_append, List.length_cons, List.length_nil, List.length_take, List.length_drop]; omega)) only [a7, hl, str_get hb, s4, s7, s10, s13, ↓aPre, aPost, oneW, allOne, retV, retVA, simprocAttr]
    exact post_le (by repeat (first | exact leD.nil | exact leE.refl _ | exact leE.nil _ | refine leD.cons ?_ ?_ | refine leE.agg ?_))
  replace s13 := Decidable.not_not.1 s13
  by_cases s16 : ¬ l.getD 16 0 = 58
  · rw [rparD_3 (fun c => s16 (okF_to c).2.2.2.2.1)]
    simp -dsimp -implicitDefEqProofs (disch := first | omega | (simp only [List.length_append, List.length_cons, List.length_nil, List.length_take, List.length_drop]; omega)) only [a7, hl, str_get hb, s4, s7, s10, s13, s16, ↓aPre, aPost, oneW, allOne, retV, retVA, simprocAttr]
    exact post_le (by repeat (first | exact leD.nil | exact leE.refl _ | exact leE.nil _ | refine leD.cons ?_ ?_ | refine leE.agg ?_))
  replace s16 := Decidable.not_not.1 s16
  have hB0 : Bytes (seg l 0 4) := (hb.drop _).take _
  have n0 := rnum_giv (seg l 0 4) hB0 (by rw [seg, List.length_take]; omega)
  have x0 := numD_pos (l := seg l 0 4)
  have z0 := numD_t (l := l) (st := 0) (k := 4)
  have y0 : numD (seg l 0 4) = -1 ∨ 0 ≤ numD (seg l 0 4) := by unfold numD; split <;> omega
  have hB1 : Bytes (seg l 5 2) := (hb.drop _).take _
  have n1 := rnum_giv (seg l 5 2) hB1 (by rw [seg, List.length_take]; omega)
  have x1 := numD_pos (l := seg l 5 2)
  have z1 := numD_t (l := l) (st := 5) (k := 2)
  have y1 : numD (seg l 5 2) = -1 ∨ 0 ≤ numD (seg l 5 2) := by unfold numD; split <;> omega
  have hB2 : Bytes (seg l 8 2) := (hb.drop _).take _
  have n2 := rnum_giv (seg l 8 2) hB2 (by rw [seg, List.length_take]; omega)
  have x2 := numD_pos (l := seg l 8 2)
  have z2 := numD_t (l := l) (st := 8) (k := 2)
  have y2 : numD (seg l 8 2) = -1 ∨ 0 ≤ numD (seg l 8 2) := by unfold numD; split <;> omega
  have hB3 : Bytes (seg l 11 2) := (hb.drop _).take _
  have n3 := rnum_giv (seg l 11 2) hB3 (by rw [seg, List.length_take]; omega)
  have x3 := numD_pos (l := seg l 11 2)
  have z3 := numD_t (l := l) (st := 11) (k := 2)
  have y3 : numD (seg l 11 2) = -1 ∨ 0 ≤ numD (seg l 11 2) := by unfold numD; split <;> omega
  have hB4 : Bytes (seg l 14 2) := (hb.drop _).take _
  have n4 := rnum_giv (seg l 14 2) hB4 (by rw [seg, List.length_take]; omega)
  have x4 := numD_pos (l := seg l 14 2)
  have z4 := numD_t (l := l) (st := 14) (k := 2)
  have y4 : numD (seg l 14 2) = -1 ∨ 0 ≤ numD (seg l 14 2) := by unfold numD; split <;> omega
  have hB5 : Bytes (seg l 17 2) := (hb.drop _).take _
  have n5 := rnum_giv (seg l 17 2) hB5 (by rw [seg, List.length_take]; omega)
  have x5 := numD_pos (l := seg l 17 2)
  have z5 := numD_t (l := l) (st := 17) (k := 2)
  have y5 : numD (seg l 17 2) = -1 ∨ 0 ≤ numD (seg l 17 2) := by unfold numD; split <;> omega
  have hof := fun a b c d e f => okF_of hl s4 s7 s10 s13 s16 a b c d e f
  have hto := fun c => (okF_to (l := l) c).2.2.2.2.2
  obtain ⟨N0, hN0⟩ : ∃ N, N = numD (seg l 0 4) := ⟨_, rfl⟩
  obtain ⟨N1, hN1⟩ : ∃ N, N = numD (seg l 5 2) := ⟨_, rfl⟩
  obtain ⟨N2, hN2⟩ : ∃ N, N = numD (seg l 8 2) := ⟨_, rfl⟩
  obtain ⟨N3, hN3⟩ : ∃ N, N = numD (seg l 11 2) := ⟨_, rfl⟩
  obtain ⟨N4, hN4⟩ : ∃ N, N = numD (seg l 14 2) := ⟨_, rfl⟩
  obtain ⟨N5, hN5⟩ : ∃ N, N = numD (seg l 17 2) := ⟨_, rfl⟩
  rw [← hN0] at n0 x0 z0 y0
  rw [← hN1] at n1 x1 z1 y1
  rw [← hN2] at n2 x2 z2 y2
  rw [← hN3] at n3 x3 z3 y3
  rw [← hN4] at n4 x4 z4 y4
  rw [← hN5] at n5 x5 z5 y5
  have hseg : seg l 0 4 = (l.drop 0).take 4 ∧ seg l 5 2 = (l.drop 5).take 2 ∧ seg l 8 2 = (l.drop 8).take 2 ∧ seg l 11 2 = (l.drop 11).take 2 ∧ seg l 14 2 = (l.drop 14).take 2 ∧ seg l 17 2 = (l.drop 17).take 2 := ⟨rfl, rfl, rfl, rfl, rfl, rfl⟩
  unfold seg at n0
  unfold seg at n1
  unfold seg at n2
  unfold seg at n3
  unfold seg at n4
  unfold seg at n5
  rw [List.drop_zero] at n0
  have e17 : (l.drop 17).take 2 = l.drop 17 := take_all (by rw [List.length_drop]; omega)
  rw [e17] at n5
  simp -dsimp -implicitDefEqProofs (disch := first | omega | (simp only [List.length_append, List.length_cons, List.length_nil, List.length_take, List.length_drop]; omega)) only [a7, hl, str_get hb, s4, s7, s10, s13, s16, ↓aPre, aPost, oneW, allOne, retV, retVA, simprocAttr]
  refine call_giv n0 ?_
  simp -dsimp -implicitDefEqProofs (disch := first | omega | (simp only [List.length_append, List.length_cons, List.length_nil, List.length_take, List.length_drop]; omega)) only [hl, ↓aPre, aPost, oneW, allOne, retV, retVA, simprocAttr]
  refine call_giv n1 ?_
  simp -dsimp -implicitDefEqProofs (disch := first | omega | (simp only [List.length_append, List.length_cons, List.length_nil, List.length_take, List.length_drop]; omega)) only [hl, ↓aPre, aPost, oneW, allOne, retV, retVA, simprocAttr]
  refine call_giv n2 ?_
  simp -dsimp -implicitDefEqProofs (disch := first | omega | (simp only [List.length_append, List.length_cons, List.length_nil, List.length_take, List.length_drop]; omega)) only [hl, ↓aPre, aPost, oneW, allOne, retV, retVA, simprocAttr]
  refine call_giv n3 ?_
  simp -dsimp -implicitDefEqProofs (disch := first | omega | (simp only [List.length_append, List.length_cons, List.length_nil, List.length_take, List.length_drop]; omega)) only [hl, ↓aPre, aPost, oneW, allOne, retV, retVA, simprocAttr]
  refine call_giv n4 ?_
  simp -dsimp -implicitDefEqProofs (disch := first | omega | (simp only [List.length_append, List.length_cons, List.length_nil, List.length_take, List.length_drop]; omega)) only [hl, ↓aPre, aPost, oneW, allOne, retV, retVA, simprocAttr]
  refine call_giv n5 ?_
  simp -dsimp -implicitDefEqProofs (disch := first | omega | (simp only [List.length_append, List.length_cons, List.length_nil, List.length_take, List.length_drop]; omega)) only [hl, ↓aPre, aPost, oneW, allOne, retV, retVA, simprocAttr]
  have hLl : ([N0, N1, N2, N3, N4, N5] : List Int).length = 6 := rfl
  refine loop_of (fun s => ∃ k : Nat, k ≤ 6 ∧ (∀ j, j < k → 0 ≤ ([N0, N1, N2, N3, N4, N5] : List Int).getD j 0) ∧ s.tm 5 = .d (.c (.int .i64 k)) ∧ s.tm 4 = .d (.lst 1 (li .i64 [N0, N1, N2, N3, N4, N5]))) (fun s => 6 - (avN (s.tm 5)).toNat) ?_ ?_
  · refine ⟨0, by omega, fun j hj => by omega, ?_⟩
    simp -dsimp -implicitDefEqProofs (disch := first | omega | (simp only [List.length_append, List.length_cons, List.length_nil, List.length_take, List.length_drop]; omega)) only [Int.natCast_zero, ↓aPre, aPost, oneW, allOne, retV, retVA, simprocAttr]
    rfl
  rintro s ⟨k, hk, hj, hs⟩
  by_cases hlt : k < 6
  · obtain ⟨z, hz⟩ : ∃ z, z = ([N0, N1, N2, N3, N4, N5] : List Int).getD k 0 := ⟨_, rfl⟩
    have hzz := hz.symm
    have hzb : -1 ≤ z := by
      rcases (show k = 0 ∨ k = 1 ∨ k = 2 ∨ k = 3 ∨ k = 4 ∨ k = 5 by omega) with rfl | rfl | rfl | rfl | rfl | rfl
      all_goals
        simp only [List.getD_cons_zero, List.getD_cons_succ] at hz
        omega
    by_cases c : z < 0
    · have hbad : ¬ okF l := fun hF => by
        obtain ⟨a0, a1, a2, a3, a4, a5⟩ := hto hF
        have := x0.2 a0; have := x1.2 a1; have := x2.2 a2; have := x3.2 a3; have := x4.2 a4; have := x5.2 a5
        rcases (show k = 0 ∨ k = 1 ∨ k = 2 ∨ k = 3 ∨ k = 4 ∨ k = 5 by omega) with rfl | rfl | rfl | rfl | rfl | rfl
        all_goals
          simp only [List.getD_cons_zero, List.getD_cons_succ] at hz
          omega
      rw [rparD_3 hbad]
      simp -dsimp -implicitDefEqProofs (disch := first | omega | (simp only [List.length_append, List.length_cons, List.length_nil, List.length_take, List.length_drop]; omega)) only [hs, hLl, hzz, ↓aPre, aPost, oneW, allOne, retV, retVA, simprocAttr]
      exact post_le (by repeat (first | exact leD.nil | exact leE.refl _ | exact leE.nil _ | refine leD.cons ?_ ?_ | refine leE.agg ?_))
    · simp -dsimp -implicitDefEqProofs (disch := first | omega | (simp only [List.length_append, List.length_cons, List.length_nil, List.length_take, List.length_drop]; omega)) only [hs, hLl, hzz, ↓aPre, aPost, oneW, allOne, retV, retVA, simprocAttr]
      refine round_of ⟨k + 1, by omega, fun j hjk => ?_, ?_⟩ ?_
      · by_cases e : j < k
        · exact hj j e
        · obtain rfl : j = k := by omega
          omega
      · simp -dsimp -implicitDefEqProofs (disch := first | omega | (simp only [List.length_append, List.length_cons, List.length_nil, List.length_take, List.length_drop]; omega)) only [hs, ↓aPre, aPost, oneW, allOne, retV, retVA, simprocAttr]
      · simp -dsimp -implicitDefEqProofs (disch := first | omega | (simp only [List.length_append, List.length_cons, List.length_nil, List.length_take, List.length_drop]; omega)) only [hs, ↓aPre, aPost, oneW, allOne, retV, retVA, simprocAttr]
        omega
  · obtain rfl : k = 6 := by omega
    have a0 := x0.1 (hj 0 (by decide))
    have a1 := x1.1 (hj 1 (by decide))
    have a2 := x2.1 (hj 2 (by decide))
    have a3 := x3.1 (hj 3 (by decide))
    have a4 := x4.1 (hj 4 (by decide))
    have a5 := x5.1 (hj 5 (by decide))
    have hF := hof a0 a1 a2 a3 a4 a5
    have gr := rright_giv N0 N1 N2 N3 N4 N5
    rw [z0 a0, z1 a1, z2 a2, z3 a3, z4 a4, z5 a5] at gr hs hLl
    unfold rparD
    rw [if_pos hF]
    by_cases hr : rightP (fv l 0 4) (fv l 5 2) (fv l 8 2) (fv l 11 2) (fv l 14 2) (fv l 17 2)
    · rw [decide_eq_true hr] at gr
      rw [if_pos hr]
      unfold tL at gr ⊢
      simp -dsimp -implicitDefEqProofs (disch := first | omega | (simp only [List.length_append, List.length_cons, List.length_nil, List.length_take, List.length_drop]; omega)) only [hs, hLl, ↓aPre, aPost, oneW, allOne, retV, retVA, simprocAttr]
      refine call_giv gr ?_
      simp -dsimp -implicitDefEqProofs (disch := first | omega | (simp only [List.length_append, List.length_cons, List.length_nil, List.length_take, List.length_drop]; omega)) only [hs, ↓aPre, aPost, oneW, allOne, retV, retVA, simprocAttr]
      exact post_eq rfl
    · rw [decide_eq_false hr] at gr
      rw [if_neg hr]
      unfold tL at gr
      simp -dsimp -implicitDefEqProofs (disch := first | omega | (simp only [List.length_append, List.length_cons, List.length_nil, List.length_take, List.length_drop]; omega)) only [hs, hLl, ↓aPre, aPost, oneW, allOne, retV, retVA, simprocAttr]
      refine call_giv gr ?_
      simp -dsimp -implicitDefEqProofs (disch := first | omega | (simp only [List.length_append, List.length_cons, List.length_nil, List.length_take, List.length_drop]; omega)) only [hs, ↓aPre, aPost, oneW, allOne, retV, retVA, simprocAttr]
      exact post_le (by repeat (first | exact leD.nil | exact leE.refl _ | exact leE.nil _ | refine leD.cons ?_ ?_ | refine leE.agg ?_))
end Go.Proofs.YtfighiceodplnaaDoor

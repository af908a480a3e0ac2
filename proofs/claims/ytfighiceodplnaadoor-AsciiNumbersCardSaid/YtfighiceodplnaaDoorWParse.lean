/- The time of a text. No condition but what each says. -/
import Derived.Test.YtfighiceodplnaaDoorWTime
set_option linter.unusedSimpArgs false
set_option linter.unusedVariables false
set_option maxRecDepth 8000
set_option maxHeartbeats 4000000
namespace Go.Proofs.YtfighiceodplnaaDoor
open Go.Eng Go.RowKit
def fm : List Int := [48, 48, 48, 48, 58, 48, 48, 58, 48, 48, 32, 48, 48, 58, 48, 48, 58, 48, 48]
/-- the byte at place j is as times are written -/
def okc (l : List Int) (j : Nat) : Prop := if fm.getD j 0 = 48 then 48 ≤ l.getD j 0 ∧ l.getD j 0 ≤ 57 else l.getD j 0 = fm.getD j 0
instance (l : List Int) (j : Nat) : Decidable (okc l j) := by unfold okc; infer_instance
def okF (l : List Int) : Prop := l.length = 19 ∧ ∀ j, j < 19 → okc l j
instance (l : List Int) : Decidable (okF l) := by unfold okF; infer_instance
instance (y m d h mi s : Int) : Decidable (rightP y m d h mi s) := by unfold rightP; infer_instance
/-- what so many digits from a place on are worth -/
def fv (l : List Int) (st k : Nat) : Nat := vf 0 ((l.drop st).take k)
theorem fv_0 (l : List Int) (st : Nat) : fv l st 0 = 0 := by unfold fv; rw [List.take_zero]; rfl
theorem fv_step {l : List Int} {st k : Nat} (h : st + k < l.length) : fv l st (k + 1) = 10 * fv l st k + (l.getD (st + k) 0 - 48).toNat := by
  unfold fv
  rw [take_at (by rw [List.length_drop]; omega), vf_snoc1]
  congr 3
  simp only [List.getD, List.getElem?_drop]
def exK : List Int := [0, 0, 0, 0, 0, 1, 1, 1, 2, 2, 2, 3, 3, 3, 4, 4, 4, 5, 5, 5]
def exB (l : List Int) : Nat → List AV
  | 0 => [.d (.c (.int .i64 (fv l 0 0 : Nat))), .d (.c (.int .i64 (fv l 5 0 : Nat))), .d (.c (.int .i64 (fv l 8 0 : Nat))), .d (.c (.int .i64 (fv l 11 0 : Nat))), .d (.c (.int .i64 (fv l 14 0 : Nat))), .d (.c (.int .i64 (fv l 17 0 : Nat)))]
  | 1 => [.d (.c (.int .i64 (fv l 0 1 : Nat))), .d (.c (.int .i64 (fv l 5 0 : Nat))), .d (.c (.int .i64 (fv l 8 0 : Nat))), .d (.c (.int .i64 (fv l 11 0 : Nat))), .d (.c (.int .i64 (fv l 14 0 : Nat))), .d (.c (.int .i64 (fv l 17 0 : Nat)))]
  | 2 => [.d (.c (.int .i64 (fv l 0 2 : Nat))), .d (.c (.int .i64 (fv l 5 0 : Nat))), .d (.c (.int .i64 (fv l 8 0 : Nat))), .d (.c (.int .i64 (fv l 11 0 : Nat))), .d (.c (.int .i64 (fv l 14 0 : Nat))), .d (.c (.int .i64 (fv l 17 0 : Nat)))]
  | 3 => [.d (.c (.int .i64 (fv l 0 3 : Nat))), .d (.c (.int .i64 (fv l 5 0 : Nat))), .d (.c (.int .i64 (fv l 8 0 : Nat))), .d (.c (.int .i64 (fv l 11 0 : Nat))), .d (.c (.int .i64 (fv l 14 0 : Nat))), .d (.c (.int .i64 (fv l 17 0 : Nat)))]
  | 4 => [.d (.c (.int .i64 (fv l 0 4 : Nat))), .d (.c (.int .i64 (fv l 5 0 : Nat))), .d (.c (.int .i64 (fv l 8 0 : Nat))), .d (.c (.int .i64 (fv l 11 0 : Nat))), .d (.c (.int .i64 (fv l 14 0 : Nat))), .d (.c (.int .i64 (fv l 17 0 : Nat)))]
  | 5 => [.d (.c (.int .i64 (fv l 0 4 : Nat))), .d (.c (.int .i64 (fv l 5 0 : Nat))), .d (.c (.int .i64 (fv l 8 0 : Nat))), .d (.c (.int .i64 (fv l 11 0 : Nat))), .d (.c (.int .i64 (fv l 14 0 : Nat))), .d (.c (.int .i64 (fv l 17 0 : Nat)))]
  | 6 => [.d (.c (.int .i64 (fv l 0 4 : Nat))), .d (.c (.int .i64 (fv l 5 1 : Nat))), .d (.c (.int .i64 (fv l 8 0 : Nat))), .d (.c (.int .i64 (fv l 11 0 : Nat))), .d (.c (.int .i64 (fv l 14 0 : Nat))), .d (.c (.int .i64 (fv l 17 0 : Nat)))]
  | 7 => [.d (.c (.int .i64 (fv l 0 4 : Nat))), .d (.c (.int .i64 (fv l 5 2 : Nat))), .d (.c (.int .i64 (fv l 8 0 : Nat))), .d (.c (.int .i64 (fv l 11 0 : Nat))), .d (.c (.int .i64 (fv l 14 0 : Nat))), .d (.c (.int .i64 (fv l 17 0 : Nat)))]
  | 8 => [.d (.c (.int .i64 (fv l 0 4 : Nat))), .d (.c (.int .i64 (fv l 5 2 : Nat))), .d (.c (.int .i64 (fv l 8 0 : Nat))), .d (.c (.int .i64 (fv l 11 0 : Nat))), .d (.c (.int .i64 (fv l 14 0 : Nat))), .d (.c (.int .i64 (fv l 17 0 : Nat)))]
  | 9 => [.d (.c (.int .i64 (fv l 0 4 : Nat))), .d (.c (.int .i64 (fv l 5 2 : Nat))), .d (.c (.int .i64 (fv l 8 1 : Nat))), .d (.c (.int .i64 (fv l 11 0 : Nat))), .d (.c (.int .i64 (fv l 14 0 : Nat))), .d (.c (.int .i64 (fv l 17 0 : Nat)))]
  | 10 => [.d (.c (.int .i64 (fv l 0 4 : Nat))), .d (.c (.int .i64 (fv l 5 2 : Nat))), .d (.c (.int .i64 (fv l 8 2 : Nat))), .d (.c (.int .i64 (fv l 11 0 : Nat))), .d (.c (.int .i64 (fv l 14 0 : Nat))), .d (.c (.int .i64 (fv l 17 0 : Nat)))]
  | 11 => [.d (.c (.int .i64 (fv l 0 4 : Nat))), .d (.c (.int .i64 (fv l 5 2 : Nat))), .d (.c (.int .i64 (fv l 8 2 : Nat))), .d (.c (.int .i64 (fv l 11 0 : Nat))), .d (.c (.int .i64 (fv l 14 0 : Nat))), .d (.c (.int .i64 (fv l 17 0 : Nat)))]
  | 12 => [.d (.c (.int .i64 (fv l 0 4 : Nat))), .d (.c (.int .i64 (fv l 5 2 : Nat))), .d (.c (.int .i64 (fv l 8 2 : Nat))), .d (.c (.int .i64 (fv l 11 1 : Nat))), .d (.c (.int .i64 (fv l 14 0 : Nat))), .d (.c (.int .i64 (fv l 17 0 : Nat)))]
  | 13 => [.d (.c (.int .i64 (fv l 0 4 : Nat))), .d (.c (.int .i64 (fv l 5 2 : Nat))), .d (.c (.int .i64 (fv l 8 2 : Nat))), .d (.c (.int .i64 (fv l 11 2 : Nat))), .d (.c (.int .i64 (fv l 14 0 : Nat))), .d (.c (.int .i64 (fv l 17 0 : Nat)))]
  | 14 => [.d (.c (.int .i64 (fv l 0 4 : Nat))), .d (.c (.int .i64 (fv l 5 2 : Nat))), .d (.c (.int .i64 (fv l 8 2 : Nat))), .d (.c (.int .i64 (fv l 11 2 : Nat))), .d (.c (.int .i64 (fv l 14 0 : Nat))), .d (.c (.int .i64 (fv l 17 0 : Nat)))]
  | 15 => [.d (.c (.int .i64 (fv l 0 4 : Nat))), .d (.c (.int .i64 (fv l 5 2 : Nat))), .d (.c (.int .i64 (fv l 8 2 : Nat))), .d (.c (.int .i64 (fv l 11 2 : Nat))), .d (.c (.int .i64 (fv l 14 1 : Nat))), .d (.c (.int .i64 (fv l 17 0 : Nat)))]
  | 16 => [.d (.c (.int .i64 (fv l 0 4 : Nat))), .d (.c (.int .i64 (fv l 5 2 : Nat))), .d (.c (.int .i64 (fv l 8 2 : Nat))), .d (.c (.int .i64 (fv l 11 2 : Nat))), .d (.c (.int .i64 (fv l 14 2 : Nat))), .d (.c (.int .i64 (fv l 17 0 : Nat)))]
  | 17 => [.d (.c (.int .i64 (fv l 0 4 : Nat))), .d (.c (.int .i64 (fv l 5 2 : Nat))), .d (.c (.int .i64 (fv l 8 2 : Nat))), .d (.c (.int .i64 (fv l 11 2 : Nat))), .d (.c (.int .i64 (fv l 14 2 : Nat))), .d (.c (.int .i64 (fv l 17 0 : Nat)))]
  | 18 => [.d (.c (.int .i64 (fv l 0 4 : Nat))), .d (.c (.int .i64 (fv l 5 2 : Nat))), .d (.c (.int .i64 (fv l 8 2 : Nat))), .d (.c (.int .i64 (fv l 11 2 : Nat))), .d (.c (.int .i64 (fv l 14 2 : Nat))), .d (.c (.int .i64 (fv l 17 1 : Nat)))]
  | 19 => [.d (.c (.int .i64 (fv l 0 4 : Nat))), .d (.c (.int .i64 (fv l 5 2 : Nat))), .d (.c (.int .i64 (fv l 8 2 : Nat))), .d (.c (.int .i64 (fv l 11 2 : Nat))), .d (.c (.int .i64 (fv l 14 2 : Nat))), .d (.c (.int .i64 (fv l 17 2 : Nat)))]
  | _ => []
def parD (l : List Int) : List D := if okF l then (if rightP (fv l 0 4) (fv l 5 2) (fv l 8 2) (fv l 11 2) (fv l 14 2) (fv l 17 2) then [tD (fv l 0 4) (fv l 5 2) (fv l 8 2) (fv l 11 2) (fv l 14 2) (fv l 17 2), .c (.int .i64 0)] else [tD 0 0 0 0 0 0, .c (.int .i64 1)]) else [tD 0 0 0 0 0 0, .c (.int .i64 3)]
theorem parD_3 {l : List Int} (h : ¬ okF l) : parD l = [tD 0 0 0 0 0 0, .c (.int .i64 3)] := if_neg h
theorem okA_step {l : List Int} {i : Nat} (h : ∀ j, j < i → okc l j) (k : okc l i) : ∀ j, j < i + 1 → okc l j := fun j hj => by
  by_cases e : j < i
  · exact h j e
  · obtain rfl : j = i := by omega
    exact k
theorem okc_d {l : List Int} {i : Nat} (h : fm.getD i 0 = 48) : okc l i ↔ (48 ≤ l.getD i 0 ∧ l.getD i 0 ≤ 57) := by unfold okc; rw [if_pos h]
theorem okc_s {l : List Int} {i : Nat} (h : ¬ fm.getD i 0 = 48) : okc l i ↔ l.getD i 0 = fm.getD i 0 := by unfold okc; rw [if_neg h]
theorem fv_dig {l : List Int} (hl : l.length = 19) {st : Nat} : ∀ k : Nat, st + k ≤ 19 → (∀ j, st ≤ j → j < st + k → 48 ≤ l.getD j 0 ∧ l.getD j 0 ≤ 57) → fv l st k < 10 ^ k
  | 0, _, _ => by rw [fv_0]; decide
  | k + 1, hk, h => by
    have := fv_dig hl k (by omega) (fun j h1 h2 => h j h1 (by omega))
    have hz := h (st + k) (by omega) (by omega)
    rw [fv_step (by omega), Nat.pow_succ]
    omega
theorem parse_giv (l : List Int) (hb : Bytes l) : Giv Tryd.prog 6 [.c (.string (strOfNums l))] (retV (parD l)) := by
  refine Giv.of mixed c6 (Nat.le_of_ble_eq_true rfl) ?_
  by_cases hl : ¬ l.length = 19
  · rw [parD_3 (fun c => hl c.1)]
    unfold tD
    have hlI : ¬ (l.length : Int) = 19 := by omega
    simp -dsimp -implicitDefEqProofs (disch := first | omega | (simp only [List.length_append, List.length_cons, List.length_nil, List.length_take, List.length_drop]; omega)) only [a6, hlI, ↓aPre, aPost, oneW, allOne, retV, retVA, simprocAttr]
    exact post_eq rfl
  replace hl := Decidable.not_not.1 hl
  simp -dsimp -implicitDefEqProofs (disch := first | omega | (simp only [List.length_append, List.length_cons, List.length_nil, List.length_take, List.length_drop]; omega)) only [a6, hl, ↓aPre, aPost, oneW, allOne, retV, retVA, simprocAttr]
  refine loop_of (fun s => ∃ (i : Nat), i ≤ 19 ∧ (∀ j, j < i → okc l j) ∧ s.tm 13 = .d (.c (.int .i64 i)) ∧ s.tm 5 = .d (.c (.int .i64 (exK.getD i 0))) ∧ s.tm 0 = .d (.c (.string (strOfNums l))) ∧ s.tm 2 = .ptr 2 0 ∧ s.hp 2 = some (.box [.d (.c (.int .i64 0)), .d (.c (.int .i64 0)), .d (.c (.int .i64 0)), .d (.c (.int .i64 0)), .d (.c (.int .i64 0)), .d (.c (.int .i64 0))]) ∧ s.tm 4 = .ptr 4 0 ∧ s.hp 4 = some (.box (exB l i))) (fun s => 19 - (avN (s.tm 13)).toNat) ?_ ?_
  · refine ⟨0, by omega, fun j hj => by omega, ?_⟩
    simp -dsimp -implicitDefEqProofs (disch := first | omega | (simp only [List.length_append, List.length_cons, List.length_nil, List.length_take, List.length_drop]; omega)) only [hl, exK, exB, Int.natCast_zero, fv_0, ↓aPre, aPost, oneW, allOne, retV, retVA, simprocAttr]
  rintro s ⟨i, hi, hok, hs⟩
  have fl : ([48, 48, 48, 48, 58, 48, 48, 58, 48, 48, 32, 48, 48, 58, 48, 48, 58, 48, 48] : List Int).length = 19 := rfl
  have fb : Bytes [48, 48, 48, 48, 58, 48, 48, 58, 48, 48, 32, 48, 48, 58, 48, 48, 58, 48, 48] := by
    intro z hz
    simp only [List.mem_cons, List.not_mem_nil, or_false] at hz
    omega
  by_cases hlt : i < 19
  · match i, hlt with
    | 0, _ =>
      have hz := hb.get 0
      have g2 : ([48, 48, 48, 48, 58, 48, 48, 58, 48, 48, 32, 48, 48, 58, 48, 48, 58, 48, 48] : List Int).getD 0 0 = 48 := rfl
      have g3 : exK.getD 0 0 = 0 := rfl
      have g4 : exK.getD 1 0 = 0 := rfl
      rw [g3] at hs
      have hst := fv_step (l := l) (st := 0) (k := 0) (by omega)
      have hfv : fv l 0 0 < 1 := by rw [fv_0]; decide
      simp only [Nat.reduceAdd, Nat.reducePow] at hst hfv
      have hov : ∀ p : okc l 0, ∀ j, j < 1 → okc l j := fun p => okA_step hok p
      obtain ⟨z, hze⟩ : ∃ z, z = l.getD 0 0 := ⟨_, rfl⟩
      have hoi := okc_d (l := l) (i := 0) rfl
      rw [← hze] at hz hoi hst
      by_cases c : 48 ≤ z ∧ z ≤ 57
      · have hoi' := hoi.2 c
        obtain ⟨c1, c2⟩ := c
        have e1 : 10 * (fv l 0 0 : Int) + (z - 48) = (fv l 0 1 : Int) := by omega
        simp -dsimp -implicitDefEqProofs (disch := first | omega | (simp only [List.length_append, List.length_cons, List.length_nil, List.length_take, List.length_drop]; omega)) only [hs, hl, fl, str_get hb, str_get fb, ← hze, g2, exB, e1, ↓aPre, aPost, oneW, allOne, retV, retVA, simprocAttr]
        refine round_of ⟨1, by omega, hov hoi', ?_⟩ ?_
        · simp -dsimp -implicitDefEqProofs (disch := first | omega | (simp only [List.length_append, List.length_cons, List.length_nil, List.length_take, List.length_drop]; omega)) only [hs, hl, fl, g4, exB, e1, ↓aPre, aPost, oneW, allOne, retV, retVA, simprocAttr]
        · simp -dsimp -implicitDefEqProofs (disch := first | omega | (simp only [List.length_append, List.length_cons, List.length_nil, List.length_take, List.length_drop]; omega)) only [hs, ↓aPre, aPost, oneW, allOne, retV, retVA, simprocAttr]
      · rw [parD_3 (fun k => c (hoi.1 (k.2 0 (by decide))))]
        unfold tD
        by_cases c1 : z < 48
        · simp -dsimp -implicitDefEqProofs (disch := first | omega | (simp only [List.length_append, List.length_cons, List.length_nil, List.length_take, List.length_drop]; omega)) only [hs, hl, fl, str_get hb, str_get fb, ← hze, g2, exB, ↓aPre, aPost, oneW, allOne, retV, retVA, simprocAttr]
          exact post_eq rfl
        · simp -dsimp -implicitDefEqProofs (disch := first | omega | (simp only [List.length_append, List.length_cons, List.length_nil, List.length_take, List.length_drop]; omega)) only [hs, hl, fl, str_get hb, str_get fb, ← hze, g2, exB, ↓aPre, aPost, oneW, allOne, retV, retVA, simprocAttr]
          exact post_eq rfl
    | 1, _ =>
      have hz := hb.get 1
      have g2 : ([48, 48, 48, 48, 58, 48, 48, 58, 48, 48, 32, 48, 48, 58, 48, 48, 58, 48, 48] : List Int).getD 1 0 = 48 := rfl
      have g3 : exK.getD 1 0 = 0 := rfl
      have g4 : exK.getD 2 0 = 0 := rfl
      rw [g3] at hs
      have hst := fv_step (l := l) (st := 0) (k := 1) (by omega)
      have hfv := fv_dig hl (st := 0) 1 (by omega) (fun j h1 h2 => (okc_d (by rcases (show j = 0 by omega) with rfl <;> rfl)).1 (hok j (by omega)))
      simp only [Nat.reduceAdd, Nat.reducePow] at hst hfv
      have hov : ∀ p : okc l 1, ∀ j, j < 2 → okc l j := fun p => okA_step hok p
      obtain ⟨z, hze⟩ : ∃ z, z = l.getD 1 0 := ⟨_, rfl⟩
      have hoi := okc_d (l := l) (i := 1) rfl
      rw [← hze] at hz hoi hst
      by_cases c : 48 ≤ z ∧ z ≤ 57
      · have hoi' := hoi.2 c
        obtain ⟨c1, c2⟩ := c
        have e1 : 10 * (fv l 0 1 : Int) + (z - 48) = (fv l 0 2 : Int) := by omega
        simp -dsimp -implicitDefEqProofs (disch := first | omega | (simp only [List.length_append, List.length_cons, List.length_nil, List.length_take, List.length_drop]; omega)) only [hs, hl, fl, str_get hb, str_get fb, ← hze, g2, exB, e1, ↓aPre, aPost, oneW, allOne, retV, retVA, simprocAttr]
        refine round_of ⟨2, by omega, hov hoi', ?_⟩ ?_
        · simp -dsimp -implicitDefEqProofs (disch := first | omega | (simp only [List.length_append, List.length_cons, List.length_nil, List.length_take, List.length_drop]; omega)) only [hs, hl, fl, g4, exB, e1, ↓aPre, aPost, oneW, allOne, retV, retVA, simprocAttr]
        · simp -dsimp -implicitDefEqProofs (disch := first | omega | (simp only [List.length_append, List.length_cons, List.length_nil, List.length_take, List.length_drop]; omega)) only [hs, ↓aPre, aPost, oneW, allOne, retV, retVA, simprocAttr]
      · rw [parD_3 (fun k => c (hoi.1 (k.2 1 (by decide))))]
        unfold tD
        by_cases c1 : z < 48
        · simp -dsimp -implicitDefEqProofs (disch := first | omega | (simp only [List.length_append, List.length_cons, List.length_nil, List.length_take, List.length_drop]; omega)) only [hs, hl, fl, str_get hb, str_get fb, ← hze, g2, exB, ↓aPre, aPost, oneW, allOne, retV, retVA, simprocAttr]
          exact post_eq rfl
        · simp -dsimp -implicitDefEqProofs (disch := first | omega | (simp only [List.length_append, List.length_cons, List.length_nil, List.length_take, List.length_drop]; omega)) only [hs, hl, fl, str_get hb, str_get fb, ← hze, g2, exB, ↓aPre, aPost, oneW, allOne, retV, retVA, simprocAttr]
          exact post_eq rfl
    | 2, _ =>
      have hz := hb.get 2
      have g2 : ([48, 48, 48, 48, 58, 48, 48, 58, 48, 48, 32, 48, 48, 58, 48, 48, 58, 48, 48] : List Int).getD 2 0 = 48 := rfl
      have g3 : exK.getD 2 0 = 0 := rfl
      have g4 : exK.getD 3 0 = 0 := rfl
      rw [g3] at hs
      have hst := fv_step (l := l) (st := 0) (k := 2) (by omega)
      have hfv := fv_dig hl (st := 0) 2 (by omega) (fun j h1 h2 => (okc_d (by rcases (show j = 0 ∨ j = 1 by omega) with rfl | rfl <;> rfl)).1 (hok j (by omega)))
      simp only [Nat.reduceAdd, Nat.reducePow] at hst hfv
      have hov : ∀ p : okc l 2, ∀ j, j < 3 → okc l j := fun p => okA_step hok p
      obtain ⟨z, hze⟩ : ∃ z, z = l.getD 2 0 := ⟨_, rfl⟩
      have hoi := okc_d (l := l) (i := 2) rfl
      rw [← hze] at hz hoi hst
      by_cases c : 48 ≤ z ∧ z ≤ 57
      · have hoi' := hoi.2 c
        obtain ⟨c1, c2⟩ := c
        have e1 : 10 * (fv l 0 2 : Int) + (z - 48) = (fv l 0 3 : Int) := by omega
        simp -dsimp -implicitDefEqProofs (disch := first | omega | (simp only [List.length_append, List.length_cons, List.length_nil, List.length_take, List.length_drop]; omega)) only [hs, hl, fl, str_get hb, str_get fb, ← hze, g2, exB, e1, ↓aPre, aPost, oneW, allOne, retV, retVA, simprocAttr]
        refine round_of ⟨3, by omega, hov hoi', ?_⟩ ?_
        · simp -dsimp -implicitDefEqProofs (disch := first | omega | (simp only [List.length_append, List.length_cons, List.length_nil, List.length_take, List.length_drop]; omega)) only [hs, hl, fl, g4, exB, e1, ↓aPre, aPost, oneW, allOne, retV, retVA, simprocAttr]
        · simp -dsimp -implicitDefEqProofs (disch := first | omega | (simp only [List.length_append, List.length_cons, List.length_nil, List.length_take, List.length_drop]; omega)) only [hs, ↓aPre, aPost, oneW, allOne, retV, retVA, simprocAttr]
      · rw [parD_3 (fun k => c (hoi.1 (k.2 2 (by decide))))]
        unfold tD
        by_cases c1 : z < 48
        · simp -dsimp -implicitDefEqProofs (disch := first | omega | (simp only [List.length_append, List.length_cons, List.length_nil, List.length_take, List.length_drop]; omega)) only [hs, hl, fl, str_get hb, str_get fb, ← hze, g2, exB, ↓aPre, aPost, oneW, allOne, retV, retVA, simprocAttr]
          exact post_eq rfl
        · simp -dsimp -implicitDefEqProofs (disch := first | omega | (simp only [List.length_append, List.length_cons, List.length_nil, List.length_take, List.length_drop]; omega)) only [hs, hl, fl, str_get hb, str_get fb, ← hze, g2, exB, ↓aPre, aPost, oneW, allOne, retV, retVA, simprocAttr]
          exact post_eq rfl
    | 3, _ =>
      have hz := hb.get 3
      have g2 : ([48, 48, 48, 48, 58, 48, 48, 58, 48, 48, 32, 48, 48, 58, 48, 48, 58, 48, 48] : List Int).getD 3 0 = 48 := rfl
      have g3 : exK.getD 3 0 = 0 := rfl
      have g4 : exK.getD 4 0 = 0 := rfl
      rw [g3] at hs
      have hst := fv_step (l := l) (st := 0) (k := 3) (by omega)
      have hfv := fv_dig hl (st := 0) 3 (by omega) (fun j h1 h2 => (okc_d (by rcases (show j = 0 ∨ j = 1 ∨ j = 2 by omega) with rfl | rfl | rfl <;> rfl)).1 (hok j (by omega)))
      simp only [Nat.reduceAdd, Nat.reducePow] at hst hfv
      have hov : ∀ p : okc l 3, ∀ j, j < 4 → okc l j := fun p => okA_step hok p
      obtain ⟨z, hze⟩ : ∃ z, z = l.getD 3 0 := ⟨_, rfl⟩
      have hoi := okc_d (l := l) (i := 3) rfl
      rw [← hze] at hz hoi hst
      by_cases c : 48 ≤ z ∧ z ≤ 57
      · have hoi' := hoi.2 c
        obtain ⟨c1, c2⟩ := c
        have e1 : 10 * (fv l 0 3 : Int) + (z - 48) = (fv l 0 4 : Int) := by omega
        simp -dsimp -implicitDefEqProofs (disch := first | omega | (simp only [List.length_append, List.length_cons, List.length_nil, List.length_take, List.length_drop]; omega)) only [hs, hl, fl, str_get hb, str_get fb, ← hze, g2, exB, e1, ↓aPre, aPost, oneW, allOne, retV, retVA, simprocAttr]
        refine round_of ⟨4, by omega, hov hoi', ?_⟩ ?_
        · simp -dsimp -implicitDefEqProofs (disch := first | omega | (simp only [List.length_append, List.length_cons, List.length_nil, List.length_take, List.length_drop]; omega)) only [hs, hl, fl, g4, exB, e1, ↓aPre, aPost, oneW, allOne, retV, retVA, simprocAttr]
        · simp -dsimp -implicitDefEqProofs (disch := first | omega | (simp only [List.length_append, List.length_cons, List.length_nil, List.length_take, List.length_drop]; omega)) only [hs, ↓aPre, aPost, oneW, allOne, retV, retVA, simprocAttr]
      · rw [parD_3 (fun k => c (hoi.1 (k.2 3 (by decide))))]
        unfold tD
        by_cases c1 : z < 48
        · simp -dsimp -implicitDefEqProofs (disch := first | omega | (simp only [List.length_append, List.length_cons, List.length_nil, List.length_take, List.length_drop]; omega)) only [hs, hl, fl, str_get hb, str_get fb, ← hze, g2, exB, ↓aPre, aPost, oneW, allOne, retV, retVA, simprocAttr]
          exact post_eq rfl
        · simp -dsimp -implicitDefEqProofs (disch := first | omega | (simp only [List.length_append, List.length_cons, List.length_nil, List.length_take, List.length_drop]; omega)) only [hs, hl, fl, str_get hb, str_get fb, ← hze, g2, exB, ↓aPre, aPost, oneW, allOne, retV, retVA, simprocAttr]
          exact post_eq rfl
    | 4, _ =>
      have hz := hb.get 4
      have g2 : ([48, 48, 48, 48, 58, 48, 48, 58, 48, 48, 32, 48, 48, 58, 48, 48, 58, 48, 48] : List Int).getD 4 0 = 58 := rfl
      have g3 : exK.getD 4 0 = 0 := rfl
      have g4 : exK.getD 5 0 = 1 := rfl
      rw [g3] at hs
      have hov : ∀ p : okc l 4, ∀ j, j < 5 → okc l j := fun p => okA_step hok p
      obtain ⟨z, hze⟩ : ∃ z, z = l.getD 4 0 := ⟨_, rfl⟩
      have hoi := okc_s (l := l) (i := 4) (by decide)
      rw [← hze] at hz hoi
      by_cases c : z = 58
      · have hze' : l.getD 4 0 = 58 := by rw [← hze, c]
        simp -dsimp -implicitDefEqProofs (disch := first | omega | (simp only [List.length_append, List.length_cons, List.length_nil, List.length_take, List.length_drop]; omega)) only [hs, hl, fl, str_get hb, str_get fb, hze', g2, exB, ↓aPre, aPost, oneW, allOne, retV, retVA, simprocAttr]
        refine round_of ⟨5, by omega, hov (hoi.2 c), ?_⟩ ?_
        · simp -dsimp -implicitDefEqProofs (disch := first | omega | (simp only [List.length_append, List.length_cons, List.length_nil, List.length_take, List.length_drop]; omega)) only [hs, hl, fl, g4, exB, ↓aPre, aPost, oneW, allOne, retV, retVA, simprocAttr]
        · simp -dsimp -implicitDefEqProofs (disch := first | omega | (simp only [List.length_append, List.length_cons, List.length_nil, List.length_take, List.length_drop]; omega)) only [hs, ↓aPre, aPost, oneW, allOne, retV, retVA, simprocAttr]
      · rw [parD_3 (fun k => c (hoi.1 (k.2 4 (by decide))))]
        unfold tD
        simp -dsimp -implicitDefEqProofs (disch := first | omega | (simp only [List.length_append, List.length_cons, List.length_nil, List.length_take, List.length_drop]; omega)) only [hs, hl, fl, str_get hb, str_get fb, ← hze, g2, exB, ibne_t c, c, ↓aPre, aPost, oneW, allOne, retV, retVA, simprocAttr]
        exact post_eq rfl
    | 5, _ =>
      have hz := hb.get 5
      have g2 : ([48, 48, 48, 48, 58, 48, 48, 58, 48, 48, 32, 48, 48, 58, 48, 48, 58, 48, 48] : List Int).getD 5 0 = 48 := rfl
      have g3 : exK.getD 5 0 = 1 := rfl
      have g4 : exK.getD 6 0 = 1 := rfl
      rw [g3] at hs
      have hst := fv_step (l := l) (st := 5) (k := 0) (by omega)
      have hfv : fv l 5 0 < 1 := by rw [fv_0]; decide
      simp only [Nat.reduceAdd, Nat.reducePow] at hst hfv
      have hov : ∀ p : okc l 5, ∀ j, j < 6 → okc l j := fun p => okA_step hok p
      obtain ⟨z, hze⟩ : ∃ z, z = l.getD 5 0 := ⟨_, rfl⟩
      have hoi := okc_d (l := l) (i := 5) rfl
      rw [← hze] at hz hoi hst
      by_cases c : 48 ≤ z ∧ z ≤ 57
      · have hoi' := hoi.2 c
        obtain ⟨c1, c2⟩ := c
        have e1 : 10 * (fv l 5 0 : Int) + (z - 48) = (fv l 5 1 : Int) := by omega
        simp -dsimp -implicitDefEqProofs (disch := first | omega | (simp only [List.length_append, List.length_cons, List.length_nil, List.length_take, List.length_drop]; omega)) only [hs, hl, fl, str_get hb, str_get fb, ← hze, g2, exB, e1, ↓aPre, aPost, oneW, allOne, retV, retVA, simprocAttr]
        refine round_of ⟨6, by omega, hov hoi', ?_⟩ ?_
        · simp -dsimp -implicitDefEqProofs (disch := first | omega | (simp only [List.length_append, List.length_cons, List.length_nil, List.length_take, List.length_drop]; omega)) only [hs, hl, fl, g4, exB, e1, ↓aPre, aPost, oneW, allOne, retV, retVA, simprocAttr]
        · simp -dsimp -implicitDefEqProofs (disch := first | omega | (simp only [List.length_append, List.length_cons, List.length_nil, List.length_take, List.length_drop]; omega)) only [hs, ↓aPre, aPost, oneW, allOne, retV, retVA, simprocAttr]
      · rw [parD_3 (fun k => c (hoi.1 (k.2 5 (by decide))))]
        unfold tD
        by_cases c1 : z < 48
        · simp -dsimp -implicitDefEqProofs (disch := first | omega | (simp only [List.length_append, List.length_cons, List.length_nil, List.length_take, List.length_drop]; omega)) only [hs, hl, fl, str_get hb, str_get fb, ← hze, g2, exB, ↓aPre, aPost, oneW, allOne, retV, retVA, simprocAttr]
          exact post_eq rfl
        · simp -dsimp -implicitDefEqProofs (disch := first | omega | (simp only [List.length_append, List.length_cons, List.length_nil, List.length_take, List.length_drop]; omega)) only [hs, hl, fl, str_get hb, str_get fb, ← hze, g2, exB, ↓aPre, aPost, oneW, allOne, retV, retVA, simprocAttr]
          exact post_eq rfl
    | 6, _ =>
      have hz := hb.get 6
      have g2 : ([48, 48, 48, 48, 58, 48, 48, 58, 48, 48, 32, 48, 48, 58, 48, 48, 58, 48, 48] : List Int).getD 6 0 = 48 := rfl
      have g3 : exK.getD 6 0 = 1 := rfl
      have g4 : exK.getD 7 0 = 1 := rfl
      rw [g3] at hs
      have hst := fv_step (l := l) (st := 5) (k := 1) (by omega)
      have hfv := fv_dig hl (st := 5) 1 (by omega) (fun j h1 h2 => (okc_d (by rcases (show j = 5 by omega) with rfl <;> rfl)).1 (hok j (by omega)))
      simp only [Nat.reduceAdd, Nat.reducePow] at hst hfv
      have hov : ∀ p : okc l 6, ∀ j, j < 7 → okc l j := fun p => okA_step hok p
      obtain ⟨z, hze⟩ : ∃ z, z = l.getD 6 0 := ⟨_, rfl⟩
      have hoi := okc_d (l := l) (i := 6) rfl
      rw [← hze] at hz hoi hst
      by_cases c : 48 ≤ z ∧ z ≤ 57
      · have hoi' := hoi.2 c
        obtain ⟨c1, c2⟩ := c
        have e1 : 10 * (fv l 5 1 : Int) + (z - 48) = (fv l 5 2 : Int) := by omega
        simp -dsimp -implicitDefEqProofs (disch := first | omega | (simp only [List.length_append, List.length_cons, List.length_nil, List.length_take, List.length_drop]; omega)) only [hs, hl, fl, str_get hb, str_get fb, ← hze, g2, exB, e1, ↓aPre, aPost, oneW, allOne, retV, retVA, simprocAttr]
        refine round_of ⟨7, by omega, hov hoi', ?_⟩ ?_
        · simp -dsimp -implicitDefEqProofs (disch := first | omega | (simp only [List.length_append, List.length_cons, List.length_nil, List.length_take, List.length_drop]; omega)) only [hs, hl, fl, g4, exB, e1, ↓aPre, aPost, oneW, allOne, retV, retVA, simprocAttr]
        · simp -dsimp -implicitDefEqProofs (disch := first | omega | (simp only [List.length_append, List.length_cons, List.length_nil, List.length_take, List.length_drop]; omega)) only [hs, ↓aPre, aPost, oneW, allOne, retV, retVA, simprocAttr]
      · rw [parD_3 (fun k => c (hoi.1 (k.2 6 (by decide))))]
        unfold tD
        by_cases c1 : z < 48
        · simp -dsimp -implicitDefEqProofs (disch := first | omega | (simp only [List.length_append, List.length_cons, List.length_nil, List.length_take, List.length_drop]; omega)) only [hs, hl, fl, str_get hb, str_get fb, ← hze, g2, exB, ↓aPre, aPost, oneW, allOne, retV, retVA, simprocAttr]
          exact post_eq rfl
        · simp -dsimp -implicitDefEqProofs (disch := first | omega | (simp only [List.length_append, List.length_cons, List.length_nil, List.length_take, List.length_drop]; omega)) only [hs, hl, fl, str_get hb, str_get fb, ← hze, g2, exB, ↓aPre, aPost, oneW, allOne, retV, retVA, simprocAttr]
          exact post_eq rfl
    | 7, _ =>
      have hz := hb.get 7
      have g2 : ([48, 48, 48, 48, 58, 48, 48, 58, 48, 48, 32, 48, 48, 58, 48, 48, 58, 48, 48] : List Int).getD 7 0 = 58 := rfl
      have g3 : exK.getD 7 0 = 1 := rfl
      have g4 : exK.getD 8 0 = 2 := rfl
      rw [g3] at hs
      have hov : ∀ p : okc l 7, ∀ j, j < 8 → okc l j := fun p => okA_step hok p
      obtain ⟨z, hze⟩ : ∃ z, z = l.getD 7 0 := ⟨_, rfl⟩
      have hoi := okc_s (l := l) (i := 7) (by decide)
      rw [← hze] at hz hoi
      by_cases c : z = 58
      · have hze' : l.getD 7 0 = 58 := by rw [← hze, c]
        simp -dsimp -implicitDefEqProofs (disch := first | omega | (simp only [List.length_append, List.length_cons, List.length_nil, List.length_take, List.length_drop]; omega)) only [hs, hl, fl, str_get hb, str_get fb, hze', g2, exB, ↓aPre, aPost, oneW, allOne, retV, retVA, simprocAttr]
        refine round_of ⟨8, by omega, hov (hoi.2 c), ?_⟩ ?_
        · simp -dsimp -implicitDefEqProofs (disch := first | omega | (simp only [List.length_append, List.length_cons, List.length_nil, List.length_take, List.length_drop]; omega)) only [hs, hl, fl, g4, exB, ↓aPre, aPost, oneW, allOne, retV, retVA, simprocAttr]
        · simp -dsimp -implicitDefEqProofs (disch := first | omega | (simp only [List.length_append, List.length_cons, List.length_nil, List.length_take, List.length_drop]; omega)) only [hs, ↓aPre, aPost, oneW, allOne, retV, retVA, simprocAttr]
      · rw [parD_3 (fun k => c (hoi.1 (k.2 7 (by decide))))]
        unfold tD
        simp -dsimp -implicitDefEqProofs (disch := first | omega | (simp only [List.length_append, List.length_cons, List.length_nil, List.length_take, List.length_drop]; omega)) only [hs, hl, fl, str_get hb, str_get fb, ← hze, g2, exB, ibne_t c, c, ↓aPre, aPost, oneW, allOne, retV, retVA, simprocAttr]
        exact post_eq rfl
    | 8, _ =>
      have hz := hb.get 8
      have g2 : ([48, 48, 48, 48, 58, 48, 48, 58, 48, 48, 32, 48, 48, 58, 48, 48, 58, 48, 48] : List Int).getD 8 0 = 48 := rfl
      have g3 : exK.getD 8 0 = 2 := rfl
      have g4 : exK.getD 9 0 = 2 := rfl
      rw [g3] at hs
      have hst := fv_step (l := l) (st := 8) (k := 0) (by omega)
      have hfv : fv l 8 0 < 1 := by rw [fv_0]; decide
      simp only [Nat.reduceAdd, Nat.reducePow] at hst hfv
      have hov : ∀ p : okc l 8, ∀ j, j < 9 → okc l j := fun p => okA_step hok p
      obtain ⟨z, hze⟩ : ∃ z, z = l.getD 8 0 := ⟨_, rfl⟩
      have hoi := okc_d (l := l) (i := 8) rfl
      rw [← hze] at hz hoi hst
      by_cases c : 48 ≤ z ∧ z ≤ 57
      · have hoi' := hoi.2 c
        obtain ⟨c1, c2⟩ := c
        have e1 : 10 * (fv l 8 0 : Int) + (z - 48) = (fv l 8 1 : Int) := by omega
        simp -dsimp -implicitDefEqProofs (disch := first | omega | (simp only [List.length_append, List.length_cons, List.length_nil, List.length_take, List.length_drop]; omega)) only [hs, hl, fl, str_get hb, str_get fb, ← hze, g2, exB, e1, ↓aPre, aPost, oneW, allOne, retV, retVA, simprocAttr]
        refine round_of ⟨9, by omega, hov hoi', ?_⟩ ?_
        · simp -dsimp -implicitDefEqProofs (disch := first | omega | (simp only [List.length_append, List.length_cons, List.length_nil, List.length_take, List.length_drop]; omega)) only [hs, hl, fl, g4, exB, e1, ↓aPre, aPost, oneW, allOne, retV, retVA, simprocAttr]
        · simp -dsimp -implicitDefEqProofs (disch := first | omega | (simp only [List.length_append, List.length_cons, List.length_nil, List.length_take, List.length_drop]; omega)) only [hs, ↓aPre, aPost, oneW, allOne, retV, retVA, simprocAttr]
      · rw [parD_3 (fun k => c (hoi.1 (k.2 8 (by decide))))]
        unfold tD
        by_cases c1 : z < 48
        · simp -dsimp -implicitDefEqProofs (disch := first | omega | (simp only [List.length_append, List.length_cons, List.length_nil, List.length_take, List.length_drop]; omega)) only [hs, hl, fl, str_get hb, str_get fb, ← hze, g2, exB, ↓aPre, aPost, oneW, allOne, retV, retVA, simprocAttr]
          exact post_eq rfl
        · simp -dsimp -implicitDefEqProofs (disch := first | omega | (simp only [List.length_append, List.length_cons, List.length_nil, List.length_take, List.length_drop]; omega)) only [hs, hl, fl, str_get hb, str_get fb, ← hze, g2, exB, ↓aPre, aPost, oneW, allOne, retV, retVA, simprocAttr]
          exact post_eq rfl
    | 9, _ =>
      have hz := hb.get 9
      have g2 : ([48, 48, 48, 48, 58, 48, 48, 58, 48, 48, 32, 48, 48, 58, 48, 48, 58, 48, 48] : List Int).getD 9 0 = 48 := rfl
      have g3 : exK.getD 9 0 = 2 := rfl
      have g4 : exK.getD 10 0 = 2 := rfl
      rw [g3] at hs
      have hst := fv_step (l := l) (st := 8) (k := 1) (by omega)
      have hfv := fv_dig hl (st := 8) 1 (by omega) (fun j h1 h2 => (okc_d (by rcases (show j = 8 by omega) with rfl <;> rfl)).1 (hok j (by omega)))
      simp only [Nat.reduceAdd, Nat.reducePow] at hst hfv
      have hov : ∀ p : okc l 9, ∀ j, j < 10 → okc l j := fun p => okA_step hok p
      obtain ⟨z, hze⟩ : ∃ z, z = l.getD 9 0 := ⟨_, rfl⟩
      have hoi := okc_d (l := l) (i := 9) rfl
      rw [← hze] at hz hoi hst
      by_cases c : 48 ≤ z ∧ z ≤ 57
      · have hoi' := hoi.2 c
        obtain ⟨c1, c2⟩ := c
        have e1 : 10 * (fv l 8 1 : Int) + (z - 48) = (fv l 8 2 : Int) := by omega
        simp -dsimp -implicitDefEqProofs (disch := first | omega | (simp only [List.length_append, List.length_cons, List.length_nil, List.length_take, List.length_drop]; omega)) only [hs, hl, fl, str_get hb, str_get fb, ← hze, g2, exB, e1, ↓aPre, aPost, oneW, allOne, retV, retVA, simprocAttr]
        refine round_of ⟨10, by omega, hov hoi', ?_⟩ ?_
        · simp -dsimp -implicitDefEqProofs (disch := first | omega | (simp only [List.length_append, List.length_cons, List.length_nil, List.length_take, List.length_drop]; omega)) only [hs, hl, fl, g4, exB, e1, ↓aPre, aPost, oneW, allOne, retV, retVA, simprocAttr]
        · simp -dsimp -implicitDefEqProofs (disch := first | omega | (simp only [List.length_append, List.length_cons, List.length_nil, List.length_take, List.length_drop]; omega)) only [hs, ↓aPre, aPost, oneW, allOne, retV, retVA, simprocAttr]
      · rw [parD_3 (fun k => c (hoi.1 (k.2 9 (by decide))))]
        unfold tD
        by_cases c1 : z < 48
        · simp -dsimp -implicitDefEqProofs (disch := first | omega | (simp only [List.length_append, List.length_cons, List.length_nil, List.length_take, List.length_drop]; omega)) only [hs, hl, fl, str_get hb, str_get fb, ← hze, g2, exB, ↓aPre, aPost, oneW, allOne, retV, retVA, simprocAttr]
          exact post_eq rfl
        · simp -dsimp -implicitDefEqProofs (disch := first | omega | (simp only [List.length_append, List.length_cons, List.length_nil, List.length_take, List.length_drop]; omega)) only [hs, hl, fl, str_get hb, str_get fb, ← hze, g2, exB, ↓aPre, aPost, oneW, allOne, retV, retVA, simprocAttr]
          exact post_eq rfl
    | 10, _ =>
      have hz := hb.get 10
      have g2 : ([48, 48, 48, 48, 58, 48, 48, 58, 48, 48, 32, 48, 48, 58, 48, 48, 58, 48, 48] : List Int).getD 10 0 = 32 := rfl
      have g3 : exK.getD 10 0 = 2 := rfl
      have g4 : exK.getD 11 0 = 3 := rfl
      rw [g3] at hs
      have hov : ∀ p : okc l 10, ∀ j, j < 11 → okc l j := fun p => okA_step hok p
      obtain ⟨z, hze⟩ : ∃ z, z = l.getD 10 0 := ⟨_, rfl⟩
      have hoi := okc_s (l := l) (i := 10) (by decide)
      rw [← hze] at hz hoi
      by_cases c : z = 32
      · have hze' : l.getD 10 0 = 32 := by rw [← hze, c]
        simp -dsimp -implicitDefEqProofs (disch := first | omega | (simp only [List.length_append, List.length_cons, List.length_nil, List.length_take, List.length_drop]; omega)) only [hs, hl, fl, str_get hb, str_get fb, hze', g2, exB, ↓aPre, aPost, oneW, allOne, retV, retVA, simprocAttr]
        refine round_of ⟨11, by omega, hov (hoi.2 c), ?_⟩ ?_
        · simp -dsimp -implicitDefEqProofs (disch := first | omega | (simp only [List.length_append, List.length_cons, List.length_nil, List.length_take, List.length_drop]; omega)) only [hs, hl, fl, g4, exB, ↓aPre, aPost, oneW, allOne, retV, retVA, simprocAttr]
        · simp -dsimp -implicitDefEqProofs (disch := first | omega | (simp only [List.length_append, List.length_cons, List.length_nil, List.length_take, List.length_drop]; omega)) only [hs, ↓aPre, aPost, oneW, allOne, retV, retVA, simprocAttr]
      · rw [parD_3 (fun k => c (hoi.1 (k.2 10 (by decide))))]
        unfold tD
        simp -dsimp -implicitDefEqProofs (disch := first | omega | (simp only [List.length_append, List.length_cons, List.length_nil, List.length_take, List.length_drop]; omega)) only [hs, hl, fl, str_get hb, str_get fb, ← hze, g2, exB, ibne_t c, c, ↓aPre, aPost, oneW, allOne, retV, retVA, simprocAttr]
        exact post_eq rfl
    | 11, _ =>
      have hz := hb.get 11
      have g2 : ([48, 48, 48, 48, 58, 48, 48, 58, 48, 48, 32, 48, 48, 58, 48, 48, 58, 48, 48] : List Int).getD 11 0 = 48 := rfl
      have g3 : exK.getD 11 0 = 3 := rfl
      have g4 : exK.getD 12 0 = 3 := rfl
      rw [g3] at hs
      have hst := fv_step (l := l) (st := 11) (k := 0) (by omega)
      have hfv : fv l 11 0 < 1 := by rw [fv_0]; decide
      simp only [Nat.reduceAdd, Nat.reducePow] at hst hfv
      have hov : ∀ p : okc l 11, ∀ j, j < 12 → okc l j := fun p => okA_step hok p
      obtain ⟨z, hze⟩ : ∃ z, z = l.getD 11 0 := ⟨_, rfl⟩
      have hoi := okc_d (l := l) (i := 11) rfl
      rw [← hze] at hz hoi hst
      by_cases c : 48 ≤ z ∧ z ≤ 57
      · have hoi' := hoi.2 c
        obtain ⟨c1, c2⟩ := c
        have e1 : 10 * (fv l 11 0 : Int) + (z - 48) = (fv l 11 1 : Int) := by omega
        simp -dsimp -implicitDefEqProofs (disch := first | omega | (simp only [List.length_append, List.length_cons, List.length_nil, List.length_take, List.length_drop]; omega)) only [hs, hl, fl, str_get hb, str_get fb, ← hze, g2, exB, e1, ↓aPre, aPost, oneW, allOne, retV, retVA, simprocAttr]
        refine round_of ⟨12, by omega, hov hoi', ?_⟩ ?_
        · simp -dsimp -implicitDefEqProofs (disch := first | omega | (simp only [List.length_append, List.length_cons, List.length_nil, List.length_take, List.length_drop]; omega)) only [hs, hl, fl, g4, exB, e1, ↓aPre, aPost, oneW, allOne, retV, retVA, simprocAttr]
        · simp -dsimp -implicitDefEqProofs (disch := first | omega | (simp only [List.length_append, List.length_cons, List.length_nil, List.length_take, List.length_drop]; omega)) only [hs, ↓aPre, aPost, oneW, allOne, retV, retVA, simprocAttr]
      · rw [parD_3 (fun k => c (hoi.1 (k.2 11 (by decide))))]
        unfold tD
        by_cases c1 : z < 48
        · simp -dsimp -implicitDefEqProofs (disch := first | omega | (simp only [List.length_append, List.length_cons, List.length_nil, List.length_take, List.length_drop]; omega)) only [hs, hl, fl, str_get hb, str_get fb, ← hze, g2, exB, ↓aPre, aPost, oneW, allOne, retV, retVA, simprocAttr]
          exact post_eq rfl
        · simp -dsimp -implicitDefEqProofs (disch := first | omega | (simp only [List.length_append, List.length_cons, List.length_nil, List.length_take, List.length_drop]; omega)) only [hs, hl, fl, str_get hb, str_get fb, ← hze, g2, exB, ↓aPre, aPost, oneW, allOne, retV, retVA, simprocAttr]
          exact post_eq rfl
    | 12, _ =>
      have hz := hb.get 12
      have g2 : ([48, 48, 48, 48, 58, 48, 48, 58, 48, 48, 32, 48, 48, 58, 48, 48, 58, 48, 48] : List Int).getD 12 0 = 48 := rfl
      have g3 : exK.getD 12 0 = 3 := rfl
      have g4 : exK.getD 13 0 = 3 := rfl
      rw [g3] at hs
      have hst := fv_step (l := l) (st := 11) (k := 1) (by omega)
      have hfv := fv_dig hl (st := 11) 1 (by omega) (fun j h1 h2 => (okc_d (by rcases (show j = 11 by omega) with rfl <;> rfl)).1 (hok j (by omega)))
      simp only [Nat.reduceAdd, Nat.reducePow] at hst hfv
      have hov : ∀ p : okc l 12, ∀ j, j < 13 → okc l j := fun p => okA_step hok p
      obtain ⟨z, hze⟩ : ∃ z, z = l.getD 12 0 := ⟨_, rfl⟩
      have hoi := okc_d (l := l) (i := 12) rfl
      rw [← hze] at hz hoi hst
      by_cases c : 48 ≤ z ∧ z ≤ 57
      · have hoi' := hoi.2 c
        obtain ⟨c1, c2⟩ := c
        have e1 : 10 * (fv l 11 1 : Int) + (z - 48) = (fv l 11 2 : Int) := by omega
        simp -dsimp -implicitDefEqProofs (disch := first | omega | (simp only [List.length_append, List.length_cons, List.length_nil, List.length_take, List.length_drop]; omega)) only [hs, hl, fl, str_get hb, str_get fb, ← hze, g2, exB, e1, ↓aPre, aPost, oneW, allOne, retV, retVA, simprocAttr]
        refine round_of ⟨13, by omega, hov hoi', ?_⟩ ?_
        · simp -dsimp -implicitDefEqProofs (disch := first | omega | (simp only [List.length_append, List.length_cons, List.length_nil, List.length_take, List.length_drop]; omega)) only [hs, hl, fl, g4, exB, e1, ↓aPre, aPost, oneW, allOne, retV, retVA, simprocAttr]
        · simp -dsimp -implicitDefEqProofs (disch := first | omega | (simp only [List.length_append, List.length_cons, List.length_nil, List.length_take, List.length_drop]; omega)) only [hs, ↓aPre, aPost, oneW, allOne, retV, retVA, simprocAttr]
      · rw [parD_3 (fun k => c (hoi.1 (k.2 12 (by decide))))]
        unfold tD
        by_cases c1 : z < 48
        · simp -dsimp -implicitDefEqProofs (disch := first | omega | (simp only [List.length_append, List.length_cons, List.length_nil, List.length_take, List.length_drop]; omega)) only [hs, hl, fl, str_get hb, str_get fb, ← hze, g2, exB, ↓aPre, aPost, oneW, allOne, retV, retVA, simprocAttr]
          exact post_eq rfl
        · simp -dsimp -implicitDefEqProofs (disch := first | omega | (simp only [List.length_append, List.length_cons, List.length_nil, List.length_take, List.length_drop]; omega)) only [hs, hl, fl, str_get hb, str_get fb, ← hze, g2, exB, ↓aPre, aPost, oneW, allOne, retV, retVA, simprocAttr]
          exact post_eq rfl
    | 13, _ =>
      have hz := hb.get 13
      have g2 : ([48, 48, 48, 48, 58, 48, 48, 58, 48, 48, 32, 48, 48, 58, 48, 48, 58, 48, 48] : List Int).getD 13 0 = 58 := rfl
      have g3 : exK.getD 13 0 = 3 := rfl
      have g4 : exK.getD 14 0 = 4 := rfl
      rw [g3] at hs
      have hov : ∀ p : okc l 13, ∀ j, j < 14 → okc l j := fun p => okA_step hok p
      obtain ⟨z, hze⟩ : ∃ z, z = l.getD 13 0 := ⟨_, rfl⟩
      have hoi := okc_s (l := l) (i := 13) (by decide)
      rw [← hze] at hz hoi
      by_cases c : z = 58
      · have hze' : l.getD 13 0 = 58 := by rw [← hze, c]
        simp -dsimp -implicitDefEqProofs (disch := first | omega | (simp only [List.length_append, List.length_cons, List.length_nil, List.length_take, List.length_drop]; omega)) only [hs, hl, fl, str_get hb, str_get fb, hze', g2, exB, ↓aPre, aPost, oneW, allOne, retV, retVA, simprocAttr]
        refine round_of ⟨14, by omega, hov (hoi.2 c), ?_⟩ ?_
        · simp -dsimp -implicitDefEqProofs (disch := first | omega | (simp only [List.length_append, List.length_cons, List.length_nil, List.length_take, List.length_drop]; omega)) only [hs, hl, fl, g4, exB, ↓aPre, aPost, oneW, allOne, retV, retVA, simprocAttr]
        · simp -dsimp -implicitDefEqProofs (disch := first | omega | (simp only [List.length_append, List.length_cons, List.length_nil, List.length_take, List.length_drop]; omega)) only [hs, ↓aPre, aPost, oneW, allOne, retV, retVA, simprocAttr]
      · rw [parD_3 (fun k => c (hoi.1 (k.2 13 (by decide))))]
        unfold tD
        simp -dsimp -implicitDefEqProofs (disch := first | omega | (simp only [List.length_append, List.length_cons, List.length_nil, List.length_take, List.length_drop]; omega)) only [hs, hl, fl, str_get hb, str_get fb, ← hze, g2, exB, ibne_t c, c, ↓aPre, aPost, oneW, allOne, retV, retVA, simprocAttr]
        exact post_eq rfl
    | 14, _ =>
      have hz := hb.get 14
      have g2 : ([48, 48, 48, 48, 58, 48, 48, 58, 48, 48, 32, 48, 48, 58, 48, 48, 58, 48, 48] : List Int).getD 14 0 = 48 := rfl
      have g3 : exK.getD 14 0 = 4 := rfl
      have g4 : exK.getD 15 0 = 4 := rfl
      rw [g3] at hs
      have hst := fv_step (l := l) (st := 14) (k := 0) (by omega)
      have hfv : fv l 14 0 < 1 := by rw [fv_0]; decide
      simp only [Nat.reduceAdd, Nat.reducePow] at hst hfv
      have hov : ∀ p : okc l 14, ∀ j, j < 15 → okc l j := fun p => okA_step hok p
      obtain ⟨z, hze⟩ : ∃ z, z = l.getD 14 0 := ⟨_, rfl⟩
      have hoi := okc_d (l := l) (i := 14) rfl
      rw [← hze] at hz hoi hst
      by_cases c : 48 ≤ z ∧ z ≤ 57
      · have hoi' := hoi.2 c
        obtain ⟨c1, c2⟩ := c
        have e1 : 10 * (fv l 14 0 : Int) + (z - 48) = (fv l 14 1 : Int) := by omega
        simp -dsimp -implicitDefEqProofs (disch := first | omega | (simp only [List.length_append, List.length_cons, List.length_nil, List.length_take, List.length_drop]; omega)) only [hs, hl, fl, str_get hb, str_get fb, ← hze, g2, exB, e1, ↓aPre, aPost, oneW, allOne, retV, retVA, simprocAttr]
        refine round_of ⟨15, by omega, hov hoi', ?_⟩ ?_
        · simp -dsimp -implicitDefEqProofs (disch := first | omega | (simp only [List.length_append, List.length_cons, List.length_nil, List.length_take, List.length_drop]; omega)) only [hs, hl, fl, g4, exB, e1, ↓aPre, aPost, oneW, allOne, retV, retVA, simprocAttr]
        · simp -dsimp -implicitDefEqProofs (disch := first | omega | (simp only [List.length_append, List.length_cons, List.length_nil, List.length_take, List.length_drop]; omega)) only [hs, ↓aPre, aPost, oneW, allOne, retV, retVA, simprocAttr]
      · rw [parD_3 (fun k => c (hoi.1 (k.2 14 (by decide))))]
        unfold tD
        by_cases c1 : z < 48
        · simp -dsimp -implicitDefEqProofs (disch := first | omega | (simp only [List.length_append, List.length_cons, List.length_nil, List.length_take, List.length_drop]; omega)) only [hs, hl, fl, str_get hb, str_get fb, ← hze, g2, exB, ↓aPre, aPost, oneW, allOne, retV, retVA, simprocAttr]
          exact post_eq rfl
        · simp -dsimp -implicitDefEqProofs (disch := first | omega | (simp only [List.length_append, List.length_cons, List.length_nil, List.length_take, List.length_drop]; omega)) only [hs, hl, fl, str_get hb, str_get fb, ← hze, g2, exB, ↓aPre, aPost, oneW, allOne, retV, retVA, simprocAttr]
          exact post_eq rfl
    | 15, _ =>
      have hz := hb.get 15
      have g2 : ([48, 48, 48, 48, 58, 48, 48, 58, 48, 48, 32, 48, 48, 58, 48, 48, 58, 48, 48] : List Int).getD 15 0 = 48 := rfl
      have g3 : exK.getD 15 0 = 4 := rfl
      have g4 : exK.getD 16 0 = 4 := rfl
      rw [g3] at hs
      have hst := fv_step (l := l) (st := 14) (k := 1) (by omega)
      have hfv := fv_dig hl (st := 14) 1 (by omega) (fun j h1 h2 => (okc_d (by rcases (show j = 14 by omega) with rfl <;> rfl)).1 (hok j (by omega)))
      simp only [Nat.reduceAdd, Nat.reducePow] at hst hfv
      have hov : ∀ p : okc l 15, ∀ j, j < 16 → okc l j := fun p => okA_step hok p
      obtain ⟨z, hze⟩ : ∃ z, z = l.getD 15 0 := ⟨_, rfl⟩
      have hoi := okc_d (l := l) (i := 15) rfl
      rw [← hze] at hz hoi hst
      by_cases c : 48 ≤ z ∧ z ≤ 57
      · have hoi' := hoi.2 c
        obtain ⟨c1, c2⟩ := c
        have e1 : 10 * (fv l 14 1 : Int) + (z - 48) = (fv l 14 2 : Int) := by omega
        simp -dsimp -implicitDefEqProofs (disch := first | omega | (simp only [List.length_append, List.length_cons, List.length_nil, List.length_take, List.length_drop]; omega)) only [hs, hl, fl, str_get hb, str_get fb, ← hze, g2, exB, e1, ↓aPre, aPost, oneW, allOne, retV, retVA, simprocAttr]
        refine round_of ⟨16, by omega, hov hoi', ?_⟩ ?_
        · simp -dsimp -implicitDefEqProofs (disch := first | omega | (simp only [List.length_append, List.length_cons, List.length_nil, List.length_take, List.length_drop]; omega)) only [hs, hl, fl, g4, exB, e1, ↓aPre, aPost, oneW, allOne, retV, retVA, simprocAttr]
        · simp -dsimp -implicitDefEqProofs (disch := first | omega | (simp only [List.length_append, List.length_cons, List.length_nil, List.length_take, List.length_drop]; omega)) only [hs, ↓aPre, aPost, oneW, allOne, retV, retVA, simprocAttr]
      · rw [parD_3 (fun k => c (hoi.1 (k.2 15 (by decide))))]
        unfold tD
        by_cases c1 : z < 48
        · simp -dsimp -implicitDefEqProofs (disch := first | omega | (simp only [List.length_append, List.length_cons, List.length_nil, List.length_take, List.length_drop]; omega)) only [hs, hl, fl, str_get hb, str_get fb, ← hze, g2, exB, ↓aPre, aPost, oneW, allOne, retV, retVA, simprocAttr]
          exact post_eq rfl
        · simp -dsimp -implicitDefEqProofs (disch := first | omega | (simp only [List.length_append, List.length_cons, List.length_nil, List.length_take, List.length_drop]; omega)) only [hs, hl, fl, str_get hb, str_get fb, ← hze, g2, exB, ↓aPre, aPost, oneW, allOne, retV, retVA, simprocAttr]
          exact post_eq rfl
    | 16, _ =>
      have hz := hb.get 16
      have g2 : ([48, 48, 48, 48, 58, 48, 48, 58, 48, 48, 32, 48, 48, 58, 48, 48, 58, 48, 48] : List Int).getD 16 0 = 58 := rfl
      have g3 : exK.getD 16 0 = 4 := rfl
      have g4 : exK.getD 17 0 = 5 := rfl
      rw [g3] at hs
      have hov : ∀ p : okc l 16, ∀ j, j < 17 → okc l j := fun p => okA_step hok p
      obtain ⟨z, hze⟩ : ∃ z, z = l.getD 16 0 := ⟨_, rfl⟩
      have hoi := okc_s (l := l) (i := 16) (by decide)
      rw [← hze] at hz hoi
      by_cases c : z = 58
      · have hze' : l.getD 16 0 = 58 := by rw [← hze, c]
        simp -dsimp -implicitDefEqProofs (disch := first | omega | (simp only [List.length_append, List.length_cons, List.length_nil, List.length_take, List.length_drop]; omega)) only [hs, hl, fl, str_get hb, str_get fb, hze', g2, exB, ↓aPre, aPost, oneW, allOne, retV, retVA, simprocAttr]
        refine round_of ⟨17, by omega, hov (hoi.2 c), ?_⟩ ?_
        · simp -dsimp -implicitDefEqProofs (disch := first | omega | (simp only [List.length_append, List.length_cons, List.length_nil, List.length_take, List.length_drop]; omega)) only [hs, hl, fl, g4, exB, ↓aPre, aPost, oneW, allOne, retV, retVA, simprocAttr]
        · simp -dsimp -implicitDefEqProofs (disch := first | omega | (simp only [List.length_append, List.length_cons, List.length_nil, List.length_take, List.length_drop]; omega)) only [hs, ↓aPre, aPost, oneW, allOne, retV, retVA, simprocAttr]
      · rw [parD_3 (fun k => c (hoi.1 (k.2 16 (by decide))))]
        unfold tD
        simp -dsimp -implicitDefEqProofs (disch := first | omega | (simp only [List.length_append, List.length_cons, List.length_nil, List.length_take, List.length_drop]; omega)) only [hs, hl, fl, str_get hb, str_get fb, ← hze, g2, exB, ibne_t c, c, ↓aPre, aPost, oneW, allOne, retV, retVA, simprocAttr]
        exact post_eq rfl
    | 17, _ =>
      have hz := hb.get 17
      have g2 : ([48, 48, 48, 48, 58, 48, 48, 58, 48, 48, 32, 48, 48, 58, 48, 48, 58, 48, 48] : List Int).getD 17 0 = 48 := rfl
      have g3 : exK.getD 17 0 = 5 := rfl
      have g4 : exK.getD 18 0 = 5 := rfl
      rw [g3] at hs
      have hst := fv_step (l := l) (st := 17) (k := 0) (by omega)
      have hfv : fv l 17 0 < 1 := by rw [fv_0]; decide
      simp only [Nat.reduceAdd, Nat.reducePow] at hst hfv
      have hov : ∀ p : okc l 17, ∀ j, j < 18 → okc l j := fun p => okA_step hok p
      obtain ⟨z, hze⟩ : ∃ z, z = l.getD 17 0 := ⟨_, rfl⟩
      have hoi := okc_d (l := l) (i := 17) rfl
      rw [← hze] at hz hoi hst
      by_cases c : 48 ≤ z ∧ z ≤ 57
      · have hoi' := hoi.2 c
        obtain ⟨c1, c2⟩ := c
        have e1 : 10 * (fv l 17 0 : Int) + (z - 48) = (fv l 17 1 : Int) := by omega
        simp -dsimp -implicitDefEqProofs (disch := first | omega | (simp only [List.length_append, List.length_cons, List.length_nil, List.length_take, List.length_drop]; omega)) only [hs, hl, fl, str_get hb, str_get fb, ← hze, g2, exB, e1, ↓aPre, aPost, oneW, allOne, retV, retVA, simprocAttr]
        refine round_of ⟨18, by omega, hov hoi', ?_⟩ ?_
        · simp -dsimp -implicitDefEqProofs (disch := first | omega | (simp only [List.length_append, List.length_cons, List.length_nil, List.length_take, List.length_drop]; omega)) only [hs, hl, fl, g4, exB, e1, ↓aPre, aPost, oneW, allOne, retV, retVA, simprocAttr]
        · simp -dsimp -implicitDefEqProofs (disch := first | omega | (simp only [List.length_append, List.length_cons, List.length_nil, List.length_take, List.length_drop]; omega)) only [hs, ↓aPre, aPost, oneW, allOne, retV, retVA, simprocAttr]
      · rw [parD_3 (fun k => c (hoi.1 (k.2 17 (by decide))))]
        unfold tD
        by_cases c1 : z < 48
        · simp -dsimp -implicitDefEqProofs (disch := first | omega | (simp only [List.length_append, List.length_cons, List.length_nil, List.length_take, List.length_drop]; omega)) only [hs, hl, fl, str_get hb, str_get fb, ← hze, g2, exB, ↓aPre, aPost, oneW, allOne, retV, retVA, simprocAttr]
          exact post_eq rfl
        · simp -dsimp -implicitDefEqProofs (disch := first | omega | (simp only [List.length_append, List.length_cons, List.length_nil, List.length_take, List.length_drop]; omega)) only [hs, hl, fl, str_get hb, str_get fb, ← hze, g2, exB, ↓aPre, aPost, oneW, allOne, retV, retVA, simprocAttr]
          exact post_eq rfl
    | 18, _ =>
      have hz := hb.get 18
      have g2 : ([48, 48, 48, 48, 58, 48, 48, 58, 48, 48, 32, 48, 48, 58, 48, 48, 58, 48, 48] : List Int).getD 18 0 = 48 := rfl
      have g3 : exK.getD 18 0 = 5 := rfl
      have g4 : exK.getD 19 0 = 5 := rfl
      rw [g3] at hs
      have hst := fv_step (l := l) (st := 17) (k := 1) (by omega)
      have hfv := fv_dig hl (st := 17) 1 (by omega) (fun j h1 h2 => (okc_d (by rcases (show j = 17 by omega) with rfl <;> rfl)).1 (hok j (by omega)))
      simp only [Nat.reduceAdd, Nat.reducePow] at hst hfv
      have hov : ∀ p : okc l 18, ∀ j, j < 19 → okc l j := fun p => okA_step hok p
      obtain ⟨z, hze⟩ : ∃ z, z = l.getD 18 0 := ⟨_, rfl⟩
      have hoi := okc_d (l := l) (i := 18) rfl
      rw [← hze] at hz hoi hst
      by_cases c : 48 ≤ z ∧ z ≤ 57
      · have hoi' := hoi.2 c
        obtain ⟨c1, c2⟩ := c
        have e1 : 10 * (fv l 17 1 : Int) + (z - 48) = (fv l 17 2 : Int) := by omega
        simp -dsimp -implicitDefEqProofs (disch := first | omega | (simp only [List.length_append, List.length_cons, List.length_nil, List.length_take, List.length_drop]; omega)) only [hs, hl, fl, str_get hb, str_get fb, ← hze, g2, exB, e1, ↓aPre, aPost, oneW, allOne, retV, retVA, simprocAttr]
        refine round_of ⟨19, by omega, hov hoi', ?_⟩ ?_
        · simp -dsimp -implicitDefEqProofs (disch := first | omega | (simp only [List.length_append, List.length_cons, List.length_nil, List.length_take, List.length_drop]; omega)) only [hs, hl, fl, g4, exB, e1, ↓aPre, aPost, oneW, allOne, retV, retVA, simprocAttr]
        · simp -dsimp -implicitDefEqProofs (disch := first | omega | (simp only [List.length_append, List.length_cons, List.length_nil, List.length_take, List.length_drop]; omega)) only [hs, ↓aPre, aPost, oneW, allOne, retV, retVA, simprocAttr]
      · rw [parD_3 (fun k => c (hoi.1 (k.2 18 (by decide))))]
        unfold tD
        by_cases c1 : z < 48
        · simp -dsimp -implicitDefEqProofs (disch := first | omega | (simp only [List.length_append, List.length_cons, List.length_nil, List.length_take, List.length_drop]; omega)) only [hs, hl, fl, str_get hb, str_get fb, ← hze, g2, exB, ↓aPre, aPost, oneW, allOne, retV, retVA, simprocAttr]
          exact post_eq rfl
        · simp -dsimp -implicitDefEqProofs (disch := first | omega | (simp only [List.length_append, List.length_cons, List.length_nil, List.length_take, List.length_drop]; omega)) only [hs, hl, fl, str_get hb, str_get fb, ← hze, g2, exB, ↓aPre, aPost, oneW, allOne, retV, retVA, simprocAttr]
          exact post_eq rfl
    | n + 19, h => exact absurd h (by omega)
  · obtain rfl : i = 19 := by omega
    have hF : okF l := ⟨hl, hok⟩
    unfold parD
    rw [if_pos hF]
    by_cases hr : rightP (fv l 0 4) (fv l 5 2) (fv l 8 2) (fv l 11 2) (fv l 14 2) (fv l 17 2)
    · have gr := right_t _ _ _ _ _ _ hr.1 hr.2.1 hr.2.2.1 hr.2.2.2.1 hr.2.2.2.2.1 hr.2.2.2.2.2
      rw [if_pos hr]
      unfold tD at gr ⊢
      simp -dsimp -implicitDefEqProofs (disch := first | omega | (simp only [List.length_append, List.length_cons, List.length_nil, List.length_take, List.length_drop]; omega)) only [hs, exB, ↓aPre, aPost, oneW, allOne, retV, retVA, simprocAttr]
      refine call_giv gr ?_
      simp -dsimp -implicitDefEqProofs (disch := first | omega | (simp only [List.length_append, List.length_cons, List.length_nil, List.length_take, List.length_drop]; omega)) only [hs, exB, ↓aPre, aPost, oneW, allOne, retV, retVA, simprocAttr]
      exact post_eq rfl
    · have gr := right_f _ _ _ _ _ _ hr
      rw [if_neg hr]
      unfold tD at gr ⊢
      simp -dsimp -implicitDefEqProofs (disch := first | omega | (simp only [List.length_append, List.length_cons, List.length_nil, List.length_take, List.length_drop]; omega)) only [hs, exB, ↓aPre, aPost, oneW, allOne, retV, retVA, simprocAttr]
      refine call_giv gr ?_
      simp -dsimp -implicitDefEqProofs (disch := first | omega | (simp only [List.length_append, List.length_cons, List.length_nil, List.length_take, List.length_drop]; omega)) only [hs, exB, ↓aPre, aPost, oneW, allOne, retV, retVA, simprocAttr]
      exact post_eq rfl
end Go.Proofs.YtfighiceodplnaaDoor

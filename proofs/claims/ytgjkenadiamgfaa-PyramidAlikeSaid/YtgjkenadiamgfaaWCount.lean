/- How often each cell comes: the map that the program makes. No condition but what each says. -/
import Derived.Test.YtgjkenadiamgfaaWLaw
import Derived.Test.YtgjkenadiamgfaaWF2
set_option linter.unusedSimpArgs false
set_option linter.unusedVariables false
set_option maxRecDepth 8000
set_option maxHeartbeats 4000000
namespace Go.Proofs.Ytgjkenadiamgfaa
open Go.Eng Go.RowKit
/-- how often c comes among the first k -/
def cn (l : List Int) : Nat → Int → Nat
  | 0, _ => 0
  | k + 1, c => if l.getD k 0 = c then cn l k c + 1 else cn l k c
theorem cn_le (l : List Int) : ∀ k c, cn l k c ≤ k
  | 0, _ => Nat.le_refl _
  | k + 1, c => by
    have := cn_le l k c
    rw [cn]; split <;> omega
theorem cn_pos {l : List Int} : ∀ {k c}, 0 < cn l k c ↔ ∃ j, j < k ∧ l.getD j 0 = c
  | 0, c => by simp [cn]
  | k + 1, c => by
    rw [cn]
    constructor
    · intro h
      split at h
      · rename_i e; exact ⟨k, by omega, e⟩
      · obtain ⟨j, hj, e⟩ := cn_pos.1 h; exact ⟨j, by omega, e⟩
    · rintro ⟨j, hj, e⟩
      split
      · omega
      · rename_i hn
        refine cn_pos.2 ⟨j, ?_, e⟩
        by_cases q : j = k
        · rw [q] at e; exact absurd e hn
        · omega
/-- the entries behind the first k cells -/
def cm (l : List Int) : Nat → List (Int × Value)
  | 0 => []
  | k + 1 => mset (cm l k) (l.getD k 0) (.int .i64 ((cn l k (l.getD k 0) : Nat) + 1))
theorem mget_mset : ∀ (L : List (Int × Value)) (z y : Int) (v : Value), mget (mset L z v) y = if y = z then some v else mget L y
  | [], z, y, v => by simp only [mset, mget]
  | (a, u) :: L, z, y, v => by
    simp only [mset]
    by_cases h : z = a
    · subst h
      simp only [if_true, mget]
      split <;> rfl
    · rw [if_neg h]
      simp only [mget]
      by_cases h2 : y = a
      · rw [if_pos h2, if_pos h2, if_neg (by rw [h2]; exact fun e => h e.symm)]
      · rw [if_neg h2, if_neg h2, mget_mset L z y v]
theorem length_mset : ∀ (L : List (Int × Value)) (z : Int) (v : Value), (mget L z = none → (mset L z v).length = L.length + 1) ∧ (∀ u, mget L z = some u → (mset L z v).length = L.length)
  | [], z, v => ⟨fun _ => rfl, fun u h => by cases h⟩
  | (a, u) :: L, z, v => by
    simp only [mset, mget]
    by_cases h : z = a
    · simp [h]
    · rw [if_neg h, if_neg h]
      have := length_mset L z v
      simp only [List.length_cons]
      exact ⟨fun q => by rw [this.1 q], fun u q => by rw [this.2 u q]⟩
theorem mset_le (L : List (Int × Value)) (z : Int) (v : Value) : (mset L z v).length ≤ L.length + 1 := by
  have := length_mset L z v
  cases h : mget L z with
  | none => rw [this.1 h]; exact Nat.le_refl _
  | some u => rw [this.2 u h]; omega
theorem cm_get (l : List Int) (z : Int) : ∀ k, mget (cm l k) z = if cn l k z = 0 then none else some (.int .i64 (cn l k z : Nat))
  | 0 => rfl
  | k + 1 => by
    rw [cm, mget_mset, cn]
    by_cases h : z = l.getD k 0
    · subst h
      rw [if_pos rfl, if_pos rfl, if_neg (by omega)]
      simp
    · have h' : ¬ l.getD k 0 = z := fun e => h e.symm
      rw [if_neg h, if_neg h', cm_get l z k]
theorem cm_lk (l : List Int) (z : Int) (k : Nat) : lkR false (.int .i64 0) (mget (cm l k) z) = .d (.c (.int .i64 (cn l k z : Nat))) := by
  rw [cm_get]
  by_cases h : cn l k z = 0
  · rw [if_pos h, h]; rfl
  · rw [if_neg h]; rfl
/-- how many of the cells below c come -/
def sm (l : List Int) (k : Nat) : Nat → Nat
  | 0 => 0
  | c + 1 => if 0 < cn l k (c : Nat) then sm l k c + 1 else sm l k c
theorem sm_le (l : List Int) (k : Nat) : ∀ c, sm l k c ≤ c
  | 0 => Nat.le_refl _
  | c + 1 => by
    have := sm_le l k c
    rw [sm]; split <;> omega
theorem sm_succ (l : List Int) (k : Nat) {n : Nat} (hn : l.getD k 0 = (n : Int)) : ∀ c, sm l (k + 1) c = if n < c ∧ cn l k (n : Nat) = 0 then sm l k c + 1 else sm l k c
  | 0 => by simp [sm]
  | c + 1 => by
    rw [sm, sm, sm_succ l k hn c]
    by_cases e : n = c
    · subst e
      have h1 : 0 < cn l (k + 1) (n : Nat) := by rw [cn, if_pos hn]; omega
      have h0 : ¬ (n < n ∧ cn l k (n : Nat) = 0) := fun q => absurd q.1 (Nat.lt_irrefl _)
      rw [if_pos h1, if_neg h0]
      by_cases h2 : cn l k (n : Nat) = 0
      · have h3 : ¬ 0 < cn l k (n : Nat) := by omega
        have h4 : n < n + 1 ∧ cn l k (n : Nat) = 0 := ⟨by omega, h2⟩
        rw [if_neg h3, if_pos h4]
      · have h3 : 0 < cn l k (n : Nat) := by omega
        have h4 : ¬ (n < n + 1 ∧ cn l k (n : Nat) = 0) := fun q => h2 q.2
        rw [if_pos h3, if_neg h4]
    · have h1 : cn l (k + 1) (c : Nat) = cn l k (c : Nat) := by
        rw [cn, if_neg]
        rw [hn]; omega
      rw [h1]
      by_cases h2 : n < c ∧ cn l k (n : Nat) = 0
      · have h3 : n < c + 1 ∧ cn l k (n : Nat) = 0 := ⟨by omega, h2.2⟩
        rw [if_pos h2, if_pos h3]
        split <;> rfl
      · have h3 : ¬ (n < c + 1 ∧ cn l k (n : Nat) = 0) := fun h => h2 ⟨by omega, h.2⟩
        rw [if_neg h2, if_neg h3]
theorem cm_len {m : Nat} {l : List Int} (hI : In m l) (hm : 0 < m) : ∀ k, (cm l k).length = sm l k m
  | 0 => by
    have : ∀ c, sm l 0 c = 0 := fun c => by
      induction c with
      | zero => rfl
      | succ c ih => rw [sm, ih]; rfl
    rw [this]; rfl
  | k + 1 => by
    have hz := hI.get (by omega) k
    obtain ⟨n, hn⟩ := Int.eq_ofNat_of_zero_le hz.1
    have hg := cm_get l (n : Nat) k
    have hL := length_mset (cm l k) (n : Nat) (.int .i64 ((cn l k (n : Nat) : Nat) + 1))
    rw [cm, sm_succ l k hn, hn]
    by_cases h : cn l k (n : Nat) = 0
    · rw [if_pos h] at hg
      rw [if_pos ⟨by omega, h⟩, hL.1 hg, cm_len hI hm k]
    · rw [if_neg h] at hg
      rw [if_neg (fun q => h q.2), hL.2 _ hg, cm_len hI hm k]
theorem mnP_mem {l : List Int} (h : 0 < l.length) : ∀ k, k ≤ l.length → ∃ i j, i < l.length ∧ j < l.length ∧ mnP l k = l.getD i 0 ∧ mxP l k = l.getD j 0
  | 0, _ => ⟨0, 0, h, h, rfl, rfl⟩
  | k + 1, hk => by
    obtain ⟨i, j, h1, h2, h3, h4⟩ := mnP_mem h k (by omega)
    have hk : k < l.length := by omega
    rw [mnP, mxP]
    by_cases c1 : l.getD k 0 < mnP l k <;> by_cases c2 : l.getD k 0 > mxP l k
    · exact ⟨k, k, hk, hk, if_pos c1, if_pos c2⟩
    · exact ⟨k, j, hk, h2, if_pos c1, by rw [if_neg c2]; exact h4⟩
    · exact ⟨i, k, h1, hk, by rw [if_neg c1]; exact h3, if_pos c2⟩
    · exact ⟨i, j, h1, h2, by rw [if_neg c1]; exact h3, by rw [if_neg c2]; exact h4⟩
theorem count_u8 {m : Int} {W H : Nat} {l : List Int} (r : Rt m W H l) (hm : 0 < m) : GivO Try.prog 8 [gD .u8 W H l] (.mp 0) (.map .u8 (cm l l.length)) := by
  refine GivO.of mixed c8 (Nat.le_of_ble_eq_true rfl) ?_
  have hl : l.length ≤ 4194304 := by rw [r.ln]; exact r.p
  simp -dsimp -implicitDefEqProofs (disch := first | omega | (simp only [List.length_append, List.length_cons, List.length_nil, List.length_take, List.length_drop]; omega)) only [a8, gD, ↓aPre, aPost, oneW, allOne, retV, retVA, ↓reduceIte, reduceCtorEq, Nat.reduceAdd, Nat.reduceSub, Nat.reduceMul, Nat.reduceLT, Nat.reduceLeDiff, Nat.reduceEqDiff, Nat.reduceDiv, Nat.reduceMod, Nat.reducePow, Int.reduceAdd, Int.reduceSub, Int.reduceMul, Int.reduceLT, Int.reduceLE, Int.reduceEq, Int.reduceNe, Int.reducePow, Int.reduceToNat, Int.reduceNeg]
  refine loop_of (fun s => ∃ (k : Nat), k ≤ l.length ∧ s.tm 10 = .d (.c (.int .i64 k)) ∧ s.tm 9 = .d (.c (.int .i64 l.length)) ∧ s.tm 8 = .d (.lst 1 (li .u8 l)) ∧ s.tm 3 = .mp 6 ∧ s.hp 6 = some (.map .u8 (cm l k))) (fun s => l.length - (avN (s.tm 10)).toNat) ?_ ?_
  · refine ⟨0, Nat.zero_le _, ?_⟩
    simp -dsimp -implicitDefEqProofs (disch := first | omega | (simp only [List.length_append, List.length_cons, List.length_nil, List.length_take, List.length_drop]; omega)) only [cm, Int.natCast_zero, ↓aPre, aPost, oneW, allOne, retV, retVA, ↓reduceIte, reduceCtorEq, Nat.reduceAdd, Nat.reduceSub, Nat.reduceMul, Nat.reduceLT, Nat.reduceLeDiff, Nat.reduceEqDiff, Nat.reduceDiv, Nat.reduceMod, Nat.reducePow, Int.reduceAdd, Int.reduceSub, Int.reduceMul, Int.reduceLT, Int.reduceLE, Int.reduceEq, Int.reduceNe, Int.reducePow, Int.reduceToNat, Int.reduceNeg]
  rintro s ⟨k, hk, hs⟩
  by_cases hlt : k < l.length
  · have hb := r.i.get hm k
    have hc := cn_le l k (l.getD k 0)
    have hlk := cm_lk l (l.getD k 0) k
    have hml : ∀ k, (cm l k).length ≤ k := fun k => by
      induction k with
      | zero => exact Nat.le_refl _
      | succ k ih => rw [cm]; exact Nat.le_trans (mset_le _ _ _) (by omega)
    have hml2 := hml k
    simp -dsimp -implicitDefEqProofs (disch := first | omega | (simp only [List.length_append, List.length_cons, List.length_nil, List.length_take, List.length_drop]; omega)) only [hs, hlk, ↓aPre, aPost, oneW, allOne, retV, retVA, ↓reduceIte, reduceCtorEq, Nat.reduceAdd, Nat.reduceSub, Nat.reduceMul, Nat.reduceLT, Nat.reduceLeDiff, Nat.reduceEqDiff, Nat.reduceDiv, Nat.reduceMod, Nat.reducePow, Int.reduceAdd, Int.reduceSub, Int.reduceMul, Int.reduceLT, Int.reduceLE, Int.reduceEq, Int.reduceNe, Int.reducePow, Int.reduceToNat, Int.reduceNeg]
    refine round_of ⟨k + 1, by omega, ?_⟩ ?_
    · simp -dsimp -implicitDefEqProofs (disch := first | omega | (simp only [List.length_append, List.length_cons, List.length_nil, List.length_take, List.length_drop]; omega)) only [hs, cm, ↓aPre, aPost, oneW, allOne, retV, retVA, ↓reduceIte, reduceCtorEq, Nat.reduceAdd, Nat.reduceSub, Nat.reduceMul, Nat.reduceLT, Nat.reduceLeDiff, Nat.reduceEqDiff, Nat.reduceDiv, Nat.reduceMod, Nat.reducePow, Int.reduceAdd, Int.reduceSub, Int.reduceMul, Int.reduceLT, Int.reduceLE, Int.reduceEq, Int.reduceNe, Int.reducePow, Int.reduceToNat, Int.reduceNeg]
    · simp -dsimp -implicitDefEqProofs (disch := first | omega | (simp only [List.length_append, List.length_cons, List.length_nil, List.length_take, List.length_drop]; omega)) only [hs, ↓aPre, aPost, oneW, allOne, retV, retVA, ↓reduceIte, reduceCtorEq, Nat.reduceAdd, Nat.reduceSub, Nat.reduceMul, Nat.reduceLT, Nat.reduceLeDiff, Nat.reduceEqDiff, Nat.reduceDiv, Nat.reduceMod, Nat.reducePow, Int.reduceAdd, Int.reduceSub, Int.reduceMul, Int.reduceLT, Int.reduceLE, Int.reduceEq, Int.reduceNe, Int.reducePow, Int.reduceToNat, Int.reduceNeg]
      omega
  · obtain rfl : k = l.length := by omega
    simp -dsimp -implicitDefEqProofs (disch := first | omega | (simp only [List.length_append, List.length_cons, List.length_nil, List.length_take, List.length_drop]; omega)) only [hs, ↓aPre, aPost, oneW, allOne, retV, retVA, ↓reduceIte, reduceCtorEq, Nat.reduceAdd, Nat.reduceSub, Nat.reduceMul, Nat.reduceLT, Nat.reduceLeDiff, Nat.reduceEqDiff, Nat.reduceDiv, Nat.reduceMod, Nat.reducePow, Int.reduceAdd, Int.reduceSub, Int.reduceMul, Int.reduceLT, Int.reduceLE, Int.reduceEq, Int.reduceNe, Int.reducePow, Int.reduceToNat, Int.reduceNeg]
    exact own_of 6 _ _ (by decide) rfl (by simp -dsimp -implicitDefEqProofs (disch := first | omega | (simp only [List.length_append, List.length_cons, List.length_nil, List.length_take, List.length_drop]; omega)) only [hs, ↓aPre, aPost, oneW, allOne, retV, retVA, ↓reduceIte, reduceCtorEq, Nat.reduceAdd, Nat.reduceSub, Nat.reduceMul, Nat.reduceLT, Nat.reduceLeDiff, Nat.reduceEqDiff, Nat.reduceDiv, Nat.reduceMod, Nat.reducePow, Int.reduceAdd, Int.reduceSub, Int.reduceMul, Int.reduceLT, Int.reduceLE, Int.reduceEq, Int.reduceNe, Int.reducePow, Int.reduceToNat, Int.reduceNeg]) rfl ⟨rfl, rfl⟩
theorem count_u16 {m : Int} {W H : Nat} {l : List Int} (r : Rt m W H l) (hm : 0 < m) : GivO Try.prog 14 [gD .u16 W H l] (.mp 0) (.map .u16 (cm l l.length)) := by
  refine GivO.of mixed c14 (Nat.le_of_ble_eq_true rfl) ?_
  have hl : l.length ≤ 4194304 := by rw [r.ln]; exact r.p
  simp -dsimp -implicitDefEqProofs (disch := first | omega | (simp only [List.length_append, List.length_cons, List.length_nil, List.length_take, List.length_drop]; omega)) only [a14, gD, ↓aPre, aPost, oneW, allOne, retV, retVA, ↓reduceIte, reduceCtorEq, Nat.reduceAdd, Nat.reduceSub, Nat.reduceMul, Nat.reduceLT, Nat.reduceLeDiff, Nat.reduceEqDiff, Nat.reduceDiv, Nat.reduceMod, Nat.reducePow, Int.reduceAdd, Int.reduceSub, Int.reduceMul, Int.reduceLT, Int.reduceLE, Int.reduceEq, Int.reduceNe, Int.reducePow, Int.reduceToNat, Int.reduceNeg]
  refine loop_of (fun s => ∃ (k : Nat), k ≤ l.length ∧ s.tm 10 = .d (.c (.int .i64 k)) ∧ s.tm 9 = .d (.c (.int .i64 l.length)) ∧ s.tm 8 = .d (.lst 1 (li .u16 l)) ∧ s.tm 3 = .mp 6 ∧ s.hp 6 = some (.map .u16 (cm l k))) (fun s => l.length - (avN (s.tm 10)).toNat) ?_ ?_
  · refine ⟨0, Nat.zero_le _, ?_⟩
    simp -dsimp -implicitDefEqProofs (disch := first | omega | (simp only [List.length_append, List.length_cons, List.length_nil, List.length_take, List.length_drop]; omega)) only [cm, Int.natCast_zero, ↓aPre, aPost, oneW, allOne, retV, retVA, ↓reduceIte, reduceCtorEq, Nat.reduceAdd, Nat.reduceSub, Nat.reduceMul, Nat.reduceLT, Nat.reduceLeDiff, Nat.reduceEqDiff, Nat.reduceDiv, Nat.reduceMod, Nat.reducePow, Int.reduceAdd, Int.reduceSub, Int.reduceMul, Int.reduceLT, Int.reduceLE, Int.reduceEq, Int.reduceNe, Int.reducePow, Int.reduceToNat, Int.reduceNeg]
  rintro s ⟨k, hk, hs⟩
  by_cases hlt : k < l.length
  · have hb := r.i.get hm k
    have hc := cn_le l k (l.getD k 0)
    have hlk := cm_lk l (l.getD k 0) k
    have hml : ∀ k, (cm l k).length ≤ k := fun k => by
      induction k with
      | zero => exact Nat.le_refl _
      | succ k ih => rw [cm]; exact Nat.le_trans (mset_le _ _ _) (by omega)
    have hml2 := hml k
    simp -dsimp -implicitDefEqProofs (disch := first | omega | (simp only [List.length_append, List.length_cons, List.length_nil, List.length_take, List.length_drop]; omega)) only [hs, hlk, ↓aPre, aPost, oneW, allOne, retV, retVA, ↓reduceIte, reduceCtorEq, Nat.reduceAdd, Nat.reduceSub, Nat.reduceMul, Nat.reduceLT, Nat.reduceLeDiff, Nat.reduceEqDiff, Nat.reduceDiv, Nat.reduceMod, Nat.reducePow, Int.reduceAdd, Int.reduceSub, Int.reduceMul, Int.reduceLT, Int.reduceLE, Int.reduceEq, Int.reduceNe, Int.reducePow, Int.reduceToNat, Int.reduceNeg]
    refine round_of ⟨k + 1, by omega, ?_⟩ ?_
    · simp -dsimp -implicitDefEqProofs (disch := first | omega | (simp only [List.length_append, List.length_cons, List.length_nil, List.length_take, List.length_drop]; omega)) only [hs, cm, ↓aPre, aPost, oneW, allOne, retV, retVA, ↓reduceIte, reduceCtorEq, Nat.reduceAdd, Nat.reduceSub, Nat.reduceMul, Nat.reduceLT, Nat.reduceLeDiff, Nat.reduceEqDiff, Nat.reduceDiv, Nat.reduceMod, Nat.reducePow, Int.reduceAdd, Int.reduceSub, Int.reduceMul, Int.reduceLT, Int.reduceLE, Int.reduceEq, Int.reduceNe, Int.reducePow, Int.reduceToNat, Int.reduceNeg]
    · simp -dsimp -implicitDefEqProofs (disch := first | omega | (simp only [List.length_append, List.length_cons, List.length_nil, List.length_take, List.length_drop]; omega)) only [hs, ↓aPre, aPost, oneW, allOne, retV, retVA, ↓reduceIte, reduceCtorEq, Nat.reduceAdd, Nat.reduceSub, Nat.reduceMul, Nat.reduceLT, Nat.reduceLeDiff, Nat.reduceEqDiff, Nat.reduceDiv, Nat.reduceMod, Nat.reducePow, Int.reduceAdd, Int.reduceSub, Int.reduceMul, Int.reduceLT, Int.reduceLE, Int.reduceEq, Int.reduceNe, Int.reducePow, Int.reduceToNat, Int.reduceNeg]
      omega
  · obtain rfl : k = l.length := by omega
    simp -dsimp -implicitDefEqProofs (disch := first | omega | (simp only [List.length_append, List.length_cons, List.length_nil, List.length_take, List.length_drop]; omega)) only [hs, ↓aPre, aPost, oneW, allOne, retV, retVA, ↓reduceIte, reduceCtorEq, Nat.reduceAdd, Nat.reduceSub, Nat.reduceMul, Nat.reduceLT, Nat.reduceLeDiff, Nat.reduceEqDiff, Nat.reduceDiv, Nat.reduceMod, Nat.reducePow, Int.reduceAdd, Int.reduceSub, Int.reduceMul, Int.reduceLT, Int.reduceLE, Int.reduceEq, Int.reduceNe, Int.reducePow, Int.reduceToNat, Int.reduceNeg]
    exact own_of 6 _ _ (by decide) rfl (by simp -dsimp -implicitDefEqProofs (disch := first | omega | (simp only [List.length_append, List.length_cons, List.length_nil, List.length_take, List.length_drop]; omega)) only [hs, ↓aPre, aPost, oneW, allOne, retV, retVA, ↓reduceIte, reduceCtorEq, Nat.reduceAdd, Nat.reduceSub, Nat.reduceMul, Nat.reduceLT, Nat.reduceLeDiff, Nat.reduceEqDiff, Nat.reduceDiv, Nat.reduceMod, Nat.reducePow, Int.reduceAdd, Int.reduceSub, Int.reduceMul, Int.reduceLT, Int.reduceLE, Int.reduceEq, Int.reduceNe, Int.reducePow, Int.reduceToNat, Int.reduceNeg]) rfl ⟨rfl, rfl⟩
end Go.Proofs.Ytgjkenadiamgfaa

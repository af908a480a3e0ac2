/- Numbers sorted, the greatest first, as the reference sorts them; they are the weights turned round. No condition but what each says. -/
import Derived.Test.YtlchakkdgkbabaaLLens
import Derived.Test.YtlchakkdgkbabaaLDp
import Derived.Test.YtlchakkdgkbabaaLCost
set_option linter.unusedSimpArgs false
set_option linter.unusedVariables false
namespace Go.Proofs.Ytlchakkdgkbabaa
/-- the place of x, looked for from the end on -/
def plK (x : Int) (L : List Int) : Nat → Nat
  | 0 => 0
  | k + 1 => if L.getD k 0 < x then plK x L k else k + 1
def ins (x : Int) (L : List Int) : List Int := L.take (plK x L L.length) ++ [x] ++ L.drop (plK x L L.length)
def srK (l : List Int) : Nat → List Int
  | 0 => []
  | k + 1 => ins (l.getD k 0) (srK l k)
theorem plK_le (x : Int) (L : List Int) : ∀ k, plK x L k ≤ k
  | 0 => Nat.le_refl _
  | k + 1 => by
    rw [plK]
    split
    · have := plK_le x L k
      omega
    · exact Nat.le_refl _
theorem plK_lt (x : Int) (L : List Int) : ∀ (k j : Nat), plK x L k ≤ j → j < k → L.getD j 0 < x
  | 0, j, _, h => by omega
  | k + 1, j, h1, h2 => by
    rw [plK] at h1
    split at h1
    · rename_i h
      by_cases e : j = k
      · rw [e]; exact h
      · exact plK_lt x L k j h1 (by omega)
    · omega
theorem plK_ge (x : Int) (L : List Int) : ∀ k, plK x L k ≠ 0 → x ≤ L.getD (plK x L k - 1) 0
  | 0, h => absurd rfl h
  | k + 1, h => by
    rw [plK] at h ⊢
    split at h
    · rename_i c
      rw [if_pos c]
      exact plK_ge x L k h
    · rename_i c
      rw [if_neg c, Nat.add_sub_cancel]
      omega
theorem ins_len (x : Int) (L : List Int) : (ins x L).length = L.length + 1 := by
  have := plK_le x L L.length
  simp only [ins, List.length_append, List.length_take, List.length_drop, List.length_singleton]
  omega
theorem srK_len (l : List Int) : ∀ k, (srK l k).length = k
  | 0 => rfl
  | k + 1 => by rw [srK, ins_len, srK_len l k]
theorem ins_perm (x : Int) (L : List Int) : (ins x L).Perm (x :: L) := by
  unfold ins
  have h := List.take_append_drop (plK x L L.length) L
  have h1 : (L.take (plK x L L.length) ++ [x] ++ L.drop (plK x L L.length)).Perm (x :: (L.take (plK x L L.length) ++ L.drop (plK x L L.length))) := by
    rw [List.append_assoc, List.singleton_append]
    exact List.perm_middle
  rw [h] at h1
  exact h1
theorem srK_perm {l : List Int} : ∀ k, k ≤ l.length → (srK l k).Perm (l.take k)
  | 0, _ => .refl _
  | k + 1, h => by
    rw [srK]
    refine (ins_perm _ _).trans ?_
    have e : l.take (k + 1) = l.take k ++ [l.getD k 0] := by
      rw [List.take_add_one]
      simp only [List.getD, List.getElem?_eq_getElem (show k < l.length by omega), Option.getD_some, Option.toList_some]
    rw [e]
    exact ((srK_perm k (by omega)).cons _).trans (List.perm_append_singleton _ _).symm
theorem desc_get {L : List Int} (h : L.Pairwise (· ≥ ·)) {i j : Nat} (hij : i ≤ j) (hj : j < L.length) : L.getD j 0 ≤ L.getD i 0 := by
  by_cases e : i = j
  · rw [e]; exact Int.le_refl _
  · have := List.pairwise_iff_getElem.1 h i j (by omega) hj (by omega)
    simpa only [List.getD, List.getElem?_eq_getElem hj, List.getElem?_eq_getElem (show i < L.length by omega), Option.getD_some] using this
theorem ins_desc {x : Int} {L : List Int} (h : L.Pairwise (· ≥ ·)) : (ins x L).Pairwise (· ≥ ·) := by
  have hle := plK_le x L L.length
  have hge := plK_ge x L L.length
  have hlt := plK_lt x L L.length
  unfold ins
  obtain ⟨p, hp⟩ : ∃ p, p = plK x L L.length := ⟨_, rfl⟩
  rw [← hp] at hle hge hlt ⊢
  have g1 : ∀ y ∈ L.take p, y ≥ x := fun y hy => by
    obtain ⟨j, hj, rfl⟩ := List.getElem_of_mem hy
    rw [List.length_take] at hj
    have h1 := hge (by omega)
    have h2 := desc_get h (show j ≤ p - 1 by omega) (by omega)
    rw [List.getElem_take]
    have h3 : L.getD j 0 = L[j] := by simp only [List.getD, List.getElem?_eq_getElem (show j < L.length by omega), Option.getD_some]
    omega
  have g2 : ∀ y ∈ L.drop p, x ≥ y := fun y hy => by
    obtain ⟨j, hj, rfl⟩ := List.getElem_of_mem hy
    rw [List.length_drop] at hj
    have h1 := hlt (p + j) (by omega) (by omega)
    rw [List.getElem_drop]
    have h3 : L.getD (p + j) 0 = L[p + j] := by simp only [List.getD, List.getElem?_eq_getElem (show p + j < L.length by omega), Option.getD_some]
    omega
  rw [List.append_assoc, List.pairwise_append]
  refine ⟨h.sublist (List.take_sublist _ _), ?_, fun a ha b hb => ?_⟩
  · rw [List.singleton_append, List.pairwise_cons]
    exact ⟨g2, h.sublist (List.drop_sublist _ _)⟩
  · rcases List.mem_append.1 hb with hb | hb
    · rw [List.mem_singleton.1 hb]; exact g1 a ha
    · exact Int.le_trans (g2 b hb) (g1 a ha)
theorem srK_desc (l : List Int) : ∀ k, (srK l k).Pairwise (· ≥ ·)
  | 0 => List.Pairwise.nil
  | k + 1 => ins_desc (srK_desc l k)
theorem desc_one : ∀ {a b : List Int}, a.Perm b → a.Pairwise (· ≥ ·) → b.Pairwise (· ≥ ·) → a = b
  | [], b, h, _, _ => (List.nil_perm.1 h).symm
  | x :: a, [], h, _, _ => by have := h.length_eq; simp at this
  | x :: a, y :: b, h, ha, hb => by
    rw [List.pairwise_cons] at ha hb
    have e : x = y := by
      have h1 : x ∈ y :: b := h.mem_iff.1 (by simp)
      have h2 : y ∈ x :: a := h.mem_iff.2 (by simp)
      rcases List.mem_cons.1 h1 with h1 | h1
      · exact h1
      · rcases List.mem_cons.1 h2 with h2 | h2
        · exact h2.symm
        · have := hb.1 x h1
          have := ha.1 y h2
          omega
    subst e
    rw [desc_one ((List.perm_cons x).1 h) ha.2 hb.2]
/-- the weights, the greatest first -/
def wtD (of : List Int) : List Int := (wts (sgs of)).reverse
theorem wtD_len (of : List Int) : (wtD of).length = (sgs of).length := by simp [wtD, wts]
theorem sorted_wtD (of : List Int) : srK (wts (sgl of of.length)) (wts (sgl of of.length)).length = wtD of := by
  refine desc_one ?_ (srK_desc _ _) ?_
  · refine (srK_perm _ (Nat.le_refl _)).trans ?_
    rw [List.take_length]
    unfold wtD sgs
    exact (((stab_perm (sgl of of.length)).symm.map (·.1))).trans (List.reverse_perm _).symm
  · unfold wtD wts
    rw [List.pairwise_reverse, List.pairwise_map]
    exact stab_isSrt _
/-- sums of the first so many -/
def pfx (L : List Int) : Nat → Int
  | 0 => 0
  | k + 1 => pfx L k + L.getD k 0
theorem pfx_sum {L : List Int} : ∀ k, k ≤ L.length → pfx L k = (L.take k).sum
  | 0, _ => by simp [pfx]
  | k + 1, h => by
    rw [pfx, pfx_sum k (by omega), List.take_add_one]
    simp only [List.getD, List.getElem?_eq_getElem (show k < L.length by omega), Option.getD_some, Option.toList_some, List.sum_append, List.sum_cons, List.sum_nil]
    omega
theorem pfx_wt (of : List Int) {g : Nat} (hg : g ≤ (sgs of).length) : pfx (wtD of) (sgs of).length - pfx (wtD of) g = Wt (sgs of) ((sgs of).length - g) := by
  have hl := wtD_len of
  rw [pfx_sum _ (by omega), pfx_sum _ (by omega), ← hl, List.take_length]
  have h1 : (wtD of).sum = ((wtD of).take g).sum + ((wtD of).drop g).sum := by
    rw [← List.sum_append, List.take_append_drop]
  have h2 : ((wtD of).drop g).sum = Wt (sgs of) ((sgs of).length - g) := by
    have hw : (wts (sgs of)).length = (sgs of).length := by simp [wts]
    unfold Wt ssum
    rw [wtD, List.drop_reverse, List.sum_reverse, hw]
    unfold wts
    rw [List.map_take]
  rw [hl]
  rw [h1, ← h2]
  omega
end Go.Proofs.Ytlchakkdgkbabaa

/- Things in another order cost as much. No condition but what each says. -/
import Derived.Test.YtlchakkdgkbabaaLCost
set_option linter.unusedSimpArgs false
set_option linter.unusedVariables false
namespace Go.Proofs.Ytlchakkdgkbabaa
open Go.Eng Go.RowKit
theorem sgl_wts (of : List Int) : ∀ k, k ≤ of.length → wts (sgl of k) = (of.take k).filter (fun x => decide (0 < x))
  | 0, _ => by simp [sgl, wts]
  | k + 1, h => by
    rw [sgl, take_at (show k < of.length by omega), List.filter_append, ← sgl_wts of k (by omega)]
    by_cases c : 0 < of.getD k 0
    · rw [if_pos c]
      unfold wts
      rw [List.map_append]
      congr 1
      simp only [List.map_cons, List.map_nil, List.filter, c, decide_true]
    · rw [if_neg c]
      simp only [List.filter, c, decide_false, List.append_nil]
theorem sgs_wts (of : List Int) : (wts (sgs of)).Perm (of.filter (fun x => decide (0 < x))) := by
  have h : (wts (sgs of)).Perm (wts (sgl of of.length)) := (stab_perm (sgl of of.length)).map _
  rw [sgl_wts of _ (Nat.le_refl _), List.take_of_length_le (Nat.le_refl _)] at h
  exact h
theorem wts_srt {l : List Pc} (h : Srt l) : (wts l).Pairwise (· ≤ ·) := List.pairwise_map.2 h
theorem srt_eq : ∀ {a b : List Int}, a.Pairwise (· ≤ ·) → b.Pairwise (· ≤ ·) → a.Perm b → a = b
  | [], b, _, _, h => (List.Perm.nil_eq h)
  | x :: a, b, ha, hb, h => by
    cases b with
    | nil => exact absurd h.length_eq (by simp)
    | cons y b =>
      obtain ⟨a1, a2⟩ := List.pairwise_cons.1 ha
      obtain ⟨b1, b2⟩ := List.pairwise_cons.1 hb
      have hx : x ∈ y :: b := h.mem_iff.1 (List.mem_cons_self ..)
      have hy : y ∈ x :: a := h.mem_iff.2 (List.mem_cons_self ..)
      have e : x = y := by
        rcases List.mem_cons.1 hx with q | q
        · exact q
        · rcases List.mem_cons.1 hy with r | r
          · exact r.symm
          · have := b1 x q
            have := a1 y r
            omega
      subst e
      rw [srt_eq a2 b2 h.cons_inv]
theorem sgs_perm {a b : List Int} (h : a.Perm b) : wts (sgs a) = wts (sgs b) :=
  srt_eq (wts_srt (stab_isSrt _)) (wts_srt (stab_isSrt _)) ((sgs_wts a).trans ((h.filter _).trans (sgs_wts b).symm))
theorem cost_perm {a b : List Int} (h : a.Perm b) (ha : GoodL a) (hb : GoodL b) (L : Nat) : costL b L = costL a L := by
  have := cost_sc (of := a) (of' := b) (L := L) (c := 1) (by decide) ha hb (by rw [sgs_perm h]; simp)
  rw [this, Int.one_mul]
def bck (l : List Int) (n : Nat) : List Int := tab (fun i => l.getD (l.length - 1 - i) 0) n
theorem bck_rev (l : List Int) : bck l l.length = l.reverse := by
  refine (list_tab (List.length_reverse ..) fun i hi => ?_).symm
  simp only [List.getD, List.getElem?_reverse hi]
theorem bck_perm (l : List Int) : l.Perm (bck l l.length) := by
  rw [bck_rev]
  exact l.reverse_perm.symm
theorem bck_good {l : List Int} (h : GoodL l) : GoodL (bck l l.length) := fun i hi => by
  rw [bck, tab_len] at hi
  rw [bck, tab_get _ hi]
  exact h _ (by omega)
theorem bck_sgs (l : List Int) : (sgs (bck l l.length)).length = (sgs l).length := by
  rw [← wts_len, ← sgs_perm (bck_perm l), wts_len]
end Go.Proofs.Ytlchakkdgkbabaa

/- How long package-merge's lists and parcels become; how often each thing is in a row. No condition but what each says. -/
import Derived.Test.YtlchakkdgkbabaaLLens
import Derived.Test.YtlchakkdgkbabaaEngW
set_option linter.unusedSimpArgs false
set_option linter.unusedVariables false
namespace Go.Proofs.Ytlchakkdgkbabaa
open Go.Eng Go.RowKit
theorem LL_short (sg : List Pc) : ∀ k, (LL sg k).length ≤ 2 * sg.length
  | 0 => by rw [LL]; simp
  | k + 1 => by
    have := LL_short sg k
    rw [LL_len]
    omega
theorem LL_wt {sg : List Pc} {M : Int} (hM : 0 ≤ M) (h : ∀ p ∈ sg, 0 ≤ p.1 ∧ p.1 ≤ M) : ∀ k, ∀ p ∈ LL sg k, 0 ≤ p.1 ∧ p.1 ≤ M * ((2 ^ k : Nat) : Int)
  | 0 => fun p hp => by cases hp
  | k + 1 => fun p hp => by
    have e : M * ((2 ^ (k + 1) : Nat) : Int) = M * ((2 ^ k : Nat) : Int) + M * ((2 ^ k : Nat) : Int) := by
      rw [Nat.pow_succ, Int.natCast_mul, ← Int.mul_assoc, show (((2 : Nat) : Int)) = 2 from rfl, Int.mul_comm _ 2]
      omega
    have e0 : M * 1 ≤ M * ((2 ^ k : Nat) : Int) := Int.mul_le_mul_of_nonneg_left (by have := Nat.two_pow_pos k; omega) hM
    rcases (mrg_mem _ _).1 hp with q | q
    · have := h p q
      omega
    · obtain ⟨x, y, hx, hy, rfl⟩ := prs_mem q
      have a := LL_wt hM h k x hx
      have b := LL_wt hM h k y hy
      dsimp only
      omega
theorem its_prs : ∀ l : List Pc, (its (prs l)).length ≤ (its l).length
  | [] => Nat.le_refl _
  | [_] => Nat.zero_le _
  | x :: y :: l => by
    have := its_prs l
    rw [prs_cons, its_cons, its_cons, its_cons]
    simp only [List.length_append]
    omega
theorem LL_its (sg : List Pc) : ∀ k, (its (LL sg k)).length ≤ (its sg).length * k
  | 0 => by rw [LL]; simp [its]
  | k + 1 => by
    have h1 := LL_its sg k
    have h2 := its_prs (LL sg k)
    rw [LL, (its_perm (mrg_perm _ _)).length_eq, its_app, List.length_append, Nat.mul_succ]
    omega
theorem its_part {l : List Pc} {p : Pc} (h : p ∈ l) : p.2.length ≤ (its l).length := by
  obtain ⟨A, B, rfl⟩ := List.append_of_mem h
  rw [its_app, its_cons]
  simp only [List.length_append]
  omega
theorem one_sgs (of : List Int) : One (sgs of) := fun p hp => by
  obtain ⟨i, _, _, rfl⟩ := sgl_mem.1 (sgs_mem.1 hp)
  exact ⟨i, rfl⟩
def cntL (I : List Int) (n : Nat) : List Int := tab (fun i => ((I.count (i : Int) : Nat) : Int)) n
theorem cnt_nil (n : Nat) : cntL [] n = List.replicate n 0 := by
  rw [rep_tab]
  exact tab_congr _ fun i _ => by simp
theorem cnt_len (I : List Int) (n : Nat) : (cntL I n).length = n := tab_len _ _
theorem cnt_get (I : List Int) {n i : Nat} (h : i < n) : (cntL I n).getD i 0 = (I.count (i : Int) : Nat) := tab_get _ h
theorem cnt_set (I : List Int) {n c : Nat} (h : c < n) : (cntL I n).set c (((I.count (c : Int) : Nat) : Int) + 1) = cntL (I ++ [(c : Int)]) n := by
  rw [cntL, tab_set _ h]
  refine tab_congr _ fun j _ => ?_
  by_cases e : j = c
  · subst e
    rw [if_pos rfl, List.count_append]
    simp
  · rw [if_neg e, List.count_append, show List.count (j : Int) [(c : Int)] = 0 from List.count_eq_zero.2 (by simp; omega)]
    simp
/-- the lengths that are given -/
def lensL (of : List Int) (L : Nat) : List Int := if (sgs of).length = 1 then tab (fun i => if 0 < of.getD i 0 then 1 else 0) of.length else cntL (pk of L) of.length
theorem lensL_len (of : List Int) (L : Nat) : (lensL of L).length = of.length := by
  rw [lensL]
  split
  · exact tab_len _ _
  · exact tab_len _ _
theorem sgl_one {of : List Int} {p : Pc} (h : sgl of of.length = [p]) : ∃ i : Nat, i < of.length ∧ 0 < of.getD i 0 ∧ p = (of.getD i 0, [(i : Int)]) ∧ ∀ j, j < of.length → (0 < of.getD j 0 ↔ j = i) := by
  obtain ⟨i, h1, h2, h3⟩ := sgl_mem.1 (show p ∈ sgl of of.length by rw [h]; simp)
  refine ⟨i, h1, h2, h3, fun j hj => ⟨fun hp => ?_, fun e => by rw [e]; exact h2⟩⟩
  have := sgl_mem.2 ⟨j, hj, hp, rfl⟩
  rw [h, List.mem_singleton, h3] at this
  simp only [Prod.mk.injEq, List.cons.injEq, and_true] at this
  omega
theorem lensL_one {of : List Int} {L i : Nat} {p : Pc} (h : sgl of of.length = [p]) (hp : p = (of.getD i 0, [(i : Int)])) (hi : i < of.length) : (List.replicate of.length 0).set i 1 = lensL of L := by
  obtain ⟨j, h1, h2, h3, h4⟩ := sgl_one h
  have e : i = j := by
    rw [hp] at h3
    simp only [Prod.mk.injEq, List.cons.injEq, and_true] at h3
    omega
  subst e
  rw [lensL, if_pos (by rw [sgs_len, h]; rfl), rep_tab, tab_set _ hi]
  refine tab_congr _ fun k hk => ?_
  by_cases e : k = i
  · rw [if_pos e, if_pos ((h4 k hk).2 e)]
  · rw [if_neg e, if_neg fun c => e ((h4 k hk).1 c)]
theorem lensL_nil {of : List Int} {L : Nat} (h : (sgs of).length = 0) : List.replicate of.length 0 = lensL of L := by
  rw [lensL, if_neg (by omega), pk, h]
  exact (cnt_nil _).symm
theorem lensL_more {of : List Int} {L : Nat} (h : 2 ≤ (sgs of).length) : cntL (pk of L) of.length = lensL of L := by rw [lensL, if_neg (by omega)]
end Go.Proofs.Ytlchakkdgkbabaa

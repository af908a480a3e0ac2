/- What the lengths cost; and in how many ways the same cost is told. No condition but what each says. -/
import Derived.Test.YtlchakkdgkbabaaLBnd
set_option linter.unusedSimpArgs false
set_option linter.unusedVariables false
namespace Go.Proofs.Ytlchakkdgkbabaa
open Go.Eng Go.RowKit
def GoodL (of : List Int) : Prop := ∀ i : Nat, i < of.length → 0 ≤ of.getD i 0 ∧ of.getD i 0 ≤ 1073741824
/-- the sum of products, as it is reckoned -/
def cstK (a b : List Int) : Nat → Int
  | 0 => 0
  | k + 1 => IntKind.i64.wrap (cstK a b k + IntKind.i64.wrap (a.getD k 0 * b.getD k 0))
/-- each thing's length -/
def lensF (of : List Int) (L : Nat) (i : Nat) : Nat := if (sgs of).length = 1 then (if 0 < of.getD i 0 then 1 else 0) else lenF of L i
theorem lensL_tab (of : List Int) (L : Nat) : lensL of L = tab (fun i => (lensF of L i : Int)) of.length := by
  unfold lensL lensF
  split
  · exact tab_congr _ fun i _ => by split <;> rfl
  · rfl
theorem lensL_get {of : List Int} {L i : Nat} (h : i < of.length) : (lensL of L).getD i 0 = (lensF of L i : Int) := by rw [lensL_tab, tab_get _ h]
theorem sgs_some {of : List Int} {i : Nat} (hi : i < of.length) (hp : 0 < of.getD i 0) : 1 ≤ (sgs of).length := by
  have h := sgs_mem.2 (sgl_mem.2 ⟨i, hi, hp, rfl⟩)
  cases h2 : sgs of with
  | nil => rw [h2] at h; cases h
  | cons x l => simp
theorem lensF_in {of : List Int} {L : Nat} (h1 : 1 ≤ L) (hL : (sgs of).length ≤ 2 ^ L) {i : Nat} (hi : i < of.length) : (0 < of.getD i 0 → 1 ≤ lensF of L i ∧ lensF of L i ≤ L) ∧ (¬ 0 < of.getD i 0 → lensF of L i = 0) := by
  unfold lensF
  by_cases e : (sgs of).length = 1
  · rw [if_pos e]
    refine ⟨fun h => by rw [if_pos h]; omega, fun h => by rw [if_neg h]⟩
  · rw [if_neg e]
    by_cases e0 : (sgs of).length = 0
    · refine ⟨fun h => ?_, fun h => ?_⟩
      · have := sgs_some hi h
        omega
      · show cnt _ _ _ _ = 0
        rw [cnt, e0]
        rfl
    · exact lenF_in (by omega) hL hi
theorem lensF_le {of : List Int} {L : Nat} (h1 : 1 ≤ L) (hL : (sgs of).length ≤ 2 ^ L) {i : Nat} (hi : i < of.length) : lensF of L i ≤ L := by
  obtain ⟨a, b⟩ := lensF_in h1 hL hi
  by_cases h : 0 < of.getD i 0
  · exact (a h).2
  · rw [b h]; omega
theorem cst_csF {of ls : List Int} {f : Nat → Int} {L : Nat} (hL : L ≤ 30) (hg : GoodL of) : ∀ (k : Nat), k ≤ of.length → k ≤ 1000 → (∀ i, i < k → ls.getD i 0 = f i ∧ 0 ≤ f i ∧ f i ≤ L) → cstK of ls k = csF of f k ∧ 0 ≤ csF of f k ∧ csF of f k ≤ k * 32212254720
  | 0, _, _, _ => ⟨rfl, Int.le_refl _, by simp [csF]⟩
  | k + 1, h1, h2, h3 => by
    obtain ⟨e, a, b⟩ := cst_csF hL hg k (by omega) (by omega) fun i hi => h3 i (by omega)
    obtain ⟨c1, c2, c3⟩ := h3 k (by omega)
    obtain ⟨d1, d2⟩ := hg k (by omega)
    have m1 : 0 ≤ of.getD k 0 * f k := Int.mul_nonneg d1 c2
    have m2 : of.getD k 0 * f k ≤ 1073741824 * 30 := Int.mul_le_mul d2 (by omega) c2 (by decide)
    have hk : ((k + 1 : Nat) : Int) * 32212254720 = k * 32212254720 + 32212254720 := by omega
    rw [cstK, csF, e, c1]
    obtain ⟨p, hp⟩ : ∃ p, p = of.getD k 0 * f k := ⟨_, rfl⟩
    obtain ⟨q, hq⟩ : ∃ q, q = csF of f k := ⟨_, rfl⟩
    rw [← hp] at m1 m2 ⊢
    rw [← hq] at a b ⊢
    have e1 : IntKind.i64.wrap p = p := IntWalk.i64_in _ (by omega)
    rw [e1]
    refine ⟨IntWalk.i64_in _ (by omega), by omega, by omega⟩
def costL (of : List Int) (L : Nat) : Int := csF of (fun i => (lensF of L i : Int)) of.length
theorem cost_is {of : List Int} {L : Nat} (h1 : 1 ≤ L) (h2 : L ≤ 30) (hl : of.length ≤ 1000) (hg : GoodL of) (hc : (sgs of).length ≤ 2 ^ L) : cstK of (lensL of L) of.length = costL of L ∧ 0 ≤ costL of L ∧ costL of L ≤ of.length * 32212254720 :=
  cst_csF h2 hg of.length (Nat.le_refl _) hl fun i hi => by
    have := lensF_le h1 hc hi
    exact ⟨lensL_get hi, by omega, by omega⟩
theorem csF_sgl (of : List Int) (hg : GoodL of) : ∀ k, k ≤ of.length → csF of (fun i => if 0 < of.getD i 0 then 1 else 0) k = ssum (sgl of k)
  | 0, _ => by simp [csF, sgl, ssum]
  | k + 1, h => by
    have ih := csF_sgl of hg k (by omega)
    have := hg k (by omega)
    rw [csF, sgl, ih]
    by_cases c : 0 < of.getD k 0
    · rw [if_pos c, if_pos c, ssum_app]
      simp [ssum]
    · rw [if_neg c, if_neg c]
      omega
/-- the cost, of what comes alone -/
theorem costL_eq {of : List Int} {L : Nat} (hg : GoodL of) : costL of L = if (sgs of).length = 1 then ssum (sgs of) else SS (sgs of) L (2 * ((sgs of).length - 1)) := by
  by_cases e : (sgs of).length = 1
  · rw [if_pos e, costL, csF_congr (g := fun i => if 0 < of.getD i 0 then 1 else 0) (fun i _ => by unfold lensF; rw [if_pos e]; split <;> rfl), csF_sgl of hg _ (Nat.le_refl _)]
    exact (ssum_perm (stab_perm _)).symm
  · rw [if_neg e, ← cost_pm, costL]
    exact csF_congr fun i _ => by unfold lensF; rw [if_neg e]
def wts (l : List Pc) : List Int := l.map (·.1)
theorem ssum_wts (l : List Pc) : ssum l = (wts l).sum := rfl
/-- as many times as much -/
theorem cost_sc {of of' : List Int} {L : Nat} {c : Int} (hc : 0 < c) (hg : GoodL of) (hg' : GoodL of') (h : wts (sgs of') = (wts (sgs of)).map (c * ·)) : costL of' L = c * costL of L := by
  have hl : (sgs of').length = (sgs of).length := by
    have := congrArg List.length h
    simpa [wts] using this
  rw [costL_eq hg, costL_eq hg', hl]
  by_cases e : (sgs of).length = 1
  · rw [if_pos e, if_pos e, ssum_wts, ssum_wts, h, sum_sc]
  · rw [if_neg e, if_neg e]
    exact SS_sc hc h _ _
theorem cost_anti {of : List Int} {L : Nat} (hg : GoodL of) (hc : (sgs of).length ≤ 2 ^ L) : costL of (L + 1) ≤ costL of L := by
  rw [costL_eq hg, costL_eq hg]
  by_cases e : (sgs of).length = 1
  · rw [if_pos e, if_pos e]; exact Int.le_refl _
  · rw [if_neg e, if_neg e]
    have := LL_long (sgs of) L 1 (by omega)
    exact SS_anti (sgs_sg of) L _ (by omega)
theorem stab_sc {c : Int} (hc : 0 < c) : ∀ (a a' : List Pc), wts a' = (wts a).map (c * ·) → wts (stab a') = (wts (stab a)).map (c * ·)
  | [], [], _ => rfl
  | [], _ :: _, h => by simp [wts] at h
  | _ :: _, [], h => by simp [wts] at h
  | x :: a, y :: a', h => by
    simp only [wts, List.map_cons, List.cons.injEq] at h
    rw [stab, stab]
    exact mrg_sc hc [x] (stab a) [y] (stab a') (by simp [h.1]) (stab_sc hc a a' h.2)
theorem sgl_sc {of of' : List Int} {c : Int} (hc : 0 < c) (h : ∀ i, i < of.length → of'.getD i 0 = c * of.getD i 0) : ∀ k, k ≤ of.length → wts (sgl of' k) = (wts (sgl of k)).map (c * ·)
  | 0, _ => rfl
  | k + 1, hk => by
    have ih := sgl_sc hc h k (by omega)
    have e := h k (by omega)
    have hp : 0 < of'.getD k 0 ↔ 0 < of.getD k 0 := by
      rw [e]
      exact ⟨fun q => by
        refine Decidable.byContradiction fun n => ?_
        have : c * of.getD k 0 ≤ c * 0 := Int.mul_le_mul_of_nonneg_left (by omega) (by omega)
        omega, fun q => Int.mul_pos hc q⟩
    rw [sgl, sgl]
    by_cases p : 0 < of.getD k 0
    · rw [if_pos p, if_pos (hp.2 p)]
      unfold wts at ih ⊢
      simp only [List.map_append, List.map_cons, List.map_nil, ih, e]
    · rw [if_neg p, if_neg fun q => p (hp.1 q)]
      exact ih
theorem sgs_sc {of of' : List Int} {c : Int} (hc : 0 < c) (hl : of'.length = of.length) (h : ∀ i, i < of.length → of'.getD i 0 = c * of.getD i 0) : wts (sgs of') = (wts (sgs of)).map (c * ·) := by
  unfold sgs
  rw [hl]
  exact stab_sc hc _ _ (sgl_sc hc h _ (Nat.le_refl _))
theorem wts_len (l : List Pc) : (wts l).length = l.length := List.length_map ..
end Go.Proofs.Ytlchakkdgkbabaa

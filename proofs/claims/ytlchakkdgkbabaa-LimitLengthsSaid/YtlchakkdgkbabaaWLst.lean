/- The reference's least cost, walked. No condition but that there are no more than forty things that come. -/
import Derived.Test.YtlchakkdgkbabaaWLsA
import Derived.Test.YtlchakkdgkbabaaWSrt
import Derived.Test.YtlchakkdgkbabaaLLst
import Derived.Test.YtlchakkdgkbabaaWServe
set_option linter.unusedSimpArgs false
set_option linter.unusedVariables false
set_option maxRecDepth 8000
set_option maxHeartbeats 8000000
namespace Go.Proofs.Ytlchakkdgkbabaa
open Go.Eng Go.RowKit
theorem wt_get {of : List Int} (hg : GoodL of) (j : Nat) : 0 ≤ (wtD of).getD j 0 ∧ (wtD of).getD j 0 ≤ 1073741824 := by
  by_cases h : j < (wtD of).length
  · have hm : (wtD of).getD j 0 ∈ wtD of := by
      simp only [List.getD, List.getElem?_eq_getElem h, Option.getD_some]
      exact List.getElem_mem _
    obtain ⟨z, hz⟩ : ∃ z, z = (wtD of).getD j 0 := ⟨_, rfl⟩
    rw [← hz] at hm ⊢
    unfold wtD at hm
    rw [List.mem_reverse] at hm
    unfold wts at hm
    obtain ⟨p, hp, he⟩ := List.mem_map.1 hm
    rw [sgs_mem] at hp
    obtain ⟨i, h1, h2, rfl⟩ := sgl_mem.1 hp
    have := hg i h1
    simp only at he
    omega
  · simp [List.getD, List.getElem?_eq_none (Nat.le_of_not_lt h)]
theorem pfx_b {L : List Int} (h : ∀ j, 0 ≤ L.getD j 0 ∧ L.getD j 0 ≤ 1073741824) : ∀ k : Nat, 0 ≤ pfx L k ∧ pfx L k ≤ k * 1073741824
  | 0 => by simp [pfx]
  | k + 1 => by
    have := pfx_b h k
    have := h k
    rw [pfx]
    omega
/-- what stays: the limit, the weights, their number -/
def Bs0 (D : List Int) (N L : Nat) (s : St) : Prop := s.tm 1 = .d (.c (.int .i64 L)) ∧ s.tm 5 = .d (.lst 1 (li .i64 D)) ∧ s.tm 6 = .d (.c (.int .i64 N))
def Bse (D : List Int) (N L : Nat) (s : St) : Prop := s.tm 1 = .d (.c (.int .i64 L)) ∧ s.tm 6 = .d (.c (.int .i64 N)) ∧ s.tm 7 = .sl 30 1 0 (N + 1) ∧ s.hp 30 = some (.row 1 (li .i64 (psK D N)))
section
variable {D : List Int} {N L : Nat}
theorem ps_walk (hD : D.length = N) (hb : ∀ j, 0 ≤ D.getD j 0 ∧ D.getD j 0 ≤ 1073741824) (hN : N ≤ 40) {Q : Exit → St → Prop} {s : St} (hs : Bs0 D N L s) (h7 : s.tm 7 = .sl 30 1 0 1) (h30 : s.hp 30 = some (.row 1 (li .i64 [0]))) (hQ : ∀ s', Bse D N L s' → Q .normal s') : awp Try.prog cPs Q s := by
  have hll := li_length (k := .i64) (l := D)
  unfold Bs0 at hs
  unfold cPs
  simp -dsimp -implicitDefEqProofs (disch := first | omega | (simp only [List.length_append, List.length_cons, List.length_nil, List.length_take, List.length_drop]; omega)) only [hs, ↓aPre, aPost, oneW, allOne, retV, retVA, simprocAttr]
  refine loop_of (fun s => ∃ k : Nat, k ≤ N ∧ s.tm 1 = .d (.c (.int .i64 L)) ∧ s.tm 5 = .d (.lst 1 (li .i64 D)) ∧ s.tm 6 = .d (.c (.int .i64 N)) ∧ s.tm 7 = .sl 30 1 0 (k + 1) ∧ s.hp 30 = some (.row 1 (li .i64 (psK D k))) ∧ s.tm 8 = .d (.c (.int .i64 k))) (fun s => N - (avN (s.tm 8)).toNat) ?_ ?_
  · refine ⟨0, Nat.zero_le _, ?_⟩
    simp -dsimp -implicitDefEqProofs (disch := first | omega | (simp only [List.length_append, List.length_cons, List.length_nil, List.length_take, List.length_drop]; omega)) only [hs, h7, h30, psK, ↓aPre, aPost, oneW, allOne, retV, retVA, simprocAttr]
  clear hs h7 h30
  rintro s ⟨k, hk, hs⟩
  have hpl := psK_len D k
  have hlp := li_length (k := .i64) (l := psK D k)
  rw [hpl] at hlp
  by_cases hlt : k < N
  · have hp1 := psK_get D (Nat.le_refl k)
    have hpb := pfx_b hb k
    have hzb := hb k
    have hps : psK D (k + 1) = psK D k ++ [pfx D k + D.getD k 0] := rfl
    obtain ⟨z, hz⟩ : ∃ z, z = D.getD k 0 := ⟨_, rfl⟩
    obtain ⟨p, hp⟩ : ∃ p, p = pfx D k := ⟨_, rfl⟩
    rw [← hz] at hzb hps
    rw [← hp] at hpb hps hp1
    simp -dsimp -implicitDefEqProofs (disch := first | omega | (simp only [List.length_append, List.length_cons, List.length_nil, List.length_take, List.length_drop]; omega)) only [hs, hll, hD, ← hz, hp1, hlp, hpl, ↓aPre, aPost, oneW, allOne, retV, retVA, simprocAttr]
    refine round_of ⟨k + 1, by omega, ?_⟩ ?_
    · simp -dsimp -implicitDefEqProofs (disch := first | omega | (simp only [List.length_append, List.length_cons, List.length_nil, List.length_take, List.length_drop]; omega)) only [hs, hps, hlp, ↓aPre, aPost, oneW, allOne, retV, retVA, simprocAttr]
    · simp -dsimp -implicitDefEqProofs (disch := first | omega | (simp only [List.length_append, List.length_cons, List.length_nil, List.length_take, List.length_drop]; omega)) only [hs, ↓aPre, aPost, oneW, allOne, retV, retVA, simprocAttr]
      omega
  · obtain rfl : k = N := by omega
    simp -dsimp -implicitDefEqProofs (disch := first | omega | (simp only [List.length_append, List.length_cons, List.length_nil, List.length_take, List.length_drop]; omega)) only [hs, ↓aPre, aPost, oneW, allOne, retV, retVA, simprocAttr]
    refine hQ _ ?_
    unfold Bse
    simp -dsimp -implicitDefEqProofs (disch := first | omega | (simp only [List.length_append, List.length_cons, List.length_nil, List.length_take, List.length_drop]; omega)) only [hs, ↓aPre, aPost, oneW, allOne, retV, retVA, simprocAttr]
end
end Go.Proofs.Ytlchakkdgkbabaa
namespace Go.Proofs.Ytlchakkdgkbabaa
open Go.Eng Go.RowKit
theorem rws_snoc (B m k : Nat) : rws B m k ++ [.sl (B + k) 1 0 m] = rws B m (k + 1) := rfl
theorem rws_one (B m : Nat) : [AV.sl B 1 0 m] = rws B m 1 := rfl
section
variable {D : List Int} {N L : Nat}
theorem t1_walk (hN : N ≤ 40) {B : Nat} (hB : 1000 ≤ B) (hB2 : B ≤ 900000) {Q : Exit → St → Prop} {s : St} (hs : Bse D N L s) (h9 : s.tm 9 = .d (.c (.slice none 0 0)))
    (hQ : ∀ s', Bse D N L s' → s'.tm 9 = .sl 65 1 0 (N + 1) → s'.hp 65 = some (.tab (rws B (2 * N + 1) (N + 1))) → (∀ g, g < N + 1 → s'.hp (B + g) = some (.row 1 (li .i64 (List.replicate (2 * N + 1) far)))) → Q .normal s') : awp Try.prog cT1 Q s := by
  unfold Bse at hs
  unfold cT1
  simp -dsimp -implicitDefEqProofs (disch := first | omega | (simp only [List.length_append, List.length_cons, List.length_nil, List.length_take, List.length_drop]; omega)) only [hs, ↓aPre, aPost, oneW, allOne, retV, retVA, simprocAttr]
  refine loop_of (fun s => ∃ k : Nat, k ≤ N + 1 ∧ (∀ g, g < k → s.hp (B + g) = some (.row 1 (li .i64 (List.replicate (2 * N + 1) far)))) ∧ ((k = 0 ∧ s.tm 9 = .d (.c (.slice none 0 0))) ∨ (0 < k ∧ s.tm 9 = .sl 65 1 0 k ∧ s.hp 65 = some (.tab (rws B (2 * N + 1) k)))) ∧ s.tm 1 = .d (.c (.int .i64 L)) ∧ s.tm 6 = .d (.c (.int .i64 N)) ∧ s.tm 7 = .sl 30 1 0 (N + 1) ∧ s.hp 30 = some (.row 1 (li .i64 (psK D N))) ∧ s.tm 10 = .d (.c (.int .i64 k))) (fun s => N + 1 - (avN (s.tm 10)).toNat) ?_ ?_
  · refine ⟨0, Nat.zero_le _, fun g hg => by omega, .inl ⟨rfl, by simp -dsimp -implicitDefEqProofs (disch := first | omega | (simp only [List.length_append, List.length_cons, List.length_nil, List.length_take, List.length_drop]; omega)) only [h9, ↓aPre, aPost, oneW, allOne, retV, retVA, simprocAttr]⟩, ?_⟩
    simp -dsimp -implicitDefEqProofs (disch := first | omega | (simp only [List.length_append, List.length_cons, List.length_nil, List.length_take, List.length_drop]; omega)) only [hs, ↓aPre, aPost, oneW, allOne, retV, retVA, simprocAttr]
  clear hs h9
  rintro s ⟨k, hk, hrow, h9, hs⟩
  by_cases hlt : k ≤ N
  · have hav : (avN (s.tm 10)).toNat = k := by simp -dsimp -implicitDefEqProofs (disch := first | omega | (simp only [List.length_append, List.length_cons, List.length_nil, List.length_take, List.length_drop]; omega)) only [hs, ↓aPre, aPost, oneW, allOne, retV, retVA, simprocAttr]
    simp -dsimp -implicitDefEqProofs (disch := first | omega | (simp only [List.length_append, List.length_cons, List.length_nil, List.length_take, List.length_drop]; omega)) only [hs, ↓aPre, aPost, oneW, allOne, retV, retVA, simprocAttr]
    refine loop_nil 11 (B + k) 1 (fun s => ∃ j : Nat, j ≤ 2 * N + 1 ∧ (∀ g, g < k → s.hp (B + g) = some (.row 1 (li .i64 (List.replicate (2 * N + 1) far)))) ∧ ((k = 0 ∧ s.tm 9 = .d (.c (.slice none 0 0))) ∨ (0 < k ∧ s.tm 9 = .sl 65 1 0 k ∧ s.hp 65 = some (.tab (rws B (2 * N + 1) k)))) ∧ s.tm 1 = .d (.c (.int .i64 L)) ∧ s.tm 6 = .d (.c (.int .i64 N)) ∧ s.tm 7 = .sl 30 1 0 (N + 1) ∧ s.hp 30 = some (.row 1 (li .i64 (psK D N))) ∧ s.tm 10 = .d (.c (.int .i64 k)) ∧ s.tm 11 = .sl (B + k) 1 0 j ∧ s.hp (B + k) = some (.row 1 (li .i64 (List.replicate j far))) ∧ s.tm 12 = .d (.c (.int .i64 j))) (fun s => 2 * N + 1 - (avN (s.tm 12)).toNat) ?_ (by decide) ?_ ?_ (by omega)
    · simp -dsimp -implicitDefEqProofs (disch := first | omega | (simp only [List.length_append, List.length_cons, List.length_nil, List.length_take, List.length_drop]; omega)) only [↓aPre, aPost, oneW, allOne, retV, retVA, simprocAttr]
    · refine ⟨0, Nat.zero_le _, fun g hg => by simp -dsimp -implicitDefEqProofs (disch := first | omega | (simp only [List.length_append, List.length_cons, List.length_nil, List.length_take, List.length_drop]; omega)) only [hrow, if_neg, ↓aPre, aPost, oneW, allOne, retV, retVA, simprocAttr], ?_, ?_⟩
      · rcases h9 with ⟨rfl, h9⟩ | ⟨h0, h9, h65⟩
        · refine .inl ⟨rfl, ?_⟩
          simp -dsimp -implicitDefEqProofs (disch := first | omega | (simp only [List.length_append, List.length_cons, List.length_nil, List.length_take, List.length_drop]; omega)) only [h9, ↓aPre, aPost, oneW, allOne, retV, retVA, simprocAttr]
        · refine .inr ⟨h0, ?_⟩
          simp -dsimp -implicitDefEqProofs (disch := first | omega | (simp only [List.length_append, List.length_cons, List.length_nil, List.length_take, List.length_drop]; omega)) only [h9, h65, if_neg, rws_kill, ↓aPre, aPost, oneW, allOne, retV, retVA, simprocAttr]
      · simp -dsimp -implicitDefEqProofs (disch := first | omega | (simp only [List.length_append, List.length_cons, List.length_nil, List.length_take, List.length_drop]; omega)) only [hs, if_neg, ↓aPre, aPost, oneW, allOne, retV, retVA, simprocAttr]
    clear hrow h9 hs
    rintro s1 ⟨j, hj, hrow, h9, hs⟩
    have hjl := li_length (k := .i64) (l := List.replicate j far)
    rw [List.length_replicate] at hjl
    by_cases hlj : j ≤ 2 * N
    · have hra := rep_app j far
      unfold far at hra
      simp -dsimp -implicitDefEqProofs (disch := first | omega | (simp only [List.length_append, List.length_cons, List.length_nil, List.length_take, List.length_drop]; omega)) only [hs, hjl, ↓aPre, aPost, oneW, allOne, retV, retVA, simprocAttr]
      refine round_of ⟨j + 1, by omega, fun g hg => ?_, ?_, ?_⟩ ?_
      · simp -dsimp -implicitDefEqProofs (disch := first | omega | (simp only [List.length_append, List.length_cons, List.length_nil, List.length_take, List.length_drop]; omega)) only [hrow, if_neg, ↓aPre, aPost, oneW, allOne, retV, retVA, simprocAttr]
      · rcases h9 with ⟨rfl, h9⟩ | ⟨h0, h9, h65⟩
        · refine .inl ⟨rfl, ?_⟩
          simp -dsimp -implicitDefEqProofs (disch := first | omega | (simp only [List.length_append, List.length_cons, List.length_nil, List.length_take, List.length_drop]; omega)) only [h9, ↓aPre, aPost, oneW, allOne, retV, retVA, simprocAttr]
        · refine .inr ⟨h0, ?_⟩
          simp -dsimp -implicitDefEqProofs (disch := first | omega | (simp only [List.length_append, List.length_cons, List.length_nil, List.length_take, List.length_drop]; omega)) only [h9, h65, if_neg, rws_kill, ↓aPre, aPost, oneW, allOne, retV, retVA, simprocAttr]
      · simp -dsimp -implicitDefEqProofs (disch := first | omega | (simp only [List.length_append, List.length_cons, List.length_nil, List.length_take, List.length_drop]; omega)) only [hs, if_neg, hjl, far, hra, ↓aPre, aPost, oneW, allOne, retV, retVA, simprocAttr]
      · simp -dsimp -implicitDefEqProofs (disch := first | omega | (simp only [List.length_append, List.length_cons, List.length_nil, List.length_take, List.length_drop]; omega)) only [hs, ↓aPre, aPost, oneW, allOne, retV, retVA, simprocAttr]
        omega
    · obtain rfl : j = 2 * N + 1 := by omega
      rcases h9 with ⟨rfl, h9⟩ | ⟨h0, h9, h65⟩
      · rw [Nat.add_zero B] at hs
        simp -dsimp -implicitDefEqProofs (disch := first | omega | (simp only [List.length_append, List.length_cons, List.length_nil, List.length_take, List.length_drop]; omega)) only [hs, h9, if_neg, ↓aPre, aPost, oneW, allOne, retV, retVA, simprocAttr]
        refine round_of ⟨1, by omega, fun g hg => ?_, .inr ⟨by decide, ?_⟩, ?_⟩ ?_
        · obtain rfl : g = 0 := by omega
          simp -dsimp -implicitDefEqProofs (disch := first | omega | (simp only [List.length_append, List.length_cons, List.length_nil, List.length_take, List.length_drop]; omega)) only [hs, if_neg, ↓aPre, aPost, oneW, allOne, retV, retVA, simprocAttr]
        · simp -dsimp -implicitDefEqProofs (disch := first | omega | (simp only [List.length_append, List.length_cons, List.length_nil, List.length_take, List.length_drop]; omega)) only [hs, if_neg, rws_one, rws_kill, ↓aPre, aPost, oneW, allOne, retV, retVA, simprocAttr]
        · simp -dsimp -implicitDefEqProofs (disch := first | omega | (simp only [List.length_append, List.length_cons, List.length_nil, List.length_take, List.length_drop]; omega)) only [hs, if_neg, ↓aPre, aPost, oneW, allOne, retV, retVA, simprocAttr]
        · simp -dsimp -implicitDefEqProofs (disch := first | omega | (simp only [List.length_append, List.length_cons, List.length_nil, List.length_take, List.length_drop]; omega)) only [hs, ↓aPre, aPost, oneW, allOne, retV, retVA, simprocAttr]
          omega
      · have hrl := rws_len B (2 * N + 1) k
        simp -dsimp -implicitDefEqProofs (disch := first | omega | (simp only [List.length_append, List.length_cons, List.length_nil, List.length_take, List.length_drop]; omega)) only [hs, h9, h65, hrl, if_neg, rws_snoc, rws_kill, ↓aPre, aPost, oneW, allOne, retV, retVA, simprocAttr]
        refine round_of ⟨k + 1, by omega, fun g hg => ?_, .inr ⟨by omega, ?_⟩, ?_⟩ ?_
        · by_cases e : g = k
          · subst e
            simp -dsimp -implicitDefEqProofs (disch := first | omega | (simp only [List.length_append, List.length_cons, List.length_nil, List.length_take, List.length_drop]; omega)) only [hs, if_neg, ↓aPre, aPost, oneW, allOne, retV, retVA, simprocAttr]
          · simp -dsimp -implicitDefEqProofs (disch := first | omega | (simp only [List.length_append, List.length_cons, List.length_nil, List.length_take, List.length_drop]; omega)) only [hs, hrow, if_neg, ↓aPre, aPost, oneW, allOne, retV, retVA, simprocAttr]
        · simp -dsimp -implicitDefEqProofs (disch := first | omega | (simp only [List.length_append, List.length_cons, List.length_nil, List.length_take, List.length_drop]; omega)) only [hs, if_neg, rws_snoc, rws_kill, ↓aPre, aPost, oneW, allOne, retV, retVA, simprocAttr]
        · simp -dsimp -implicitDefEqProofs (disch := first | omega | (simp only [List.length_append, List.length_cons, List.length_nil, List.length_take, List.length_drop]; omega)) only [hs, if_neg, ↓aPre, aPost, oneW, allOne, retV, retVA, simprocAttr]
        · simp -dsimp -implicitDefEqProofs (disch := first | omega | (simp only [List.length_append, List.length_cons, List.length_nil, List.length_take, List.length_drop]; omega)) only [hs, ↓aPre, aPost, oneW, allOne, retV, retVA, simprocAttr]
          omega
  · obtain rfl : k = N + 1 := by omega
    rcases h9 with ⟨h, h9⟩ | ⟨h0, h9, h65⟩
    · omega
    · simp -dsimp -implicitDefEqProofs (disch := first | omega | (simp only [List.length_append, List.length_cons, List.length_nil, List.length_take, List.length_drop]; omega)) only [hs, ↓aPre, aPost, oneW, allOne, retV, retVA, simprocAttr]
      refine hQ _ ?_ ?_ ?_ ?_
      · unfold Bse
        simp -dsimp -implicitDefEqProofs (disch := first | omega | (simp only [List.length_append, List.length_cons, List.length_nil, List.length_take, List.length_drop]; omega)) only [hs, ↓aPre, aPost, oneW, allOne, retV, retVA, simprocAttr]
      · simp -dsimp -implicitDefEqProofs (disch := first | omega | (simp only [List.length_append, List.length_cons, List.length_nil, List.length_take, List.length_drop]; omega)) only [h9, ↓aPre, aPost, oneW, allOne, retV, retVA, simprocAttr]
      · simp -dsimp -implicitDefEqProofs (disch := first | omega | (simp only [List.length_append, List.length_cons, List.length_nil, List.length_take, List.length_drop]; omega)) only [h65, ↓aPre, aPost, oneW, allOne, retV, retVA, simprocAttr]
      · intro g hg
        simp -dsimp -implicitDefEqProofs (disch := first | omega | (simp only [List.length_append, List.length_cons, List.length_nil, List.length_take, List.length_drop]; omega)) only [hrow, ↓aPre, aPost, oneW, allOne, retV, retVA, simprocAttr]
end
end Go.Proofs.Ytlchakkdgkbabaa
namespace Go.Proofs.Ytlchakkdgkbabaa
open Go.Eng Go.RowKit
/-- what stays at a level: also the table, the best so far, the level -/
def Lq (D : List Int) (N L B t : Nat) (b : Int) (s : St) : Prop := s.tm 1 = .d (.c (.int .i64 L)) ∧ s.tm 6 = .d (.c (.int .i64 N)) ∧ s.tm 7 = .sl 30 1 0 (N + 1) ∧ s.hp 30 = some (.row 1 (li .i64 (psK D N))) ∧ s.tm 9 = .sl 50 1 0 (N + 1) ∧ s.hp 50 = some (.tab (rws B (2 * N + 1) (N + 1))) ∧ s.tm 13 = .d (.c (.int .i64 b)) ∧ s.tm 14 = .d (.c (.int .i64 ((t : Int) + 1)))
def Rw (N B : Nat) (R : Nat → List Int) (s : St) : Prop := ∀ g, g < N + 1 → s.hp (B + g) = some (.row 1 (li .i64 (R g)))
section
variable {D : List Int} {N L : Nat}
theorem t2_walk (hN : N ≤ 40) {B0 B t : Nat} {b : Int} {R : Nat → List Int} (h00 : 1000 ≤ B0) (hB : B0 + N + 1 ≤ B) (hB2 : B ≤ 900000) {Q : Exit → St → Prop} {s : St} (hs : Lq D N L B0 t b s) (h0 : Rw N B0 R s) (h15 : s.tm 15 = .d (.c (.slice none 0 0)))
    (hQ : ∀ s', Lq D N L B0 t b s' → Rw N B0 R s' → s'.tm 15 = .sl 92 1 0 (N + 1) → s'.hp 92 = some (.tab (rws B (2 * N + 1) (N + 1))) → (∀ g, g < N + 1 → s'.hp (B + g) = some (.row 1 (li .i64 (List.replicate (2 * N + 1) far)))) → Q .normal s') : awp Try.prog cT2 Q s := by
  unfold Lq at hs
  unfold Rw at h0
  unfold cT2
  simp -dsimp -implicitDefEqProofs (disch := first | omega | (simp only [List.length_append, List.length_cons, List.length_nil, List.length_take, List.length_drop]; omega)) only [hs, ↓aPre, aPost, oneW, allOne, retV, retVA, simprocAttr]
  refine loop_of (fun s => ∃ k : Nat, k ≤ N + 1 ∧ (∀ g, g < k → s.hp (B + g) = some (.row 1 (li .i64 (List.replicate (2 * N + 1) far)))) ∧ ((k = 0 ∧ s.tm 15 = .d (.c (.slice none 0 0))) ∨ (0 < k ∧ s.tm 15 = .sl 92 1 0 k ∧ s.hp 92 = some (.tab (rws B (2 * N + 1) k)))) ∧ (∀ g, g < N + 1 → s.hp (B0 + g) = some (.row 1 (li .i64 (R g)))) ∧ s.tm 1 = .d (.c (.int .i64 L)) ∧ s.tm 6 = .d (.c (.int .i64 N)) ∧ s.tm 7 = .sl 30 1 0 (N + 1) ∧ s.hp 30 = some (.row 1 (li .i64 (psK D N))) ∧ s.tm 9 = .sl 50 1 0 (N + 1) ∧ s.hp 50 = some (.tab (rws B0 (2 * N + 1) (N + 1))) ∧ s.tm 13 = .d (.c (.int .i64 b)) ∧ s.tm 14 = .d (.c (.int .i64 ((t : Int) + 1))) ∧ s.tm 16 = .d (.c (.int .i64 k))) (fun s => N + 1 - (avN (s.tm 16)).toNat) ?_ ?_
  · refine ⟨0, Nat.zero_le _, fun g hg => by omega, .inl ⟨rfl, by simp -dsimp -implicitDefEqProofs (disch := first | omega | (simp only [List.length_append, List.length_cons, List.length_nil, List.length_take, List.length_drop]; omega)) only [h15, ↓aPre, aPost, oneW, allOne, retV, retVA, simprocAttr]⟩, fun g hg => by simp -dsimp -implicitDefEqProofs (disch := first | omega | (simp only [List.length_append, List.length_cons, List.length_nil, List.length_take, List.length_drop]; omega)) only [h0, ↓aPre, aPost, oneW, allOne, retV, retVA, simprocAttr], ?_⟩
    simp -dsimp -implicitDefEqProofs (disch := first | omega | (simp only [List.length_append, List.length_cons, List.length_nil, List.length_take, List.length_drop]; omega)) only [hs, ↓aPre, aPost, oneW, allOne, retV, retVA, simprocAttr]
  clear hs h15 h0
  rintro s ⟨k, hk, hrow, h15, h0, hs⟩
  by_cases hlt : k ≤ N
  · have hav : (avN (s.tm 16)).toNat = k := by simp -dsimp -implicitDefEqProofs (disch := first | omega | (simp only [List.length_append, List.length_cons, List.length_nil, List.length_take, List.length_drop]; omega)) only [hs, ↓aPre, aPost, oneW, allOne, retV, retVA, simprocAttr]
    simp -dsimp -implicitDefEqProofs (disch := first | omega | (simp only [List.length_append, List.length_cons, List.length_nil, List.length_take, List.length_drop]; omega)) only [hs, ↓aPre, aPost, oneW, allOne, retV, retVA, simprocAttr]
    refine loop_nil 17 (B + k) 1 (fun s => ∃ j : Nat, j ≤ 2 * N + 1 ∧ (∀ g, g < k → s.hp (B + g) = some (.row 1 (li .i64 (List.replicate (2 * N + 1) far)))) ∧ ((k = 0 ∧ s.tm 15 = .d (.c (.slice none 0 0))) ∨ (0 < k ∧ s.tm 15 = .sl 92 1 0 k ∧ s.hp 92 = some (.tab (rws B (2 * N + 1) k)))) ∧ (∀ g, g < N + 1 → s.hp (B0 + g) = some (.row 1 (li .i64 (R g)))) ∧ s.tm 1 = .d (.c (.int .i64 L)) ∧ s.tm 6 = .d (.c (.int .i64 N)) ∧ s.tm 7 = .sl 30 1 0 (N + 1) ∧ s.hp 30 = some (.row 1 (li .i64 (psK D N))) ∧ s.tm 9 = .sl 50 1 0 (N + 1) ∧ s.hp 50 = some (.tab (rws B0 (2 * N + 1) (N + 1))) ∧ s.tm 13 = .d (.c (.int .i64 b)) ∧ s.tm 14 = .d (.c (.int .i64 ((t : Int) + 1))) ∧ s.tm 16 = .d (.c (.int .i64 k)) ∧ s.tm 17 = .sl (B + k) 1 0 j ∧ s.hp (B + k) = some (.row 1 (li .i64 (List.replicate j far))) ∧ s.tm 18 = .d (.c (.int .i64 j))) (fun s => 2 * N + 1 - (avN (s.tm 18)).toNat) ?_ (by decide) ?_ ?_ (by omega)
    · simp -dsimp -implicitDefEqProofs (disch := first | omega | (simp only [List.length_append, List.length_cons, List.length_nil, List.length_take, List.length_drop]; omega)) only [↓aPre, aPost, oneW, allOne, retV, retVA, simprocAttr]
    · refine ⟨0, Nat.zero_le _, fun g hg => by simp -dsimp -implicitDefEqProofs (disch := first | omega | (simp only [List.length_append, List.length_cons, List.length_nil, List.length_take, List.length_drop]; omega)) only [hrow, if_neg, ↓aPre, aPost, oneW, allOne, retV, retVA, simprocAttr], ?_, fun g hg => by simp -dsimp -implicitDefEqProofs (disch := first | omega | (simp only [List.length_append, List.length_cons, List.length_nil, List.length_take, List.length_drop]; omega)) only [h0, if_neg, ↓aPre, aPost, oneW, allOne, retV, retVA, simprocAttr], ?_⟩
      · rcases h15 with ⟨rfl, h15⟩ | ⟨hk0, h15, h92⟩
        · refine .inl ⟨rfl, ?_⟩
          simp -dsimp -implicitDefEqProofs (disch := first | omega | (simp only [List.length_append, List.length_cons, List.length_nil, List.length_take, List.length_drop]; omega)) only [h15, ↓aPre, aPost, oneW, allOne, retV, retVA, simprocAttr]
        · refine .inr ⟨hk0, ?_⟩
          simp -dsimp -implicitDefEqProofs (disch := first | omega | (simp only [List.length_append, List.length_cons, List.length_nil, List.length_take, List.length_drop]; omega)) only [h15, h92, if_neg, rws_kill, ↓aPre, aPost, oneW, allOne, retV, retVA, simprocAttr]
      · simp -dsimp -implicitDefEqProofs (disch := first | omega | (simp only [List.length_append, List.length_cons, List.length_nil, List.length_take, List.length_drop]; omega)) only [hs, if_neg, rws_kill, ↓aPre, aPost, oneW, allOne, retV, retVA, simprocAttr]
    clear hrow h15 h0 hs
    rintro s1 ⟨j, hj, hrow, h15, h0, hs⟩
    have hjl := li_length (k := .i64) (l := List.replicate j far)
    rw [List.length_replicate] at hjl
    by_cases hlj : j ≤ 2 * N
    · have hra := rep_app j far
      unfold far at hra
      simp -dsimp -implicitDefEqProofs (disch := first | omega | (simp only [List.length_append, List.length_cons, List.length_nil, List.length_take, List.length_drop]; omega)) only [hs, hjl, ↓aPre, aPost, oneW, allOne, retV, retVA, simprocAttr]
      refine round_of ⟨j + 1, by omega, fun g hg => ?_, ?_, fun g hg => by simp -dsimp -implicitDefEqProofs (disch := first | omega | (simp only [List.length_append, List.length_cons, List.length_nil, List.length_take, List.length_drop]; omega)) only [h0, if_neg, ↓aPre, aPost, oneW, allOne, retV, retVA, simprocAttr], ?_⟩ ?_
      · simp -dsimp -implicitDefEqProofs (disch := first | omega | (simp only [List.length_append, List.length_cons, List.length_nil, List.length_take, List.length_drop]; omega)) only [hrow, if_neg, ↓aPre, aPost, oneW, allOne, retV, retVA, simprocAttr]
      · rcases h15 with ⟨rfl, h15⟩ | ⟨hk0, h15, h92⟩
        · refine .inl ⟨rfl, ?_⟩
          simp -dsimp -implicitDefEqProofs (disch := first | omega | (simp only [List.length_append, List.length_cons, List.length_nil, List.length_take, List.length_drop]; omega)) only [h15, ↓aPre, aPost, oneW, allOne, retV, retVA, simprocAttr]
        · refine .inr ⟨hk0, ?_⟩
          simp -dsimp -implicitDefEqProofs (disch := first | omega | (simp only [List.length_append, List.length_cons, List.length_nil, List.length_take, List.length_drop]; omega)) only [h15, h92, if_neg, rws_kill, ↓aPre, aPost, oneW, allOne, retV, retVA, simprocAttr]
      · simp -dsimp -implicitDefEqProofs (disch := first | omega | (simp only [List.length_append, List.length_cons, List.length_nil, List.length_take, List.length_drop]; omega)) only [hs, if_neg, rws_kill, hjl, far, hra, ↓aPre, aPost, oneW, allOne, retV, retVA, simprocAttr]
      · simp -dsimp -implicitDefEqProofs (disch := first | omega | (simp only [List.length_append, List.length_cons, List.length_nil, List.length_take, List.length_drop]; omega)) only [hs, ↓aPre, aPost, oneW, allOne, retV, retVA, simprocAttr]
        omega
    · obtain rfl : j = 2 * N + 1 := by omega
      rcases h15 with ⟨rfl, h15⟩ | ⟨hk0, h15, h92⟩
      · rw [Nat.add_zero B] at hs
        simp -dsimp -implicitDefEqProofs (disch := first | omega | (simp only [List.length_append, List.length_cons, List.length_nil, List.length_take, List.length_drop]; omega)) only [hs, h15, if_neg, rws_kill, ↓aPre, aPost, oneW, allOne, retV, retVA, simprocAttr]
        refine round_of ⟨1, by omega, fun g hg => ?_, .inr ⟨by decide, ?_⟩, fun g hg => by simp -dsimp -implicitDefEqProofs (disch := first | omega | (simp only [List.length_append, List.length_cons, List.length_nil, List.length_take, List.length_drop]; omega)) only [h0, if_neg, ↓aPre, aPost, oneW, allOne, retV, retVA, simprocAttr], ?_⟩ ?_
        · obtain rfl : g = 0 := by omega
          simp -dsimp -implicitDefEqProofs (disch := first | omega | (simp only [List.length_append, List.length_cons, List.length_nil, List.length_take, List.length_drop]; omega)) only [hs, if_neg, rws_kill, ↓aPre, aPost, oneW, allOne, retV, retVA, simprocAttr]
        · simp -dsimp -implicitDefEqProofs (disch := first | omega | (simp only [List.length_append, List.length_cons, List.length_nil, List.length_take, List.length_drop]; omega)) only [hs, if_neg, rws_kill, rws_one, rws_kill, ↓aPre, aPost, oneW, allOne, retV, retVA, simprocAttr]
        · simp -dsimp -implicitDefEqProofs (disch := first | omega | (simp only [List.length_append, List.length_cons, List.length_nil, List.length_take, List.length_drop]; omega)) only [hs, if_neg, rws_kill, ↓aPre, aPost, oneW, allOne, retV, retVA, simprocAttr]
        · simp -dsimp -implicitDefEqProofs (disch := first | omega | (simp only [List.length_append, List.length_cons, List.length_nil, List.length_take, List.length_drop]; omega)) only [hs, ↓aPre, aPost, oneW, allOne, retV, retVA, simprocAttr]
          omega
      · have hrl := rws_len B (2 * N + 1) k
        simp -dsimp -implicitDefEqProofs (disch := first | omega | (simp only [List.length_append, List.length_cons, List.length_nil, List.length_take, List.length_drop]; omega)) only [hs, h15, h92, hrl, if_neg, rws_snoc, rws_kill, ↓aPre, aPost, oneW, allOne, retV, retVA, simprocAttr]
        refine round_of ⟨k + 1, by omega, fun g hg => ?_, .inr ⟨by omega, ?_⟩, fun g hg => by simp -dsimp -implicitDefEqProofs (disch := first | omega | (simp only [List.length_append, List.length_cons, List.length_nil, List.length_take, List.length_drop]; omega)) only [h0, if_neg, ↓aPre, aPost, oneW, allOne, retV, retVA, simprocAttr], ?_⟩ ?_
        · by_cases e : g = k
          · subst e
            simp -dsimp -implicitDefEqProofs (disch := first | omega | (simp only [List.length_append, List.length_cons, List.length_nil, List.length_take, List.length_drop]; omega)) only [hs, if_neg, rws_kill, ↓aPre, aPost, oneW, allOne, retV, retVA, simprocAttr]
          · simp -dsimp -implicitDefEqProofs (disch := first | omega | (simp only [List.length_append, List.length_cons, List.length_nil, List.length_take, List.length_drop]; omega)) only [hs, hrow, if_neg, ↓aPre, aPost, oneW, allOne, retV, retVA, simprocAttr]
        · simp -dsimp -implicitDefEqProofs (disch := first | omega | (simp only [List.length_append, List.length_cons, List.length_nil, List.length_take, List.length_drop]; omega)) only [hs, if_neg, rws_snoc, rws_kill, ↓aPre, aPost, oneW, allOne, retV, retVA, simprocAttr]
        · simp -dsimp -implicitDefEqProofs (disch := first | omega | (simp only [List.length_append, List.length_cons, List.length_nil, List.length_take, List.length_drop]; omega)) only [hs, if_neg, rws_kill, ↓aPre, aPost, oneW, allOne, retV, retVA, simprocAttr]
        · simp -dsimp -implicitDefEqProofs (disch := first | omega | (simp only [List.length_append, List.length_cons, List.length_nil, List.length_take, List.length_drop]; omega)) only [hs, ↓aPre, aPost, oneW, allOne, retV, retVA, simprocAttr]
          omega
  · obtain rfl : k = N + 1 := by omega
    rcases h15 with ⟨h, h15⟩ | ⟨hk0, h15, h92⟩
    · omega
    · simp -dsimp -implicitDefEqProofs (disch := first | omega | (simp only [List.length_append, List.length_cons, List.length_nil, List.length_take, List.length_drop]; omega)) only [hs, ↓aPre, aPost, oneW, allOne, retV, retVA, simprocAttr]
      refine hQ _ ?_ ?_ ?_ ?_ ?_
      · unfold Lq
        simp -dsimp -implicitDefEqProofs (disch := first | omega | (simp only [List.length_append, List.length_cons, List.length_nil, List.length_take, List.length_drop]; omega)) only [hs, ↓aPre, aPost, oneW, allOne, retV, retVA, simprocAttr]
      · unfold Rw
        intro g hg
        simp -dsimp -implicitDefEqProofs (disch := first | omega | (simp only [List.length_append, List.length_cons, List.length_nil, List.length_take, List.length_drop]; omega)) only [h0, ↓aPre, aPost, oneW, allOne, retV, retVA, simprocAttr]
      · simp -dsimp -implicitDefEqProofs (disch := first | omega | (simp only [List.length_append, List.length_cons, List.length_nil, List.length_take, List.length_drop]; omega)) only [h15, ↓aPre, aPost, oneW, allOne, retV, retVA, simprocAttr]
      · simp -dsimp -implicitDefEqProofs (disch := first | omega | (simp only [List.length_append, List.length_cons, List.length_nil, List.length_take, List.length_drop]; omega)) only [h92, ↓aPre, aPost, oneW, allOne, retV, retVA, simprocAttr]
      · intro g hg
        simp -dsimp -implicitDefEqProofs (disch := first | omega | (simp only [List.length_append, List.length_cons, List.length_nil, List.length_take, List.length_drop]; omega)) only [hrow, ↓aPre, aPost, oneW, allOne, retV, retVA, simprocAttr]
end
end Go.Proofs.Ytlchakkdgkbabaa
namespace Go.Proofs.Ytlchakkdgkbabaa
open Go.Eng Go.RowKit
/-- what stays while a level's next table is filled -/
def Lx (D : List Int) (N L B Bn t : Nat) (b : Int) (s : St) : Prop := s.tm 1 = .d (.c (.int .i64 L)) ∧ s.tm 6 = .d (.c (.int .i64 N)) ∧ s.tm 7 = .sl 30 1 0 (N + 1) ∧ s.hp 30 = some (.row 1 (li .i64 (psK D N))) ∧ s.tm 9 = .sl 50 1 0 (N + 1) ∧ s.hp 50 = some (.tab (rws B (2 * N + 1) (N + 1))) ∧ s.tm 13 = .d (.c (.int .i64 b)) ∧ s.tm 14 = .d (.c (.int .i64 ((t : Int) + 1))) ∧ s.tm 15 = .sl 92 1 0 (N + 1) ∧ s.hp 92 = some (.tab (rws Bn (2 * N + 1) (N + 1)))
section
variable {D : List Int} {N L : Nat}
theorem hr_walk (hN : N ≤ 40) {B Bn t g o h : Nat} {b v : Int} {R Rn : Nat → List Int} (h00 : 1000 ≤ B) (hB : B + N + 1 ≤ Bn) (hB2 : Bn ≤ 900000) {Q : Exit → St → Prop} {s : St} (hg : g ≤ N) (ho : o ≤ N - g) (hh : h ≤ 2 * o) (hgh : g + h ≤ N) (hm : ∀ k, (Rn k).length = 2 * N + 1)
    (hs : Lx D N L B Bn t b s) (h0 : Rw N B R s) (hn : Rw N Bn Rn s) (ht : s.tm 19 = .d (.c (.int .i64 g)) ∧ s.tm 20 = .d (.c (.int .i64 o)) ∧ s.tm 21 = .d (.c (.int .i64 v)) ∧ s.tm 22 = .d (.c (.int .i64 h)))
    (hQ : ∀ s' Rn', (∀ k, (Rn' k).length = 2 * N + 1) → (∀ k j, (Rn' k).getD j 0 = if k = g + h ∧ j = min (2 * o - h) (N - g - h) then min ((Rn k).getD j 0) v else (Rn k).getD j 0) → Lx D N L B Bn t b s' → Rw N B R s' → Rw N Bn Rn' s' → (s'.tm 19 = .d (.c (.int .i64 g)) ∧ s'.tm 20 = .d (.c (.int .i64 o)) ∧ s'.tm 21 = .d (.c (.int .i64 v)) ∧ s'.tm 22 = .d (.c (.int .i64 h))) → Q .normal s') : awp Try.prog cHr Q s := by
  unfold Lx at hs
  unfold Rw at h0 hn
  obtain ⟨d, hd⟩ : ∃ d, d = min (2 * o - h) (N - g - h) := ⟨_, rfl⟩
  rw [← hd] at hQ
  obtain ⟨z, hz⟩ : ∃ z, z = (Rn (g + h)).getD d 0 := ⟨_, rfl⟩
  have hml : (li .i64 (Rn (g + h))).length = 2 * N + 1 := by rw [li_length, hm]
  have hm1 := hm (g + h)
  have hrl := rws_len Bn (2 * N + 1) (N + 1)
  have hrg := rws_get Bn (2 * N + 1) (k := N + 1) (i := g + h) (by omega)
  have e1 : ((g : Int) + (h : Int)).toNat = g + h := by omega
  have hrow := hn (g + h) (by omega)
  have hdl : d < 2 * N + 1 := by omega
  have fin : ∀ w : Int, (∀ k j, (setR Rn (g + h) d w k).getD j 0 = if k = g + h ∧ j = d then w else (Rn k).getD j 0) := fun w k j => setR_get (by rw [hm]; exact hdl)
  have rows : ∀ (s' : St) (w : Int), (∀ gg, gg < N + 1 → ¬ gg = g + h → s'.hp (Bn + gg) = some (.row 1 (li .i64 (Rn gg)))) → s'.hp (Bn + (g + h)) = some (.row 1 (li .i64 ((Rn (g + h)).set d w))) → Rw N Bn (setR Rn (g + h) d w) s' := fun s' w h1 h2 gg hgg => by
    unfold setR
    by_cases e : gg = g + h
    · rw [if_pos e, e]; exact h2
    · rw [if_neg e]; exact h1 gg hgg e
  unfold cHr
  by_cases c : 2 * (o : Int) - h > N - g - h
  · have e2 : ((N : Int) - g - h).toNat = d := by omega
    by_cases c2 : v < z
    · simp -dsimp -implicitDefEqProofs (disch := first | omega | (simp only [List.length_append, List.length_cons, List.length_nil, List.length_take, List.length_drop]; omega)) only [hs, ht, c, e1, e2, hrl, hrg, hrow, hml, ← hz, c2, ↓aPre, aPost, oneW, allOne, retV, retVA, simprocAttr]
      refine hQ _ (setR Rn (g + h) d v) (fun k => setR_len (hm k)) (fun k j => ?_) ?_ ?_ (rows _ _ ?_ ?_) ?_
      · rw [fin]
        by_cases e : k = g + h ∧ j = d
        · rw [if_pos e, if_pos e, e.1, e.2, ← hz]
          omega
        · rw [if_neg e, if_neg e]
      · unfold Lx
        simp -dsimp -implicitDefEqProofs (disch := first | omega | (simp only [List.length_append, List.length_cons, List.length_nil, List.length_take, List.length_drop]; omega)) only [hs, if_neg, ↓aPre, aPost, oneW, allOne, retV, retVA, simprocAttr]
      · intro gg hgg
        simp -dsimp -implicitDefEqProofs (disch := first | omega | (simp only [List.length_append, List.length_cons, List.length_nil, List.length_take, List.length_drop]; omega)) only [h0, if_neg, ↓aPre, aPost, oneW, allOne, retV, retVA, simprocAttr]
      · intro gg hgg hne
        simp -dsimp -implicitDefEqProofs (disch := first | omega | (simp only [List.length_append, List.length_cons, List.length_nil, List.length_take, List.length_drop]; omega)) only [hn, if_neg, ↓aPre, aPost, oneW, allOne, retV, retVA, simprocAttr]
      · simp -dsimp -implicitDefEqProofs (disch := first | omega | (simp only [List.length_append, List.length_cons, List.length_nil, List.length_take, List.length_drop]; omega)) only [hrow, ↓aPre, aPost, oneW, allOne, retV, retVA, simprocAttr]
      · simp -dsimp -implicitDefEqProofs (disch := first | omega | (simp only [List.length_append, List.length_cons, List.length_nil, List.length_take, List.length_drop]; omega)) only [ht, ↓aPre, aPost, oneW, allOne, retV, retVA, simprocAttr]
    · simp -dsimp -implicitDefEqProofs (disch := first | omega | (simp only [List.length_append, List.length_cons, List.length_nil, List.length_take, List.length_drop]; omega)) only [hs, ht, c, e1, e2, hrl, hrg, hrow, hml, ← hz, c2, ↓aPre, aPost, oneW, allOne, retV, retVA, simprocAttr]
      refine hQ _ Rn hm (fun k j => ?_) ?_ ?_ ?_ ?_
      · by_cases e : k = g + h ∧ j = d
        · rw [if_pos e, e.1, e.2, ← hz]
          omega
        · rw [if_neg e]
      · unfold Lx
        simp -dsimp -implicitDefEqProofs (disch := first | omega | (simp only [List.length_append, List.length_cons, List.length_nil, List.length_take, List.length_drop]; omega)) only [hs, if_neg, ↓aPre, aPost, oneW, allOne, retV, retVA, simprocAttr]
      · intro gg hgg
        simp -dsimp -implicitDefEqProofs (disch := first | omega | (simp only [List.length_append, List.length_cons, List.length_nil, List.length_take, List.length_drop]; omega)) only [h0, if_neg, ↓aPre, aPost, oneW, allOne, retV, retVA, simprocAttr]
      · intro gg hgg
        simp -dsimp -implicitDefEqProofs (disch := first | omega | (simp only [List.length_append, List.length_cons, List.length_nil, List.length_take, List.length_drop]; omega)) only [hn, if_neg, ↓aPre, aPost, oneW, allOne, retV, retVA, simprocAttr]
      · simp -dsimp -implicitDefEqProofs (disch := first | omega | (simp only [List.length_append, List.length_cons, List.length_nil, List.length_take, List.length_drop]; omega)) only [ht, ↓aPre, aPost, oneW, allOne, retV, retVA, simprocAttr]
  · have e2 : (2 * (o : Int) - h).toNat = d := by omega
    by_cases c2 : v < z
    · simp -dsimp -implicitDefEqProofs (disch := first | omega | (simp only [List.length_append, List.length_cons, List.length_nil, List.length_take, List.length_drop]; omega)) only [hs, ht, c, e1, e2, hrl, hrg, hrow, hml, ← hz, c2, ↓aPre, aPost, oneW, allOne, retV, retVA, simprocAttr]
      refine hQ _ (setR Rn (g + h) d v) (fun k => setR_len (hm k)) (fun k j => ?_) ?_ ?_ (rows _ _ ?_ ?_) ?_
      · rw [fin]
        by_cases e : k = g + h ∧ j = d
        · rw [if_pos e, if_pos e, e.1, e.2, ← hz]
          omega
        · rw [if_neg e, if_neg e]
      · unfold Lx
        simp -dsimp -implicitDefEqProofs (disch := first | omega | (simp only [List.length_append, List.length_cons, List.length_nil, List.length_take, List.length_drop]; omega)) only [hs, if_neg, ↓aPre, aPost, oneW, allOne, retV, retVA, simprocAttr]
      · intro gg hgg
        simp -dsimp -implicitDefEqProofs (disch := first | omega | (simp only [List.length_append, List.length_cons, List.length_nil, List.length_take, List.length_drop]; omega)) only [h0, if_neg, ↓aPre, aPost, oneW, allOne, retV, retVA, simprocAttr]
      · intro gg hgg hne
        simp -dsimp -implicitDefEqProofs (disch := first | omega | (simp only [List.length_append, List.length_cons, List.length_nil, List.length_take, List.length_drop]; omega)) only [hn, if_neg, ↓aPre, aPost, oneW, allOne, retV, retVA, simprocAttr]
      · simp -dsimp -implicitDefEqProofs (disch := first | omega | (simp only [List.length_append, List.length_cons, List.length_nil, List.length_take, List.length_drop]; omega)) only [hrow, ↓aPre, aPost, oneW, allOne, retV, retVA, simprocAttr]
      · simp -dsimp -implicitDefEqProofs (disch := first | omega | (simp only [List.length_append, List.length_cons, List.length_nil, List.length_take, List.length_drop]; omega)) only [ht, ↓aPre, aPost, oneW, allOne, retV, retVA, simprocAttr]
    · simp -dsimp -implicitDefEqProofs (disch := first | omega | (simp only [List.length_append, List.length_cons, List.length_nil, List.length_take, List.length_drop]; omega)) only [hs, ht, c, e1, e2, hrl, hrg, hrow, hml, ← hz, c2, ↓aPre, aPost, oneW, allOne, retV, retVA, simprocAttr]
      refine hQ _ Rn hm (fun k j => ?_) ?_ ?_ ?_ ?_
      · by_cases e : k = g + h ∧ j = d
        · rw [if_pos e, e.1, e.2, ← hz]
          omega
        · rw [if_neg e]
      · unfold Lx
        simp -dsimp -implicitDefEqProofs (disch := first | omega | (simp only [List.length_append, List.length_cons, List.length_nil, List.length_take, List.length_drop]; omega)) only [hs, if_neg, ↓aPre, aPost, oneW, allOne, retV, retVA, simprocAttr]
      · intro gg hgg
        simp -dsimp -implicitDefEqProofs (disch := first | omega | (simp only [List.length_append, List.length_cons, List.length_nil, List.length_take, List.length_drop]; omega)) only [h0, if_neg, ↓aPre, aPost, oneW, allOne, retV, retVA, simprocAttr]
      · intro gg hgg
        simp -dsimp -implicitDefEqProofs (disch := first | omega | (simp only [List.length_append, List.length_cons, List.length_nil, List.length_take, List.length_drop]; omega)) only [hn, if_neg, ↓aPre, aPost, oneW, allOne, retV, retVA, simprocAttr]
      · simp -dsimp -implicitDefEqProofs (disch := first | omega | (simp only [List.length_append, List.length_cons, List.length_nil, List.length_take, List.length_drop]; omega)) only [ht, ↓aPre, aPost, oneW, allOne, retV, retVA, simprocAttr]
end
end Go.Proofs.Ytlchakkdgkbabaa
namespace Go.Proofs.Ytlchakkdgkbabaa
open Go.Eng Go.RowKit
def cl (R : Nat → List Int) (g o : Nat) : Int := (R g).getD o 0
section
variable {D : List Int} {N L : Nat}
theorem go_walk (hN : N ≤ 40) {B Bn t g o : Nat} {b : Int} {R Rn : Nat → List Int} {W : Nat → Int} (h00 : 1000 ≤ B) (hB : B + N + 1 ≤ Bn) (hB2 : Bn ≤ 900000) (ht40 : t ≤ 40) (hW : Wok W 42949672960) (hD : ∀ g, g ≤ N → pfx D N - pfx D g = W (N - g)) (hpb : ∀ k : Nat, 0 ≤ pfx D k ∧ pfx D k ≤ k * 1073741824)
    {Q : Exit → St → Prop} {s : St} (hg : g ≤ N) (ho : o ≤ N) (hmR : ∀ k, (R k).length = 2 * N + 1) (hm : ∀ k, (Rn k).length = 2 * N + 1) (hC : Tb W N t (cl R)) (P : Pa W N t (cl R) (cl Rn) g o 0)
    (hs : Lx D N L B Bn t b s) (h0 : Rw N B R s) (hn : Rw N Bn Rn s) (ht : s.tm 19 = .d (.c (.int .i64 g)) ∧ s.tm 20 = .d (.c (.int .i64 o)))
    (hQ : ∀ s' Rn', (∀ k, (Rn' k).length = 2 * N + 1) → Pa W N t (cl R) (cl Rn') g (o + 1) 0 → Lx D N L B Bn t b s' → Rw N B R s' → Rw N Bn Rn' s' → (s'.tm 19 = .d (.c (.int .i64 g)) ∧ s'.tm 20 = .d (.c (.int .i64 o))) → Q .normal s') : awp Try.prog cGo Q s := by
  have hs2 := hs
  have h02 := h0
  have hn2 := hn
  unfold Lx at hs
  unfold Rw at h0 hn
  obtain ⟨z, hz⟩ : ∃ z, z = (R g).getD o 0 := ⟨_, rfl⟩
  have hzc : cl R g o = z := by rw [hz]; rfl
  have hm1 := hmR g
  have hml : (li .i64 (R g)).length = 2 * N + 1 := by rw [li_length, hmR]
  have hrl := rws_len B (2 * N + 1) (N + 1)
  have hrg := rws_get B (2 * N + 1) (k := N + 1) (i := g) (by omega)
  have hrow := h0 g (by omega)
  have hpl := psK_len D N
  have hlp := li_length (k := .i64) (l := psK D N)
  rw [hpl] at hlp
  have hp1 := psK_get D (Nat.le_refl N)
  have hp2 := psK_get D hg
  have hwg := hD g hg
  have hb1 := hpb N
  have hb2 := hpb g
  have hb0 := tb_b hW hC hg (show o ≤ 2 * N by omega)
  rw [hzc] at hb0
  have tB : (t : Int) * ((42949672960 : Nat) : Int) ≤ 40 * 42949672960 := Int.mul_le_mul_of_nonneg_right (by omega) (by decide)
  have stay1 : ∀ s' : St, (s'.tm 1 = s.tm 1 ∧ s'.tm 6 = s.tm 6 ∧ s'.tm 7 = s.tm 7 ∧ s'.tm 9 = s.tm 9 ∧ s'.tm 13 = s.tm 13 ∧ s'.tm 14 = s.tm 14 ∧ s'.tm 15 = s.tm 15) → (∀ k, s'.hp k = s.hp k) → Lx D N L B Bn t b s' := fun s' ⟨a1, a2, a3, a4, a5, a6, a7⟩ a8 => by
    unfold Lx
    rw [a1, a2, a3, a4, a5, a6, a7, a8, a8, a8]
    exact hs
  have stay2 : ∀ s' : St, (∀ k, s'.hp k = s.hp k) → Rw N B R s' := fun s' a8 g hg => by rw [a8]; exact h0 g hg
  have stay3 : ∀ s' : St, (∀ k, s'.hp k = s.hp k) → Rw N Bn Rn s' := fun s' a8 g hg => by rw [a8]; exact hn g hg
  have hv : z + pfx D N - pfx D g = z + W (N - g) := by omega
  unfold cGo
  by_cases c1 : z = 1152921504606846976
  · simp -dsimp -implicitDefEqProofs (disch := first | omega | (simp only [List.length_append, List.length_cons, List.length_nil, List.length_take, List.length_drop]; omega)) only [hs, ht, hrl, hrg, hrow, hml, hm1, ← hz, c1, ibeq_t, ↓aPre, aPost, oneW, allOne, retV, retVA, simprocAttr]
    refine hQ _ Rn hm (pa_o P (.inl (by rw [hzc, c1]; rfl))) (stay1 _ ?_ ?_) (stay2 _ ?_) (stay3 _ ?_) ?_
    · simp -dsimp -implicitDefEqProofs (disch := first | omega | (simp only [List.length_append, List.length_cons, List.length_nil, List.length_take, List.length_drop]; omega)) only [↓aPre, aPost, oneW, allOne, retV, retVA, simprocAttr]
    · intro k
      simp -dsimp -implicitDefEqProofs (disch := first | omega | (simp only [List.length_append, List.length_cons, List.length_nil, List.length_take, List.length_drop]; omega)) only [↓aPre, aPost, oneW, allOne, retV, retVA, simprocAttr]
    · intro k
      simp -dsimp -implicitDefEqProofs (disch := first | omega | (simp only [List.length_append, List.length_cons, List.length_nil, List.length_take, List.length_drop]; omega)) only [↓aPre, aPost, oneW, allOne, retV, retVA, simprocAttr]
    · intro k
      simp -dsimp -implicitDefEqProofs (disch := first | omega | (simp only [List.length_append, List.length_cons, List.length_nil, List.length_take, List.length_drop]; omega)) only [↓aPre, aPost, oneW, allOne, retV, retVA, simprocAttr]
    · simp -dsimp -implicitDefEqProofs (disch := first | omega | (simp only [List.length_append, List.length_cons, List.length_nil, List.length_take, List.length_drop]; omega)) only [ht, ↓aPre, aPost, oneW, allOne, retV, retVA, simprocAttr]
  by_cases c2 : (o : Int) > N - g
  · simp -dsimp -implicitDefEqProofs (disch := first | omega | (simp only [List.length_append, List.length_cons, List.length_nil, List.length_take, List.length_drop]; omega)) only [hs, ht, hrl, hrg, hrow, hml, hm1, ← hz, c1, c2, ibeq_f, ↓aPre, aPost, oneW, allOne, retV, retVA, simprocAttr]
    refine hQ _ Rn hm (pa_o P (.inr (.inl (by omega)))) (stay1 _ ?_ ?_) (stay2 _ ?_) (stay3 _ ?_) ?_
    · simp -dsimp -implicitDefEqProofs (disch := first | omega | (simp only [List.length_append, List.length_cons, List.length_nil, List.length_take, List.length_drop]; omega)) only [↓aPre, aPost, oneW, allOne, retV, retVA, simprocAttr]
    · intro k
      simp -dsimp -implicitDefEqProofs (disch := first | omega | (simp only [List.length_append, List.length_cons, List.length_nil, List.length_take, List.length_drop]; omega)) only [↓aPre, aPost, oneW, allOne, retV, retVA, simprocAttr]
    · intro k
      simp -dsimp -implicitDefEqProofs (disch := first | omega | (simp only [List.length_append, List.length_cons, List.length_nil, List.length_take, List.length_drop]; omega)) only [↓aPre, aPost, oneW, allOne, retV, retVA, simprocAttr]
    · intro k
      simp -dsimp -implicitDefEqProofs (disch := first | omega | (simp only [List.length_append, List.length_cons, List.length_nil, List.length_take, List.length_drop]; omega)) only [↓aPre, aPost, oneW, allOne, retV, retVA, simprocAttr]
    · simp -dsimp -implicitDefEqProofs (disch := first | omega | (simp only [List.length_append, List.length_cons, List.length_nil, List.length_take, List.length_drop]; omega)) only [ht, ↓aPre, aPost, oneW, allOne, retV, retVA, simprocAttr]
  have hb3 := hb0.resolve_left c1
  have hon : o ≤ N - g := by omega
  simp -dsimp -implicitDefEqProofs (disch := first | omega | (simp only [List.length_append, List.length_cons, List.length_nil, List.length_take, List.length_drop]; omega)) only [hs, ht, hrl, hrg, hrow, hml, hm1, ← hz, c1, c2, ibeq_f, hlp, hp1, hp2, hpl, ↓aPre, aPost, oneW, allOne, retV, retVA, simprocAttr]
  refine loop_of (fun s => ∃ (h : Nat) (Rn' : Nat → List Int), h ≤ 2 * o + 1 ∧ g + h ≤ N + 1 ∧ (∀ k, (Rn' k).length = 2 * N + 1) ∧ Pa W N t (cl R) (cl Rn') g o h ∧ Lx D N L B Bn t b s ∧ Rw N B R s ∧ Rw N Bn Rn' s ∧ s.tm 19 = .d (.c (.int .i64 g)) ∧ s.tm 20 = .d (.c (.int .i64 o)) ∧ s.tm 21 = .d (.c (.int .i64 (z + W (N - g)))) ∧ s.tm 22 = .d (.c (.int .i64 h))) (fun s => 2 * o + 1 - (avN (s.tm 22)).toNat) ?_ ?_
  · refine ⟨0, Rn, Nat.zero_le _, by omega, hm, P, stay1 _ ?_ ?_, stay2 _ ?_, stay3 _ ?_, ?_⟩
    · simp -dsimp -implicitDefEqProofs (disch := first | omega | (simp only [List.length_append, List.length_cons, List.length_nil, List.length_take, List.length_drop]; omega)) only [↓aPre, aPost, oneW, allOne, retV, retVA, simprocAttr]
    · intro k
      simp -dsimp -implicitDefEqProofs (disch := first | omega | (simp only [List.length_append, List.length_cons, List.length_nil, List.length_take, List.length_drop]; omega)) only [↓aPre, aPost, oneW, allOne, retV, retVA, simprocAttr]
    · intro k
      simp -dsimp -implicitDefEqProofs (disch := first | omega | (simp only [List.length_append, List.length_cons, List.length_nil, List.length_take, List.length_drop]; omega)) only [↓aPre, aPost, oneW, allOne, retV, retVA, simprocAttr]
    · intro k
      simp -dsimp -implicitDefEqProofs (disch := first | omega | (simp only [List.length_append, List.length_cons, List.length_nil, List.length_take, List.length_drop]; omega)) only [↓aPre, aPost, oneW, allOne, retV, retVA, simprocAttr]
    · simp -dsimp -implicitDefEqProofs (disch := first | omega | (simp only [List.length_append, List.length_cons, List.length_nil, List.length_take, List.length_drop]; omega)) only [ht, hv, Int.natCast_zero, ↓aPre, aPost, oneW, allOne, retV, retVA, simprocAttr]
  clear hs h0 hn hs2 h02 hn2 ht stay1 stay2 stay3 hrow hm P
  obtain ⟨v, hve⟩ : ∃ v, v = z + W (N - g) := ⟨_, rfl⟩
  rw [← hve]
  have hvc : v = cl R g o + W (N - g) := by rw [hve, hzc]
  clear hv hve
  rintro s1 ⟨h, Rn1, hh, hgh, hm, P, hs, h0, hn, ht⟩
  have hs2 := hs
  have h02 := h0
  have hn2 := hn
  unfold Lx at hs
  unfold Rw at h0 hn
  have stay1 : ∀ s' : St, (s'.tm 1 = s1.tm 1 ∧ s'.tm 6 = s1.tm 6 ∧ s'.tm 7 = s1.tm 7 ∧ s'.tm 9 = s1.tm 9 ∧ s'.tm 13 = s1.tm 13 ∧ s'.tm 14 = s1.tm 14 ∧ s'.tm 15 = s1.tm 15) → (∀ k, s'.hp k = s1.hp k) → Lx D N L B Bn t b s' := fun s' ⟨a1, a2, a3, a4, a5, a6, a7⟩ a8 => by
    unfold Lx
    rw [a1, a2, a3, a4, a5, a6, a7, a8, a8, a8]
    exact hs
  have stay2 : ∀ s' : St, (∀ k, s'.hp k = s1.hp k) → Rw N B R s' := fun s' a8 g hg => by rw [a8]; exact h0 g hg
  have stay3 : ∀ s' : St, (∀ k, s'.hp k = s1.hp k) → Rw N Bn Rn1 s' := fun s' a8 g hg => by rw [a8]; exact hn g hg
  have hav : (avN (s1.tm 22)).toNat = h := by rw [ht.2.2.2]; rfl
  by_cases c3 : h ≤ 2 * o
  · by_cases c4 : g + h ≤ N
    · simp -dsimp -implicitDefEqProofs (disch := first | omega | (simp only [List.length_append, List.length_cons, List.length_nil, List.length_take, List.length_drop]; omega)) only [hs, ht, ↓cHr_x, ↓aPre, aPost, oneW, allOne, retV, retVA, simprocAttr]
      refine sub_of (hr_walk (v := v) (L := L) (D := D) (t := t) (b := b) hN h00 hB hB2 hg hon c3 c4 hm (stay1 _ ?_ ?_) (stay2 _ ?_) (stay3 _ ?_) ?_ ?_)
      · simp -dsimp -implicitDefEqProofs (disch := first | omega | (simp only [List.length_append, List.length_cons, List.length_nil, List.length_take, List.length_drop]; omega)) only [↓aPre, aPost, oneW, allOne, retV, retVA, simprocAttr]
      · intro k
        simp -dsimp -implicitDefEqProofs (disch := first | omega | (simp only [List.length_append, List.length_cons, List.length_nil, List.length_take, List.length_drop]; omega)) only [↓aPre, aPost, oneW, allOne, retV, retVA, simprocAttr]
      · intro k
        simp -dsimp -implicitDefEqProofs (disch := first | omega | (simp only [List.length_append, List.length_cons, List.length_nil, List.length_take, List.length_drop]; omega)) only [↓aPre, aPost, oneW, allOne, retV, retVA, simprocAttr]
      · intro k
        simp -dsimp -implicitDefEqProofs (disch := first | omega | (simp only [List.length_append, List.length_cons, List.length_nil, List.length_take, List.length_drop]; omega)) only [↓aPre, aPost, oneW, allOne, retV, retVA, simprocAttr]
      · simp -dsimp -implicitDefEqProofs (disch := first | omega | (simp only [List.length_append, List.length_cons, List.length_nil, List.length_take, List.length_drop]; omega)) only [ht, ↓aPre, aPost, oneW, allOne, retV, retVA, simprocAttr]
      · intro s2 Rn2 hm2 hc2 hs h0 hn ht
        have P2 : Pa W N t (cl R) (cl Rn2) g o (h + 1) := pa_h hC P hg (by rw [hzc]; exact c1) hon c3 c4 fun g' o' h1 h2 => by
          unfold cl
          rw [hc2]
          by_cases e : g' = g + h ∧ o' = min (2 * o - h) (N - g - h)
          · rw [if_pos e, if_pos e, hvc]; rfl
          · rw [if_neg e, if_neg e]
        unfold Lx at hs
        unfold Rw at h0 hn
        simp -dsimp -implicitDefEqProofs (disch := first | omega | (simp only [List.length_append, List.length_cons, List.length_nil, List.length_take, List.length_drop]; omega)) only [hs, ht, ↓aPre, aPost, oneW, allOne, retV, retVA, simprocAttr]
        refine round_of ⟨h + 1, Rn2, by omega, by omega, hm2, P2, ?_, fun g hg => ?_, fun g hg => ?_, ?_⟩ ?_
        · unfold Lx
          simp -dsimp -implicitDefEqProofs (disch := first | omega | (simp only [List.length_append, List.length_cons, List.length_nil, List.length_take, List.length_drop]; omega)) only [hs, ↓aPre, aPost, oneW, allOne, retV, retVA, simprocAttr]
        · simp -dsimp -implicitDefEqProofs (disch := first | omega | (simp only [List.length_append, List.length_cons, List.length_nil, List.length_take, List.length_drop]; omega)) only [h0, ↓aPre, aPost, oneW, allOne, retV, retVA, simprocAttr]
        · simp -dsimp -implicitDefEqProofs (disch := first | omega | (simp only [List.length_append, List.length_cons, List.length_nil, List.length_take, List.length_drop]; omega)) only [hn, ↓aPre, aPost, oneW, allOne, retV, retVA, simprocAttr]
        · simp -dsimp -implicitDefEqProofs (disch := first | omega | (simp only [List.length_append, List.length_cons, List.length_nil, List.length_take, List.length_drop]; omega)) only [ht, ↓aPre, aPost, oneW, allOne, retV, retVA, simprocAttr]
        · simp -dsimp -implicitDefEqProofs (disch := first | omega | (simp only [List.length_append, List.length_cons, List.length_nil, List.length_take, List.length_drop]; omega)) only [ht, ↓aPre, aPost, oneW, allOne, retV, retVA, simprocAttr]
          omega
    · simp -dsimp -implicitDefEqProofs (disch := first | omega | (simp only [List.length_append, List.length_cons, List.length_nil, List.length_take, List.length_drop]; omega)) only [hs, ht, ↓aPre, aPost, oneW, allOne, retV, retVA, simprocAttr]
      refine hQ _ Rn1 hm (pa_o P (.inr (.inr (by omega)))) (stay1 _ ?_ ?_) (stay2 _ ?_) (stay3 _ ?_) ?_
      · simp -dsimp -implicitDefEqProofs (disch := first | omega | (simp only [List.length_append, List.length_cons, List.length_nil, List.length_take, List.length_drop]; omega)) only [↓aPre, aPost, oneW, allOne, retV, retVA, simprocAttr]
      · intro k
        simp -dsimp -implicitDefEqProofs (disch := first | omega | (simp only [List.length_append, List.length_cons, List.length_nil, List.length_take, List.length_drop]; omega)) only [↓aPre, aPost, oneW, allOne, retV, retVA, simprocAttr]
      · intro k
        simp -dsimp -implicitDefEqProofs (disch := first | omega | (simp only [List.length_append, List.length_cons, List.length_nil, List.length_take, List.length_drop]; omega)) only [↓aPre, aPost, oneW, allOne, retV, retVA, simprocAttr]
      · intro k
        simp -dsimp -implicitDefEqProofs (disch := first | omega | (simp only [List.length_append, List.length_cons, List.length_nil, List.length_take, List.length_drop]; omega)) only [↓aPre, aPost, oneW, allOne, retV, retVA, simprocAttr]
      · simp -dsimp -implicitDefEqProofs (disch := first | omega | (simp only [List.length_append, List.length_cons, List.length_nil, List.length_take, List.length_drop]; omega)) only [ht, ↓aPre, aPost, oneW, allOne, retV, retVA, simprocAttr]
  · simp -dsimp -implicitDefEqProofs (disch := first | omega | (simp only [List.length_append, List.length_cons, List.length_nil, List.length_take, List.length_drop]; omega)) only [hs, ht, ↓aPre, aPost, oneW, allOne, retV, retVA, simprocAttr]
    refine hQ _ Rn1 hm (pa_o P (.inr (.inr (by omega)))) (stay1 _ ?_ ?_) (stay2 _ ?_) (stay3 _ ?_) ?_
    · simp -dsimp -implicitDefEqProofs (disch := first | omega | (simp only [List.length_append, List.length_cons, List.length_nil, List.length_take, List.length_drop]; omega)) only [↓aPre, aPost, oneW, allOne, retV, retVA, simprocAttr]
    · intro k
      simp -dsimp -implicitDefEqProofs (disch := first | omega | (simp only [List.length_append, List.length_cons, List.length_nil, List.length_take, List.length_drop]; omega)) only [↓aPre, aPost, oneW, allOne, retV, retVA, simprocAttr]
    · intro k
      simp -dsimp -implicitDefEqProofs (disch := first | omega | (simp only [List.length_append, List.length_cons, List.length_nil, List.length_take, List.length_drop]; omega)) only [↓aPre, aPost, oneW, allOne, retV, retVA, simprocAttr]
    · intro k
      simp -dsimp -implicitDefEqProofs (disch := first | omega | (simp only [List.length_append, List.length_cons, List.length_nil, List.length_take, List.length_drop]; omega)) only [↓aPre, aPost, oneW, allOne, retV, retVA, simprocAttr]
    · simp -dsimp -implicitDefEqProofs (disch := first | omega | (simp only [List.length_append, List.length_cons, List.length_nil, List.length_take, List.length_drop]; omega)) only [ht, ↓aPre, aPost, oneW, allOne, retV, retVA, simprocAttr]
end
end Go.Proofs.Ytlchakkdgkbabaa
namespace Go.Proofs.Ytlchakkdgkbabaa
open Go.Eng Go.RowKit
section
variable {D : List Int} {N L : Nat}
theorem rel_walk (hN : N ≤ 40) {B Bn t : Nat} {b : Int} {R Rn : Nat → List Int} {W : Nat → Int} (h00 : 1000 ≤ B) (hB : B + N + 1 ≤ Bn) (hB2 : Bn ≤ 900000) (ht40 : t ≤ 40) (hW : Wok W 42949672960) (hD : ∀ g, g ≤ N → pfx D N - pfx D g = W (N - g)) (hpb : ∀ k : Nat, 0 ≤ pfx D k ∧ pfx D k ≤ k * 1073741824)
    {Q : Exit → St → Prop} {s : St} (hmR : ∀ k, (R k).length = 2 * N + 1) (hm : ∀ k, (Rn k).length = 2 * N + 1) (hC : Tb W N t (cl R)) (P : Pa W N t (cl R) (cl Rn) 0 0 0)
    (hs : Lx D N L B Bn t b s) (h0 : Rw N B R s) (hn : Rw N Bn Rn s)
    (hQ : ∀ s' Rn', (∀ k, (Rn' k).length = 2 * N + 1) → Pa W N t (cl R) (cl Rn') (N + 1) 0 0 → Lx D N L B Bn t b s' → Rw N B R s' → Rw N Bn Rn' s' → Q .normal s') : awp Try.prog cRel Q s := by
  unfold Lx at hs
  unfold Rw at h0 hn
  unfold cRel
  simp -dsimp -implicitDefEqProofs (disch := first | omega | (simp only [List.length_append, List.length_cons, List.length_nil, List.length_take, List.length_drop]; omega)) only [hs, ↓aPre, aPost, oneW, allOne, retV, retVA, simprocAttr]
  refine loop_of (fun s => ∃ (g : Nat) (Rn : Nat → List Int), g ≤ N + 1 ∧ (∀ k, (Rn k).length = 2 * N + 1) ∧ Pa W N t (cl R) (cl Rn) g 0 0 ∧ Lx D N L B Bn t b s ∧ Rw N B R s ∧ Rw N Bn Rn s ∧ s.tm 19 = .d (.c (.int .i64 g))) (fun s => N + 1 - (avN (s.tm 19)).toNat) ?_ ?_
  · refine ⟨0, Rn, Nat.zero_le _, hm, P, ?_, fun g hg => ?_, fun g hg => ?_, ?_⟩
    · unfold Lx
      simp -dsimp -implicitDefEqProofs (disch := first | omega | (simp only [List.length_append, List.length_cons, List.length_nil, List.length_take, List.length_drop]; omega)) only [hs, ↓aPre, aPost, oneW, allOne, retV, retVA, simprocAttr]
    · simp -dsimp -implicitDefEqProofs (disch := first | omega | (simp only [List.length_append, List.length_cons, List.length_nil, List.length_take, List.length_drop]; omega)) only [h0, ↓aPre, aPost, oneW, allOne, retV, retVA, simprocAttr]
    · simp -dsimp -implicitDefEqProofs (disch := first | omega | (simp only [List.length_append, List.length_cons, List.length_nil, List.length_take, List.length_drop]; omega)) only [hn, ↓aPre, aPost, oneW, allOne, retV, retVA, simprocAttr]
    · simp -dsimp -implicitDefEqProofs (disch := first | omega | (simp only [List.length_append, List.length_cons, List.length_nil, List.length_take, List.length_drop]; omega)) only [Int.natCast_zero, ↓aPre, aPost, oneW, allOne, retV, retVA, simprocAttr]
  clear hs h0 hn hm P
  rintro s ⟨g, Rn, hg, hm, P, hs, h0, hn, ht⟩
  unfold Lx at hs
  unfold Rw at h0 hn
  have hav : (avN (s.tm 19)).toNat = g := by rw [ht]; rfl
  by_cases c : g ≤ N
  · simp -dsimp -implicitDefEqProofs (disch := first | omega | (simp only [List.length_append, List.length_cons, List.length_nil, List.length_take, List.length_drop]; omega)) only [hs, ht, ↓aPre, aPost, oneW, allOne, retV, retVA, simprocAttr]
    refine loop_of (fun s => ∃ (o : Nat) (Rn : Nat → List Int), o ≤ N + 1 ∧ (∀ k, (Rn k).length = 2 * N + 1) ∧ Pa W N t (cl R) (cl Rn) g o 0 ∧ Lx D N L B Bn t b s ∧ Rw N B R s ∧ Rw N Bn Rn s ∧ s.tm 19 = .d (.c (.int .i64 g)) ∧ s.tm 20 = .d (.c (.int .i64 o))) (fun s => N + 1 - (avN (s.tm 20)).toNat) ?_ ?_
    · refine ⟨0, Rn, Nat.zero_le _, hm, P, ?_, fun g hg => ?_, fun g hg => ?_, ?_⟩
      · unfold Lx
        simp -dsimp -implicitDefEqProofs (disch := first | omega | (simp only [List.length_append, List.length_cons, List.length_nil, List.length_take, List.length_drop]; omega)) only [hs, ↓aPre, aPost, oneW, allOne, retV, retVA, simprocAttr]
      · simp -dsimp -implicitDefEqProofs (disch := first | omega | (simp only [List.length_append, List.length_cons, List.length_nil, List.length_take, List.length_drop]; omega)) only [h0, ↓aPre, aPost, oneW, allOne, retV, retVA, simprocAttr]
      · simp -dsimp -implicitDefEqProofs (disch := first | omega | (simp only [List.length_append, List.length_cons, List.length_nil, List.length_take, List.length_drop]; omega)) only [hn, ↓aPre, aPost, oneW, allOne, retV, retVA, simprocAttr]
      · simp -dsimp -implicitDefEqProofs (disch := first | omega | (simp only [List.length_append, List.length_cons, List.length_nil, List.length_take, List.length_drop]; omega)) only [ht, Int.natCast_zero, ↓aPre, aPost, oneW, allOne, retV, retVA, simprocAttr]
    clear hs h0 hn hm P ht
    rintro s1 ⟨o, Rn, ho, hm, P, hs, h0, hn, ht⟩
    have hs2 := hs
    unfold Lx at hs
    unfold Rw at h0 hn
    have hav2 : (avN (s1.tm 20)).toNat = o := by rw [ht.2]; rfl
    by_cases c2 : o ≤ N
    · simp -dsimp -implicitDefEqProofs (disch := first | omega | (simp only [List.length_append, List.length_cons, List.length_nil, List.length_take, List.length_drop]; omega)) only [hs, ht, ↓cGo_x, ↓aPre, aPost, oneW, allOne, retV, retVA, simprocAttr]
      refine sub_of (go_walk (L := L) (D := D) (t := t) (b := b) hN h00 hB hB2 ht40 hW hD hpb c c2 hmR hm hC P ?_ (fun g hg => ?_) (fun g hg => ?_) ?_ ?_)
      · unfold Lx
        simp -dsimp -implicitDefEqProofs (disch := first | omega | (simp only [List.length_append, List.length_cons, List.length_nil, List.length_take, List.length_drop]; omega)) only [hs, ↓aPre, aPost, oneW, allOne, retV, retVA, simprocAttr]
      · simp -dsimp -implicitDefEqProofs (disch := first | omega | (simp only [List.length_append, List.length_cons, List.length_nil, List.length_take, List.length_drop]; omega)) only [h0, ↓aPre, aPost, oneW, allOne, retV, retVA, simprocAttr]
      · simp -dsimp -implicitDefEqProofs (disch := first | omega | (simp only [List.length_append, List.length_cons, List.length_nil, List.length_take, List.length_drop]; omega)) only [hn, ↓aPre, aPost, oneW, allOne, retV, retVA, simprocAttr]
      · simp -dsimp -implicitDefEqProofs (disch := first | omega | (simp only [List.length_append, List.length_cons, List.length_nil, List.length_take, List.length_drop]; omega)) only [ht, ↓aPre, aPost, oneW, allOne, retV, retVA, simprocAttr]
      · intro s2 Rn2 hm2 P2 hs h0 hn ht
        unfold Lx at hs
        unfold Rw at h0 hn
        simp -dsimp -implicitDefEqProofs (disch := first | omega | (simp only [List.length_append, List.length_cons, List.length_nil, List.length_take, List.length_drop]; omega)) only [hs, ht, ↓aPre, aPost, oneW, allOne, retV, retVA, simprocAttr]
        refine round_of ⟨o + 1, Rn2, by omega, hm2, P2, ?_, fun g hg => ?_, fun g hg => ?_, ?_⟩ ?_
        · unfold Lx
          simp -dsimp -implicitDefEqProofs (disch := first | omega | (simp only [List.length_append, List.length_cons, List.length_nil, List.length_take, List.length_drop]; omega)) only [hs, ↓aPre, aPost, oneW, allOne, retV, retVA, simprocAttr]
        · simp -dsimp -implicitDefEqProofs (disch := first | omega | (simp only [List.length_append, List.length_cons, List.length_nil, List.length_take, List.length_drop]; omega)) only [h0, ↓aPre, aPost, oneW, allOne, retV, retVA, simprocAttr]
        · simp -dsimp -implicitDefEqProofs (disch := first | omega | (simp only [List.length_append, List.length_cons, List.length_nil, List.length_take, List.length_drop]; omega)) only [hn, ↓aPre, aPost, oneW, allOne, retV, retVA, simprocAttr]
        · simp -dsimp -implicitDefEqProofs (disch := first | omega | (simp only [List.length_append, List.length_cons, List.length_nil, List.length_take, List.length_drop]; omega)) only [ht, ↓aPre, aPost, oneW, allOne, retV, retVA, simprocAttr]
        · simp -dsimp -implicitDefEqProofs (disch := first | omega | (simp only [List.length_append, List.length_cons, List.length_nil, List.length_take, List.length_drop]; omega)) only [ht, ↓aPre, aPost, oneW, allOne, retV, retVA, simprocAttr]
          omega
    · obtain rfl : o = N + 1 := by omega
      simp -dsimp -implicitDefEqProofs (disch := first | omega | (simp only [List.length_append, List.length_cons, List.length_nil, List.length_take, List.length_drop]; omega)) only [hs, ht, ↓aPre, aPost, oneW, allOne, retV, retVA, simprocAttr]
      refine round_of ⟨g + 1, Rn, by omega, hm, pa_g P, ?_, fun g hg => ?_, fun g hg => ?_, ?_⟩ ?_
      · unfold Lx
        simp -dsimp -implicitDefEqProofs (disch := first | omega | (simp only [List.length_append, List.length_cons, List.length_nil, List.length_take, List.length_drop]; omega)) only [hs, ↓aPre, aPost, oneW, allOne, retV, retVA, simprocAttr]
      · simp -dsimp -implicitDefEqProofs (disch := first | omega | (simp only [List.length_append, List.length_cons, List.length_nil, List.length_take, List.length_drop]; omega)) only [h0, ↓aPre, aPost, oneW, allOne, retV, retVA, simprocAttr]
      · simp -dsimp -implicitDefEqProofs (disch := first | omega | (simp only [List.length_append, List.length_cons, List.length_nil, List.length_take, List.length_drop]; omega)) only [hn, ↓aPre, aPost, oneW, allOne, retV, retVA, simprocAttr]
      · simp -dsimp -implicitDefEqProofs (disch := first | omega | (simp only [List.length_append, List.length_cons, List.length_nil, List.length_take, List.length_drop]; omega)) only [ht, ↓aPre, aPost, oneW, allOne, retV, retVA, simprocAttr]
      · simp -dsimp -implicitDefEqProofs (disch := first | omega | (simp only [List.length_append, List.length_cons, List.length_nil, List.length_take, List.length_drop]; omega)) only [ht, ↓aPre, aPost, oneW, allOne, retV, retVA, simprocAttr]
        omega
  · obtain rfl : g = N + 1 := by omega
    simp -dsimp -implicitDefEqProofs (disch := first | omega | (simp only [List.length_append, List.length_cons, List.length_nil, List.length_take, List.length_drop]; omega)) only [hs, ht, ↓aPre, aPost, oneW, allOne, retV, retVA, simprocAttr]
    refine hQ _ Rn hm P ?_ (fun g hg => ?_) (fun g hg => ?_)
    · unfold Lx
      simp -dsimp -implicitDefEqProofs (disch := first | omega | (simp only [List.length_append, List.length_cons, List.length_nil, List.length_take, List.length_drop]; omega)) only [hs, ↓aPre, aPost, oneW, allOne, retV, retVA, simprocAttr]
    · simp -dsimp -implicitDefEqProofs (disch := first | omega | (simp only [List.length_append, List.length_cons, List.length_nil, List.length_take, List.length_drop]; omega)) only [h0, ↓aPre, aPost, oneW, allOne, retV, retVA, simprocAttr]
    · simp -dsimp -implicitDefEqProofs (disch := first | omega | (simp only [List.length_append, List.length_cons, List.length_nil, List.length_take, List.length_drop]; omega)) only [hn, ↓aPre, aPost, oneW, allOne, retV, retVA, simprocAttr]
end
end Go.Proofs.Ytlchakkdgkbabaa
namespace Go.Proofs.Ytlchakkdgkbabaa
open Go.Eng Go.RowKit
section
variable {D : List Int} {N L : Nat}
theorem lv_walk (hN1 : 1 ≤ N) (hN : N ≤ 40) {B Bn t : Nat} {b : Int} {R : Nat → List Int} {W : Nat → Int} (h00 : 1000 ≤ B) (hB : B + N + 1 ≤ Bn) (hB2 : Bn ≤ 900000) (ht40 : t ≤ 40) (hW : Wok W 42949672960) (hD : ∀ g, g ≤ N → pfx D N - pfx D g = W (N - g)) (hpb : ∀ k : Nat, 0 ≤ pfx D k ∧ pfx D k ≤ k * 1073741824)
    {Q : Exit → St → Prop} {s : St} (hmR : ∀ k, (R k).length = 2 * N + 1) (hC : Tb W N t (cl R)) (hb : Bs W N t b)
    (hs : Lq D N L B t b s) (h0 : Rw N B R s)
    (hQ : ∀ s' Rn b', (∀ k, (Rn k).length = 2 * N + 1) → Tb W N (t + 1) (cl Rn) → Bs W N (t + 1) b' → Rw N Bn Rn s' → (s'.tm 1 = .d (.c (.int .i64 L)) ∧ s'.tm 6 = .d (.c (.int .i64 N)) ∧ s'.tm 7 = .sl 30 1 0 (N + 1) ∧ s'.hp 30 = some (.row 1 (li .i64 (psK D N))) ∧ s'.tm 9 = .sl 92 1 0 (N + 1) ∧ s'.hp 92 = some (.tab (rws Bn (2 * N + 1) (N + 1))) ∧ s'.tm 13 = .d (.c (.int .i64 b')) ∧ s'.tm 14 = .d (.c (.int .i64 ((t : Int) + 1)))) → Q .normal s') : awp Try.prog cLv Q s := by
  have hs0 := hs
  unfold Lq at hs
  have h01 := h0
  unfold Rw at h01
  unfold cLv
  simp -dsimp -implicitDefEqProofs (disch := first | omega | (simp only [List.length_append, List.length_cons, List.length_nil, List.length_take, List.length_drop]; omega)) only [hs, ↓cT2_x, ↓aPre, aPost, oneW, allOne, retV, retVA, simprocAttr]
  refine sub_of (t2_walk (D := D) (L := L) (t := t) (b := b) (R := R) hN h00 hB hB2 ?_ (fun g hg => ?_) ?_ ?_)
  · unfold Lq
    simp -dsimp -implicitDefEqProofs (disch := first | omega | (simp only [List.length_append, List.length_cons, List.length_nil, List.length_take, List.length_drop]; omega)) only [hs, ↓aPre, aPost, oneW, allOne, retV, retVA, simprocAttr]
  · simp -dsimp -implicitDefEqProofs (disch := first | omega | (simp only [List.length_append, List.length_cons, List.length_nil, List.length_take, List.length_drop]; omega)) only [h01, ↓aPre, aPost, oneW, allOne, retV, retVA, simprocAttr]
  · simp -dsimp -implicitDefEqProofs (disch := first | omega | (simp only [List.length_append, List.length_cons, List.length_nil, List.length_take, List.length_drop]; omega)) only [↓aPre, aPost, oneW, allOne, retV, retVA, simprocAttr]
  clear hs h0 h01 hs0
  intro s1 hs h0 h15 h92 hrow
  unfold Lq at hs
  unfold Rw at h0
  simp -dsimp -implicitDefEqProofs (disch := first | omega | (simp only [List.length_append, List.length_cons, List.length_nil, List.length_take, List.length_drop]; omega)) only [↓cRel_x, ↓aPre, aPost, oneW, allOne, retV, retVA, simprocAttr]
  have hm0 : ∀ k : Nat, ((fun _ => List.replicate (2 * N + 1) far : Nat → List Int) k).length = 2 * N + 1 := fun k => List.length_replicate
  refine sub_of (rel_walk (D := D) (L := L) (t := t) (b := b) (R := R) (Rn := fun _ => List.replicate (2 * N + 1) far) hN h00 hB hB2 ht40 hW hD hpb hmR hm0 hC (pa_0 fun g o hg ho => rep_getD (by omega)) ?_ ?_ ?_ ?_)
  · unfold Lx
    simp -dsimp -implicitDefEqProofs (disch := first | omega | (simp only [List.length_append, List.length_cons, List.length_nil, List.length_take, List.length_drop]; omega)) only [hs, h15, h92, ↓aPre, aPost, oneW, allOne, retV, retVA, simprocAttr]
  · exact h0
  · exact hrow
  clear hs h0 h15 h92 hrow
  intro s2 Rn hm P hs h0 hn
  unfold Lx at hs
  unfold Rw at hn
  have hC2 : Tb W N (t + 1) (cl Rn) := pa_end hW hN1 (by
    have tB : (t : Int) * ((42949672960 : Nat) : Int) ≤ 40 * 42949672960 := Int.mul_le_mul_of_nonneg_right (by omega) (by decide)
    unfold far
    omega) hC P
  have hb2 := bs_s hb hC2
  have hm1 := hm N
  have hml : (li .i64 (Rn N)).length = 2 * N + 1 := by rw [li_length, hm]
  have hrl := rws_len Bn (2 * N + 1) (N + 1)
  have hrg := rws_get Bn (2 * N + 1) (k := N + 1) (i := N) (by omega)
  have hrow := hn N (by omega)
  obtain ⟨z, hz⟩ : ∃ z, z = (Rn N).getD 0 0 := ⟨_, rfl⟩
  have hzc : cl Rn N 0 = z := by rw [hz]; rfl
  rw [hzc] at hb2
  by_cases c : z < b
  · rw [if_pos c] at hb2
    simp -dsimp -implicitDefEqProofs (disch := first | omega | (simp only [List.length_append, List.length_cons, List.length_nil, List.length_take, List.length_drop]; omega)) only [hs, hm1, hml, hrl, hrg, hrow, ← hz, c, ↓aPre, aPost, oneW, allOne, retV, retVA, simprocAttr]
    refine hQ _ Rn z hm hC2 hb2 (fun g hg => ?_) ?_
    · simp -dsimp -implicitDefEqProofs (disch := first | omega | (simp only [List.length_append, List.length_cons, List.length_nil, List.length_take, List.length_drop]; omega)) only [hn, ↓aPre, aPost, oneW, allOne, retV, retVA, simprocAttr]
    · simp -dsimp -implicitDefEqProofs (disch := first | omega | (simp only [List.length_append, List.length_cons, List.length_nil, List.length_take, List.length_drop]; omega)) only [hs, ↓aPre, aPost, oneW, allOne, retV, retVA, simprocAttr]
  · rw [if_neg c] at hb2
    simp -dsimp -implicitDefEqProofs (disch := first | omega | (simp only [List.length_append, List.length_cons, List.length_nil, List.length_take, List.length_drop]; omega)) only [hs, hm1, hml, hrl, hrg, hrow, ← hz, c, ↓aPre, aPost, oneW, allOne, retV, retVA, simprocAttr]
    refine hQ _ Rn b hm hC2 hb2 (fun g hg => ?_) ?_
    · simp -dsimp -implicitDefEqProofs (disch := first | omega | (simp only [List.length_append, List.length_cons, List.length_nil, List.length_take, List.length_drop]; omega)) only [hn, ↓aPre, aPost, oneW, allOne, retV, retVA, simprocAttr]
    · simp -dsimp -implicitDefEqProofs (disch := first | omega | (simp only [List.length_append, List.length_cons, List.length_nil, List.length_take, List.length_drop]; omega)) only [hs, ↓aPre, aPost, oneW, allOne, retV, retVA, simprocAttr]
end
end Go.Proofs.Ytlchakkdgkbabaa
namespace Go.Proofs.Ytlchakkdgkbabaa
open Go.Eng Go.RowKit
theorem least_giv (of : List Int) {N L : Nat} (hl : of.length ≤ 300) (hg : GoodL of) (hN : N = (sgs of).length) (h2 : 2 ≤ N) (h40 : N ≤ 40) (hL1 : 1 ≤ L) (hL2 : L ≤ 40) (hNL : N ≤ 2 ^ L) : Giv Try.prog 13 [.lst 1 (li .i64 of), .c (.int .i64 L)] (retV [.c (.int .i64 (SS (sgs of) L (2 * (N - 1))))]) := by
  obtain ⟨D, hDe⟩ : ∃ D, D = wtD of := ⟨_, rfl⟩
  have hDl : D.length = N := by rw [hDe, wtD_len, hN]
  have hwb : ∀ j, 0 ≤ D.getD j 0 ∧ D.getD j 0 ≤ 1073741824 := fun j => by rw [hDe]; exact wt_get hg j
  have hpb := pfx_b hwb
  have hD : ∀ g, g ≤ N → pfx D N - pfx D g = Wt (sgs of) (N - g) := fun g hg => by rw [hDe, hN]; exact pfx_wt of (by omega)
  have hW : Wok (Wt (sgs of)) 42949672960 := fun c => by
    have key : Wt (sgs of) (min c N) = pfx D N - pfx D (N - min c N) := by
      rw [hD _ (by omega)]
      congr 1
      omega
    have e : Wt (sgs of) c = Wt (sgs of) (min c N) := by
      by_cases h : c ≤ N
      · rw [Nat.min_eq_left h]
      · rw [Nat.min_eq_right (by omega)]
        unfold Wt
        rw [List.take_of_length_le (by omega), List.take_of_length_le (by omega)]
    have b1 := hpb N
    have b2 := hpb (N - min c N)
    have b3 : 0 ≤ Wt (sgs of) c := by
      have := Wt_mono (sgs_sg of) (Nat.zero_le c)
      have e0 : Wt (sgs of) 0 = 0 := by simp [Wt, ssum]
      omega
    rw [e] at b3 ⊢
    rw [key] at b3 ⊢
    omega
  have hco := coming_giv of (by omega)
  have hsl : (wts (sgl of of.length)).length ≤ 1000 := by
    rw [wts_len]
    have := sgl_le of of.length
    omega
  have hso := sorted_giv (wts (sgl of of.length)) hsl
  rw [sorted_wtD, ← hDe] at hso
  have hll := li_length (k := .i64) (l := D)
  refine Giv.of mixed e13 (Nat.le_of_ble_eq_true rfl) ?_
  simp -dsimp -implicitDefEqProofs (disch := first | omega | (simp only [List.length_append, List.length_cons, List.length_nil, List.length_take, List.length_drop]; omega)) only [b13, ↓aPre, aPost, oneW, allOne, retV, retVA, simprocAttr]
  refine call_giv hco ?_
  simp -dsimp -implicitDefEqProofs (disch := first | omega | (simp only [List.length_append, List.length_cons, List.length_nil, List.length_take, List.length_drop]; omega)) only [↓aPre, aPost, oneW, allOne, retV, retVA, simprocAttr]
  refine call_giv hso ?_
  simp -dsimp -implicitDefEqProofs (disch := first | omega | (simp only [List.length_append, List.length_cons, List.length_nil, List.length_take, List.length_drop]; omega)) only [hll, hDl, ↓cPs_x, ↓aPre, aPost, oneW, allOne, retV, retVA, simprocAttr]
  refine sub_of (ps_walk (L := L) hDl hwb h40 ?_ ?_ ?_ ?_)
  · unfold Bs0
    simp -dsimp -implicitDefEqProofs (disch := first | omega | (simp only [List.length_append, List.length_cons, List.length_nil, List.length_take, List.length_drop]; omega)) only [↓aPre, aPost, oneW, allOne, retV, retVA, simprocAttr]
  · simp -dsimp -implicitDefEqProofs (disch := first | omega | (simp only [List.length_append, List.length_cons, List.length_nil, List.length_take, List.length_drop]; omega)) only [↓aPre, aPost, oneW, allOne, retV, retVA, simprocAttr]
  · simp -dsimp -implicitDefEqProofs (disch := first | omega | (simp only [List.length_append, List.length_cons, List.length_nil, List.length_take, List.length_drop]; omega)) only [↓aPre, aPost, oneW, allOne, retV, retVA, simprocAttr]
    rfl
  intro s hs
  unfold Bse at hs
  simp -dsimp -implicitDefEqProofs (disch := first | omega | (simp only [List.length_append, List.length_cons, List.length_nil, List.length_take, List.length_drop]; omega)) only [hs, ↓cT1_x, ↓aPre, aPost, oneW, allOne, retV, retVA, simprocAttr]
  refine sub_of (t1_walk (D := D) (L := L) (B := 100000) h40 (by decide) (by decide) ?_ ?_ ?_)
  · unfold Bse
    simp -dsimp -implicitDefEqProofs (disch := first | omega | (simp only [List.length_append, List.length_cons, List.length_nil, List.length_take, List.length_drop]; omega)) only [hs, ↓aPre, aPost, oneW, allOne, retV, retVA, simprocAttr]
  · simp -dsimp -implicitDefEqProofs (disch := first | omega | (simp only [List.length_append, List.length_cons, List.length_nil, List.length_take, List.length_drop]; omega)) only [↓aPre, aPost, oneW, allOne, retV, retVA, simprocAttr]
  clear hs
  intro s hs h9 h65 hrow
  unfold Bse at hs
  have hrl := rws_len 100000 (2 * N + 1) (N + 1)
  have hrg := rws_get 100000 (2 * N + 1) (k := N + 1) (i := 0) (by omega)
  have hr0 := hrow 0 (by omega)
  rw [Nat.add_zero] at hrg hr0
  obtain ⟨X, hX⟩ : ∃ X, X = List.replicate (2 * N + 1) far := ⟨_, rfl⟩
  rw [← hX] at hr0 hrow
  have hXl : X.length = 2 * N + 1 := by rw [hX, List.length_replicate]
  have hjl := li_length (k := .i64) (l := X)
  rw [hXl] at hjl
  have hm0 : ∀ k : Nat, (setR (fun _ => X) 0 1 0 k).length = 2 * N + 1 := fun k => setR_len hXl
  have hC0 : Tb (Wt (sgs of)) N 0 (cl (setR (fun _ => X) 0 1 0)) := tb_0 (by omega) fun g o hg ho => by
    unfold cl
    rw [setR_get (by rw [hXl]; omega), hX]
    rw [rep_getD (by omega)]
  simp -dsimp -implicitDefEqProofs (disch := first | omega | (simp only [List.length_append, List.length_cons, List.length_nil, List.length_take, List.length_drop]; omega)) only [hs, h9, h65, hrl, hrg, hr0, hjl, hXl, ↓aPre, aPost, oneW, allOne, retV, retVA, simprocAttr]
  refine loop_gh (Gh.nam (n := 65) (m := 50) (o := .tab (rws 100000 (2 * N + 1) (N + 1))) (by decide) (by decide) (by decide) (by simp -dsimp -implicitDefEqProofs (disch := first | omega | (simp only [List.length_append, List.length_cons, List.length_nil, List.length_take, List.length_drop]; omega)) only [h65, ↓aPre, aPost, oneW, allOne, retV, retVA, simprocAttr])) (fun s => ∃ (t : Nat) (R : Nat → List Int) (b : Int), t ≤ L ∧ (∀ k, (R k).length = 2 * N + 1) ∧ Tb (Wt (sgs of)) N t (cl R) ∧ Bs (Wt (sgs of)) N t b ∧ Lq D N L (100000 + 100 * t) t b s ∧ Rw N (100000 + 100 * t) R s) (fun s => L + 1 - (avN (s.tm 14)).toNat) ?_ ?_
  · refine ⟨0, setR (fun _ => X) 0 1 0, far, Nat.zero_le _, hm0, hC0, bs_0, ?_, fun g hg => ?_⟩
    · unfold Lq
      simp -dsimp -implicitDefEqProofs (disch := first | omega | (simp only [List.length_append, List.length_cons, List.length_nil, List.length_take, List.length_drop]; omega)) only [hs, h9, h65, nam_tm, nam_hp, rnm_t, rnm_f, rws_kill, rws_rho, if_neg, ↓aPre, aPost, oneW, allOne, retV, retVA, simprocAttr]
      rfl
    · unfold setR
      by_cases e : g = 0
      · subst e
        simp -dsimp -implicitDefEqProofs (disch := first | omega | (simp only [List.length_append, List.length_cons, List.length_nil, List.length_take, List.length_drop]; omega)) only [hr0, nam_tm, nam_hp, rnm_t, rnm_f, if_neg, ↓aPre, aPost, oneW, allOne, retV, retVA, simprocAttr]
      · simp -dsimp -implicitDefEqProofs (disch := first | omega | (simp only [List.length_append, List.length_cons, List.length_nil, List.length_take, List.length_drop]; omega)) only [e, hrow, nam_tm, nam_hp, rnm_t, rnm_f, if_neg, ↓aPre, aPost, oneW, allOne, retV, retVA, simprocAttr]
  clear hs h9 h65 hrow hr0 hrg
  rintro s ⟨t, R, b, htL, hm, hC, hb, hs, h0⟩
  unfold Lq at hs
  unfold Rw at h0
  have hav : (avN (s.tm 14)).toNat = t + 1 := by
    simp -dsimp -implicitDefEqProofs (disch := first | omega | (simp only [List.length_append, List.length_cons, List.length_nil, List.length_take, List.length_drop]; omega)) only [hs, ↓aPre, aPost, oneW, allOne, retV, retVA, simprocAttr]
    omega
  by_cases c : t < L
  · simp -dsimp -implicitDefEqProofs (disch := first | omega | (simp only [List.length_append, List.length_cons, List.length_nil, List.length_take, List.length_drop]; omega)) only [hs, ↓cLv_x, ↓aPre, aPost, oneW, allOne, retV, retVA, simprocAttr]
    refine sub_of (lv_walk (D := D) (L := L) (B := 100000 + 100 * t) (Bn := 100000 + 100 * (t + 1)) (t := t) (b := b) (R := R) (by omega) h40 (by omega) (by omega) (by omega) (by omega) hW hD hpb hm hC hb ?_ ?_ ?_)
    · unfold Lq
      simp -dsimp -implicitDefEqProofs (disch := first | omega | (simp only [List.length_append, List.length_cons, List.length_nil, List.length_take, List.length_drop]; omega)) only [hs, ↓aPre, aPost, oneW, allOne, retV, retVA, simprocAttr]
    · intro g hg
      simp -dsimp -implicitDefEqProofs (disch := first | omega | (simp only [List.length_append, List.length_cons, List.length_nil, List.length_take, List.length_drop]; omega)) only [h0, ↓aPre, aPost, oneW, allOne, retV, retVA, simprocAttr]
    clear hs h0
    intro s2 Rn b2 hm2 hC2 hb2 hn hs
    unfold Rw at hn
    have e3 : (t : Int) + 1 = ((t + 1 : Nat) : Int) := by omega
    simp -dsimp -implicitDefEqProofs (disch := first | omega | (simp only [List.length_append, List.length_cons, List.length_nil, List.length_take, List.length_drop]; omega)) only [hs, ↓aPre, aPost, oneW, allOne, retV, retVA, simprocAttr]
    refine round_gh (Gh.nam (n := 92) (m := 50) (o := .tab (rws (100000 + 100 * (t + 1)) (2 * N + 1) (N + 1))) (by decide) (by decide) (by decide) (by simp -dsimp -implicitDefEqProofs (disch := first | omega | (simp only [List.length_append, List.length_cons, List.length_nil, List.length_take, List.length_drop]; omega)) only [hs, ↓aPre, aPost, oneW, allOne, retV, retVA, simprocAttr])) ⟨t + 1, Rn, b2, by omega, hm2, hC2, hb2, ?_, fun g hg => ?_⟩ ?_
    · unfold Lq
      simp -dsimp -implicitDefEqProofs (disch := first | omega | (simp only [List.length_append, List.length_cons, List.length_nil, List.length_take, List.length_drop]; omega)) only [hs, nam_tm, nam_hp, rnm_t, rnm_f, rws_kill, rws_rho, if_neg, ↓aPre, aPost, oneW, allOne, retV, retVA, simprocAttr]
    · simp -dsimp -implicitDefEqProofs (disch := first | omega | (simp only [List.length_append, List.length_cons, List.length_nil, List.length_take, List.length_drop]; omega)) only [hn, nam_tm, nam_hp, rnm_t, rnm_f, if_neg, ↓aPre, aPost, oneW, allOne, retV, retVA, simprocAttr]
    · simp -dsimp -implicitDefEqProofs (disch := first | omega | (simp only [List.length_append, List.length_cons, List.length_nil, List.length_take, List.length_drop]; omega)) only [hs, nam_tm, ↓aPre, aPost, oneW, allOne, retV, retVA, simprocAttr]
      omega
  · obtain rfl : t = L := by omega
    have hend := bs_end (sgs_sg of) hW (L := t) (by
      unfold far
      omega) (by omega) (by omega) hL1 (by rw [← hN]; exact hb)
    rw [← hN] at hend
    simp -dsimp -implicitDefEqProofs (disch := first | omega | (simp only [List.length_append, List.length_cons, List.length_nil, List.length_take, List.length_drop]; omega)) only [hs, ↓aPre, aPost, oneW, allOne, retV, retVA, simprocAttr]
    exact post_eq (by rw [hend])
end Go.Proofs.Ytlchakkdgkbabaa

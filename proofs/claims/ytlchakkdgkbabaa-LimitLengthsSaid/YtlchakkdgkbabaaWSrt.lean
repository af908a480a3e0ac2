/- The reference's sorting. No condition but that the row is not too long. -/
import Derived.Test.YtlchakkdgkbabaaWF2
import Derived.Test.YtlchakkdgkbabaaWTab
import Derived.Test.YtlchakkdgkbabaaLSrt
set_option linter.unusedSimpArgs false
set_option linter.unusedVariables false
set_option maxRecDepth 8000
set_option maxHeartbeats 4000000
namespace Go.Eng
open Go.RowKit
/-- an own row in a slot that nobody writes any more, told as data -/
theorem Gh.ice {s : St} {t n es off len : Nat} {L : List D} (h1 : s.tm t = .sl n es off len) (h2 : s.hp n = some (.row es L)) (hn : n < 1000000) (hl : off + len ≤ L.length) :
    Gh [] s [] ((s.turn n (.ice es L)).put (some t) (.d (.lst es ((L.drop off).take len)))) [] := fun c Z M a w xs R hvs => by
  have hv := R.tm t
  rw [h1] at hv
  have ht : t < c.nt := by
    refine Decidable.byContradiction fun hlt => ?_
    have e : a.tmps.getD t undef = undef := by
      have : ¬ t < a.tmps.size := by rw [R.size]; exact hlt
      simp [Array.getD, this]
    rw [e] at hv
    unfold AR at hv
    obtain ⟨ad, cap, h3, _⟩ := hv
    simp [undef] at h3
  obtain ⟨Z', s', d, hz, R', hd, _, rfl, rfl⟩ := slD_sound R hv (K := fun s' d => s' = s.turn n (.ice es L) ∧ d = .lst es ((L.drop off).take len)) (by
    unfold slD
    rw [h2]
    exact ⟨hn, rfl, hl, rfl, rfl⟩)
  have hd2 : AR Z' M w (.d (.lst es ((L.drop off).take len))) (a.tmps.getD t undef) := by unfold AR; exact hd
  refine ⟨Z', M, hz, R'.again ht hd2, ?_, fun _ _ => rfl, fun _ h => by cases h⟩
  unfold ARt at hvs ⊢
  exact hvs
end Go.Eng
namespace Go.Proofs.Ytlchakkdgkbabaa
open Go.Eng Go.RowKit
theorem sorted_giv (l : List Int) (hl : l.length ≤ 1000) : Giv Try.prog 19 [.lst 1 (li .i64 l)] (retV [.lst 1 (li .i64 (srK l l.length))]) := by
  have hll := li_length (k := .i64) (l := l)
  refine Giv.of mixed c19 (Nat.le_of_ble_eq_true rfl) ?_
  simp -dsimp -implicitDefEqProofs (disch := first | omega | (simp only [List.length_append, List.length_cons, List.length_nil, List.length_take, List.length_drop]; omega)) only [a19, ↓aPre, aPost, oneW, allOne, retV, retVA, simprocAttr]
  refine loop_of (fun s => ∃ k : Nat, k ≤ l.length ∧ s.tm 0 = .d (.lst 1 (li .i64 l)) ∧ s.tm 4 = .d (.c (.int .i64 k)) ∧ (s.tm 3 = .d (.lst 1 (li .i64 (srK l k))) ∨ (k = 0 ∧ s.tm 3 = .d (.c (.slice none 0 0))))) (fun s => l.length - (avN (s.tm 4)).toNat) ?_ ?_
  · refine ⟨0, Nat.zero_le _, ?_, ?_, .inr ⟨rfl, ?_⟩⟩
    all_goals
      simp -dsimp -implicitDefEqProofs (disch := first | omega | (simp only [List.length_append, List.length_cons, List.length_nil, List.length_take, List.length_drop]; omega)) only [Int.natCast_zero, ↓aPre, aPost, oneW, allOne, retV, retVA, simprocAttr]
  rintro s ⟨k, hk, h0, h4, h3⟩
  by_cases hlt : k < l.length
  · obtain ⟨z, hz⟩ : ∃ z, z = l.getD k 0 := ⟨_, rfl⟩
    have hzz := hz.symm
    have hsr : srK l (k + 1) = ins z (srK l k) := by rw [srK, ← hz]
    rcases h3 with h3 | ⟨rfl, h3⟩
    · have hL := srK_len l k
      obtain ⟨L, hLe⟩ : ∃ L, L = srK l k := ⟨_, rfl⟩
      rw [← hLe] at h3 hL hsr
      have hlL := li_length (k := .i64) (l := L)
      have hs : s.tm 0 = .d (.lst 1 (li .i64 l)) ∧ s.tm 4 = .d (.c (.int .i64 k)) ∧ s.tm 3 = .d (.lst 1 (li .i64 L)) := ⟨h0, h4, h3⟩
      simp -dsimp -implicitDefEqProofs (disch := first | omega | (simp only [List.length_append, List.length_cons, List.length_nil, List.length_take, List.length_drop]; omega)) only [hs, hll, hlL, ↓aPre, aPost, oneW, allOne, retV, retVA, simprocAttr]
      refine loop_of (fun s => ∃ j : Nat, j ≤ k ∧ plK z L j = plK z L k ∧ s.tm 0 = .d (.lst 1 (li .i64 l)) ∧ s.tm 4 = .d (.c (.int .i64 k)) ∧ s.tm 3 = .d (.lst 1 (li .i64 L)) ∧ s.tm 5 = .d (.c (.int .i64 j))) (fun s => (avN (s.tm 5)).toNat) ?_ ?_
      · refine ⟨k, Nat.le_refl _, rfl, ?_⟩
        simp -dsimp -implicitDefEqProofs (disch := first | omega | (simp only [List.length_append, List.length_cons, List.length_nil, List.length_take, List.length_drop]; omega)) only [hs, hL, ↓aPre, aPost, oneW, allOne, retV, retVA, simprocAttr]
      have hav : (avN (s.tm 4)).toNat = k := by rw [h4]; rfl
      clear hs h0 h3
      rintro s1 ⟨j, hj, hpl, hs⟩
      by_cases hgo : 0 < j ∧ L.getD (j - 1) 0 < z
      · obtain ⟨hj0, hlz⟩ := hgo
        obtain ⟨q, rfl⟩ : ∃ q, j = q + 1 := ⟨j - 1, by omega⟩
        rw [Nat.add_sub_cancel] at hlz
        obtain ⟨y, hy⟩ : ∃ y, y = L.getD q 0 := ⟨_, rfl⟩
        have hyy := hy.symm
        have hpq : plK z L q = plK z L k := by rw [← hpl, plK, if_pos hlz]
        rw [← hy] at hlz
        have e1 : ((q : Int) + 1 - 1).toNat = q := by omega
        have e2 : (q : Int) + 1 - 1 = (q : Int) := by omega
        simp -dsimp -implicitDefEqProofs (disch := first | omega | (simp only [List.length_append, List.length_cons, List.length_nil, List.length_take, List.length_drop]; omega)) only [hs, hll, hlL, hzz, hyy, e1, e2, ↓aPre, aPost, oneW, allOne, retV, retVA, simprocAttr]
        refine round_of ⟨q, by omega, hpq, ?_⟩ ?_
        · simp -dsimp -implicitDefEqProofs (disch := first | omega | (simp only [List.length_append, List.length_cons, List.length_nil, List.length_take, List.length_drop]; omega)) only [hs, e2, ↓aPre, aPost, oneW, allOne, retV, retVA, simprocAttr]
        · simp -dsimp -implicitDefEqProofs (disch := first | omega | (simp only [List.length_append, List.length_cons, List.length_nil, List.length_take, List.length_drop]; omega)) only [hs, e2, ↓aPre, aPost, oneW, allOne, retV, retVA, simprocAttr]
          omega
      · have hpj : plK z L L.length = j := by
          rw [hL, ← hpl]
          cases j with
          | zero => rfl
          | succ q =>
            rw [plK, if_neg]
            rw [Nat.add_sub_cancel] at hgo
            exact fun c => hgo ⟨by omega, c⟩
        have hsr2 : srK l (k + 1) = L.take j ++ [z] ++ L.drop j := by rw [hsr, ins, hpj]
        have hdl : (L.drop j).length = k - j := by rw [List.length_drop, hL]
        have htl : (L.take j).length = j := by rw [List.length_take, hL]; omega
        have ht1 : (L.drop j).take (k - j) = L.drop j := List.take_of_length_le (by omega)
        have hlD := li_length (k := .i64) (l := L.drop j)
        have hlT := li_length (k := .i64) (l := L.take j)
        have hres := srK_len l (k + 1)
        rw [hsr2] at hres
        have fin : ∀ s2 : St, s2.tm 0 = .d (.lst 1 (li .i64 l)) → s2.tm 4 = .d (.c (.int .i64 ((k + 1 : Nat) : Int))) → s2.tm 3 = .sl 40 1 0 (k + 1) → s2.hp 40 = some (.row 1 (li .i64 (L.take j ++ [z] ++ L.drop j))) → l.length - (avN (s2.tm 4)).toNat < l.length - k := fun s2 _ h _ _ => by rw [h]; show l.length - (k + 1) < _; omega
        have hll2 := li_length (k := .i64) (l := L.take j ++ [z] ++ L.drop j)
        have m1 : min j k = j := by omega
        have m2 : min (1 + (k - j)) (k - j + 1) = k - j + 1 := by omega
        have hlen : j + (k - j + 1) = k + 1 := by omega
        have lic : ∀ X : List Int, D.c (.int .i64 z) :: li .i64 X = li .i64 (z :: X) := fun _ => rfl
        have tk : (D.c (.int .i64 z) :: li .i64 (L.drop j)).take (1 + (k - j)) = D.c (.int .i64 z) :: li .i64 (L.drop j) := List.take_of_length_le (by rw [List.length_cons, hlD, hdl]; omega)
        by_cases hj0 : 0 < j
        · obtain ⟨q, hq⟩ : ∃ q, j = q + 1 := ⟨j - 1, by omega⟩
          rw [show j - 1 = q by omega] at hgo
          obtain ⟨y, hy⟩ : ∃ y, y = L.getD q 0 := ⟨_, rfl⟩
          have hyy := hy.symm
          have hlz : ¬ y < z := fun c => hgo ⟨by omega, by rw [← hy]; exact c⟩
          have e1 : ((j : Int) - 1).toNat = q := by omega
          simp -dsimp -implicitDefEqProofs (disch := first | omega | (simp only [List.length_append, List.length_cons, List.length_nil, List.length_take, List.length_drop]; omega)) only [hs, hll, hlL, hzz, hyy, e1, hlD, hlT, hdl, htl, ht1, hL, ↓aPre, aPost, oneW, allOne, retV, retVA, simprocAttr]
          refine round_gh (Gh.ice (t := 3) (n := 40) (es := 1) (off := 0) (len := k + 1) (L := li .i64 (L.take j ++ [z] ++ L.drop j)) (by simp -dsimp -implicitDefEqProofs (disch := first | omega | (simp only [List.length_append, List.length_cons, List.length_nil, List.length_take, List.length_drop]; omega)) only [hdl, htl, hlD, hlT, m1, m2, hlen, ↓aPre, aPost, oneW, allOne, retV, retVA, simprocAttr]) (by simp -dsimp -implicitDefEqProofs (disch := first | omega | (simp only [List.length_append, List.length_cons, List.length_nil, List.length_take, List.length_drop]; omega)) only [hdl, htl, hlD, hlT, tk, lic, List.append_assoc, ↓aPre, aPost, oneW, allOne, retV, retVA, simprocAttr]) (by decide) (by rw [hll2, hres, Nat.zero_add]; exact Nat.le_refl _)) ⟨k + 1, by omega, ?_, ?_, .inl ?_⟩ ?_
          · simp -dsimp -implicitDefEqProofs (disch := first | omega | (simp only [List.length_append, List.length_cons, List.length_nil, List.length_take, List.length_drop]; omega)) only [hs, ↓aPre, aPost, oneW, allOne, retV, retVA, simprocAttr]
          · simp -dsimp -implicitDefEqProofs (disch := first | omega | (simp only [List.length_append, List.length_cons, List.length_nil, List.length_take, List.length_drop]; omega)) only [hs, ↓aPre, aPost, oneW, allOne, retV, retVA, simprocAttr]
          · rw [hsr2]
            simp -dsimp -implicitDefEqProofs (disch := first | omega | (simp only [List.length_append, List.length_cons, List.length_nil, List.length_take, List.length_drop]; omega)) only [hres, hll2, ↓aPre, aPost, oneW, allOne, retV, retVA, simprocAttr]
          · simp -dsimp -implicitDefEqProofs (disch := first | omega | (simp only [List.length_append, List.length_cons, List.length_nil, List.length_take, List.length_drop]; omega)) only [hs, ↓aPre, aPost, oneW, allOne, retV, retVA, simprocAttr]
            omega
        · obtain rfl : j = 0 := by omega
          simp -dsimp -implicitDefEqProofs (disch := first | omega | (simp only [List.length_append, List.length_cons, List.length_nil, List.length_take, List.length_drop]; omega)) only [hs, hll, hlL, hzz, Int.natCast_zero, hlD, hlT, hdl, htl, ht1, hL, ↓aPre, aPost, oneW, allOne, retV, retVA, simprocAttr]
          refine round_gh (Gh.ice (t := 3) (n := 40) (es := 1) (off := 0) (len := k + 1) (L := li .i64 (L.take 0 ++ [z] ++ L.drop 0)) (by simp -dsimp -implicitDefEqProofs (disch := first | omega | (simp only [List.length_append, List.length_cons, List.length_nil, List.length_take, List.length_drop]; omega)) only [hdl, htl, hlD, hlT, m1, m2, hlen, ↓aPre, aPost, oneW, allOne, retV, retVA, simprocAttr]) (by simp -dsimp -implicitDefEqProofs (disch := first | omega | (simp only [List.length_append, List.length_cons, List.length_nil, List.length_take, List.length_drop]; omega)) only [hdl, htl, hlD, hlT, tk, lic, List.append_assoc, ↓aPre, aPost, oneW, allOne, retV, retVA, simprocAttr]) (by decide) (by rw [hll2, hres, Nat.zero_add]; exact Nat.le_refl _)) ⟨k + 1, by omega, ?_, ?_, .inl ?_⟩ ?_
          · simp -dsimp -implicitDefEqProofs (disch := first | omega | (simp only [List.length_append, List.length_cons, List.length_nil, List.length_take, List.length_drop]; omega)) only [hs, ↓aPre, aPost, oneW, allOne, retV, retVA, simprocAttr]
          · simp -dsimp -implicitDefEqProofs (disch := first | omega | (simp only [List.length_append, List.length_cons, List.length_nil, List.length_take, List.length_drop]; omega)) only [hs, ↓aPre, aPost, oneW, allOne, retV, retVA, simprocAttr]
          · rw [hsr2]
            simp -dsimp -implicitDefEqProofs (disch := first | omega | (simp only [List.length_append, List.length_cons, List.length_nil, List.length_take, List.length_drop]; omega)) only [hres, hll2, ↓aPre, aPost, oneW, allOne, retV, retVA, simprocAttr]
          · simp -dsimp -implicitDefEqProofs (disch := first | omega | (simp only [List.length_append, List.length_cons, List.length_nil, List.length_take, List.length_drop]; omega)) only [hs, ↓aPre, aPost, oneW, allOne, retV, retVA, simprocAttr]
            omega
    · have hs : s.tm 0 = .d (.lst 1 (li .i64 l)) ∧ s.tm 4 = .d (.c (.int .i64 (0 : Nat))) ∧ s.tm 3 = .d (.c (.slice none 0 0)) := ⟨h0, h4, h3⟩
      have hav : (avN (s.tm 4)).toNat = 0 := by rw [h4]; rfl
      have hsr2 : srK l 1 = [z] := by rw [hsr]; rfl
      clear h0 h3
      simp -dsimp -implicitDefEqProofs (disch := first | omega | (simp only [List.length_append, List.length_cons, List.length_nil, List.length_take, List.length_drop]; omega)) only [hs, hll, Int.natCast_zero, ↓aPre, aPost, oneW, allOne, retV, retVA, simprocAttr]
      refine loop_of (fun s => s.tm 0 = .d (.lst 1 (li .i64 l)) ∧ s.tm 4 = .d (.c (.int .i64 0)) ∧ s.tm 3 = .d (.c (.slice none 0 0)) ∧ s.tm 5 = .d (.c (.int .i64 0))) (fun s => 0) ?_ ?_
      · simp -dsimp -implicitDefEqProofs (disch := first | omega | (simp only [List.length_append, List.length_cons, List.length_nil, List.length_take, List.length_drop]; omega)) only [hs, Int.natCast_zero, ↓aPre, aPost, oneW, allOne, retV, retVA, simprocAttr]
      clear hs
      intro s1 hs
      simp -dsimp -implicitDefEqProofs (disch := first | omega | (simp only [List.length_append, List.length_cons, List.length_nil, List.length_take, List.length_drop]; omega)) only [hs, hll, hzz, ↓aPre, aPost, oneW, allOne, retV, retVA, simprocAttr]
      refine round_gh (Gh.ice (t := 3) (n := 40) (es := 1) (off := 0) (len := 1) (L := li .i64 [z]) (by simp -dsimp -implicitDefEqProofs (disch := first | omega | (simp only [List.length_append, List.length_cons, List.length_nil, List.length_take, List.length_drop]; omega)) only [↓aPre, aPost, oneW, allOne, retV, retVA, simprocAttr]) (by simp -dsimp -implicitDefEqProofs (disch := first | omega | (simp only [List.length_append, List.length_cons, List.length_nil, List.length_take, List.length_drop]; omega)) only [↓aPre, aPost, oneW, allOne, retV, retVA, simprocAttr]; rfl) (by decide) (Nat.le_refl _)) ⟨1, by omega, ?_, ?_, .inl ?_⟩ ?_
      · simp -dsimp -implicitDefEqProofs (disch := first | omega | (simp only [List.length_append, List.length_cons, List.length_nil, List.length_take, List.length_drop]; omega)) only [hs, ↓aPre, aPost, oneW, allOne, retV, retVA, simprocAttr]
      · simp -dsimp -implicitDefEqProofs (disch := first | omega | (simp only [List.length_append, List.length_cons, List.length_nil, List.length_take, List.length_drop]; omega)) only [hs, Int.natCast_one, ↓aPre, aPost, oneW, allOne, retV, retVA, simprocAttr]
      · rw [hsr2]
        simp -dsimp -implicitDefEqProofs (disch := first | omega | (simp only [List.length_append, List.length_cons, List.length_nil, List.length_take, List.length_drop]; omega)) only [↓aPre, aPost, oneW, allOne, retV, retVA, simprocAttr]
      · simp -dsimp -implicitDefEqProofs (disch := first | omega | (simp only [List.length_append, List.length_cons, List.length_nil, List.length_take, List.length_drop]; omega)) only [hs, ↓aPre, aPost, oneW, allOne, retV, retVA, simprocAttr]
        omega
  · obtain rfl : k = l.length := by omega
    rcases h3 with h3 | ⟨he, h3⟩
    · have hs : s.tm 0 = .d (.lst 1 (li .i64 l)) ∧ s.tm 4 = .d (.c (.int .i64 l.length)) ∧ s.tm 3 = .d (.lst 1 (li .i64 (srK l l.length))) := ⟨h0, h4, h3⟩
      simp -dsimp -implicitDefEqProofs (disch := first | omega | (simp only [List.length_append, List.length_cons, List.length_nil, List.length_take, List.length_drop]; omega)) only [hs, hll, ↓aPre, aPost, oneW, allOne, retV, retVA, simprocAttr]
      exact post_eq rfl
    · have hs : s.tm 0 = .d (.lst 1 (li .i64 l)) ∧ s.tm 4 = .d (.c (.int .i64 l.length)) ∧ s.tm 3 = .d (.c (.slice none 0 0)) := ⟨h0, h4, h3⟩
      rw [show srK l l.length = [] by rw [he]; rfl]
      simp -dsimp -implicitDefEqProofs (disch := first | omega | (simp only [List.length_append, List.length_cons, List.length_nil, List.length_take, List.length_drop]; omega)) only [hs, hll, ↓aPre, aPost, oneW, allOne, retV, retVA, simprocAttr]
      exact post_le (by repeat (first | exact leD.nil | exact leE.refl _ | exact leE.nil _ | refine leD.cons ?_ ?_ | refine leE.agg ?_))
end Go.Proofs.Ytlchakkdgkbabaa

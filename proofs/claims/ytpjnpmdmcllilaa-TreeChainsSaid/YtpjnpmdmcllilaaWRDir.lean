/- A directory, read by the reference. No condition but what each says. -/
import Derived.Test.YtpjnpmdmcllilaaWDir
set_option linter.unusedSimpArgs false
set_option linter.unusedVariables false
set_option maxRecDepth 8000
set_option maxHeartbeats 4000000
namespace Go.Proofs.Ytpjnpmdmcllilaa
open Go.Eng Go.RowKit
theorem rreadS_giv (b : List Int) (big : Bool) (first : Int) (at_ : Nat) (hl : b.length ≤ 100000) (hB : Bytes b) (ha : at_ < 18446744073709551616) :
    Giv Try.prog 12 [.c (.string (strOfNums b)), hD big false first, .c (.int .u64 at_)] (retV (dirE (dirS b big false at_))) := by
  have hct : ct false = 2 := rfl
  have hen : en false = 12 := rfl
  have hwd : wd false = 4 := rfl
  unfold dirS
  rw [hct, hen, hwd]
  have hsz := rwide_giv false
  by_cases h1 : b.length < at_ + 2
  · rw [if_pos h1]
    have hg := rget_f b at_ 2 big (.inr (.inl rfl)) (by omega) h1 ha
    refine Giv.of mixed c12 (Nat.le_of_ble_eq_true rfl) ?_
    simp -dsimp -implicitDefEqProofs (disch := first | omega | (simp only [List.length_append, List.length_cons, List.length_nil, List.length_take, List.length_drop]; omega)) only [a12, hD, dirE, dirD, ↓aPre, aPost, oneW, allOne, retV, retVA, simprocAttr]
    refine call_giv hsz ?_
    simp -dsimp -implicitDefEqProofs (disch := first | omega | (simp only [List.length_append, List.length_cons, List.length_nil, List.length_take, List.length_drop]; omega)) only [↓aPre, aPost, oneW, allOne, retV, retVA, simprocAttr]
    refine call_giv hg ?_
    simp -dsimp -implicitDefEqProofs (disch := first | omega | (simp only [List.length_append, List.length_cons, List.length_nil, List.length_take, List.length_drop]; omega)) only [↓aPre, aPost, oneW, allOne, retV, retVA, simprocAttr]
    exact post_le (by repeat (first | exact leD.nil | exact leE.refl _ | exact leE.nil _ | refine leD.cons ?_ ?_ | refine leE.agg ?_))
  rw [if_neg h1]
  have hg := rget_t b at_ 2 big (.inr (.inl rfl)) (by omega) hB (by omega)
  have hnb := gk_b hB at_ 2 big (by decide)
  obtain ⟨n, hn⟩ : ∃ n : Nat, (n : Int) = gk b at_ 2 big := ⟨(gk b at_ 2 big).toNat, by omega⟩
  rw [← hn] at hg ⊢
  by_cases h2 : (n : Int) > 64
  · rw [if_pos h2]
    refine Giv.of mixed c12 (Nat.le_of_ble_eq_true rfl) ?_
    simp -dsimp -implicitDefEqProofs (disch := first | omega | (simp only [List.length_append, List.length_cons, List.length_nil, List.length_take, List.length_drop]; omega)) only [a12, hD, dirE, dirD, ↓aPre, aPost, oneW, allOne, retV, retVA, simprocAttr]
    refine call_giv hsz ?_
    simp -dsimp -implicitDefEqProofs (disch := first | omega | (simp only [List.length_append, List.length_cons, List.length_nil, List.length_take, List.length_drop]; omega)) only [↓aPre, aPost, oneW, allOne, retV, retVA, simprocAttr]
    refine call_giv hg ?_
    simp -dsimp -implicitDefEqProofs (disch := first | omega | (simp only [List.length_append, List.length_cons, List.length_nil, List.length_take, List.length_drop]; omega)) only [h2, ↓aPre, aPost, oneW, allOne, retV, retVA, simprocAttr]
    exact post_le (by repeat (first | exact leD.nil | exact leE.refl _ | exact leE.nil _ | refine leD.cons ?_ ?_ | refine leE.agg ?_))
  rw [if_neg h2, Int.toNat_natCast]
  obtain ⟨S, hS⟩ : ∃ S, S = rdS b big false n (at_ + 2) (-1) [] := ⟨_, rfl⟩
  rw [← hS]
  refine Giv.of mixed c12 (Nat.le_of_ble_eq_true rfl) ?_
  simp -dsimp -implicitDefEqProofs (disch := first | omega | (simp only [List.length_append, List.length_cons, List.length_nil, List.length_take, List.length_drop]; omega)) only [a12, hD, ↓aPre, aPost, oneW, allOne, retV, retVA, simprocAttr]
  refine call_giv hsz ?_
  simp -dsimp -implicitDefEqProofs (disch := first | omega | (simp only [List.length_append, List.length_cons, List.length_nil, List.length_take, List.length_drop]; omega)) only [↓aPre, aPost, oneW, allOne, retV, retVA, simprocAttr]
  refine call_giv hg ?_
  simp -dsimp -implicitDefEqProofs (disch := first | omega | (simp only [List.length_append, List.length_cons, List.length_nil, List.length_take, List.length_drop]; omega)) only [h2, ↓aPre, aPost, oneW, allOne, retV, retVA, simprocAttr]
  refine loop_nilB 14 2 100 3 [.d (.c (.int .u64 at_)), .d (.c (.int .u64 0)), .d (.c (.slice none 0 0))] (fun s => ∃ (i p : Nat) (was : Int) (acc : List Fld), i ≤ n ∧ p = at_ + 2 + i * 12 ∧ S = rdS b big false (n - i) p was acc ∧ acc.length ≤ i ∧ (-1 ≤ was ∧ was < 65536) ∧ p ≤ b.length ∧ s.tm 17 = .d (.c (.int .i64 i)) ∧ s.tm 12 = .d (.c (.int .u64 n)) ∧ s.tm 0 = .d (.c (.string (strOfNums b))) ∧ s.tm 4 = .ptr 4 0 ∧ s.hp 4 = some (.box [.d (.c (.bool big)), .d (.c (.bool false)), .d (.c (.int .u64 first))]) ∧ s.tm 6 = .ptr 6 0 ∧ s.hp 6 = some (.box [.d (.c (.int .u64 0)), .d (.c (.int .u64 0)), .d (.c (.slice none 0 0))]) ∧ s.tm 8 = .ptr 8 0 ∧ s.hp 8 = some (.box [.d (.c (.int .u64 0)), .d (.c (.int .u64 0)), .d (.c (.slice none 0 0))]) ∧ s.tm 10 = .d (.c (.int .i64 12)) ∧ s.tm 11 = .d (.c (.int .i64 4)) ∧ s.tm 15 = .d (.c (.int .u64 p)) ∧ s.tm 16 = .d (.c (.int .i64 was)) ∧ s.tm 14 = .ptr 14 0 ∧ s.hp 14 = some (.box [.d (.c (.int .u64 at_)), .d (.c (.int .u64 0)), .sl 100 3 0 acc.length]) ∧ s.hp 100 = some (.row 3 (acc.map fldD))) (fun s => n - (avN (s.tm 17)).toNat) ?_ rfl (by decide) (by decide) ?_ ?_
  · simp -dsimp -implicitDefEqProofs (disch := first | omega | (simp only [List.length_append, List.length_cons, List.length_nil, List.length_take, List.length_drop]; omega)) only [↓aPre, aPost, oneW, allOne, retV, retVA, simprocAttr]
  · refine ⟨0, at_ + 2, -1, [], Nat.zero_le _, by omega, by rw [hS, Nat.sub_zero], Nat.le_refl _, by decide, by omega, ?_⟩
    simp -dsimp -implicitDefEqProofs (disch := first | omega | (simp only [List.length_append, List.length_cons, List.length_nil, List.length_take, List.length_drop]; omega)) only [Int.natCast_zero, ↓aPre, aPost, oneW, allOne, retV, retVA, simprocAttr]
    rfl
  rintro s ⟨i, p, was, acc, hi, hp, hSi, hacc, hwas, hpl, hs⟩
  by_cases hlt : i < n
  · rw [show n - i = (n - (i + 1)) + 1 by omega, rdS, hen] at hSi
    by_cases hw : b.length < p + 12
    · rw [if_pos hw] at hSi
      have hwin := rwin_f b p 12 (by omega) hw (by omega) (by decide)
      simp -dsimp -implicitDefEqProofs (disch := first | omega | (simp only [List.length_append, List.length_cons, List.length_nil, List.length_take, List.length_drop]; omega)) only [hs, ↓aPre, aPost, oneW, allOne, retV, retVA, simprocAttr]
      refine call_giv hwin ?_
      simp -dsimp -implicitDefEqProofs (disch := first | omega | (simp only [List.length_append, List.length_cons, List.length_nil, List.length_take, List.length_drop]; omega)) only [hs, ↓aPre, aPost, oneW, allOne, retV, retVA, simprocAttr]
      rw [hSi]
      exact post_le (by
        rw [if_pos (by decide)]
        repeat (first | exact leD.nil | exact leE.refl _ | exact leE.nil _ | refine leD.cons ?_ ?_ | refine leE.agg ?_))
    rw [if_neg hw] at hSi
    have hwin := rwin_t b p 12 (by omega) (by omega)
    obtain ⟨w, hwe⟩ : ∃ w, w = (b.drop p).take 12 := ⟨_, rfl⟩
    have hwl : w.length = 12 := by rw [hwe, List.length_take, List.length_drop]; omega
    have hwB : Bytes w := by rw [hwe]; exact (hB.drop _).take _
    rw [← hwe] at hwin hSi
    have gt := number_giv (w.take 2) big (by rw [List.length_take]; omega) (hwB.take _)
    rw [show (w.take 2).length = 2 by rw [List.length_take]; omega, show gvK (w.take 2) big 2 = gk w 0 2 big from rfl] at gt
    have gtb := gk_2 hwB 0 big
    have hf := entry_giv b w big false first hl hB (by rw [hwl, hwd]) hwB
    rw [hwd] at hf
    obtain ⟨t, ht⟩ : ∃ t, t = gk w 0 2 big := ⟨_, rfl⟩
    rw [← ht] at gt gtb hSi
    by_cases hle : t ≤ was
    · rw [if_pos hle] at hSi
      simp -dsimp -implicitDefEqProofs (disch := first | omega | (simp only [List.length_append, List.length_cons, List.length_nil, List.length_take, List.length_drop]; omega)) only [hs, ↓aPre, aPost, oneW, allOne, retV, retVA, simprocAttr]
      refine call_giv hwin ?_
      simp -dsimp -implicitDefEqProofs (disch := first | omega | (simp only [List.length_append, List.length_cons, List.length_nil, List.length_take, List.length_drop]; omega)) only [hs, hwl, ↓aPre, aPost, oneW, allOne, retV, retVA, simprocAttr]
      refine call_giv gt ?_
      simp -dsimp -implicitDefEqProofs (disch := first | omega | (simp only [List.length_append, List.length_cons, List.length_nil, List.length_take, List.length_drop]; omega)) only [hs, hle, ↓aPre, aPost, oneW, allOne, retV, retVA, simprocAttr]
      rw [hSi]
      exact post_le (by
        rw [if_pos (by decide)]
        repeat (first | exact leD.nil | exact leE.refl _ | exact leE.nil _ | refine leD.cons ?_ ?_ | refine leE.agg ?_))
    rw [if_neg hle] at hSi
    rcases ent_some (b := b) (w := w) (big := big) (large := false) with ⟨f, hfe⟩ | ⟨e, hfe⟩
    · rw [hfe] at hSi hf
      rw [if_neg (fun h => h rfl)] at hSi
      have hms := map_snoc acc f
      have hml : (acc.map fldD).length = acc.length := by simp
      have hl1 : (acc ++ [f]).length = acc.length + 1 := by simp
      simp -dsimp -implicitDefEqProofs (disch := first | omega | (simp only [List.length_append, List.length_cons, List.length_nil, List.length_take, List.length_drop]; omega)) only [hs, ↓aPre, aPost, oneW, allOne, retV, retVA, simprocAttr]
      refine call_giv hwin ?_
      simp -dsimp -implicitDefEqProofs (disch := first | omega | (simp only [List.length_append, List.length_cons, List.length_nil, List.length_take, List.length_drop]; omega)) only [hs, hwl, ↓aPre, aPost, oneW, allOne, retV, retVA, simprocAttr]
      refine call_giv gt ?_
      simp -dsimp -implicitDefEqProofs (disch := first | omega | (simp only [List.length_append, List.length_cons, List.length_nil, List.length_take, List.length_drop]; omega)) only [hs, hle, ↓aPre, aPost, oneW, allOne, retV, retVA, simprocAttr]
      refine call_giv hf ?_
      simp -dsimp -implicitDefEqProofs (disch := first | omega | (simp only [List.length_append, List.length_cons, List.length_nil, List.length_take, List.length_drop]; omega)) only [hs, entD, fldD, hml, ↓aPre, aPost, oneW, allOne, retV, retVA, simprocAttr]
      refine round_of ⟨i + 1, p + 12, t, acc ++ [f], by omega, by omega, by rw [hSi]; rfl, by rw [hl1]; omega, by omega, by omega, ?_⟩ ?_
      · simp -dsimp -implicitDefEqProofs (disch := first | omega | (simp only [List.length_append, List.length_cons, List.length_nil, List.length_take, List.length_drop]; omega)) only [hs, hms, hl1, fldD, hml, ↓aPre, aPost, oneW, allOne, retV, retVA, simprocAttr]
      · simp -dsimp -implicitDefEqProofs (disch := first | omega | (simp only [List.length_append, List.length_cons, List.length_nil, List.length_take, List.length_drop]; omega)) only [hs, ↓aPre, aPost, oneW, allOne, retV, retVA, simprocAttr]
        omega
    · rw [hfe] at hSi hf
      by_cases he : e = 0
      · subst he
        rw [if_neg (fun h => h rfl)] at hSi
        simp -dsimp -implicitDefEqProofs (disch := first | omega | (simp only [List.length_append, List.length_cons, List.length_nil, List.length_take, List.length_drop]; omega)) only [hs, ↓aPre, aPost, oneW, allOne, retV, retVA, simprocAttr]
        refine call_giv hwin ?_
        simp -dsimp -implicitDefEqProofs (disch := first | omega | (simp only [List.length_append, List.length_cons, List.length_nil, List.length_take, List.length_drop]; omega)) only [hs, hwl, ↓aPre, aPost, oneW, allOne, retV, retVA, simprocAttr]
        refine call_giv gt ?_
        simp -dsimp -implicitDefEqProofs (disch := first | omega | (simp only [List.length_append, List.length_cons, List.length_nil, List.length_take, List.length_drop]; omega)) only [hs, hle, ↓aPre, aPost, oneW, allOne, retV, retVA, simprocAttr]
        refine call_giv hf ?_
        simp -dsimp -implicitDefEqProofs (disch := first | omega | (simp only [List.length_append, List.length_cons, List.length_nil, List.length_take, List.length_drop]; omega)) only [hs, entD, fld0, ↓aPre, aPost, oneW, allOne, retV, retVA, simprocAttr]
        refine round_of ⟨i + 1, p + 12, t, acc, by omega, by omega, by rw [hSi, Option.toList, List.append_nil], by omega, by omega, by omega, ?_⟩ ?_
        · simp -dsimp -implicitDefEqProofs (disch := first | omega | (simp only [List.length_append, List.length_cons, List.length_nil, List.length_take, List.length_drop]; omega)) only [hs, ↓aPre, aPost, oneW, allOne, retV, retVA, simprocAttr]
        · simp -dsimp -implicitDefEqProofs (disch := first | omega | (simp only [List.length_append, List.length_cons, List.length_nil, List.length_take, List.length_drop]; omega)) only [hs, ↓aPre, aPost, oneW, allOne, retV, retVA, simprocAttr]
          omega
      · rw [if_pos he] at hSi
        have he' := ibne_t he
        simp -dsimp -implicitDefEqProofs (disch := first | omega | (simp only [List.length_append, List.length_cons, List.length_nil, List.length_take, List.length_drop]; omega)) only [hs, ↓aPre, aPost, oneW, allOne, retV, retVA, simprocAttr]
        refine call_giv hwin ?_
        simp -dsimp -implicitDefEqProofs (disch := first | omega | (simp only [List.length_append, List.length_cons, List.length_nil, List.length_take, List.length_drop]; omega)) only [hs, hwl, ↓aPre, aPost, oneW, allOne, retV, retVA, simprocAttr]
        refine call_giv gt ?_
        simp -dsimp -implicitDefEqProofs (disch := first | omega | (simp only [List.length_append, List.length_cons, List.length_nil, List.length_take, List.length_drop]; omega)) only [hs, hle, ↓aPre, aPost, oneW, allOne, retV, retVA, simprocAttr]
        refine call_giv hf ?_
        simp -dsimp -implicitDefEqProofs (disch := first | omega | (simp only [List.length_append, List.length_cons, List.length_nil, List.length_take, List.length_drop]; omega)) only [hs, entD, fld0, he', ↓aPre, aPost, oneW, allOne, retV, retVA, simprocAttr]
        rw [hSi]
        exact post_le (by
          rw [if_pos he]
          repeat (first | exact leD.nil | exact leE.refl _ | exact leE.nil _ | refine leD.cons ?_ ?_ | refine leE.agg ?_))
  · obtain rfl : i = n := by omega
    rw [Nat.sub_self, rdS] at hSi
    rw [hSi]
    rw [if_neg (fun h => h rfl)]
    by_cases h3 : b.length < p + 4
    · have hq := rget_f b p 4 big (.inr (.inr (.inl rfl))) (by omega) h3 (by omega)
      rw [← hp, if_pos h3]
      simp -dsimp -implicitDefEqProofs (disch := first | omega | (simp only [List.length_append, List.length_cons, List.length_nil, List.length_take, List.length_drop]; omega)) only [hs, ↓aPre, aPost, oneW, allOne, retV, retVA, simprocAttr]
      refine call_giv hq ?_
      simp -dsimp -implicitDefEqProofs (disch := first | omega | (simp only [List.length_append, List.length_cons, List.length_nil, List.length_take, List.length_drop]; omega)) only [hs, ↓aPre, aPost, oneW, allOne, retV, retVA, simprocAttr]
      exact post_le (by repeat (first | exact leD.nil | exact leE.refl _ | exact leE.nil _ | refine leD.cons ?_ ?_ | refine leE.agg ?_))
    · have hq := rget_t b p 4 big (.inr (.inr (.inl rfl))) (by omega) hB (by omega)
      have hml : (acc.map fldD).length = acc.length := by simp
      have htk : (acc.map fldD).take acc.length = acc.map fldD := take_all (by rw [hml]; exact Nat.le_refl _)
      rw [← hp, if_neg h3]
      simp -dsimp -implicitDefEqProofs (disch := first | omega | (simp only [List.length_append, List.length_cons, List.length_nil, List.length_take, List.length_drop]; omega)) only [hs, ↓aPre, aPost, oneW, allOne, retV, retVA, simprocAttr]
      refine call_giv hq ?_
      simp -dsimp -implicitDefEqProofs (disch := first | omega | (simp only [List.length_append, List.length_cons, List.length_nil, List.length_take, List.length_drop]; omega)) only [hs, hml, htk, ↓aPre, aPost, oneW, allOne, retV, retVA, simprocAttr]
      exact post_eq rfl
theorem rreadL_giv (b : List Int) (big : Bool) (first : Int) (at_ : Nat) (hl : b.length ≤ 100000) (hB : Bytes b) (ha : at_ < 18446744073709551616) :
    Giv Try.prog 12 [.c (.string (strOfNums b)), hD big true first, .c (.int .u64 at_)] (retV (dirE (dirS b big true at_))) := by
  have hct : ct true = 8 := rfl
  have hen : en true = 20 := rfl
  have hwd : wd true = 8 := rfl
  unfold dirS
  rw [hct, hen, hwd]
  have hsz := rwide_giv true
  by_cases h1 : b.length < at_ + 8
  · rw [if_pos h1]
    have hg := rget_f b at_ 8 big (.inr (.inr (.inr rfl))) (by omega) h1 ha
    refine Giv.of mixed c12 (Nat.le_of_ble_eq_true rfl) ?_
    simp -dsimp -implicitDefEqProofs (disch := first | omega | (simp only [List.length_append, List.length_cons, List.length_nil, List.length_take, List.length_drop]; omega)) only [a12, hD, dirE, dirD, ↓aPre, aPost, oneW, allOne, retV, retVA, simprocAttr]
    refine call_giv hsz ?_
    simp -dsimp -implicitDefEqProofs (disch := first | omega | (simp only [List.length_append, List.length_cons, List.length_nil, List.length_take, List.length_drop]; omega)) only [↓aPre, aPost, oneW, allOne, retV, retVA, simprocAttr]
    refine call_giv hg ?_
    simp -dsimp -implicitDefEqProofs (disch := first | omega | (simp only [List.length_append, List.length_cons, List.length_nil, List.length_take, List.length_drop]; omega)) only [↓aPre, aPost, oneW, allOne, retV, retVA, simprocAttr]
    exact post_le (by repeat (first | exact leD.nil | exact leE.refl _ | exact leE.nil _ | refine leD.cons ?_ ?_ | refine leE.agg ?_))
  rw [if_neg h1]
  have hg := rget_t b at_ 8 big (.inr (.inr (.inr rfl))) (by omega) hB (by omega)
  have hnb := gk_b hB at_ 8 big (by decide)
  obtain ⟨n, hn⟩ : ∃ n : Nat, (n : Int) = gk b at_ 8 big := ⟨(gk b at_ 8 big).toNat, by omega⟩
  rw [← hn] at hg ⊢
  by_cases h2 : (n : Int) > 64
  · rw [if_pos h2]
    refine Giv.of mixed c12 (Nat.le_of_ble_eq_true rfl) ?_
    simp -dsimp -implicitDefEqProofs (disch := first | omega | (simp only [List.length_append, List.length_cons, List.length_nil, List.length_take, List.length_drop]; omega)) only [a12, hD, dirE, dirD, ↓aPre, aPost, oneW, allOne, retV, retVA, simprocAttr]
    refine call_giv hsz ?_
    simp -dsimp -implicitDefEqProofs (disch := first | omega | (simp only [List.length_append, List.length_cons, List.length_nil, List.length_take, List.length_drop]; omega)) only [↓aPre, aPost, oneW, allOne, retV, retVA, simprocAttr]
    refine call_giv hg ?_
    simp -dsimp -implicitDefEqProofs (disch := first | omega | (simp only [List.length_append, List.length_cons, List.length_nil, List.length_take, List.length_drop]; omega)) only [h2, ↓aPre, aPost, oneW, allOne, retV, retVA, simprocAttr]
    exact post_le (by repeat (first | exact leD.nil | exact leE.refl _ | exact leE.nil _ | refine leD.cons ?_ ?_ | refine leE.agg ?_))
  rw [if_neg h2, Int.toNat_natCast]
  obtain ⟨S, hS⟩ : ∃ S, S = rdS b big true n (at_ + 8) (-1) [] := ⟨_, rfl⟩
  rw [← hS]
  refine Giv.of mixed c12 (Nat.le_of_ble_eq_true rfl) ?_
  simp -dsimp -implicitDefEqProofs (disch := first | omega | (simp only [List.length_append, List.length_cons, List.length_nil, List.length_take, List.length_drop]; omega)) only [a12, hD, ↓aPre, aPost, oneW, allOne, retV, retVA, simprocAttr]
  refine call_giv hsz ?_
  simp -dsimp -implicitDefEqProofs (disch := first | omega | (simp only [List.length_append, List.length_cons, List.length_nil, List.length_take, List.length_drop]; omega)) only [↓aPre, aPost, oneW, allOne, retV, retVA, simprocAttr]
  refine call_giv hg ?_
  simp -dsimp -implicitDefEqProofs (disch := first | omega | (simp only [List.length_append, List.length_cons, List.length_nil, List.length_take, List.length_drop]; omega)) only [h2, ↓aPre, aPost, oneW, allOne, retV, retVA, simprocAttr]
  refine loop_nilB 14 2 100 3 [.d (.c (.int .u64 at_)), .d (.c (.int .u64 0)), .d (.c (.slice none 0 0))] (fun s => ∃ (i p : Nat) (was : Int) (acc : List Fld), i ≤ n ∧ p = at_ + 8 + i * 20 ∧ S = rdS b big true (n - i) p was acc ∧ acc.length ≤ i ∧ (-1 ≤ was ∧ was < 65536) ∧ p ≤ b.length ∧ s.tm 17 = .d (.c (.int .i64 i)) ∧ s.tm 12 = .d (.c (.int .u64 n)) ∧ s.tm 0 = .d (.c (.string (strOfNums b))) ∧ s.tm 4 = .ptr 4 0 ∧ s.hp 4 = some (.box [.d (.c (.bool big)), .d (.c (.bool true)), .d (.c (.int .u64 first))]) ∧ s.tm 6 = .ptr 6 0 ∧ s.hp 6 = some (.box [.d (.c (.int .u64 0)), .d (.c (.int .u64 0)), .d (.c (.slice none 0 0))]) ∧ s.tm 8 = .ptr 8 0 ∧ s.hp 8 = some (.box [.d (.c (.int .u64 0)), .d (.c (.int .u64 0)), .d (.c (.slice none 0 0))]) ∧ s.tm 10 = .d (.c (.int .i64 20)) ∧ s.tm 11 = .d (.c (.int .i64 8)) ∧ s.tm 15 = .d (.c (.int .u64 p)) ∧ s.tm 16 = .d (.c (.int .i64 was)) ∧ s.tm 14 = .ptr 14 0 ∧ s.hp 14 = some (.box [.d (.c (.int .u64 at_)), .d (.c (.int .u64 0)), .sl 100 3 0 acc.length]) ∧ s.hp 100 = some (.row 3 (acc.map fldD))) (fun s => n - (avN (s.tm 17)).toNat) ?_ rfl (by decide) (by decide) ?_ ?_
  · simp -dsimp -implicitDefEqProofs (disch := first | omega | (simp only [List.length_append, List.length_cons, List.length_nil, List.length_take, List.length_drop]; omega)) only [↓aPre, aPost, oneW, allOne, retV, retVA, simprocAttr]
  · refine ⟨0, at_ + 8, -1, [], Nat.zero_le _, by omega, by rw [hS, Nat.sub_zero], Nat.le_refl _, by decide, by omega, ?_⟩
    simp -dsimp -implicitDefEqProofs (disch := first | omega | (simp only [List.length_append, List.length_cons, List.length_nil, List.length_take, List.length_drop]; omega)) only [Int.natCast_zero, ↓aPre, aPost, oneW, allOne, retV, retVA, simprocAttr]
    rfl
  rintro s ⟨i, p, was, acc, hi, hp, hSi, hacc, hwas, hpl, hs⟩
  by_cases hlt : i < n
  · rw [show n - i = (n - (i + 1)) + 1 by omega, rdS, hen] at hSi
    by_cases hw : b.length < p + 20
    · rw [if_pos hw] at hSi
      have hwin := rwin_f b p 20 (by omega) hw (by omega) (by decide)
      simp -dsimp -implicitDefEqProofs (disch := first | omega | (simp only [List.length_append, List.length_cons, List.length_nil, List.length_take, List.length_drop]; omega)) only [hs, ↓aPre, aPost, oneW, allOne, retV, retVA, simprocAttr]
      refine call_giv hwin ?_
      simp -dsimp -implicitDefEqProofs (disch := first | omega | (simp only [List.length_append, List.length_cons, List.length_nil, List.length_take, List.length_drop]; omega)) only [hs, ↓aPre, aPost, oneW, allOne, retV, retVA, simprocAttr]
      rw [hSi]
      exact post_le (by
        rw [if_pos (by decide)]
        repeat (first | exact leD.nil | exact leE.refl _ | exact leE.nil _ | refine leD.cons ?_ ?_ | refine leE.agg ?_))
    rw [if_neg hw] at hSi
    have hwin := rwin_t b p 20 (by omega) (by omega)
    obtain ⟨w, hwe⟩ : ∃ w, w = (b.drop p).take 20 := ⟨_, rfl⟩
    have hwl : w.length = 20 := by rw [hwe, List.length_take, List.length_drop]; omega
    have hwB : Bytes w := by rw [hwe]; exact (hB.drop _).take _
    rw [← hwe] at hwin hSi
    have gt := number_giv (w.take 2) big (by rw [List.length_take]; omega) (hwB.take _)
    rw [show (w.take 2).length = 2 by rw [List.length_take]; omega, show gvK (w.take 2) big 2 = gk w 0 2 big from rfl] at gt
    have gtb := gk_2 hwB 0 big
    have hf := entry_giv b w big true first hl hB (by rw [hwl, hwd]) hwB
    rw [hwd] at hf
    obtain ⟨t, ht⟩ : ∃ t, t = gk w 0 2 big := ⟨_, rfl⟩
    rw [← ht] at gt gtb hSi
    by_cases hle : t ≤ was
    · rw [if_pos hle] at hSi
      simp -dsimp -implicitDefEqProofs (disch := first | omega | (simp only [List.length_append, List.length_cons, List.length_nil, List.length_take, List.length_drop]; omega)) only [hs, ↓aPre, aPost, oneW, allOne, retV, retVA, simprocAttr]
      refine call_giv hwin ?_
      simp -dsimp -implicitDefEqProofs (disch := first | omega | (simp only [List.length_append, List.length_cons, List.length_nil, List.length_take, List.length_drop]; omega)) only [hs, hwl, ↓aPre, aPost, oneW, allOne, retV, retVA, simprocAttr]
      refine call_giv gt ?_
      simp -dsimp -implicitDefEqProofs (disch := first | omega | (simp only [List.length_append, List.length_cons, List.length_nil, List.length_take, List.length_drop]; omega)) only [hs, hle, ↓aPre, aPost, oneW, allOne, retV, retVA, simprocAttr]
      rw [hSi]
      exact post_le (by
        rw [if_pos (by decide)]
        repeat (first | exact leD.nil | exact leE.refl _ | exact leE.nil _ | refine leD.cons ?_ ?_ | refine leE.agg ?_))
    rw [if_neg hle] at hSi
    rcases ent_some (b := b) (w := w) (big := big) (large := true) with ⟨f, hfe⟩ | ⟨e, hfe⟩
    · rw [hfe] at hSi hf
      rw [if_neg (fun h => h rfl)] at hSi
      have hms := map_snoc acc f
      have hml : (acc.map fldD).length = acc.length := by simp
      have hl1 : (acc ++ [f]).length = acc.length + 1 := by simp
      simp -dsimp -implicitDefEqProofs (disch := first | omega | (simp only [List.length_append, List.length_cons, List.length_nil, List.length_take, List.length_drop]; omega)) only [hs, ↓aPre, aPost, oneW, allOne, retV, retVA, simprocAttr]
      refine call_giv hwin ?_
      simp -dsimp -implicitDefEqProofs (disch := first | omega | (simp only [List.length_append, List.length_cons, List.length_nil, List.length_take, List.length_drop]; omega)) only [hs, hwl, ↓aPre, aPost, oneW, allOne, retV, retVA, simprocAttr]
      refine call_giv gt ?_
      simp -dsimp -implicitDefEqProofs (disch := first | omega | (simp only [List.length_append, List.length_cons, List.length_nil, List.length_take, List.length_drop]; omega)) only [hs, hle, ↓aPre, aPost, oneW, allOne, retV, retVA, simprocAttr]
      refine call_giv hf ?_
      simp -dsimp -implicitDefEqProofs (disch := first | omega | (simp only [List.length_append, List.length_cons, List.length_nil, List.length_take, List.length_drop]; omega)) only [hs, entD, fldD, hml, ↓aPre, aPost, oneW, allOne, retV, retVA, simprocAttr]
      refine round_of ⟨i + 1, p + 20, t, acc ++ [f], by omega, by omega, by rw [hSi]; rfl, by rw [hl1]; omega, by omega, by omega, ?_⟩ ?_
      · simp -dsimp -implicitDefEqProofs (disch := first | omega | (simp only [List.length_append, List.length_cons, List.length_nil, List.length_take, List.length_drop]; omega)) only [hs, hms, hl1, fldD, hml, ↓aPre, aPost, oneW, allOne, retV, retVA, simprocAttr]
      · simp -dsimp -implicitDefEqProofs (disch := first | omega | (simp only [List.length_append, List.length_cons, List.length_nil, List.length_take, List.length_drop]; omega)) only [hs, ↓aPre, aPost, oneW, allOne, retV, retVA, simprocAttr]
        omega
    · rw [hfe] at hSi hf
      by_cases he : e = 0
      · subst he
        rw [if_neg (fun h => h rfl)] at hSi
        simp -dsimp -implicitDefEqProofs (disch := first | omega | (simp only [List.length_append, List.length_cons, List.length_nil, List.length_take, List.length_drop]; omega)) only [hs, ↓aPre, aPost, oneW, allOne, retV, retVA, simprocAttr]
        refine call_giv hwin ?_
        simp -dsimp -implicitDefEqProofs (disch := first | omega | (simp only [List.length_append, List.length_cons, List.length_nil, List.length_take, List.length_drop]; omega)) only [hs, hwl, ↓aPre, aPost, oneW, allOne, retV, retVA, simprocAttr]
        refine call_giv gt ?_
        simp -dsimp -implicitDefEqProofs (disch := first | omega | (simp only [List.length_append, List.length_cons, List.length_nil, List.length_take, List.length_drop]; omega)) only [hs, hle, ↓aPre, aPost, oneW, allOne, retV, retVA, simprocAttr]
        refine call_giv hf ?_
        simp -dsimp -implicitDefEqProofs (disch := first | omega | (simp only [List.length_append, List.length_cons, List.length_nil, List.length_take, List.length_drop]; omega)) only [hs, entD, fld0, ↓aPre, aPost, oneW, allOne, retV, retVA, simprocAttr]
        refine round_of ⟨i + 1, p + 20, t, acc, by omega, by omega, by rw [hSi, Option.toList, List.append_nil], by omega, by omega, by omega, ?_⟩ ?_
        · simp -dsimp -implicitDefEqProofs (disch := first | omega | (simp only [List.length_append, List.length_cons, List.length_nil, List.length_take, List.length_drop]; omega)) only [hs, ↓aPre, aPost, oneW, allOne, retV, retVA, simprocAttr]
        · simp -dsimp -implicitDefEqProofs (disch := first | omega | (simp only [List.length_append, List.length_cons, List.length_nil, List.length_take, List.length_drop]; omega)) only [hs, ↓aPre, aPost, oneW, allOne, retV, retVA, simprocAttr]
          omega
      · rw [if_pos he] at hSi
        have he' := ibne_t he
        simp -dsimp -implicitDefEqProofs (disch := first | omega | (simp only [List.length_append, List.length_cons, List.length_nil, List.length_take, List.length_drop]; omega)) only [hs, ↓aPre, aPost, oneW, allOne, retV, retVA, simprocAttr]
        refine call_giv hwin ?_
        simp -dsimp -implicitDefEqProofs (disch := first | omega | (simp only [List.length_append, List.length_cons, List.length_nil, List.length_take, List.length_drop]; omega)) only [hs, hwl, ↓aPre, aPost, oneW, allOne, retV, retVA, simprocAttr]
        refine call_giv gt ?_
        simp -dsimp -implicitDefEqProofs (disch := first | omega | (simp only [List.length_append, List.length_cons, List.length_nil, List.length_take, List.length_drop]; omega)) only [hs, hle, ↓aPre, aPost, oneW, allOne, retV, retVA, simprocAttr]
        refine call_giv hf ?_
        simp -dsimp -implicitDefEqProofs (disch := first | omega | (simp only [List.length_append, List.length_cons, List.length_nil, List.length_take, List.length_drop]; omega)) only [hs, entD, fld0, he', ↓aPre, aPost, oneW, allOne, retV, retVA, simprocAttr]
        rw [hSi]
        exact post_le (by
          rw [if_pos he]
          repeat (first | exact leD.nil | exact leE.refl _ | exact leE.nil _ | refine leD.cons ?_ ?_ | refine leE.agg ?_))
  · obtain rfl : i = n := by omega
    rw [Nat.sub_self, rdS] at hSi
    rw [hSi]
    rw [if_neg (fun h => h rfl)]
    by_cases h3 : b.length < p + 8
    · have hq := rget_f b p 8 big (.inr (.inr (.inr rfl))) (by omega) h3 (by omega)
      rw [← hp, if_pos h3]
      simp -dsimp -implicitDefEqProofs (disch := first | omega | (simp only [List.length_append, List.length_cons, List.length_nil, List.length_take, List.length_drop]; omega)) only [hs, ↓aPre, aPost, oneW, allOne, retV, retVA, simprocAttr]
      refine call_giv hq ?_
      simp -dsimp -implicitDefEqProofs (disch := first | omega | (simp only [List.length_append, List.length_cons, List.length_nil, List.length_take, List.length_drop]; omega)) only [hs, ↓aPre, aPost, oneW, allOne, retV, retVA, simprocAttr]
      exact post_le (by repeat (first | exact leD.nil | exact leE.refl _ | exact leE.nil _ | refine leD.cons ?_ ?_ | refine leE.agg ?_))
    · have hq := rget_t b p 8 big (.inr (.inr (.inr rfl))) (by omega) hB (by omega)
      have hml : (acc.map fldD).length = acc.length := by simp
      have htk : (acc.map fldD).take acc.length = acc.map fldD := take_all (by rw [hml]; exact Nat.le_refl _)
      rw [← hp, if_neg h3]
      simp -dsimp -implicitDefEqProofs (disch := first | omega | (simp only [List.length_append, List.length_cons, List.length_nil, List.length_take, List.length_drop]; omega)) only [hs, ↓aPre, aPost, oneW, allOne, retV, retVA, simprocAttr]
      refine call_giv hq ?_
      simp -dsimp -implicitDefEqProofs (disch := first | omega | (simp only [List.length_append, List.length_cons, List.length_nil, List.length_take, List.length_drop]; omega)) only [hs, hml, htk, ↓aPre, aPost, oneW, allOne, retV, retVA, simprocAttr]
      exact post_eq rfl
theorem read_giv (b : List Int) (big large : Bool) (first : Int) (at_ : Nat) (hl : b.length ≤ 100000) (hB : Bytes b) (ha : at_ < 18446744073709551616) :
    Giv Try.prog 16 [.lst 1 (li .u8 b), hD big large first, .c (.int .u64 at_)] (retV (dirE (dirS b big large at_))) := by
  cases large
  · exact readS_giv b big first at_ hl hB ha
  · exact readL_giv b big first at_ hl hB ha
theorem rread_giv (b : List Int) (big large : Bool) (first : Int) (at_ : Nat) (hl : b.length ≤ 100000) (hB : Bytes b) (ha : at_ < 18446744073709551616) :
    Giv Try.prog 12 [.c (.string (strOfNums b)), hD big large first, .c (.int .u64 at_)] (retV (dirE (dirS b big large at_))) := by
  cases large
  · exact rreadS_giv b big first at_ hl hB ha
  · exact rreadL_giv b big first at_ hl hB ha
end Go.Proofs.Ytpjnpmdmcllilaa

/- The reference's fraction of a text. No condition but that the text is not too long. -/
import Derived.Test.YtlonmloicafejaaDoorWPar
set_option linter.unusedSimpArgs false
set_option linter.unusedVariables false
set_option maxRecDepth 8000
set_option maxHeartbeats 4000000
namespace Go.Proofs.YtlonmloicafejaaDoor
open Go.Eng Go.RowKit
def rI (p : Nat × Nat × Nat) : List D := [.c (.int .i64 p.1), .c (.int .i64 p.2.1), .c (.int .i64 p.2.2)]
theorem some_or (o : Option Nat) : o = none ∨ ∃ n, o = some n := by cases o with
  | none => exact .inl rfl
  | some n => exact .inr ⟨n, rfl⟩
theorem rpar_giv (l : List Int) (hb : Bytes l) (hl : l.length ≤ 140737488355328) : Giv Tryd.prog 10 [.c (.string (strOfNums l))] (retV (rI (parS l))) := by
  have g1 := find_giv l 47 hb (by decide) hl
  have g2 := find_giv l 46 hb (by decide) hl
  have hp1 := pos_le l 47
  have hp2 := pos_le l 46
  refine Giv.of mixed c10 (Nat.le_of_ble_eq_true rfl) ?_
  unfold rI
  by_cases h : pos l 47 < l.length
  · rw [fnd_t h] at g1
    have n1 := rnum_giv (l.take (pos l 47)) (hb.take _)
    have n2 := rnum_giv (bhd l 47) (hb.drop _)
    have fin : parS l = (0, 0, 3) ∧ (numI (l.take (pos l 47)) = -1 ∨ (∃ n : Nat, n ≤ 4294967295 ∧ numI (l.take (pos l 47)) = n ∧ numI (bhd l 47) = -1)) ∨ ∃ n d : Nat, parS l = (n, d, 0) ∧ numI (l.take (pos l 47)) = n ∧ numI (bhd l 47) = d ∧ n ≤ 4294967295 ∧ d ≤ 4294967295 := by
      rcases some_or (numS (l.take (pos l 47))) with c1 | ⟨n, c1⟩
      · exact .inl ⟨parS_b h (.inl c1), .inl (numI_f c1)⟩
      · rcases some_or (numS (bhd l 47)) with c2 | ⟨d, c2⟩
        · exact .inl ⟨parS_b h (.inr c2), .inr ⟨n, (numS_some c1).2, numI_t c1, numI_f c2⟩⟩
        · exact .inr ⟨n, d, parS_a h c1 c2, numI_t c1, numI_t c2, (numS_some c1).2, (numS_some c2).2⟩
    unfold bhd at n2 fin
    obtain ⟨p, hpe⟩ : ∃ p, p = pos l 47 := ⟨_, rfl⟩
    rw [← hpe] at g1 n1 n2 fin h hp1
    obtain ⟨q, hq⟩ : ∃ q, q = p + 1 := ⟨_, rfl⟩
    rw [← hq] at n2 fin
    have e2 : (p : Int) + 1 = (q : Int) := by omega
    have e6 : (l.drop q).take (l.length - q) = l.drop q := take_all (by rw [List.length_drop]; omega)
    simp -dsimp -implicitDefEqProofs (disch := first | omega | (simp only [List.length_append, List.length_cons, List.length_nil, List.length_take, List.length_drop]; omega)) only [a10, ↓aPre, aPost, oneW, allOne, retV, retVA, simprocAttr]
    refine call_giv g1 ?_
    rcases fin with ⟨f0, f1 | ⟨n, hn, f1, f2⟩⟩ | ⟨n, d, f0, f1, f2, hn, hd⟩
    · rw [f1] at n1
      rw [f0]
      obtain ⟨m, hm⟩ : ∃ m, m = numI (l.drop q) := ⟨_, rfl⟩
      rw [← hm] at n2
      simp -dsimp -implicitDefEqProofs (disch := first | omega | (simp only [List.length_append, List.length_cons, List.length_nil, List.length_take, List.length_drop]; omega)) only [e2, e6, ↓aPre, aPost, oneW, allOne, retV, retVA, simprocAttr]
      refine call_giv n1 ?_
      simp -dsimp -implicitDefEqProofs (disch := first | omega | (simp only [List.length_append, List.length_cons, List.length_nil, List.length_take, List.length_drop]; omega)) only [e2, e6, ↓aPre, aPost, oneW, allOne, retV, retVA, simprocAttr]
      refine call_giv n2 ?_
      simp -dsimp -implicitDefEqProofs (disch := first | omega | (simp only [List.length_append, List.length_cons, List.length_nil, List.length_take, List.length_drop]; omega)) only [↓aPre, aPost, oneW, allOne, retV, retVA, simprocAttr]
      exact post_eq rfl
    · rw [f1] at n1
      rw [f2] at n2
      rw [f0]
      simp -dsimp -implicitDefEqProofs (disch := first | omega | (simp only [List.length_append, List.length_cons, List.length_nil, List.length_take, List.length_drop]; omega)) only [e2, e6, ↓aPre, aPost, oneW, allOne, retV, retVA, simprocAttr]
      refine call_giv n1 ?_
      simp -dsimp -implicitDefEqProofs (disch := first | omega | (simp only [List.length_append, List.length_cons, List.length_nil, List.length_take, List.length_drop]; omega)) only [e2, e6, ↓aPre, aPost, oneW, allOne, retV, retVA, simprocAttr]
      refine call_giv n2 ?_
      simp -dsimp -implicitDefEqProofs (disch := first | omega | (simp only [List.length_append, List.length_cons, List.length_nil, List.length_take, List.length_drop]; omega)) only [↓aPre, aPost, oneW, allOne, retV, retVA, simprocAttr]
      exact post_eq rfl
    · rw [f1] at n1
      rw [f2] at n2
      rw [f0]
      simp -dsimp -implicitDefEqProofs (disch := first | omega | (simp only [List.length_append, List.length_cons, List.length_nil, List.length_take, List.length_drop]; omega)) only [e2, e6, ↓aPre, aPost, oneW, allOne, retV, retVA, simprocAttr]
      refine call_giv n1 ?_
      simp -dsimp -implicitDefEqProofs (disch := first | omega | (simp only [List.length_append, List.length_cons, List.length_nil, List.length_take, List.length_drop]; omega)) only [e2, e6, ↓aPre, aPost, oneW, allOne, retV, retVA, simprocAttr]
      refine call_giv n2 ?_
      simp -dsimp -implicitDefEqProofs (disch := first | omega | (simp only [List.length_append, List.length_cons, List.length_nil, List.length_take, List.length_drop]; omega)) only [↓aPre, aPost, oneW, allOne, retV, retVA, simprocAttr]
      exact post_eq rfl
  rw [fnd_f h] at g1
  have n1 := rnum_giv (l.take (pos l 46)) (hb.take _)
  have hpB : Bytes (bhd l 46) := hb.drop _
  have hB0 : Bytes [] := Bytes.nil
  obtain ⟨pt, hpt⟩ : ∃ pt, pt = bhd l 46 := ⟨_, rfl⟩
  obtain ⟨p, hpe⟩ : ∃ p, p = pos l 46 := ⟨_, rfl⟩
  have c3 : numS (l.take p) = none → parS l = (0, 0, 3) := fun c => by rw [hpe] at c; exact parS_c h c
  have c4 : ∀ n, numS (l.take p) = some n → (9 < pt.length ∨ (p < l.length ∧ pt = []) ∨ ¬ isD pt) → parS l = (0, 0, 3) := fun n c c' => by rw [hpe, hpt] at *; exact parS_d h c c'
  have c5 : ∀ n, numS (l.take p) = some n → ¬ (9 < pt.length ∨ (p < l.length ∧ pt = []) ∨ ¬ isD pt) → parS l = fracS n pt := fun n c c' => by rw [hpe, hpt] at *; exact parS_e h c c'
  rw [← hpt] at hpB
  by_cases h2 : p < l.length
  · rw [hpe] at h2
    rw [fnd_t h2] at g2
    unfold bhd at hpt
    rw [← hpe] at g2 n1 h2 hp2 hpt
    obtain ⟨q, hq⟩ : ∃ q, q = p + 1 := ⟨_, rfl⟩
    rw [← hq] at hpt
    have e2 : (p : Int) + 1 = (q : Int) := by omega
    have e6 : (l.drop q).take (l.length - q) = pt := by rw [hpt]; exact take_all (by rw [List.length_drop]; omega)
    by_cases h3 : pt = []
    · have f0 : parS l = (0, 0, 3) := by
        rcases some_or (numS (l.take p)) with c1 | ⟨n, c1⟩
        · exact c3 c1
        · exact c4 n c1 (.inr (.inl ⟨h2, h3⟩))
      rw [f0]
      rw [h3] at e6
      simp -dsimp -implicitDefEqProofs (disch := first | omega | (simp only [List.length_append, List.length_cons, List.length_nil, List.length_take, List.length_drop]; omega)) only [a10, ↓aPre, aPost, oneW, allOne, retV, retVA, simprocAttr]
      refine call_giv g1 ?_
      simp -dsimp -implicitDefEqProofs (disch := first | omega | (simp only [List.length_append, List.length_cons, List.length_nil, List.length_take, List.length_drop]; omega)) only [↓aPre, aPost, oneW, allOne, retV, retVA, simprocAttr]
      refine call_giv g2 ?_
      simp -dsimp -implicitDefEqProofs (disch := first | omega | (simp only [List.length_append, List.length_cons, List.length_nil, List.length_take, List.length_drop]; omega)) only [e2, e6, str_beq hB0 hB0, ↓aPre, aPost, oneW, allOne, retV, retVA, simprocAttr]
      exact post_eq rfl
    rcases some_or (numS (l.take p)) with c1 | ⟨n, c1⟩
    · rw [c3 c1]
      rw [numI_f c1] at n1
      simp -dsimp -implicitDefEqProofs (disch := first | omega | (simp only [List.length_append, List.length_cons, List.length_nil, List.length_take, List.length_drop]; omega)) only [a10, ↓aPre, aPost, oneW, allOne, retV, retVA, simprocAttr]
      refine call_giv g1 ?_
      simp -dsimp -implicitDefEqProofs (disch := first | omega | (simp only [List.length_append, List.length_cons, List.length_nil, List.length_take, List.length_drop]; omega)) only [↓aPre, aPost, oneW, allOne, retV, retVA, simprocAttr]
      refine call_giv g2 ?_
      simp -dsimp -implicitDefEqProofs (disch := first | omega | (simp only [List.length_append, List.length_cons, List.length_nil, List.length_take, List.length_drop]; omega)) only [e2, e6, str_beq hpB hB0, h3, ↓aPre, aPost, oneW, allOne, retV, retVA, simprocAttr]
      refine call_giv n1 ?_
      simp -dsimp -implicitDefEqProofs (disch := first | omega | (simp only [List.length_append, List.length_cons, List.length_nil, List.length_take, List.length_drop]; omega)) only [↓aPre, aPost, oneW, allOne, retV, retVA, simprocAttr]
      exact post_eq rfl
    rw [numI_t c1] at n1
    have hn := (numS_some c1).2
    by_cases h4 : 9 < pt.length
    · rw [c4 n c1 (.inl h4)]
      simp -dsimp -implicitDefEqProofs (disch := first | omega | (simp only [List.length_append, List.length_cons, List.length_nil, List.length_take, List.length_drop]; omega)) only [a10, ↓aPre, aPost, oneW, allOne, retV, retVA, simprocAttr]
      refine call_giv g1 ?_
      simp -dsimp -implicitDefEqProofs (disch := first | omega | (simp only [List.length_append, List.length_cons, List.length_nil, List.length_take, List.length_drop]; omega)) only [↓aPre, aPost, oneW, allOne, retV, retVA, simprocAttr]
      refine call_giv g2 ?_
      simp -dsimp -implicitDefEqProofs (disch := first | omega | (simp only [List.length_append, List.length_cons, List.length_nil, List.length_take, List.length_drop]; omega)) only [e2, e6, str_beq hpB hB0, h3, ↓aPre, aPost, oneW, allOne, retV, retVA, simprocAttr]
      refine call_giv n1 ?_
      simp -dsimp -implicitDefEqProofs (disch := first | omega | (simp only [List.length_append, List.length_cons, List.length_nil, List.length_take, List.length_drop]; omega)) only [↓aPre, aPost, oneW, allOne, retV, retVA, simprocAttr]
      exact post_eq rfl
    simp -dsimp -implicitDefEqProofs (disch := first | omega | (simp only [List.length_append, List.length_cons, List.length_nil, List.length_take, List.length_drop]; omega)) only [a10, ↓aPre, aPost, oneW, allOne, retV, retVA, simprocAttr]
    refine call_giv g1 ?_
    simp -dsimp -implicitDefEqProofs (disch := first | omega | (simp only [List.length_append, List.length_cons, List.length_nil, List.length_take, List.length_drop]; omega)) only [↓aPre, aPost, oneW, allOne, retV, retVA, simprocAttr]
    refine call_giv g2 ?_
    simp -dsimp -implicitDefEqProofs (disch := first | omega | (simp only [List.length_append, List.length_cons, List.length_nil, List.length_take, List.length_drop]; omega)) only [e2, e6, str_beq hpB hB0, h3, ↓aPre, aPost, oneW, allOne, retV, retVA, simprocAttr]
    refine call_giv n1 ?_
    simp -dsimp -implicitDefEqProofs (disch := first | omega | (simp only [List.length_append, List.length_cons, List.length_nil, List.length_take, List.length_drop]; omega)) only [↓aPre, aPost, oneW, allOne, retV, retVA, simprocAttr]
    refine loop_of (fun s => ∃ k : Nat, k ≤ pt.length ∧ (∀ j, j < k → 48 ≤ pt.getD j 0 ∧ pt.getD j 0 ≤ 57) ∧ s.tm 13 = .d (.c (.int .i64 k)) ∧ s.tm 12 = .d (.c (.int .i64 (10 ^ k : Nat))) ∧ s.tm 11 = .d (.c (.int .i64 n)) ∧ s.tm 9 = .d (.c (.string (strOfNums pt)))) (fun s => pt.length - (avN (s.tm 13)).toNat) ?_ ?_
    · refine ⟨0, Nat.zero_le _, fun j hj => by omega, ?_⟩
      simp -dsimp -implicitDefEqProofs (disch := first | omega | (simp only [List.length_append, List.length_cons, List.length_nil, List.length_take, List.length_drop]; omega)) only [Int.natCast_zero, Nat.pow_zero, Int.natCast_one, ↓aPre, aPost, oneW, allOne, retV, retVA, simprocAttr]
    rintro s ⟨k, hk, hj, hs⟩
    have hvb := vf_b hn hk (by omega) hj
    by_cases hlt : k < pt.length
    · have hg := str_get hpB hlt
      have hz := hpB.get k
      have hbad := fun (c : ¬ (48 ≤ pt.getD k 0 ∧ pt.getD k 0 ≤ 57)) => c4 n c1 (.inr (.inr (show ¬ isD pt from fun hd => c (isD_get hd hlt))))
      obtain ⟨z, hze⟩ : ∃ z, z = pt.getD k 0 := ⟨_, rfl⟩
      obtain ⟨d, hd⟩ : ∃ d, d = 10 ^ k := ⟨_, rfl⟩
      obtain ⟨d', hd'⟩ : ∃ d', d' = 10 ^ (k + 1) := ⟨_, rfl⟩
      have hdd : (d : Int) * 10 = (d' : Int) := by rw [hd, hd', Nat.pow_succ]; omega
      rw [← hd] at hs hvb
      rw [← hze] at hg hz hbad
      by_cases c2 : 48 ≤ z ∧ z ≤ 57
      · obtain ⟨c2, c6⟩ := c2
        have := hvb.2.2 hlt
        simp -dsimp -implicitDefEqProofs (disch := first | omega | (simp only [List.length_append, List.length_cons, List.length_nil, List.length_take, List.length_drop]; omega)) only [hs, hg, hdd, ↓aPre, aPost, oneW, allOne, retV, retVA, simprocAttr]
        refine round_of ⟨k + 1, by omega, fun j hjk => ?_, ?_⟩ ?_
        · by_cases e : j < k
          · exact hj j e
          · obtain rfl : j = k := by omega
            rw [← hze]; exact ⟨c2, c6⟩
        · rw [← hd']
          simp -dsimp -implicitDefEqProofs (disch := first | omega | (simp only [List.length_append, List.length_cons, List.length_nil, List.length_take, List.length_drop]; omega)) only [hs, ↓aPre, aPost, oneW, allOne, retV, retVA, simprocAttr]
        · simp -dsimp -implicitDefEqProofs (disch := first | omega | (simp only [List.length_append, List.length_cons, List.length_nil, List.length_take, List.length_drop]; omega)) only [hs, ↓aPre, aPost, oneW, allOne, retV, retVA, simprocAttr]
          omega
      · rw [hbad c2]
        by_cases c6 : z < 48
        · simp -dsimp -implicitDefEqProofs (disch := first | omega | (simp only [List.length_append, List.length_cons, List.length_nil, List.length_take, List.length_drop]; omega)) only [hs, hg, ↓aPre, aPost, oneW, allOne, retV, retVA, simprocAttr]
          exact post_eq rfl
        · simp -dsimp -implicitDefEqProofs (disch := first | omega | (simp only [List.length_append, List.length_cons, List.length_nil, List.length_take, List.length_drop]; omega)) only [hs, hg, ↓aPre, aPost, oneW, allOne, retV, retVA, simprocAttr]
          exact post_eq rfl
    obtain rfl : k = pt.length := by omega
    have hdig : isD pt := by
      have := dig_take hj
      rwa [List.take_length] at this
    rw [c5 n c1 (fun c => c.elim h4 fun c => c.elim (fun c => h3 c.2) fun c => c hdig)]
    have hs0 := hs
    obtain ⟨D, hD⟩ : ∃ D, D = 10 ^ pt.length := ⟨_, rfl⟩
    rw [← hD] at hs hvb
    simp -dsimp -implicitDefEqProofs (disch := first | omega | (simp only [List.length_append, List.length_cons, List.length_nil, List.length_take, List.length_drop]; omega)) only [hs, ↓aPre, aPost, oneW, allOne, retV, retVA, simprocAttr]
    refine loop_of (fun s => ∃ k : Nat, k ≤ pt.length ∧ s.tm 14 = .d (.c (.int .i64 k)) ∧ s.tm 12 = .d (.c (.int .i64 D)) ∧ s.tm 11 = .d (.c (.int .i64 (vf n (pt.take k) : Nat))) ∧ s.tm 9 = .d (.c (.string (strOfNums pt)))) (fun s => pt.length - (avN (s.tm 14)).toNat) ?_ ?_
    · refine ⟨0, Nat.zero_le _, ?_⟩
      have e0 : vf n [] = n := rfl
      simp -dsimp -implicitDefEqProofs (disch := first | omega | (simp only [List.length_append, List.length_cons, List.length_nil, List.length_take, List.length_drop]; omega)) only [hs, Int.natCast_zero, e0, ↓aPre, aPost, oneW, allOne, retV, retVA, simprocAttr]
    clear hs hs0 hk hlt hvb
    rintro s ⟨k, hk, hs⟩
    have hvb := vf_b hn hk (by omega) (fun j hj => isD_get hdig (by omega))
    by_cases hlt : k < pt.length
    · have hg := str_get hpB hlt
      have hz := isD_get hdig hlt
      have hsn := vf_snoc hlt n
      have hvz := vf_z hn (by omega) hdig hlt
      obtain ⟨z, hze⟩ : ∃ z, z = pt.getD k 0 := ⟨_, rfl⟩
      obtain ⟨m, hm⟩ : ∃ m, m = vf n (pt.take k) := ⟨_, rfl⟩
      rw [← hze] at hg hz hsn
      rw [← hm] at hs hvb hsn hvz
      have e1 : 10 * (m : Int) + (z - 48) = ((10 * m + (z - 48).toNat : Nat) : Int) := by omega
      rw [← hsn] at e1
      simp -dsimp -implicitDefEqProofs (disch := first | omega | (simp only [List.length_append, List.length_cons, List.length_nil, List.length_take, List.length_drop]; omega)) only [hs, hg, e1, ↓aPre, aPost, oneW, allOne, retV, retVA, simprocAttr]
      refine round_of ⟨k + 1, by omega, ?_⟩ ?_
      · simp -dsimp -implicitDefEqProofs (disch := first | omega | (simp only [List.length_append, List.length_cons, List.length_nil, List.length_take, List.length_drop]; omega)) only [hs, ↓aPre, aPost, oneW, allOne, retV, retVA, simprocAttr]
      · simp -dsimp -implicitDefEqProofs (disch := first | omega | (simp only [List.length_append, List.length_cons, List.length_nil, List.length_take, List.length_drop]; omega)) only [hs, ↓aPre, aPost, oneW, allOne, retV, retVA, simprocAttr]
        omega
    obtain rfl : k = pt.length := by omega
    rw [List.take_length] at hs hvb
    have hDle : D ≤ 1000000000 := by rw [hD]; exact hvb.2.1
    unfold fracS
    rw [← hD]
    obtain ⟨N, hN⟩ : ∃ N, N = vf n pt := ⟨_, rfl⟩
    rw [← hN] at hs hvb ⊢
    obtain ⟨R, hR⟩ : ∃ R, R = shr 64 N D := ⟨_, rfl⟩
    rw [← hR]
    have hNf : N < 10 ^ 64 := Nat.lt_of_lt_of_le hvb.1 (by decide)
    have hN1 := hvb.1
    simp -dsimp -implicitDefEqProofs (disch := first | omega | (simp only [List.length_append, List.length_cons, List.length_nil, List.length_take, List.length_drop]; omega)) only [hs, ↓aPre, aPost, oneW, allOne, retV, retVA, simprocAttr]
    refine loop_of (fun s => ∃ f n d : Nat, n < 10 ^ f ∧ n < 4294967296000000000 ∧ d ≤ 1000000000 ∧ R = shr f n d ∧ s.tm 11 = .d (.c (.int .i64 n)) ∧ s.tm 12 = .d (.c (.int .i64 d))) (fun s => (avN (s.tm 11)).toNat) ?_ ?_
    · refine ⟨64, N, D, hNf, hN1, hDle, hR, ?_⟩
      simp -dsimp -implicitDefEqProofs (disch := first | omega | (simp only [List.length_append, List.length_cons, List.length_nil, List.length_take, List.length_drop]; omega)) only [hs, ↓aPre, aPost, oneW, allOne, retV, retVA, simprocAttr]
    clear hs hvb hk hlt
    rintro s ⟨f, x, y, hx, hx2, hy, hRe, hs⟩
    have m1 : (x : Int).tmod 10 = ((x % 10 : Nat) : Int) := by rw [Int.tmod_eq_emod_of_nonneg (by omega)]; rfl
    have m2 : (y : Int).tmod 10 = ((y % 10 : Nat) : Int) := by rw [Int.tmod_eq_emod_of_nonneg (by omega)]; rfl
    by_cases c : 4294967295 < x ∧ x % 10 = 0 ∧ y % 10 = 0
    · obtain ⟨g, hg, hsh, hgl⟩ := shr_t hx c
      obtain ⟨c1', c2', c3'⟩ := c
      have d1 : (x : Int).tdiv 10 = ((x / 10 : Nat) : Int) := by rw [Int.tdiv_eq_ediv_of_nonneg (by omega)]; rfl
      have d2 : (y : Int).tdiv 10 = ((y / 10 : Nat) : Int) := by rw [Int.tdiv_eq_ediv_of_nonneg (by omega)]; rfl
      have hxl : x / 10 < x := by omega
      obtain ⟨x', hx'⟩ : ∃ x', x' = x / 10 := ⟨_, rfl⟩
      obtain ⟨y', hy'⟩ : ∃ y', y' = y / 10 := ⟨_, rfl⟩
      rw [← hx'] at d1 hgl hsh hxl
      rw [← hy'] at d2 hsh
      rw [c2'] at m1
      rw [c3'] at m2
      simp -dsimp -implicitDefEqProofs (disch := first | omega | (simp only [List.length_append, List.length_cons, List.length_nil, List.length_take, List.length_drop]; omega)) only [hs, m1, m2, d1, d2, Int.natCast_zero, ↓aPre, aPost, oneW, allOne, retV, retVA, simprocAttr]
      refine round_of ⟨g, x', y', hgl, by omega, by omega, by rw [hRe, hsh], ?_⟩ ?_
      · simp -dsimp -implicitDefEqProofs (disch := first | omega | (simp only [List.length_append, List.length_cons, List.length_nil, List.length_take, List.length_drop]; omega)) only [hs, ↓aPre, aPost, oneW, allOne, retV, retVA, simprocAttr]
      · simp -dsimp -implicitDefEqProofs (disch := first | omega | (simp only [List.length_append, List.length_cons, List.length_nil, List.length_take, List.length_drop]; omega)) only [hs, ↓aPre, aPost, oneW, allOne, retV, retVA, simprocAttr]
        omega
    · rw [shr_f c] at hRe
      subst hRe
      have hfin : ∀ {P : Prop}, (¬ 4294967295 < x → P) → (4294967295 < x → ¬ x % 10 = 0 → P) → (4294967295 < x → x % 10 = 0 → ¬ y % 10 = 0 → P) → P := fun k1 k2 k3 => by
        by_cases c1 : 4294967295 < x
        · by_cases c2 : x % 10 = 0
          · exact k3 c1 c2 (fun c3 => c ⟨c1, c2, c3⟩)
          · exact k2 c1 c2
        · exact k1 c1
      refine hfin (fun c1 => ?_) (fun c1 c2 => ?_) (fun c1 c2 c3 => ?_)
      · simp only [if_neg c1]
        simp -dsimp -implicitDefEqProofs (disch := first | omega | (simp only [List.length_append, List.length_cons, List.length_nil, List.length_take, List.length_drop]; omega)) only [hs, ↓aPre, aPost, oneW, allOne, retV, retVA, simprocAttr]
        exact post_eq rfl
      · have z1 : ¬ ((x % 10 : Nat) : Int) = 0 := by omega
        simp only [if_pos c1]
        obtain ⟨u, hu⟩ : ∃ u, u = x % 10 := ⟨_, rfl⟩
        rw [← hu] at z1 m1
        simp -dsimp -implicitDefEqProofs (disch := first | omega | (simp only [List.length_append, List.length_cons, List.length_nil, List.length_take, List.length_drop]; omega)) only [hs, m1, z1, ↓aPre, aPost, oneW, allOne, retV, retVA, simprocAttr]
        exact post_eq rfl
      · have z1 : ¬ ((y % 10 : Nat) : Int) = 0 := by omega
        simp only [if_pos c1]
        obtain ⟨u, hu⟩ : ∃ u, u = y % 10 := ⟨_, rfl⟩
        rw [← hu] at z1 m2
        rw [c2] at m1
        simp -dsimp -implicitDefEqProofs (disch := first | omega | (simp only [List.length_append, List.length_cons, List.length_nil, List.length_take, List.length_drop]; omega)) only [hs, m1, m2, z1, Int.natCast_zero, ↓aPre, aPost, oneW, allOne, retV, retVA, simprocAttr]
        exact post_eq rfl
  · rw [hpe] at h2
    rw [fnd_f h2] at g2
    have hpt0 : pt = [] := by rw [hpt]; exact List.drop_of_length_le (by omega)
    rw [← hpe] at n1 h2 hp2
    rw [show l.take p = l from take_all (by omega)] at n1 c3 c5
    subst hpt0
    rcases some_or (numS l) with c1 | ⟨n, c1⟩
    · rw [c3 c1]
      rw [numI_f c1] at n1
      simp -dsimp -implicitDefEqProofs (disch := first | omega | (simp only [List.length_append, List.length_cons, List.length_nil, List.length_take, List.length_drop]; omega)) only [a10, ↓aPre, aPost, oneW, allOne, retV, retVA, simprocAttr]
      refine call_giv g1 ?_
      simp -dsimp -implicitDefEqProofs (disch := first | omega | (simp only [List.length_append, List.length_cons, List.length_nil, List.length_take, List.length_drop]; omega)) only [↓aPre, aPost, oneW, allOne, retV, retVA, simprocAttr]
      refine call_giv g2 ?_
      simp -dsimp -implicitDefEqProofs (disch := first | omega | (simp only [List.length_append, List.length_cons, List.length_nil, List.length_take, List.length_drop]; omega)) only [↓aPre, aPost, oneW, allOne, retV, retVA, simprocAttr]
      refine call_giv n1 ?_
      simp -dsimp -implicitDefEqProofs (disch := first | omega | (simp only [List.length_append, List.length_cons, List.length_nil, List.length_take, List.length_drop]; omega)) only [↓aPre, aPost, oneW, allOne, retV, retVA, simprocAttr]
      exact post_eq rfl
    rw [numI_t c1] at n1
    have hn := (numS_some c1).2
    rw [c5 n c1 (fun c => c.elim (fun c => by simp at c) fun c => c.elim (fun c => h2 c.1) fun c => c (fun z hz => by cases hz))]
    have ef : fracS n [] = (n, 1, 0) := by
      unfold fracS
      rw [show vf n [] = n from rfl, show 10 ^ ([] : List Int).length = 1 from rfl, shr_f (by omega)]
      simp only []
      rw [if_neg (by omega)]
    rw [ef]
    simp -dsimp -implicitDefEqProofs (disch := first | omega | (simp only [List.length_append, List.length_cons, List.length_nil, List.length_take, List.length_drop]; omega)) only [a10, ↓aPre, aPost, oneW, allOne, retV, retVA, simprocAttr]
    refine call_giv g1 ?_
    simp -dsimp -implicitDefEqProofs (disch := first | omega | (simp only [List.length_append, List.length_cons, List.length_nil, List.length_take, List.length_drop]; omega)) only [↓aPre, aPost, oneW, allOne, retV, retVA, simprocAttr]
    refine call_giv g2 ?_
    simp -dsimp -implicitDefEqProofs (disch := first | omega | (simp only [List.length_append, List.length_cons, List.length_nil, List.length_take, List.length_drop]; omega)) only [↓aPre, aPost, oneW, allOne, retV, retVA, simprocAttr]
    refine call_giv n1 ?_
    simp -dsimp -implicitDefEqProofs (disch := first | omega | (simp only [List.length_append, List.length_cons, List.length_nil, List.length_take, List.length_drop]; omega)) only [↓aPre, aPost, oneW, allOne, retV, retVA, simprocAttr]
    refine loop_of (fun s => s.tm 13 = .d (.c (.int .i64 0)) ∧ s.tm 12 = .d (.c (.int .i64 1)) ∧ s.tm 11 = .d (.c (.int .i64 n)) ∧ s.tm 9 = .d (.c (.string (strOfNums [])))) (fun s => 0) ?_ ?_
    · simp -dsimp -implicitDefEqProofs (disch := first | omega | (simp only [List.length_append, List.length_cons, List.length_nil, List.length_take, List.length_drop]; omega)) only [↓aPre, aPost, oneW, allOne, retV, retVA, simprocAttr]
    intro s hs
    simp -dsimp -implicitDefEqProofs (disch := first | omega | (simp only [List.length_append, List.length_cons, List.length_nil, List.length_take, List.length_drop]; omega)) only [hs, ↓aPre, aPost, oneW, allOne, retV, retVA, simprocAttr]
    refine loop_of (fun s => s.tm 14 = .d (.c (.int .i64 0)) ∧ s.tm 12 = .d (.c (.int .i64 1)) ∧ s.tm 11 = .d (.c (.int .i64 n)) ∧ s.tm 9 = .d (.c (.string (strOfNums [])))) (fun s => 0) ?_ ?_
    · simp -dsimp -implicitDefEqProofs (disch := first | omega | (simp only [List.length_append, List.length_cons, List.length_nil, List.length_take, List.length_drop]; omega)) only [hs, ↓aPre, aPost, oneW, allOne, retV, retVA, simprocAttr]
    clear hs
    intro s hs
    simp -dsimp -implicitDefEqProofs (disch := first | omega | (simp only [List.length_append, List.length_cons, List.length_nil, List.length_take, List.length_drop]; omega)) only [hs, ↓aPre, aPost, oneW, allOne, retV, retVA, simprocAttr]
    refine loop_of (fun s => s.tm 12 = .d (.c (.int .i64 1)) ∧ s.tm 11 = .d (.c (.int .i64 n))) (fun s => 0) ?_ ?_
    · simp -dsimp -implicitDefEqProofs (disch := first | omega | (simp only [List.length_append, List.length_cons, List.length_nil, List.length_take, List.length_drop]; omega)) only [hs, ↓aPre, aPost, oneW, allOne, retV, retVA, simprocAttr]
    clear hs
    intro s hs
    simp -dsimp -implicitDefEqProofs (disch := first | omega | (simp only [List.length_append, List.length_cons, List.length_nil, List.length_take, List.length_drop]; omega)) only [hs, ↓aPre, aPost, oneW, allOne, retV, retVA, simprocAttr]
    exact post_eq rfl
end Go.Proofs.YtlonmloicafejaaDoor

/- Few enough fields; how long what is written is. No condition but what each says. -/
import Derived.Test.YtkdkhngdilhneaaWWrite
import Derived.Test.YtkdkhngdilhneaaLHeads
set_option linter.unusedSimpArgs false
set_option linter.unusedVariables false
set_option maxRecDepth 8000
set_option maxHeartbeats 4000000
namespace Go.Proofs.Ytkdkhngdilhneaa
open Go.Eng Go.RowKit
def vsum : List Fld → Nat
  | [] => 0
  | f :: l => f.2.2.length + vsum l
theorem vsum_app : ∀ (a b : List Fld), vsum (a ++ b) = vsum a + vsum b
  | [], b => by rw [vsum, List.nil_append, Nat.zero_add]
  | f :: a, b => by rw [List.cons_append, vsum, vsum, vsum_app a b, Nat.add_assoc]
theorem vsum_mem : ∀ {l : List Fld} {f : Fld}, f ∈ l → f.2.2.length ≤ vsum l
  | g :: l, f, h => by
    rw [vsum]
    rcases List.mem_cons.1 h with rfl | h
    · omega
    · have := vsum_mem h; omega
theorem few_giv (l : List Fld) (hl : l.length ≤ 140737488351232) (hv : ∀ f ∈ l, f.2.2.length ≤ 140737488351232) : Giv Try.prog 13 [.lst 3 (l.map fldD)] (retV [.c (.bool (decide (l.length ≤ 70 ∧ vsum l ≤ 300)))]) := by
  have hlen := fls_len l
  obtain ⟨B, hB⟩ : ∃ B, B = decide (l.length ≤ 70 ∧ vsum l ≤ 300) := ⟨_, rfl⟩
  rw [← hB]
  refine Giv.of mixed c13 (Nat.le_of_ble_eq_true rfl) ?_
  by_cases h70 : l.length ≤ 70
  · simp -dsimp -implicitDefEqProofs (disch := first | omega | (simp only [List.length_append, List.length_cons, List.length_nil, List.length_take, List.length_drop]; omega)) only [a13, hlen, ↓aPre, aPost, oneW, allOne, retV, retVA, simprocAttr]
    refine loop_of (fun s => ∃ (k T : Nat), k ≤ l.length ∧ T = vsum (l.take k) ∧ T ≤ k * 140737488351232 ∧ s.tm 8 = .d (.c (.int .i64 k)) ∧ s.tm 7 = .d (.c (.int .i64 l.length)) ∧ s.tm 6 = .d (.lst 3 (l.map fldD)) ∧ s.tm 0 = .d (.lst 3 (l.map fldD)) ∧ s.tm 3 = .d (.c (.int .i64 T))) (fun s => l.length - (avN (s.tm 8)).toNat) ?_ ?_
    · refine ⟨0, 0, Nat.zero_le _, rfl, Nat.zero_le _, ?_⟩
      simp -dsimp -implicitDefEqProofs (disch := first | omega | (simp only [List.length_append, List.length_cons, List.length_nil, List.length_take, List.length_drop]; omega)) only [Int.natCast_zero, ↓aPre, aPost, oneW, allOne, retV, retVA, simprocAttr]
    rintro s ⟨k, T, hk, hT, hTb, hs⟩
    have hk70 : k * 140737488351232 ≤ 70 * 140737488351232 := Nat.mul_le_mul_right _ (by omega)
    by_cases hlt : k < l.length
    · have eg := fl_get hlt
      have hvk := hv _ (fl_mem hlt)
      have hnx : vsum (l.take (k + 1)) = vsum (l.take k) + (fl l k).2.2.length := by rw [fl_take hlt, vsum_app, vsum, vsum]; rfl
      rw [fldD] at eg
      simp -dsimp -implicitDefEqProofs (disch := first | omega | (simp only [List.length_append, List.length_cons, List.length_nil, List.length_take, List.length_drop]; omega)) only [hs, hlen, eg, ↓aPre, aPost, oneW, allOne, retV, retVA, simprocAttr]
      refine round_of ⟨k + 1, T + (fl l k).2.2.length, by omega, by omega, by omega, ?_⟩ ?_
      · simp -dsimp -implicitDefEqProofs (disch := first | omega | (simp only [List.length_append, List.length_cons, List.length_nil, List.length_take, List.length_drop]; omega)) only [hs, ↓aPre, aPost, oneW, allOne, retV, retVA, simprocAttr]
      · simp -dsimp -implicitDefEqProofs (disch := first | omega | (simp only [List.length_append, List.length_cons, List.length_nil, List.length_take, List.length_drop]; omega)) only [hs, ↓aPre, aPost, oneW, allOne, retV, retVA, simprocAttr]
        omega
    · obtain rfl : k = l.length := by omega
      rw [List.take_length] at hT
      by_cases h3 : T ≤ 300
      · rw [decide_eq_true ⟨h70, by omega⟩] at hB
        simp -dsimp -implicitDefEqProofs (disch := first | omega | (simp only [List.length_append, List.length_cons, List.length_nil, List.length_take, List.length_drop]; omega)) only [hs, hlen, ↓aPre, aPost, oneW, allOne, retV, retVA, simprocAttr]
        exact post_eq (by rw [hB])
      · rw [decide_eq_false (fun q => h3 (by omega))] at hB
        simp -dsimp -implicitDefEqProofs (disch := first | omega | (simp only [List.length_append, List.length_cons, List.length_nil, List.length_take, List.length_drop]; omega)) only [hs, hlen, ↓aPre, aPost, oneW, allOne, retV, retVA, simprocAttr]
        exact post_eq (by rw [hB])
  · rw [decide_eq_false (fun q => h70 q.1)] at hB
    simp -dsimp -implicitDefEqProofs (disch := first | omega | (simp only [List.length_append, List.length_cons, List.length_nil, List.length_take, List.length_drop]; omega)) only [a13, hlen, ↓aPre, aPost, oneW, allOne, retV, retVA, simprocAttr]
    refine loop_of (fun s => ∃ (k : Nat) (T : Int), k ≤ l.length ∧ s.tm 8 = .d (.c (.int .i64 k)) ∧ s.tm 7 = .d (.c (.int .i64 l.length)) ∧ s.tm 6 = .d (.lst 3 (l.map fldD)) ∧ s.tm 0 = .d (.lst 3 (l.map fldD)) ∧ s.tm 3 = .d (.c (.int .i64 T))) (fun s => l.length - (avN (s.tm 8)).toNat) ?_ ?_
    · refine ⟨0, 0, Nat.zero_le _, ?_⟩
      simp -dsimp -implicitDefEqProofs (disch := first | omega | (simp only [List.length_append, List.length_cons, List.length_nil, List.length_take, List.length_drop]; omega)) only [Int.natCast_zero, ↓aPre, aPost, oneW, allOne, retV, retVA, simprocAttr]
    rintro s ⟨k, T, hk, hs⟩
    by_cases hlt : k < l.length
    · have eg := fl_get hlt
      rw [fldD] at eg
      simp -dsimp -implicitDefEqProofs (disch := first | omega | (simp only [List.length_append, List.length_cons, List.length_nil, List.length_take, List.length_drop]; omega)) only [hs, hlen, eg, ↓aPre, aPost, oneW, allOne, retV, retVA, simprocAttr]
      refine round_of ⟨k + 1, IntKind.i64.wrap (T + ((fl l k).2.2.length : Int)), by omega, ?_⟩ ?_
      · simp -dsimp -implicitDefEqProofs (disch := first | omega | (simp only [List.length_append, List.length_cons, List.length_nil, List.length_take, List.length_drop]; omega)) only [hs, ↓aPre, aPost, oneW, allOne, retV, retVA, simprocAttr]
      · simp -dsimp -implicitDefEqProofs (disch := first | omega | (simp only [List.length_append, List.length_cons, List.length_nil, List.length_take, List.length_drop]; omega)) only [hs, ↓aPre, aPost, oneW, allOne, retV, retVA, simprocAttr]
        omega
    · obtain rfl : k = l.length := by omega
      simp -dsimp -implicitDefEqProofs (disch := first | omega | (simp only [List.length_append, List.length_cons, List.length_nil, List.length_take, List.length_drop]; omega)) only [hs, hlen, ↓aPre, aPost, oneW, allOne, retV, retVA, simprocAttr]
      exact post_eq (by rw [hB])
theorem wkS_ok {k : Int} {l : List Int} {big : Bool} (h : (wkS k l big).2 = 0) : (wkS k l big).1.length = (szI k).toNat * l.length := by
  unfold wkS at h ⊢
  split
  · rename_i c; rw [if_pos c] at h; exact absurd h (by decide)
  · rename_i c
    rw [if_neg c] at h
    split
    · rename_i d
      rw [cat_len (blf_len l big), show szI k = 8 by rcases d with rfl | rfl <;> decide, Nat.mul_comm]; rfl
    · rename_i d
      rw [if_neg d] at h
      split
      · rw [cat_len (bl1_len _ l big), Nat.mul_comm]
      · rename_i e; rw [if_neg e] at h; exact absurd h (by decide)
theorem ehd_len (f : Fld) (big large : Bool) : (ehd f big large).length + wd large = en large := by
  rw [ehd, List.length_append, List.length_append, putL_len, putL_len, putL_len]
  cases large <;> rfl
theorem wr_len (big large : Bool) (at_ base : Nat) : ∀ (l : List Fld) (out behind : List Int) (bad : Bool), (wrS big large at_ base l out behind bad).2 = 0 → (wrS big large at_ base l out behind bad).1.2.2 = false →
    bad = false ∧ (wrS big large at_ base l out behind bad).1.1.length = out.length + en large * l.length ∧ (wrS big large at_ base l out behind bad).1.2.1.length = behind.length + szT large l
  | [], out, behind, bad, _, h => ⟨h, by simp [wrS], by simp [wrS, szT]⟩
  | f :: l, out, behind, bad, h1, h2 => by
    have hel := ehd_len f big large
    rw [wrS] at h1 h2 ⊢
    by_cases he : (wkS f.2.1 f.2.2 big).2 = 0
    rotate_left
    · rw [if_pos he] at h1; exact absurd h1 he
    have hwl := wkS_ok he
    rw [if_neg (fun c => c he)] at h1 h2 ⊢
    by_cases hw : (wkS f.2.1 f.2.2 big).1.length ≤ wd large
    · rw [if_pos hw] at h1 h2 ⊢
      obtain ⟨q1, q2, q3⟩ := wr_len big large at_ base l _ _ _ h1 h2
      refine ⟨q1, ?_, ?_⟩
      · rw [q2, List.length_append, List.length_append, List.length_append, zs, List.length_replicate, List.length_cons, Nat.mul_succ]
        omega
      · rw [q3, szT, szF, if_neg (by rw [← hwl]; omega), Nat.zero_add]
    · rw [if_neg hw] at h1 h2 ⊢
      by_cases ho : 18446744073709551616 ≤ at_ + (base + behind.length)
      · rw [if_pos ho] at h1; exact absurd h1 (by decide)
      rw [if_neg ho] at h1 h2 ⊢
      obtain ⟨q1, q2, q3⟩ := wr_len big large at_ base l _ _ _ h1 h2
      rw [Bool.or_eq_false_iff] at q1
      have hfit := Decidable.of_not_not (of_decide_eq_false q1.2)
      refine ⟨q1.1, ?_, ?_⟩
      · rw [q2, List.length_append, List.length_append, ptS, if_pos hfit, putL_len, List.length_cons, Nat.mul_succ]
        omega
      · rw [q3, szT, szF, if_pos (by rw [← hwl]; omega), List.length_append, List.length_append, zs, List.length_replicate, hwl]
        omega
theorem wd_len {l : List Fld} {big large : Bool} {at_ next : Nat} (h : (wdS l big large at_ next).2 = 0) (hr : rtS l large = true) : (wdS l big large at_ next).1.length = szS l large := by
  rw [wdS] at h ⊢
  rw [if_neg (by rw [hr]; decide)] at h ⊢
  obtain ⟨S, hS⟩ : ∃ S, S = wrS big large at_ (ct large + en large * l.length + wd large) l (putL l.length (ct large) big) [] false := ⟨_, rfl⟩
  have key := wr_len big large at_ (ct large + en large * l.length + wd large) l (putL l.length (ct large) big) [] false
  rw [← hS] at h key ⊢
  by_cases h1 : S.2 = 0
  rotate_left
  · rw [if_pos h1] at h; exact absurd h h1
  rw [if_neg (fun c => c h1)] at h ⊢
  by_cases h2 : S.1.2.2 = true ∨ ¬ next < 256 ^ wd large
  · rw [if_pos h2] at h; exact absurd h (by decide)
  rw [if_neg h2]
  obtain ⟨-, k2, k3⟩ := key h1 (by cases h3 : S.1.2.2 with | false => rfl | true => exact absurd (.inl h3) h2)
  simp only [List.length_append, putL_len, k2, k3, List.length_nil, szS]
  omega
end Go.Proofs.Ytkdkhngdilhneaa

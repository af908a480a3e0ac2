/- IfdWrites: the law's function gives true of all data. No condition but that whole numbers are of their kinds. -/
import Derived.Test.YtkdkhngdilhneaaWRWrite
import Derived.Test.YtkdkhngdilhneaaLHeads
set_option linter.unusedSimpArgs false
set_option linter.unusedVariables false
set_option maxRecDepth 8000
set_option maxHeartbeats 4000000
namespace Go.Proofs.Ytkdkhngdilhneaa
open Go.Eng Go.RowKit
def a4 : AFn := ⟨80, (.seq (.ops [⟨(.some 4), (.box 4 3 (.tmp 1)), .none⟩, ⟨(.some 5), (.box 5 2 (.tmp 2)), .none⟩, ⟨(.some 6), (.mov (.const (.bool false))), .none⟩]) (.seq (.seq (.ops [⟨(.some 13), (.call 13 7 []), .none⟩, ⟨(.some 14), (.un .not (.tmp 13)), .none⟩, ⟨(.some 15), (.mov (.tmp 14)), .none⟩, ⟨(.some 16), (.mov (.tmp 0)), (.some (15, false))⟩, ⟨(.some 17), (.call 17 13 [(.tmp 16)]), (.some (15, false))⟩, ⟨(.some 18), (.un .not (.tmp 17)), (.some (15, false))⟩, ⟨(.some 19), (.pick (.tmp 15) (.const (.bool true)) (.tmp 18)), .none⟩]) (.cond (.tmp 19) (.seq (.ops [⟨(.some 20), (.call 20 7 []), .none⟩, ⟨(.some 6), (.mov (.tmp 20)), .none⟩]) .ret) .skip)) (.seq (.ops [⟨(.some 22), (.mov (.tmp 0)), .none⟩, ⟨(.some 23), (.ldn 3 (.tmp 4)), .none⟩, ⟨(.some 24), (.fadr 0 (.tmp 5)), .none⟩, ⟨(.some 25), (.ld (.tmp 24)), .none⟩, ⟨(.some 26), (.fadr 1 (.tmp 5)), .none⟩, ⟨(.some 27), (.ld (.tmp 26)), .none⟩, ⟨(.some 28), (.call 28 14 [(.tmp 22), (.tmp 23), (.tmp 25), (.tmp 27)]), .none⟩, ⟨(.some 21), (.mov (.tmp 28)), .none⟩, ⟨(.some 29), (.ext (.tmp 21) 0), .none⟩, ⟨(.some 30), (.ext (.tmp 21) 1), .none⟩, ⟨(.some 7), (.mov (.tmp 29)), .none⟩, ⟨(.some 8), (.mov (.tmp 30)), .none⟩]) (.seq (.ops [⟨(.some 32), (.mov (.tmp 0)), .none⟩, ⟨(.some 33), (.ldn 3 (.tmp 4)), .none⟩, ⟨(.some 34), (.fadr 0 (.tmp 5)), .none⟩, ⟨(.some 35), (.ld (.tmp 34)), .none⟩, ⟨(.some 36), (.fadr 1 (.tmp 5)), .none⟩, ⟨(.some 37), (.ld (.tmp 36)), .none⟩, ⟨(.some 38), (.call 38 15 [(.tmp 32), (.tmp 33), (.tmp 35), (.tmp 37)]), .none⟩, ⟨(.some 31), (.mov (.tmp 38)), .none⟩, ⟨(.some 39), (.ext (.tmp 31) 0), .none⟩, ⟨(.some 40), (.ext (.tmp 31) 1), .none⟩, ⟨(.some 9), (.mov (.tmp 39)), .none⟩, ⟨(.some 10), (.mov (.tmp 40)), .none⟩]) (.seq (.ops [⟨(.some 42), (.mov (.tmp 0)), .none⟩, ⟨(.some 43), (.fadr 1 (.tmp 4)), .none⟩, ⟨(.some 44), (.ld (.tmp 43)), .none⟩, ⟨(.some 45), (.call 45 16 [(.tmp 42), (.tmp 44)]), .none⟩, ⟨(.some 41), (.mov (.tmp 45)), .none⟩, ⟨(.some 46), (.ext (.tmp 41) 0), .none⟩, ⟨(.some 47), (.ext (.tmp 41) 1), .none⟩, ⟨(.some 11), (.mov (.tmp 46)), .none⟩, ⟨(.some 12), (.mov (.tmp 47)), .none⟩]) (.seq (.seq (.ops [⟨(.some 48), (.mov (.tmp 7)), .none⟩, ⟨(.some 49), (.cvS (.tmp 48)), .none⟩, ⟨(.some 50), (.mov (.tmp 9)), .none⟩, ⟨(.some 51), (.bin .neq (.tmp 49) (.tmp 50)), .none⟩, ⟨(.some 52), (.mov (.tmp 51)), .none⟩, ⟨(.some 53), (.mov (.tmp 8)), (.some (52, false))⟩, ⟨(.some 54), (.mov (.tmp 10)), (.some (52, false))⟩, ⟨(.some 55), (.bin .neq (.tmp 53) (.tmp 54)), (.some (52, false))⟩, ⟨(.some 56), (.pick (.tmp 52) (.const (.bool true)) (.tmp 55)), .none⟩]) (.cond (.tmp 56) (.seq (.ops [⟨(.some 6), (.mov (.const (.bool false))), .none⟩]) .ret) .skip)) (.seq (.seq (.ops [⟨(.some 57), (.mov (.tmp 0)), .none⟩, ⟨(.some 58), (.fadr 1 (.tmp 4)), .none⟩, ⟨(.some 59), (.ld (.tmp 58)), .none⟩, ⟨(.some 60), (.call 60 17 [(.tmp 57), (.tmp 59)]), .none⟩, ⟨(.some 61), (.un .not (.tmp 60)), .none⟩]) (.cond (.tmp 61) (.seq (.ops [⟨(.some 62), (.mov (.tmp 12)), .none⟩, ⟨(.some 63), (.bin .eql (.tmp 62) (.const (.int .i64 1))), .none⟩, ⟨(.some 64), (.mov (.tmp 63)), .none⟩, ⟨(.some 65), (.mov (.tmp 11)), (.some (64, true))⟩, ⟨(.some 66), (.bin .eql (.tmp 65) (.const (.int .i64 0))), (.some (64, true))⟩, ⟨(.some 67), (.pick (.tmp 64) (.tmp 66) (.const (.bool false))), .none⟩, ⟨(.some 6), (.mov (.tmp 67)), .none⟩]) .ret) .skip)) (.seq (.ops [⟨(.some 68), (.mov (.tmp 12)), .none⟩, ⟨(.some 69), (.bin .eql (.tmp 68) (.const (.int .i64 0))), .none⟩, ⟨(.some 70), (.mov (.tmp 69)), .none⟩, ⟨(.some 71), (.mov (.tmp 8)), (.some (70, true))⟩, ⟨(.some 72), (.bin .neq (.tmp 71) (.const (.int .i64 0))), (.some (70, true))⟩, ⟨(.some 73), (.mov (.tmp 72)), (.some (70, true))⟩, ⟨(.some 74), (.mov (.tmp 11)), (.some (73, false))⟩, ⟨(.some 75), (.mov (.tmp 7)), (.some (73, false))⟩, ⟨(.some 76), (.len (.tmp 75)), (.some (73, false))⟩, ⟨(.some 77), (.bin .eql (.tmp 74) (.tmp 76)), (.some (73, false))⟩, ⟨(.some 78), (.pick (.tmp 73) (.const (.bool true)) (.tmp 77)), (.some (70, true))⟩, ⟨(.some 79), (.pick (.tmp 70) (.tmp 78) (.const (.bool false))), .none⟩, ⟨(.some 6), (.mov (.tmp 79)), .none⟩]) .ret)))))))), [(6, .none)]⟩
theorem c4 : cmpF Try.prog [] [] 4 = some a4 := by kernel_rfl
def vsum : List Fld → Nat
  | [] => 0
  | f :: l => f.2.2.length + vsum l
theorem vsum_app : ∀ (a b : List Fld), vsum (a ++ b) = vsum a + vsum b
  | [], b => by rw [vsum, List.nil_append, Nat.zero_add]
  | f :: a, b => by rw [List.cons_append, vsum, vsum, vsum_app a b, Nat.add_assoc]
theorem vsum_mem : ∀ {l : List Fld} {f : Fld}, f ∈ l → f.2.2.length ≤ vsum l
  | g :: l, f, h => by
    rw [vsum]
    rcases List.mem_cons.1 h with rfl | h
    · omega
    · have := vsum_mem h; omega
theorem few_giv (l : List Fld) (hl : l.length ≤ 140737488351232) (hv : ∀ f ∈ l, f.2.2.length ≤ 140737488351232) : Giv Try.prog 13 [.lst 3 (l.map fldD)] (retV [.c (.bool (decide (l.length ≤ 70 ∧ vsum l ≤ 300)))]) := by
  have hlen := fls_len l
  obtain ⟨B, hB⟩ : ∃ B, B = decide (l.length ≤ 70 ∧ vsum l ≤ 300) := ⟨_, rfl⟩
  rw [← hB]
  refine Giv.of mixed c13 (Nat.le_of_ble_eq_true rfl) ?_
  by_cases h70 : l.length ≤ 70
  · simp -dsimp -implicitDefEqProofs (disch := first | omega | (simp only [List.length_append, List.length_cons, List.length_nil, List.length_take, List.length_drop]; omega)) only [a13, hlen, ↓aPre, aPost, oneW, allOne, retV, retVA, simprocAttr]
    refine loop_of (fun s => ∃ (k T : Nat), k ≤ l.length ∧ T = vsum (l.take k) ∧ T ≤ k * 140737488351232 ∧ s.tm 8 = .d (.c (.int .i64 k)) ∧ s.tm 7 = .d (.c (.int .i64 l.length)) ∧ s.tm 6 = .d (.lst 3 (l.map fldD)) ∧ s.tm 0 = .d (.lst 3 (l.map fldD)) ∧ s.tm 3 = .d (.c (.int .i64 T))) (fun s => l.length - (avN (s.tm 8)).toNat) ?_ ?_
    · refine ⟨0, 0, Nat.zero_le _, rfl, Nat.zero_le _, ?_⟩
      simp -dsimp -implicitDefEqProofs (disch := first | omega | (simp only [List.length_append, List.length_cons, List.length_nil, List.length_take, List.length_drop]; omega)) only [Int.natCast_zero, ↓aPre, aPost, oneW, allOne, retV, retVA, simprocAttr]
    rintro s ⟨k, T, hk, hT, hTb, hs⟩
    have hk70 : k * 140737488351232 ≤ 70 * 140737488351232 := Nat.mul_le_mul_right _ (by omega)
    by_cases hlt : k < l.length
    · have eg := fl_get hlt
      have hvk := hv _ (fl_mem hlt)
      have hnx : vsum (l.take (k + 1)) = vsum (l.take k) + (fl l k).2.2.length := by rw [fl_take hlt, vsum_app, vsum, vsum]; rfl
      rw [fldD] at eg
      simp -dsimp -implicitDefEqProofs (disch := first | omega | (simp only [List.length_append, List.length_cons, List.length_nil, List.length_take, List.length_drop]; omega)) only [hs, hlen, eg, ↓aPre, aPost, oneW, allOne, retV, retVA, simprocAttr]
      refine round_of ⟨k + 1, T + (fl l k).2.2.length, by omega, by omega, by omega, ?_⟩ ?_
      · simp -dsimp -implicitDefEqProofs (disch := first | omega | (simp only [List.length_append, List.length_cons, List.length_nil, List.length_take, List.length_drop]; omega)) only [hs, ↓aPre, aPost, oneW, allOne, retV, retVA, simprocAttr]
      · simp -dsimp -implicitDefEqProofs (disch := first | omega | (simp only [List.length_append, List.length_cons, List.length_nil, List.length_take, List.length_drop]; omega)) only [hs, ↓aPre, aPost, oneW, allOne, retV, retVA, simprocAttr]
        omega
    · obtain rfl : k = l.length := by omega
      rw [List.take_length] at hT
      by_cases h3 : T ≤ 300
      · rw [decide_eq_true ⟨h70, by omega⟩] at hB
        simp -dsimp -implicitDefEqProofs (disch := first | omega | (simp only [List.length_append, List.length_cons, List.length_nil, List.length_take, List.length_drop]; omega)) only [hs, hlen, ↓aPre, aPost, oneW, allOne, retV, retVA, simprocAttr]
        exact post_eq (by rw [hB])
      · rw [decide_eq_false (fun q => h3 (by omega))] at hB
        simp -dsimp -implicitDefEqProofs (disch := first | omega | (simp only [List.length_append, List.length_cons, List.length_nil, List.length_take, List.length_drop]; omega)) only [hs, hlen, ↓aPre, aPost, oneW, allOne, retV, retVA, simprocAttr]
        exact post_eq (by rw [hB])
  · rw [decide_eq_false (fun q => h70 q.1)] at hB
    simp -dsimp -implicitDefEqProofs (disch := first | omega | (simp only [List.length_append, List.length_cons, List.length_nil, List.length_take, List.length_drop]; omega)) only [a13, hlen, ↓aPre, aPost, oneW, allOne, retV, retVA, simprocAttr]
    refine loop_of (fun s => ∃ (k : Nat) (T : Int), k ≤ l.length ∧ s.tm 8 = .d (.c (.int .i64 k)) ∧ s.tm 7 = .d (.c (.int .i64 l.length)) ∧ s.tm 6 = .d (.lst 3 (l.map fldD)) ∧ s.tm 0 = .d (.lst 3 (l.map fldD)) ∧ s.tm 3 = .d (.c (.int .i64 T))) (fun s => l.length - (avN (s.tm 8)).toNat) ?_ ?_
    · refine ⟨0, 0, Nat.zero_le _, ?_⟩
      simp -dsimp -implicitDefEqProofs (disch := first | omega | (simp only [List.length_append, List.length_cons, List.length_nil, List.length_take, List.length_drop]; omega)) only [Int.natCast_zero, ↓aPre, aPost, oneW, allOne, retV, retVA, simprocAttr]
    rintro s ⟨k, T, hk, hs⟩
    by_cases hlt : k < l.length
    · have eg := fl_get hlt
      rw [fldD] at eg
      simp -dsimp -implicitDefEqProofs (disch := first | omega | (simp only [List.length_append, List.length_cons, List.length_nil, List.length_take, List.length_drop]; omega)) only [hs, hlen, eg, ↓aPre, aPost, oneW, allOne, retV, retVA, simprocAttr]
      refine round_of ⟨k + 1, IntKind.i64.wrap (T + ((fl l k).2.2.length : Int)), by omega, ?_⟩ ?_
      · simp -dsimp -implicitDefEqProofs (disch := first | omega | (simp only [List.length_append, List.length_cons, List.length_nil, List.length_take, List.length_drop]; omega)) only [hs, ↓aPre, aPost, oneW, allOne, retV, retVA, simprocAttr]
      · simp -dsimp -implicitDefEqProofs (disch := first | omega | (simp only [List.length_append, List.length_cons, List.length_nil, List.length_take, List.length_drop]; omega)) only [hs, ↓aPre, aPost, oneW, allOne, retV, retVA, simprocAttr]
        omega
    · obtain rfl : k = l.length := by omega
      simp -dsimp -implicitDefEqProofs (disch := first | omega | (simp only [List.length_append, List.length_cons, List.length_nil, List.length_take, List.length_drop]; omega)) only [hs, hlen, ↓aPre, aPost, oneW, allOne, retV, retVA, simprocAttr]
      exact post_eq (by rw [hB])
theorem wkS_ok {k : Int} {l : List Int} {big : Bool} (h : (wkS k l big).2 = 0) : (wkS k l big).1.length = (szI k).toNat * l.length := by
  unfold wkS at h ⊢
  split
  · rename_i c; rw [if_pos c] at h; exact absurd h (by decide)
  · rename_i c
    rw [if_neg c] at h
    split
    · rename_i d
      rw [cat_len (blf_len l big), show szI k = 8 by rcases d with rfl | rfl <;> decide, Nat.mul_comm]; rfl
    · rename_i d
      rw [if_neg d] at h
      split
      · rw [cat_len (bl1_len _ l big), Nat.mul_comm]
      · rename_i e; rw [if_neg e] at h; exact absurd h (by decide)
theorem ehd_len (f : Fld) (big large : Bool) : (ehd f big large).length + wd large = en large := by
  rw [ehd, List.length_append, List.length_append, putL_len, putL_len, putL_len]
  cases large <;> rfl
theorem wr_len (big large : Bool) (at_ base : Nat) : ∀ (l : List Fld) (out behind : List Int) (bad : Bool), (wrS big large at_ base l out behind bad).2 = 0 → (wrS big large at_ base l out behind bad).1.2.2 = false →
    bad = false ∧ (wrS big large at_ base l out behind bad).1.1.length = out.length + en large * l.length ∧ (wrS big large at_ base l out behind bad).1.2.1.length = behind.length + szT large l
  | [], out, behind, bad, _, h => ⟨h, by simp [wrS], by simp [wrS, szT]⟩
  | f :: l, out, behind, bad, h1, h2 => by
    have hel := ehd_len f big large
    rw [wrS] at h1 h2 ⊢
    by_cases he : (wkS f.2.1 f.2.2 big).2 = 0
    rotate_left
    · rw [if_pos he] at h1; exact absurd h1 he
    have hwl := wkS_ok he
    rw [if_neg (fun c => c he)] at h1 h2 ⊢
    by_cases hw : (wkS f.2.1 f.2.2 big).1.length ≤ wd large
    · rw [if_pos hw] at h1 h2 ⊢
      obtain ⟨q1, q2, q3⟩ := wr_len big large at_ base l _ _ _ h1 h2
      refine ⟨q1, ?_, ?_⟩
      · rw [q2, List.length_append, List.length_append, List.length_append, zs, List.length_replicate, List.length_cons, Nat.mul_succ]
        omega
      · rw [q3, szT, szF, if_neg (by rw [← hwl]; omega), Nat.zero_add]
    · rw [if_neg hw] at h1 h2 ⊢
      by_cases ho : 18446744073709551616 ≤ at_ + (base + behind.length)
      · rw [if_pos ho] at h1; exact absurd h1 (by decide)
      rw [if_neg ho] at h1 h2 ⊢
      obtain ⟨q1, q2, q3⟩ := wr_len big large at_ base l _ _ _ h1 h2
      rw [Bool.or_eq_false_iff] at q1
      have hfit := Decidable.of_not_not (of_decide_eq_false q1.2)
      refine ⟨q1.1, ?_, ?_⟩
      · rw [q2, List.length_append, List.length_append, ptS, if_pos hfit, putL_len, List.length_cons, Nat.mul_succ]
        omega
      · rw [q3, szT, szF, if_pos (by rw [← hwl]; omega), List.length_append, List.length_append, zs, List.length_replicate, hwl]
        omega
theorem wd_len {l : List Fld} {big large : Bool} {at_ next : Nat} (h : (wdS l big large at_ next).2 = 0) (hr : rtS l large = true) : (wdS l big large at_ next).1.length = szS l large := by
  rw [wdS] at h ⊢
  rw [if_neg (by rw [hr]; decide)] at h ⊢
  obtain ⟨S, hS⟩ : ∃ S, S = wrS big large at_ (ct large + en large * l.length + wd large) l (putL l.length (ct large) big) [] false := ⟨_, rfl⟩
  have key := wr_len big large at_ (ct large + en large * l.length + wd large) l (putL l.length (ct large) big) [] false
  rw [← hS] at h key ⊢
  by_cases h1 : S.2 = 0
  rotate_left
  · rw [if_pos h1] at h; exact absurd h h1
  rw [if_neg (fun c => c h1)] at h ⊢
  by_cases h2 : S.1.2.2 = true ∨ ¬ next < 256 ^ wd large
  · rw [if_pos h2] at h; exact absurd h (by decide)
  rw [if_neg h2]
  obtain ⟨-, k2, k3⟩ := key h1 (by cases h3 : S.1.2.2 with | false => rfl | true => exact absurd (.inl h3) h2)
  simp only [List.length_append, putL_len, k2, k3, List.length_nil, szS]
  omega
theorem ifdWrites_giv (y0 : List ((Int) × (Int) × (List Int))) (h0 : (y0.length * 40 ≤ 140737488351232 ∧ ∀ e ∈ y0, ((0 ≤ e.1 ∧ e.1 ≤ 65535) ∧ (-9223372036854775808 ≤ e.2.1 ∧ e.2.1 ≤ 9223372036854775807) ∧ (e.2.2.length * 8 ≤ 140737488351232 ∧ ∀ z ∈ e.2.2, 0 ≤ z ∧ z ≤ 18446744073709551615)))) (y1 : (Bool) × (Bool) × (Int)) (h1 : (True ∧ True ∧ (0 ≤ y1.2.2 ∧ y1.2.2 ≤ 18446744073709551615))) (y2 : (Int) × (Int)) (h2 : ((0 ≤ y2.1 ∧ y2.1 ≤ 18446744073709551615) ∧ (0 ≤ y2.2 ∧ y2.2 ≤ 18446744073709551615))) : Giv Try.prog 4 [.lst 3 (y0.map fun y => .agg [.c (.int .u16 y.1), .c (.int .i64 y.2.1), .lst 1 (li .u64 y.2.2)]), .agg [.c (.bool y1.1), .c (.bool y1.2.1), .c (.int .u64 y1.2.2)], .agg [.c (.int .u64 y2.1), .c (.int .u64 y2.2)]] (.d (.c (.bool true))) := by
  obtain ⟨big, large, first⟩ := y1
  obtain ⟨at_, next⟩ := y2
  obtain ⟨⟨ha, ha2⟩, ⟨hn, hn2⟩⟩ := h2
  dsimp only at ha ha2 hn hn2 ⊢
  obtain ⟨at_, rfl⟩ := Int.eq_ofNat_of_zero_le ha
  obtain ⟨next, rfl⟩ := Int.eq_ofNat_of_zero_le hn
  rw [show (y0.map fun y => D.agg [.c (.int .u16 y.1), .c (.int .i64 y.2.1), .lst 1 (li .u64 y.2.2)]) = y0.map fldD from rfl]
  have hl : y0.length ≤ 140737488351232 := by omega
  have hv : ∀ f ∈ y0, f.2.2.length ≤ 140737488351232 := fun f hf => by have := (h0.2 f hf).2.2.1; omega
  have hfew := few_giv y0 hl hv
  refine Giv.of (out := [.c (.bool true)]) mixed c4 (Nat.le_of_ble_eq_true rfl) ?_
  simp -dsimp -implicitDefEqProofs (disch := first | omega | (simp only [List.length_append, List.length_cons, List.length_nil, List.length_take, List.length_drop]; omega)) only [a4, ↓aPre, aPost, oneW, allOne, retV, retVA, simprocAttr]
  refine call_giv lives_giv ?_
  by_cases hf : y0.length ≤ 70 ∧ vsum y0 ≤ 300
  rotate_left
  · rw [decide_eq_false hf] at hfew
    simp -dsimp -implicitDefEqProofs (disch := first | omega | (simp only [List.length_append, List.length_cons, List.length_nil, List.length_take, List.length_drop]; omega)) only [↓aPre, aPost, oneW, allOne, retV, retVA, simprocAttr]
    refine call_giv hfew ?_
    simp -dsimp -implicitDefEqProofs (disch := first | omega | (simp only [List.length_append, List.length_cons, List.length_nil, List.length_take, List.length_drop]; omega)) only [↓aPre, aPost, oneW, allOne, retV, retVA, simprocAttr]
    refine call_giv lives_giv ?_
    simp -dsimp -implicitDefEqProofs (disch := first | omega | (simp only [List.length_append, List.length_cons, List.length_nil, List.length_take, List.length_drop]; omega)) only [↓aPre, aPost, oneW, allOne, retV, retVA, simprocAttr]
    exact post_eq rfl
  rw [decide_eq_true hf] at hfew
  have hFR : ∀ f ∈ y0, FR f := fun f hx => by
    have h3 := h0.2 f hx
    refine ⟨by omega, fun z hz => ?_, ?_⟩
    · have := h3.2.2.2 z hz; omega
    · have := vsum_mem hx; omega
  have g1 := write_giv y0 big large first at_ next hl hFR (by omega) (by omega)
  have g2 := rwrite_giv y0 big large first at_ next hl hFR (by omega) (by omega)
  have g3 := size_giv y0 large hl hv
  have g4 := rright_giv y0 large hl hv
  have key := wd_len (l := y0) (big := big) (large := large) (at_ := at_) (next := next)
  obtain ⟨W, hW⟩ : ∃ W, W = wdS y0 big large at_ next := ⟨_, rfl⟩
  rw [← hW] at g1 g2 key
  rw [hD] at g1 g2
  simp -dsimp -implicitDefEqProofs (disch := first | omega | (simp only [List.length_append, List.length_cons, List.length_nil, List.length_take, List.length_drop]; omega)) only [↓aPre, aPost, oneW, allOne, retV, retVA, simprocAttr]
  refine call_giv hfew ?_
  simp -dsimp -implicitDefEqProofs (disch := first | omega | (simp only [List.length_append, List.length_cons, List.length_nil, List.length_take, List.length_drop]; omega)) only [↓aPre, aPost, oneW, allOne, retV, retVA, simprocAttr]
  refine call_giv g1 ?_
  simp -dsimp -implicitDefEqProofs (disch := first | omega | (simp only [List.length_append, List.length_cons, List.length_nil, List.length_take, List.length_drop]; omega)) only [↓aPre, aPost, oneW, allOne, retV, retVA, simprocAttr]
  refine call_giv g2 ?_
  simp -dsimp -implicitDefEqProofs (disch := first | omega | (simp only [List.length_append, List.length_cons, List.length_nil, List.length_take, List.length_drop]; omega)) only [↓aPre, aPost, oneW, allOne, retV, retVA, simprocAttr]
  by_cases hr : rtS y0 large = true
  · rw [hr] at g4
    rw [if_pos hr] at g3
    refine call_giv g3 ?_
    simp -dsimp -implicitDefEqProofs (disch := first | omega | (simp only [List.length_append, List.length_cons, List.length_nil, List.length_take, List.length_drop]; omega)) only [beq_self_eq_true, bne_self_eq_false, ↓aPre, aPost, oneW, allOne, retV, retVA, simprocAttr]
    refine call_giv g4 ?_
    by_cases he : W.2 = 0
    · have hk := key he hr
      have hkI : (W.1.length : Int) = (szS y0 large : Int) := by omega
      simp -dsimp -implicitDefEqProofs (disch := first | omega | (simp only [List.length_append, List.length_cons, List.length_nil, List.length_take, List.length_drop]; omega)) only [he, hkI, beq_self_eq_true, ↓aPre, aPost, oneW, allOne, retV, retVA, simprocAttr]
      exact post_eq rfl
    · simp -dsimp -implicitDefEqProofs (disch := first | omega | (simp only [List.length_append, List.length_cons, List.length_nil, List.length_take, List.length_drop]; omega)) only [ibne_t he, ↓aPre, aPost, oneW, allOne, retV, retVA, simprocAttr]
      exact post_eq rfl
  · have hr : rtS y0 large = false := by simpa using hr
    rw [hr] at g4 g3
    rw [if_neg (by decide)] at g3
    refine call_giv g3 ?_
    simp -dsimp -implicitDefEqProofs (disch := first | omega | (simp only [List.length_append, List.length_cons, List.length_nil, List.length_take, List.length_drop]; omega)) only [beq_self_eq_true, bne_self_eq_false, ↓aPre, aPost, oneW, allOne, retV, retVA, simprocAttr]
    refine call_giv g4 ?_
    simp -dsimp -implicitDefEqProofs (disch := first | omega | (simp only [List.length_append, List.length_cons, List.length_nil, List.length_take, List.length_drop]; omega)) only [↓aPre, aPost, oneW, allOne, retV, retVA, simprocAttr]
    exact post_eq rfl
end Go.Proofs.Ytkdkhngdilhneaa

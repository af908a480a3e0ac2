/- IfdReads: the law's function gives true of all data. No condition but that whole numbers are of their kinds. -/
import Derived.Test.YtkdkhngdilhneaaWChain
import Derived.Test.YtkdkhngdilhneaaLHeads
set_option linter.unusedSimpArgs false
set_option linter.unusedVariables false
set_option maxRecDepth 8000
set_option maxHeartbeats 4000000
namespace Go.Proofs.Ytkdkhngdilhneaa
open Go.Eng Go.RowKit
def a5 : AFn := ⟨84, (.seq (.ops [⟨(.some 4), (.box 4 3 (.tmp 1)), .none⟩, ⟨(.some 6), (.mov (.const (.bool false))), .none⟩]) (.seq (.seq (.ops [⟨(.some 16), (.call 16 7 []), .none⟩, ⟨(.some 17), (.un .not (.tmp 16)), .none⟩, ⟨(.some 18), (.mov (.tmp 17)), .none⟩, ⟨(.some 19), (.mov (.tmp 0)), (.some (18, false))⟩, ⟨(.some 20), (.len (.tmp 19)), (.some (18, false))⟩, ⟨(.some 21), (.bin .gtr (.tmp 20) (.const (.int .i64 2000))), (.some (18, false))⟩, ⟨(.some 22), (.pick (.tmp 18) (.const (.bool true)) (.tmp 21)), .none⟩]) (.cond (.tmp 22) (.seq (.ops [⟨(.some 23), (.call 23 7 []), .none⟩, ⟨(.some 6), (.mov (.tmp 23)), .none⟩]) .ret) .skip)) (.seq (.ops [⟨(.some 24), (.lit0 24 1), .none⟩, ⟨(.some 25), (.mov (.tmp 0)), .none⟩, ⟨(.some 26), (.app 26 1 1 (.tmp 24) (.tmp 25)), .none⟩, ⟨(.some 7), (.mov (.tmp 26)), .none⟩]) (.seq (.ops [⟨(.some 28), (.mov (.tmp 7)), .none⟩, ⟨(.some 29), (.ldn 3 (.tmp 4)), .none⟩, ⟨(.some 30), (.fadr 2 (.tmp 4)), .none⟩, ⟨(.some 31), (.ld (.tmp 30)), .none⟩, ⟨(.some 32), (.call 32 18 [(.tmp 28), (.tmp 29), (.tmp 31)]), .none⟩, ⟨(.some 27), (.mov (.tmp 32)), .none⟩, ⟨(.some 33), (.ext (.tmp 27) 0), .none⟩, ⟨(.some 34), (.ext (.tmp 27) 1), .none⟩, ⟨(.some 8), (.alloc 8 [(.int .u64 0), (.int .u64 0), (.slice .none 0 0)]), .none⟩, ⟨.none, (.st 3 (.tmp 8) (.tmp 33)), .none⟩, ⟨(.some 9), (.mov (.tmp 34)), .none⟩]) (.seq (.ops [⟨(.some 36), (.mov (.tmp 0)), .none⟩, ⟨(.some 37), (.cvS (.tmp 36)), .none⟩, ⟨(.some 38), (.ldn 3 (.tmp 4)), .none⟩, ⟨(.some 39), (.fadr 2 (.tmp 4)), .none⟩, ⟨(.some 40), (.ld (.tmp 39)), .none⟩, ⟨(.some 41), (.call 41 19 [(.tmp 37), (.tmp 38), (.tmp 40)]), .none⟩, ⟨(.some 35), (.mov (.tmp 41)), .none⟩, ⟨(.some 42), (.ext (.tmp 35) 0), .none⟩, ⟨(.some 43), (.ext (.tmp 35) 1), .none⟩, ⟨(.some 10), (.alloc 10 [(.int .u64 0), (.int .u64 0), (.slice .none 0 0)]), .none⟩, ⟨.none, (.st 3 (.tmp 10) (.tmp 42)), .none⟩, ⟨(.some 11), (.mov (.tmp 43)), .none⟩]) (.seq (.ops [⟨(.some 45), (.mov (.tmp 7)), .none⟩, ⟨(.some 46), (.ldn 3 (.tmp 4)), .none⟩, ⟨(.some 47), (.mov (.tmp 2)), .none⟩, ⟨(.some 48), (.call 48 20 [(.tmp 45), (.tmp 46), (.tmp 47)]), .none⟩, ⟨(.some 44), (.mov (.tmp 48)), .none⟩, ⟨(.some 49), (.ext (.tmp 44) 0), .none⟩, ⟨(.some 50), (.ext (.tmp 44) 1), .none⟩, ⟨(.some 12), (.mov (.tmp 49)), .none⟩, ⟨(.some 13), (.mov (.tmp 50)), .none⟩]) (.seq (.ops [⟨(.some 52), (.mov (.tmp 0)), .none⟩, ⟨(.some 53), (.cvS (.tmp 52)), .none⟩, ⟨(.some 54), (.ldn 3 (.tmp 4)), .none⟩, ⟨(.some 55), (.mov (.tmp 2)), .none⟩, ⟨(.some 56), (.call 56 21 [(.tmp 53), (.tmp 54), (.tmp 55)]), .none⟩, ⟨(.some 51), (.mov (.tmp 56)), .none⟩, ⟨(.some 57), (.ext (.tmp 51) 0), .none⟩, ⟨(.some 58), (.ext (.tmp 51) 1), .none⟩, ⟨(.some 14), (.mov (.tmp 57)), .none⟩, ⟨(.some 15), (.mov (.tmp 58)), .none⟩]) (.seq (.ops [⟨(.some 59), (.ldn 3 (.tmp 8)), .none⟩, ⟨(.some 60), (.ldn 3 (.tmp 10)), .none⟩, ⟨(.some 61), (.call 61 22 [(.tmp 59), (.tmp 60)]), .none⟩, ⟨(.some 62), (.mov (.tmp 61)), .none⟩, ⟨(.some 63), (.mov (.tmp 9)), (.some (62, true))⟩, ⟨(.some 64), (.mov (.tmp 11)), (.some (62, true))⟩, ⟨(.some 65), (.bin .eql (.tmp 63) (.tmp 64)), (.some (62, true))⟩, ⟨(.some 66), (.pick (.tmp 62) (.tmp 65) (.const (.bool false))), .none⟩, ⟨(.some 67), (.mov (.tmp 66)), .none⟩, ⟨(.some 68), (.mov (.tmp 12)), (.some (67, true))⟩, ⟨(.some 69), (.mov (.tmp 14)), (.some (67, true))⟩, ⟨(.some 70), (.call 70 23 [(.tmp 68), (.tmp 69)]), (.some (67, true))⟩, ⟨(.some 71), (.pick (.tmp 67) (.tmp 70) (.const (.bool false))), .none⟩, ⟨(.some 72), (.mov (.tmp 71)), .none⟩, ⟨(.some 73), (.mov (.tmp 13)), (.some (72, true))⟩, ⟨(.some 74), (.mov (.tmp 15)), (.some (72, true))⟩, ⟨(.some 75), (.bin .eql (.tmp 73) (.tmp 74)), (.some (72, true))⟩, ⟨(.some 76), (.pick (.tmp 72) (.tmp 75) (.const (.bool false))), .none⟩, ⟨(.some 77), (.mov (.tmp 76)), .none⟩, ⟨(.some 78), (.mov (.tmp 7)), (.some (77, true))⟩, ⟨(.some 79), (.cvS (.tmp 78)), (.some (77, true))⟩, ⟨(.some 80), (.mov (.tmp 0)), (.some (77, true))⟩, ⟨(.some 81), (.cvS (.tmp 80)), (.some (77, true))⟩, ⟨(.some 82), (.bin .eql (.tmp 79) (.tmp 81)), (.some (77, true))⟩, ⟨(.some 83), (.pick (.tmp 77) (.tmp 82) (.const (.bool false))), .none⟩, ⟨(.some 6), (.mov (.tmp 83)), .none⟩]) .ret)))))))), [(6, .none)]⟩
theorem c5 : cmpF Try.prog [] [] 5 = some a5 := by kernel_rfl
theorem ent_small {b w : List Int} {big large : Bool} {f : Fld} (h : entS b w big large = (some f, 0)) : f.2.2.length ≤ 65536 := by
  unfold entS at h
  split at h
  · cases h
  · split at h
    · cases h
    · rename_i hc
      split at h
      · split at h
        · cases h
        · injection h with h _
          injection h with h
          subst h
          simp only [valsF_len]
          omega
      · injection h with h _
        injection h with h
        subst h
        simp only [valsF_len]
        omega
theorem rd_small {b : List Int} {big large : Bool} : ∀ (k p : Nat) (was : Int) (acc : List Fld), (∀ f ∈ acc, f.2.2.length ≤ 65536) → (rdS b big large k p was acc).1.length ≤ acc.length + k ∧ ∀ f ∈ (rdS b big large k p was acc).1, f.2.2.length ≤ 65536
  | 0, p, was, acc, h => ⟨by simp [rdS], by simpa [rdS] using h⟩
  | k + 1, p, was, acc, h => by
    rw [rdS]
    split
    · exact ⟨Nat.zero_le _, fun _ h => by cases h⟩
    · split
      · exact ⟨Nat.zero_le _, fun _ h => by cases h⟩
      · split
        · exact ⟨Nat.zero_le _, fun _ h => by cases h⟩
        · rename_i he
          obtain ⟨E, hE⟩ : ∃ E, E = entS b ((b.drop p).take (en large)) big large := ⟨_, rfl⟩
          rw [← hE] at he ⊢
          obtain ⟨o, e⟩ := E
          have he : e = 0 := Decidable.of_not_not he
          subst he
          cases o with
          | none =>
            have := rd_small (b := b) (big := big) (large := large) k (p + en large) (gk ((b.drop p).take (en large)) 0 2 big) (acc ++ []) (by simpa using h)
            simp only [Option.toList] at this ⊢
            refine ⟨?_, this.2⟩
            have := this.1
            simp only [List.length_append, List.length_nil] at this
            omega
          | some f =>
            have := rd_small (b := b) (big := big) (large := large) k (p + en large) (gk ((b.drop p).take (en large)) 0 2 big) (acc ++ [f]) (fun x hx => by
              rcases List.mem_append.1 hx with hx | hx
              · exact h x hx
              · obtain rfl : x = f := by simpa using hx
                exact ent_small hE.symm)
            simp only [Option.toList] at this ⊢
            refine ⟨?_, this.2⟩
            have := this.1
            simp only [List.length_append, List.length_cons, List.length_nil] at this
            omega
def Sml (d : Dr) : Prop := d.2.2.length ≤ 1000000 ∧ ∀ f ∈ d.2.2, f.2.2.length ≤ 1000000
theorem dir_small (b : List Int) (big large : Bool) (a : Nat) : Sml (dirS b big large a).1 := by
  have hz : Sml ((0, 0, []) : Dr) := ⟨Nat.zero_le _, fun _ h => by cases h⟩
  unfold dirS
  split
  · exact hz
  · split
    · exact hz
    · rename_i hg
      split
      · exact hz
      · split
        · exact hz
        · have := rd_small (b := b) (big := big) (large := large) (gk b a (ct large) big).toNat (a + ct large) (-1) [] (fun _ h => by cases h)
          refine ⟨?_, fun f hf => Nat.le_trans (this.2 f hf) (by decide)⟩
          have := this.1
          simp only [List.length_nil] at this ⊢
          omega
theorem chn_small (b : List Int) (big large : Bool) (most : Int) : ∀ (k a : Nat) (out : List Dr), (∀ d ∈ out, Sml d) → (chn b big large most k a out).1.length ≤ out.length + k ∧ ∀ d ∈ (chn b big large most k a out).1, Sml d
  | 0, a, out, h => ⟨Nat.zero_le _, fun _ h => by cases h⟩
  | k + 1, a, out, h => by
    rw [chn]
    split
    · exact ⟨Nat.le_add_right _ _, h⟩
    · split
      · exact ⟨Nat.zero_le _, fun _ h => by cases h⟩
      · split
        · exact ⟨Nat.zero_le _, fun _ h => by cases h⟩
        · split
          · exact ⟨Nat.zero_le _, fun _ h => by cases h⟩
          · have := chn_small b big large most k (dirS b big large a).1.2.1.toNat (out ++ [(dirS b big large a).1]) (fun x hx => by
              rcases List.mem_append.1 hx with hx | hx
              · exact h x hx
              · obtain rfl : x = (dirS b big large a).1 := by simpa using hx
                exact dir_small b big large a)
            rw [snoc_len] at this
            exact ⟨by omega, this.2⟩
theorem ifdReads_giv (y0 : List Int) (h0 : (y0.length * 1 ≤ 140737488351232 ∧ ∀ z ∈ y0, 0 ≤ z ∧ z ≤ 255)) (y1 : (Bool) × (Bool) × (Int)) (h1 : (True ∧ True ∧ (0 ≤ y1.2.2 ∧ y1.2.2 ≤ 18446744073709551615))) (y2 : Int) (h2 : (-9223372036854775808 ≤ y2 ∧ y2 ≤ 9223372036854775807)) : Giv Try.prog 5 [.lst 1 (li .u8 y0), .agg [.c (.bool y1.1), .c (.bool y1.2.1), .c (.int .u64 y1.2.2)], .c (.int .i64 y2)] (.d (.c (.bool true))) := by
  obtain ⟨big, wide, at_⟩ := y1
  obtain ⟨-, -, ha⟩ := h1
  have hl0 := h0.1
  dsimp only at ha
  obtain ⟨at_, rfl⟩ := Int.eq_ofNat_of_zero_le ha.1
  have hat : at_ < 18446744073709551616 := by omega
  have hB : Bytes y0 := fun z hz => by have := h0.2 z hz; omega
  refine Giv.of (out := [.c (.bool true)]) mixed c5 (Nat.le_of_ble_eq_true rfl) ?_
  simp -dsimp -implicitDefEqProofs (disch := first | omega | (simp only [List.length_append, List.length_cons, List.length_nil, List.length_take, List.length_drop]; omega)) only [a5, ↓aPre, aPost, oneW, allOne, retV, retVA, ↓reduceIte, reduceCtorEq, Nat.reduceAdd, Nat.reduceSub, Nat.reduceMul, Nat.reduceLT, Nat.reduceLeDiff, Nat.reduceEqDiff, Nat.reduceDiv, Nat.reduceMod, Nat.reducePow, Int.reduceAdd, Int.reduceSub, Int.reduceMul, Int.reduceLT, Int.reduceLE, Int.reduceEq, Int.reduceNe, Int.reducePow, Int.reduceToNat, Int.reduceNeg]
  refine call_giv lives_giv ?_
  by_cases hb : y0.length > 2000
  · have hb' : (y0.length : Int) > 2000 := by omega
    simp -dsimp -implicitDefEqProofs (disch := first | omega | (simp only [List.length_append, List.length_cons, List.length_nil, List.length_take, List.length_drop]; omega)) only [hb', ↓aPre, aPost, oneW, allOne, retV, retVA, ↓reduceIte, reduceCtorEq, Nat.reduceAdd, Nat.reduceSub, Nat.reduceMul, Nat.reduceLT, Nat.reduceLeDiff, Nat.reduceEqDiff, Nat.reduceDiv, Nat.reduceMod, Nat.reducePow, Int.reduceAdd, Int.reduceSub, Int.reduceMul, Int.reduceLT, Int.reduceLE, Int.reduceEq, Int.reduceNe, Int.reducePow, Int.reduceToNat, Int.reduceNeg]
    refine call_giv lives_giv ?_
    simp -dsimp -implicitDefEqProofs (disch := first | omega | (simp only [List.length_append, List.length_cons, List.length_nil, List.length_take, List.length_drop]; omega)) only [↓aPre, aPost, oneW, allOne, retV, retVA, ↓reduceIte, reduceCtorEq, Nat.reduceAdd, Nat.reduceSub, Nat.reduceMul, Nat.reduceLT, Nat.reduceLeDiff, Nat.reduceEqDiff, Nat.reduceDiv, Nat.reduceMod, Nat.reducePow, Int.reduceAdd, Int.reduceSub, Int.reduceMul, Int.reduceLT, Int.reduceLE, Int.reduceEq, Int.reduceNe, Int.reducePow, Int.reduceToNat, Int.reduceNeg]
    exact post_eq rfl
  have hb' : ¬ (y0.length : Int) > 2000 := by omega
  have g1 := read_giv y0 big wide at_ at_ (by omega) hB hat
  have g2 := rread_giv y0 big wide at_ at_ (by omega) hB hat
  have g3 := chain_giv y0 big wide at_ y2 (by omega) hB hat
  have g4 := rchain_giv y0 big wide at_ y2 (by omega) hB hat
  have s1 := dir_small y0 big wide at_
  obtain ⟨s3, s4⟩ := chn_small y0 big wide y2 (y0.length + 2) at_ [] (fun _ h => by cases h)
  rw [List.length_nil] at s3
  obtain ⟨r, hr⟩ : ∃ r, r = dirS y0 big wide at_ := ⟨_, rfl⟩
  obtain ⟨q, hq⟩ : ∃ q, q = chn y0 big wide y2 (y0.length + 2) at_ [] := ⟨_, rfl⟩
  rw [← hr] at g1 g2 s1
  rw [← hq] at g3 g4 s3 s4
  have g5 := like_giv r.1 s1
  have g6 := dsame_giv q.1 (by omega) s4
  rw [dirE, dirD, hD] at g1 g2
  rw [hD] at g3 g4
  rw [dirD] at g5
  simp -dsimp -implicitDefEqProofs (disch := first | omega | (simp only [List.length_append, List.length_cons, List.length_nil, List.length_take, List.length_drop]; omega)) only [hb', ↓aPre, aPost, oneW, allOne, retV, retVA, ↓reduceIte, reduceCtorEq, Nat.reduceAdd, Nat.reduceSub, Nat.reduceMul, Nat.reduceLT, Nat.reduceLeDiff, Nat.reduceEqDiff, Nat.reduceDiv, Nat.reduceMod, Nat.reducePow, Int.reduceAdd, Int.reduceSub, Int.reduceMul, Int.reduceLT, Int.reduceLE, Int.reduceEq, Int.reduceNe, Int.reducePow, Int.reduceToNat, Int.reduceNeg]
  refine call_giv g1 ?_
  simp -dsimp -implicitDefEqProofs (disch := first | omega | (simp only [List.length_append, List.length_cons, List.length_nil, List.length_take, List.length_drop]; omega)) only [↓aPre, aPost, oneW, allOne, retV, retVA, ↓reduceIte, reduceCtorEq, Nat.reduceAdd, Nat.reduceSub, Nat.reduceMul, Nat.reduceLT, Nat.reduceLeDiff, Nat.reduceEqDiff, Nat.reduceDiv, Nat.reduceMod, Nat.reducePow, Int.reduceAdd, Int.reduceSub, Int.reduceMul, Int.reduceLT, Int.reduceLE, Int.reduceEq, Int.reduceNe, Int.reducePow, Int.reduceToNat, Int.reduceNeg]
  refine call_giv g2 ?_
  simp -dsimp -implicitDefEqProofs (disch := first | omega | (simp only [List.length_append, List.length_cons, List.length_nil, List.length_take, List.length_drop]; omega)) only [↓aPre, aPost, oneW, allOne, retV, retVA, ↓reduceIte, reduceCtorEq, Nat.reduceAdd, Nat.reduceSub, Nat.reduceMul, Nat.reduceLT, Nat.reduceLeDiff, Nat.reduceEqDiff, Nat.reduceDiv, Nat.reduceMod, Nat.reducePow, Int.reduceAdd, Int.reduceSub, Int.reduceMul, Int.reduceLT, Int.reduceLE, Int.reduceEq, Int.reduceNe, Int.reducePow, Int.reduceToNat, Int.reduceNeg]
  refine call_giv g3 ?_
  simp -dsimp -implicitDefEqProofs (disch := first | omega | (simp only [List.length_append, List.length_cons, List.length_nil, List.length_take, List.length_drop]; omega)) only [↓aPre, aPost, oneW, allOne, retV, retVA, ↓reduceIte, reduceCtorEq, Nat.reduceAdd, Nat.reduceSub, Nat.reduceMul, Nat.reduceLT, Nat.reduceLeDiff, Nat.reduceEqDiff, Nat.reduceDiv, Nat.reduceMod, Nat.reducePow, Int.reduceAdd, Int.reduceSub, Int.reduceMul, Int.reduceLT, Int.reduceLE, Int.reduceEq, Int.reduceNe, Int.reducePow, Int.reduceToNat, Int.reduceNeg]
  refine call_giv g4 ?_
  simp -dsimp -implicitDefEqProofs (disch := first | omega | (simp only [List.length_append, List.length_cons, List.length_nil, List.length_take, List.length_drop]; omega)) only [↓aPre, aPost, oneW, allOne, retV, retVA, ↓reduceIte, reduceCtorEq, Nat.reduceAdd, Nat.reduceSub, Nat.reduceMul, Nat.reduceLT, Nat.reduceLeDiff, Nat.reduceEqDiff, Nat.reduceDiv, Nat.reduceMod, Nat.reducePow, Int.reduceAdd, Int.reduceSub, Int.reduceMul, Int.reduceLT, Int.reduceLE, Int.reduceEq, Int.reduceNe, Int.reducePow, Int.reduceToNat, Int.reduceNeg]
  refine call_giv g5 ?_
  simp -dsimp -implicitDefEqProofs (disch := first | omega | (simp only [List.length_append, List.length_cons, List.length_nil, List.length_take, List.length_drop]; omega)) only [Bool.and_true, beq_self_eq_true, ↓aPre, aPost, oneW, allOne, retV, retVA, ↓reduceIte, reduceCtorEq, Nat.reduceAdd, Nat.reduceSub, Nat.reduceMul, Nat.reduceLT, Nat.reduceLeDiff, Nat.reduceEqDiff, Nat.reduceDiv, Nat.reduceMod, Nat.reducePow, Int.reduceAdd, Int.reduceSub, Int.reduceMul, Int.reduceLT, Int.reduceLE, Int.reduceEq, Int.reduceNe, Int.reducePow, Int.reduceToNat, Int.reduceNeg]
  refine call_giv g6 ?_
  simp -dsimp -implicitDefEqProofs (disch := first | omega | (simp only [List.length_append, List.length_cons, List.length_nil, List.length_take, List.length_drop]; omega)) only [Bool.and_true, beq_self_eq_true, ↓aPre, aPost, oneW, allOne, retV, retVA, ↓reduceIte, reduceCtorEq, Nat.reduceAdd, Nat.reduceSub, Nat.reduceMul, Nat.reduceLT, Nat.reduceLeDiff, Nat.reduceEqDiff, Nat.reduceDiv, Nat.reduceMod, Nat.reducePow, Int.reduceAdd, Int.reduceSub, Int.reduceMul, Int.reduceLT, Int.reduceLE, Int.reduceEq, Int.reduceNe, Int.reducePow, Int.reduceToNat, Int.reduceNeg]
  exact post_eq rfl
end Go.Proofs.Ytkdkhngdilhneaa

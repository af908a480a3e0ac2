/- May fields be a directory's; how many bytes it has; are there few? No condition but what each says. -/
import Derived.Test.YtkdkhngdilhneaaWWs
set_option linter.unusedSimpArgs false
set_option linter.unusedVariables false
set_option maxRecDepth 8000
set_option maxHeartbeats 4000000
namespace Go.Proofs.Ytkdkhngdilhneaa
open Go.Eng Go.RowKit
def a13 : AFn := ⟨25, (.seq (.ops [⟨(.some 2), (.mov (.const (.bool false))), .none⟩]) (.seq (.ops [⟨(.some 3), (.mov (.const (.int .i64 0))), .none⟩]) (.seq (.seq (.ops [⟨(.some 6), (.mov (.tmp 0)), .none⟩, ⟨(.some 7), (.len (.tmp 6)), .none⟩, ⟨(.some 8), (.mov (.const (.int .i64 0))), .none⟩]) (.block 0 (.loop (.seq (.ops [⟨(.some 9), (.bin .lss (.tmp 8) (.tmp 7)), .none⟩]) (.seq (.cond (.tmp 9) .skip (.exit 0)) (.seq (.block 1 (.seq (.ops [⟨(.some 10), (.iadr 3 (.tmp 6) (.tmp 8)), .none⟩, ⟨(.some 11), (.ldn 3 (.tmp 10)), .none⟩, ⟨(.some 5), (.alloc 5 [(.int .u16 0), (.int .i64 0), (.slice .none 0 0)]), .none⟩, ⟨.none, (.st 3 (.tmp 5) (.tmp 11)), .none⟩]) (.ops [⟨(.some 12), (.mov (.tmp 3)), .none⟩, ⟨(.some 13), (.fadr 2 (.tmp 5)), .none⟩, ⟨(.some 14), (.ld (.tmp 13)), .none⟩, ⟨(.some 15), (.len (.tmp 14)), .none⟩, ⟨(.some 16), (.bin .add (.tmp 12) (.tmp 15)), .none⟩, ⟨(.some 3), (.mov (.tmp 16)), .none⟩]))) (.ops [⟨(.some 17), (.bin .add (.tmp 8) (.const (.int .i64 1))), .none⟩, ⟨(.some 8), (.mov (.tmp 17)), .none⟩]))))))) (.seq (.ops [⟨(.some 18), (.mov (.tmp 0)), .none⟩, ⟨(.some 19), (.len (.tmp 18)), .none⟩, ⟨(.some 20), (.bin .leq (.tmp 19) (.const (.int .i64 70))), .none⟩, ⟨(.some 21), (.mov (.tmp 20)), .none⟩, ⟨(.some 22), (.mov (.tmp 3)), (.some (21, true))⟩, ⟨(.some 23), (.bin .leq (.tmp 22) (.const (.int .i64 300))), (.some (21, true))⟩, ⟨(.some 24), (.pick (.tmp 21) (.tmp 23) (.const (.bool false))), .none⟩, ⟨(.some 2), (.mov (.tmp 24)), .none⟩]) .ret)))), [(2, .none)]⟩
theorem c13 : cmpF Try.prog [] [] 13 = some a13 := by kernel_rfl
def a16 : AFn := ⟨61, (.seq (.ops [⟨(.some 4), (.mov (.const (.int .i64 0))), .none⟩, ⟨(.some 5), (.mov (.const (.int .i64 0))), .none⟩]) (.seq (.seq (.ops [⟨(.some 15), (.mov (.tmp 0)), .none⟩, ⟨(.some 16), (.mov (.tmp 1)), .none⟩, ⟨(.some 17), (.call 17 30 [(.tmp 15), (.tmp 16)]), .none⟩, ⟨(.some 18), (.un .not (.tmp 17)), .none⟩]) (.cond (.tmp 18) (.seq (.ops [⟨(.some 4), (.mov (.const (.int .i64 0))), .none⟩, ⟨(.some 5), (.mov (.const (.int .i64 1))), .none⟩]) .ret) .skip)) (.seq (.ops [⟨(.some 20), (.mov (.tmp 1)), .none⟩, ⟨(.some 21), (.call 21 26 [(.tmp 20)]), .none⟩, ⟨(.some 19), (.mov (.tmp 21)), .none⟩, ⟨(.some 22), (.ext (.tmp 19) 0), .none⟩, ⟨(.some 23), (.ext (.tmp 19) 1), .none⟩, ⟨(.some 24), (.ext (.tmp 19) 2), .none⟩, ⟨(.some 6), (.mov (.tmp 22)), .none⟩, ⟨(.some 7), (.mov (.tmp 23)), .none⟩, ⟨(.some 8), (.mov (.tmp 24)), .none⟩]) (.seq (.ops [⟨(.some 25), (.mov (.tmp 6)), .none⟩, ⟨(.some 26), (.mov (.tmp 7)), .none⟩, ⟨(.some 27), (.mov (.tmp 0)), .none⟩, ⟨(.some 28), (.len (.tmp 27)), .none⟩, ⟨(.some 29), (.bin .mul (.tmp 26) (.tmp 28)), .none⟩, ⟨(.some 30), (.bin .add (.tmp 25) (.tmp 29)), .none⟩, ⟨(.some 31), (.mov (.tmp 8)), .none⟩, ⟨(.some 32), (.bin .add (.tmp 30) (.tmp 31)), .none⟩, ⟨(.some 9), (.mov (.tmp 32)), .none⟩]) (.seq (.seq (.ops [⟨(.some 33), (.mov (.tmp 0)), .none⟩, ⟨(.some 34), (.len (.tmp 33)), .none⟩, ⟨(.some 35), (.mov (.const (.int .i64 0))), .none⟩]) (.block 0 (.loop (.seq (.ops [⟨(.some 36), (.bin .lss (.tmp 35) (.tmp 34)), .none⟩]) (.seq (.cond (.tmp 36) .skip (.exit 0)) (.seq (.block 1 (.seq (.ops [⟨(.some 37), (.iadr 3 (.tmp 33) (.tmp 35)), .none⟩, ⟨(.some 38), (.ldn 3 (.tmp 37)), .none⟩, ⟨(.some 11), (.alloc 11 [(.int .u16 0), (.int .i64 0), (.slice .none 0 0)]), .none⟩, ⟨.none, (.st 3 (.tmp 11) (.tmp 38)), .none⟩]) (.seq (.ops [⟨(.some 40), (.fadr 1 (.tmp 11)), .none⟩, ⟨(.some 41), (.ld (.tmp 40)), .none⟩, ⟨(.some 42), (.call 42 37 [(.tmp 41)]), .none⟩, ⟨(.some 39), (.mov (.tmp 42)), .none⟩, ⟨(.some 43), (.ext (.tmp 39) 0), .none⟩, ⟨(.some 44), (.ext (.tmp 39) 1), .none⟩, ⟨(.some 12), (.mov (.tmp 43)), .none⟩, ⟨(.some 13), (.mov (.tmp 44)), .none⟩]) (.seq (.ops [⟨(.some 45), (.mov (.tmp 12)), .none⟩, ⟨(.some 46), (.fadr 2 (.tmp 11)), .none⟩, ⟨(.some 47), (.ld (.tmp 46)), .none⟩, ⟨(.some 48), (.len (.tmp 47)), .none⟩, ⟨(.some 49), (.bin .mul (.tmp 45) (.tmp 48)), .none⟩, ⟨(.some 14), (.mov (.tmp 49)), .none⟩]) (.seq (.ops [⟨(.some 50), (.mov (.tmp 14)), .none⟩, ⟨(.some 51), (.mov (.tmp 8)), .none⟩, ⟨(.some 52), (.bin .gtr (.tmp 50) (.tmp 51)), .none⟩]) (.cond (.tmp 52) (.ops [⟨(.some 53), (.mov (.tmp 9)), .none⟩, ⟨(.some 54), (.mov (.tmp 14)), .none⟩, ⟨(.some 55), (.mov (.tmp 14)), .none⟩, ⟨(.some 56), (.bin .rem (.tmp 55) (.const (.int .i64 2))), .none⟩, ⟨(.some 57), (.bin .add (.tmp 54) (.tmp 56)), .none⟩, ⟨(.some 58), (.bin .add (.tmp 53) (.tmp 57)), .none⟩, ⟨(.some 9), (.mov (.tmp 58)), .none⟩]) .skip)))))) (.ops [⟨(.some 59), (.bin .add (.tmp 35) (.const (.int .i64 1))), .none⟩, ⟨(.some 35), (.mov (.tmp 59)), .none⟩]))))))) (.seq (.ops [⟨(.some 60), (.mov (.tmp 9)), .none⟩, ⟨(.some 4), (.mov (.tmp 60)), .none⟩, ⟨(.some 5), (.mov (.const (.int .i64 0))), .none⟩]) .ret)))))), [(4, .none), (5, .none)]⟩
theorem c16 : cmpF Try.prog [] [] 16 = some a16 := by kernel_rfl
def a17 : AFn := ⟨61, (.seq (.ops [⟨(.some 4), (.mov (.const (.bool false))), .none⟩]) (.seq (.seq (.ops [⟨(.some 5), (.mov (.const (.int .i64 0))), .none⟩]) (.block 0 (.loop (.seq (.seq (.ops [⟨(.some 6), (.mov (.tmp 5)), .none⟩, ⟨(.some 7), (.mov (.tmp 0)), .none⟩, ⟨(.some 8), (.len (.tmp 7)), .none⟩, ⟨(.some 9), (.bin .lss (.tmp 6) (.tmp 8)), .none⟩]) (.cond (.tmp 9) .skip (.exit 0))) (.seq (.block 1 (.seq (.draw [(⟨(.some 12), (.mov (.tmp 0)), .none⟩, (false, [])), (⟨(.some 13), (.mov (.tmp 5)), .none⟩, (false, [])), (⟨(.some 14), (.iadr 3 (.tmp 12) (.tmp 13)), .none⟩, (false, [])), (⟨(.some 15), (.fadr 1 (.tmp 14)), .none⟩, (false, [])), (⟨(.some 16), (.ld (.tmp 15)), .none⟩, (false, [])), (⟨(.some 17), (.call 17 38 [(.tmp 16)]), .none⟩, (false, [])), (⟨(.some 18), (.bin .eql (.tmp 17) (.const (.int .i64 0))), .none⟩, (false, [])), (⟨(.some 19), (.mov (.tmp 18)), .none⟩, (false, [])), (⟨(.some 20), (.mov (.tmp 0)), (.some (19, false))⟩, (false, [])), (⟨(.some 21), (.mov (.tmp 5)), (.some (19, false))⟩, (false, [])), (⟨(.some 22), (.iadr 3 (.tmp 20) (.tmp 21)), (.some (19, false))⟩, (false, [])), (⟨(.some 23), (.fadr 1 (.tmp 22)), (.some (19, false))⟩, (false, [])), (⟨(.some 24), (.ld (.tmp 23)), (.some (19, false))⟩, (false, [])), (⟨(.some 25), (.bin .geq (.tmp 24) (.const (.int .i64 16))), (.some (19, false))⟩, (false, [])), (⟨(.some 26), (.mov (.tmp 25)), (.some (19, false))⟩, (false, [])), (⟨(.some 27), (.mov (.tmp 1)), (.some (26, true))⟩, (false, [])), (⟨(.some 28), (.un .not (.tmp 27)), (.some (26, true))⟩, (false, [])), (⟨(.some 29), (.pick (.tmp 26) (.tmp 28) (.const (.bool false))), (.some (19, false))⟩, (false, [])), (⟨(.some 30), (.pick (.tmp 19) (.const (.bool true)) (.tmp 29)), .none⟩, (false, [])), (⟨(.some 31), (.mov (.tmp 30)), .none⟩, (false, [])), (⟨(.some 32), (.mov (.tmp 0)), (.some (31, false))⟩, (false, [])), (⟨(.some 33), (.mov (.tmp 5)), (.some (31, false))⟩, (false, [])), (⟨(.some 34), (.iadr 3 (.tmp 32) (.tmp 33)), (.some (31, false))⟩, (false, [])), (⟨(.some 35), (.fadr 2 (.tmp 34)), (.some (31, false))⟩, (false, [])), (⟨(.some 36), (.ld (.tmp 35)), (.some (31, false))⟩, (false, [])), (⟨(.some 37), (.len (.tmp 36)), (.some (31, false))⟩, (false, [])), (⟨(.some 38), (.bin .gtr (.tmp 37) (.const (.int .i64 65536))), (.some (31, false))⟩, (false, [])), (⟨(.some 39), (.pick (.tmp 31) (.const (.bool true)) (.tmp 38)), .none⟩, (false, [])), (⟨(.some 40), (.mov (.tmp 39)), .none⟩, (false, [])), (⟨(.some 41), (.mov (.tmp 5)), (.some (40, false))⟩, (false, [])), (⟨(.some 42), (.bin .gtr (.tmp 41) (.const (.int .i64 0))), (.some (40, false))⟩, (false, [])), (⟨(.some 43), (.mov (.tmp 42)), (.some (40, false))⟩, (false, [])), (⟨(.some 44), (.mov (.tmp 0)), (.some (43, true))⟩, (false, [])), (⟨(.some 45), (.mov (.tmp 5)), (.some (43, true))⟩, (false, [])), (⟨(.some 46), (.iadr 3 (.tmp 44) (.tmp 45)), (.some (43, true))⟩, (false, [])), (⟨(.some 47), (.fadr 0 (.tmp 46)), (.some (43, true))⟩, (false, [])), (⟨(.some 48), (.ld (.tmp 47)), (.some (43, true))⟩, (false, [])), (⟨(.some 49), (.mov (.tmp 0)), (.some (43, true))⟩, (false, [])), (⟨(.some 50), (.mov (.tmp 5)), (.some (43, true))⟩, (false, [])), (⟨(.some 51), (.bin .sub (.tmp 50) (.const (.int .i64 1))), (.some (43, true))⟩, (false, [])), (⟨(.some 52), (.iadr 3 (.tmp 49) (.tmp 51)), (.some (43, true))⟩, (false, [])), (⟨(.some 53), (.fadr 0 (.tmp 52)), (.some (43, true))⟩, (false, [])), (⟨(.some 54), (.ld (.tmp 53)), (.some (43, true))⟩, (false, [])), (⟨(.some 55), (.bin .leq (.tmp 48) (.tmp 54)), (.some (43, true))⟩, (false, [])), (⟨(.some 56), (.pick (.tmp 43) (.tmp 55) (.const (.bool false))), (.some (40, false))⟩, (false, [])), (⟨(.some 57), (.pick (.tmp 40) (.const (.bool true)) (.tmp 56)), .none⟩, (false, []))]) (.cond (.tmp 57) (.seq (.ops [⟨(.some 4), (.mov (.const (.bool false))), .none⟩]) .ret) .skip))) (.ops [⟨(.some 10), (.mov (.tmp 5)), .none⟩, ⟨(.some 11), (.bin .add (.tmp 10) (.const (.int .i64 1))), .none⟩, ⟨(.some 5), (.mov (.tmp 11)), .none⟩])))))) (.seq (.ops [⟨(.some 58), (.mov (.tmp 0)), .none⟩, ⟨(.some 59), (.len (.tmp 58)), .none⟩, ⟨(.some 60), (.bin .leq (.tmp 59) (.const (.int .i64 64))), .none⟩, ⟨(.some 4), (.mov (.tmp 60)), .none⟩]) .ret))), [(4, .none)]⟩
theorem c17 : cmpF Try.prog [] [] 17 = some a17 := by kernel_rfl
def a30 : AFn := ⟨58, (.seq (.ops [⟨(.some 4), (.mov (.const (.bool false))), .none⟩]) (.seq (.seq (.ops [⟨(.some 9), (.mov (.tmp 0)), .none⟩, ⟨(.some 10), (.len (.tmp 9)), .none⟩, ⟨(.some 11), (.bin .gtr (.tmp 10) (.const (.int .i64 64))), .none⟩]) (.cond (.tmp 11) (.seq (.ops [⟨(.some 4), (.mov (.const (.bool false))), .none⟩]) .ret) .skip)) (.seq (.seq (.ops [⟨(.some 12), (.mov (.tmp 0)), .none⟩, ⟨(.some 13), (.len (.tmp 12)), .none⟩, ⟨(.some 14), (.mov (.const (.int .i64 0))), .none⟩]) (.block 0 (.loop (.seq (.ops [⟨(.some 15), (.bin .lss (.tmp 14) (.tmp 13)), .none⟩]) (.seq (.cond (.tmp 15) .skip (.exit 0)) (.seq (.block 1 (.seq (.ops [⟨(.some 16), (.mov (.tmp 14)), .none⟩, ⟨(.some 17), (.iadr 3 (.tmp 12) (.tmp 14)), .none⟩, ⟨(.some 18), (.ldn 3 (.tmp 17)), .none⟩, ⟨(.some 6), (.alloc 6 [(.int .u16 0), (.int .i64 0), (.slice .none 0 0)]), .none⟩, ⟨(.some 5), (.mov (.tmp 16)), .none⟩, ⟨.none, (.st 3 (.tmp 6) (.tmp 18)), .none⟩]) (.seq (.ops [⟨(.some 20), (.fadr 1 (.tmp 6)), .none⟩, ⟨(.some 21), (.ld (.tmp 20)), .none⟩, ⟨(.some 22), (.call 22 37 [(.tmp 21)]), .none⟩, ⟨(.some 19), (.mov (.tmp 22)), .none⟩, ⟨(.some 23), (.ext (.tmp 19) 0), .none⟩, ⟨(.some 24), (.ext (.tmp 19) 1), .none⟩, ⟨(.some 7), (.mov (.tmp 23)), .none⟩, ⟨(.some 8), (.mov (.tmp 24)), .none⟩]) (.seq (.draw [(⟨(.some 25), (.mov (.tmp 8)), .none⟩, (false, [])), (⟨(.some 26), (.bin .neq (.tmp 25) (.const (.int .i64 0))), .none⟩, (false, [])), (⟨(.some 27), (.mov (.tmp 26)), .none⟩, (false, [])), (⟨(.some 28), (.fadr 1 (.tmp 6)), (.some (27, false))⟩, (false, [])), (⟨(.some 29), (.ld (.tmp 28)), (.some (27, false))⟩, (false, [])), (⟨(.some 30), (.call 30 50 [(.tmp 29)]), (.some (27, false))⟩, (false, [6])), (⟨(.some 31), (.mov (.tmp 30)), (.some (27, false))⟩, (false, [])), (⟨(.some 32), (.mov (.tmp 1)), (.some (31, true))⟩, (false, [])), (⟨(.some 33), (.un .not (.tmp 32)), (.some (31, true))⟩, (false, [])), (⟨(.some 34), (.pick (.tmp 31) (.tmp 33) (.const (.bool false))), (.some (27, false))⟩, (false, [])), (⟨(.some 35), (.pick (.tmp 27) (.const (.bool true)) (.tmp 34)), .none⟩, (false, [])), (⟨(.some 36), (.mov (.tmp 35)), .none⟩, (false, [])), (⟨(.some 37), (.fadr 2 (.tmp 6)), (.some (36, false))⟩, (false, [])), (⟨(.some 38), (.ld (.tmp 37)), (.some (36, false))⟩, (false, [])), (⟨(.some 39), (.len (.tmp 38)), (.some (36, false))⟩, (false, [])), (⟨(.some 40), (.bin .gtr (.tmp 39) (.const (.int .i64 65536))), (.some (36, false))⟩, (false, [])), (⟨(.some 41), (.pick (.tmp 36) (.const (.bool true)) (.tmp 40)), .none⟩, (false, [])), (⟨(.some 42), (.mov (.tmp 41)), .none⟩, (false, [])), (⟨(.some 43), (.mov (.tmp 5)), (.some (42, false))⟩, (false, [])), (⟨(.some 44), (.bin .gtr (.tmp 43) (.const (.int .i64 0))), (.some (42, false))⟩, (false, [])), (⟨(.some 45), (.mov (.tmp 44)), (.some (42, false))⟩, (false, [])), (⟨(.some 46), (.mov (.tmp 0)), (.some (45, true))⟩, (false, [])), (⟨(.some 47), (.mov (.tmp 5)), (.some (45, true))⟩, (false, [])), (⟨(.some 48), (.bin .sub (.tmp 47) (.const (.int .i64 1))), (.some (45, true))⟩, (false, [])), (⟨(.some 49), (.iadr 3 (.tmp 46) (.tmp 48)), (.some (45, true))⟩, (false, [])), (⟨(.some 50), (.fadr 0 (.tmp 49)), (.some (45, true))⟩, (false, [])), (⟨(.some 51), (.ld (.tmp 50)), (.some (45, true))⟩, (false, [])), (⟨(.some 52), (.fadr 0 (.tmp 6)), (.some (45, true))⟩, (false, [])), (⟨(.some 53), (.ld (.tmp 52)), (.some (45, true))⟩, (false, [])), (⟨(.some 54), (.bin .geq (.tmp 51) (.tmp 53)), (.some (45, true))⟩, (false, [])), (⟨(.some 55), (.pick (.tmp 45) (.tmp 54) (.const (.bool false))), (.some (42, false))⟩, (false, [])), (⟨(.some 56), (.pick (.tmp 42) (.const (.bool true)) (.tmp 55)), .none⟩, (false, []))]) (.cond (.tmp 56) (.seq (.ops [⟨(.some 4), (.mov (.const (.bool false))), .none⟩]) .ret) .skip))))) (.ops [⟨(.some 57), (.bin .add (.tmp 14) (.const (.int .i64 1))), .none⟩, ⟨(.some 14), (.mov (.tmp 57)), .none⟩]))))))) (.seq (.ops [⟨(.some 4), (.mov (.const (.bool true))), .none⟩]) .ret)))), [(4, .none)]⟩
theorem c30 : cmpF Try.prog [] [] 30 = some a30 := by kernel_rfl
theorem rt_step {l : List Fld} {large : Bool} {k : Nat} (h : rtP l large k) (h1 : fokP large (fl l k)) (h2 : 0 < k → (fl l (k - 1)).1 < (fl l k).1) : rtP l large (k + 1) := fun i hi => by
  by_cases e : i = k
  · subst e; exact ⟨h1, h2⟩
  · exact h i (by omega)
theorem rt_no {l : List Fld} {large : Bool} {k : Nat} (hk : k < l.length) (h : ¬ (fokP large (fl l k) ∧ (0 < k → (fl l (k - 1)).1 < (fl l k).1))) : rtS l large = false := decide_eq_false fun q => h (q.2 k hk)
theorem right_giv (l : List Fld) (large : Bool) (hl : l.length ≤ 140737488351232) (hv : ∀ f ∈ l, f.2.2.length ≤ 140737488351232) : Giv Try.prog 30 [.lst 3 (l.map fldD), .c (.bool large)] (retV [.c (.bool (rtS l large))]) := by
  have hlen := fls_len l
  obtain ⟨B, hB⟩ : ∃ B, B = rtS l large := ⟨_, rfl⟩
  rw [← hB]
  refine Giv.of mixed c30 (Nat.le_of_ble_eq_true rfl) ?_
  by_cases h64 : l.length > 64
  · rw [rtS, decide_eq_false (fun q => absurd q.1 (by omega))] at hB
    simp -dsimp -implicitDefEqProofs (disch := first | omega | (simp only [List.length_append, List.length_cons, List.length_nil, List.length_take, List.length_drop]; omega)) only [a30, hlen, ↓aPre, aPost, oneW, allOne, retV, retVA, simprocAttr]
    exact post_eq (by rw [hB])
  simp -dsimp -implicitDefEqProofs (disch := first | omega | (simp only [List.length_append, List.length_cons, List.length_nil, List.length_take, List.length_drop]; omega)) only [a30, hlen, ↓aPre, aPost, oneW, allOne, retV, retVA, simprocAttr]
  refine loop_of (fun s => ∃ (k : Nat), k ≤ l.length ∧ rtP l large k ∧ s.tm 14 = .d (.c (.int .i64 k)) ∧ s.tm 13 = .d (.c (.int .i64 l.length)) ∧ s.tm 12 = .d (.lst 3 (l.map fldD)) ∧ s.tm 0 = .d (.lst 3 (l.map fldD)) ∧ s.tm 1 = .d (.c (.bool large))) (fun s => l.length - (avN (s.tm 14)).toNat) ?_ ?_
  · refine ⟨0, Nat.zero_le _, fun i hi => absurd hi (Nat.not_lt_zero _), ?_⟩
    simp -dsimp -implicitDefEqProofs (disch := first | omega | (simp only [List.length_append, List.length_cons, List.length_nil, List.length_take, List.length_drop]; omega)) only [Int.natCast_zero, ↓aPre, aPost, oneW, allOne, retV, retVA, simprocAttr]
  rintro s ⟨k, hk, hr, hs⟩
  by_cases hlt : k < l.length
  · have eg := fl_get hlt
    obtain ⟨f, hf⟩ : ∃ f, f = fl l k := ⟨_, rfl⟩
    have hfv := hv f (hf ▸ fl_mem hlt)
    rw [← hf, fldD] at eg
    by_cases hkn : knownP f.2.1
    rotate_left
    · have hc := size_f hkn
      rw [rt_no hlt (fun q => hkn (hf ▸ q.1.1))] at hB
      simp -dsimp -implicitDefEqProofs (disch := first | omega | (simp only [List.length_append, List.length_cons, List.length_nil, List.length_take, List.length_drop]; omega)) only [hs, hlen, eg, ↓aPre, aPost, oneW, allOne, retV, retVA, simprocAttr]
      refine call_giv hc ?_
      simp -dsimp -implicitDefEqProofs (disch := first | omega | (simp only [List.length_append, List.length_cons, List.length_nil, List.length_take, List.length_drop]; omega)) only [hs, ↓aPre, aPost, oneW, allOne, retV, retVA, simprocAttr]
      exact post_eq (by rw [hB])
    have hc := size_t hkn
    have hbg := big_giv f.2.1
    by_cases h16 : 16 ≤ f.2.1
    · have h18 : f.2.1 ≤ 18 := by unfold knownP at hkn; omega
      rw [decide_eq_true ⟨h16, h18⟩] at hbg
      cases large
      · rw [rt_no hlt (fun q => absurd (q.1.2.1 (hf ▸ h16)) (by decide))] at hB
        simp -dsimp -implicitDefEqProofs (disch := first | omega | (simp only [List.length_append, List.length_cons, List.length_nil, List.length_take, List.length_drop]; omega)) only [hs, hlen, eg, ↓aPre, aPost, oneW, allOne, retV, retVA, simprocAttr]
        refine call_giv hc ?_
        simp -dsimp -implicitDefEqProofs (disch := first | omega | (simp only [List.length_append, List.length_cons, List.length_nil, List.length_take, List.length_drop]; omega)) only [hs, ↓aPre, aPost, oneW, allOne, retV, retVA, simprocAttr]
        refine call_giv hbg ?_
        simp -dsimp -implicitDefEqProofs (disch := first | omega | (simp only [List.length_append, List.length_cons, List.length_nil, List.length_take, List.length_drop]; omega)) only [hs, ↓aPre, aPost, oneW, allOne, retV, retVA, simprocAttr]
        exact post_eq (by rw [hB])
      by_cases hn : f.2.2.length > 65536
      · rw [rt_no hlt (fun q => absurd q.1.2.2 (by rw [← hf]; omega))] at hB
        simp -dsimp -implicitDefEqProofs (disch := first | omega | (simp only [List.length_append, List.length_cons, List.length_nil, List.length_take, List.length_drop]; omega)) only [hs, hlen, eg, ↓aPre, aPost, oneW, allOne, retV, retVA, simprocAttr]
        refine call_giv hc ?_
        simp -dsimp -implicitDefEqProofs (disch := first | omega | (simp only [List.length_append, List.length_cons, List.length_nil, List.length_take, List.length_drop]; omega)) only [hs, ↓aPre, aPost, oneW, allOne, retV, retVA, simprocAttr]
        refine call_giv hbg ?_
        simp -dsimp -implicitDefEqProofs (disch := first | omega | (simp only [List.length_append, List.length_cons, List.length_nil, List.length_take, List.length_drop]; omega)) only [hs, ↓aPre, aPost, oneW, allOne, retV, retVA, simprocAttr]
        exact post_eq (by rw [hB])
      by_cases hk0 : k = 0
      · subst hk0
        simp -dsimp -implicitDefEqProofs (disch := first | omega | (simp only [List.length_append, List.length_cons, List.length_nil, List.length_take, List.length_drop]; omega)) only [hs, hlen, eg, ↓aPre, aPost, oneW, allOne, retV, retVA, simprocAttr]
        refine call_giv hc ?_
        simp -dsimp -implicitDefEqProofs (disch := first | omega | (simp only [List.length_append, List.length_cons, List.length_nil, List.length_take, List.length_drop]; omega)) only [hs, ↓aPre, aPost, oneW, allOne, retV, retVA, simprocAttr]
        refine call_giv hbg ?_
        simp -dsimp -implicitDefEqProofs (disch := first | omega | (simp only [List.length_append, List.length_cons, List.length_nil, List.length_take, List.length_drop]; omega)) only [hs, ↓aPre, aPost, oneW, allOne, retV, retVA, simprocAttr]
        refine round_of ⟨1, by omega, rt_step hr (by rw [← hf]; exact ⟨hkn, fun _ => rfl, by omega⟩) (fun c => absurd c (Nat.lt_irrefl _)), ?_⟩ ?_
        · simp -dsimp -implicitDefEqProofs (disch := first | omega | (simp only [List.length_append, List.length_cons, List.length_nil, List.length_take, List.length_drop]; omega)) only [hs, ↓aPre, aPost, oneW, allOne, retV, retVA, simprocAttr]
        · simp -dsimp -implicitDefEqProofs (disch := first | omega | (simp only [List.length_append, List.length_cons, List.length_nil, List.length_take, List.length_drop]; omega)) only [hs, ↓aPre, aPost, oneW, allOne, retV, retVA, simprocAttr]
          omega
      have eg0 := fl_get (show k - 1 < l.length by omega)
      rw [fldD] at eg0
      have hki : ((k : Int) - 1).toNat = k - 1 := by omega
      by_cases htg : (fl l (k - 1)).1 < f.1
      · have htg' : ¬ (fl l (k - 1)).1 ≥ f.1 := by omega
        simp -dsimp -implicitDefEqProofs (disch := first | omega | (simp only [List.length_append, List.length_cons, List.length_nil, List.length_take, List.length_drop]; omega)) only [hs, hlen, eg, ↓aPre, aPost, oneW, allOne, retV, retVA, simprocAttr]
        refine call_giv hc ?_
        simp -dsimp -implicitDefEqProofs (disch := first | omega | (simp only [List.length_append, List.length_cons, List.length_nil, List.length_take, List.length_drop]; omega)) only [hs, ↓aPre, aPost, oneW, allOne, retV, retVA, simprocAttr]
        refine call_giv hbg ?_
        simp -dsimp -implicitDefEqProofs (disch := first | omega | (simp only [List.length_append, List.length_cons, List.length_nil, List.length_take, List.length_drop]; omega)) only [hs, hlen, eg0, hki, htg', ↓aPre, aPost, oneW, allOne, retV, retVA, simprocAttr]
        refine round_of ⟨k + 1, by omega, rt_step hr (by rw [← hf]; exact ⟨hkn, fun _ => rfl, by omega⟩) (fun _ => hf ▸ htg), ?_⟩ ?_
        · simp -dsimp -implicitDefEqProofs (disch := first | omega | (simp only [List.length_append, List.length_cons, List.length_nil, List.length_take, List.length_drop]; omega)) only [hs, ↓aPre, aPost, oneW, allOne, retV, retVA, simprocAttr]
        · simp -dsimp -implicitDefEqProofs (disch := first | omega | (simp only [List.length_append, List.length_cons, List.length_nil, List.length_take, List.length_drop]; omega)) only [hs, ↓aPre, aPost, oneW, allOne, retV, retVA, simprocAttr]
          omega
      · have htg' : (fl l (k - 1)).1 ≥ f.1 := by omega
        rw [rt_no hlt (fun q => htg (hf ▸ q.2 (by omega)))] at hB
        simp -dsimp -implicitDefEqProofs (disch := first | omega | (simp only [List.length_append, List.length_cons, List.length_nil, List.length_take, List.length_drop]; omega)) only [hs, hlen, eg, ↓aPre, aPost, oneW, allOne, retV, retVA, simprocAttr]
        refine call_giv hc ?_
        simp -dsimp -implicitDefEqProofs (disch := first | omega | (simp only [List.length_append, List.length_cons, List.length_nil, List.length_take, List.length_drop]; omega)) only [hs, ↓aPre, aPost, oneW, allOne, retV, retVA, simprocAttr]
        refine call_giv hbg ?_
        simp -dsimp -implicitDefEqProofs (disch := first | omega | (simp only [List.length_append, List.length_cons, List.length_nil, List.length_take, List.length_drop]; omega)) only [hs, hlen, eg0, hki, htg', ↓aPre, aPost, oneW, allOne, retV, retVA, simprocAttr]
        exact post_eq (by rw [hB])
    · rw [decide_eq_false (fun q => h16 q.1)] at hbg
      by_cases hn : f.2.2.length > 65536
      · rw [rt_no hlt (fun q => absurd q.1.2.2 (by rw [← hf]; omega))] at hB
        simp -dsimp -implicitDefEqProofs (disch := first | omega | (simp only [List.length_append, List.length_cons, List.length_nil, List.length_take, List.length_drop]; omega)) only [hs, hlen, eg, ↓aPre, aPost, oneW, allOne, retV, retVA, simprocAttr]
        refine call_giv hc ?_
        simp -dsimp -implicitDefEqProofs (disch := first | omega | (simp only [List.length_append, List.length_cons, List.length_nil, List.length_take, List.length_drop]; omega)) only [hs, ↓aPre, aPost, oneW, allOne, retV, retVA, simprocAttr]
        refine call_giv hbg ?_
        simp -dsimp -implicitDefEqProofs (disch := first | omega | (simp only [List.length_append, List.length_cons, List.length_nil, List.length_take, List.length_drop]; omega)) only [hs, ↓aPre, aPost, oneW, allOne, retV, retVA, simprocAttr]
        exact post_eq (by rw [hB])
      by_cases hk0 : k = 0
      · subst hk0
        simp -dsimp -implicitDefEqProofs (disch := first | omega | (simp only [List.length_append, List.length_cons, List.length_nil, List.length_take, List.length_drop]; omega)) only [hs, hlen, eg, ↓aPre, aPost, oneW, allOne, retV, retVA, simprocAttr]
        refine call_giv hc ?_
        simp -dsimp -implicitDefEqProofs (disch := first | omega | (simp only [List.length_append, List.length_cons, List.length_nil, List.length_take, List.length_drop]; omega)) only [hs, ↓aPre, aPost, oneW, allOne, retV, retVA, simprocAttr]
        refine call_giv hbg ?_
        simp -dsimp -implicitDefEqProofs (disch := first | omega | (simp only [List.length_append, List.length_cons, List.length_nil, List.length_take, List.length_drop]; omega)) only [hs, ↓aPre, aPost, oneW, allOne, retV, retVA, simprocAttr]
        refine round_of ⟨1, by omega, rt_step hr (by rw [← hf]; exact ⟨hkn, fun e => absurd e h16, by omega⟩) (fun c => absurd c (Nat.lt_irrefl _)), ?_⟩ ?_
        · simp -dsimp -implicitDefEqProofs (disch := first | omega | (simp only [List.length_append, List.length_cons, List.length_nil, List.length_take, List.length_drop]; omega)) only [hs, ↓aPre, aPost, oneW, allOne, retV, retVA, simprocAttr]
        · simp -dsimp -implicitDefEqProofs (disch := first | omega | (simp only [List.length_append, List.length_cons, List.length_nil, List.length_take, List.length_drop]; omega)) only [hs, ↓aPre, aPost, oneW, allOne, retV, retVA, simprocAttr]
          omega
      have eg0 := fl_get (show k - 1 < l.length by omega)
      rw [fldD] at eg0
      have hki : ((k : Int) - 1).toNat = k - 1 := by omega
      by_cases htg : (fl l (k - 1)).1 < f.1
      · have htg' : ¬ (fl l (k - 1)).1 ≥ f.1 := by omega
        simp -dsimp -implicitDefEqProofs (disch := first | omega | (simp only [List.length_append, List.length_cons, List.length_nil, List.length_take, List.length_drop]; omega)) only [hs, hlen, eg, ↓aPre, aPost, oneW, allOne, retV, retVA, simprocAttr]
        refine call_giv hc ?_
        simp -dsimp -implicitDefEqProofs (disch := first | omega | (simp only [List.length_append, List.length_cons, List.length_nil, List.length_take, List.length_drop]; omega)) only [hs, ↓aPre, aPost, oneW, allOne, retV, retVA, simprocAttr]
        refine call_giv hbg ?_
        simp -dsimp -implicitDefEqProofs (disch := first | omega | (simp only [List.length_append, List.length_cons, List.length_nil, List.length_take, List.length_drop]; omega)) only [hs, hlen, eg0, hki, htg', ↓aPre, aPost, oneW, allOne, retV, retVA, simprocAttr]
        refine round_of ⟨k + 1, by omega, rt_step hr (by rw [← hf]; exact ⟨hkn, fun e => absurd e h16, by omega⟩) (fun _ => hf ▸ htg), ?_⟩ ?_
        · simp -dsimp -implicitDefEqProofs (disch := first | omega | (simp only [List.length_append, List.length_cons, List.length_nil, List.length_take, List.length_drop]; omega)) only [hs, ↓aPre, aPost, oneW, allOne, retV, retVA, simprocAttr]
        · simp -dsimp -implicitDefEqProofs (disch := first | omega | (simp only [List.length_append, List.length_cons, List.length_nil, List.length_take, List.length_drop]; omega)) only [hs, ↓aPre, aPost, oneW, allOne, retV, retVA, simprocAttr]
          omega
      · have htg' : (fl l (k - 1)).1 ≥ f.1 := by omega
        rw [rt_no hlt (fun q => htg (hf ▸ q.2 (by omega)))] at hB
        simp -dsimp -implicitDefEqProofs (disch := first | omega | (simp only [List.length_append, List.length_cons, List.length_nil, List.length_take, List.length_drop]; omega)) only [hs, hlen, eg, ↓aPre, aPost, oneW, allOne, retV, retVA, simprocAttr]
        refine call_giv hc ?_
        simp -dsimp -implicitDefEqProofs (disch := first | omega | (simp only [List.length_append, List.length_cons, List.length_nil, List.length_take, List.length_drop]; omega)) only [hs, ↓aPre, aPost, oneW, allOne, retV, retVA, simprocAttr]
        refine call_giv hbg ?_
        simp -dsimp -implicitDefEqProofs (disch := first | omega | (simp only [List.length_append, List.length_cons, List.length_nil, List.length_take, List.length_drop]; omega)) only [hs, hlen, eg0, hki, htg', ↓aPre, aPost, oneW, allOne, retV, retVA, simprocAttr]
        exact post_eq (by rw [hB])
  · obtain rfl : k = l.length := by omega
    rw [rtS, decide_eq_true ⟨by omega, hr⟩] at hB
    simp -dsimp -implicitDefEqProofs (disch := first | omega | (simp only [List.length_append, List.length_cons, List.length_nil, List.length_take, List.length_drop]; omega)) only [hs, ↓aPre, aPost, oneW, allOne, retV, retVA, simprocAttr]
    exact post_eq (by rw [hB])
theorem rright_giv (l : List Fld) (large : Bool) (hl : l.length ≤ 140737488351232) (hv : ∀ f ∈ l, f.2.2.length ≤ 140737488351232) : Giv Try.prog 17 [.lst 3 (l.map fldD), .c (.bool large)] (retV [.c (.bool (rtS l large))]) := by
  have hlen := fls_len l
  obtain ⟨B, hB⟩ : ∃ B, B = rtS l large := ⟨_, rfl⟩
  rw [← hB]
  refine Giv.of mixed c17 (Nat.le_of_ble_eq_true rfl) ?_
  simp -dsimp -implicitDefEqProofs (disch := first | omega | (simp only [List.length_append, List.length_cons, List.length_nil, List.length_take, List.length_drop]; omega)) only [a17, hlen, ↓aPre, aPost, oneW, allOne, retV, retVA, simprocAttr]
  refine loop_of (fun s => ∃ (k : Nat), k ≤ l.length ∧ rtP l large k ∧ s.tm 5 = .d (.c (.int .i64 k)) ∧ s.tm 0 = .d (.lst 3 (l.map fldD)) ∧ s.tm 1 = .d (.c (.bool large))) (fun s => l.length - (avN (s.tm 5)).toNat) ?_ ?_
  · refine ⟨0, Nat.zero_le _, fun i hi => absurd hi (Nat.not_lt_zero _), ?_⟩
    simp -dsimp -implicitDefEqProofs (disch := first | omega | (simp only [List.length_append, List.length_cons, List.length_nil, List.length_take, List.length_drop]; omega)) only [Int.natCast_zero, ↓aPre, aPost, oneW, allOne, retV, retVA, simprocAttr]
  rintro s ⟨k, hk, hr, hs⟩
  by_cases hlt : k < l.length
  · have eg := fl_get hlt
    obtain ⟨f, hf⟩ : ∃ f, f = fl l k := ⟨_, rfl⟩
    have hfv := hv f (hf ▸ fl_mem hlt)
    rw [← hf, fldD] at eg
    have hc := rsize_giv f.2.1
    by_cases hkn : knownP f.2.1
    rotate_left
    · rw [sz_0 hkn] at hc
      rw [rt_no hlt (fun q => hkn (hf ▸ q.1.1))] at hB
      simp -dsimp -implicitDefEqProofs (disch := first | omega | (simp only [List.length_append, List.length_cons, List.length_nil, List.length_take, List.length_drop]; omega)) only [hs, hlen, eg, ↓aPre, aPost, oneW, allOne, retV, retVA, simprocAttr]
      refine call_giv hc ?_
      simp -dsimp -implicitDefEqProofs (disch := first | omega | (simp only [List.length_append, List.length_cons, List.length_nil, List.length_take, List.length_drop]; omega)) only [hs, ↓aPre, aPost, oneW, allOne, retV, retVA, simprocAttr]
      exact post_eq (by rw [hB])
    have hz := sz_pos hkn
    have hz0 := ibeq_f (show ¬ szI f.2.1 = 0 by omega)
    have hz1 : ¬ szI f.2.1 = 0 := by omega
    by_cases h16 : f.2.1 ≥ 16
    · cases large
      · rw [rt_no hlt (fun q => absurd (q.1.2.1 (hf ▸ h16)) (by decide))] at hB
        simp -dsimp -implicitDefEqProofs (disch := first | omega | (simp only [List.length_append, List.length_cons, List.length_nil, List.length_take, List.length_drop]; omega)) only [hs, hlen, eg, ↓aPre, aPost, oneW, allOne, retV, retVA, simprocAttr]
        refine call_giv hc ?_
        simp -dsimp -implicitDefEqProofs (disch := first | omega | (simp only [List.length_append, List.length_cons, List.length_nil, List.length_take, List.length_drop]; omega)) only [hs, hlen, eg, hz0, hz1, h16, ↓aPre, aPost, oneW, allOne, retV, retVA, simprocAttr]
        exact post_eq (by rw [hB])
      by_cases hn : f.2.2.length > 65536
      · rw [rt_no hlt (fun q => absurd q.1.2.2 (by rw [← hf]; omega))] at hB
        simp -dsimp -implicitDefEqProofs (disch := first | omega | (simp only [List.length_append, List.length_cons, List.length_nil, List.length_take, List.length_drop]; omega)) only [hs, hlen, eg, ↓aPre, aPost, oneW, allOne, retV, retVA, simprocAttr]
        refine call_giv hc ?_
        simp -dsimp -implicitDefEqProofs (disch := first | omega | (simp only [List.length_append, List.length_cons, List.length_nil, List.length_take, List.length_drop]; omega)) only [hs, hlen, eg, hz0, hz1, h16, ↓aPre, aPost, oneW, allOne, retV, retVA, simprocAttr]
        exact post_eq (by rw [hB])
      by_cases hk0 : k = 0
      · subst hk0
        simp -dsimp -implicitDefEqProofs (disch := first | omega | (simp only [List.length_append, List.length_cons, List.length_nil, List.length_take, List.length_drop]; omega)) only [hs, hlen, eg, ↓aPre, aPost, oneW, allOne, retV, retVA, simprocAttr]
        refine call_giv hc ?_
        simp -dsimp -implicitDefEqProofs (disch := first | omega | (simp only [List.length_append, List.length_cons, List.length_nil, List.length_take, List.length_drop]; omega)) only [hs, hlen, eg, hz0, hz1, h16, ↓aPre, aPost, oneW, allOne, retV, retVA, simprocAttr]
        refine round_of ⟨1, by omega, rt_step hr (by rw [← hf]; exact ⟨hkn, fun _ => rfl, by omega⟩) (fun c => absurd c (Nat.lt_irrefl _)), ?_⟩ ?_
        · simp -dsimp -implicitDefEqProofs (disch := first | omega | (simp only [List.length_append, List.length_cons, List.length_nil, List.length_take, List.length_drop]; omega)) only [hs, ↓aPre, aPost, oneW, allOne, retV, retVA, simprocAttr]
        · simp -dsimp -implicitDefEqProofs (disch := first | omega | (simp only [List.length_append, List.length_cons, List.length_nil, List.length_take, List.length_drop]; omega)) only [hs, ↓aPre, aPost, oneW, allOne, retV, retVA, simprocAttr]
          omega
      have eg0 := fl_get (show k - 1 < l.length by omega)
      rw [fldD] at eg0
      have hki : ((k : Int) - 1).toNat = k - 1 := by omega
      by_cases htg : (fl l (k - 1)).1 < f.1
      · have htg' : ¬ f.1 ≤ (fl l (k - 1)).1 := by omega
        simp -dsimp -implicitDefEqProofs (disch := first | omega | (simp only [List.length_append, List.length_cons, List.length_nil, List.length_take, List.length_drop]; omega)) only [hs, hlen, eg, ↓aPre, aPost, oneW, allOne, retV, retVA, simprocAttr]
        refine call_giv hc ?_
        simp -dsimp -implicitDefEqProofs (disch := first | omega | (simp only [List.length_append, List.length_cons, List.length_nil, List.length_take, List.length_drop]; omega)) only [hs, hlen, eg, hz0, hz1, eg0, hki, htg', h16, ↓aPre, aPost, oneW, allOne, retV, retVA, simprocAttr]
        refine round_of ⟨k + 1, by omega, rt_step hr (by rw [← hf]; exact ⟨hkn, fun _ => rfl, by omega⟩) (fun _ => hf ▸ htg), ?_⟩ ?_
        · simp -dsimp -implicitDefEqProofs (disch := first | omega | (simp only [List.length_append, List.length_cons, List.length_nil, List.length_take, List.length_drop]; omega)) only [hs, ↓aPre, aPost, oneW, allOne, retV, retVA, simprocAttr]
        · simp -dsimp -implicitDefEqProofs (disch := first | omega | (simp only [List.length_append, List.length_cons, List.length_nil, List.length_take, List.length_drop]; omega)) only [hs, ↓aPre, aPost, oneW, allOne, retV, retVA, simprocAttr]
          omega
      · have htg' : f.1 ≤ (fl l (k - 1)).1 := by omega
        rw [rt_no hlt (fun q => htg (hf ▸ q.2 (by omega)))] at hB
        simp -dsimp -implicitDefEqProofs (disch := first | omega | (simp only [List.length_append, List.length_cons, List.length_nil, List.length_take, List.length_drop]; omega)) only [hs, hlen, eg, ↓aPre, aPost, oneW, allOne, retV, retVA, simprocAttr]
        refine call_giv hc ?_
        simp -dsimp -implicitDefEqProofs (disch := first | omega | (simp only [List.length_append, List.length_cons, List.length_nil, List.length_take, List.length_drop]; omega)) only [hs, hlen, eg, hz0, hz1, eg0, hki, htg', h16, ↓aPre, aPost, oneW, allOne, retV, retVA, simprocAttr]
        exact post_eq (by rw [hB])
    · have h16' : ¬ 16 ≤ f.2.1 := h16
      by_cases hn : f.2.2.length > 65536
      · rw [rt_no hlt (fun q => absurd q.1.2.2 (by rw [← hf]; omega))] at hB
        simp -dsimp -implicitDefEqProofs (disch := first | omega | (simp only [List.length_append, List.length_cons, List.length_nil, List.length_take, List.length_drop]; omega)) only [hs, hlen, eg, ↓aPre, aPost, oneW, allOne, retV, retVA, simprocAttr]
        refine call_giv hc ?_
        simp -dsimp -implicitDefEqProofs (disch := first | omega | (simp only [List.length_append, List.length_cons, List.length_nil, List.length_take, List.length_drop]; omega)) only [hs, hlen, eg, hz0, hz1, h16, ↓aPre, aPost, oneW, allOne, retV, retVA, simprocAttr]
        exact post_eq (by rw [hB])
      by_cases hk0 : k = 0
      · subst hk0
        simp -dsimp -implicitDefEqProofs (disch := first | omega | (simp only [List.length_append, List.length_cons, List.length_nil, List.length_take, List.length_drop]; omega)) only [hs, hlen, eg, ↓aPre, aPost, oneW, allOne, retV, retVA, simprocAttr]
        refine call_giv hc ?_
        simp -dsimp -implicitDefEqProofs (disch := first | omega | (simp only [List.length_append, List.length_cons, List.length_nil, List.length_take, List.length_drop]; omega)) only [hs, hlen, eg, hz0, hz1, h16, ↓aPre, aPost, oneW, allOne, retV, retVA, simprocAttr]
        refine round_of ⟨1, by omega, rt_step hr (by rw [← hf]; exact ⟨hkn, fun e => absurd e h16', by omega⟩) (fun c => absurd c (Nat.lt_irrefl _)), ?_⟩ ?_
        · simp -dsimp -implicitDefEqProofs (disch := first | omega | (simp only [List.length_append, List.length_cons, List.length_nil, List.length_take, List.length_drop]; omega)) only [hs, ↓aPre, aPost, oneW, allOne, retV, retVA, simprocAttr]
        · simp -dsimp -implicitDefEqProofs (disch := first | omega | (simp only [List.length_append, List.length_cons, List.length_nil, List.length_take, List.length_drop]; omega)) only [hs, ↓aPre, aPost, oneW, allOne, retV, retVA, simprocAttr]
          omega
      have eg0 := fl_get (show k - 1 < l.length by omega)
      rw [fldD] at eg0
      have hki : ((k : Int) - 1).toNat = k - 1 := by omega
      by_cases htg : (fl l (k - 1)).1 < f.1
      · have htg' : ¬ f.1 ≤ (fl l (k - 1)).1 := by omega
        simp -dsimp -implicitDefEqProofs (disch := first | omega | (simp only [List.length_append, List.length_cons, List.length_nil, List.length_take, List.length_drop]; omega)) only [hs, hlen, eg, ↓aPre, aPost, oneW, allOne, retV, retVA, simprocAttr]
        refine call_giv hc ?_
        simp -dsimp -implicitDefEqProofs (disch := first | omega | (simp only [List.length_append, List.length_cons, List.length_nil, List.length_take, List.length_drop]; omega)) only [hs, hlen, eg, hz0, hz1, eg0, hki, htg', h16, ↓aPre, aPost, oneW, allOne, retV, retVA, simprocAttr]
        refine round_of ⟨k + 1, by omega, rt_step hr (by rw [← hf]; exact ⟨hkn, fun e => absurd e h16', by omega⟩) (fun _ => hf ▸ htg), ?_⟩ ?_
        · simp -dsimp -implicitDefEqProofs (disch := first | omega | (simp only [List.length_append, List.length_cons, List.length_nil, List.length_take, List.length_drop]; omega)) only [hs, ↓aPre, aPost, oneW, allOne, retV, retVA, simprocAttr]
        · simp -dsimp -implicitDefEqProofs (disch := first | omega | (simp only [List.length_append, List.length_cons, List.length_nil, List.length_take, List.length_drop]; omega)) only [hs, ↓aPre, aPost, oneW, allOne, retV, retVA, simprocAttr]
          omega
      · have htg' : f.1 ≤ (fl l (k - 1)).1 := by omega
        rw [rt_no hlt (fun q => htg (hf ▸ q.2 (by omega)))] at hB
        simp -dsimp -implicitDefEqProofs (disch := first | omega | (simp only [List.length_append, List.length_cons, List.length_nil, List.length_take, List.length_drop]; omega)) only [hs, hlen, eg, ↓aPre, aPost, oneW, allOne, retV, retVA, simprocAttr]
        refine call_giv hc ?_
        simp -dsimp -implicitDefEqProofs (disch := first | omega | (simp only [List.length_append, List.length_cons, List.length_nil, List.length_take, List.length_drop]; omega)) only [hs, hlen, eg, hz0, hz1, eg0, hki, htg', h16, ↓aPre, aPost, oneW, allOne, retV, retVA, simprocAttr]
        exact post_eq (by rw [hB])
  · obtain rfl : k = l.length := by omega
    by_cases h64 : l.length ≤ 64
    · rw [rtS, decide_eq_true ⟨h64, hr⟩] at hB
      simp -dsimp -implicitDefEqProofs (disch := first | omega | (simp only [List.length_append, List.length_cons, List.length_nil, List.length_take, List.length_drop]; omega)) only [hs, hlen, ↓aPre, aPost, oneW, allOne, retV, retVA, simprocAttr]
      exact post_eq (by rw [hB])
    · rw [rtS, decide_eq_false (fun q => h64 q.1)] at hB
      simp -dsimp -implicitDefEqProofs (disch := first | omega | (simp only [List.length_append, List.length_cons, List.length_nil, List.length_take, List.length_drop]; omega)) only [hs, hlen, ↓aPre, aPost, oneW, allOne, retV, retVA, simprocAttr]
      exact post_eq (by rw [hB])
/-- what stands behind the entries of a field -/
def szF (large : Bool) (f : Fld) : Nat := if wd large < (szI f.2.1).toNat * f.2.2.length then (szI f.2.1).toNat * f.2.2.length + (szI f.2.1).toNat * f.2.2.length % 2 else 0
def szT (large : Bool) : List Fld → Nat
  | [] => 0
  | f :: l => szF large f + szT large l
theorem szT_app (large : Bool) : ∀ (a b : List Fld), szT large (a ++ b) = szT large a + szT large b
  | [], b => by rw [szT, List.nil_append, Nat.zero_add]
  | f :: a, b => by rw [List.cons_append, szT, szT, szT_app large a b, Nat.add_assoc]
theorem fl_take {l : List Fld} {k : Nat} (h : k < l.length) : l.take (k + 1) = l.take k ++ [fl l k] := by
  rw [List.take_add_one]
  simp only [fl, List.getD, List.getElem?_eq_getElem h, Option.getD_some, Option.toList_some]
theorem szF_le {large : Bool} {l : List Fld} (h : rtS l large = true) {k : Nat} (hk : k < l.length) : szF large (fl l k) ≤ 600000 ∧ (szI (fl l k).2.1).toNat * (fl l k).2.2.length ≤ 524288 := by
  have h2 := ((of_decide_eq_true h).2 k hk).1
  have hz := sz_pos h2.1
  have h3 : (szI (fl l k).2.1).toNat * (fl l k).2.2.length ≤ 8 * 65536 := Nat.mul_le_mul (by omega) h2.2.2
  unfold szF
  split <;> omega
theorem szT_le {large : Bool} {l : List Fld} (h : rtS l large = true) : ∀ k, k ≤ l.length → szT large (l.take k) ≤ k * 600000
  | 0, _ => by simp [szT]
  | k + 1, hk => by
    have := szT_le h k (by omega)
    have := (szF_le h (show k < l.length by omega)).1
    rw [fl_take (by omega), szT_app, szT, szT]
    omega
/-- so many bytes has a directory -/
def szS (l : List Fld) (large : Bool) : Nat := ct large + en large * l.length + wd large + szT large l
theorem size_giv (l : List Fld) (large : Bool) (hl : l.length ≤ 140737488351232) (hv : ∀ f ∈ l, f.2.2.length ≤ 140737488351232) : Giv Try.prog 16 [.lst 3 (l.map fldD), .c (.bool large)] (retV (if rtS l large = true then [.c (.int .i64 (szS l large)), .c (.int .i64 0)] else [.c (.int .i64 0), .c (.int .i64 1)])) := by
  have hlen := fls_len l
  have hr := right_giv l large hl hv
  have hsz := sizes_giv large
  by_cases hB : rtS l large = true
  rotate_left
  · rw [if_neg hB]
    have hB : rtS l large = false := by simpa using hB
    rw [hB] at hr
    refine Giv.of mixed c16 (Nat.le_of_ble_eq_true rfl) ?_
    simp -dsimp -implicitDefEqProofs (disch := first | omega | (simp only [List.length_append, List.length_cons, List.length_nil, List.length_take, List.length_drop]; omega)) only [a16, ↓aPre, aPost, oneW, allOne, retV, retVA, simprocAttr]
    refine call_giv hr ?_
    simp -dsimp -implicitDefEqProofs (disch := first | omega | (simp only [List.length_append, List.length_cons, List.length_nil, List.length_take, List.length_drop]; omega)) only [↓aPre, aPost, oneW, allOne, retV, retVA, simprocAttr]
    exact post_eq rfl
  rw [if_pos hB]
  rw [hB] at hr
  have h64 := (of_decide_eq_true hB).1
  have hct : (if large = true then ([.c (.int .i64 8), .c (.int .i64 20), .c (.int .i64 8)] : List D) else [.c (.int .i64 2), .c (.int .i64 12), .c (.int .i64 4)]) = [.c (.int .i64 (ct large)), .c (.int .i64 (en large)), .c (.int .i64 (wd large))] := by cases large <;> rfl
  rw [hct] at hsz
  have hcb : ct large ≤ 8 ∧ en large ≤ 20 ∧ wd large ≤ 8 := by cases large <;> decide
  obtain ⟨E, hE⟩ : ∃ E, E = en large * l.length := ⟨_, rfl⟩
  have hEI : (en large : Int) * (l.length : Int) = E := by rw [hE]; simp
  have hEb : E ≤ 20 * 64 := by rw [hE]; exact Nat.mul_le_mul hcb.2.1 h64
  obtain ⟨B0, hB0⟩ : ∃ B0, B0 = ct large + E + wd large := ⟨_, rfl⟩
  have hss : szS l large = B0 + szT large l := by rw [szS, ← hE, hB0]
  refine Giv.of mixed c16 (Nat.le_of_ble_eq_true rfl) ?_
  simp -dsimp -implicitDefEqProofs (disch := first | omega | (simp only [List.length_append, List.length_cons, List.length_nil, List.length_take, List.length_drop]; omega)) only [a16, ↓aPre, aPost, oneW, allOne, retV, retVA, simprocAttr]
  refine call_giv hr ?_
  simp -dsimp -implicitDefEqProofs (disch := first | omega | (simp only [List.length_append, List.length_cons, List.length_nil, List.length_take, List.length_drop]; omega)) only [↓aPre, aPost, oneW, allOne, retV, retVA, simprocAttr]
  refine call_giv hsz ?_
  simp -dsimp -implicitDefEqProofs (disch := first | omega | (simp only [List.length_append, List.length_cons, List.length_nil, List.length_take, List.length_drop]; omega)) only [hlen, hEI, ↓aPre, aPost, oneW, allOne, retV, retVA, simprocAttr]
  refine loop_of (fun s => ∃ (k T : Nat), k ≤ l.length ∧ T = B0 + szT large (l.take k) ∧ s.tm 35 = .d (.c (.int .i64 k)) ∧ s.tm 34 = .d (.c (.int .i64 l.length)) ∧ s.tm 33 = .d (.lst 3 (l.map fldD)) ∧ s.tm 8 = .d (.c (.int .i64 (wd large))) ∧ s.tm 9 = .d (.c (.int .i64 T))) (fun s => l.length - (avN (s.tm 35)).toNat) ?_ ?_
  · refine ⟨0, B0, Nat.zero_le _, by rw [List.take_zero, szT, Nat.add_zero], ?_⟩
    have e0 : (B0 : Int) = (ct large : Int) + E + (wd large : Int) := by rw [hB0]; omega
    simp -dsimp -implicitDefEqProofs (disch := first | omega | (simp only [List.length_append, List.length_cons, List.length_nil, List.length_take, List.length_drop]; omega)) only [Int.natCast_zero, e0, ↓aPre, aPost, oneW, allOne, retV, retVA, simprocAttr]
  rintro s ⟨k, T, hk, hT, hs⟩
  by_cases hlt : k < l.length
  · have eg := fl_get hlt
    have hst := szT_le hB k hk
    have hsf := szF_le hB hlt
    have hok := ((of_decide_eq_true hB).2 k hlt).1
    have hnx : szT large (l.take (k + 1)) = szT large (l.take k) + szF large (fl l k) := by rw [fl_take hlt, szT_app, szT, szT]; rfl
    obtain ⟨f, hf⟩ : ∃ f, f = fl l k := ⟨_, rfl⟩
    rw [← hf] at hok hsf hnx
    rw [← hf, fldD] at eg
    have hc := size_t hok.1
    have hz := sz_pos hok.1
    obtain ⟨z, hz2⟩ : ∃ z : Nat, szI f.2.1 = z := ⟨(szI f.2.1).toNat, by omega⟩
    rw [hz2] at hc
    rw [szF, hz2, Int.toNat_natCast] at hnx
    rw [hz2, Int.toNat_natCast] at hsf
    obtain ⟨q, hq⟩ : ∃ q, q = z * f.2.2.length := ⟨_, rfl⟩
    have hqI : (z : Int) * (f.2.2.length : Int) = q := by rw [hq]; simp
    rw [← hq] at hnx hsf
    have hm2 : (q : Int).tmod 2 = ((q % 2 : Nat) : Int) := by rw [Int.tmod_eq_emod_of_nonneg (by omega)]; omega
    have hk64 : k * 600000 ≤ 64 * 600000 := Nat.mul_le_mul_right _ (by omega)
    by_cases hw : wd large < q
    · rw [if_pos hw] at hnx
      have hw' : (q : Int) > (wd large : Int) := by omega
      obtain ⟨T', hT'⟩ : ∃ T', T' = B0 + szT large (l.take (k + 1)) := ⟨_, rfl⟩
      have e1 : (T : Int) + ((q : Int) + ((q % 2 : Nat) : Int)) = (T' : Int) := by omega
      simp -dsimp -implicitDefEqProofs (disch := first | omega | (simp only [List.length_append, List.length_cons, List.length_nil, List.length_take, List.length_drop]; omega)) only [hs, hlen, eg, ↓aPre, aPost, oneW, allOne, retV, retVA, simprocAttr]
      refine call_giv hc ?_
      simp -dsimp -implicitDefEqProofs (disch := first | omega | (simp only [List.length_append, List.length_cons, List.length_nil, List.length_take, List.length_drop]; omega)) only [hs, hqI, hw', hm2, e1, ↓aPre, aPost, oneW, allOne, retV, retVA, simprocAttr]
      refine round_of ⟨k + 1, T', by omega, hT', ?_⟩ ?_
      · simp -dsimp -implicitDefEqProofs (disch := first | omega | (simp only [List.length_append, List.length_cons, List.length_nil, List.length_take, List.length_drop]; omega)) only [hs, e1, ↓aPre, aPost, oneW, allOne, retV, retVA, simprocAttr]
      · simp -dsimp -implicitDefEqProofs (disch := first | omega | (simp only [List.length_append, List.length_cons, List.length_nil, List.length_take, List.length_drop]; omega)) only [hs, ↓aPre, aPost, oneW, allOne, retV, retVA, simprocAttr]
        omega
    · rw [if_neg hw, Nat.add_zero] at hnx
      have hw' : ¬ (q : Int) > (wd large : Int) := by omega
      simp -dsimp -implicitDefEqProofs (disch := first | omega | (simp only [List.length_append, List.length_cons, List.length_nil, List.length_take, List.length_drop]; omega)) only [hs, hlen, eg, ↓aPre, aPost, oneW, allOne, retV, retVA, simprocAttr]
      refine call_giv hc ?_
      simp -dsimp -implicitDefEqProofs (disch := first | omega | (simp only [List.length_append, List.length_cons, List.length_nil, List.length_take, List.length_drop]; omega)) only [hs, hqI, hw', ↓aPre, aPost, oneW, allOne, retV, retVA, simprocAttr]
      refine round_of ⟨k + 1, T, by omega, by omega, ?_⟩ ?_
      · simp -dsimp -implicitDefEqProofs (disch := first | omega | (simp only [List.length_append, List.length_cons, List.length_nil, List.length_take, List.length_drop]; omega)) only [hs, ↓aPre, aPost, oneW, allOne, retV, retVA, simprocAttr]
      · simp -dsimp -implicitDefEqProofs (disch := first | omega | (simp only [List.length_append, List.length_cons, List.length_nil, List.length_take, List.length_drop]; omega)) only [hs, ↓aPre, aPost, oneW, allOne, retV, retVA, simprocAttr]
        omega
  · obtain rfl : k = l.length := by omega
    have htl : l.take l.length = l := List.take_length
    rw [htl] at hT
    simp -dsimp -implicitDefEqProofs (disch := first | omega | (simp only [List.length_append, List.length_cons, List.length_nil, List.length_take, List.length_drop]; omega)) only [hs, ↓aPre, aPost, oneW, allOne, retV, retVA, simprocAttr]
    exact post_eq (by rw [hss, hT])
end Go.Proofs.Ytkdkhngdilhneaa

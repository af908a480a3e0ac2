/- A value's text, of the program's and of the document's. The text at base 16 is a premise here; it is proved in WHex. A value's text by its kind: the program's and the document's are the same. The text at base 16 is a premise here; it is proved in WHex. A number's text at base 16, in pieces: the code of the library's formatBits, as the walk reads it. No condition. A number's text at base 16: what the library's formatBits does, up to its last lines. No condition but what each says. A number's text at base 16: the library's formatBits and FormatUint. No condition but what each says. -/
import Derived.Test.YthbdglibakjfbaaDoorWLib1
import Derived.Laws.Slices
import Derived.Laws.IdiomStrings
set_option linter.unusedSimpArgs false
set_option linter.unusedVariables false
set_option maxRecDepth 8000
set_option maxHeartbeats 4000000
set_option maxRecDepth 1000000
set_option maxRecDepth 100000
set_option linter.unusedSectionVars false
namespace Go.Proofs.YthbdglibakjfbaaDoor
open Go.Eng Go.RowKit
variable [Inhabited Lo]
def a26 : AFn := ⟨45, (.seq (.ops [⟨(.some 4), (.mov (.const (.string (strOfNums [])))), .none⟩]) (.seq (.seq (.ops [⟨(.some 7), (.mov (.tmp 1)), .none⟩]) (.block 0 (.seq (.ops [⟨(.some 9), (.bin .eql (.tmp 7) (.const (.int .i64 5))), .none⟩, ⟨(.some 8), (.mov (.tmp 9)), .none⟩]) (.cond (.tmp 8) (.seq (.ops [⟨(.some 10), (.mov (.tmp 0)), .none⟩, ⟨(.some 11), (.call 11 40 [(.tmp 10)]), .none⟩, ⟨(.some 12), (.call 12 41 [(.tmp 11)]), .none⟩, ⟨(.some 4), (.mov (.tmp 12)), .none⟩]) .ret) (.seq (.ops [⟨(.some 14), (.bin .eql (.tmp 7) (.const (.int .i64 10))), .none⟩, ⟨(.some 13), (.mov (.tmp 14)), .none⟩]) (.cond (.tmp 13) (.seq (.ops [⟨(.some 15), (.mov (.tmp 0)), .none⟩, ⟨(.some 16), (.bin .shr (.tmp 15) (.const (.int .u64 32))), .none⟩, ⟨(.some 17), (.cvI .i32 (.tmp 16)), .none⟩, ⟨(.some 18), (.cvI .i64 (.tmp 17)), .none⟩, ⟨(.some 19), (.call 19 22 [(.tmp 18)]), .none⟩, ⟨(.some 20), (.bin .add (.tmp 19) (.const (.string (strOfNums [47])))), .none⟩, ⟨(.some 21), (.mov (.tmp 0)), .none⟩, ⟨(.some 22), (.cvI .i32 (.tmp 21)), .none⟩, ⟨(.some 23), (.cvI .i64 (.tmp 22)), .none⟩, ⟨(.some 24), (.call 24 22 [(.tmp 23)]), .none⟩, ⟨(.some 25), (.bin .add (.tmp 20) (.tmp 24)), .none⟩, ⟨(.some 4), (.mov (.tmp 25)), .none⟩]) .ret) (.seq (.seq (.ops [⟨(.some 27), (.bin .eql (.tmp 7) (.const (.int .i64 7))), .none⟩, ⟨(.some 26), (.mov (.tmp 27)), .none⟩]) (.cond (.tmp 26) .skip (.seq (.ops [⟨(.some 28), (.bin .eql (.tmp 7) (.const (.int .i64 11))), .none⟩, ⟨(.some 26), (.mov (.tmp 28)), .none⟩]) (.cond (.tmp 26) .skip (.ops [⟨(.some 29), (.bin .eql (.tmp 7) (.const (.int .i64 12))), .none⟩, ⟨(.some 26), (.mov (.tmp 29)), .none⟩]))))) (.cond (.tmp 26) (.seq (.ops [⟨(.some 30), (.mov (.tmp 0)), .none⟩, ⟨(.some 31), (.call 31 42 [(.tmp 30), (.const (.int .i64 16))]), .none⟩, ⟨(.some 32), (.bin .add (.const (.string (strOfNums [35]))) (.tmp 31)), .none⟩, ⟨(.some 4), (.mov (.tmp 32)), .none⟩]) .ret) .skip)))))))) (.seq (.seq (.ops [⟨(.some 34), (.mov (.tmp 0)), .none⟩, ⟨(.some 35), (.mov (.tmp 1)), .none⟩, ⟨(.some 36), (.call 36 43 [(.tmp 34), (.tmp 35)]), .none⟩, ⟨(.some 33), (.mov (.tmp 36)), .none⟩, ⟨(.some 37), (.ext (.tmp 33) 0), .none⟩, ⟨(.some 38), (.ext (.tmp 33) 1), .none⟩, ⟨(.some 5), (.mov (.tmp 37)), .none⟩, ⟨(.some 6), (.mov (.tmp 38)), .none⟩]) (.seq (.ops [⟨(.some 39), (.mov (.tmp 6)), .none⟩, ⟨(.some 40), (.bin .eql (.tmp 39) (.const (.int .i64 0))), .none⟩]) (.cond (.tmp 40) (.seq (.ops [⟨(.some 41), (.mov (.tmp 5)), .none⟩, ⟨(.some 42), (.call 42 44 [(.tmp 41), (.const (.int .i64 10))]), .none⟩, ⟨(.some 4), (.mov (.tmp 42)), .none⟩]) .ret) .skip))) (.seq (.ops [⟨(.some 43), (.mov (.tmp 0)), .none⟩, ⟨(.some 44), (.call 44 42 [(.tmp 43), (.const (.int .i64 10))]), .none⟩, ⟨(.some 4), (.mov (.tmp 44)), .none⟩]) .ret)))), [(4, .none)]⟩
theorem c26 : cmpF Tryd.prog [] [] 26 = some a26 := by kernel_rfl
def a28 : AFn := ⟨50, (.seq (.ops [⟨(.some 4), (.mov (.const (.string (strOfNums [])))), .none⟩]) (.seq (.seq (.ops [⟨(.some 5), (.mov (.tmp 1)), .none⟩]) (.block 0 (.seq (.ops [⟨(.some 7), (.bin .eql (.tmp 5) (.const (.int .i64 5))), .none⟩, ⟨(.some 6), (.mov (.tmp 7)), .none⟩]) (.cond (.tmp 6) (.seq (.ops [⟨(.some 8), (.mov (.tmp 0)), .none⟩, ⟨(.some 9), (.bin .quo (.tmp 8) (.const (.int .u64 4294967296))), .none⟩, ⟨(.some 10), (.call 10 42 [(.tmp 9), (.const (.int .i64 10))]), .none⟩, ⟨(.some 11), (.bin .add (.tmp 10) (.const (.string (strOfNums [47])))), .none⟩, ⟨(.some 12), (.mov (.tmp 0)), .none⟩, ⟨(.some 13), (.bin .rem (.tmp 12) (.const (.int .u64 4294967296))), .none⟩, ⟨(.some 14), (.call 14 42 [(.tmp 13), (.const (.int .i64 10))]), .none⟩, ⟨(.some 15), (.bin .add (.tmp 11) (.tmp 14)), .none⟩, ⟨(.some 4), (.mov (.tmp 15)), .none⟩]) .ret) (.seq (.ops [⟨(.some 17), (.bin .eql (.tmp 5) (.const (.int .i64 10))), .none⟩, ⟨(.some 16), (.mov (.tmp 17)), .none⟩]) (.cond (.tmp 16) (.seq (.ops [⟨(.some 18), (.mov (.tmp 0)), .none⟩, ⟨(.some 19), (.bin .quo (.tmp 18) (.const (.int .u64 4294967296))), .none⟩, ⟨(.some 20), (.call 20 45 [(.tmp 19), (.const (.int .i64 32))]), .none⟩, ⟨(.some 21), (.bin .add (.tmp 20) (.const (.string (strOfNums [47])))), .none⟩, ⟨(.some 22), (.mov (.tmp 0)), .none⟩, ⟨(.some 23), (.call 23 45 [(.tmp 22), (.const (.int .i64 32))]), .none⟩, ⟨(.some 24), (.bin .add (.tmp 21) (.tmp 23)), .none⟩, ⟨(.some 4), (.mov (.tmp 24)), .none⟩]) .ret) (.seq (.seq (.ops [⟨(.some 26), (.bin .eql (.tmp 5) (.const (.int .i64 7))), .none⟩, ⟨(.some 25), (.mov (.tmp 26)), .none⟩]) (.cond (.tmp 25) .skip (.seq (.ops [⟨(.some 27), (.bin .eql (.tmp 5) (.const (.int .i64 11))), .none⟩, ⟨(.some 25), (.mov (.tmp 27)), .none⟩]) (.cond (.tmp 25) .skip (.ops [⟨(.some 28), (.bin .eql (.tmp 5) (.const (.int .i64 12))), .none⟩, ⟨(.some 25), (.mov (.tmp 28)), .none⟩]))))) (.cond (.tmp 25) (.seq (.ops [⟨(.some 29), (.mov (.tmp 0)), .none⟩, ⟨(.some 30), (.call 30 42 [(.tmp 29), (.const (.int .i64 16))]), .none⟩, ⟨(.some 31), (.bin .add (.const (.string (strOfNums [35]))) (.tmp 30)), .none⟩, ⟨(.some 4), (.mov (.tmp 31)), .none⟩]) .ret) (.seq (.ops [⟨(.some 33), (.bin .eql (.tmp 5) (.const (.int .i64 6))), .none⟩, ⟨(.some 32), (.mov (.tmp 33)), .none⟩]) (.cond (.tmp 32) (.seq (.ops [⟨(.some 34), (.mov (.tmp 0)), .none⟩, ⟨(.some 35), (.call 35 45 [(.tmp 34), (.const (.int .i64 8))]), .none⟩, ⟨(.some 4), (.mov (.tmp 35)), .none⟩]) .ret) (.seq (.ops [⟨(.some 37), (.bin .eql (.tmp 5) (.const (.int .i64 8))), .none⟩, ⟨(.some 36), (.mov (.tmp 37)), .none⟩]) (.cond (.tmp 36) (.seq (.ops [⟨(.some 38), (.mov (.tmp 0)), .none⟩, ⟨(.some 39), (.call 39 45 [(.tmp 38), (.const (.int .i64 16))]), .none⟩, ⟨(.some 4), (.mov (.tmp 39)), .none⟩]) .ret) (.seq (.ops [⟨(.some 41), (.bin .eql (.tmp 5) (.const (.int .i64 9))), .none⟩, ⟨(.some 40), (.mov (.tmp 41)), .none⟩]) (.cond (.tmp 40) (.seq (.ops [⟨(.some 42), (.mov (.tmp 0)), .none⟩, ⟨(.some 43), (.call 43 45 [(.tmp 42), (.const (.int .i64 32))]), .none⟩, ⟨(.some 4), (.mov (.tmp 43)), .none⟩]) .ret) (.seq (.ops [⟨(.some 45), (.bin .eql (.tmp 5) (.const (.int .i64 17))), .none⟩, ⟨(.some 44), (.mov (.tmp 45)), .none⟩]) (.cond (.tmp 44) (.seq (.ops [⟨(.some 46), (.mov (.tmp 0)), .none⟩, ⟨(.some 47), (.call 47 45 [(.tmp 46), (.const (.int .i64 64))]), .none⟩, ⟨(.some 4), (.mov (.tmp 47)), .none⟩]) .ret) .skip)))))))))))))))) (.seq (.ops [⟨(.some 48), (.mov (.tmp 0)), .none⟩, ⟨(.some 49), (.call 49 42 [(.tmp 48), (.const (.int .i64 10))]), .none⟩, ⟨(.some 4), (.mov (.tmp 49)), .none⟩]) .ret))), [(4, .none)]⟩
theorem c28 : cmpF Tryd.prog [] [] 28 = some a28 := by kernel_rfl
def a45 : AFn := ⟨27, (.seq (.ops [⟨(.some 4), (.mov (.const (.string (strOfNums [])))), .none⟩]) (.seq (.seq (.ops [⟨(.some 6), (.mov (.tmp 1)), .none⟩, ⟨(.some 7), (.bin .eql (.tmp 6) (.const (.int .i64 64))), .none⟩]) (.cond (.tmp 7) (.seq (.ops [⟨(.some 8), (.mov (.tmp 0)), .none⟩, ⟨(.some 9), (.cvI .i64 (.tmp 8)), .none⟩, ⟨(.some 10), (.call 10 44 [(.tmp 9), (.const (.int .i64 10))]), .none⟩, ⟨(.some 4), (.mov (.tmp 10)), .none⟩]) .ret) .skip)) (.seq (.ops [⟨(.some 11), (.mov (.tmp 0)), .none⟩, ⟨(.some 12), (.mov (.tmp 1)), .none⟩, ⟨(.some 13), (.bin .shl (.const (.int .u64 1)) (.tmp 12)), .none⟩, ⟨(.some 14), (.bin .rem (.tmp 11) (.tmp 13)), .none⟩, ⟨(.some 15), (.cvI .i64 (.tmp 14)), .none⟩, ⟨(.some 5), (.mov (.tmp 15)), .none⟩]) (.seq (.seq (.ops [⟨(.some 16), (.mov (.tmp 5)), .none⟩, ⟨(.some 17), (.mov (.tmp 1)), .none⟩, ⟨(.some 18), (.bin .sub (.tmp 17) (.const (.int .i64 1))), .none⟩, ⟨(.some 19), (.bin .shl (.const (.int .i64 1)) (.tmp 18)), .none⟩, ⟨(.some 20), (.bin .geq (.tmp 16) (.tmp 19)), .none⟩]) (.cond (.tmp 20) (.ops [⟨(.some 21), (.mov (.tmp 5)), .none⟩, ⟨(.some 22), (.mov (.tmp 1)), .none⟩, ⟨(.some 23), (.bin .shl (.const (.int .i64 1)) (.tmp 22)), .none⟩, ⟨(.some 24), (.bin .sub (.tmp 21) (.tmp 23)), .none⟩, ⟨(.some 5), (.mov (.tmp 24)), .none⟩]) .skip)) (.seq (.ops [⟨(.some 25), (.mov (.tmp 5)), .none⟩, ⟨(.some 26), (.call 26 44 [(.tmp 25), (.const (.int .i64 10))]), .none⟩, ⟨(.some 4), (.mov (.tmp 26)), .none⟩]) .ret))))), [(4, .none)]⟩
theorem c45 : cmpF Tryd.prog [] [] 45 = some a45 := by kernel_rfl
theorem sg6 (v : Int) : Giv Tryd.prog 43 [.c (.int .u64 v), .c (.int .i64 6)] (retV [.c (.int .i64 (IntKind.i64.wrap (IntKind.i8.wrap v))), .c (.int .i64 0)]) := by
  refine Giv.of mixed c43 (Nat.le_of_ble_eq_true rfl) ?_
  simp -dsimp -implicitDefEqProofs (disch := first | omega | (simp only [List.length_append, List.length_cons, List.length_nil, List.length_take, List.length_drop]; omega)) only [a43, ↓aPre, aPost, oneW, allOne, retV, retVA, simprocAttr]
  first | exact post_eq rfl | (refine post_eq ?_; congr 3; simp [IntKind.wrap, IntKind.signed, IntKind.bits]; omega)
theorem sg8 (v : Int) : Giv Tryd.prog 43 [.c (.int .u64 v), .c (.int .i64 8)] (retV [.c (.int .i64 (IntKind.i64.wrap (IntKind.i16.wrap v))), .c (.int .i64 0)]) := by
  refine Giv.of mixed c43 (Nat.le_of_ble_eq_true rfl) ?_
  simp -dsimp -implicitDefEqProofs (disch := first | omega | (simp only [List.length_append, List.length_cons, List.length_nil, List.length_take, List.length_drop]; omega)) only [a43, ↓aPre, aPost, oneW, allOne, retV, retVA, simprocAttr]
  first | exact post_eq rfl | (refine post_eq ?_; congr 3; simp [IntKind.wrap, IntKind.signed, IntKind.bits]; omega)
theorem sg9 (v : Int) : Giv Tryd.prog 43 [.c (.int .u64 v), .c (.int .i64 9)] (retV [.c (.int .i64 (IntKind.i64.wrap (IntKind.i32.wrap v))), .c (.int .i64 0)]) := by
  refine Giv.of mixed c43 (Nat.le_of_ble_eq_true rfl) ?_
  simp -dsimp -implicitDefEqProofs (disch := first | omega | (simp only [List.length_append, List.length_cons, List.length_nil, List.length_take, List.length_drop]; omega)) only [a43, ↓aPre, aPost, oneW, allOne, retV, retVA, simprocAttr]
  first | exact post_eq rfl | (refine post_eq ?_; congr 3; simp [IntKind.wrap, IntKind.signed, IntKind.bits]; omega)
theorem sg17 (v : Int) : Giv Tryd.prog 43 [.c (.int .u64 v), .c (.int .i64 17)] (retV [.c (.int .i64 (IntKind.i64.wrap v)), .c (.int .i64 0)]) := by
  refine Giv.of mixed c43 (Nat.le_of_ble_eq_true rfl) ?_
  simp -dsimp -implicitDefEqProofs (disch := first | omega | (simp only [List.length_append, List.length_cons, List.length_nil, List.length_take, List.length_drop]; omega)) only [a43, ↓aPre, aPost, oneW, allOne, retV, retVA, simprocAttr]
  exact post_eq rfl
theorem sg_f (v k : Int) (h6 : ¬ k = 6) (h8 : ¬ k = 8) (h9 : ¬ k = 9) (h17 : ¬ k = 17) : Giv Tryd.prog 43 [.c (.int .u64 v), .c (.int .i64 k)] (retV [.c (.int .i64 0), .c (.int .i64 1)]) := by
  refine Giv.of mixed c43 (Nat.le_of_ble_eq_true rfl) ?_
  simp -dsimp -implicitDefEqProofs (disch := first | omega | (simp only [List.length_append, List.length_cons, List.length_nil, List.length_take, List.length_drop]; omega)) only [a43, ibeq_f h6, ibeq_f h8, ibeq_f h9, ibeq_f h17, h6, h8, h9, h17, ↓aPre, aPost, oneW, allOne, retV, retVA, simprocAttr]
  exact post_eq rfl
/-- a number of b bits that may be below 0 -/
def sgn (m : Int) (v : Int) : Int := if m / 2 ≤ v % m then v % m - m else v % m
theorem w8 (v : Int) : IntKind.i64.wrap (IntKind.i8.wrap v) = sgn 256 v := by
  unfold sgn
  simp [IntKind.wrap, IntKind.signed, IntKind.bits]
  omega
theorem w16 (v : Int) : IntKind.i64.wrap (IntKind.i16.wrap v) = sgn 65536 v := by
  unfold sgn
  simp [IntKind.wrap, IntKind.signed, IntKind.bits]
  omega
theorem w32 (v : Int) : IntKind.i64.wrap (IntKind.i32.wrap v) = sgn 4294967296 v := by
  unfold sgn
  simp [IntKind.wrap, IntKind.signed, IntKind.bits]
  omega
theorem w64 (v : Int) : IntKind.i64.wrap v = sgn 18446744073709551616 v := by
  unfold sgn
  simp [IntKind.wrap, IntKind.signed, IntKind.bits]
theorem sgn_b {m v : Int} (h : m = 256 ∨ m = 65536 ∨ m = 4294967296 ∨ m = 18446744073709551616) : -9223372036854775808 ≤ sgn m v ∧ sgn m v ≤ 9223372036854775807 := by
  unfold sgn
  rcases h with rfl | rfl | rfl | rfl <;> split <;> omega
theorem sgn_giv {m : Int} (v : Int) (h : m = 256 ∨ m = 65536 ∨ m = 4294967296 ∨ m = 18446744073709551616) : Giv Tryd.prog 44 [.c (.int .i64 (sgn m v)), .c (.int .i64 10)] (retV [.c (.string (strOfNums (itL (sgn m v))))]) :=
  fint_giv _ (sgn_b h).1 (sgn_b h).2
theorem rsgn64 (v : Int) : Giv Tryd.prog 45 [.c (.int .u64 v), .c (.int .i64 64)] (retV [.c (.string (strOfNums (itL (sgn 18446744073709551616 v))))]) := by
  have h := sgn_giv (m := 18446744073709551616) v (by decide)
  have hw := w64 v
  refine Giv.of mixed c45 (Nat.le_of_ble_eq_true rfl) ?_
  simp -dsimp -implicitDefEqProofs (disch := first | omega | (simp only [List.length_append, List.length_cons, List.length_nil, List.length_take, List.length_drop]; omega)) only [a45, hw, ↓aPre, aPost, oneW, allOne, retV, retVA, simprocAttr]
  refine call_giv h ?_
  simp -dsimp -implicitDefEqProofs (disch := first | omega | (simp only [List.length_append, List.length_cons, List.length_nil, List.length_take, List.length_drop]; omega)) only [↓aPre, aPost, oneW, allOne, retV, retVA, simprocAttr]
  exact post_eq rfl
theorem rsgn8 (v : Int) (hv : 0 ≤ v) : Giv Tryd.prog 45 [.c (.int .u64 v), .c (.int .i64 8)] (retV [.c (.string (strOfNums (itL (sgn 256 v))))]) := by
  have h := sgn_giv (m := 256) v (by decide)
  unfold sgn at h ⊢
  have w1 : IntKind.u64.wrap (1 * 2 ^ min 8 IntKind.u64.bits) = 256 := by rfl
  have w2 : IntKind.i64.wrap (1 * 2 ^ min 7 IntKind.i64.bits) = 128 := by rfl
  have w3 : IntKind.i64.wrap (1 * 2 ^ min 8 IntKind.i64.bits) = 256 := by rfl
  have w4 : v.tmod 256 = v % 256 := Int.tmod_eq_emod_of_nonneg hv
  refine Giv.of mixed c45 (Nat.le_of_ble_eq_true rfl) ?_
  by_cases hc : (256 : Int) / 2 ≤ v % 256
  · rw [if_pos hc] at h ⊢
    have hc' : (128 : Int) ≤ v % 256 := by omega
    simp -dsimp -implicitDefEqProofs (disch := first | omega | (simp only [List.length_append, List.length_cons, List.length_nil, List.length_take, List.length_drop]; omega)) only [a45, w1, w2, w3, w4, hc', ↓aPre, aPost, oneW, allOne, retV, retVA, simprocAttr]
    refine call_giv h ?_
    simp -dsimp -implicitDefEqProofs (disch := first | omega | (simp only [List.length_append, List.length_cons, List.length_nil, List.length_take, List.length_drop]; omega)) only [↓aPre, aPost, oneW, allOne, retV, retVA, simprocAttr]
    exact post_eq rfl
  · rw [if_neg hc] at h ⊢
    have hc' : ¬ (128 : Int) ≤ v % 256 := by omega
    simp -dsimp -implicitDefEqProofs (disch := first | omega | (simp only [List.length_append, List.length_cons, List.length_nil, List.length_take, List.length_drop]; omega)) only [a45, w1, w2, w3, w4, hc', ↓aPre, aPost, oneW, allOne, retV, retVA, simprocAttr]
    refine call_giv h ?_
    simp -dsimp -implicitDefEqProofs (disch := first | omega | (simp only [List.length_append, List.length_cons, List.length_nil, List.length_take, List.length_drop]; omega)) only [↓aPre, aPost, oneW, allOne, retV, retVA, simprocAttr]
    exact post_eq rfl
theorem rsgn16 (v : Int) (hv : 0 ≤ v) : Giv Tryd.prog 45 [.c (.int .u64 v), .c (.int .i64 16)] (retV [.c (.string (strOfNums (itL (sgn 65536 v))))]) := by
  have h := sgn_giv (m := 65536) v (by decide)
  unfold sgn at h ⊢
  have w1 : IntKind.u64.wrap (1 * 2 ^ min 16 IntKind.u64.bits) = 65536 := by rfl
  have w2 : IntKind.i64.wrap (1 * 2 ^ min 15 IntKind.i64.bits) = 32768 := by rfl
  have w3 : IntKind.i64.wrap (1 * 2 ^ min 16 IntKind.i64.bits) = 65536 := by rfl
  have w4 : v.tmod 65536 = v % 65536 := Int.tmod_eq_emod_of_nonneg hv
  refine Giv.of mixed c45 (Nat.le_of_ble_eq_true rfl) ?_
  by_cases hc : (65536 : Int) / 2 ≤ v % 65536
  · rw [if_pos hc] at h ⊢
    have hc' : (32768 : Int) ≤ v % 65536 := by omega
    simp -dsimp -implicitDefEqProofs (disch := first | omega | (simp only [List.length_append, List.length_cons, List.length_nil, List.length_take, List.length_drop]; omega)) only [a45, w1, w2, w3, w4, hc', ↓aPre, aPost, oneW, allOne, retV, retVA, simprocAttr]
    refine call_giv h ?_
    simp -dsimp -implicitDefEqProofs (disch := first | omega | (simp only [List.length_append, List.length_cons, List.length_nil, List.length_take, List.length_drop]; omega)) only [↓aPre, aPost, oneW, allOne, retV, retVA, simprocAttr]
    exact post_eq rfl
  · rw [if_neg hc] at h ⊢
    have hc' : ¬ (32768 : Int) ≤ v % 65536 := by omega
    simp -dsimp -implicitDefEqProofs (disch := first | omega | (simp only [List.length_append, List.length_cons, List.length_nil, List.length_take, List.length_drop]; omega)) only [a45, w1, w2, w3, w4, hc', ↓aPre, aPost, oneW, allOne, retV, retVA, simprocAttr]
    refine call_giv h ?_
    simp -dsimp -implicitDefEqProofs (disch := first | omega | (simp only [List.length_append, List.length_cons, List.length_nil, List.length_take, List.length_drop]; omega)) only [↓aPre, aPost, oneW, allOne, retV, retVA, simprocAttr]
    exact post_eq rfl
theorem rsgn32 (v : Int) (hv : 0 ≤ v) : Giv Tryd.prog 45 [.c (.int .u64 v), .c (.int .i64 32)] (retV [.c (.string (strOfNums (itL (sgn 4294967296 v))))]) := by
  have h := sgn_giv (m := 4294967296) v (by decide)
  unfold sgn at h ⊢
  have w1 : IntKind.u64.wrap (1 * 2 ^ min 32 IntKind.u64.bits) = 4294967296 := by rfl
  have w2 : IntKind.i64.wrap (1 * 2 ^ min 31 IntKind.i64.bits) = 2147483648 := by rfl
  have w3 : IntKind.i64.wrap (1 * 2 ^ min 32 IntKind.i64.bits) = 4294967296 := by rfl
  have w4 : v.tmod 4294967296 = v % 4294967296 := Int.tmod_eq_emod_of_nonneg hv
  refine Giv.of mixed c45 (Nat.le_of_ble_eq_true rfl) ?_
  by_cases hc : (4294967296 : Int) / 2 ≤ v % 4294967296
  · rw [if_pos hc] at h ⊢
    have hc' : (2147483648 : Int) ≤ v % 4294967296 := by omega
    simp -dsimp -implicitDefEqProofs (disch := first | omega | (simp only [List.length_append, List.length_cons, List.length_nil, List.length_take, List.length_drop]; omega)) only [a45, w1, w2, w3, w4, hc', ↓aPre, aPost, oneW, allOne, retV, retVA, simprocAttr]
    refine call_giv h ?_
    simp -dsimp -implicitDefEqProofs (disch := first | omega | (simp only [List.length_append, List.length_cons, List.length_nil, List.length_take, List.length_drop]; omega)) only [↓aPre, aPost, oneW, allOne, retV, retVA, simprocAttr]
    exact post_eq rfl
  · rw [if_neg hc] at h ⊢
    have hc' : ¬ (2147483648 : Int) ≤ v % 4294967296 := by omega
    simp -dsimp -implicitDefEqProofs (disch := first | omega | (simp only [List.length_append, List.length_cons, List.length_nil, List.length_take, List.length_drop]; omega)) only [a45, w1, w2, w3, w4, hc', ↓aPre, aPost, oneW, allOne, retV, retVA, simprocAttr]
    refine call_giv h ?_
    simp -dsimp -implicitDefEqProofs (disch := first | omega | (simp only [List.length_append, List.length_cons, List.length_nil, List.length_take, List.length_drop]; omega)) only [↓aPre, aPost, oneW, allOne, retV, retVA, simprocAttr]
    exact post_eq rfl
end Go.Proofs.YthbdglibakjfbaaDoor
namespace Go.Proofs.YthbdglibakjfbaaDoor
open Go.Eng Go.RowKit
variable [Inhabited Lo]
/-- a digit at base 16 -/
def dg (d : Nat) : Int := if d < 10 then 48 + d else 87 + d
/-- the digits at base 16, in front of others -/
def hxA : Nat → Nat → List Int → List Int
  | 0, u, a => dg (u % 16) :: a
  | f + 1, u, a => if u < 16 then dg u :: a else hxA f (u / 16) (dg (u % 16) :: a)
def hexL (u : Nat) : List Int := hxA 15 u []
theorem hxA_le : ∀ f u a, (hxA f u a).length ≤ f + 1 + a.length
  | 0, u, a => by simp [hxA]; omega
  | f + 1, u, a => by
    rw [hxA]
    split
    · simp only [List.length_cons]; omega
    · have := hxA_le f (u / 16) (dg (u % 16) :: a)
      simp only [List.length_cons] at this
      omega
theorem hexL_le (u : Nat) : (hexL u).length ≤ 16 := hxA_le 15 u []
/-- a value's text -/
def valT (kd : Int) (v : Int) : List Int :=
  if kd = 5 then dec (v.toNat / 4294967296) ++ [47] ++ dec (v.toNat % 4294967296)
  else if kd = 10 then itL (sgn 4294967296 (v / 4294967296)) ++ [47] ++ itL (sgn 4294967296 v)
  else if kd = 7 ∨ kd = 11 ∨ kd = 12 then [35] ++ hexL v.toNat
  else if kd = 6 then itL (sgn 256 v)
  else if kd = 8 then itL (sgn 65536 v)
  else if kd = 9 then itL (sgn 4294967296 v)
  else if kd = 17 then itL (sgn 18446744073709551616 v)
  else dec v.toNat
theorem itS_le (m v : Int) (h : m = 256 ∨ m = 65536 ∨ m = 4294967296 ∨ m = 18446744073709551616) : (itL (sgn m v)).length ≤ 21 := itL_le (sgn_b h).1 (sgn_b h).2
theorem valT_le (kd v : Int) (hv : 0 ≤ v ∧ v < 18446744073709551616) : (valT kd v).length ≤ 100 := by
  have d1 := dec_len 19 (v.toNat / 4294967296) (by omega)
  have d2 := dec_len 19 (v.toNat % 4294967296) (by omega)
  have d3 := dec_len 19 v.toNat (by omega)
  have h1 := hexL_le v.toNat
  have s1 := itS_le 256 v (by decide)
  have s2 := itS_le 65536 v (by decide)
  have s3 := itS_le 4294967296 v (by decide)
  have s4 := itS_le 18446744073709551616 v (by decide)
  have s5 := itS_le 4294967296 (v / 4294967296) (by decide)
  unfold valT
  split
  · simp only [List.length_append, List.length_cons, List.length_nil]; omega
  split
  · simp only [List.length_append, List.length_cons, List.length_nil]; omega
  split
  · simp only [List.length_append, List.length_cons, List.length_nil]; omega
  split
  · omega
  split
  · omega
  split
  · omega
  split
  · omega
  · omega
theorem of_giv (v : Nat) (hv : v < 18446744073709551616) : Giv Tryd.prog 40 [.c (.int .u64 v)] (retV [.agg [.c (.int .u32 (v / 4294967296 : Nat)), .c (.int .u32 (v % 4294967296 : Nat))]]) := by
  refine Giv.of mixed c40 (Nat.le_of_ble_eq_true rfl) ?_
  have e1 : (v : Int).fdiv (2 ^ min 32 IntKind.u64.bits) = ((v / 4294967296 : Nat) : Int) := by
    rw [show (2 : Int) ^ min 32 IntKind.u64.bits = 4294967296 from by decide, Int.fdiv_eq_ediv_of_nonneg _ (by omega)]
    rfl
  have e2 : IntKind.u32.wrap ((v / 4294967296 : Nat) : Int) = ((v / 4294967296 : Nat) : Int) := by rw [IntKind.wrap_u32]; omega
  have e3 : IntKind.u32.wrap (v : Int) = ((v % 4294967296 : Nat) : Int) := by rw [IntKind.wrap_u32]; omega
  simp -dsimp -implicitDefEqProofs (disch := first | omega | (simp only [List.length_append, List.length_cons, List.length_nil, List.length_take, List.length_drop]; omega)) only [a40, ↓aPre, aPost, oneW, allOne, retV, retVA, simprocAttr]
  refine post_eq ?_
  rw [e1, e3]
theorem text_giv (n d : Nat) (hn : n < 4294967296) (hd : d < 4294967296) : Giv Tryd.prog 41 [.agg [.c (.int .u32 n), .c (.int .u32 d)]] (retV [.c (.string (strOfNums (dec n ++ [47] ++ dec d)))]) := by
  have l1 := dec_len 9 n (by omega)
  have l2 := dec_len 9 d (by omega)
  refine Giv.of mixed c41 (Nat.le_of_ble_eq_true rfl) ?_
  simp -dsimp -implicitDefEqProofs (disch := first | omega | (simp only [List.length_append, List.length_cons, List.length_nil, List.length_take, List.length_drop]; omega)) only [a41, ↓aPre, aPost, oneW, allOne, retV, retVA, simprocAttr]
  refine call_giv (fmt_giv n (by omega)) ?_
  simp -dsimp -implicitDefEqProofs (disch := first | omega | (simp only [List.length_append, List.length_cons, List.length_nil, List.length_take, List.length_drop]; omega)) only [↓aPre, aPost, oneW, allOne, retV, retVA, simprocAttr]
  refine call_giv (fmt_giv d (by omega)) ?_
  simp -dsimp -implicitDefEqProofs (disch := first | omega | (simp only [List.length_append, List.length_cons, List.length_nil, List.length_take, List.length_drop]; omega)) only [↓aPre, aPost, oneW, allOne, retV, retVA, simprocAttr]
  exact post_eq rfl
section
variable (hx : ∀ u : Nat, u < 18446744073709551616 → Giv Tryd.prog 42 [.c (.int .u64 u), .c (.int .i64 16)] (retV [.c (.string (strOfNums (hexL u)))]))
include hx
theorem value_giv (kd : Int) (n : Nat) (hn : n < 18446744073709551616) : Giv Tryd.prog 26 [.c (.int .u64 n), .c (.int .i64 kd)] (retV [.c (.string (strOfNums (valT kd n)))]) := by
  have ht : ((n : Int)).toNat = n := Int.toNat_natCast n
  have hxl := hexL_le n
  unfold valT
  rw [ht]
  refine Giv.of mixed c26 (Nat.le_of_ble_eq_true rfl) ?_
  by_cases h5 : kd = 5
  · subst h5
    rw [if_pos rfl]
    simp -dsimp -implicitDefEqProofs (disch := first | omega | (simp only [List.length_append, List.length_cons, List.length_nil, List.length_take, List.length_drop]; omega)) only [a26, ↓aPre, aPost, oneW, allOne, retV, retVA, simprocAttr]
    refine call_giv (of_giv n hn) ?_
    simp -dsimp -implicitDefEqProofs (disch := first | omega | (simp only [List.length_append, List.length_cons, List.length_nil, List.length_take, List.length_drop]; omega)) only [↓aPre, aPost, oneW, allOne, retV, retVA, simprocAttr]
    refine call_giv (text_giv _ _ (by omega) (by omega)) ?_
    simp -dsimp -implicitDefEqProofs (disch := first | omega | (simp only [List.length_append, List.length_cons, List.length_nil, List.length_take, List.length_drop]; omega)) only [↓aPre, aPost, oneW, allOne, retV, retVA, simprocAttr]
    exact post_eq rfl
  rw [if_neg h5]
  by_cases h10 : kd = 10
  · subst h10
    rw [if_pos rfl]
    have e1 : (n : Int).fdiv (2 ^ min 32 IntKind.u64.bits) = (n : Int) / 4294967296 := by
      rw [show (2 : Int) ^ min 32 IntKind.u64.bits = 4294967296 from by decide, Int.fdiv_eq_ediv_of_nonneg _ (by omega)]
    have b1 := sgn_b (m := 4294967296) (v := (n : Int) / 4294967296) (by decide)
    have b2 := sgn_b (m := 4294967296) (v := (n : Int)) (by decide)
    have l1 := itS_le 4294967296 ((n : Int) / 4294967296) (by decide)
    have l2 := itS_le 4294967296 (n : Int) (by decide)
    have g1 := itz_giv _ b1.1 b1.2
    have g2 := itz_giv _ b2.1 b2.2
    rw [← w32, ← e1] at g1
    rw [← w32] at g2
    rw [← w32, ← w32, ← e1] at *
    simp -dsimp -implicitDefEqProofs (disch := first | omega | (simp only [List.length_append, List.length_cons, List.length_nil, List.length_take, List.length_drop]; omega)) only [a26, ↓aPre, aPost, oneW, allOne, retV, retVA, simprocAttr]
    refine call_giv g1 ?_
    simp -dsimp -implicitDefEqProofs (disch := first | omega | (simp only [List.length_append, List.length_cons, List.length_nil, List.length_take, List.length_drop]; omega)) only [↓aPre, aPost, oneW, allOne, retV, retVA, simprocAttr]
    refine call_giv g2 ?_
    simp -dsimp -implicitDefEqProofs (disch := first | omega | (simp only [List.length_append, List.length_cons, List.length_nil, List.length_take, List.length_drop]; omega)) only [↓aPre, aPost, oneW, allOne, retV, retVA, simprocAttr]
    exact post_eq rfl
  rw [if_neg h10]
  by_cases h7 : kd = 7
  · subst h7
    rw [if_pos (by decide)]
    simp -dsimp -implicitDefEqProofs (disch := first | omega | (simp only [List.length_append, List.length_cons, List.length_nil, List.length_take, List.length_drop]; omega)) only [a26, ↓aPre, aPost, oneW, allOne, retV, retVA, simprocAttr]
    refine call_giv (hx n hn) ?_
    simp -dsimp -implicitDefEqProofs (disch := first | omega | (simp only [List.length_append, List.length_cons, List.length_nil, List.length_take, List.length_drop]; omega)) only [↓aPre, aPost, oneW, allOne, retV, retVA, simprocAttr]
    exact post_eq rfl
  by_cases h11 : kd = 11
  · subst h11
    rw [if_pos (by decide)]
    simp -dsimp -implicitDefEqProofs (disch := first | omega | (simp only [List.length_append, List.length_cons, List.length_nil, List.length_take, List.length_drop]; omega)) only [a26, ↓aPre, aPost, oneW, allOne, retV, retVA, simprocAttr]
    refine call_giv (hx n hn) ?_
    simp -dsimp -implicitDefEqProofs (disch := first | omega | (simp only [List.length_append, List.length_cons, List.length_nil, List.length_take, List.length_drop]; omega)) only [↓aPre, aPost, oneW, allOne, retV, retVA, simprocAttr]
    exact post_eq rfl
  by_cases h12 : kd = 12
  · subst h12
    rw [if_pos (by decide)]
    simp -dsimp -implicitDefEqProofs (disch := first | omega | (simp only [List.length_append, List.length_cons, List.length_nil, List.length_take, List.length_drop]; omega)) only [a26, ↓aPre, aPost, oneW, allOne, retV, retVA, simprocAttr]
    refine call_giv (hx n hn) ?_
    simp -dsimp -implicitDefEqProofs (disch := first | omega | (simp only [List.length_append, List.length_cons, List.length_nil, List.length_take, List.length_drop]; omega)) only [↓aPre, aPost, oneW, allOne, retV, retVA, simprocAttr]
    exact post_eq rfl
  rw [if_neg (by omega)]
  by_cases h6 : kd = 6
  · subst h6
    rw [if_pos rfl]
    have g := sgn_giv (m := 256) (n : Int) (by decide)
    have g0 := sg6 (n : Int)
    rw [w8] at g0
    simp -dsimp -implicitDefEqProofs (disch := first | omega | (simp only [List.length_append, List.length_cons, List.length_nil, List.length_take, List.length_drop]; omega)) only [a26, ↓aPre, aPost, oneW, allOne, retV, retVA, simprocAttr]
    refine call_giv g0 ?_
    simp -dsimp -implicitDefEqProofs (disch := first | omega | (simp only [List.length_append, List.length_cons, List.length_nil, List.length_take, List.length_drop]; omega)) only [↓aPre, aPost, oneW, allOne, retV, retVA, simprocAttr]
    refine call_giv g ?_
    simp -dsimp -implicitDefEqProofs (disch := first | omega | (simp only [List.length_append, List.length_cons, List.length_nil, List.length_take, List.length_drop]; omega)) only [↓aPre, aPost, oneW, allOne, retV, retVA, simprocAttr]
    exact post_eq rfl
  rw [if_neg h6]
  by_cases h8 : kd = 8
  · subst h8
    rw [if_pos rfl]
    have g := sgn_giv (m := 65536) (n : Int) (by decide)
    have g0 := sg8 (n : Int)
    rw [w16] at g0
    simp -dsimp -implicitDefEqProofs (disch := first | omega | (simp only [List.length_append, List.length_cons, List.length_nil, List.length_take, List.length_drop]; omega)) only [a26, ↓aPre, aPost, oneW, allOne, retV, retVA, simprocAttr]
    refine call_giv g0 ?_
    simp -dsimp -implicitDefEqProofs (disch := first | omega | (simp only [List.length_append, List.length_cons, List.length_nil, List.length_take, List.length_drop]; omega)) only [↓aPre, aPost, oneW, allOne, retV, retVA, simprocAttr]
    refine call_giv g ?_
    simp -dsimp -implicitDefEqProofs (disch := first | omega | (simp only [List.length_append, List.length_cons, List.length_nil, List.length_take, List.length_drop]; omega)) only [↓aPre, aPost, oneW, allOne, retV, retVA, simprocAttr]
    exact post_eq rfl
  rw [if_neg h8]
  by_cases h9 : kd = 9
  · subst h9
    rw [if_pos rfl]
    have g := sgn_giv (m := 4294967296) (n : Int) (by decide)
    have g0 := sg9 (n : Int)
    rw [w32] at g0
    simp -dsimp -implicitDefEqProofs (disch := first | omega | (simp only [List.length_append, List.length_cons, List.length_nil, List.length_take, List.length_drop]; omega)) only [a26, ↓aPre, aPost, oneW, allOne, retV, retVA, simprocAttr]
    refine call_giv g0 ?_
    simp -dsimp -implicitDefEqProofs (disch := first | omega | (simp only [List.length_append, List.length_cons, List.length_nil, List.length_take, List.length_drop]; omega)) only [↓aPre, aPost, oneW, allOne, retV, retVA, simprocAttr]
    refine call_giv g ?_
    simp -dsimp -implicitDefEqProofs (disch := first | omega | (simp only [List.length_append, List.length_cons, List.length_nil, List.length_take, List.length_drop]; omega)) only [↓aPre, aPost, oneW, allOne, retV, retVA, simprocAttr]
    exact post_eq rfl
  rw [if_neg h9]
  by_cases h17 : kd = 17
  · subst h17
    rw [if_pos rfl]
    have g := sgn_giv (m := 18446744073709551616) (n : Int) (by decide)
    have g0 := sg17 (n : Int)
    rw [w64] at g0
    simp -dsimp -implicitDefEqProofs (disch := first | omega | (simp only [List.length_append, List.length_cons, List.length_nil, List.length_take, List.length_drop]; omega)) only [a26, ↓aPre, aPost, oneW, allOne, retV, retVA, simprocAttr]
    refine call_giv g0 ?_
    simp -dsimp -implicitDefEqProofs (disch := first | omega | (simp only [List.length_append, List.length_cons, List.length_nil, List.length_take, List.length_drop]; omega)) only [↓aPre, aPost, oneW, allOne, retV, retVA, simprocAttr]
    refine call_giv g ?_
    simp -dsimp -implicitDefEqProofs (disch := first | omega | (simp only [List.length_append, List.length_cons, List.length_nil, List.length_take, List.length_drop]; omega)) only [↓aPre, aPost, oneW, allOne, retV, retVA, simprocAttr]
    exact post_eq rfl
  rw [if_neg h17]
  have g0 := sg_f (n : Int) kd h6 h8 h9 h17
  simp -dsimp -implicitDefEqProofs (disch := first | omega | (simp only [List.length_append, List.length_cons, List.length_nil, List.length_take, List.length_drop]; omega)) only [a26, ibeq_f h5, ibeq_f h10, ibeq_f h7, ibeq_f h11, ibeq_f h12, h5, h10, h7, h11, h12, ↓aPre, aPost, oneW, allOne, retV, retVA, simprocAttr]
  refine call_giv g0 ?_
  simp -dsimp -implicitDefEqProofs (disch := first | omega | (simp only [List.length_append, List.length_cons, List.length_nil, List.length_take, List.length_drop]; omega)) only [↓aPre, aPost, oneW, allOne, retV, retVA, simprocAttr]
  refine call_giv (fmt_giv n hn) ?_
  simp -dsimp -implicitDefEqProofs (disch := first | omega | (simp only [List.length_append, List.length_cons, List.length_nil, List.length_take, List.length_drop]; omega)) only [↓aPre, aPost, oneW, allOne, retV, retVA, simprocAttr]
  exact post_eq rfl
theorem rvalue_giv (kd : Int) (n : Nat) (hn : n < 18446744073709551616) : Giv Tryd.prog 28 [.c (.int .u64 n), .c (.int .i64 kd)] (retV [.c (.string (strOfNums (valT kd n)))]) := by
  have ht : ((n : Int)).toNat = n := Int.toNat_natCast n
  have hxl := hexL_le n
  unfold valT
  rw [ht]
  refine Giv.of mixed c28 (Nat.le_of_ble_eq_true rfl) ?_
  have q1 : (n : Int).tdiv 4294967296 = (n : Int) / 4294967296 := Int.tdiv_eq_ediv_of_nonneg (by omega)
  have q2 : (n : Int).tmod 4294967296 = (n : Int) % 4294967296 := Int.tmod_eq_emod_of_nonneg (by omega)
  by_cases h5 : kd = 5
  · subst h5
    rw [if_pos rfl]
    have g1 := fmt_giv (n / 4294967296) (by omega)
    have g2 := fmt_giv (n % 4294967296) (by omega)
    have l1 := dec_len 19 (n / 4294967296) (by omega)
    have l2 := dec_len 19 (n % 4294967296) (by omega)
    rw [Int.natCast_ediv] at g1
    rw [Int.natCast_emod] at g2
    simp -dsimp -implicitDefEqProofs (disch := first | omega | (simp only [List.length_append, List.length_cons, List.length_nil, List.length_take, List.length_drop]; omega)) only [a28, q1, q2, ↓aPre, aPost, oneW, allOne, retV, retVA, simprocAttr]
    refine call_giv g1 ?_
    simp -dsimp -implicitDefEqProofs (disch := first | omega | (simp only [List.length_append, List.length_cons, List.length_nil, List.length_take, List.length_drop]; omega)) only [q1, q2, ↓aPre, aPost, oneW, allOne, retV, retVA, simprocAttr]
    refine call_giv g2 ?_
    simp -dsimp -implicitDefEqProofs (disch := first | omega | (simp only [List.length_append, List.length_cons, List.length_nil, List.length_take, List.length_drop]; omega)) only [↓aPre, aPost, oneW, allOne, retV, retVA, simprocAttr]
    exact post_eq rfl
  rw [if_neg h5]
  by_cases h10 : kd = 10
  · subst h10
    rw [if_pos rfl]
    have l1 := itS_le 4294967296 ((n : Int) / 4294967296) (by decide)
    have l2 := itS_le 4294967296 (n : Int) (by decide)
    have g1 := rsgn32 ((n : Int) / 4294967296) (by omega)
    have g2 := rsgn32 (n : Int) (by omega)
    simp -dsimp -implicitDefEqProofs (disch := first | omega | (simp only [List.length_append, List.length_cons, List.length_nil, List.length_take, List.length_drop]; omega)) only [a28, q1, q2, ↓aPre, aPost, oneW, allOne, retV, retVA, simprocAttr]
    refine call_giv g1 ?_
    simp -dsimp -implicitDefEqProofs (disch := first | omega | (simp only [List.length_append, List.length_cons, List.length_nil, List.length_take, List.length_drop]; omega)) only [q1, q2, ↓aPre, aPost, oneW, allOne, retV, retVA, simprocAttr]
    refine call_giv g2 ?_
    simp -dsimp -implicitDefEqProofs (disch := first | omega | (simp only [List.length_append, List.length_cons, List.length_nil, List.length_take, List.length_drop]; omega)) only [↓aPre, aPost, oneW, allOne, retV, retVA, simprocAttr]
    exact post_eq rfl
  rw [if_neg h10]
  by_cases h7 : kd = 7
  · subst h7
    rw [if_pos (by decide)]
    simp -dsimp -implicitDefEqProofs (disch := first | omega | (simp only [List.length_append, List.length_cons, List.length_nil, List.length_take, List.length_drop]; omega)) only [a28, ↓aPre, aPost, oneW, allOne, retV, retVA, simprocAttr]
    refine call_giv (hx n hn) ?_
    simp -dsimp -implicitDefEqProofs (disch := first | omega | (simp only [List.length_append, List.length_cons, List.length_nil, List.length_take, List.length_drop]; omega)) only [↓aPre, aPost, oneW, allOne, retV, retVA, simprocAttr]
    exact post_eq rfl
  by_cases h11 : kd = 11
  · subst h11
    rw [if_pos (by decide)]
    simp -dsimp -implicitDefEqProofs (disch := first | omega | (simp only [List.length_append, List.length_cons, List.length_nil, List.length_take, List.length_drop]; omega)) only [a28, ↓aPre, aPost, oneW, allOne, retV, retVA, simprocAttr]
    refine call_giv (hx n hn) ?_
    simp -dsimp -implicitDefEqProofs (disch := first | omega | (simp only [List.length_append, List.length_cons, List.length_nil, List.length_take, List.length_drop]; omega)) only [↓aPre, aPost, oneW, allOne, retV, retVA, simprocAttr]
    exact post_eq rfl
  by_cases h12 : kd = 12
  · subst h12
    rw [if_pos (by decide)]
    simp -dsimp -implicitDefEqProofs (disch := first | omega | (simp only [List.length_append, List.length_cons, List.length_nil, List.length_take, List.length_drop]; omega)) only [a28, ↓aPre, aPost, oneW, allOne, retV, retVA, simprocAttr]
    refine call_giv (hx n hn) ?_
    simp -dsimp -implicitDefEqProofs (disch := first | omega | (simp only [List.length_append, List.length_cons, List.length_nil, List.length_take, List.length_drop]; omega)) only [↓aPre, aPost, oneW, allOne, retV, retVA, simprocAttr]
    exact post_eq rfl
  rw [if_neg (by omega)]
  by_cases h6 : kd = 6
  · subst h6
    rw [if_pos rfl]
    have g := rsgn8 (n : Int) (by omega)
    simp -dsimp -implicitDefEqProofs (disch := first | omega | (simp only [List.length_append, List.length_cons, List.length_nil, List.length_take, List.length_drop]; omega)) only [a28, ↓aPre, aPost, oneW, allOne, retV, retVA, simprocAttr]
    refine call_giv g ?_
    simp -dsimp -implicitDefEqProofs (disch := first | omega | (simp only [List.length_append, List.length_cons, List.length_nil, List.length_take, List.length_drop]; omega)) only [↓aPre, aPost, oneW, allOne, retV, retVA, simprocAttr]
    exact post_eq rfl
  rw [if_neg h6]
  by_cases h8 : kd = 8
  · subst h8
    rw [if_pos rfl]
    have g := rsgn16 (n : Int) (by omega)
    simp -dsimp -implicitDefEqProofs (disch := first | omega | (simp only [List.length_append, List.length_cons, List.length_nil, List.length_take, List.length_drop]; omega)) only [a28, ↓aPre, aPost, oneW, allOne, retV, retVA, simprocAttr]
    refine call_giv g ?_
    simp -dsimp -implicitDefEqProofs (disch := first | omega | (simp only [List.length_append, List.length_cons, List.length_nil, List.length_take, List.length_drop]; omega)) only [↓aPre, aPost, oneW, allOne, retV, retVA, simprocAttr]
    exact post_eq rfl
  rw [if_neg h8]
  by_cases h9 : kd = 9
  · subst h9
    rw [if_pos rfl]
    have g := rsgn32 (n : Int) (by omega)
    simp -dsimp -implicitDefEqProofs (disch := first | omega | (simp only [List.length_append, List.length_cons, List.length_nil, List.length_take, List.length_drop]; omega)) only [a28, ↓aPre, aPost, oneW, allOne, retV, retVA, simprocAttr]
    refine call_giv g ?_
    simp -dsimp -implicitDefEqProofs (disch := first | omega | (simp only [List.length_append, List.length_cons, List.length_nil, List.length_take, List.length_drop]; omega)) only [↓aPre, aPost, oneW, allOne, retV, retVA, simprocAttr]
    exact post_eq rfl
  rw [if_neg h9]
  by_cases h17 : kd = 17
  · subst h17
    rw [if_pos rfl]
    have g := rsgn64 (n : Int)
    simp -dsimp -implicitDefEqProofs (disch := first | omega | (simp only [List.length_append, List.length_cons, List.length_nil, List.length_take, List.length_drop]; omega)) only [a28, ↓aPre, aPost, oneW, allOne, retV, retVA, simprocAttr]
    refine call_giv g ?_
    simp -dsimp -implicitDefEqProofs (disch := first | omega | (simp only [List.length_append, List.length_cons, List.length_nil, List.length_take, List.length_drop]; omega)) only [↓aPre, aPost, oneW, allOne, retV, retVA, simprocAttr]
    exact post_eq rfl
  rw [if_neg h17]
  simp -dsimp -implicitDefEqProofs (disch := first | omega | (simp only [List.length_append, List.length_cons, List.length_nil, List.length_take, List.length_drop]; omega)) only [a28, ibeq_f h5, ibeq_f h10, ibeq_f h7, ibeq_f h11, ibeq_f h12, ibeq_f h6, ibeq_f h8, ibeq_f h9, ibeq_f h17, h5, h10, h7, h11, h12, h6, h8, h9, h17, ↓aPre, aPost, oneW, allOne, retV, retVA, simprocAttr]
  refine call_giv (fmt_giv n hn) ?_
  simp -dsimp -implicitDefEqProofs (disch := first | omega | (simp only [List.length_append, List.length_cons, List.length_nil, List.length_take, List.length_drop]; omega)) only [↓aPre, aPost, oneW, allOne, retV, retVA, simprocAttr]
  exact post_eq rfl
end
end Go.Proofs.YthbdglibakjfbaaDoor
namespace Go.Proofs.YthbdglibakjfbaaDoor
open Go.Eng Go.RowKit
variable [Inhabited Lo]
def a84 : AFn := ⟨8, (.seq (.ops [⟨(.some 2), (.mov (.const (.bool false))), .none⟩]) (.seq (.ops [⟨(.some 3), (.mov (.tmp 0)), .none⟩, ⟨(.some 4), (.mov (.tmp 0)), .none⟩, ⟨(.some 5), (.bin .sub (.tmp 4) (.const (.int .i64 1))), .none⟩, ⟨(.some 6), (.bin .and (.tmp 3) (.tmp 5)), .none⟩, ⟨(.some 7), (.bin .eql (.tmp 6) (.const (.int .i64 0))), .none⟩, ⟨(.some 2), (.mov (.tmp 7)), .none⟩]) .ret)), [(2, .none)]⟩
theorem c84 : cmpF Tryd.prog [] [] 84 = some a84 := by kernel_rfl
def a85 : AFn := ⟨8, (.seq (.ops [⟨(.some 2), (.mov (.const (.int .i64 0))), .none⟩]) (.seq (.cond (.const (.bool false)) (.seq (.ops [⟨(.some 3), (.mov (.tmp 0)), .none⟩, ⟨(.some 4), (.cvI .u32 (.tmp 3)), .none⟩, ⟨(.some 5), (.call 5 92 [(.tmp 4)]), .none⟩, ⟨(.some 2), (.mov (.tmp 5)), .none⟩]) .ret) .skip) (.seq (.ops [⟨(.some 6), (.mov (.tmp 0)), .none⟩, ⟨(.some 7), (.call 7 93 [(.tmp 6)]), .none⟩, ⟨(.some 2), (.mov (.tmp 7)), .none⟩]) .ret))), [(2, .none)]⟩
theorem c85 : cmpF Tryd.prog [] [] 85 = some a85 := by kernel_rfl
noncomputable def cd71 : Code := (Tryd.f71.body).getD .skip
noncomputable def px0 : Code := cL cd71
noncomputable def px1 : Code := cL (cR cd71)
noncomputable def px3 : Code := cL (cR (cR cd71))
noncomputable def px4 : Code := cL (cR (cR (cR cd71)))
noncomputable def px5 : Code := cL (cR (cR (cR (cR cd71))))
noncomputable def px7 : Code := cL (cR (cR (cR (cR (cR cd71)))))
noncomputable def px25 : Code := cL (cR (cR (cR (cR (cR (cR cd71))))))
noncomputable def px28 : Code := cL (cL (cR (cR (cR (cR (cR (cR (cR cd71))))))))
noncomputable def pc28 : Code := cR (cL (cR (cR (cR (cR (cR (cR (cR cd71))))))))
noncomputable def px30 : Code := cL (cR (cR (cR (cR (cR (cR (cR (cR cd71))))))))
theorem cd71_is : Tryd.f71.body = some (.seq px0 (.seq px1 (.seq px3 (.seq px4 (.seq px5 (.seq px7 (.seq px25 (.seq (.seq px28 pc28) (.seq px30 .ret))))))))) := by kernel_rfl
theorem pc28_is : pc28 = .cond (.tmp 94) (cL (match pc28 with | .cond _ a _ => .seq a a | c => c)) .skip := by kernel_rfl
noncomputable def op30 : Array Oper := opsOf px30
theorem px30_is : px30 = .region 30 op30 false := by kernel_rfl
def hx0 : ACode := (.ops [⟨(.some 10), (.mov (.const (.slice .none 0 0))), .none⟩, ⟨(.some 11), (.mov (.const (.string (strOfNums [])))), .none⟩])
theorem gx0 : cmpC Tryd.prog [] [] 102 px0 = some hx0 := by kernel_rfl
def hx1 : ACode := (.seq (.ops [⟨(.some 19), (.mov (.tmp 2)), .none⟩, ⟨(.some 20), (.bin .lss (.tmp 19) (.const (.int .i64 2))), .none⟩, ⟨(.some 21), (.mov (.tmp 20)), .none⟩, ⟨(.some 22), (.mov (.tmp 2)), (.some (21, false))⟩, ⟨(.some 23), (.bin .eql (.tmp 22) (.const (.int .i64 10))), (.some (21, false))⟩, ⟨(.some 24), (.pick (.tmp 21) (.const (.bool true)) (.tmp 23)), .none⟩, ⟨(.some 25), (.mov (.tmp 24)), .none⟩, ⟨(.some 26), (.mov (.tmp 2)), (.some (25, false))⟩, ⟨(.some 27), (.bin .gtr (.tmp 26) (.const (.int .i64 36))), (.some (25, false))⟩, ⟨(.some 28), (.pick (.tmp 25) (.const (.bool true)) (.tmp 27)), .none⟩]) (.cond (.tmp 28) (.ops [⟨(.some 29), (.capN (.const (.bool false))), .none⟩, ⟨.none, (.capN (.const (.bool false))), .none⟩]) .skip))
theorem gx1 : cmpC Tryd.prog [] [] 102 px1 = some hx1 := by kernel_rfl
def hx3 : ACode := (.ops [⟨(.some 12), (.alloc 12 (List.replicate 65 (.int .u8 0))), .none⟩])
theorem gx3 : cmpC Tryd.prog [] [] 102 px3 = some hx3 := by kernel_rfl
def hx4 : ACode := (.ops [⟨(.some 13), (.mov (.const (.int .i64 65))), .none⟩])
theorem gx4 : cmpC Tryd.prog [] [] 102 px4 = some hx4 := by kernel_rfl
def hx5 : ACode := (.seq (.ops [⟨(.some 30), (.mov (.tmp 3)), .none⟩]) (.cond (.tmp 30) (.ops [⟨(.some 31), (.mov (.tmp 1)), .none⟩, ⟨(.some 32), (.un .neg (.tmp 31)), .none⟩, ⟨(.some 1), (.mov (.tmp 32)), .none⟩]) .skip))
theorem gx5 : cmpC Tryd.prog [] [] 102 px5 = some hx5 := by kernel_rfl
def hx7 : ACode := (.seq (.ops [⟨(.some 33), (.mov (.tmp 2)), .none⟩, ⟨(.some 34), (.call 34 84 [(.tmp 33)]), .none⟩]) (.cond (.tmp 34) (.seq (.ops [⟨(.some 35), (.mov (.tmp 2)), .none⟩, ⟨(.some 36), (.cvI .u64 (.tmp 35)), .none⟩, ⟨(.some 37), (.call 37 85 [(.tmp 36)]), .none⟩, ⟨(.some 38), (.cvI .u64 (.tmp 37)), .none⟩, ⟨(.some 14), (.mov (.tmp 38)), .none⟩]) (.seq (.ops [⟨(.some 39), (.mov (.tmp 2)), .none⟩, ⟨(.some 40), (.cvI .u64 (.tmp 39)), .none⟩, ⟨(.some 15), (.mov (.tmp 40)), .none⟩]) (.seq (.ops [⟨(.some 41), (.mov (.tmp 2)), .none⟩, ⟨(.some 42), (.cvI .u64 (.tmp 41)), .none⟩, ⟨(.some 43), (.bin .sub (.tmp 42) (.const (.int .u64 1))), .none⟩, ⟨(.some 16), (.mov (.tmp 43)), .none⟩]) (.seq (.block 0 (.loop (.seq (.seq (.ops [⟨(.some 44), (.mov (.tmp 1)), .none⟩, ⟨(.some 45), (.mov (.tmp 15)), .none⟩, ⟨(.some 46), (.bin .geq (.tmp 44) (.tmp 45)), .none⟩]) (.cond (.tmp 46) .skip (.exit 0))) (.block 1 (.seq (.ops [⟨(.some 47), (.mov (.tmp 13)), .none⟩, ⟨(.some 48), (.bin .sub (.tmp 47) (.const (.int .i64 1))), .none⟩, ⟨(.some 13), (.mov (.tmp 48)), .none⟩]) (.seq (.ops [⟨(.some 49), (.mov (.tmp 13)), .none⟩, ⟨(.some 50), (.mov (.tmp 1)), .none⟩, ⟨(.some 51), (.mov (.tmp 16)), .none⟩, ⟨(.some 52), (.bin .and (.tmp 50) (.tmp 51)), .none⟩, ⟨(.some 53), (.idxS (.const (.string (strOfNums [48, 49, 50, 51, 52, 53, 54, 55, 56, 57, 97, 98, 99, 100, 101, 102, 103, 104, 105, 106, 107, 108, 109, 110, 111, 112, 113, 114, 115, 116, 117, 118, 119, 120, 121, 122]))) (.tmp 52)), .none⟩, ⟨(.some 54), (.iadrA 65 1 (.tmp 12) (.tmp 49)), .none⟩, ⟨.none, (.st 1 (.tmp 54) (.tmp 53)), .none⟩]) (.ops [⟨(.some 55), (.mov (.tmp 1)), .none⟩, ⟨(.some 56), (.mov (.tmp 14)), .none⟩, ⟨(.some 57), (.bin .shr (.tmp 55) (.tmp 56)), .none⟩, ⟨(.some 1), (.mov (.tmp 57)), .none⟩]))))))) (.seq (.ops [⟨(.some 58), (.mov (.tmp 13)), .none⟩, ⟨(.some 59), (.bin .sub (.tmp 58) (.const (.int .i64 1))), .none⟩, ⟨(.some 13), (.mov (.tmp 59)), .none⟩]) (.ops [⟨(.some 60), (.mov (.tmp 13)), .none⟩, ⟨(.some 61), (.mov (.tmp 1)), .none⟩, ⟨(.some 62), (.idxS (.const (.string (strOfNums [48, 49, 50, 51, 52, 53, 54, 55, 56, 57, 97, 98, 99, 100, 101, 102, 103, 104, 105, 106, 107, 108, 109, 110, 111, 112, 113, 114, 115, 116, 117, 118, 119, 120, 121, 122]))) (.tmp 61)), .none⟩, ⟨(.some 63), (.iadrA 65 1 (.tmp 12) (.tmp 60)), .none⟩, ⟨.none, (.st 1 (.tmp 63) (.tmp 62)), .none⟩])))))) (.seq (.ops [⟨(.some 64), (.mov (.tmp 2)), .none⟩, ⟨(.some 65), (.cvI .u64 (.tmp 64)), .none⟩, ⟨(.some 17), (.mov (.tmp 65)), .none⟩]) (.seq (.block 2 (.loop (.seq (.seq (.ops [⟨(.some 66), (.mov (.tmp 1)), .none⟩, ⟨(.some 67), (.mov (.tmp 17)), .none⟩, ⟨(.some 68), (.bin .geq (.tmp 66) (.tmp 67)), .none⟩]) (.cond (.tmp 68) .skip (.exit 2))) (.block 3 (.seq (.ops [⟨(.some 69), (.mov (.tmp 13)), .none⟩, ⟨(.some 70), (.bin .sub (.tmp 69) (.const (.int .i64 1))), .none⟩, ⟨(.some 13), (.mov (.tmp 70)), .none⟩]) (.seq (.ops [⟨(.some 71), (.mov (.tmp 1)), .none⟩, ⟨(.some 72), (.mov (.tmp 17)), .none⟩, ⟨(.some 73), (.bin .quo (.tmp 71) (.tmp 72)), .none⟩, ⟨(.some 18), (.mov (.tmp 73)), .none⟩]) (.seq (.ops [⟨(.some 74), (.mov (.tmp 13)), .none⟩, ⟨(.some 75), (.mov (.tmp 1)), .none⟩, ⟨(.some 76), (.mov (.tmp 18)), .none⟩, ⟨(.some 77), (.mov (.tmp 17)), .none⟩, ⟨(.some 78), (.bin .mul (.tmp 76) (.tmp 77)), .none⟩, ⟨(.some 79), (.bin .sub (.tmp 75) (.tmp 78)), .none⟩, ⟨(.some 80), (.idxS (.const (.string (strOfNums [48, 49, 50, 51, 52, 53, 54, 55, 56, 57, 97, 98, 99, 100, 101, 102, 103, 104, 105, 106, 107, 108, 109, 110, 111, 112, 113, 114, 115, 116, 117, 118, 119, 120, 121, 122]))) (.tmp 79)), .none⟩, ⟨(.some 81), (.iadrA 65 1 (.tmp 12) (.tmp 74)), .none⟩, ⟨.none, (.st 1 (.tmp 81) (.tmp 80)), .none⟩]) (.ops [⟨(.some 82), (.mov (.tmp 18)), .none⟩, ⟨(.some 1), (.mov (.tmp 82)), .none⟩])))))))) (.seq (.ops [⟨(.some 83), (.mov (.tmp 13)), .none⟩, ⟨(.some 84), (.bin .sub (.tmp 83) (.const (.int .i64 1))), .none⟩, ⟨(.some 13), (.mov (.tmp 84)), .none⟩]) (.ops [⟨(.some 85), (.mov (.tmp 13)), .none⟩, ⟨(.some 86), (.mov (.tmp 1)), .none⟩, ⟨(.some 87), (.idxS (.const (.string (strOfNums [48, 49, 50, 51, 52, 53, 54, 55, 56, 57, 97, 98, 99, 100, 101, 102, 103, 104, 105, 106, 107, 108, 109, 110, 111, 112, 113, 114, 115, 116, 117, 118, 119, 120, 121, 122]))) (.tmp 86)), .none⟩, ⟨(.some 88), (.iadrA 65 1 (.tmp 12) (.tmp 85)), .none⟩, ⟨.none, (.st 1 (.tmp 88) (.tmp 87)), .none⟩]))))))
theorem gx7 : cmpC Tryd.prog [] [] 102 px7 = some hx7 := by kernel_rfl
def hx25 : ACode := (.seq (.ops [⟨(.some 89), (.mov (.tmp 3)), .none⟩]) (.cond (.tmp 89) (.seq (.ops [⟨(.some 90), (.mov (.tmp 13)), .none⟩, ⟨(.some 91), (.bin .sub (.tmp 90) (.const (.int .i64 1))), .none⟩, ⟨(.some 13), (.mov (.tmp 91)), .none⟩]) (.ops [⟨(.some 92), (.mov (.tmp 13)), .none⟩, ⟨(.some 93), (.iadrA 65 1 (.tmp 12) (.tmp 92)), .none⟩, ⟨.none, (.st 1 (.tmp 93) (.const (.int .u8 45))), .none⟩])) .skip))
theorem gx25 : cmpC Tryd.prog [] [] 102 px25 = some hx25 := by kernel_rfl
def hx28 : ACode := (.ops [⟨(.some 94), (.mov (.tmp 4)), .none⟩])
theorem gx28 : cmpC Tryd.prog [] [] 102 px28 = some hx28 := by kernel_rfl
end Go.Proofs.YthbdglibakjfbaaDoor
namespace Go.Proofs.YthbdglibakjfbaaDoor
open Go.Eng Go.RowKit
variable [Inhabited Lo]
theorem gBr : Tryd.prog.globalNamed "math/bits.deBruijn64tab" = some 14 := by kernel_rfl
theorem tz_calls (w : World) (ht : Tw w) : Calls Tryd.prog 93 #[.int .u64 16] w fun e w' => e = .returned (.int .i64 4) ∧ w' = w := by
  have hcell : w.cell? ⟨14, 15, none⟩ = some (.int .u8 4) := ht.bru.cell gBr 15 (by decide)
  have e1 : IntKind.u64.wrap (bits BinOp.and IntKind.u64 16 (IntKind.u64.wrap (-16)) * 285870213051353865) / 288230376151711744 = 15 := by decide +kernel
  go_enter Tryd.func93, Tryd.ntmps93
  go_wp2_with (simp only [e1])
  go_ret
  exact ⟨rfl, rfl⟩
theorem tz64_giv : Giv Tryd.prog 93 [.c (.int .u64 16)] (retV [.c (.int .i64 4)]) := by
  refine giv_lib (xs := [.int .u64 16]) (rs := [.int .i64 4]) (by kernel_rfl) (by simp [Value.oneCell']) fun w ht => ?_
  exact (tz_calls w ht).mono fun e w' ⟨he, hw⟩ => ⟨he, by subst hw; exact Below.refl _ _⟩
theorem tz_giv : Giv Tryd.prog 85 [.c (.int .u64 16)] (retV [.c (.int .i64 4)]) := by
  refine Giv.of mixed c85 (Nat.le_of_ble_eq_true rfl) ?_
  simp -dsimp -implicitDefEqProofs (disch := first | omega | (simp only [List.length_append, List.length_cons, List.length_nil, List.length_take, List.length_drop]; omega)) only [a85, ↓aPre, aPost, oneW, allOne, retV, retVA, simprocAttr]
  refine call_giv tz64_giv ?_
  simp -dsimp -implicitDefEqProofs (disch := first | omega | (simp only [List.length_append, List.length_cons, List.length_nil, List.length_take, List.length_drop]; omega)) only [↓aPre, aPost, oneW, allOne, retV, retVA, simprocAttr]
  exact post_eq rfl
theorem pw_giv : Giv Tryd.prog 84 [.c (.int .i64 16)] (retV [.c (.bool true)]) := by
  have e : bits .and .i64 16 15 = 0 := by decide +kernel
  refine Giv.of mixed c84 (Nat.le_of_ble_eq_true rfl) ?_
  simp -dsimp -implicitDefEqProofs (disch := first | omega | (simp only [List.length_append, List.length_cons, List.length_nil, List.length_take, List.length_drop]; omega)) only [a84, e, ↓aPre, aPost, oneW, allOne, retV, retVA, simprocAttr]
  exact post_eq rfl
theorem and_15 (v : Nat) (hv : v < 18446744073709551616) : bits .and .u64 (v : Int) 15 = ((v % 16 : Nat) : Int) := by
  have h1 : (BitVec.ofInt 64 (v : Int)).toNat = v := by
    rw [BitVec.ofInt_natCast, BitVec.toNat_ofNat]; exact Nat.mod_eq_of_lt (by omega)
  have h2 : (BitVec.ofInt 64 (15 : Int)).toNat = 15 := by decide
  show IntKind.u64.wrap ((BitVec.ofInt 64 (v : Int) &&& BitVec.ofInt 64 (15 : Int)).toNat : Int) = _
  rw [BitVec.toNat_and, h1, h2, show v &&& 15 = v % 16 from Nat.and_two_pow_sub_one_eq_mod v 4, IntKind.wrap_u64]
  omega
def digs : List Int := [48, 49, 50, 51, 52, 53, 54, 55, 56, 57, 97, 98, 99, 100, 101, 102, 103, 104, 105, 106, 107, 108, 109, 110, 111, 112, 113, 114, 115, 116, 117, 118, 119, 120, 121, 122]
theorem digs_b : Bytes digs := by
  intro z hz
  simp only [digs, List.mem_cons, List.not_mem_nil, or_false] at hz
  omega
theorem digs_at : ∀ d, d < 16 → digs.getD d 0 = dg d := by decide
theorem dig_at {d : Nat} (h : d < 16) : (((strOfNums digs).data.toList.getD d 0).toNat : Int) = dg d := by
  rw [str_get digs_b (by simp [digs]; omega), digs_at d h]
theorem set_drop {l : List Int} {i : Nat} {x : Int} (h : i + 1 ≤ l.length) : (l.set i x).drop i = x :: l.drop (i + 1) := by
  rw [List.drop_eq_getElem_cons (by simp; omega)]
  simp [List.drop_set]
theorem hxA_more {f v : Nat} {a : List Int} (h : ¬ v < 16) : hxA (f + 1) v a = hxA f (v / 16) (dg (v % 16) :: a) := by rw [hxA, if_neg h]
theorem hxA_last {f v : Nat} {a : List Int} (h : v < 16) : hxA f v a = dg v :: a := by
  cases f with
  | zero => rw [hxA, Nat.mod_eq_of_lt h]
  | succ f => rw [hxA, if_pos h]
def z65 : List Int := List.replicate 65 0
/-- what is known at the last lines -/
def fbF (u : Nat) (s : St) : Prop := ∃ (i : Nat) (l : List Int), l.length = 65 ∧ i ≤ 65 ∧ l.drop i = hexL u ∧ s.tm 10 = .d (.c (.slice none 0 0)) ∧ s.tm 12 = .ptr 12 0 ∧ s.tm 13 = .d (.c (.int .i64 i)) ∧ s.tm 94 = .d (.c (.bool false)) ∧ s.hp 12 = some (.box ((li .u8 l).map AV.d))
theorem hex_pre (u : Nat) (hu : u < 18446744073709551616) : awp Tryd.prog (.seq hx0 (.seq hx1 (.seq hx3 (.seq hx4 (.seq hx5 (.seq hx7 (.seq hx25 hx28))))))) (pcQ (fbF u)) (St.init [.c (.slice none 0 0), .c (.int .u64 u), .c (.int .i64 16), .c (.bool false), .c (.bool false)]) := by
  have hdig : ([48, 49, 50, 51, 52, 53, 54, 55, 56, 57, 97, 98, 99, 100, 101, 102, 103, 104, 105, 106, 107, 108, 109, 110, 111, 112, 113, 114, 115, 116, 117, 118, 119, 120, 121, 122] : List Int) = digs := rfl
  obtain ⟨D, hD⟩ : ∃ D, D = strOfNums digs := ⟨_, rfl⟩
  have hDs : D.size = 36 := by rw [hD, str_size]; rfl
  have hDa : ∀ {d : Nat}, d < 16 → ((D.data.toList.getD d 0).toNat : Int) = dg d := fun h => by rw [hD]; exact dig_at h
  unfold hx7
  rw [hdig, ← hD]
  simp -dsimp -implicitDefEqProofs (disch := first | omega | (simp only [List.length_append, List.length_cons, List.length_nil, List.length_take, List.length_drop]; omega)) only [hx0, hx1, hx3, hx4, hx5, ↓aPre, aPost, oneW, allOne, retV, retVA, simprocAttr]
  refine call_giv pw_giv ?_
  simp -dsimp -implicitDefEqProofs (disch := first | omega | (simp only [List.length_append, List.length_cons, List.length_nil, List.length_take, List.length_drop]; omega)) only [↓aPre, aPost, oneW, allOne, retV, retVA, simprocAttr]
  refine call_giv tz_giv ?_
  simp -dsimp -implicitDefEqProofs (disch := first | omega | (simp only [List.length_append, List.length_cons, List.length_nil, List.length_take, List.length_drop]; omega)) only [↓aPre, aPost, oneW, allOne, retV, retVA, simprocAttr]
  refine loop_of (fun s => ∃ (f v : Nat) (l : List Int), l.length = 65 ∧ f ≤ 15 ∧ v < 16 ^ (f + 1) ∧ hxA f v (l.drop (50 + f)) = hexL u ∧ s.tm 1 = .d (.c (.int .u64 v)) ∧ s.tm 3 = .d (.c (.bool false)) ∧ s.tm 4 = .d (.c (.bool false)) ∧ s.tm 10 = .d (.c (.slice none 0 0)) ∧ s.tm 12 = .ptr 12 0 ∧ s.tm 13 = .d (.c (.int .i64 (50 + f : Nat))) ∧ s.tm 14 = .d (.c (.int .u64 4)) ∧ s.tm 15 = .d (.c (.int .u64 16)) ∧ s.tm 16 = .d (.c (.int .u64 15)) ∧ s.hp 12 = some (.box ((li .u8 l).map AV.d))) (fun s => (avN (s.tm 13)).toNat) ?_ ?_
  · refine ⟨15, u, List.replicate 65 0, by simp, by decide, by omega, rfl, ?_⟩
    simp -dsimp -implicitDefEqProofs (disch := first | omega | (simp only [List.length_append, List.length_cons, List.length_nil, List.length_take, List.length_drop]; omega)) only [↓aPre, aPost, oneW, allOne, retV, retVA, simprocAttr]
    rfl
  rintro s ⟨f, v, l, hl, hf, hv, hA, hs⟩
  have hv64 : v < 18446744073709551616 := Nat.lt_of_lt_of_le hv (Nat.le_trans (Nat.pow_le_pow_right (by decide) (show f + 1 ≤ 16 by omega)) (by decide))
  have ha := and_15 v hv64
  have e1 : (v : Int).fdiv (2 ^ min 4 IntKind.u64.bits) = ((v / 16 : Nat) : Int) := by
    rw [show (2 : Int) ^ min 4 IntKind.u64.bits = 16 from by decide, Int.fdiv_eq_ediv_of_nonneg _ (by omega)]
    rfl
  obtain ⟨i, hi⟩ : ∃ i, i = 50 + f := ⟨_, rfl⟩
  rw [← hi] at hA hs
  have hi1 : (i : Int) - 1 = ((i - 1 : Nat) : Int) := by omega
  have hle : i - 1 + 1 ≤ l.length := by omega
  have hsd : ∀ x : Int, (l.set (i - 1) x).drop (i - 1) = x :: l.drop i := fun x => by
    rw [set_drop hle, show i - 1 + 1 = i by omega]
  by_cases h16 : v < 16
  · have h16' : ¬ (16 : Int) ≤ v := by omega
    have hm : v % 16 = v := Nat.mod_eq_of_lt h16
    rw [hxA_last h16] at hA
    simp -dsimp -implicitDefEqProofs (disch := first | omega | (simp only [List.length_append, List.length_cons, List.length_nil, List.length_take, List.length_drop]; omega)) only [hs, h16', hi1, hDs, hDa h16, ↓aPre, aPost, oneW, allOne, retV, retVA, simprocAttr]
    simp -dsimp -implicitDefEqProofs (disch := first | omega | (simp only [List.length_append, List.length_cons, List.length_nil, List.length_take, List.length_drop]; omega)) only [hx25, hx28, hs, pcQ_n, ↓aPre, aPost, oneW, allOne, retV, retVA, simprocAttr]
    refine pc_of ⟨i - 1, l.set (i - 1) (dg v), by simp [hl], by omega, by rw [hsd]; exact hA, ?_⟩
    simp -dsimp -implicitDefEqProofs (disch := first | omega | (simp only [List.length_append, List.length_cons, List.length_nil, List.length_take, List.length_drop]; omega)) only [hs, ↓aPre, aPost, oneW, allOne, retV, retVA, simprocAttr]
  · have h16' : (16 : Int) ≤ v := by omega
    obtain ⟨g, rfl⟩ : ∃ g, f = g + 1 := ⟨f - 1, by
      rcases Nat.eq_zero_or_pos f with h | h
      · subst h; exact absurd hv (by omega)
      · omega⟩
    rw [hxA_more h16] at hA
    have hd16 : v % 16 < 16 := Nat.mod_lt _ (by decide)
    have hv2 : v / 16 < 16 ^ (g + 1) := by
      rw [Nat.pow_succ] at hv
      exact Nat.div_lt_of_lt_mul (by rw [Nat.mul_comm]; exact hv)
    simp -dsimp -implicitDefEqProofs (disch := first | omega | (simp only [List.length_append, List.length_cons, List.length_nil, List.length_take, List.length_drop]; omega)) only [hs, h16', hi1, ha, hDs, hDa hd16, e1, ↓aPre, aPost, oneW, allOne, retV, retVA, simprocAttr]
    refine round_of ⟨g, v / 16, l.set (i - 1) (dg (v % 16)), by simp [hl], by omega, hv2, ?_, ?_⟩ ?_
    · rw [show 50 + g = i - 1 by omega, hsd]
      exact hA
    · have hg : ((50 + g : Nat) : Int) = ((i - 1 : Nat) : Int) := by omega
      rw [hg]
      simp -dsimp -implicitDefEqProofs (disch := first | omega | (simp only [List.length_append, List.length_cons, List.length_nil, List.length_take, List.length_drop]; omega)) only [hs, ↓aPre, aPost, oneW, allOne, retV, retVA, simprocAttr]
    · simp -dsimp -implicitDefEqProofs (disch := first | omega | (simp only [List.length_append, List.length_cons, List.length_nil, List.length_take, List.length_drop]; omega)) only [hs, ↓aPre, aPost, oneW, allOne, retV, retVA, simprocAttr]
      omega
end Go.Proofs.YthbdglibakjfbaaDoor
namespace Go.Proofs.YthbdglibakjfbaaDoor
open Go.Eng Go.RowKit
variable [Inhabited Lo]
theorem dg_b {d : Nat} (h : d < 16) : 0 ≤ dg d ∧ dg d < 256 := by
  unfold dg
  split <;> omega
theorem hxA_b : ∀ (f u : Nat) (a : List Int), Bytes a → Bytes (hxA f u a)
  | 0, u, a, h => by
    intro z hz
    rcases List.mem_cons.1 hz with rfl | hz
    · exact dg_b (Nat.mod_lt _ (by decide))
    · exact h z hz
  | f + 1, u, a, h => by
    rw [hxA]
    split
    · intro z hz
      rcases List.mem_cons.1 hz with rfl | hz
      · exact dg_b (by assumption)
      · exact h z hz
    · refine hxA_b f (u / 16) _ fun z hz => ?_
      rcases List.mem_cons.1 hz with rfl | hz
      · exact dg_b (Nat.mod_lt _ (by decide))
      · exact h z hz
theorem hexL_b (u : Nat) : Bytes (hexL u) := hxA_b 15 u [] Bytes.nil
theorem hxA_pos : ∀ (f u : Nat) (a : List Int), a.length < (hxA f u a).length
  | 0, u, a => by simp [hxA]
  | f + 1, u, a => by
    rw [hxA]
    split
    · simp
    · have := hxA_pos f (u / 16) (dg (u % 16) :: a)
      simp only [List.length_cons] at this
      omega
theorem ars_li {Z : Nat → Prop} {M : Nat → Option Nat} {w : World} : ∀ (l : List Int) (xs : List Value), ARs Z M w ((li .u8 l).map AV.d) xs → xs = l.map (Value.int .u8)
  | [], xs, h => by
    unfold li at h
    simp only [List.map_nil] at h
    unfold ARs at h
    exact h
  | z :: l, xs, h => by
    unfold li at h
    simp only [List.map_cons] at h
    unfold ARs at h
    obtain ⟨x, xs', rfl, _, hx, hr⟩ := h
    unfold AR DR at hx
    rw [hx.1, ars_li l xs' (by unfold li; exact hr)]
    rfl
noncomputable def ob0 : Oper := op30.getD 0 default
noncomputable def ob1 : Oper := op30.getD 1 default
noncomputable def ob2 : Oper := op30.getD 2 default
noncomputable def ob3 : Oper := op30.getD 3 default
theorem op30_is : List.range op30.size = [0, 1, 2, 3] ∧ op30[0]? = some ob0 ∧ op30[1]? = some ob1 ∧ op30[2]? = some ob2 ∧ op30[3]? = some ob3 := ⟨by kernel_rfl, by kernel_rfl, by kernel_rfl, by kernel_rfl, by kernel_rfl⟩
theorem ob0_is : ob0.dst = some 99 ∧ ob0.op = .move (.tmp 13) ∧ ob0.guard = none := ⟨by kernel_rfl, by kernel_rfl, by kernel_rfl⟩
theorem ob1_is : ob1.dst = some 100 ∧ ob1.op = .slice 144 (.tmp 12) (some (.tmp 99)) none none ∧ ob1.guard = none := ⟨by kernel_rfl, by kernel_rfl, by kernel_rfl⟩
theorem ob2_is : ob2.dst = some 101 ∧ ob2.op = .convert 73 9 (.tmp 100) ∧ ob2.guard = none := ⟨by kernel_rfl, by kernel_rfl, by kernel_rfl⟩
theorem ob3_is : ob3.dst = some 11 ∧ ob3.op = .assign (.tmp 101) ∧ ob3.guard = none := ⟨by kernel_rfl, by kernel_rfl, by kernel_rfl⟩
/-- one operation that gives a value -/
theorem op_w {P : Program} {ops : Array Oper} {o : Oper} {i q : Nat} {l : List Nat} {Q : Exit → Act → World → Prop} {a : Act} {w : World} {x : Value} (hg : ops[i]? = some o) (h1 : o.dst = some q) (h3 : o.guard = none)
    (hx : (execOp a.eval o).run P w = .ok (.value x) w) (hK : wpOps P ops Q l (a.put (some q) x) w) : wpOps P ops Q (i :: l) a w := by
  simp only [wpOps, hg]
  have hw : Region.wanted o (yielded ops a.tmps) = true := by
    unfold Region.wanted
    rw [h3]
  rw [if_pos hw]
  refine .inl ?_
  unfold Oper.wp
  rw [hx]
  show wpOps _ _ _ l (a.put o.dst _) w
  rw [h1]
  exact hK
/-- a piece, and what comes behind it -/
theorem piece_w {c : Cx} {own prot : List Nat} {x y : Code} {ax ay : ACode} (hc : cmpC Tryd.prog own prot c.nt x = some ax) {Z : Nat → Prop} {M : Nat → Option Nat} {s : St} {a : Act} {w : World} (R : Rep c Z M s a w) {F : St → Prop} (h : awp Tryd.prog (.seq ax ay) (pcQ F) s) {Q : Exit → Act → World → Prop} (hO : ∀ ch a w, ¬ Q (.panic ch) a w)
    (k : ∀ Z' M' s' a' w', Rep c Z' M' s' a' w' → awp Tryd.prog ay (pcQ F) s' → y.wp Tryd.prog Q a' w') : (Code.seq x y).wp Tryd.prog Q a w := by
  refine wp_seq (awp_sound mixed x ax hc R (Q := thenQ (awp Tryd.prog ay (pcQ F)) (pcQ F)) h (fun e Z' M' s' a' w' R' h' => ?_) fun ch a w h => hO ch a w h)
  cases e with
  | normal => exact k _ _ _ _ _ R' h'
  | _ => exact h'.elim
theorem piece_w1 {c : Cx} {own prot : List Nat} {x : Code} {ax : ACode} (hc : cmpC Tryd.prog own prot c.nt x = some ax) {Z : Nat → Prop} {M : Nat → Option Nat} {s : St} {a : Act} {w : World} (R : Rep c Z M s a w) {F : St → Prop} (h : awp Tryd.prog ax (pcQ F) s) {Q : Exit → Act → World → Prop} (hO : ∀ ch a w, ¬ Q (.panic ch) a w)
    (k : ∀ Z' M' s' a' w', Rep c Z' M' s' a' w' → F s' → Q .normal a' w') : x.wp Tryd.prog Q a w := by
  refine awp_sound mixed x ax hc R h (fun e Z' M' s' a' w' R' h' => ?_) hO
  cases e with
  | normal =>
    obtain ⟨Z2, M2, s2, _, R2, h2⟩ := pcE_rep h' R'
    exact k _ _ _ _ _ R2 h2
  | _ => exact h'.elim
theorem fb_calls (u : Nat) (hu : u < 18446744073709551616) (w : World) (ht : Tw w) : Calls Tryd.prog 71 #[.slice none 0 0, .int .u64 u, .int .i64 16, .bool false, .bool false] w fun e w' => e = .returned (.tuple #[.slice none 0 0, .string (strOfNums (hexL u))]) ∧ Below w.heap.size w w' := by
  have hv : DRt (fun b => b < w.heap.size) w [.c (.slice none 0 0), .c (.int .u64 u), .c (.int .i64 16), .c (.bool false), .c (.bool false)] [.slice none 0 0, .int .u64 u, .int .i64 16, .bool false, .bool false] := drt_of (xs := [.slice none 0 0, .int .u64 u, .int .i64 16, .bool false, .bool false]) (by simp [Value.oneCell'])
  have hR0 := Rep.init (nt := 102) (w := w) (Z := fun b => b < w.heap.size) ht (fun _ h => h) hv (Nat.le_of_ble_eq_true rfl) (by decide)
  refine calls_of_wp Tryd.func71 cd71_is ?_
  have hO : ∀ (ch : _) (a : Act) (w' : World), ¬ (bodyPost Tryd.prog Tryd.f71 (fun e w' => e = .returned (.tuple #[.slice none 0 0, .string (strOfNums (hexL u))]) ∧ Below w.heap.size w w')) (.panic ch) a w' := fun ch a w' h => by
    obtain ⟨_, h, _⟩ := h
    cases h
  refine piece_w (own := []) (prot := []) gx0 hR0 (hex_pre u hu) hO fun Z1 M1 s1 a1 w1 R1 h1 => ?_
  refine piece_w (own := []) (prot := []) gx1 R1 h1 hO fun Z2 M2 s2 a2 w2 R2 h2 => ?_
  refine piece_w (own := []) (prot := []) gx3 R2 h2 hO fun Z3 M3 s3 a3 w3 R3 h3 => ?_
  refine piece_w (own := []) (prot := []) gx4 R3 h3 hO fun Z4 M4 s4 a4 w4 R4 h4 => ?_
  refine piece_w (own := []) (prot := []) gx5 R4 h4 hO fun Z5 M5 s5 a5 w5 R5 h5 => ?_
  refine piece_w (own := []) (prot := []) gx7 R5 h5 hO fun Z6 M6 s6 a6 w6 R6 h6 => ?_
  refine piece_w (own := []) (prot := []) gx25 R6 h6 hO fun Z7 M7 s7 a7 w7 R7 h7 => ?_
  refine wp_seq (wp_seq (piece_w1 (own := []) (prot := []) gx28 R7 h7 (fun ch a w' h => hO ch a w' h) fun Z8 M8 s a W R hF => ?_))
  show pc28.wp Tryd.prog _ a W
  clear h1 h2 h3 h4 h5 h6 h7 R1 R2 R3 R4 R5 R6 R7 hR0
  obtain ⟨i, l, hl, hi, hd, f10, f12, f13, f94, fh⟩ := hF
  have v10 := R.tm 10
  have v12 := R.tm 12
  have v13 := R.tm 13
  have v94 := R.tm 94
  rw [f10] at v10
  rw [f12] at v12
  rw [f13] at v13
  rw [f94] at v94
  unfold AR at v10 v12 v13 v94
  unfold DR at v10 v13 v94
  obtain ⟨b, hb, e12⟩ := v12
  obtain ⟨e10, _⟩ := v10
  obtain ⟨e13, _⟩ := v13
  obtain ⟨e94, _⟩ := v94
  obtain ⟨b', xs, ty, hb', hheap, hars, _⟩ := R.ob 12 _ fh
  obtain rfl : b' = b := Option.some.inj (hb'.symm.trans hb)
  have hxs := ars_li l _ hars
  have hcell : ∀ j, j < 65 → W.cell? ⟨b', j, none⟩ = some (.int .u8 (l.getD j 0)) := fun j hj => by
    rw [cell_of_row W b' j xs ty (0, 0) hheap, ← Array.getElem?_toList, hxs, List.getElem?_map, List.getElem?_eq_getElem (by omega)]
    simp only [Option.map_some, List.getD, List.getElem?_eq_getElem (show j < l.length by omega), Option.getD_some]
  rw [pc28_is]
  refine wp_cond_false (show a.eval (.tmp 94) = .bool false from e94) (wp_skip ?_)
  show (Code.seq px30 .ret).wp Tryd.prog _ a W
  rw [px30_is]
  refine wp_seq (wp_region ?_)
  have hsz : a.tmps.size = 102 := R.size
  obtain ⟨e0, g0, g1, g2, g3⟩ := op30_is
  rw [e0]
  have hT : ∀ (a : Act) (q t : Nat) (x : Value), q < a.tmps.size → (a.put (some q) x).tmps.getD t undef = if t = q then x else a.tmps.getD t undef := fun a q t x hq => by
    show (a.tmps.setIfInBounds q x).getD t undef = _
    simp only [Array.getD_eq_getD_getElem?, Array.getElem?_setIfInBounds]
    by_cases h : t = q
    · subst h
      simp [hq]
    · rw [if_neg (fun e => h e.symm), if_neg h]
  have hS : ∀ (a : Act) (q : Nat) (x : Value), (a.put (some q) x).tmps.size = a.tmps.size := fun a q x => by
    show (a.tmps.setIfInBounds q x).size = _
    simp
  have hv : ∀ (sm : Sem Value) (x : Value), sm.run Tryd.prog W = .ok x W → (do pure (Next.value (← sm)) : Sem Next).run Tryd.prog W = .ok (.value x) W := fun sm x h => by
    go_simp
  have hi65 : i < 65 := by
    have h1 := hxA_pos 15 u []
    have h2 : (hexL u).length = 65 - i := by rw [← hd, List.length_drop, hl]
    unfold hexL at h2
    simp only [List.length_nil] at h1
    omega
  refine op_w g0 ob0_is.1 ob0_is.2.2 (x := .int .i64 i) ?_ ?_
  · unfold execOp
    rw [ob0_is.2.1]
    show Result.ok (Next.value (a.tmps.getD 13 undef)) W = _
    rw [e13]
  refine op_w g1 ob1_is.1 ob1_is.2.2 (x := .slice (some ⟨b', i, none⟩) (65 - i) (65 - i)) ?_ ?_
  · have h1 : (Instr.sliceAt 144 (.pointer (some ⟨b', 0, none⟩)) (some (.int .i64 (i : Int))) none none).run Tryd.prog W = .ok (.slice (some ⟨b', i, none⟩) (65 - i) (65 - i)) W := by
      rw [run_sliceAt_array_l W 144 ⟨b', 0, none⟩ (by kernel_rfl) .i64 (i : Int) (by omega) (by rw [show Tryd.prog.arrayLen 144 = 65 by kernel_rfl]; omega)]
      rw [show Tryd.prog.arrayLen 144 = 65 by kernel_rfl]
      go_simp
      omega
    have t12 : (a.put (some 99) (Value.int .i64 (i : Int))).tmps.getD 12 undef = .pointer (some ⟨b', 0, none⟩) := by
      rw [hT _ _ _ _ (by rw [hsz]; decide), if_neg (by decide), e12]
    have t99 : (a.put (some 99) (Value.int .i64 (i : Int))).tmps.getD 99 undef = .int .i64 (i : Int) := by
      rw [hT _ _ _ _ (by rw [hsz]; decide), if_pos rfl]
    unfold execOp
    rw [ob1_is.2.1]
    refine hv _ _ ?_
    show (Instr.sliceAt 144 ((a.put (some 99) (Value.int .i64 (i : Int))).tmps.getD 12 undef) (some ((a.put (some 99) (Value.int .i64 (i : Int))).tmps.getD 99 undef)) none none).run Tryd.prog W = _
    rw [t12, t99]
    exact h1
  refine op_w g2 ob2_is.1 ob2_is.2.2 (x := .string (strOfNums (hexL u))) ?_ ?_
  · have hub : (ub (hexL u)).length = 65 - i := by
      unfold ub
      rw [List.length_map, ← hd, List.length_drop, hl]
    have h2 := run_convert_bytes_back (P := Tryd.prog) W 73 9 5 ⟨b', i, none⟩ (65 - i) (ub (hexL u)) Tryd.underlying73 Tryd.underlying5 Tryd.underlying9 (fun j hj => by
      rw [hub] at hj
      rw [Addr.add_lit, hcell (i + j) (by omega)]
      have hz := hexL_b u
      have hg : l.getD (i + j) 0 = (hexL u).getD j 0 := by rw [← hd]; simp only [List.getD, List.getElem?_drop]
      have hjl : j < (hexL u).length := by rw [← hd, List.length_drop, hl]; exact hj
      have e2 : (ub (hexL u))[j] = UInt8.ofNat ((hexL u)[j]).toNat := List.getElem_map _
      rw [e2, u8_of (hz _ (List.getElem_mem hjl)), hg]
      simp only [List.getD, List.getElem?_eq_getElem hjl, Option.getD_some])
    rw [hub] at h2
    have hst : (⟨(ub (hexL u)).toArray⟩ : ByteArray) = strOfNums (hexL u) := str_back _
    rw [hst] at h2
    unfold execOp
    rw [ob2_is.2.1]
    refine hv _ _ ?_
    show (convert 73 9 (Array.getD _ 100 undef)).run Tryd.prog W = _
    rw [hT _ _ _ _ (by rw [hS, hsz]; decide), if_pos rfl]
    exact h2
  refine op_w g3 ob3_is.1 ob3_is.2.2 (x := .string (strOfNums (hexL u))) ?_ ?_
  · unfold execOp
    rw [ob3_is.2.1]
    show Result.ok (Next.value (Array.getD _ 101 undef)) W = _
    rw [hT _ _ _ _ (by rw [hS, hS, hsz]; decide), if_pos rfl]
  refine wp_ret ?_
  refine ⟨R.defers, _, results_tmp2 (t := 10) (u := 11) (by kernel_rfl) _ _ _, ?_, (Rep.done (c := cx (fun b => b < w.heap.size) w 102 ht) R).below⟩
  rw [hT _ 11 10 _ (by rw [hS, hS, hS, hsz]; decide), if_neg (by decide), hT _ 101 10 _ (by rw [hS, hS, hsz]; decide), if_neg (by decide), hT _ 100 10 _ (by rw [hS, hsz]; decide), if_neg (by decide), hT _ 99 10 _ (by rw [hsz]; decide), if_neg (by decide), e10, hT _ 11 11 _ (by rw [hS, hS, hS, hsz]; decide), if_pos rfl]
theorem hexU_calls (u : Nat) (hu : u < 18446744073709551616) (w : World) (ht : Tw w) : Calls Tryd.prog 60 #[.int .u64 u, .int .i64 16] w fun e w' => e = .returned (.string (strOfNums (hexL u))) ∧ Below w.heap.size w w' := by
  go_enter Tryd.func60, Tryd.ntmps60
  go_wp2_with (first
    | (go_at_call 71; refine (fb_calls u hu w ht).mono ?_; rintro e w' ⟨rfl, hb⟩))
  go_ret
  exact ⟨rfl, hb⟩
theorem hexU_giv (u : Nat) (hu : u < 18446744073709551616) : Giv Tryd.prog 60 [.c (.int .u64 u), .c (.int .i64 16)] (retV [.c (.string (strOfNums (hexL u)))]) :=
  giv_lib (xs := [.int .u64 u, .int .i64 16]) (rs := [.string (strOfNums (hexL u))]) (by kernel_rfl) (by simp [Value.oneCell']) fun w ht => hexU_calls u hu w ht
theorem hex_giv (u : Nat) (hu : u < 18446744073709551616) : Giv Tryd.prog 42 [.c (.int .u64 u), .c (.int .i64 16)] (retV [.c (.string (strOfNums (hexL u)))]) := by
  refine Giv.of mixed c42 (Nat.le_of_ble_eq_true rfl) ?_
  simp -dsimp -implicitDefEqProofs (disch := first | omega | (simp only [List.length_append, List.length_cons, List.length_nil, List.length_take, List.length_drop]; omega)) only [a42, ↓aPre, aPost, oneW, allOne, retV, retVA, simprocAttr]
  refine call_giv (hexU_giv u hu) ?_
  simp -dsimp -implicitDefEqProofs (disch := first | omega | (simp only [List.length_append, List.length_cons, List.length_nil, List.length_take, List.length_drop]; omega)) only [↓aPre, aPost, oneW, allOne, retV, retVA, simprocAttr]
  exact post_eq rfl
end Go.Proofs.YthbdglibakjfbaaDoor

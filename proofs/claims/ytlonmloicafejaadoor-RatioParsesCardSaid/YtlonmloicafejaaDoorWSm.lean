/- A fraction's text, its value, the value's fraction. No condition but what each says. -/
import Derived.Test.YtlonmloicafejaaDoorWParse
import Derived.Test.YtlonmloicafejaaDoorWRRat
set_option linter.unusedSimpArgs false
set_option linter.unusedVariables false
set_option maxRecDepth 8000
set_option maxHeartbeats 4000000
namespace Go.Proofs.YtlonmloicafejaaDoor
open Go.Eng Go.RowKit
theorem or_32 (x y : Int) (hx : 0 ≤ x ∧ x < 4294967296) (hy : 0 ≤ y ∧ y < 4294967296) : bits .or .u64 (x * 4294967296) y = x * 4294967296 + y := by
  obtain ⟨a, rfl⟩ := Int.eq_ofNat_of_zero_le hx.1
  obtain ⟨b, rfl⟩ := Int.eq_ofNat_of_zero_le hy.1
  rw [u64_or _ _ (by omega) (by omega) (by omega) (by omega)]
  have h := Nat.shiftLeft_add_eq_or_of_lt (show b < 2 ^ 32 by omega) a
  rw [show ((a : Int) * 4294967296).toNat = a <<< 32 by rw [Nat.shiftLeft_eq]; omega, Int.toNat_natCast, ← h, Nat.shiftLeft_eq]
  omega
theorem of_giv (v : Nat) (hv : v < 18446744073709551616) : Giv Tryd.prog 15 [.c (.int .u64 v)] (retV [.agg [.c (.int .u32 (v / 4294967296 : Nat)), .c (.int .u32 (v % 4294967296 : Nat))]]) := by
  refine Giv.of mixed c15 (Nat.le_of_ble_eq_true rfl) ?_
  have e1 : (v : Int).fdiv (2 ^ min 32 IntKind.u64.bits) = ((v / 4294967296 : Nat) : Int) := by
    rw [show (2 : Int) ^ min 32 IntKind.u64.bits = 4294967296 from by decide, Int.fdiv_eq_ediv_of_nonneg _ (by omega)]
    rfl
  have e2 : IntKind.u32.wrap ((v / 4294967296 : Nat) : Int) = ((v / 4294967296 : Nat) : Int) := by rw [IntKind.wrap_u32]; omega
  have e3 : IntKind.u32.wrap (v : Int) = ((v % 4294967296 : Nat) : Int) := by rw [IntKind.wrap_u32]; omega
  simp -dsimp -implicitDefEqProofs (disch := first | omega | (simp only [List.length_append, List.length_cons, List.length_nil, List.length_take, List.length_drop]; omega)) only [a15, ↓aPre, aPost, oneW, allOne, retV, retVA, simprocAttr]
  refine post_eq ?_
  rw [e1, e3]
theorem value_giv (n d : Nat) (hn : n < 4294967296) (hd : d < 4294967296) : Giv Tryd.prog 16 [.agg [.c (.int .u32 n), .c (.int .u32 d)]] (retV [.c (.int .u64 (n * 4294967296 + d : Nat))]) := by
  refine Giv.of mixed c16 (Nat.le_of_ble_eq_true rfl) ?_
  have e1 : IntKind.u64.wrap ((n : Int) * 2 ^ min 32 IntKind.u64.bits) = (n : Int) * 4294967296 := by
    rw [show (2 : Int) ^ min 32 IntKind.u64.bits = 4294967296 from by decide, IntKind.wrap_u64]
    omega
  have e2 := or_32 n d (by omega) (by omega)
  simp -dsimp -implicitDefEqProofs (disch := first | omega | (simp only [List.length_append, List.length_cons, List.length_nil, List.length_take, List.length_drop]; omega)) only [a16, ↓aPre, aPost, oneW, allOne, retV, retVA, simprocAttr]
  refine post_eq ?_
  rw [e1, e2, Int.natCast_mul]
  rfl
theorem text_giv (n d : Nat) (hn : n < 4294967296) (hd : d < 4294967296) : Giv Tryd.prog 14 [.agg [.c (.int .u32 n), .c (.int .u32 d)]] (retV [.c (.string (strOfNums (dec n ++ [47] ++ dec d)))]) := by
  have l1 := dec_len 9 n (by omega)
  have l2 := dec_len 9 d (by omega)
  refine Giv.of mixed c14 (Nat.le_of_ble_eq_true rfl) ?_
  simp -dsimp -implicitDefEqProofs (disch := first | omega | (simp only [List.length_append, List.length_cons, List.length_nil, List.length_take, List.length_drop]; omega)) only [a14, ↓aPre, aPost, oneW, allOne, retV, retVA, simprocAttr]
  refine call_giv (fmtP_giv n (by omega)) ?_
  simp -dsimp -implicitDefEqProofs (disch := first | omega | (simp only [List.length_append, List.length_cons, List.length_nil, List.length_take, List.length_drop]; omega)) only [↓aPre, aPost, oneW, allOne, retV, retVA, simprocAttr]
  refine call_giv (fmtP_giv d (by omega)) ?_
  simp -dsimp -implicitDefEqProofs (disch := first | omega | (simp only [List.length_append, List.length_cons, List.length_nil, List.length_take, List.length_drop]; omega)) only [↓aPre, aPost, oneW, allOne, retV, retVA, simprocAttr]
  exact post_eq rfl
end Go.Proofs.YtlonmloicafejaaDoor

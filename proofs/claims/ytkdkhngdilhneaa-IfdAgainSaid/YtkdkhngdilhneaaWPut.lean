/- A number, written behind what was written. No condition but what each says. -/
import Derived.Test.YtkdkhngdilhneaaWRight
set_option linter.unusedSimpArgs false
set_option linter.unusedVariables false
set_option maxRecDepth 8000
set_option maxHeartbeats 4000000
namespace Go.Proofs.Ytkdkhngdilhneaa
open Go.Eng Go.RowKit
def a31 : AFn := ⟨22, (.seq (.ops [⟨(.some 10), (.mov (.tmp 0)), .none⟩, ⟨(.some 11), (.mov (.tmp 1)), .none⟩, ⟨(.some 12), (.fadr 0 (.tmp 2)), .none⟩, ⟨(.some 13), (.ld (.tmp 12)), .none⟩, ⟨(.some 14), (.call 14 28 [(.tmp 10), (.tmp 11), (.tmp 13)]), .none⟩, ⟨(.some 9), (.mov (.tmp 14)), .none⟩, ⟨(.some 15), (.ext (.tmp 9) 0), .none⟩, ⟨(.some 16), (.ext (.tmp 9) 1), .none⟩, ⟨(.some 7), (.mov (.tmp 15)), .none⟩, ⟨(.some 8), (.mov (.tmp 16)), .none⟩]) (.seq (.seq (.ops [⟨(.some 17), (.mov (.tmp 8)), .none⟩, ⟨(.some 18), (.bin .neq (.tmp 17) (.const (.int .i64 0))), .none⟩]) (.cond (.tmp 18) (.ops [⟨.none, (.st 1 (.tmp 3) (.const (.int .i64 11))), .none⟩]) .skip)) (.ops [⟨(.some 19), (.ld (.tmp 4)), .none⟩, ⟨(.some 20), (.mov (.tmp 7)), .none⟩, ⟨(.some 21), (.app 21 1 1 (.tmp 19) (.tmp 20)), .none⟩, ⟨.none, (.st 1 (.tmp 4) (.tmp 21)), .none⟩]))), []⟩
theorem c31 : cmpF Try.prog [] [] 31 = some a31 := by kernel_rfl
/-- the first number: nothing was written -/
theorem put_0 (v n : Nat) (big large : Bool) (first : Int) (hn : sizedP n) (hv : v < 18446744073709551616) (hf : v < 256 ^ n) : GivM Try.prog 31 [.d (.c (.int .u64 v)), .d (.c (.int .i64 n)), .ptr 2000000 0, .ptr 2000001 0, .ptr 2000002 0] [(2000000, .box [.d (.c (.bool big)), .d (.c (.bool large)), .d (.c (.int .u64 first))]), (2000001, .box [.d (.c (.int .i64 0))]), (2000002, .box [.d (.c (.slice none 0 0))])] (.tup [])
    [(2000000, .box [.d (.c (.bool big)), .d (.c (.bool large)), .d (.c (.int .u64 first))]), (2000001, .box [.d (.c (.int .i64 0))]), (2000002, .box [.sl 21 1 0 n]), (21, .row 1 (li .u8 (putL v n big)))] := by
  have hg := put_t v n big hn hf hv
  have hpl := putL_len v n big
  have hn8 : 1 ≤ n ∧ n ≤ 8 := by unfold sizedP at hn; omega
  refine GivM.of mixed c31 (Nat.le_of_ble_eq_true rfl) rfl rfl ?_
  simp -dsimp -implicitDefEqProofs (disch := first | omega | (simp only [List.length_append, List.length_cons, List.length_nil, List.length_take, List.length_drop]; omega)) only [a31, ↓aPre, aPost, oneW, allOne, retV, retVA, simprocAttr]
  refine call_giv hg ?_
  simp -dsimp -implicitDefEqProofs (disch := first | omega | (simp only [List.length_append, List.length_cons, List.length_nil, List.length_take, List.length_drop]; omega)) only [hpl, ↓aPre, aPost, oneW, allOne, retV, retVA, simprocAttr]
  refine end_of rfl ?_
  simp -dsimp -implicitDefEqProofs (disch := first | omega | (simp only [List.length_append, List.length_cons, List.length_nil, List.length_take, List.length_drop]; omega)) only [hpl, ↓aPre, aPost, oneW, allOne, retV, retVA, simprocAttr]
theorem put_m (v n : Nat) (big large : Bool) (first bad : Int) (out : List Int) (hn : sizedP n) (hv : v < 18446744073709551616) (hf : v < 256 ^ n) (hl : out.length ≤ 1000000) : GivM Try.prog 31 [.d (.c (.int .u64 v)), .d (.c (.int .i64 n)), .ptr 2000000 0, .ptr 2000001 0, .ptr 2000002 0] [(2000000, .box [.d (.c (.bool big)), .d (.c (.bool large)), .d (.c (.int .u64 first))]), (2000001, .box [.d (.c (.int .i64 bad))]), (2000002, .box [.sl 1000000 1 0 out.length]), (1000000, .row 1 (li .u8 out))] (.tup [])
    [(2000000, .box [.d (.c (.bool big)), .d (.c (.bool large)), .d (.c (.int .u64 first))]), (2000001, .box [.d (.c (.int .i64 bad))]), (2000002, .box [.sl 1000000 1 0 (out.length + n)]), (1000000, .row 1 (li .u8 (out ++ putL v n big)))] := by
  have hg := put_t v n big hn hf hv
  have hpl := putL_len v n big
  have hn8 : 1 ≤ n ∧ n ≤ 8 := by unfold sizedP at hn; omega
  refine GivM.of mixed c31 (Nat.le_of_ble_eq_true rfl) rfl rfl ?_
  simp -dsimp -implicitDefEqProofs (disch := first | omega | (simp only [List.length_append, List.length_cons, List.length_nil, List.length_take, List.length_drop]; omega)) only [a31, ↓aPre, aPost, oneW, allOne, retV, retVA, simprocAttr]
  refine call_giv hg ?_
  simp -dsimp -implicitDefEqProofs (disch := first | omega | (simp only [List.length_append, List.length_cons, List.length_nil, List.length_take, List.length_drop]; omega)) only [hpl, ↓aPre, aPost, oneW, allOne, retV, retVA, simprocAttr]
  refine end_of rfl ?_
  simp -dsimp -implicitDefEqProofs (disch := first | omega | (simp only [List.length_append, List.length_cons, List.length_nil, List.length_take, List.length_drop]; omega)) only [hpl, ↓aPre, aPost, oneW, allOne, retV, retVA, simprocAttr]
theorem put_me (v n : Nat) (big large : Bool) (first bad : Int) (out : List Int) (hn : sizedP n) (hv : v < 18446744073709551616) (hf : ¬ v < 256 ^ n) (hl : out.length ≤ 1000000) : GivM Try.prog 31 [.d (.c (.int .u64 v)), .d (.c (.int .i64 n)), .ptr 2000000 0, .ptr 2000001 0, .ptr 2000002 0] [(2000000, .box [.d (.c (.bool big)), .d (.c (.bool large)), .d (.c (.int .u64 first))]), (2000001, .box [.d (.c (.int .i64 bad))]), (2000002, .box [.sl 1000000 1 0 out.length]), (1000000, .row 1 (li .u8 out))] (.tup [])
    [(2000000, .box [.d (.c (.bool big)), .d (.c (.bool large)), .d (.c (.int .u64 first))]), (2000001, .box [.d (.c (.int .i64 11))]), (2000002, .box [.sl 1000000 1 0 out.length]), (1000000, .row 1 (li .u8 out))] := by
  have hg := put_e v n big hn hf hv
  refine GivM.of mixed c31 (Nat.le_of_ble_eq_true rfl) rfl rfl ?_
  simp -dsimp -implicitDefEqProofs (disch := first | omega | (simp only [List.length_append, List.length_cons, List.length_nil, List.length_take, List.length_drop]; omega)) only [a31, ↓aPre, aPost, oneW, allOne, retV, retVA, simprocAttr]
  refine call_giv hg ?_
  simp -dsimp -implicitDefEqProofs (disch := first | omega | (simp only [List.length_append, List.length_cons, List.length_nil, List.length_take, List.length_drop]; omega)) only [↓aPre, aPost, oneW, allOne, retV, retVA, simprocAttr]
  refine end_of rfl ?_
  simp -dsimp -implicitDefEqProofs (disch := first | omega | (simp only [List.length_append, List.length_cons, List.length_nil, List.length_take, List.length_drop]; omega)) only [↓aPre, aPost, oneW, allOne, retV, retVA, simprocAttr]
end Go.Proofs.Ytkdkhngdilhneaa

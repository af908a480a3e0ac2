/- The code of registry.Rules in pieces. No condition. -/
import Derived.Test.YthbdglibakjfbaaDoorWSeq
set_option linter.unusedSimpArgs false
set_option linter.unusedVariables false
set_option maxRecDepth 1000000
set_option linter.unusedSectionVars false
namespace Go.Proofs.YthbdglibakjfbaaDoor
open Go.Eng Go.RowKit
variable [Inhabited Lo]
def cL : Code → Code
  | .seq a _ => a
  | c => c
def cR : Code → Code
  | .seq _ b => b
  | c => c
def cB : Code → Code
  | .block _ b => b
  | c => c
def rfA : Code → Code
  | .rangeFunc _ _ a _ => a
  | c => c
def rfB : Code → Code
  | .rangeFunc _ _ _ b => b
  | c => c
noncomputable def cd5 : Code := (Tryd.f5.body).getD .skip
/-- ahead of the loop -/
noncomputable def q0 : Code := .seq (cL cd5) (.seq (cL (cR cd5)) (cL (cL (cR (cR cd5)))))
noncomputable def lp1 : Code := cB (cR (cL (cR (cR cd5))))
noncomputable def as1 : Code := rfA lp1
noncomputable def bd1 : Code := cB (rfB lp1)
/-- a line, ahead of its kinds -/
noncomputable def q1a : Code := cL bd1
noncomputable def q1b : Code := cL (cR bd1)
noncomputable def q1c : Code := cL (cR (cR bd1))
noncomputable def q1d : Code := cL (cL (cR (cR (cR bd1))))
noncomputable def q1 : Code := .seq q1a (.seq q1b (.seq q1c q1d))
noncomputable def lp2 : Code := cB (cR (cL (cR (cR (cR bd1)))))
noncomputable def as2 : Code := rfA lp2
/-- a kind -/
noncomputable def bd2 : Code := rfB lp2
/-- a line, behind its kinds -/
noncomputable def q3 : Code := cR (cR (cR (cR bd1)))
/-- behind the loop -/
noncomputable def q4 : Code := cL (cR (cR (cR cd5)))
theorem cd5_is : Tryd.f5.body = some (.seq (cL cd5) (.seq (cL (cR cd5)) (.seq (.seq (cL (cL (cR (cR cd5)))) (.block 0 (.rangeFunc (.tmp 10) #[11] as1 (.block 1 bd1)))) (.seq q4 .ret)))) := by kernel_rfl
theorem bd1_is : bd1 = .seq q1a (.seq q1b (.seq q1c (.seq (.seq q1d (.block 2 (.rangeFunc (.tmp 30) #[31] as2 bd2))) q3))) := by kernel_rfl
def opsOf : Code → Array Oper
  | .region _ ops _ => ops
  | _ => #[]
theorem q4_is : q4 = .region 13 (opsOf q4) false := by kernel_rfl
def op1 : Code → Oper
  | .region _ ops _ => ops.getD 0 default
  | _ => default
theorem as1_is : as1 = .region 3 #[op1 as1] false ∧ (op1 as1).dst = some 2 ∧ (op1 as1).op = .assign (.tmp 11) ∧ (op1 as1).guard = none := ⟨by kernel_rfl, by kernel_rfl, by kernel_rfl, by kernel_rfl⟩
theorem as2_is : as2 = .region 8 #[op1 as2] false ∧ (op1 as2).dst = some 7 ∧ (op1 as2).op = .assign (.tmp 31) ∧ (op1 as2).guard = none := ⟨by kernel_rfl, by kernel_rfl, by kernel_rfl, by kernel_rfl⟩
end Go.Proofs.YthbdglibakjfbaaDoor

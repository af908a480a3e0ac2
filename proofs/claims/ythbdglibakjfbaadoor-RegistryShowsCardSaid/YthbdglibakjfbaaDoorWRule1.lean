/- The pieces of registry.Rules as the walk reads them. No condition. -/
import Derived.Test.YthbdglibakjfbaaDoorWRule0
import Derived.Test.YthbdglibakjfbaaDoorWSpl
import Derived.Test.YthbdglibakjfbaaDoorWInD
set_option linter.unusedSimpArgs false
set_option linter.unusedVariables false
set_option maxRecDepth 1000000
set_option linter.unusedSectionVars false
namespace Go.Proofs.YthbdglibakjfbaaDoor
open Go.Eng Go.RowKit
variable [Inhabited Lo]
def aq0 : ACode := (.seq (.ops [⟨(.some 0), (.mov (.const (.slice .none 0 0))), .none⟩]) (.seq (.ops [⟨(.some 1), (.alloc 1 [(.slice .none 0 0)]), .none⟩]) (.ops [⟨(.some 10), (.callm 16 [(.const (.string (strOfNums tblT))), (.const (.string (strOfNums [10])))]), .none⟩])))
theorem cq0 : cmpC Tryd.prog [3000016] [] 56 q0 = some aq0 := by kernel_rfl
def aq1a : ACode := (.ops [⟨(.some 12), (.mov (.tmp 2)), .none⟩, ⟨(.some 13), (.call 13 17 [(.tmp 12)]), .none⟩, ⟨(.some 3), (.mov (.tmp 13)), .none⟩])
theorem cq1a : cmpC Tryd.prog [] [] 56 q1a = some aq1a := by kernel_rfl
def aq1b : ACode := (.ops [⟨(.some 15), (.mov (.tmp 3)), .none⟩, ⟨(.some 16), (.iadr 1 (.tmp 15) (.const (.int .i64 0))), .none⟩, ⟨(.some 17), (.ld (.tmp 16)), .none⟩, ⟨(.some 18), (.call 18 18 [(.tmp 17)]), .none⟩, ⟨(.some 14), (.mov (.tmp 18)), .none⟩, ⟨(.some 19), (.ext (.tmp 14) 0), .none⟩, ⟨(.some 20), (.ext (.tmp 14) 1), .none⟩, ⟨(.some 4), (.mov (.tmp 19)), .none⟩, ⟨(.some 5), (.mov (.tmp 20)), .none⟩])
theorem cq1b : cmpC Tryd.prog [] [] 56 q1b = some aq1b := by kernel_rfl
def aq1c : ACode := (.ops [⟨(.some 21), (.mov (.tmp 4)), .none⟩, ⟨(.some 22), (.cvI .u16 (.tmp 21)), .none⟩, ⟨(.some 23), (.mov (.tmp 3)), .none⟩, ⟨(.some 24), (.iadr 1 (.tmp 23) (.const (.int .i64 1))), .none⟩, ⟨(.some 25), (.ld (.tmp 24)), .none⟩, ⟨(.some 26), (.build [(.int .u16 0), (.string (strOfNums [])), (.slice .none 0 0), (.int .i64 0)] [(0, (1, (.tmp 22))), (1, (1, (.tmp 25)))]), .none⟩, ⟨(.some 6), (.alloc 6 [(.int .u16 0), (.string (strOfNums [])), (.slice .none 0 0), (.int .i64 0)]), .none⟩, ⟨.none, (.st 4 (.tmp 6) (.tmp 26)), .none⟩])
theorem cq1c : cmpC Tryd.prog [] [] 56 q1c = some aq1c := by kernel_rfl
def aq1d : ACode := (.ops [⟨(.some 27), (.mov (.tmp 3)), .none⟩, ⟨(.some 28), (.iadr 1 (.tmp 27) (.const (.int .i64 2))), .none⟩, ⟨(.some 29), (.ld (.tmp 28)), .none⟩, ⟨(.some 30), (.callm 16 [(.tmp 29), (.const (.string (strOfNums [44])))]), .none⟩])
theorem cq1d : cmpC Tryd.prog [3000016] [] 56 q1d = some aq1d := by kernel_rfl
def abd2 : ACode := (.block 3 (.seq (.ops [⟨(.some 33), (.mov (.tmp 7)), .none⟩, ⟨(.some 34), (.call 34 18 [(.tmp 33)]), .none⟩, ⟨(.some 32), (.mov (.tmp 34)), .none⟩, ⟨(.some 35), (.ext (.tmp 32) 0), .none⟩, ⟨(.some 36), (.ext (.tmp 32) 1), .none⟩, ⟨(.some 8), (.mov (.tmp 35)), .none⟩, ⟨(.some 9), (.mov (.tmp 36)), .none⟩]) (.ops [⟨(.some 37), (.fadr 2 (.tmp 6)), .none⟩, ⟨(.some 38), (.ld (.tmp 37)), .none⟩, ⟨(.some 39), (.mov (.tmp 8)), .none⟩, ⟨(.some 40), (.lit 1 [(.tmp 39)]), .none⟩, ⟨(.some 41), (.app 41 1 8 (.tmp 38) (.tmp 40)), .none⟩, ⟨(.some 42), (.fadr 2 (.tmp 6)), .none⟩, ⟨.none, (.st 1 (.tmp 42) (.tmp 41)), .none⟩])))
theorem cbd2 : cmpC Tryd.prog [] [] 56 bd2 = some abd2 := by kernel_rfl
def aq3 : ACode := (.seq (.ops [⟨(.some 44), (.mov (.tmp 3)), .none⟩, ⟨(.some 45), (.iadr 1 (.tmp 44) (.const (.int .i64 3))), .none⟩, ⟨(.some 46), (.ld (.tmp 45)), .none⟩, ⟨(.some 47), (.call 47 18 [(.tmp 46)]), .none⟩, ⟨(.some 43), (.mov (.tmp 47)), .none⟩, ⟨(.some 48), (.ext (.tmp 43) 0), .none⟩, ⟨(.some 49), (.ext (.tmp 43) 1), .none⟩, ⟨(.some 50), (.fadr 3 (.tmp 6)), .none⟩, ⟨.none, (.st 1 (.tmp 50) (.tmp 48)), .none⟩]) (.ops [⟨(.some 51), (.ld (.tmp 1)), .none⟩, ⟨(.some 52), (.ldn 4 (.tmp 6)), .none⟩, ⟨(.some 53), (.lit 4 [(.tmp 52)]), .none⟩, ⟨(.some 54), (.app 54 4 56 (.tmp 51) (.tmp 53)), .none⟩, ⟨.none, (.st 1 (.tmp 1) (.tmp 54)), .none⟩]))
theorem cq3 : cmpC Tryd.prog [] [] 56 q3 = some aq3 := by kernel_rfl
def aq0a : ACode := (.ops [⟨(.some 0), (.mov (.const (.slice .none 0 0))), .none⟩])
theorem cq0a : cmpC Tryd.prog [3000016] [] 56 (cL cd5) = some aq0a := by kernel_rfl
def aq0b : ACode := (.ops [⟨(.some 1), (.alloc 1 [(.slice .none 0 0)]), .none⟩])
theorem cq0b : cmpC Tryd.prog [3000016] [] 56 (cL (cR cd5)) = some aq0b := by kernel_rfl
def aq0c : ACode := (.ops [⟨(.some 10), (.callm 16 [(.const (.string (strOfNums tblT))), (.const (.string (strOfNums [10])))]), .none⟩])
theorem cq0c : cmpC Tryd.prog [3000016] [] 56 (cL (cL (cR (cR cd5)))) = some aq0c := by kernel_rfl
def aq1 : ACode := .seq aq1a (.seq aq1b (.seq aq1c aq1d))
end Go.Proofs.YthbdglibakjfbaaDoor

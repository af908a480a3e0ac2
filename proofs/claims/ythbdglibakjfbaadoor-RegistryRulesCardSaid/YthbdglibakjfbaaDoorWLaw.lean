/- The statement RegistryRules, walked: all rules, by any tag, and by any name. No condition but what a text may be. -/
import Derived.Test.YthbdglibakjfbaaDoorWShow
set_option linter.unusedVariables false
set_option linter.unusedSectionVars false
namespace Go.Proofs.YthbdglibakjfbaaDoor
open Go.Eng Go.RowKit
variable [Inhabited Lo]
theorem registryRules_giv (y0 : Int) (h0 : (0 ≤ y0 ∧ y0 ≤ 65535)) (y1 : ByteArray) (h1 : y1.size ≤ 140737488351232) : Giv Tryd.prog 3 [.c (.int .u16 y0), .c (.string y1)] (.d (.c (.bool true))) :=
  registryRules_of lives_giv y0 h0 y1
end Go.Proofs.YthbdglibakjfbaaDoor

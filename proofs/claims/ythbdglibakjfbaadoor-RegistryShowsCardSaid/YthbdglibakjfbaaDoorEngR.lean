/- Sealed twins of the functions of a walk: what is behind is not looked into. Written by a program of mine (mkseal.py). No condition. -/
import Derived.Test.YthbdglibakjfbaaDoorEngU
set_option linter.unusedSectionVars false
namespace Go.Eng
open Go.RowKit
variable [Inhabited Lo]
section
variable {P : Program} {s s0 : St} {n m d t : Nat} {v u : AV} {o : Ob} {K : St → Prop} {KA : AV → Prop} {Q : Exit → St → Prop}
def pWX (x0 : AV) (x1 : List Nat) (x2 : Prop) (_ : Seal (x1, x2)) : Prop := pW x0 x1 x2
theorem pW_pre {x0 : AV} {x1 : List Nat} {x2 : Prop} : pW x0 x1 x2 = pWX x0 x1 x2 ⟨⟩ := rfl
def pSX (x0 : AV) (x1 : List Nat) (x2 : Prop) (_ : Seal (x1, x2)) : Prop := pS x0 x1 x2
theorem pS_pre {x0 : AV} {x1 : List Nat} {x2 : Prop} : pS x0 x1 x2 = pSX x0 x1 x2 ⟨⟩ := rfl
def pTX (x0 : Nat) (x1 : AV) (x2 : List Nat) (x3 : Prop) (_ : Seal (x0, x2, x3)) : Prop := pT x0 x1 x2 x3
theorem pT_pre {x0 : Nat} {x1 : AV} {x2 : List Nat} {x3 : Prop} : pT x0 x1 x2 x3 = pTX x0 x1 x2 x3 ⟨⟩ := rfl
def pRX (x0 : AV) (x1 : List Nat) (x2 : Prop) (_ : Seal (x1, x2)) : Prop := pR x0 x1 x2
theorem pR_pre {x0 : AV} {x1 : List Nat} {x2 : Prop} : pR x0 x1 x2 = pRX x0 x1 x2 ⟨⟩ := rfl
def grWX (x0 : AV) (x1 : Bool) (x2 : Prop) (x3 : Prop) (x4 : Prop) (_ : Seal (x1, x2, x3, x4)) : Prop := grW x0 x1 x2 x3 x4
theorem grW_pre {x0 : AV} {x1 : Bool} {x2 : Prop} {x3 : Prop} {x4 : Prop} : grW x0 x1 x2 x3 x4 = grWX x0 x1 x2 x3 x4 ⟨⟩ := rfl
def isNilWX (x0 : AV) (x1 : (Bool → Prop)) (_ : Seal (x1)) : Prop := isNilW x0 x1
theorem isNilW_pre {x0 : AV} {x1 : (Bool → Prop)} : isNilW x0 x1 = isNilWX x0 x1 ⟨⟩ := rfl
def boolWX (x0 : AV) (x1 : (Bool → Prop)) (_ : Seal (x1)) : Prop := boolW x0 x1
theorem boolW_pre {x0 : AV} {x1 : (Bool → Prop)} : boolW x0 x1 = boolWX x0 x1 ⟨⟩ := rfl
def intWX (x0 : AV) (x1 : (IntKind → Int → Prop)) (_ : Seal (x1)) : Prop := intW x0 x1
theorem intW_pre {x0 : AV} {x1 : (IntKind → Int → Prop)} : intW x0 x1 = intWX x0 x1 ⟨⟩ := rfl
def strWX (x0 : AV) (x1 : (ByteArray → Prop)) (_ : Seal (x1)) : Prop := strW x0 x1
theorem strW_pre {x0 : AV} {x1 : (ByteArray → Prop)} : strW x0 x1 = strWX x0 x1 ⟨⟩ := rfl
def cvSWX (x0 : St) (x1 : AV) (x2 : (AV → Prop)) (_ : Seal (x0, x2)) : Prop := cvSW x0 x1 x2
theorem cvSW_pre {x0 : St} {x1 : AV} {x2 : (AV → Prop)} : cvSW x0 x1 x2 = cvSWX x0 x1 x2 ⟨⟩ := rfl
def cvSOX (x0 : Option Ob) (x1 : Nat) (x2 : Nat) (x3 : (AV → Prop)) (_ : Seal (x1, x2, x3)) : Prop := cvSO x0 x1 x2 x3
theorem cvSO_pre {x0 : Option Ob} {x1 : Nat} {x2 : Nat} {x3 : (AV → Prop)} : cvSO x0 x1 x2 x3 = cvSOX x0 x1 x2 x3 ⟨⟩ := rfl
def optAX (x0 : Option AV) (x1 : (AV → Prop)) (_ : Seal (x1)) : Prop := optA x0 x1
theorem optA_pre {x0 : Option AV} {x1 : (AV → Prop)} : optA x0 x1 = optAX x0 x1 ⟨⟩ := rfl
def ldPX (x0 : Option Ob) (x1 : Nat) (x2 : (AV → Prop)) (_ : Seal (x2)) : Prop := ldP x0 x1 x2
theorem ldP_pre {x0 : Option Ob} {x1 : Nat} {x2 : (AV → Prop)} : ldP x0 x1 x2 = ldPX x0 x1 x2 ⟨⟩ := rfl
def ldEX (x0 : Option Ob) (x1 : Nat) (x2 : Nat) (x3 : Nat) (x4 : (AV → Prop)) (_ : Seal (x1, x4)) : Prop := ldE x0 x1 x2 x3 x4
theorem ldE_pre {x0 : Option Ob} {x1 : Nat} {x2 : Nat} {x3 : Nat} {x4 : (AV → Prop)} : ldE x0 x1 x2 x3 x4 = ldEX x0 x1 x2 x3 x4 ⟨⟩ := rfl
def ldWX (x0 : St) (x1 : AV) (x2 : (AV → Prop)) (_ : Seal (x0, x2)) : Prop := ldW x0 x1 x2
theorem ldW_pre {x0 : St} {x1 : AV} {x2 : (AV → Prop)} : ldW x0 x1 x2 = ldWX x0 x1 x2 ⟨⟩ := rfl
def ldnPX (x0 : Option Ob) (x1 : Nat) (x2 : Nat) (x3 : (AV → Prop)) (_ : Seal (x2, x3)) : Prop := ldnP x0 x1 x2 x3
theorem ldnP_pre {x0 : Option Ob} {x1 : Nat} {x2 : Nat} {x3 : (AV → Prop)} : ldnP x0 x1 x2 x3 = ldnPX x0 x1 x2 x3 ⟨⟩ := rfl
def ldnEX (x0 : Option Ob) (x1 : Nat) (x2 : Nat) (x3 : Nat) (x4 : Nat) (x5 : (AV → Prop)) (_ : Seal (x1, x4, x5)) : Prop := ldnE x0 x1 x2 x3 x4 x5
theorem ldnE_pre {x0 : Option Ob} {x1 : Nat} {x2 : Nat} {x3 : Nat} {x4 : Nat} {x5 : (AV → Prop)} : ldnE x0 x1 x2 x3 x4 x5 = ldnEX x0 x1 x2 x3 x4 x5 ⟨⟩ := rfl
def ldnWX (x0 : St) (x1 : Nat) (x2 : AV) (x3 : (AV → Prop)) (_ : Seal (x0, x1, x3)) : Prop := ldnW x0 x1 x2 x3
theorem ldnW_pre {x0 : St} {x1 : Nat} {x2 : AV} {x3 : (AV → Prop)} : ldnW x0 x1 x2 x3 = ldnWX x0 x1 x2 x3 ⟨⟩ := rfl
def binWX (x0 : BinOp) (x1 : AV) (x2 : AV) (x3 : (Value → Prop)) (_ : Seal (x0, x3)) : Prop := binW x0 x1 x2 x3
theorem binW_pre {x0 : BinOp} {x1 : AV} {x2 : AV} {x3 : (Value → Prop)} : binW x0 x1 x2 x3 = binWX x0 x1 x2 x3 ⟨⟩ := rfl
def unWX (x0 : UnOp) (x1 : AV) (x2 : (Value → Prop)) (_ : Seal (x0, x2)) : Prop := unW x0 x1 x2
theorem unW_pre {x0 : UnOp} {x1 : AV} {x2 : (Value → Prop)} : unW x0 x1 x2 = unWX x0 x1 x2 ⟨⟩ := rfl
def slcWX (x0 : St) (x1 : Nat) (x2 : AV) (x3 : Option Operand) (x4 : Option Operand) (x5 : (AV → Prop)) (_ : Seal (x0, x1, x3, x4, x5)) : Prop := slcW x0 x1 x2 x3 x4 x5
theorem slcW_pre {x0 : St} {x1 : Nat} {x2 : AV} {x3 : Option Operand} {x4 : Option Operand} {x5 : (AV → Prop)} : slcW x0 x1 x2 x3 x4 x5 = slcWX x0 x1 x2 x3 x4 x5 ⟨⟩ := rfl
def fldWX (x0 : Nat) (x1 : Option Nat) (x2 : AV) (x3 : (AV → Prop)) (_ : Seal (x0, x1, x3)) : Prop := fldW x0 x1 x2 x3
theorem fldW_pre {x0 : Nat} {x1 : Option Nat} {x2 : AV} {x3 : (AV → Prop)} : fldW x0 x1 x2 x3 = fldWX x0 x1 x2 x3 ⟨⟩ := rfl
def iadrWX (x0 : Nat) (x1 : AV) (x2 : AV) (x3 : (AV → Prop)) (_ : Seal (x0, x3)) : Prop := iadrW x0 x1 x2 x3
theorem iadrW_pre {x0 : Nat} {x1 : AV} {x2 : AV} {x3 : (AV → Prop)} : iadrW x0 x1 x2 x3 = iadrWX x0 x1 x2 x3 ⟨⟩ := rfl
def iadrAWX (x0 : Nat) (x1 : Nat) (x2 : AV) (x3 : AV) (x4 : (AV → Prop)) (_ : Seal (x0, x1, x4)) : Prop := iadrAW x0 x1 x2 x3 x4
theorem iadrAW_pre {x0 : Nat} {x1 : Nat} {x2 : AV} {x3 : AV} {x4 : (AV → Prop)} : iadrAW x0 x1 x2 x3 x4 = iadrAWX x0 x1 x2 x3 x4 ⟨⟩ := rfl
def fadrWX (x0 : Nat) (x1 : AV) (x2 : (AV → Prop)) (_ : Seal (x0, x2)) : Prop := fadrW x0 x1 x2
theorem fadrW_pre {x0 : Nat} {x1 : AV} {x2 : (AV → Prop)} : fadrW x0 x1 x2 = fadrWX x0 x1 x2 ⟨⟩ := rfl
def extWX (x0 : Nat) (x1 : AV) (x2 : (AV → Prop)) (_ : Seal (x0, x2)) : Prop := extW x0 x1 x2
theorem extW_pre {x0 : Nat} {x1 : AV} {x2 : (AV → Prop)} : extW x0 x1 x2 = extWX x0 x1 x2 ⟨⟩ := rfl
def lenWX (x0 : AV) (x1 : (Int → Prop)) (_ : Seal (x1)) : Prop := lenW x0 x1
theorem lenW_pre {x0 : AV} {x1 : (Int → Prop)} : lenW x0 x1 = lenWX x0 x1 ⟨⟩ := rfl
def cellsWX (x0 : AV) (x1 : (List AV → Prop)) (_ : Seal (x1)) : Prop := AV.cellsW x0 x1
theorem cellsW_pre {x0 : AV} {x1 : (List AV → Prop)} : AV.cellsW x0 x1 = cellsWX x0 x1 ⟨⟩ := rfl
def frzWX (x0 : AV) (x1 : St) (x2 : (St → D → Prop)) (_ : Seal (x1, x2)) : Prop := frzW x0 x1 x2
theorem frzW_pre {x0 : AV} {x1 : St} {x2 : (St → D → Prop)} : frzW x0 x1 x2 = frzWX x0 x1 x2 ⟨⟩ := rfl
def slFX (x0 : Option Ob) (x1 : Nat) (x2 : Nat) (x3 : Nat) (x4 : Nat) (x5 : St) (x6 : (St → D → Prop)) (_ : Seal (x1, x2, x3, x4, x5, x6)) : Prop := slF x0 x1 x2 x3 x4 x5 x6
theorem slF_pre {x0 : Option Ob} {x1 : Nat} {x2 : Nat} {x3 : Nat} {x4 : Nat} {x5 : St} {x6 : (St → D → Prop)} : slF x0 x1 x2 x3 x4 x5 x6 = slFX x0 x1 x2 x3 x4 x5 x6 ⟨⟩ := rfl
def ptFX (x0 : Option Ob) (x1 : Nat) (x2 : Nat) (x3 : St) (x4 : (St → D → Prop)) (_ : Seal (x1, x2, x3, x4)) : Prop := ptF x0 x1 x2 x3 x4
theorem ptF_pre {x0 : Option Ob} {x1 : Nat} {x2 : Nat} {x3 : St} {x4 : (St → D → Prop)} : ptF x0 x1 x2 x3 x4 = ptFX x0 x1 x2 x3 x4 ⟨⟩ := rfl
def ptBX (x0 : Option (List D)) (x1 : Nat) (x2 : Nat) (x3 : St) (x4 : (St → D → Prop)) (_ : Seal (x1, x2, x3, x4)) : Prop := ptB x0 x1 x2 x3 x4
theorem ptB_pre {x0 : Option (List D)} {x1 : Nat} {x2 : Nat} {x3 : St} {x4 : (St → D → Prop)} : ptB x0 x1 x2 x3 x4 = ptBX x0 x1 x2 x3 x4 ⟨⟩ := rfl
def cvWX (x0 : Program) (x1 : Nat) (x2 : D) (x3 : List Operand) (x4 : Option Nat) (x5 : St) (x6 : St) (x7 : (St → Prop)) (_ : Seal (x0, x1, x3, x4, x5, x6, x7)) : Prop := cvW x0 x1 x2 x3 x4 x5 x6 x7
theorem cvW_pre {x0 : Program} {x1 : Nat} {x2 : D} {x3 : List Operand} {x4 : Option Nat} {x5 : St} {x6 : St} {x7 : (St → Prop)} : cvW x0 x1 x2 x3 x4 x5 x6 x7 = cvWX x0 x1 x2 x3 x4 x5 x6 x7 ⟨⟩ := rfl
def stWX (x0 : Nat) (x1 : AV) (x2 : AV) (x3 : St) (x4 : (St → Prop)) (_ : Seal (x0, x3, x4)) : Prop := stW x0 x1 x2 x3 x4
theorem stW_pre {x0 : Nat} {x1 : AV} {x2 : AV} {x3 : St} {x4 : (St → Prop)} : stW x0 x1 x2 x3 x4 = stWX x0 x1 x2 x3 x4 ⟨⟩ := rfl
def stPX (x0 : Option Ob) (x1 : Nat) (x2 : Nat) (x3 : Nat) (x4 : AV) (x5 : St) (x6 : (St → Prop)) (_ : Seal (x1, x2, x4, x5, x6)) : Prop := stP x0 x1 x2 x3 x4 x5 x6
theorem stP_pre {x0 : Option Ob} {x1 : Nat} {x2 : Nat} {x3 : Nat} {x4 : AV} {x5 : St} {x6 : (St → Prop)} : stP x0 x1 x2 x3 x4 x5 x6 = stPX x0 x1 x2 x3 x4 x5 x6 ⟨⟩ := rfl
def stEX (x0 : Option Ob) (x1 : Nat) (x2 : Nat) (x3 : Nat) (x4 : Nat) (x5 : Nat) (x6 : D) (x7 : St) (x8 : (St → Prop)) (_ : Seal (x1, x2, x3, x6, x7, x8)) : Prop := stE x0 x1 x2 x3 x4 x5 x6 x7 x8
theorem stE_pre {x0 : Option Ob} {x1 : Nat} {x2 : Nat} {x3 : Nat} {x4 : Nat} {x5 : Nat} {x6 : D} {x7 : St} {x8 : (St → Prop)} : stE x0 x1 x2 x3 x4 x5 x6 x7 x8 = stEX x0 x1 x2 x3 x4 x5 x6 x7 x8 ⟨⟩ := rfl
def appWX (x0 : Nat) (x1 : Nat) (x2 : Nat) (x3 : AV) (x4 : AV) (x5 : St) (x6 : (St → AV → Prop)) (_ : Seal (x0, x1, x2, x5, x6)) : Prop := appW x0 x1 x2 x3 x4 x5 x6
theorem appW_pre {x0 : Nat} {x1 : Nat} {x2 : Nat} {x3 : AV} {x4 : AV} {x5 : St} {x6 : (St → AV → Prop)} : appW x0 x1 x2 x3 x4 x5 x6 = appWX x0 x1 x2 x3 x4 x5 x6 ⟨⟩ := rfl
def srcOX (x0 : Option Ob) (x1 : Nat) (x2 : Nat) (x3 : Nat) (x4 : (List D → Prop)) (_ : Seal (x1, x2, x3, x4)) : Prop := srcO x0 x1 x2 x3 x4
theorem srcO_pre {x0 : Option Ob} {x1 : Nat} {x2 : Nat} {x3 : Nat} {x4 : (List D → Prop)} : srcO x0 x1 x2 x3 x4 = srcOX x0 x1 x2 x3 x4 ⟨⟩ := rfl
def appOX (x0 : Option Ob) (x1 : Nat) (x2 : Nat) (x3 : Nat) (x4 : Nat) (x5 : St) (x6 : List D) (x7 : (St → AV → Prop)) (_ : Seal (x1, x2, x3, x4, x5, x6, x7)) : Prop := appO x0 x1 x2 x3 x4 x5 x6 x7
theorem appO_pre {x0 : Option Ob} {x1 : Nat} {x2 : Nat} {x3 : Nat} {x4 : Nat} {x5 : St} {x6 : List D} {x7 : (St → AV → Prop)} : appO x0 x1 x2 x3 x4 x5 x6 x7 = appOX x0 x1 x2 x3 x4 x5 x6 x7 ⟨⟩ := rfl
def pQX (x0 : AV) (x1 : List Nat) (x2 : Prop) (_ : Seal (x1, x2)) : Prop := pQ x0 x1 x2
theorem pQ_pre {x0 : AV} {x1 : List Nat} {x2 : Prop} : pQ x0 x1 x2 = pQX x0 x1 x2 ⟨⟩ := rfl
def cpyWX (x0 : AV) (x1 : AV) (x2 : St) (x3 : (St → Nat → Prop)) (_ : Seal (x2, x3)) : Prop := cpyW x0 x1 x2 x3
theorem cpyW_pre {x0 : AV} {x1 : AV} {x2 : St} {x3 : (St → Nat → Prop)} : cpyW x0 x1 x2 x3 = cpyWX x0 x1 x2 x3 ⟨⟩ := rfl
def cpyOX (x0 : Option Ob) (x1 : Nat) (x2 : Nat) (x3 : Nat) (x4 : St) (x5 : List D) (x6 : (St → Nat → Prop)) (_ : Seal (x1, x2, x3, x4, x5, x6)) : Prop := cpyO x0 x1 x2 x3 x4 x5 x6
theorem cpyO_pre {x0 : Option Ob} {x1 : Nat} {x2 : Nat} {x3 : Nat} {x4 : St} {x5 : List D} {x6 : (St → Nat → Prop)} : cpyO x0 x1 x2 x3 x4 x5 x6 = cpyOX x0 x1 x2 x3 x4 x5 x6 ⟨⟩ := rfl
def aggWX (x0 : AV) (x1 : (List AV → Prop)) (_ : Seal (x1)) : Prop := aggW x0 x1
theorem aggW_pre {x0 : AV} {x1 : (List AV → Prop)} : aggW x0 x1 = aggWX x0 x1 ⟨⟩ := rfl
def pMX (x0 : AV) (x1 : List Nat) (x2 : Prop) (_ : Seal (x1, x2)) : Prop := pM x0 x1 x2
theorem pM_pre {x0 : AV} {x1 : List Nat} {x2 : Prop} : pM x0 x1 x2 = pMX x0 x1 x2 ⟨⟩ := rfl
def pOX (x0 : AV) (x1 : List Nat) (x2 : Prop) (_ : Seal (x1, x2)) : Prop := pO x0 x1 x2
theorem pO_pre {x0 : AV} {x1 : List Nat} {x2 : Prop} : pO x0 x1 x2 = pOX x0 x1 x2 ⟨⟩ := rfl
def mupWX (x0 : IntKind) (x1 : AV) (x2 : AV) (x3 : AV) (x4 : St) (x5 : (St → Prop)) (_ : Seal (x0, x4, x5)) : Prop := mupW x0 x1 x2 x3 x4 x5
theorem mupW_pre {x0 : IntKind} {x1 : AV} {x2 : AV} {x3 : AV} {x4 : St} {x5 : (St → Prop)} : mupW x0 x1 x2 x3 x4 x5 = mupWX x0 x1 x2 x3 x4 x5 ⟨⟩ := rfl
def mupOX (x0 : Option Ob) (x1 : Nat) (x2 : IntKind) (x3 : Int) (x4 : Value) (x5 : St) (x6 : (St → Prop)) (_ : Seal (x1, x2, x3, x4, x5, x6)) : Prop := mupO x0 x1 x2 x3 x4 x5 x6
theorem mupO_pre {x0 : Option Ob} {x1 : Nat} {x2 : IntKind} {x3 : Int} {x4 : Value} {x5 : St} {x6 : (St → Prop)} : mupO x0 x1 x2 x3 x4 x5 x6 = mupOX x0 x1 x2 x3 x4 x5 x6 ⟨⟩ := rfl
def lkWX (x0 : St) (x1 : IntKind) (x2 : Bool) (x3 : Value) (x4 : AV) (x5 : AV) (x6 : (AV → Prop)) (_ : Seal (x0, x1, x2, x3, x6)) : Prop := lkW x0 x1 x2 x3 x4 x5 x6
theorem lkW_pre {x0 : St} {x1 : IntKind} {x2 : Bool} {x3 : Value} {x4 : AV} {x5 : AV} {x6 : (AV → Prop)} : lkW x0 x1 x2 x3 x4 x5 x6 = lkWX x0 x1 x2 x3 x4 x5 x6 ⟨⟩ := rfl
def lkOX (x0 : Option Ob) (x1 : IntKind) (x2 : Bool) (x3 : Value) (x4 : Int) (x5 : (AV → Prop)) (_ : Seal (x1, x2, x3, x4, x5)) : Prop := lkO x0 x1 x2 x3 x4 x5
theorem lkO_pre {x0 : Option Ob} {x1 : IntKind} {x2 : Bool} {x3 : Value} {x4 : Int} {x5 : (AV → Prop)} : lkO x0 x1 x2 x3 x4 x5 = lkOX x0 x1 x2 x3 x4 x5 ⟨⟩ := rfl
def lenMWX (x0 : St) (x1 : AV) (x2 : (Int → Prop)) (_ : Seal (x0, x2)) : Prop := lenMW x0 x1 x2
theorem lenMW_pre {x0 : St} {x1 : AV} {x2 : (Int → Prop)} : lenMW x0 x1 x2 = lenMWX x0 x1 x2 ⟨⟩ := rfl
def lenMOX (x0 : Option Ob) (x1 : (Int → Prop)) (_ : Seal (x1)) : Prop := lenMO x0 x1
theorem lenMO_pre {x0 : Option Ob} {x1 : (Int → Prop)} : lenMO x0 x1 = lenMOX x0 x1 ⟨⟩ := rfl
def isNilPWX (x0 : AV) (x1 : (Bool → Prop)) (_ : Seal (x1)) : Prop := isNilPW x0 x1
theorem isNilPW_pre {x0 : AV} {x1 : (Bool → Prop)} : isNilPW x0 x1 = isNilPWX x0 x1 ⟨⟩ := rfl
def nilCWX (x0 : AV) (x1 : (AV → Prop)) (_ : Seal (x1)) : Prop := nilCW x0 x1
theorem nilCW_pre {x0 : AV} {x1 : (AV → Prop)} : nilCW x0 x1 = nilCWX x0 x1 ⟨⟩ := rfl
def fnWX (x0 : AV) (x1 : (FuncId → List AV → Prop)) (_ : Seal (x1)) : Prop := fnW x0 x1
theorem fnW_pre {x0 : AV} {x1 : (FuncId → List AV → Prop)} : fnW x0 x1 = fnWX x0 x1 ⟨⟩ := rfl
def cvBWX (x0 : AV) (x1 : (ByteArray → Prop)) (_ : Seal (x1)) : Prop := cvBW x0 x1
theorem cvBW_pre {x0 : AV} {x1 : (ByteArray → Prop)} : cvBW x0 x1 = cvBWX x0 x1 ⟨⟩ := rfl
def mrkWX (x0 : AV) (x1 : St) (x2 : (AV → Prop)) (_ : Seal (x1, x2)) : Prop := mrkW x0 x1 x2
theorem mrkW_pre {x0 : AV} {x1 : St} {x2 : (AV → Prop)} : mrkW x0 x1 x2 = mrkWX x0 x1 x2 ⟨⟩ := rfl
def mrkOX (x0 : Option Ob) (x1 : Prop) (_ : Seal (x1)) : Prop := mrkO x0 x1
theorem mrkO_pre {x0 : Option Ob} {x1 : Prop} : mrkO x0 x1 = mrkOX x0 x1 ⟨⟩ := rfl
def nxtWX (x0 : AV) (x1 : St) (x2 : (St → AV → Prop)) (_ : Seal (x1, x2)) : Prop := nxtW x0 x1 x2
theorem nxtW_pre {x0 : AV} {x1 : St} {x2 : (St → AV → Prop)} : nxtW x0 x1 x2 = nxtWX x0 x1 x2 ⟨⟩ := rfl
def nxtOX (x0 : Option Ob) (x1 : Nat) (x2 : St) (x3 : (St → AV → Prop)) (_ : Seal (x1, x2, x3)) : Prop := nxtO x0 x1 x2 x3
theorem nxtO_pre {x0 : Option Ob} {x1 : Nat} {x2 : St} {x3 : (St → AV → Prop)} : nxtO x0 x1 x2 x3 = nxtOX x0 x1 x2 x3 ⟨⟩ := rfl
def litRWX (x0 : Nat) (x1 : AV) (x2 : St) (x3 : (St → AV → Prop)) (_ : Seal (x0, x2, x3)) : Prop := litRW x0 x1 x2 x3
theorem litRW_pre {x0 : Nat} {x1 : AV} {x2 : St} {x3 : (St → AV → Prop)} : litRW x0 x1 x2 x3 = litRWX x0 x1 x2 x3 ⟨⟩ := rfl
def appRWX (x0 : Nat) (x1 : Nat) (x2 : AV) (x3 : AV) (x4 : St) (x5 : (St → AV → Prop)) (_ : Seal (x0, x1, x4, x5)) : Prop := appRW x0 x1 x2 x3 x4 x5
theorem appRW_pre {x0 : Nat} {x1 : Nat} {x2 : AV} {x3 : AV} {x4 : St} {x5 : (St → AV → Prop)} : appRW x0 x1 x2 x3 x4 x5 = appRWX x0 x1 x2 x3 x4 x5 ⟨⟩ := rfl
def appRSX (x0 : Option Ob) (x1 : Nat) (x2 : Nat) (x3 : AV) (x4 : St) (x5 : (St → AV → Prop)) (_ : Seal (x1, x2, x3, x4, x5)) : Prop := appRS x0 x1 x2 x3 x4 x5
theorem appRS_pre {x0 : Option Ob} {x1 : Nat} {x2 : Nat} {x3 : AV} {x4 : St} {x5 : (St → AV → Prop)} : appRS x0 x1 x2 x3 x4 x5 = appRSX x0 x1 x2 x3 x4 x5 ⟨⟩ := rfl
def appRBX (x0 : Nat) (x1 : Nat) (x2 : AV) (x3 : St) (x4 : AV) (x5 : (St → AV → Prop)) (_ : Seal (x0, x1, x3, x5)) : Prop := appRB x0 x1 x2 x3 x4 x5
theorem appRB_pre {x0 : Nat} {x1 : Nat} {x2 : AV} {x3 : St} {x4 : AV} {x5 : (St → AV → Prop)} : appRB x0 x1 x2 x3 x4 x5 = appRBX x0 x1 x2 x3 x4 x5 ⟨⟩ := rfl
def appROX (x0 : Option Ob) (x1 : Nat) (x2 : Nat) (x3 : Nat) (x4 : St) (x5 : AV) (x6 : (St → AV → Prop)) (_ : Seal (x1, x2, x3, x4, x6)) : Prop := appRO x0 x1 x2 x3 x4 x5 x6
theorem appRO_pre {x0 : Option Ob} {x1 : Nat} {x2 : Nat} {x3 : Nat} {x4 : St} {x5 : AV} {x6 : (St → AV → Prop)} : appRO x0 x1 x2 x3 x4 x5 x6 = appROX x0 x1 x2 x3 x4 x5 x6 ⟨⟩ := rfl
theorem grW_c_x {b want : Bool} {A B C : Prop} {bb : Seal ((want : Bool), (A : Prop), (B : Prop), (C : Prop))} : grWX (.d (.c (.bool b))) want A B C bb = (brW (b == want) A B) := by apply grW_c <;> assumption
theorem grW_tup_x {want : Bool} {A B C : Prop} {bb : Seal ((want : Bool), (A : Prop), (B : Prop), (C : Prop))} : grWX (.tup []) want A B C bb = (C) := by apply grW_tup <;> assumption
theorem pR_d_x {x : D} {prot : List Nat} {A : Prop} {bb : Seal ((prot : List Nat), (A : Prop))} : pRX (.d x) prot A bb = (A) := by apply pR_d <;> assumption
theorem pR_sl_x {n es off len : Nat} {prot : List Nat} {A : Prop} {bb : Seal ((prot : List Nat), (A : Prop))} : pRX (.sl n es off len) prot A bb = (chk (n ∈ prot) A) := by apply pR_sl <;> assumption
theorem pW_ref_x {cs : List D} {prot : List Nat} {A : Prop} {bb : Seal ((prot : List Nat), (A : Prop))} : pWX (.d (.ref cs)) prot A bb = (A) := by apply pW_ref <;> assumption
theorem pW_ptr_x {n off : Nat} {prot : List Nat} {A : Prop} {bb : Seal ((prot : List Nat), (A : Prop))} : pWX (.ptr n off) prot A bb = (chk (n ∈ prot) A) := by apply pW_ptr <;> assumption
theorem pW_eptr_x {n es i j : Nat} {prot : List Nat} {A : Prop} {bb : Seal ((prot : List Nat), (A : Prop))} : pWX (.eptr n es i j) prot A bb = (chk (n ∈ prot) A) := by apply pW_eptr <;> assumption
theorem pS_ptr_x {n off : Nat} {prot : List Nat} {A : Prop} {bb : Seal ((prot : List Nat), (A : Prop))} : pSX (.ptr n off) prot A bb = (chk (n ∉ prot) A) := by apply pS_ptr <;> assumption
theorem pS_eptr_x {n es i j : Nat} {prot : List Nat} {A : Prop} {bb : Seal ((prot : List Nat), (A : Prop))} : pSX (.eptr n es i j) prot A bb = (chk (n ∉ prot) A) := by apply pS_eptr <;> assumption
theorem pQ_sl_x {m es o l : Nat} {prot : List Nat} {A : Prop} {bb : Seal ((prot : List Nat), (A : Prop))} : pQX (.sl m es o l) prot A bb = (chk (m ∉ prot) A) := by apply pQ_sl <;> assumption
theorem pT_sl_x {n m es o l : Nat} {prot : List Nat} {A : Prop} {bb : Seal ((n : Nat), (prot : List Nat), (A : Prop))} : pTX n (.sl m es o l) prot A bb = (chk (m ∉ prot) A) := by apply pT_sl <;> assumption
theorem pT_d_x {n : Nat} {x : D} {prot : List Nat} {A : Prop} {bb : Seal ((n : Nat), (prot : List Nat), (A : Prop))} : pTX n (.d x) prot A bb = (chk (n ∉ prot) A) := by apply pT_d <;> assumption
theorem boolW_c_x {b : Bool} {K : Bool → Prop} {bb : Seal ((K : (Bool → Prop)))} : boolWX (.d (.c (.bool b))) K bb = (K b) := by apply boolW_c <;> assumption
theorem intW_c_x {k : IntKind} {i : Int} {K : IntKind → Int → Prop} {bb : Seal ((K : (IntKind → Int → Prop)))} : intWX (.d (.c (.int k i))) K bb = (K k i) := by apply intW_c <;> assumption
theorem strW_c_x {b : ByteArray} {K : ByteArray → Prop} {bb : Seal ((K : (ByteArray → Prop)))} : strWX (.d (.c (.string b))) K bb = (K b) := by apply strW_c <;> assumption
theorem cvSW_sl_x {n off len : Nat} {bb : Seal ((s : St), (KA : (AV → Prop)))} : cvSWX s (.sl n 1 off len) KA bb = (cvSO (s.hp n) off len KA) := by apply cvSW_sl <;> assumption
theorem cvSW_nil_x {bb : Seal ((s : St), (KA : (AV → Prop)))} : cvSWX s (.d (.c (.slice none 0 0))) KA bb = (KA (.d (.c (.string (strOfNums []))))) := by apply cvSW_nil <;> assumption
theorem cvSO_row_x {l : List Int} {off len : Nat} {bb : Seal ((off : Nat), (len : Nat), (KA : (AV → Prop)))} : cvSOX (some (.row 1 (li .u8 l))) off len KA bb = (chk (off + len ≤ l.length) (evW (strOfNums ((l.drop off).take len)) fun b => KA (.d (.c (.string b))))) := by apply cvSO_row <;> assumption
theorem cvSO_ice_x {l : List Int} {off len : Nat} {bb : Seal ((off : Nat), (len : Nat), (KA : (AV → Prop)))} : cvSOX (some (.ice 1 (li .u8 l))) off len KA bb = (chk (off + len ≤ l.length) (evW (strOfNums ((l.drop off).take len)) fun b => KA (.d (.c (.string b))))) := by apply cvSO_ice <;> assumption
theorem cvSW_li_x {l : List Int} {bb : Seal ((s : St), (KA : (AV → Prop)))} : cvSWX s (.d (.lst 1 (li .u8 l))) KA bb = (KA (.d (.c (.string (strOfNums l))))) := by apply cvSW_li <;> assumption
theorem aggW_a_x {cs : List AV} {K : List AV → Prop} {bb : Seal ((K : (List AV → Prop)))} : aggWX (.agg cs) K bb = (K cs) := by apply aggW_a <;> assumption
theorem aggW_d_x {cs : List D} {K : List AV → Prop} {bb : Seal ((K : (List AV → Prop)))} : aggWX (.d (.agg cs)) K bb = (K (cs.map .d)) := by apply aggW_d <;> assumption
theorem optA_some_x {bb : Seal ((KA : (AV → Prop)))} : optAX (some v) KA bb = (KA v) := by apply optA_some <;> assumption
theorem ldP_box_x {cs : List AV} {off : Nat} {bb : Seal ((KA : (AV → Prop)))} : ldPX (some (.box cs)) off KA bb = (optA cs[off]? KA) := by apply ldP_box <;> assumption
theorem ldP_icb_x {cs : List D} {off : Nat} {bb : Seal ((KA : (AV → Prop)))} : ldPX (some (.icb cs)) off KA bb = (optA (cs[off]?.map .d) KA) := by apply ldP_icb <;> assumption
theorem ldE_row_x {L : List D} {es i j : Nat} {bb : Seal ((es : Nat), (KA : (AV → Prop)))} : ldEX (some (.row es L)) es i j KA bb = (chk (i < L.length ∧ j < es) (evW (.d ((L.getD i default).cell j)) KA)) := by apply ldE_row <;> assumption
theorem ldE_ice_x {L : List D} {es i j : Nat} {bb : Seal ((es : Nat), (KA : (AV → Prop)))} : ldEX (some (.ice es L)) es i j KA bb = (chk (i < L.length ∧ j < es) (evW (.d ((L.getD i default).cell j)) KA)) := by apply ldE_ice <;> assumption
theorem ldE_tab_x {cs : List AV} {i : Nat} {bb : Seal ((1 : Nat), (KA : (AV → Prop)))} : ldEX (some (.tab cs)) 1 i 0 KA bb = (chk (i < cs.length) (evW (cs.getD i .any) KA)) := by apply ldE_tab <;> assumption
theorem ldW_ref_x {x : D} {xs : List D} {bb : Seal ((s : St), (KA : (AV → Prop)))} : ldWX s (.d (.ref (x :: xs))) KA bb = (KA (.d x)) := by apply ldW_ref <;> assumption
theorem ldW_ptr_x {n off : Nat} {bb : Seal ((s : St), (KA : (AV → Prop)))} : ldWX s (.ptr n off) KA bb = (ldP (s.hp n) off KA) := by apply ldW_ptr <;> assumption
theorem ldW_eptr_x {n es i j : Nat} {bb : Seal ((s : St), (KA : (AV → Prop)))} : ldWX s (.eptr n es i j) KA bb = (ldE (s.hp n) es i j KA) := by apply ldW_eptr <;> assumption
theorem ldnP_box_x {cs : List AV} {off n : Nat} {bb : Seal ((n : Nat), (KA : (AV → Prop)))} : ldnPX (some (.box cs)) off n KA bb = (chk (off + n ≤ cs.length) (evW (.agg ((cs.drop off).take n)) KA)) := by apply ldnP_box <;> assumption
theorem ldnP_icb_x {cs : List D} {off n : Nat} {bb : Seal ((n : Nat), (KA : (AV → Prop)))} : ldnPX (some (.icb cs)) off n KA bb = (chk (off + n ≤ cs.length) (evW (.d (.agg ((cs.drop off).take n))) KA)) := by apply ldnP_icb <;> assumption
theorem ldnE_row_x {L : List D} {es i j n : Nat} {bb : Seal ((es : Nat), (n : Nat), (KA : (AV → Prop)))} : ldnEX (some (.row es L)) es i j n KA bb = (chk (i < L.length ∧ j + n ≤ es) (evW (.d (.agg (((L.getD i default).cells.drop j).take n))) KA)) := by apply ldnE_row <;> assumption
theorem ldnE_ice_x {L : List D} {es i j n : Nat} {bb : Seal ((es : Nat), (n : Nat), (KA : (AV → Prop)))} : ldnEX (some (.ice es L)) es i j n KA bb = (chk (i < L.length ∧ j + n ≤ es) (evW (.d (.agg (((L.getD i default).cells.drop j).take n))) KA)) := by apply ldnE_ice <;> assumption
theorem ldnW_ref_x {n : Nat} {cs : List D} {bb : Seal ((s : St), (n : Nat), (KA : (AV → Prop)))} : ldnWX s n (.d (.ref cs)) KA bb = (chk (n ≤ cs.length) (evW (.d (.agg (cs.take n))) KA)) := by apply ldnW_ref <;> assumption
theorem ldnW_ptr_x {n m off : Nat} {bb : Seal ((s : St), (n : Nat), (KA : (AV → Prop)))} : ldnWX s n (.ptr m off) KA bb = (ldnP (s.hp m) off n KA) := by apply ldnW_ptr <;> assumption
theorem ldnW_eptr_x {n m es i j : Nat} {bb : Seal ((s : St), (n : Nat), (KA : (AV → Prop)))} : ldnWX s n (.eptr m es i j) KA bb = (ldnE (s.hp m) es i j n KA) := by apply ldnW_eptr <;> assumption
theorem binW_int_x {op : BinOp} {k k' : IntKind} {x y : Int} {K : Value → Prop} {bb : Seal ((op : BinOp), (K : (Value → Prop)))} : binWX op (.d (.c (.int k x))) (.d (.c (.int k' y))) K bb = (intBin op k x k' y K) := by apply binW_int <;> assumption
theorem binW_str_x {op : BinOp} {x y : ByteArray} {K : Value → Prop} {bb : Seal ((op : BinOp), (K : (Value → Prop)))} : binWX op (.d (.c (.string x))) (.d (.c (.string y))) K bb = (strBin op x y K) := by apply binW_str <;> assumption
theorem isNilW_nil_x {K : Bool → Prop} {bb : Seal ((K : (Bool → Prop)))} : isNilWX (.d (.c (.slice none 0 0))) K bb = (K true) := by apply isNilW_nil <;> assumption
theorem isNilW_lst_x {es : Nat} {L : List D} {K : Bool → Prop} {bb : Seal ((K : (Bool → Prop)))} : isNilWX (.d (.lst es L)) K bb = (nilW L.length K) := by apply isNilW_lst <;> assumption
theorem isNilW_sl_x {n es off len : Nat} {K : Bool → Prop} {bb : Seal ((K : (Bool → Prop)))} : isNilWX (.sl n es off len) K bb = (nilW len K) := by apply isNilW_sl <;> assumption
theorem unW_neg_x {k : IntKind} {x : Int} {K : Value → Prop} {bb : Seal ((.neg : UnOp), (K : (Value → Prop)))} : unWX .neg (.d (.c (.int k x))) K bb = (evW (k.wrap (0 - x)) fun z => K (.int k z)) := by apply unW_neg <;> assumption
theorem unW_xor_x {k : IntKind} {x : Int} {K : Value → Prop} {bb : Seal ((.xor : UnOp), (K : (Value → Prop)))} : unWX .xor (.d (.c (.int k x))) K bb = (evW (bits .xor k (if k.signed then -1 else k.max) x) fun z => K (.int k z)) := by apply unW_xor <;> assumption
theorem unW_not_x {b : Bool} {K : Value → Prop} {bb : Seal ((.not : UnOp), (K : (Value → Prop)))} : unWX .not (.d (.c (.bool b))) K bb = (evW (!b) fun b => K (.bool b)) := by apply unW_not <;> assumption
theorem slcW_lst_x {es : Nat} {L : List D} {lo hi : Option Operand} {bb : Seal ((s : St), (es : Nat), (lo : Option Operand), (hi : Option Operand), (KA : (AV → Prop)))} : slcWX s es (.d (.lst es L)) lo hi KA bb = (optW s hi L.length fun h => optW s lo 0 fun l => chk (0 ≤ l ∧ l ≤ h ∧ h ≤ L.length) (evW (.d (.lst es ((L.drop l.toNat).take (h.toNat - l.toNat)))) KA)) := by apply slcW_lst <;> assumption
theorem slcW_sl_x {n es off len : Nat} {lo hi : Option Operand} {bb : Seal ((s : St), (es : Nat), (lo : Option Operand), (hi : Option Operand), (KA : (AV → Prop)))} : slcWX s es (.sl n es off len) lo hi KA bb = (optW s hi len fun h => optW s lo 0 fun l => chk (0 ≤ l ∧ l ≤ h ∧ h ≤ len) (evW (.sl n es (off + l.toNat) (h.toNat - l.toNat)) KA)) := by apply slcW_sl <;> assumption
theorem slcW_nil_x {es : Nat} {lo hi : Option Operand} {bb : Seal ((s : St), (es : Nat), (lo : Option Operand), (hi : Option Operand), (KA : (AV → Prop)))} : slcWX s es (.d (.c (.slice none 0 0))) lo hi KA bb = (optW s hi 0 fun h => optW s lo 0 fun l => chk (0 ≤ l ∧ l ≤ h ∧ h ≤ 0) (KA (.d (.c (.slice none 0 0))))) := by apply slcW_nil <;> assumption
theorem fldW_d1_x {off : Nat} {cs : List D} {bb : Seal ((off : Nat), (none : Option Nat), (KA : (AV → Prop)))} : fldWX off none (.d (.agg cs)) KA bb = (optA (cs[off]?.map .d) KA) := by apply fldW_d1 <;> assumption
theorem fldW_dn_x {off n : Nat} {cs : List D} {bb : Seal ((off : Nat), ((some n) : Option Nat), (KA : (AV → Prop)))} : fldWX off (some n) (.d (.agg cs)) KA bb = (evW (.d (.agg ((cs.drop off).take n))) KA) := by apply fldW_dn <;> assumption
theorem fldW_a1_x {off : Nat} {cs : List AV} {bb : Seal ((off : Nat), (none : Option Nat), (KA : (AV → Prop)))} : fldWX off none (.agg cs) KA bb = (optA cs[off]? KA) := by apply fldW_a1 <;> assumption
theorem fldW_an_x {off n : Nat} {cs : List AV} {bb : Seal ((off : Nat), ((some n) : Option Nat), (KA : (AV → Prop)))} : fldWX off (some n) (.agg cs) KA bb = (evW (.agg ((cs.drop off).take n)) KA) := by apply fldW_an <;> assumption
theorem iadrW_lst_x {es : Nat} {L : List D} {k : IntKind} {i : Int} {bb : Seal ((es : Nat), (KA : (AV → Prop)))} : iadrWX es (.d (.lst es L)) (.d (.c (.int k i))) KA bb = (chk (0 ≤ i ∧ i < L.length) (evW (.d (.ref (L.getD i.toNat default).cells)) KA)) := by apply iadrW_lst <;> assumption
theorem iadrW_sl_x {n es off len : Nat} {k : IntKind} {i : Int} {bb : Seal ((es : Nat), (KA : (AV → Prop)))} : iadrWX es (.sl n es off len) (.d (.c (.int k i))) KA bb = (chk (0 ≤ i ∧ i < len) (evW (.eptr n es (off + i.toNat) 0) KA)) := by apply iadrW_sl <;> assumption
theorem iadrAW_ref_x {len es : Nat} {cs : List D} {k : IntKind} {i : Int} {bb : Seal ((len : Nat), (es : Nat), (KA : (AV → Prop)))} : iadrAWX len es (.d (.ref cs)) (.d (.c (.int k i))) KA bb = (chk (0 ≤ i ∧ i < len) (evW (.d (.ref (cs.drop (i.toNat * es)))) KA)) := by apply iadrAW_ref <;> assumption
theorem iadrAW_ptr_x {len es n off : Nat} {k : IntKind} {i : Int} {bb : Seal ((len : Nat), (es : Nat), (KA : (AV → Prop)))} : iadrAWX len es (.ptr n off) (.d (.c (.int k i))) KA bb = (chk (0 ≤ i ∧ i < len) (evW (.ptr n (off + i.toNat * es)) KA)) := by apply iadrAW_ptr <;> assumption
theorem iadrAW_eptr_x {len es n es' q j : Nat} {k : IntKind} {i : Int} {bb : Seal ((len : Nat), (es : Nat), (KA : (AV → Prop)))} : iadrAWX len es (.eptr n es' q j) (.d (.c (.int k i))) KA bb = (chk (0 ≤ i ∧ i < len) (evW (.eptr n es' q (j + i.toNat * es)) KA)) := by apply iadrAW_eptr <;> assumption
theorem fadrW_ref_x {off : Nat} {cs : List D} {bb : Seal ((off : Nat), (KA : (AV → Prop)))} : fadrWX off (.d (.ref cs)) KA bb = (evW (.d (.ref (cs.drop off))) KA) := by apply fadrW_ref <;> assumption
theorem fadrW_ptr_x {off n o : Nat} {bb : Seal ((off : Nat), (KA : (AV → Prop)))} : fadrWX off (.ptr n o) KA bb = (evW (.ptr n (o + off)) KA) := by apply fadrW_ptr <;> assumption
theorem fadrW_eptr_x {off n es i j : Nat} {bb : Seal ((off : Nat), (KA : (AV → Prop)))} : fadrWX off (.eptr n es i j) KA bb = (evW (.eptr n es i (j + off)) KA) := by apply fadrW_eptr <;> assumption
theorem extW_tup_x {i : Nat} {vs : List AV} {bb : Seal ((i : Nat), (KA : (AV → Prop)))} : extWX i (.tup vs) KA bb = (optA vs[i]? KA) := by apply extW_tup <;> assumption
theorem lenW_lst_x {es : Nat} {L : List D} {K : Int → Prop} {bb : Seal ((K : (Int → Prop)))} : lenWX (.d (.lst es L)) K bb = (K L.length) := by apply lenW_lst <;> assumption
theorem lenW_sl_x {n es off len : Nat} {K : Int → Prop} {bb : Seal ((K : (Int → Prop)))} : lenWX (.sl n es off len) K bb = (K len) := by apply lenW_sl <;> assumption
theorem lenW_nil_x {K : Int → Prop} {bb : Seal ((K : (Int → Prop)))} : lenWX (.d (.c (.slice none 0 0))) K bb = (K 0) := by apply lenW_nil <;> assumption
theorem cellsW_c_x {x : Value} {K : List AV → Prop} {bb : Seal ((K : (List AV → Prop)))} : cellsWX (.d (.c x)) K bb = (K [.d (.c x)]) := by apply cellsW_c <;> assumption
theorem cellsW_lst_x {es : Nat} {L : List D} {K : List AV → Prop} {bb : Seal ((K : (List AV → Prop)))} : cellsWX (.d (.lst es L)) K bb = (K [.d (.lst es L)]) := by apply cellsW_lst <;> assumption
theorem cellsW_ref_x {L : List D} {K : List AV → Prop} {bb : Seal ((K : (List AV → Prop)))} : cellsWX (.d (.ref L)) K bb = (K [.d (.ref L)]) := by apply cellsW_ref <;> assumption
theorem cellsW_dfn_x {f : FuncId} {L : List D} {K : List AV → Prop} {bb : Seal ((K : (List AV → Prop)))} : cellsWX (.d (.fn f L)) K bb = (K [.d (.fn f L)]) := by apply cellsW_dfn <;> assumption
theorem cellsW_dagg_x {cs : List D} {K : List AV → Prop} {bb : Seal ((K : (List AV → Prop)))} : cellsWX (.d (.agg cs)) K bb = (evW (cs.map .d) K) := by apply cellsW_dagg <;> assumption
theorem cellsW_agg_x {cs : List AV} {K : List AV → Prop} {bb : Seal ((K : (List AV → Prop)))} : cellsWX (.agg cs) K bb = (K cs) := by apply cellsW_agg <;> assumption
theorem cellsW_sl_x {n es off len : Nat} {K : List AV → Prop} {bb : Seal ((K : (List AV → Prop)))} : cellsWX (.sl n es off len) K bb = (K [.sl n es off len]) := by apply cellsW_sl <;> assumption
theorem cellsW_ptr_x {n off : Nat} {K : List AV → Prop} {bb : Seal ((K : (List AV → Prop)))} : cellsWX (.ptr n off) K bb = (K [.ptr n off]) := by apply cellsW_ptr <;> assumption
theorem cellsW_fn_x {f : FuncId} {cs : List AV} {K : List AV → Prop} {bb : Seal ((K : (List AV → Prop)))} : cellsWX (.fn f cs) K bb = (K [.fn f cs]) := by apply cellsW_fn <;> assumption
theorem frzW_d_x {x : D} {K : St → D → Prop} {bb : Seal ((s : St), (K : (St → D → Prop)))} : frzWX (.d x) s K bb = (K s x) := by apply frzW_d <;> assumption
theorem frzW_agg_x {cs : List AV} {K : St → D → Prop} {bb : Seal ((s : St), (K : (St → D → Prop)))} : frzWX (.agg cs) s K bb = (frzL cs s fun s ds => K s (.agg ds)) := by apply frzW_agg <;> assumption
theorem frzW_fn_x {f : FuncId} {cs : List AV} {K : St → D → Prop} {bb : Seal ((s : St), (K : (St → D → Prop)))} : frzWX (.fn f cs) s K bb = (frzL cs s fun s ds => K s (.fn f ds)) := by apply frzW_fn <;> assumption
theorem frzW_sl_x {n es off len : Nat} {K : St → D → Prop} {bb : Seal ((s : St), (K : (St → D → Prop)))} : frzWX (.sl n es off len) s K bb = (slF (s.hp n) n es off len s K) := by apply frzW_sl <;> assumption
theorem slF_row_x {n es off len : Nat} {L : List D} {K : St → D → Prop} {bb : Seal ((n : Nat), (es : Nat), (off : Nat), (len : Nat), (s : St), (K : (St → D → Prop)))} : slFX (some (.row es L)) n es off len s K bb = (chk (n < 1000000 ∧ off + len ≤ L.length) (evW (.lst es ((L.drop off).take len)) fun x => K (s.turn n (.ice es L)) x)) := by apply slF_row <;> assumption
theorem slF_ice_x {n es off len : Nat} {L : List D} {K : St → D → Prop} {bb : Seal ((n : Nat), (es : Nat), (off : Nat), (len : Nat), (s : St), (K : (St → D → Prop)))} : slFX (some (.ice es L)) n es off len s K bb = (chk (off + len ≤ L.length) (evW (.lst es ((L.drop off).take len)) fun x => K s x)) := by apply slF_ice <;> assumption
theorem frzW_ptr_x {n off : Nat} {K : St → D → Prop} {bb : Seal ((s : St), (K : (St → D → Prop)))} : frzWX (.ptr n off) s K bb = (ptF (s.hp n) n off s K) := by apply frzW_ptr <;> assumption
theorem ptF_box_x {n off : Nat} {cs : List AV} {K : St → D → Prop} {bb : Seal ((n : Nat), (off : Nat), (s : St), (K : (St → D → Prop)))} : ptFX (some (.box cs)) n off s K bb = (ptB (allD cs) n off s K) := by apply ptF_box <;> assumption
theorem ptB_some_x {n off : Nat} {ds : List D} {K : St → D → Prop} {bb : Seal ((n : Nat), (off : Nat), (s : St), (K : (St → D → Prop)))} : ptBX (some ds) n off s K bb = (chk (n < 1000000) (evW (.ref (ds.drop off)) fun x => K (s.turn n (.icb ds)) x)) := by apply ptB_some <;> assumption
theorem ptF_icb_x {n off : Nat} {ds : List D} {K : St → D → Prop} {bb : Seal ((n : Nat), (off : Nat), (s : St), (K : (St → D → Prop)))} : ptFX (some (.icb ds)) n off s K bb = (evW (.ref (ds.drop off)) fun x => K s x) := by apply ptF_icb <;> assumption
theorem mrkW_sl_x {n off len : Nat} {K : AV → Prop} {bb : Seal ((s : St), (K : (AV → Prop)))} : mrkWX (.sl n 1 off len) s K bb = (chk (0 < len) (mrkO (s.hp n) (K (.sl n 1 off len)))) := by apply mrkW_sl <;> assumption
theorem mrkO_row_x {L : List D} {K : Prop} {bb : Seal ((K : Prop))} : mrkOX (some (.row 1 L)) K bb = (K) := by apply mrkO_row <;> assumption
theorem cvBW_str_x {b : ByteArray} {K : ByteArray → Prop} {bb : Seal ((K : (ByteArray → Prop)))} : cvBWX (.d (.c (.string b))) K bb = (K b) := by apply cvBW_str <;> assumption
theorem cvW_fn_x {f : FuncId} {caps : List D} {args : List Operand} {d : Option Nat} {bb : Seal ((P : Program), (n : Nat), (args : List Operand), (d : Option Nat), (s0 : St), (s : St), (K : (St → Prop)))} : cvWX P n (.fn f caps) args d s0 s K bb = (frzA args s fun s' ds => callW P n f (ds ++ caps) d s0 s' K) := by apply cvW_fn <;> assumption
theorem stW_ptr_x {size n off : Nat} {bb : Seal ((size : Nat), (s : St), (K : (St → Prop)))} : stWX size (.ptr n off) v s K bb = (stP (s.hp n) size n off v s K) := by apply stW_ptr <;> assumption
theorem stP_box_x {cs : List AV} {size n off : Nat} {bb : Seal ((size : Nat), (n : Nat), (v : AV), (s : St), (K : (St → Prop)))} : stPX (some (.box cs)) size n off v s K bb = (AV.cellsW v fun xs => chk (xs.length = size ∧ off + size ≤ cs.length) (evW (spl cs off xs) fun cs => K (s.turn n (.box cs)))) := by apply stP_box <;> assumption
theorem stW_eptr_x {size n es i j : Nat} {bb : Seal ((size : Nat), (s : St), (K : (St → Prop)))} : stWX size (.eptr n es i j) v s K bb = (frzW v s fun s x => stE (s.hp n) size n es i j x s K) := by apply stW_eptr <;> assumption
theorem stE_row_x {L : List D} {size n es i j : Nat} {x : D} {bb : Seal ((size : Nat), (n : Nat), (es : Nat), (x : D), (s : St), (K : (St → Prop)))} : stEX (some (.row es L)) size n es i j x s K bb = (chk (x.cells.length = size ∧ i < L.length ∧ j + size ≤ es) (chk ((L.getD i default).cells.length = es) (evW (L.set i ((L.getD i default).upd es j size x)) fun L => K (s.turn n (.row es L))))) := by apply stE_row <;> assumption
theorem cpyW_lst_x {L : List D} {K : St → Nat → Prop} {bb : Seal ((s : St), (K : (St → Nat → Prop)))} : cpyWX v (.d (.lst 1 L)) s K bb = (cpyB v s L K) := by apply cpyW_lst <;> assumption
theorem cpyW_nil_x {K : St → Nat → Prop} {bb : Seal ((s : St), (K : (St → Nat → Prop)))} : cpyWX v (.d (.c (.slice none 0 0))) s K bb = (cpyB v s [] K) := by apply cpyW_nil <;> assumption
theorem cpyO_row_x {n off len : Nat} {L L' : List D} {K : St → Nat → Prop} {bb : Seal ((n : Nat), (off : Nat), (len : Nat), (s : St), (L' : List D), (K : (St → Nat → Prop)))} : cpyOX (some (.row 1 L)) n off len s L' K bb = (chk (off + len ≤ L.length) (evW (spl L off (L'.take len)) fun L2 => evW (min L'.length len) fun m => K (s.turn n (.row 1 L2)) m)) := by apply cpyO_row <;> assumption
theorem appW_lst_x {n es by_ : Nat} {L : List D} {K : St → AV → Prop} {bb : Seal ((n : Nat), (es : Nat), (by_ : Nat), (s : St), (K : (St → AV → Prop)))} : appWX n es by_ v (.d (.lst es L)) s K bb = (appB n es by_ v s L K) := by apply appW_lst <;> assumption
theorem appW_nil_x {n es by_ : Nat} {K : St → AV → Prop} {bb : Seal ((n : Nat), (es : Nat), (by_ : Nat), (s : St), (K : (St → AV → Prop)))} : appWX n es by_ v (.d (.c (.slice none 0 0))) s K bb = (appB n es by_ v s [] K) := by apply appW_nil <;> assumption
theorem appW_sl_x {n es by_ m off len : Nat} {K : St → AV → Prop} {bb : Seal ((n : Nat), (es : Nat), (by_ : Nat), (s : St), (K : (St → AV → Prop)))} : appWX n es by_ v (.sl m es off len) s K bb = (srcO (s.hp m) es off len fun L' => appB n es by_ v s L' K) := by apply appW_sl <;> assumption
theorem cpyW_sl_x {m off len : Nat} {K : St → Nat → Prop} {bb : Seal ((s : St), (K : (St → Nat → Prop)))} : cpyWX v (.sl m 1 off len) s K bb = (srcO (s.hp m) 1 off len fun L' => cpyB v s L' K) := by apply cpyW_sl <;> assumption
theorem srcO_row_x {es off len : Nat} {L : List D} {K : List D → Prop} {bb : Seal ((es : Nat), (off : Nat), (len : Nat), (K : (List D → Prop)))} : srcOX (some (.row es L)) es off len K bb = (chk (off + len ≤ L.length) (evW ((L.drop off).take len) K)) := by apply srcO_row <;> assumption
theorem srcO_ice_x {es off len : Nat} {L : List D} {K : List D → Prop} {bb : Seal ((es : Nat), (off : Nat), (len : Nat), (K : (List D → Prop)))} : srcOX (some (.ice es L)) es off len K bb = (chk (off + len ≤ L.length) (evW ((L.drop off).take len) K)) := by apply srcO_ice <;> assumption
theorem appO_row_x {m es by_ len : Nat} {L L' : List D} {K : St → AV → Prop} {bb : Seal ((m : Nat), (es : Nat), (by_ : Nat), (len : Nat), (s : St), (L' : List D), (K : (St → AV → Prop)))} : appOX (some (.row es L)) m es by_ len s L' K bb = (chk (len = L.length ∧ m < 2000000) (evW (L.length + L'.length) fun q => chk (q * by_ ≤ 140737488355328 ∧ q ≤ 9223372036854775807) (evW (L ++ L') fun L => K (s.renew m (.row es L)) (.sl m es 0 q)))) := by apply appO_row <;> assumption
theorem nxtW_ptr_x {n : Nat} {K : St → AV → Prop} {bb : Seal ((s : St), (K : (St → AV → Prop)))} : nxtWX (.ptr n 0) s K bb = (nxtO (s.hp n) n s K) := by apply nxtW_ptr <;> assumption
theorem nxtO_t_x {t : ByteArray} {pos n : Nat} {K : St → AV → Prop} (h : pos < t.size) {bb : Seal ((n : Nat), (s : St), (K : (St → AV → Prop)))} : nxtOX (some (.itr t pos)) n s K bb = (K (s.turn n (.itr t (pos + (Utf8.decode t pos).2))) (.tup [.d (.c (.bool true)), .d (.c (.int .i64 pos)), .d (.c (.int .i32 (Utf8.decode t pos).1))])) := by apply nxtO_t <;> assumption
theorem nxtO_f_x {t : ByteArray} {pos n : Nat} {K : St → AV → Prop} (h : ¬ pos < t.size) {bb : Seal ((n : Nat), (s : St), (K : (St → AV → Prop)))} : nxtOX (some (.itr t pos)) n s K bb = (K s (.tup [.d (.c (.bool false))])) := by apply nxtO_f <;> assumption
theorem litRW_sl_x {n m es off len : Nat} {K : St → AV → Prop} {bb : Seal ((n : Nat), (s : St), (K : (St → AV → Prop)))} : litRWX n (.sl m es off len) s K bb = (evW (AV.killL (some n) [.sl m es off len]) fun cs => K (s.renew n (.tab cs)) (.sl n 1 0 1)) := by apply litRW_sl <;> assumption
theorem appRW_sl_x {n by_ m : Nat} {v : AV} {K : St → AV → Prop} {bb : Seal ((n : Nat), (by_ : Nat), (s : St), (K : (St → AV → Prop)))} : appRWX n by_ v (.sl m 1 0 1) s K bb = (appRS (s.hp m) n by_ v s K) := by apply appRW_sl <;> assumption
theorem appRS_tab_x {n by_ : Nat} {v u : AV} {K : St → AV → Prop} {bb : Seal ((n : Nat), (by_ : Nat), (v : AV), (s : St), (K : (St → AV → Prop)))} : appRSX (some (.tab [u])) n by_ v s K bb = (appRB n by_ v s u K) := by apply appRS_tab <;> assumption
theorem appRB_sl_x {n by_ m len : Nat} {u : AV} {K : St → AV → Prop} {bb : Seal ((n : Nat), (by_ : Nat), (s : St), (K : (St → AV → Prop)))} : appRBX n by_ (.sl m 1 0 len) s u K bb = (appRO (s.hp m) m by_ len s u K) := by apply appRB_sl <;> assumption
theorem appRB_nil_x {n by_ : Nat} {u : AV} {K : St → AV → Prop} {bb : Seal ((n : Nat), (by_ : Nat), (s : St), (K : (St → AV → Prop)))} : appRBX n by_ (.d (.c (.slice none 0 0))) s u K bb = (chk (by_ ≤ 140737488355328) (evW (AV.killL (some n) [u]) fun cs => K (s.renew n (.tab cs)) (.sl n 1 0 1))) := by apply appRB_nil <;> assumption
theorem appRO_tab_x {m by_ len : Nat} {cs : List AV} {u : AV} {K : St → AV → Prop} {bb : Seal ((m : Nat), (by_ : Nat), (len : Nat), (s : St), (K : (St → AV → Prop)))} : appROX (some (.tab cs)) m by_ len s u K bb = (chk (len = cs.length ∧ m < 2000000) (evW (cs.length + 1) fun q => chk (q * by_ ≤ 140737488355328 ∧ q ≤ 9223372036854775807) (evW (AV.killL (some m) (cs ++ [u])) fun cs => K (s.renew m (.tab cs)) (.sl m 1 0 q)))) := by apply appRO_tab <;> assumption
theorem pM_mp_x {n : Nat} {prot : List Nat} {A : Prop} {bb : Seal ((prot : List Nat), (A : Prop))} : pMX (.mp n) prot A bb = (chk (n ∈ prot) A) := by apply pM_mp <;> assumption
theorem pO_mp_x {n : Nat} {prot : List Nat} {A : Prop} {bb : Seal ((prot : List Nat), (A : Prop))} : pOX (.mp n) prot A bb = (chk (n ∉ prot) A) := by apply pO_mp <;> assumption
theorem mupW_mp_x {k : IntKind} {n : Nat} {z : Int} {x : Value} {bb : Seal ((k : IntKind), (s : St), (K : (St → Prop)))} : mupWX k (.mp n) (.d (.c (.int k z))) (.d (.c x)) s K bb = (mupO (s.hp n) n k z x s K) := by apply mupW_mp <;> assumption
theorem mupO_map_x {n : Nat} {k : IntKind} {z : Int} {x : Value} {L : List (Int × Value)} {bb : Seal ((n : Nat), (k : IntKind), (z : Int), (x : Value), (s : St), (K : (St → Prop)))} : mupOX (some (.map k L)) n k z x s K bb = (chk (L.length < 9223372036854775807) (evW (mset L z x) fun L => K (s.turn n (.map k L)))) := by apply mupO_map <;> assumption
theorem lkW_mp_x {k : IntKind} {ok : Bool} {zero : Value} {n : Nat} {z : Int} {bb : Seal ((s : St), (k : IntKind), (ok : Bool), (zero : Value), (KA : (AV → Prop)))} : lkWX s k ok zero (.mp n) (.d (.c (.int k z))) KA bb = (lkO (s.hp n) k ok zero z KA) := by apply lkW_mp <;> assumption
theorem lkO_map_x {k : IntKind} {ok : Bool} {zero : Value} {z : Int} {L : List (Int × Value)} {bb : Seal ((k : IntKind), (ok : Bool), (zero : Value), (z : Int), (KA : (AV → Prop)))} : lkOX (some (.map k L)) k ok zero z KA bb = (evW (mget L z) fun o => evW (lkR ok zero o) KA) := by apply lkO_map <;> assumption
theorem lenMW_mp_x {n : Nat} {K : Int → Prop} {bb : Seal ((s : St), (K : (Int → Prop)))} : lenMWX s (.mp n) K bb = (lenMO (s.hp n) K) := by apply lenMW_mp <;> assumption
theorem lenMO_map_x {k : IntKind} {L : List (Int × Value)} {K : Int → Prop} {bb : Seal ((K : (Int → Prop)))} : lenMOX (some (.map k L)) K bb = (K L.length) := by apply lenMO_map <;> assumption
theorem isNilPW_nil_x {K : Bool → Prop} {bb : Seal ((K : (Bool → Prop)))} : isNilPWX (.d (.c (.pointer none))) K bb = (K true) := by apply isNilPW_nil <;> assumption
theorem isNilPW_ref_x {cs : List D} {K : Bool → Prop} {bb : Seal ((K : (Bool → Prop)))} : isNilPWX (.d (.ref cs)) K bb = (K false) := by apply isNilPW_ref <;> assumption
theorem isNilPW_ptr_x {n o : Nat} {K : Bool → Prop} {bb : Seal ((K : (Bool → Prop)))} : isNilPWX (.ptr n o) K bb = (K false) := by apply isNilPW_ptr <;> assumption
theorem isNilPW_eptr_x {n es i j : Nat} {K : Bool → Prop} {bb : Seal ((K : (Bool → Prop)))} : isNilPWX (.eptr n es i j) K bb = (K false) := by apply isNilPW_eptr <;> assumption
theorem nilCW_ref_x {cs : List D} {bb : Seal ((KA : (AV → Prop)))} : nilCWX (.d (.ref cs)) KA bb = (KA (.d (.ref cs))) := by apply nilCW_ref <;> assumption
theorem nilCW_ptr_x {n o : Nat} {bb : Seal ((KA : (AV → Prop)))} : nilCWX (.ptr n o) KA bb = (KA (.ptr n o)) := by apply nilCW_ptr <;> assumption
theorem nilCW_eptr_x {n es i j : Nat} {bb : Seal ((KA : (AV → Prop)))} : nilCWX (.eptr n es i j) KA bb = (KA (.eptr n es i j)) := by apply nilCW_eptr <;> assumption
theorem nilCW_fn_x {f : FuncId} {cs : List AV} {bb : Seal ((KA : (AV → Prop)))} : nilCWX (.fn f cs) KA bb = (KA (.fn f cs)) := by apply nilCW_fn <;> assumption
theorem nilCW_dfn_x {f : FuncId} {cs : List D} {bb : Seal ((KA : (AV → Prop)))} : nilCWX (.d (.fn f cs)) KA bb = (KA (.d (.fn f cs))) := by apply nilCW_dfn <;> assumption
theorem fnW_fn_x {f : FuncId} {cs : List AV} {K : FuncId → List AV → Prop} {bb : Seal ((K : (FuncId → List AV → Prop)))} : fnWX (.fn f cs) K bb = (K f cs) := by apply fnW_fn <;> assumption
theorem fnW_dfn_x {f : FuncId} {cs : List D} {K : FuncId → List AV → Prop} {bb : Seal ((K : (FuncId → List AV → Prop)))} : fnWX (.d (.fn f cs)) K bb = (K f (cs.map .d)) := by apply fnW_dfn <;> assumption
end
end Go.Eng

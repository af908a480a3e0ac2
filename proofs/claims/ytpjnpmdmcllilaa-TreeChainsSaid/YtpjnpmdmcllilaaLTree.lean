/- Directories that hang below others: what is to come out. No condition but what each says. -/
import Derived.Test.YtpjnpmdmcllilaaLSml
set_option linter.unusedSimpArgs false
set_option linter.unusedVariables false
set_option maxRecDepth 8000
set_option maxHeartbeats 4000000
namespace Go.Proofs.Ytpjnpmdmcllilaa
open Go.Eng Go.RowKit
/-- a place that is to come: where, how deep, below which one -/
abbrev Tk := Nat × Int × Int
/-- a directory: how deep, below which one, it -/
abbrev It := Int × Int × Dr
abbrev Stt := List Nat × List It
def ptrP (k : Int) : Prop := k = 4 ∨ k = 13 ∨ k = 16 ∨ k = 18
instance (k : Int) : Decidable (ptrP k) := by unfold ptrP; infer_instance
/-- has a field below of a type that can't be a place? -/
def bad : List Fld → Bool
  | [] => false
  | f :: l => decide (f.1 = 330 ∧ ¬ ptrP f.2.1) || bad l
def valsB : List Fld → List Int
  | [] => []
  | f :: l => (if f.1 = 330 then f.2.2 else []) ++ valsB l
def tks (d : Int) (u : Nat) (vs : List Int) : List Tk := vs.map fun v => (v.toNat, d, (u : Int))
section
variable (b : List Int) (big large : Bool) (most deep : Int)
def W : List Tk → Stt → Stt × Int
  | [], s => (s, 0)
  | t :: ts, s =>
    if t.1 = 0 then W ts s
    else if t.1 ∈ s.1 then (s, 13)
    else if most ≤ (s.2.length : Int) ∨ deep < t.2.1 then (s, 8)
    else if (dirS b big large t.1).2 ≠ 0 then ((s.1 ++ [t.1], s.2), (dirS b big large t.1).2)
    else if bad (dirS b big large t.1).1.2.2 = true then ((s.1 ++ [t.1], s.2 ++ [(t.2.1, t.2.2, (dirS b big large t.1).1)]), 3)
    else if b.length ≤ s.2.length then (s, 99)
    else W (tks (t.2.1 + 1) s.2.length (valsB (dirS b big large t.1).1.2.2) ++ ((dirS b big large t.1).1.2.1.toNat, t.2.1, t.2.2) :: ts) (s.1 ++ [t.1], s.2 ++ [(t.2.1, t.2.2, (dirS b big large t.1).1)])
termination_by ts s => (b.length - s.2.length, ts.length)
decreasing_by
  · exact Prod.Lex.right _ (by simp)
  · exact Prod.Lex.left _ _ (by simp only [List.length_append, List.length_cons, List.length_nil]; omega)
end
section
variable {b : List Int} {big large : Bool} {most deep : Int}
theorem W_nil (s : Stt) : W b big large most deep [] s = (s, 0) := by rw [W]
theorem W_eq (t : Tk) (ts : List Tk) (s : Stt) : W b big large most deep (t :: ts) s =
    if t.1 = 0 then W b big large most deep ts s
    else if t.1 ∈ s.1 then (s, 13)
    else if most ≤ (s.2.length : Int) ∨ deep < t.2.1 then (s, 8)
    else if (dirS b big large t.1).2 ≠ 0 then ((s.1 ++ [t.1], s.2), (dirS b big large t.1).2)
    else if bad (dirS b big large t.1).1.2.2 = true then ((s.1 ++ [t.1], s.2 ++ [(t.2.1, t.2.2, (dirS b big large t.1).1)]), 3)
    else if b.length ≤ s.2.length then (s, 99)
    else W b big large most deep (tks (t.2.1 + 1) s.2.length (valsB (dirS b big large t.1).1.2.2) ++ ((dirS b big large t.1).1.2.1.toNat, t.2.1, t.2.2) :: ts) (s.1 ++ [t.1], s.2 ++ [(t.2.1, t.2.2, (dirS b big large t.1).1)]) := by rw [W]
theorem W_app (ts2 : List Tk) : ∀ (ts1 : List Tk) (s : Stt), W b big large most deep (ts1 ++ ts2) s = if (W b big large most deep ts1 s).2 = 0 then W b big large most deep ts2 (W b big large most deep ts1 s).1 else W b big large most deep ts1 s := by
  intro ts1 s
  induction ts1, s using W.induct b big large most deep with
  | case1 s => rw [List.nil_append, W_nil, if_pos rfl]
  | case2 t ts s h1 ih =>
    have e1 := W_eq (b := b) (big := big) (large := large) (most := most) (deep := deep) t (ts ++ ts2) s
    have e2 := W_eq (b := b) (big := big) (large := large) (most := most) (deep := deep) t ts s
    rw [if_pos h1] at e1 e2
    rw [List.cons_append, e1, e2, ih]
  | case3 t ts s h1 h2 =>
    have e1 := W_eq (b := b) (big := big) (large := large) (most := most) (deep := deep) t (ts ++ ts2) s
    have e2 := W_eq (b := b) (big := big) (large := large) (most := most) (deep := deep) t ts s
    rw [if_neg h1, if_pos h2] at e1 e2
    rw [List.cons_append, e1, e2]
    rfl
  | case4 t ts s h1 h2 h3 =>
    have e1 := W_eq (b := b) (big := big) (large := large) (most := most) (deep := deep) t (ts ++ ts2) s
    have e2 := W_eq (b := b) (big := big) (large := large) (most := most) (deep := deep) t ts s
    rw [if_neg h1, if_neg h2, if_pos h3] at e1 e2
    rw [List.cons_append, e1, e2]
    rfl
  | case5 t ts s h1 h2 h3 h4 =>
    have e1 := W_eq (b := b) (big := big) (large := large) (most := most) (deep := deep) t (ts ++ ts2) s
    have e2 := W_eq (b := b) (big := big) (large := large) (most := most) (deep := deep) t ts s
    rw [if_neg h1, if_neg h2, if_neg h3, if_pos h4] at e1 e2
    rw [List.cons_append, e1, e2, if_neg h4]
  | case6 t ts s h1 h2 h3 h4 h5 =>
    have e1 := W_eq (b := b) (big := big) (large := large) (most := most) (deep := deep) t (ts ++ ts2) s
    have e2 := W_eq (b := b) (big := big) (large := large) (most := most) (deep := deep) t ts s
    rw [if_neg h1, if_neg h2, if_neg h3, if_neg h4, if_pos h5] at e1 e2
    rw [List.cons_append, e1, e2]
    rfl
  | case7 t ts s h1 h2 h3 h4 h5 h6 =>
    have e1 := W_eq (b := b) (big := big) (large := large) (most := most) (deep := deep) t (ts ++ ts2) s
    have e2 := W_eq (b := b) (big := big) (large := large) (most := most) (deep := deep) t ts s
    rw [if_neg h1, if_neg h2, if_neg h3, if_neg h4, if_neg h5, if_pos h6] at e1 e2
    rw [List.cons_append, e1, e2]
    rfl
  | case8 t ts s h1 h2 h3 h4 h5 h6 ih =>
    have e1 := W_eq (b := b) (big := big) (large := large) (most := most) (deep := deep) t (ts ++ ts2) s
    have e2 := W_eq (b := b) (big := big) (large := large) (most := most) (deep := deep) t ts s
    rw [if_neg h1, if_neg h2, if_neg h3, if_neg h4, if_neg h5, if_neg h6] at e1 e2
    rw [List.cons_append, e1, e2, ← ih, List.append_assoc, List.cons_append]
theorem W_cons (t : Tk) (ts : List Tk) (s : Stt) : W b big large most deep (t :: ts) s = if (W b big large most deep [t] s).2 = 0 then W b big large most deep ts (W b big large most deep [t] s).1 else W b big large most deep [t] s := W_app ts [t] s
end
end Go.Proofs.Ytpjnpmdmcllilaa

/- Operations that only read, as they are on a walk's values ('tk'), what operation of Go's each stands for ('cmp'), and that the two agree. No condition. -/
import Derived.Test.YthbdglibakjfbaaDoorEngB
import Derived.Laws.BytesArg
import Derived.Laws.Tables
import Derived.Laws.MakeOwn
import Derived.Laws.CopyRow
import Derived.Laws.StructEq
import Derived.ChangeKeysEq
import Derived.Great.BuildSlice
import Derived.WalkKit
set_option linter.unusedSectionVars false
namespace Go.Eng
open Go.RowKit
variable [Inhabited Lo]

 inductive Ins where
  | mov (x : Operand)
  | pick (c a b : Operand)
  | ld (a : Operand)
  | ldn (n : Nat) (a : Operand)
  | bin (op : BinOp) (x y : Operand)
  | eqB (neg : Bool) (x y : Operand)
  | eqG (ks : List Bool) (neg : Bool) (x y : Operand)
  | isNil (neg : Bool) (x : Operand)
  | un (op : UnOp) (x : Operand)
  | cvI (k : IntKind) (x : Operand)
  | cvS (x : Operand)
  | cvT (x : Operand)
  | slc (es : Nat) (x : Operand) (lo hi : Option Operand)
  | slcS (x : Operand) (lo hi : Option Operand)
  | fadr (off : Nat) (x : Operand)
  | fld (off : Nat) (n : Option Nat) (x : Operand)
  | iadr (es : Nat) (x i : Operand)
  | iadrA (len es : Nat) (x i : Operand)
  | idxS (x i : Operand)
  | idxA (len : Nat) (x i : Operand)
  | len (x : Operand)
  | lenS (x : Operand)
  | mm (isMax : Bool) (x : Operand) (xs : List Operand)
  | ext (x : Operand) (i : Nat)
  | build (zero : List Value) (parts : List (Nat × Nat × Operand))
  | mkfn (f : FuncId) (caps : List Operand)
  | lit (es : Nat) (xs : List Operand)
  | lit0 (n es : Nat)
  | litO (n es : Nat) (xs : List Operand)
  | box (n size : Nat) (x : Operand)
  | alloc (n : Nat) (zero : List Value)
  | mk (n es by_ : Nat) (zero : D) (len cap : Operand)
  | st (size : Nat) (a x : Operand)
  | app (n es by_ : Nat) (s x : Operand)
  | appZ (n es by_ : Nat) (zero : D) (s x : Operand)
  | cpy (d s : Operand)
  | call (n : Nat) (f : FuncId) (args : List Operand)
  | callv (n : Nat) (x : Operand) (args : List Operand)
  | cvB (n : Nat) (x : Operand)
  | mrk (x : Operand)
  | callm (f : FuncId) (args : List Operand)
  | callvm (x : Operand) (args : List Operand)
  | mkm (n : Nat) (k : IntKind)
  | lkp (k : IntKind) (ok : Bool) (zero : Value) (m key : Operand)
  | mup (k : IntKind) (m key x : Operand)
  | lenM (x : Operand)
  | isNilP (neg : Bool) (x : Operand)
  | nilC (x : Operand)
  | capN (x : Operand)
  | rng (n : Nat) (x : Operand)
  | nxt (x : Operand)
  | litR (n : Nat) (x : Operand)
  | appR (n by_ : Nat) (s x : Operand)

def ones (cs : List Value) : Bool := cs.all (·.oneCell')
def cst : Value → AV
  | .agg cs => if ones cs.toList = true then .d (.agg (cs.toList.map .c)) else .any
  | .tuple _ => .any
  | v => .d (.c v)
def ev (s : St) : Operand → AV
  | .tmp t => s.tm t
  | .const v => cst v
  | .global _ => .any
  | .func f => .d (.fn f [])

section
variable {c : Cx} {Z : Nat → Prop} {M : Nat → Option Nat} {s : St} {a : Act} {w w' : World}
theorem DRs_consts : ∀ (xs : List Value), ones xs = true → DRs Z w (xs.map .c) xs
  | [], _ => by simp only [List.map_nil]; unfold DRs; rfl
  | x :: xs, h => by
    simp only [ones, List.all_cons, Bool.and_eq_true] at h
    simp only [List.map_cons]
    unfold DRs
    exact ⟨x, xs, rfl, h.1, by unfold DR; exact ⟨rfl, h.1⟩, DRs_consts xs h.2⟩
theorem AR_cst (v : Value) : AR Z M w (cst v) v := by
  cases v with
  | agg cs =>
    by_cases h : ones cs.toList = true
    · have e : cst (.agg cs) = .d (.agg (cs.toList.map .c)) := by simp only [cst, if_pos h]
      rw [e]
      unfold AR DR
      exact ⟨cs.toList, rfl, DRs_consts _ h⟩
    · have e : cst (.agg cs) = .any := by simp only [cst, if_neg h]
      rw [e]
      unfold AR; trivial
  | tuple cs => unfold cst AR; trivial
  | _ => unfold cst AR DR; exact ⟨rfl, rfl⟩
theorem Rep.ev (R : Rep c Z M s a w) (o : Operand) : AR Z M w (ev s o) (a.eval o) := by
  cases o with
  | tmp t => exact R.tm t
  | const v => exact AR_cst v
  | global g => unfold Eng.ev AR; trivial
  | func f =>
    unfold Eng.ev AR DR
    exact ⟨[], rfl, by unfold DRs; rfl⟩
end

/-! ### what each reading operation gives -/
def intW (v : AV) (K : IntKind → Int → Prop) : Prop := match v with
  | .d (.c (.int k i)) => K k i
  | _ => False
def optW (s : St) (o : Option Operand) (dflt : Int) (K : Int → Prop) : Prop := match o with
  | none => K dflt
  | some o => intW (ev s o) fun _ i => K i

def ldW (s : St) (v : AV) (K : AV → Prop) : Prop := match v with
  | .d (.ref (d :: _)) => K (.d d)
  | .ptr n off => match s.hp n with
    | some (.box cs) => match cs[off]? with
      | some v => K v
      | none => False
    | some (.icb cs) => match cs[off]? with
      | some v => K (.d v)
      | none => False
    | _ => False
  | .eptr n es i j => match s.hp n with
    | some (.row es' L) => es = es' ∧ i < L.length ∧ j < es ∧ K (.d ((L.getD i default).cell j))
    | some (.ice es' L) => es = es' ∧ i < L.length ∧ j < es ∧ K (.d ((L.getD i default).cell j))
    | some (.tab cs) => es = 1 ∧ i < cs.length ∧ j = 0 ∧ K (cs.getD i .any)
    | _ => False
  | _ => False
def ldnW (s : St) (n : Nat) (v : AV) (K : AV → Prop) : Prop := match v with
  | .d (.ref cs) => n ≤ cs.length ∧ K (.d (.agg (cs.take n)))
  | .ptr m off => match s.hp m with
    | some (.box cs) => off + n ≤ cs.length ∧ K (.agg ((cs.drop off).take n))
    | some (.icb cs) => off + n ≤ cs.length ∧ K (.d (.agg ((cs.drop off).take n)))
    | _ => False
  | .eptr m es i j => match s.hp m with
    | some (.row es' L) => es = es' ∧ i < L.length ∧ j + n ≤ es ∧ K (.d (.agg (((L.getD i default).cells.drop j).take n)))
    | some (.ice es' L) => es = es' ∧ i < L.length ∧ j + n ≤ es ∧ K (.d (.agg (((L.getD i default).cells.drop j).take n)))
    | _ => False
  | _ => False
def strW (v : AV) (K : ByteArray → Prop) : Prop := match v with
  | .d (.c (.string s)) => K s
  | _ => False
def boolW (v : AV) (K : Bool → Prop) : Prop := match v with
  | .d (.c (.bool b)) => K b
  | _ => False

def intBin (op : BinOp) (k : IntKind) (x : Int) (k' : IntKind) (y : Int) (K : Value → Prop) : Prop := match op with
  | .shl => 0 ≤ y ∧ K (.int k (k.wrap (x * 2 ^ (min y.toNat k.bits))))
  | .shr => 0 ≤ y ∧ K (.int k (x.fdiv (2 ^ (min y.toNat k.bits))))
  | .add => k = k' ∧ K (.int k (k.wrap (x + y)))
  | .sub => k = k' ∧ K (.int k (k.wrap (x - y)))
  | .mul => k = k' ∧ K (.int k (k.wrap (x * y)))
  | .quo => k = k' ∧ y ≠ 0 ∧ K (.int k (k.wrap (x.tdiv y)))
  | .rem => k = k' ∧ y ≠ 0 ∧ K (.int k (x.tmod y))
  | .and => k = k' ∧ K (.int k (bits .and k x y))
  | .or => k = k' ∧ K (.int k (bits .or k x y))
  | .xor => k = k' ∧ K (.int k (bits .xor k x y))
  | .andNot => k = k' ∧ K (.int k (bits .andNot k x y))
  | .eql => k = k' ∧ K (.bool (x == y))
  | .neq => k = k' ∧ K (.bool (x != y))
  | .lss => k = k' ∧ K (.bool (decide (x < y)))
  | .leq => k = k' ∧ K (.bool (decide (x ≤ y)))
  | .gtr => k = k' ∧ K (.bool (decide (x > y)))
  | .geq => k = k' ∧ K (.bool (decide (x ≥ y)))
def strBin (op : BinOp) (x y : ByteArray) (K : Value → Prop) : Prop := match op with
  | .add => x.size + y.size ≤ 9223372036854775807 ∧ K (.string (x ++ y))
  | .eql => K (.bool (x.toList == y.toList))
  | .neq => K (.bool (!(x.toList == y.toList)))
  | .lss => K (.bool (Op.bytesLess x.toList y.toList))
  | .leq => K (.bool (Op.bytesLess x.toList y.toList || x.toList == y.toList))
  | .gtr => K (.bool (!(Op.bytesLess x.toList y.toList || x.toList == y.toList)))
  | .geq => K (.bool (!(Op.bytesLess x.toList y.toList)))
  | _ => False
def binW (op : BinOp) (x y : AV) (K : Value → Prop) : Prop := match x, y with
  | .d (.c (.int k x)), .d (.c (.int k' y)) => intBin op k x k' y K
  | .d (.c (.string x)), .d (.c (.string y)) => strBin op x y K
  | _, _ => False
def isNilW (v : AV) (K : Bool → Prop) : Prop := match v with
  | .d (.c (.slice none 0 0)) => K true
  | .d (.lst _ L) => (L.length = 0 → K true) ∧ K false
  | .sl _ _ _ len => (len = 0 → K true) ∧ K false
  | _ => False
def unW (op : UnOp) (x : AV) (K : Value → Prop) : Prop := match op, x with
  | .neg, .d (.c (.int k x)) => K (.int k (k.wrap (0 - x)))
  | .xor, .d (.c (.int k x)) => K (.int k (bits .xor k (if k.signed then -1 else k.max) x))
  | .not, .d (.c (.bool b)) => K (.bool !b)
  | _, _ => False
def slcW (s : St) (es : Nat) (x : AV) (lo hi : Option Operand) (K : AV → Prop) : Prop := match x with
  | .d (.lst es' L) => optW s hi L.length fun h => optW s lo 0 fun l => es = es' ∧ (0 ≤ l ∧ l ≤ h ∧ h ≤ L.length) ∧ K (.d (.lst es ((L.drop l.toNat).take (h.toNat - l.toNat))))
  | .sl n es' off len => optW s hi len fun h => optW s lo 0 fun l => es = es' ∧ (0 ≤ l ∧ l ≤ h ∧ h ≤ len) ∧ K (.sl n es (off + l.toNat) (h.toNat - l.toNat))
  | .d (.c (.slice none 0 0)) => optW s hi 0 fun h => optW s lo 0 fun l => (0 ≤ l ∧ l ≤ h ∧ h ≤ 0) ∧ K x
  | _ => False
def partW (off : Nat) (n : Option Nat) (cs : List AV) (K : AV → Prop) : Prop := match n with
  | none => match cs[off]? with
    | some v => K v
    | none => False
  | some n => K (.agg ((cs.drop off).take n))
def partDW (off : Nat) (n : Option Nat) (cs : List D) (K : AV → Prop) : Prop := match n with
  | none => match cs[off]? with
    | some v => K (.d v)
    | none => False
  | some n => K (.d (.agg ((cs.drop off).take n)))
def fldW (off : Nat) (n : Option Nat) (x : AV) (K : AV → Prop) : Prop := match x with
  | .d (.agg cs) => partDW off n cs K
  | .agg cs => partW off n cs K
  | _ => False
def iadrW (es : Nat) (x i : AV) (K : AV → Prop) : Prop := intW i fun _ i => match x with
  | .d (.lst es' L) => (0 ≤ i ∧ i < L.length) ∧ es = es' ∧ K (.d (.ref (L.getD i.toNat default).cells))
  | .sl n es' off len => (0 ≤ i ∧ i < len) ∧ es = es' ∧ K (.eptr n es (off + i.toNat) 0)
  | _ => False
def iadrAW (len es : Nat) (x i : AV) (K : AV → Prop) : Prop := intW i fun _ i => (0 ≤ i ∧ i < len) ∧ match x with
  | .d (.ref cs) => K (.d (.ref (cs.drop (i.toNat * es))))
  | .ptr n off => K (.ptr n (off + i.toNat * es))
  | .eptr n es' k j => K (.eptr n es' k (j + i.toNat * es))
  | _ => False
def fadrW (off : Nat) (x : AV) (K : AV → Prop) : Prop := match x with
  | .d (.ref cs) => K (.d (.ref (cs.drop off)))
  | .ptr n o => K (.ptr n (o + off))
  | .eptr n es i j => K (.eptr n es i (j + off))
  | _ => False
def extW (i : Nat) (x : AV) (K : AV → Prop) : Prop := match x with
  | .tup vs => match vs[i]? with
    | some v => K v
    | none => False
  | _ => False
def lenW (x : AV) (K : Int → Prop) : Prop := match x with
  | .d (.lst _ L) => K L.length
  | .sl _ _ _ len => K len
  | .d (.c (.slice none 0 0)) => K 0
  | _ => False
def mmW (isMax : Bool) (s : St) (k : IntKind) (x : Int) (K : Int → Prop) : List Operand → Prop
  | [] => K x
  | o :: os => intW (ev s o) fun _ y => mmW isMax s k (if isMax = true then (if y > x then y else x) else (if y < x then y else x)) K os
/-- cells put in a list of cells -/
def spl {α : Type} (cs : List α) (off : Nat) (xs : List α) : List α := cs.take off ++ xs ++ cs.drop (off + xs.length)
/-- a value's cells -/
def AV.cellsW (v : AV) (K : List AV → Prop) : Prop := match v with
  | .agg cs => K cs
  | .d (.agg cs) => K (cs.map .d)
  | .any => False
  | .tup _ => False
  | v => K [v]
/-- the cells of a value of cells -/
def aggW (v : AV) (K : List AV → Prop) : Prop := match v with
  | .agg cs => K cs
  | .d (.agg cs) => K (cs.map .d)
  | _ => False
/-- whole numbers' cells, compared one by one -/
def eqL : List Bool → List AV → List AV → (Bool → Prop) → Prop
  | [], [], [], K => K true
  | false :: ks, .d (.c (.int k x)) :: cs, .d (.c (.int k' y)) :: ds, K => k = k' ∧ eqL ks cs ds fun r => K (x == y && r)
  | true :: ks, .d (.c (.bool x)) :: cs, .d (.c (.bool y)) :: ds, K => eqL ks cs ds fun r => K (x == y && r)
  | _, _, _, _ => False
def buildW (s : St) (K : List AV → Prop) : List AV → List (Nat × Nat × Operand) → Prop
  | cs, [] => K cs
  | cs, (off, size, o) :: ps => (ev s o).cellsW fun xs => xs.length = size ∧ off + size ≤ cs.length ∧ buildW s K (spl cs off xs) ps
def oneW (v : AV) : Prop := match v with
  | .agg _ => False
  | .d (.agg _) => False
  | .any => False
  | .tup _ => False
  | _ => True
def allOne : List AV → Prop
  | [] => True
  | v :: vs => oneW v ∧ allOne vs
/-- a list of numbers as data -/
def li (k : IntKind) (l : List Int) : List D := l.map fun z => .c (.int k z)

/-- 'string(b)': of data, of a row of its own, of no slice -/
def cvSA (s : St) (v : AV) (K : AV → Prop) : Prop := match v with
  | .sl n 1 off len => ∃ l : List Int, (s.hp n = some (.row 1 (li .u8 l)) ∨ s.hp n = some (.ice 1 (li .u8 l))) ∧ off + len ≤ l.length ∧ K (.d (.c (.string (strOfNums ((l.drop off).take len)))))
  | .d (.c (.slice none 0 0)) => K (.d (.c (.string (strOfNums []))))
  | v => ∃ l : List Int, v = .d (.lst 1 (li .u8 l)) ∧ K (.d (.c (.string (strOfNums l))))

/-- entries of a map: what is at a key, a key put anew -/
def mget : List (Int × Value) → Int → Option Value
  | [], _ => none
  | (a, v) :: l, z => if z = a then some v else mget l z
def mset : List (Int × Value) → Int → Value → List (Int × Value)
  | [], z, v => [(z, v)]
  | (a, u) :: l, z, v => if z = a then (a, v) :: l else (a, u) :: mset l z v
def lkR (ok : Bool) (zero : Value) (o : Option Value) : AV := match ok, o with
  | true, some v => .tup [.d (.c v), .d (.c (.bool true))]
  | true, none => .tup [.d (.c zero), .d (.c (.bool false))]
  | false, some v => .d (.c v)
  | false, none => .d (.c zero)
def lkO (o : Option Ob) (k : IntKind) (ok : Bool) (zero : Value) (z : Int) (K : AV → Prop) : Prop := match o with
  | some (.map k' L) => k = k' ∧ K (lkR ok zero (mget L z))
  | _ => False
def lkW (s : St) (k : IntKind) (ok : Bool) (zero : Value) (m key : AV) (K : AV → Prop) : Prop := match m, key with
  | .mp n, .d (.c (.int k' z)) => k' = k ∧ lkO (s.hp n) k ok zero z K
  | _, _ => False
def lenMO (o : Option Ob) (K : Int → Prop) : Prop := match o with
  | some (.map _ L) => K L.length
  | _ => False
def lenMW (s : St) (m : AV) (K : Int → Prop) : Prop := match m with
  | .mp n => lenMO (s.hp n) K
  | _ => False
/-- is an address nil? -/
def isNilPW (v : AV) (K : Bool → Prop) : Prop := match v with
  | .d (.c (.pointer none)) => K true
  | .d (.ref _) => K false
  | .ptr _ _ => K false
  | .eptr _ _ _ _ => K false
  | _ => False
/-- an address, or a function, that is not nil -/
def nilCW (v : AV) (K : AV → Prop) : Prop := match v with
  | .d (.ref cs) => K (.d (.ref cs))
  | .ptr n o => K (.ptr n o)
  | .eptr n es i j => K (.eptr n es i j)
  | .fn f cs => K (.fn f cs)
  | .d (.fn f cs) => K (.d (.fn f cs))
  | _ => False

def tk (i : Ins) (s : St) (K : AV → Prop) : Prop := match i with
  | .mov x => K (ev s x)
  | .pick c a b => boolW (ev s c) fun t => K (if t = true then ev s a else ev s b)
  | .ld a => ldW s (ev s a) K
  | .ldn n a => ldnW s n (ev s a) K
  | .bin op x y => binW op (ev s x) (ev s y) fun v => K (.d (.c v))
  | .eqB neg x y => boolW (ev s x) fun x => boolW (ev s y) fun y => K (.d (.c (.bool (if neg = true then !(x == y) else x == y))))
  | .eqG n neg x y => aggW (ev s x) fun cs => aggW (ev s y) fun ds => eqL n cs ds fun r => K (.d (.c (.bool (if neg = true then !r else r))))
  | .isNil neg x => isNilW (ev s x) fun b => K (.d (.c (.bool (if neg = true then !b else b))))
  | .un op x => unW op (ev s x) fun v => K (.d (.c v))
  | .cvI k x => intW (ev s x) fun _ n => K (.d (.c (.int k (k.wrap n))))
  | .cvS x => cvSA s (ev s x) K
  | .cvT x => strW (ev s x) fun b => K (.d (.c (.string b)))
  | .slc es x lo hi => slcW s es (ev s x) lo hi K
  | .slcS x lo hi => strW (ev s x) fun b => optW s hi b.size fun h => optW s lo 0 fun l => (0 ≤ l ∧ l ≤ h ∧ h ≤ b.size) ∧ K (.d (.c (.string (b.extract l.toNat h.toNat))))
  | .fadr off x => fadrW off (ev s x) K
  | .fld off n x => fldW off n (ev s x) K
  | .iadr es x i => iadrW es (ev s x) (ev s i) K
  | .iadrA len es x i => iadrAW len es (ev s x) (ev s i) K
  | .idxS x i => strW (ev s x) fun b => intW (ev s i) fun _ i => (0 ≤ i ∧ i < b.size) ∧ K (.d (.c (.int .u8 ((b.data.toList.getD i.toNat 0).toNat : Int))))
  | .idxA len x i => intW (ev s i) fun _ i => (0 ≤ i ∧ i < len) ∧ fldW i.toNat none (ev s x) K
  | .len x => lenW (ev s x) fun n => K (.d (.c (.int .i64 n)))
  | .lenS x => strW (ev s x) fun b => K (.d (.c (.int .i64 b.size)))
  | .mm isMax x xs => intW (ev s x) fun k i => mmW isMax s k i (fun z => K (.d (.c (.int k z)))) xs
  | .ext x i => extW i (ev s x) K
  | .build zero parts => buildW s (fun cs => K (.agg cs)) (zero.map fun v => .d (.c v)) parts
  | .mkfn f caps => allOne (caps.map (ev s)) ∧ K (.fn f (caps.map (ev s)))
  | .lkp k ok zero m key => lkW s k ok zero (ev s m) (ev s key) K
  | .lenM x => lenMW s (ev s x) fun n => K (.d (.c (.int .i64 n)))
  | .isNilP neg x => isNilPW (ev s x) fun b => K (.d (.c (.bool (if neg = true then !b else b))))
  | .nilC x => nilCW (ev s x) K
  | .capN x => ev s x = .d (.c (.slice none 0 0)) ∧ K (.d (.c (.int .i64 0)))
  | _ => False

/-! ### which operation is which -/
def isAggT : TypeDesc → Bool
  | .struct _ => true
  | .array _ _ => true
  | _ => false
def partOf (P : Program) (t : TypeId) : Option (Option Nat) := match P.underlying t with
  | none => none
  | some d => if isAggT d = true then (P.info? t).map (fun i => some i.size) else some none
def sizeT (P : Program) (t : TypeId) : Option Nat := (P.info? t).map (·.size)
/-- the places of the parts of a struct or an array -/
def placesOf (P : Program) (t : TypeId) : Option (Nat → Option (Nat × Nat)) := match P.underlying t with
  | some (.struct fields) => match fields.toList.mapM (fun f => (P.info? f.type).map fun i => (f.offset, i.size)) with
    | some places => some (places.toArray[·]?)
    | none => none
  | some (.array _ e) => match P.info? e with
    | some ie => some (fun i => some (i * ie.size, ie.size))
    | none => none
  | _ => none
def zeroOf (P : Program) (t : TypeId) : Option (List Value) := match P.info? t with
  | some i => match i.zero with
    | some z => if ones z.cells.toList = true then some z.cells.toList else none
    | none => none
  | none => none
def zeroV (P : Program) (t : TypeId) : Option Value := match P.info? t with
  | some i => match i.zero with
    | some z => if z.oneCell' = true then some z else none
    | none => none
  | none => none
def zeroD (P : Program) (t : TypeId) : Option D := match partOf P t, zeroOf P t with
  | some none, some [v] => some (.c v)
  | some (some _), some vs => some (.agg (vs.map .c))
  | _, _ => none
def hasBody (P : Program) (f : FuncId) : Bool := match P.funcs[f]? with
  | some fn => !(fn.name == "runtime.NumGoroutine") && fn.body.isSome
  | none => false

/-- values of one cell that can be compared: is it a truth value, or a whole number? -/
def scK (P : Program) (t : TypeId) : Option Bool := match P.underlying t with
  | some (.int _) => some false
  | some .bool => some true
  | _ => none
/-- fields that are such values, cell by cell -/
def fsK (P : Program) : Nat → List Field → Option (List Bool)
  | _, [] => some []
  | off, f :: fs => if f.name ≠ "_" ∧ f.offset = off then (match scK P f.type, fsK P (off + 1) fs with
    | some b, some l => some (b :: l)
    | _, _ => none) else none
def cmp (P : Program) (own : List Nat) (o : Oper) : Option Ins := match o.op with
  | .move x => some (.mov x)
  | .assign x => some (.mov x)
  | .pick c a b => some (.pick c a b)
  | .load t a => match partOf P t with
    | some none => some (.ld a)
    | some (some n) => if sizeT P t = some n then some (.ldn n a) else none
    | none => none
  | .binOp op t x y _ => match P.underlying t with
    | some (.int _) => some (.bin op x y)
    | some .string => some (.bin op x y)
    | some .bool => match op with
      | .eql => some (.eqB false x y)
      | .neq => some (.eqB true x y)
      | _ => none
    | some (.slice _) => match op, y with
      | .eql, .const (.slice none 0 0) => some (.isNil false x)
      | .neq, .const (.slice none 0 0) => some (.isNil true x)
      | _, _ => none
    | some (.pointer _) => match op, y with
      | .eql, .const (.pointer none) => some (.isNilP false x)
      | .neq, .const (.pointer none) => some (.isNilP true x)
      | _, _ => none
    | some (.struct fields) => match fsK P 0 fields.toList with
      | some ks => if P.stoodInHeld t = false ∧ P.eqGuardType P.depth t = false then (match op with
        | .eql => some (.eqG ks false x y)
        | .neq => some (.eqG ks true x y)
        | _ => none) else none
      | none => none
    | some (.array len e) => match scK P e with
      | some b => if sizeT P e = some 1 ∧ P.eqGuardType P.depth t = false then (match op with
        | .eql => some (.eqG (List.replicate len b) false x y)
        | .neq => some (.eqG (List.replicate len b) true x y)
        | _ => none) else none
      | none => none
    | _ => none
  | .unOp op _ x => some (.un op x)
  | .convert src dst x => match P.underlying src, P.underlying dst with
    | some (.int _), some (.int k) => some (.cvI k x)
    | some .string, some .string => some (.cvT x)
    | some (.slice e), some .string => if P.underlying e matches some (.int .u8) then some (.cvS x) else none
    | some .string, some (.slice e) => match o.dst with
      | some d => if P.underlying e matches some (.int .u8) then some (.cvB d x) else none
      | none => none
    | some (.slice _), some (.slice e) => if src = dst then (if P.underlying e matches some (.int .u8) then some (.mrk x) else none) else none
    | _, _ => none
  | .slice t x lo hi none => match P.underlying t with
    | some (.slice e) => (sizeT P e).map fun n => .slc n x lo hi
    | some .string => some (.slcS x lo hi)
    | _ => none
  | .fieldAddr t x f => match P.underlying t with
    | some (.struct fields) => match fields[f]? with
      | some fd => match sizeT P fd.type with
        | some n => if n = 0 then none else some (.fadr fd.offset x)
        | none => none
      | none => none
    | _ => none
  | .field t x f => match P.underlying t with
    | some (.struct fields) => match fields[f]? with
      | some fd => (partOf P fd.type).map fun n => .fld fd.offset n x
      | none => none
    | _ => none
  | .indexAddr t x i => match P.underlying t with
    | some (.slice e) => (sizeT P e).map fun n => .iadr n x i
    | some (.array len e) => (sizeT P e).map fun n => .iadrA len n x i
    | _ => none
  | .index t x i => match P.underlying t with
    | some .string => some (.idxS x i)
    | some (.array len e) => if partOf P e = some none ∧ sizeT P e = some 1 then some (.idxA len x i) else none
    | _ => none
  | .extract x i => some (.ext x i)
  | .build t parts => match zeroOf P t, placesOf P t with
    | some zero, some pl => (parts.toList.mapM fun (p : Nat × Operand) => (pl p.1).map fun (q : Nat × Nat) => (q.1, q.2, p.2)).map fun ps => .build zero ps
    | _, _ => none
  | .makeFunc fn first caps => match fn with
    | .func f => if first.size = 0 then some (.mkfn f caps.toList) else none
    | _ => none
  | .alloc t => match o.dst with
    | some d => (zeroOf P t).map fun z => .alloc d z
    | none => none
  | .box t x => match o.dst with
    | some d => (sizeT P t).map fun n => .box d n x
    | none => none
  | .buildSlice t len parts => match P.underlying t, o.dst with
    | some (.slice e), some d => match sizeT P e, zeroOf P e with
      | some es, some zero => if es = 0 ∨ zero.length ≠ es then none else if own.contains (5000000 + d) = true then (match parts.toList with | [(0, x)] => if es = 1 ∧ len = 1 then some (.litR d x) else none | _ => none) else if len = 0 then (if parts.toList.isEmpty = true then some (.lit0 d es) else none) else if own.contains d = true then (if len * es ≤ 16777216 ∧ parts.toList.map (·.1) = List.range len then some (.litO d es (parts.toList.map (·.2))) else none) else if len * es ≤ 16777216 ∧ parts.toList.map (·.1) = List.range len then some (.lit es (parts.toList.map (·.2))) else none
      | _, _ => none
    | _, _ => none
  | .makeSlice t l c => match P.underlying t, o.dst with
    | some (.slice e), some d => match P.info? e, zeroD P e with
      | some i, some z => if i.size = 0 then none else if z.cells.length = i.size then some (.mk d i.size i.bytes z l c) else none
      | _, _ => none
    | _, _ => none
  | .store t a x => if o.dst = none then (sizeT P t).map fun n => .st n a x else none
  | .call c => match c.callee with
    | .builtin .len => match c.args.toList, c.argTypes.toList with
      | [x], [t] => match P.underlying t with
        | some (.slice _) => some (.len x)
        | some .string => some (.lenS x)
        | some (.map _ _) => some (.lenM x)
        | _ => none
      | _, _ => none
    | .builtin .append => match c.args.toList, c.argTypes.toList, o.dst with
      | [s, x], [t, t'], some d => match P.underlying t with
        | some (.slice e) => match P.info? e with
          | some i => if own.contains (5000000 + d) = true then (if t = t' ∧ i.size = 1 ∧ (i.zero.map (·.cells.size)) = some i.size then some (.appR d i.bytes s x) else none) else if t = t' ∧ i.size ≠ 0 ∧ (i.zero.map (·.cells.size)) = some i.size then some (.app d i.size i.bytes s x) else match P.underlying t', zeroD P e with
            | some (.int _), some z => if i.size ≠ 0 ∧ z.cells.length = i.size then some (.appZ d i.size i.bytes z s x) else none
            | _, _ => none
          | none => none
        | _ => none
      | _, _, _ => none
    | .builtin .copy => match c.args.toList, c.argTypes.toList with
      | [d, s], [t, t'] => match P.underlying t with
        | some (.slice e) => if sizeT P e = some 1 ∧ (P.underlying t').isSome = true then some (.cpy d s) else none
        | _ => none
      | _, _ => none
    | .builtin .min => match c.args.toList with
      | x :: xs => some (.mm false x xs)
      | _ => none
    | .builtin .max => match c.args.toList with
      | x :: xs => some (.mm true x xs)
      | _ => none
    | .builtin .cap => match c.args.toList, c.argTypes.toList with
      | [x], [t] => match P.underlying t with
        | some (.slice _) => some (.capN x)
        | _ => none
      | _, _ => none
    | .value (.func f) => some (.call (o.dst.getD 0) f c.args.toList)
    | .value (.tmp t) => some (.callv (o.dst.getD 0) (.tmp t) c.args.toList)
    | _ => none
  | .nilCheck x => some (.nilC x)
  | .makeMap t none => match P.underlying t, o.dst with
    | some (.map k _), some d => match P.underlying k with
      | some (.int q) => some (.mkm d q)
      | _ => none
    | _, _ => none
  | .lookup t x i ok => match P.underlying t with
    | some (.map k e) => match P.underlying k, zeroV P e with
      | some (.int q), some z => some (.lkp q ok z x i)
      | _, _ => none
    | _ => none
  | .mapUpdate t m k x => match P.underlying t with
    | some (.map kt _) => match P.underlying kt with
      | some (.int q) => if o.dst = none then some (.mup q m k x) else none
      | _ => none
    | _ => none
  | .insert t m k x => match P.underlying t with
    | some (.map kt _) => match P.underlying kt with
      | some (.int q) => if o.dst = none then some (.mup q m k x) else none
      | _ => none
    | _ => none
  | .panic _ => some (.capN (.const (.bool false)))
  | .makeInterface _ _ => some (.capN (.const (.bool false)))
  | .range t x => match P.underlying t, o.dst with
    | some .string, some d => some (.rng d x)
    | _, _ => none
  | .next x str => if str = true then some (.nxt x) else none
  | _ => none
/-- calls of functions that write their caller's objects: those that are listed (3000000 + the function's number, 4000000 + the slot of a function value) -/
def Ins.isM : Ins → Bool
  | .callm _ _ => true
  | .callvm _ _ => true
  | _ => false
def cmpP (P : Program) (own : List Nat) (o : Oper) : Option Ins := match cmp P own o with
  | some i => if i.isM = true then none else some i
  | none => none
def cmpX (P : Program) (own : List Nat) (o : Oper) : Option Ins := match o.op with
  | .call c => match c.callee with
    | .value (.func f) => if own.contains (3000000 + f) = true then some (.callm f c.args.toList) else cmpP P own o
    | .value (.tmp t) => if own.contains (4000000 + t) = true then some (.callvm (.tmp t) c.args.toList) else cmpP P own o
    | _ => cmpP P own o
  | _ => cmpP P own o
theorem cmpP_spec {P : Program} {own : List Nat} {o : Oper} {i : Ins} (h : cmpP P own o = some i) : i.isM = false ∧ cmp P own o = some i := by
  unfold cmpP at h
  split at h
  · split at h
    · cases h
    · rename_i j hj hi
      cases h
      exact ⟨by simpa using hi, hj⟩
  · cases h
theorem cmpX_spec {P : Program} {own : List Nat} {o : Oper} {i : Ins} (h : cmpX P own o = some i) : (i.isM = false ∧ cmp P own o = some i) ∨ (i.isM = true ∧ ∃ c : Call, o.op = .call c ∧ ((∃ f, c.callee = .value (.func f) ∧ i = .callm f c.args.toList) ∨ ∃ t, c.callee = .value (.tmp t) ∧ i = .callvm (.tmp t) c.args.toList)) := by
  unfold cmpX at h
  split at h
  · rename_i c hop
    split at h
    · rename_i f hf
      split at h
      · cases h; exact .inr ⟨rfl, c, hop, .inl ⟨f, hf, rfl⟩⟩
      · exact .inl (cmpP_spec h)
    · rename_i t ht
      split at h
      · cases h; exact .inr ⟨rfl, c, hop, .inr ⟨t, ht, rfl⟩⟩
      · exact .inl (cmpP_spec h)
    · exact .inl (cmpP_spec h)
  · exact .inl (cmpP_spec h)
end Go.Eng

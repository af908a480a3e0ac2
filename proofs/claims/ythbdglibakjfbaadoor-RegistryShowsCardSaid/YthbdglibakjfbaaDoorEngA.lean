/- Data without addresses ('D'), values of a walk ('AV'), and what they say of Go's values in a world. No condition. -/
import Derived.WalkKit
import Derived.Test.YthbdglibakjfbaaDoorEngQ
import Derived.ProofKit
import Derived.Below
import Derived.Maps.AppendAt
import Derived.Orders
set_option linter.unusedSectionVars false
namespace Go.Eng
open Go.RowKit
variable [Inhabited Lo]

/-- Data: 'c' a value of one cell that is known; 'agg' a struct or an array, cell by cell; 'lst' a slice that nobody writes any more, of elements of so many cells; 'ref' the address of cells that nobody writes any more; 'fn' a function with what it captured. -/
 inductive D where
  | c (v : Value)
  | agg (cs : List D)
  | lst (es : Nat) (L : List D)
  | ref (cs : List D)
  | fn (f : FuncId) (caps : List D)
instance : Inhabited D := ⟨.c (.int .i64 0)⟩
def D.cells : D → List D
  | .agg cs => cs
  | x => [x]
def D.cell (x : D) (j : Nat) : D := match x with
  | .agg cs => cs.getD j default
  | x => x

/-- The values of a walk: 'any' nothing is known; 'ptr n off' the address of cell off of the walk's own object n; 'eptr n es i j' that of cell j of element i of its own row n; 'sl n es off len' so many elements of its own row n; 'mp n' its own map n. -/
 inductive AV where
  | any
  | mp (n : Nat)
  | d (x : D)
  | ptr (n off : Nat)
  | eptr (n es i j : Nat)
  | sl (n es off len : Nat)
  | agg (cs : List AV)
  | tup (vs : List AV)
  | fn (f : FuncId) (caps : List AV)
instance : Inhabited AV := ⟨.any⟩

/-- From offset off of block b on, es cells hold what the value x is made of. -/
def LoadsAs (w : World) (b off es : Nat) (x : Value) : Prop := x.cells.size = es ∧ ∀ j, j < es → w.cell? ⟨b, off + j, none⟩ = x.cells[j]?

 mutual
def DR (Z : Nat → Prop) (w : World) : D → Value → Prop
  | .c v, x => x = v ∧ v.oneCell' = true
  | .agg cs, x => ∃ xs : List Value, x = .agg xs.toArray ∧ DRs Z w cs xs
  | .lst es L, x => ∃ a cap, x = .slice a L.length cap ∧ L.length ≤ cap ∧ cap ≤ maxLen ∧ (L.length ≠ 0 → ∃ b off, a = some ⟨b, off, none⟩ ∧ Z b ∧ DRrow Z w es b L off)
  | .ref cs, x => ∃ b off, x = .pointer (some ⟨b, off, none⟩) ∧ Z b ∧ DRcs Z w b cs off
  | .fn f caps, x => ∃ xs : List Value, x = .func (.func f) #[] xs.toArray ∧ DRs Z w caps xs
def DRs (Z : Nat → Prop) (w : World) : List D → List Value → Prop
  | [], xs => xs = []
  | d :: ds, xs => ∃ x xs', xs = x :: xs' ∧ x.oneCell' = true ∧ DR Z w d x ∧ DRs Z w ds xs'
def DRrow (Z : Nat → Prop) (w : World) (es b : Nat) : List D → Nat → Prop
  | [], _ => True
  | d :: L, off => (∃ x, LoadsAs w b off es x ∧ DR Z w d x) ∧ DRrow Z w es b L (off + es)
def DRcs (Z : Nat → Prop) (w : World) (b : Nat) : List D → Nat → Prop
  | [], _ => True
  | d :: L, off => (∃ x, w.cell? ⟨b, off, none⟩ = some x ∧ x.oneCell' = true ∧ DR Z w d x) ∧ DRcs Z w b L (off + 1)
end

/-- w' holds in the blocks of Z what w held, and Z' has no fewer of them. -/
structure Keeps (Z Z' : Nat → Prop) (w w' : World) : Prop where
  sub : ∀ b, Z b → Z' b
  cell : ∀ b o, Z b → w'.cell? ⟨b, o, none⟩ = w.cell? ⟨b, o, none⟩
theorem Keeps.refl (Z : Nat → Prop) (w : World) : Keeps Z Z w w := ⟨fun _ h => h, fun _ _ _ => rfl⟩
theorem Keeps.trans {Z Z' Z'' : Nat → Prop} {w w' w'' : World} (h : Keeps Z Z' w w') (k : Keeps Z' Z'' w' w'') : Keeps Z Z'' w w'' :=
  ⟨fun b hb => k.sub b (h.sub b hb), fun b o hb => (k.cell b o (h.sub b hb)).trans (h.cell b o hb)⟩

section
variable {Z Z' : Nat → Prop} {w w' : World}
 mutual
theorem DR.keep (k : Keeps Z Z' w w') : ∀ (d : D) (x : Value), DR Z w d x → DR Z' w' d x
  | .c v, x, h => h
  | .agg cs, x, h => by
    unfold DR at h ⊢
    obtain ⟨xs, hx, h⟩ := h
    exact ⟨xs, hx, DRs.keep k cs xs h⟩
  | .lst es L, x, h => by
    unfold DR at h ⊢
    obtain ⟨a, cap, hx, h1, h2, h3⟩ := h
    refine ⟨a, cap, hx, h1, h2, fun hn => ?_⟩
    obtain ⟨b, off, ha, hb, hr⟩ := h3 hn
    exact ⟨b, off, ha, k.sub b hb, DRrow.keep k hb L off hr⟩
  | .ref cs, x, h => by
    unfold DR at h ⊢
    obtain ⟨b, off, ha, hb, hr⟩ := h
    exact ⟨b, off, ha, k.sub b hb, DRcs.keep k hb cs off hr⟩
  | .fn f caps, x, h => by
    unfold DR at h ⊢
    obtain ⟨xs, hx, h⟩ := h
    exact ⟨xs, hx, DRs.keep k caps xs h⟩
theorem DRs.keep (k : Keeps Z Z' w w') : ∀ (ds : List D) (xs : List Value), DRs Z w ds xs → DRs Z' w' ds xs
  | [], xs, h => h
  | d :: ds, xs, h => by
    unfold DRs at h ⊢
    obtain ⟨x, xs', h0, h1, h2, h3⟩ := h
    exact ⟨x, xs', h0, h1, DR.keep k d x h2, DRs.keep k ds xs' h3⟩
theorem DRrow.keep (k : Keeps Z Z' w w') {es b : Nat} (hb : Z b) : ∀ (L : List D) (off : Nat), DRrow Z w es b L off → DRrow Z' w' es b L off
  | [], off, h => trivial
  | d :: L, off, h => by
    unfold DRrow at h ⊢
    obtain ⟨⟨x, ⟨hl, hc⟩, hd⟩, hr⟩ := h
    exact ⟨⟨x, ⟨hl, fun j hj => (k.cell b _ hb).trans (hc j hj)⟩, DR.keep k d x hd⟩, DRrow.keep k hb L _ hr⟩
theorem DRcs.keep (k : Keeps Z Z' w w') {b : Nat} (hb : Z b) : ∀ (L : List D) (off : Nat), DRcs Z w b L off → DRcs Z' w' b L off
  | [], off, h => trivial
  | d :: L, off, h => by
    unfold DRcs at h ⊢
    obtain ⟨⟨x, hc, h1, hd⟩, hr⟩ := h
    exact ⟨⟨x, (k.cell b _ hb).trans hc, h1, DR.keep k d x hd⟩, DRcs.keep k hb L _ hr⟩
end

/-- A row of a block that need not be one of Z's: its cells are as they were. -/
theorem DRrow.keep' (k : Keeps Z Z' w w') {es b : Nat} : ∀ (L : List D) (off : Nat), (∀ o, off ≤ o → o < off + L.length * es → w'.cell? ⟨b, o, none⟩ = w.cell? ⟨b, o, none⟩) → DRrow Z w es b L off → DRrow Z' w' es b L off
  | [], off, _, h => trivial
  | d :: L, off, hc, h => by
    unfold DRrow at h ⊢
    obtain ⟨⟨x, ⟨hl, hcx⟩, hd⟩, hr⟩ := h
    simp only [List.length_cons, Nat.add_mul, Nat.one_mul] at hc
    refine ⟨⟨x, ⟨hl, fun j hj => (hc _ (by omega) (by omega)).trans (hcx j hj)⟩, DR.keep k d x hd⟩, DRrow.keep' k L _ (fun o h1 h2 => hc o (by omega) (by omega)) hr⟩

theorem DRrow.get {es b : Nat} : ∀ (L : List D) (off : Nat), DRrow Z w es b L off → ∀ i, i < L.length → ∃ x, LoadsAs w b (off + i * es) es x ∧ DR Z w (L.getD i default) x
  | [], off, _, i, hi => by simp at hi
  | d :: L, off, h, 0, hi => by
    unfold DRrow at h
    simpa using h.1
  | d :: L, off, h, i + 1, hi => by
    unfold DRrow at h
    have := DRrow.get L _ h.2 i (by simpa using hi)
    rw [show off + es + i * es = off + (i + 1) * es from by rw [Nat.add_mul]; omega] at this
    simpa using this
theorem DRrow.of {es b : Nat} : ∀ (L : List D) (off : Nat), (∀ i, i < L.length → ∃ x, LoadsAs w b (off + i * es) es x ∧ DR Z w (L.getD i default) x) → DRrow Z w es b L off
  | [], off, _ => trivial
  | d :: L, off, h => by
    unfold DRrow
    refine ⟨by simpa using h 0 (by simp), DRrow.of L _ fun i hi => ?_⟩
    have := h (i + 1) (by simpa using hi)
    rw [show off + (i + 1) * es = off + es + i * es from by rw [Nat.add_mul]; omega] at this
    simpa using this
theorem DRcs.get {b : Nat} : ∀ (L : List D) (off : Nat), DRcs Z w b L off → ∀ i, i < L.length → ∃ x, w.cell? ⟨b, off + i, none⟩ = some x ∧ x.oneCell' = true ∧ DR Z w (L.getD i default) x
  | [], off, _, i, hi => by simp at hi
  | d :: L, off, h, 0, hi => by
    unfold DRcs at h
    simpa using h.1
  | d :: L, off, h, i + 1, hi => by
    unfold DRcs at h
    have := DRcs.get L _ h.2 i (by simpa using hi)
    rw [show off + 1 + i = off + (i + 1) from by omega] at this
    simpa using this
theorem DRcs.of {b : Nat} : ∀ (L : List D) (off : Nat), (∀ i, i < L.length → ∃ x, w.cell? ⟨b, off + i, none⟩ = some x ∧ x.oneCell' = true ∧ DR Z w (L.getD i default) x) → DRcs Z w b L off
  | [], off, _ => trivial
  | d :: L, off, h => by
    unfold DRcs
    refine ⟨by simpa using h 0 (by simp), DRcs.of L _ fun i hi => ?_⟩
    have := h (i + 1) (by simpa using hi)
    rw [show off + (i + 1) = off + 1 + i from by omega] at this
    simpa using this
theorem DRs.len : ∀ (ds : List D) (xs : List Value), DRs Z w ds xs → xs.length = ds.length
  | [], xs, h => by unfold DRs at h; subst h; rfl
  | d :: ds, xs, h => by
    unfold DRs at h
    obtain ⟨x, xs', rfl, _, _, h⟩ := h
    simp [DRs.len ds xs' h]
theorem DRs.get : ∀ (ds : List D) (xs : List Value), DRs Z w ds xs → ∀ i, i < ds.length → ∃ x, xs[i]? = some x ∧ x.oneCell' = true ∧ DR Z w (ds.getD i default) x
  | [], xs, _, i, hi => by simp at hi
  | d :: ds, xs, h, 0, hi => by
    unfold DRs at h
    obtain ⟨x, xs', rfl, h1, h2, _⟩ := h
    exact ⟨x, rfl, h1, by simpa using h2⟩
  | d :: ds, xs, h, i + 1, hi => by
    unfold DRs at h
    obtain ⟨x, xs', rfl, _, _, h⟩ := h
    simpa using DRs.get ds xs' h i (by simpa using hi)
theorem DRs.of : ∀ (ds : List D) (xs : List Value), xs.length = ds.length → (∀ i, i < ds.length → ∃ x, xs[i]? = some x ∧ x.oneCell' = true ∧ DR Z w (ds.getD i default) x) → DRs Z w ds xs
  | [], xs, hl, _ => by unfold DRs; exact List.eq_nil_of_length_eq_zero hl
  | d :: ds, [], hl, _ => by simp at hl
  | d :: ds, x :: xs, hl, h => by
    unfold DRs
    obtain ⟨y, hy, h1, h2⟩ := h 0 (by simp)
    simp at hy
    subst hy
    refine ⟨x, xs, rfl, h1, by simpa using h2, DRs.of ds xs (by simpa using hl) fun i hi => ?_⟩
    simpa using h (i + 1) (by simpa using hi)
theorem DR.one {d : D} {x : Value} (h : DR Z w d x) (hd : ∀ cs, d ≠ .agg cs) : x.oneCell' = true ∧ x.cells = #[x] := by
  have key : x.oneCell' = true := by
    cases d with
    | c v => unfold DR at h; rw [h.1]; exact h.2
    | agg cs => exact absurd rfl (hd cs)
    | lst es L => unfold DR at h; obtain ⟨a, cap, rfl, _⟩ := h; rfl
    | ref cs => unfold DR at h; obtain ⟨b, off, rfl, _⟩ := h; rfl
    | fn f caps => unfold DR at h; obtain ⟨xs, rfl, _⟩ := h; rfl
  refine ⟨key, ?_⟩
  cases x <;> simp_all [Value.oneCell', Value.cells]
/-- the cells of a value of so many cells -/
theorem DR.cells {d : D} {x : Value} (h : DR Z w d x) : DRs Z w d.cells x.cells.toList := by
  by_cases hd : ∃ cs, d = .agg cs
  · obtain ⟨cs, rfl⟩ := hd
    unfold DR at h
    obtain ⟨xs, rfl, h⟩ := h
    simpa [D.cells, Value.cells] using h
  · have hd' : ∀ cs, d ≠ .agg cs := fun cs e => hd ⟨cs, e⟩
    have h1 := h.one hd'
    have : d.cells = [d] := by cases d <;> first | rfl | exact absurd rfl (hd' _)
    rw [this, h1.2]
    unfold DRs
    exact ⟨x, [], rfl, h1.1, h, by unfold DRs; rfl⟩
end
end Go.Eng
namespace Go.Eng
open Go.RowKit
variable [Inhabited Lo]
section
variable {Z Z' : Nat → Prop} {w w' : World} {M M' : Nat → Option Nat}

/-- a mark that lies behind the cells (the model lays one on what was a text) -/
def okF (fr : Nat × Nat) (n : Nat) : Prop := n ≤ fr.1 ∨ fr = (0, 0)
/-- a block of cells, none of them frozen -/
def blkAt (w : World) (b : Nat) (arr : Array Value) (e : TypeId) : Prop := ∃ fr, w.heap[b]? = some (.cells arr e fr) ∧ okF fr arr.size
theorem blkAt.of {w : World} {b : Nat} {arr : Array Value} {e : TypeId} (h : w.heap[b]? = some (.cells arr e (0, 0))) : blkAt w b arr e := ⟨(0, 0), h, .inr rfl⟩
theorem blkAt.tr {w w' : World} {b : Nat} {arr : Array Value} {e : TypeId} (k : w'.heap[b]? = w.heap[b]?) (h : blkAt w b arr e) : blkAt w' b arr e := by
  obtain ⟨fr, h1, h2⟩ := h
  exact ⟨fr, k.trans h1, h2⟩
theorem blkAt.lt {w : World} {b : Nat} {arr : Array Value} {e : TypeId} (h : blkAt w b arr e) : b < w.heap.size := by
  obtain ⟨fr, h1, _⟩ := h
  exact (Array.getElem?_eq_some_iff.1 h1).1
theorem blkAt.uniq {w : World} {b : Nat} {arr arr' : Array Value} {e e' : TypeId} (h : blkAt w b arr e) (h' : blkAt w b arr' e') : arr = arr' ∧ e = e' := by
  obtain ⟨fr, h1, _⟩ := h
  obtain ⟨fr', h2, _⟩ := h'
  rw [h1] at h2
  simp only [Option.some.injEq, Obj.cells.injEq] at h2
  exact ⟨h2.1, h2.2.1⟩
/-- the size of a block of cells that is not frozen -/
def room (w : World) (b n : Nat) : Prop := ∃ arr e, blkAt w b arr e ∧ arr.size = n

 mutual
def AR (Z : Nat → Prop) (M : Nat → Option Nat) (w : World) : AV → Value → Prop
  | .any, _ => True
  | .mp n, v => ∃ b, M n = some b ∧ v = .map (some b)
  | .d x, v => DR Z w x v
  | .ptr n off, v => ∃ b, M n = some b ∧ v = .pointer (some ⟨b, off, none⟩)
  | .eptr n es i j, v => ∃ b, M n = some b ∧ v = .pointer (some ⟨b, i * es + j, none⟩)
  | .sl n es off len, v => ∃ a cap, v = .slice a len cap ∧ len ≤ cap ∧ cap ≤ maxLen ∧ (cap ≠ 0 ∨ off = 0 → (M n = none ∧ a = none ∧ cap = 0) ∨ ∃ b, M n = some b ∧ a = some ⟨b, off * es, none⟩ ∧ room w b ((off + cap) * es))
  | .agg cs, v => ∃ xs : List Value, v = .agg xs.toArray ∧ ARs Z M w cs xs
  | .tup vs, v => ∃ xs : List Value, v = .tuple xs.toArray ∧ ARt Z M w vs xs
  | .fn f caps, v => ∃ xs : List Value, v = .func (.func f) #[] xs.toArray ∧ ARs Z M w caps xs
def ARs (Z : Nat → Prop) (M : Nat → Option Nat) (w : World) : List AV → List Value → Prop
  | [], xs => xs = []
  | d :: ds, xs => ∃ x xs', xs = x :: xs' ∧ x.oneCell' = true ∧ AR Z M w d x ∧ ARs Z M w ds xs'
def ARt (Z : Nat → Prop) (M : Nat → Option Nat) (w : World) : List AV → List Value → Prop
  | [], xs => xs = []
  | d :: ds, xs => ∃ x xs', xs = x :: xs' ∧ AR Z M w d x ∧ ARt Z M w ds xs'
end

 mutual
/-- the same without object n -/
def AV.kill (n : Option Nat) : AV → AV
  | .ptr m o => if n = some m then .any else .ptr m o
  | .eptr m es i j => if n = some m then .any else .eptr m es i j
  | .sl m es o l => if n = some m then .any else .sl m es o l
  | .agg cs => .agg (AV.killL n cs)
  | .tup vs => .tup (AV.killL n vs)
  | .fn f caps => .fn f (AV.killL n caps)
  | .mp m => if n = some m then .any else .mp m
  | .any => .any
  | .d x => .d x
def AV.killL (n : Option Nat) : List AV → List AV
  | [] => []
  | x :: xs => AV.kill n x :: AV.killL n xs
end
 mutual
theorem AV.kill_none : ∀ x : AV, x.kill none = x
  | .ptr m o => by unfold AV.kill; simp
  | .eptr m es i j => by unfold AV.kill; simp
  | .sl m es o l => by unfold AV.kill; simp
  | .agg cs => by unfold AV.kill; rw [AV.killL_none cs]
  | .tup cs => by unfold AV.kill; rw [AV.killL_none cs]
  | .fn f cs => by unfold AV.kill; rw [AV.killL_none cs]
  | .mp m => by unfold AV.kill; simp
  | .any => by unfold AV.kill; rfl
  | .d x => by unfold AV.kill; rfl
theorem AV.killL_none : ∀ xs : List AV, AV.killL none xs = xs
  | [] => by unfold AV.killL; rfl
  | x :: xs => by unfold AV.killL; rw [AV.kill_none x, AV.killL_none xs]
end

/-- from a world to a later one: Z's blocks as they were, the objects (but n) where they were, no smaller -/
structure Stays (Z Z' : Nat → Prop) (M M' : Nat → Option Nat) (w w' : World) (n : Option Nat) : Prop extends Keeps Z Z' w w' where
  at_ : ∀ m, n ≠ some m → ∀ b, M m = some b → M' m = some b
  none_ : ∀ m, n ≠ some m → M m = none → M' m = none
  room : ∀ m b k, n ≠ some m → M m = some b → room w b k → room w' b k

 mutual
theorem AR.kill {n : Option Nat} (k : Stays Z Z' M M' w w' n) : ∀ (d : AV) (x : Value), AR Z M w d x → AR Z' M' w' (d.kill n) x
  | .any, x, h => by unfold AV.kill; unfold AR; trivial
  | .mp m, x, h => by
    unfold AV.kill
    split
    · unfold AR; trivial
    · rename_i hm
      unfold AR at h ⊢
      obtain ⟨b, h1, h2⟩ := h
      exact ⟨b, k.at_ m hm b h1, h2⟩
  | .d y, x, h => by unfold AV.kill; unfold AR at h ⊢; exact DR.keep k.toKeeps y x h
  | .ptr m o, x, h => by
    unfold AV.kill
    split
    · unfold AR; trivial
    · rename_i hm
      unfold AR at h ⊢
      obtain ⟨b, h1, h2⟩ := h
      exact ⟨b, k.at_ m hm b h1, h2⟩
  | .eptr m es i j, x, h => by
    unfold AV.kill
    split
    · unfold AR; trivial
    · rename_i hm
      unfold AR at h ⊢
      obtain ⟨b, h1, h2⟩ := h
      exact ⟨b, k.at_ m hm b h1, h2⟩
  | .sl m es o l, x, h => by
    unfold AV.kill
    split
    · unfold AR; trivial
    · rename_i hm
      unfold AR at h ⊢
      obtain ⟨a, cap, h1, h2, h3, h4⟩ := h
      refine ⟨a, cap, h1, h2, h3, fun hc => ?_⟩
      rcases h4 hc with ⟨h5, h6⟩ | ⟨b, h5, h6, h7⟩
      · exact .inl ⟨k.none_ m hm h5, h6⟩
      · exact .inr ⟨b, k.at_ m hm b h5, h6, k.room m b _ hm h5 h7⟩
  | .agg cs, x, h => by
    unfold AV.kill; unfold AR at h ⊢
    obtain ⟨xs, hx, h⟩ := h
    exact ⟨xs, hx, ARs.kill k cs xs h⟩
  | .tup cs, x, h => by
    unfold AV.kill; unfold AR at h ⊢
    obtain ⟨xs, hx, h⟩ := h
    exact ⟨xs, hx, ARt.kill k cs xs h⟩
  | .fn f cs, x, h => by
    unfold AV.kill; unfold AR at h ⊢
    obtain ⟨xs, hx, h⟩ := h
    exact ⟨xs, hx, ARs.kill k cs xs h⟩
theorem ARs.kill {n : Option Nat} (k : Stays Z Z' M M' w w' n) : ∀ (ds : List AV) (xs : List Value), ARs Z M w ds xs → ARs Z' M' w' (AV.killL n ds) xs
  | [], xs, h => by unfold AV.killL; unfold ARs at h ⊢; exact h
  | d :: ds, xs, h => by
    unfold AV.killL; unfold ARs at h ⊢
    obtain ⟨x, xs', h0, h1, h2, h3⟩ := h
    exact ⟨x, xs', h0, h1, AR.kill k d x h2, ARs.kill k ds xs' h3⟩
theorem ARt.kill {n : Option Nat} (k : Stays Z Z' M M' w w' n) : ∀ (ds : List AV) (xs : List Value), ARt Z M w ds xs → ARt Z' M' w' (AV.killL n ds) xs
  | [], xs, h => by unfold AV.killL; unfold ARt at h ⊢; exact h
  | d :: ds, xs, h => by
    unfold AV.killL; unfold ARt at h ⊢
    obtain ⟨x, xs', h0, h2, h3⟩ := h
    exact ⟨x, xs', h0, AR.kill k d x h2, ARt.kill k ds xs' h3⟩
end
theorem AR.keep (k : Stays Z Z' M M' w w' none) {d : AV} {x : Value} (h : AR Z M w d x) : AR Z' M' w' d x := by
  have := AR.kill k d x h
  rwa [AV.kill_none] at this
theorem ARs.keep (k : Stays Z Z' M M' w w' none) {d : List AV} {x : List Value} (h : ARs Z M w d x) : ARs Z' M' w' d x := by
  have := ARs.kill k d x h
  rwa [AV.killL_none] at this
theorem ARs.len : ∀ (ds : List AV) (xs : List Value), ARs Z M w ds xs → xs.length = ds.length
  | [], xs, h => by unfold ARs at h; subst h; rfl
  | d :: ds, xs, h => by
    unfold ARs at h
    obtain ⟨x, xs', rfl, _, _, h⟩ := h
    simp [ARs.len ds xs' h]
theorem ARs.get : ∀ (ds : List AV) (xs : List Value), ARs Z M w ds xs → ∀ (i : Nat) (d : AV), ds[i]? = some d → ∃ x, xs[i]? = some x ∧ x.oneCell' = true ∧ AR Z M w d x
  | [], xs, _, i, d, hi => by simp at hi
  | d :: ds, xs, h, 0, d', hi => by
    unfold ARs at h
    obtain ⟨x, xs', rfl, h1, h2, _⟩ := h
    simp at hi
    subst hi
    exact ⟨x, rfl, h1, h2⟩
  | d :: ds, xs, h, i + 1, d', hi => by
    unfold ARs at h
    obtain ⟨x, xs', rfl, _, _, h⟩ := h
    simpa using ARs.get ds xs' h i d' (by simpa using hi)
theorem ARs.append : ∀ {ds es : List AV} {xs ys : List Value}, ARs Z M w ds xs → ARs Z M w es ys → ARs Z M w (ds ++ es) (xs ++ ys)
  | [], es, xs, ys, h, k => by unfold ARs at h; subst h; exact k
  | d :: ds, es, xs, ys, h, k => by
    unfold ARs at h
    obtain ⟨x, xs', rfl, h1, h2, h⟩ := h
    simp only [List.cons_append]
    unfold ARs
    exact ⟨x, xs' ++ ys, rfl, h1, h2, ARs.append h k⟩
theorem ARs.take : ∀ {ds : List AV} {xs : List Value} (n : Nat), ARs Z M w ds xs → ARs Z M w (ds.take n) (xs.take n)
  | _, _, 0, _ => by simp only [List.take_zero]; unfold ARs; rfl
  | [], xs, n + 1, h => by unfold ARs at h; subst h; simp only [List.take_nil]; unfold ARs; rfl
  | d :: ds, xs, n + 1, h => by
    unfold ARs at h
    obtain ⟨x, xs', rfl, h1, h2, h⟩ := h
    simp only [List.take_succ_cons]
    unfold ARs
    exact ⟨x, _, rfl, h1, h2, ARs.take n h⟩
theorem ARs.drop : ∀ {ds : List AV} {xs : List Value} (n : Nat), ARs Z M w ds xs → ARs Z M w (ds.drop n) (xs.drop n)
  | _, _, 0, h => h
  | [], xs, n + 1, h => by unfold ARs at h; subst h; simp only [List.drop_nil]; unfold ARs; rfl
  | d :: ds, xs, n + 1, h => by
    unfold ARs at h
    obtain ⟨x, xs', rfl, h1, h2, h⟩ := h
    exact ARs.drop n h
theorem ARs.of_D : ∀ {ds : List D} {xs : List Value}, DRs Z w ds xs → ARs Z M w (ds.map AV.d) xs
  | [], xs, h => by unfold DRs at h; simp only [List.map_nil]; unfold ARs; exact h
  | d :: ds, xs, h => by
    unfold DRs at h
    obtain ⟨x, xs', rfl, h1, h2, h⟩ := h
    simp only [List.map_cons]
    unfold ARs
    exact ⟨x, xs', rfl, h1, by unfold AR; exact h2, ARs.of_D h⟩
end
end Go.Eng

/- Rows of whole numbers that a call itself makes, as lists: 'OwI'; the laws on append, make and stores in those words. No condition but Go's own bound on a new array. -/
import Derived.Test.YtochcepfljafoaaShape
import Derived.Maps.AppendAt
import Derived.Laws.AppendOwnNone
import Derived.Deep.Draws
namespace Go.Shp
open Go.RowKit

/-- A goal before which the walk stops: 'go_wp2_with (at_builtin; refine halt_ ?_)', then 'refine go_on ?_'. -/
def Halt (p : Prop) : Prop := p
theorem halt_ {p : Prop} (h : Halt p) : p := h
theorem go_on {p : Prop} (h : p) : Halt p := h

/-- The row of the program's table of an element type, as the laws on append ask it. -/
structure ElemOk (P : Program) (t e : TypeId) (z : Value) (size bytes : Nat) : Prop where
  ht : P.underlying t = some (.slice e)
  hi : ∃ i, P.info? e = some i ∧ i.zero = some z ∧ i.size = size ∧ i.bytes = bytes
  hz : z.cells.size = size
  pos : 0 < size

/-- A slice value whose elements are the call's own: whole numbers of a kind, as a list. -/
structure OwI (w : World) (base : Nat) (e : TypeId) (k : IntKind) (zs : List Int) (v : Value) : Prop where
  own : w.ownsRow base e 1 v zs.length (zs.map (Value.int k))
  ok : ∀ z ∈ zs, (Lit.int k z).wf = true

/-- What an append onto v, which gives v', has done to the world. -/
structure Grow (w w' : World) (v v' : Value) : Prop where
  grown : w.grownBy w' v.ownBlock
  at_ : v'.ownBlock = v.ownBlock ∨ ∃ g, v'.ownBlock = some g ∧ w.heap.size ≤ g

/-- one element that has just been laid in a block of its own -/
theorem SlI.one {w : World} {k : IntKind} {bytes : Nat} {H : Nat} {z : Int} (hc : w.cell? ⟨H, 0, none⟩ = some (.int k z)) (hz : (Lit.int k z).wf = true) (hb : bytes ≤ 8) : SlI w k bytes [z] (some ⟨H, 0, none⟩) 1 := by
  refine ⟨Nat.le_refl _, by decide, by simp; omega, fun y hy => ?_, fun _ => ⟨H, 0, rfl, World.block_lt_of_cell? w _ hc, fun i hi => ?_⟩⟩
  · rw [List.mem_singleton] at hy; subst hy; exact hz
  · obtain rfl : i = 0 := by simp at hi; omega
    simpa using hc

section
variable {w w' : World} {base : Nat} {e : TypeId} {k : IntKind} {zs : List Int} {v v' : Value}

theorem OwI.nil (w : World) (base : Nat) (e : TypeId) (k : IntKind) : OwI w base e k [] (.slice none 0 0) := ⟨World.ownsRow_nil _ _ _ _, by simp⟩
theorem OwI.alloc (h : OwI w base e k zs v) (o : Obj) : OwI (w.alloc o) base e k zs v := ⟨h.own.alloc o, h.ok⟩
theorem OwI.drew (h : OwI w base e k zs v) : OwI w.drew base e k zs v := ⟨h.own, h.ok⟩
theorem OwI.more {base' : Nat} (h : OwI w base e k zs v) (hb : base' ≤ base) : OwI w base' e k zs v := by
  refine ⟨⟨h.own.1, ?_⟩, h.ok⟩
  rcases h.own.2 with h1 | ⟨g, cap, cur, h1, h2, h3⟩
  · exact .inl h1
  · exact .inr ⟨g, cap, cur, h1, by omega, h3⟩
theorem OwI.lt (h : OwI w base e k zs v) : ∀ g, v.ownBlock = some g → base ≤ g ∧ g < w.heap.size := h.own.lt
theorem OwI.keep {B : Nat} (h : OwI w base e k zs v) (hb : Below B w w') (hB : w.heap.size ≤ B) : OwI w' base e k zs v := by
  refine ⟨⟨h.own.1, ?_⟩, h.ok⟩
  rcases h.own.2 with h1 | ⟨g, cap, cur, h1, h2, h3, h4⟩
  · exact .inl h1
  · have hg : g < w.heap.size := (Array.getElem?_eq_some_iff.1 h3).1
    exact .inr ⟨g, cap, cur, h1, h2, (hb.block g (by omega)).trans h3, h4⟩
/-- the shape of the value -/
theorem OwI.form (h : OwI w base e k zs v) : ∃ a cap, v = .slice a zs.length cap ∧ zs.length ≤ cap ∧ cap ≤ maxLen := by
  rcases h.own.2 with ⟨h1, h2⟩ | ⟨g, cap, cur, h1, h2, h3, h4, h5, _⟩
  · exact ⟨none, 0, by rw [h1, h2], by omega, Nat.zero_le _⟩
  · exact ⟨_, cap, h1, h4, h5⟩
/-- the same row, read -/
theorem OwI.sl {a : Option Addr} {cap bytes : Nat} (h : OwI w base e k zs (.slice a zs.length cap)) (hr : zs.length * bytes ≤ 140737488355328) : SlI w k bytes zs a cap := by
  rcases h.own.2 with ⟨h1, h2⟩ | ⟨g, cap', cur, h1, h2, h3, h4, h5, _⟩
  · obtain rfl : zs = [] := List.eq_nil_of_length_eq_zero h2
    simp at h1
    obtain ⟨rfl, rfl⟩ := h1
    exact SlI.nil _ _ _
  · simp only [Value.slice.injEq, true_and] at h1
    obtain ⟨rfl, rfl⟩ := h1
    have hg : g < w.heap.size := (Array.getElem?_eq_some_iff.1 h3).1
    refine ⟨h4, h5, hr, h.ok, fun hn => ⟨g, 0, rfl, hg, fun i hi => ?_⟩⟩
    have := h.own.cellAt i (by omega)
    simpa [List.getD, hi] using this
/-- where an owned row that is not empty lies, and that it may be written -/
theorem OwI.at_ {a : Option Addr} {cap : Nat} (h : OwI w base e k zs (.slice a zs.length cap)) (hn : zs.length ≠ 0) :
    ∃ g, a = some ⟨g, 0, none⟩ ∧ base ≤ g ∧ g < w.heap.size ∧ (∀ i, w.frozen? ⟨g, i, none⟩ = false) ∧ ∀ i, i < zs.length → w.cell? ⟨g, i, none⟩ = some (.int k (zs.getD i 0)) := by
  rcases h.own.2 with ⟨h1, h2⟩ | ⟨g, cap', cur, h1, h2, h3, h4, h5, _⟩
  · exact absurd h2 hn
  · simp only [Value.slice.injEq, true_and] at h1
    obtain ⟨rfl, rfl⟩ := h1
    have hg : g < w.heap.size := (Array.getElem?_eq_some_iff.1 h3).1
    refine ⟨g, rfl, h2, hg, fun i => h.own.frozenAt i, fun i hi => ?_⟩
    have := h.own.cellAt i (by omega)
    simpa [List.getD, hi] using this
/-- the same three, the length said otherwise -/
theorem OwI.slN {a : Option Addr} {cap bytes n : Nat} (h : OwI w base e k zs (.slice a n cap)) (hn : zs.length = n) (hr : n * bytes ≤ 140737488355328) : SlI w k bytes zs a cap := by subst hn; exact h.sl hr
theorem OwI.atN {a : Option Addr} {cap n : Nat} (h : OwI w base e k zs (.slice a n cap)) (hn : zs.length = n) (h0 : n ≠ 0) :
    ∃ g, a = some ⟨g, 0, none⟩ ∧ base ≤ g ∧ g < w.heap.size ∧ (∀ i, w.frozen? ⟨g, i, none⟩ = false) ∧ ∀ i, i < n → w.cell? ⟨g, i, none⟩ = some (.int k (zs.getD i 0)) := by subst hn; exact h.at_ h0
/-- a store into an owned row -/
theorem OwI.set {g cap : Nat} (h : OwI w base e k zs (.slice (some ⟨g, 0, none⟩) zs.length cap)) (i : Nat) {z : Int} (hz : (Lit.int k z).wf = true) :
    OwI (w.setCell ⟨g, i, none⟩ (.int k z)) base e k (zs.set i z) (.slice (some ⟨g, 0, none⟩) zs.length cap) := by
  refine ⟨?_, fun y hy => ?_⟩
  · have := (h.own.stored i (.int k z)).1
    rw [← List.map_set] at this
    simpa using this
  · rcases List.mem_or_eq_of_mem_set hy with h1 | rfl
    · exact h.ok y h1
    · exact hz

theorem OwI.low (h : OwI w base e k zs v) {p : Addr} (hp : p.block < base) (u : Value) : OwI (w.setCell p u) base e k zs v := ⟨ownsRow_setCell_below h.own hp u, h.ok⟩
theorem OwI.far (h : OwI w base e k zs v) {p : Addr} (hp : ∀ g, v.ownBlock = some g → p.block ≠ g) (u : Value) : OwI (w.setCell p u) base e k zs v := by
  refine ⟨⟨h.own.1, ?_⟩, h.ok⟩
  rcases h.own.2 with h1 | ⟨g, cap, cur, rfl, h2, h3, h4⟩
  · exact .inl h1
  · refine .inr ⟨g, cap, cur, rfl, h2, ?_, h4⟩
    rw [Below.heap_setCell _ _ _ _ (fun e => hp g rfl e.symm)]; exact h3
theorem OwI.setN {g cap n : Nat} (h : OwI w base e k zs (.slice (some ⟨g, 0, none⟩) n cap)) (hn : zs.length = n) (i : Nat) {z : Int} (hz : (Lit.int k z).wf = true) :
    OwI (w.setCell ⟨g, i, none⟩ (.int k z)) base e k (zs.set i z) (.slice (some ⟨g, 0, none⟩) n cap) ∧ w.grownBy (w.setCell ⟨g, i, none⟩ (.int k z)) (some g) := by
  subst hn; exact ⟨h.set i hz, (h.own.stored i (.int k z)).2⟩
theorem Grow.below (g : Grow w w' v v') (hl : ∀ x, v.ownBlock = some x → base ≤ x) (hb : base ≤ w.heap.size) : Below base w w' := (Below.refl base w).grown g.grown hb hl
theorem Grow.lt (g : Grow w w' v v') (hl : ∀ x, v.ownBlock = some x → base ≤ x) (hb : base ≤ w.heap.size) : ∀ x, v'.ownBlock = some x → base ≤ x := by
  intro x hx
  rcases g.at_ with h | ⟨y, h, hy⟩
  · exact hl x (h ▸ hx)
  · rw [h] at hx; cases hx; omega

/-- what the walk wants of the world behind a contract: old cells and old marks, as two rules -/
theorem bcell {B : Nat} {W w1 : World} (hb : Below B W w1) : (∀ b o, b < B → w1.cell? ⟨b, o, none⟩ = W.cell? ⟨b, o, none⟩) ∧ (∀ b o, b < B → w1.frozen? ⟨b, o, none⟩ = W.frozen? ⟨b, o, none⟩) :=
  ⟨fun b o h => hb.cell (p := ⟨b, o, none⟩) h, fun b o h => hb.frozen (p := ⟨b, o, none⟩) h⟩

/-- two rows lie apart -/
def Apart (v u : Value) : Prop := ∀ g, v.ownBlock = some g → u.ownBlock ≠ some g
theorem Apart.symm {u : Value} (h : Apart v u) : Apart u v := fun g h1 h2 => h g h2 h1
theorem Apart.nilL (u : Value) : Apart (.slice none 0 0) u := fun g h => by simp [Value.ownBlock] at h
theorem Apart.grow {u : Value} (h : Apart v u) (g : Grow w w' v v') (hu : ∀ x, u.ownBlock = some x → x < w.heap.size) : Apart v' u := by
  intro x hx hux
  rcases g.at_ with h1 | ⟨y, h1, hy⟩
  · exact h x (h1 ▸ hx) hux
  · rw [h1] at hx; cases hx
    have := hu _ hux
    omega
theorem OwI.other {base' : Nat} {e' : TypeId} {k' : IntKind} {ys : List Int} {u : Value} (h : OwI w base' e' k' ys u) (g : Grow w w' v v') (hap : Apart v u) : OwI w' base' e' k' ys u := by
  refine ⟨h.own.kept g.grown ?_, h.ok⟩
  cases hu : u.ownBlock with
  | none => exact .inl rfl
  | some x => exact .inr fun he => hap x he.symm hu
end

section
variable {P : Program} {w : World} {ops : Array Oper} {rest : List Oper} {o : Oper} {a : Act} {Q : Exit → Act → World → Prop} {t e : TypeId} {k : IntKind} {z0 : Value} {bytes : Nat}

/-- 'out = append(out, x)': x has just been laid in a block of its own. -/
theorem wp_push_int {K : Act → World → Prop} (E : ElemOk P t e z0 1 bytes) (s x : Operand) (ho : o.op = .call { callee := .builtin .append, args := #[s, x], argTypes := #[t, t] })
    (base : Nat) {zs : List Int} {v : Value} {z : Int} (hs : a.eval s = v) {H : Nat} (hx : a.eval x = .slice (some ⟨H, 0, none⟩) 1 1) (hH : w.heap.size = H) (hown : OwI w base e k zs v) (hz : (Lit.int k z).wf = true)
    {N : Nat} (hN : zs.length + 1 = N) (hlen : N * bytes ≤ 140737488355328) (h63 : N ≤ 9223372036854775807) (hbase : base ≤ w.heap.size)
    (h : ∀ (b' : Option Addr) (c' : Nat) (w' : World), OwI w' base e k (zs ++ [z]) (.slice b' N c') → Grow w w' v (.slice b' N c') → Below base w w' → K (a.put o.dst (.slice b' N c')) w') : o.wp P a (w.alloc (.cells #[.int k z] e)) K Q := by
  subst hH hN
  obtain ⟨i, hi, hz1, hz2, hz3⟩ := E.hi
  obtain ⟨v', w', hr, hown', hg, _, hat⟩ := run_append_own_at (P := P) (w.alloc (.cells #[.int k z] e)) base t o.type e i z0 1 bytes E.ht hi hz1 hz2 hz3 E.hz E.pos v zs.length _ (hown.own.alloc _) ⟨w.heap.size, 0, none⟩ 1 1 [.int k z] rfl
    (cell_one_new _ _ _) (by intro u hu; simp at hu; subst hu; rfl) (by unfold maxLen; omega) hlen (by simp; omega)
  have hO : OwI w' base e k (zs ++ [z]) v' := by
    refine ⟨by simpa using hown', ?_⟩
    intro y hy
    rcases List.mem_append.1 hy with h1 | h1
    · exact hown.ok y h1
    · simp at h1; subst h1; exact hz
  obtain ⟨b', c', rfl, _, _⟩ := hO.form
  simp only [List.length_append, List.length_singleton] at hO hr hat
  unfold Oper.wp execOp
  simp only [ho, resolve, invoke, builtin, Sem.run_bind, Sem.run_pure, Result.andThen_ok, List.map_toArray, List.map_cons, List.map_nil, hs, hx, hr]
  have G : Grow w w' v (.slice b' (zs.length + 1) c') := by
    refine ⟨⟨hg.os, hg.tape, hg.output, Nat.le_trans (by simp) hg.size, fun j hj hne => ?_⟩, ?_⟩
    · exact (hg.block j (by simp; omega) hne).trans (Below.heap_alloc _ _ _ hj)
    · rcases hat with h1 | h1
      · exact .inl h1
      · exact .inr ⟨_, h1, by simp⟩
  exact h b' c' w' hO G (G.below (fun x hx => (hown.lt x hx).1) hbase)
theorem push_int (E : ElemOk P t e z0 1 bytes) (hgd : o.guard = none) (s x : Operand) (ho : o.op = .call { callee := .builtin .append, args := #[s, x], argTypes := #[t, t] })
    (base : Nat) {zs : List Int} {v : Value} {z : Int} (hs : a.eval s = v) {H : Nat} (hx : a.eval x = .slice (some ⟨H, 0, none⟩) 1 1) (hH : w.heap.size = H) (hown : OwI w base e k zs v) (hz : (Lit.int k z).wf = true)
    {N : Nat} (hN : zs.length + 1 = N) (hlen : N * bytes ≤ 140737488355328) (h63 : N ≤ 9223372036854775807) (hbase : base ≤ w.heap.size)
    (h : ∀ (b' : Option Addr) (c' : Nat) (w' : World), OwI w' base e k (zs ++ [z]) (.slice b' N c') → Grow w w' v (.slice b' N c') → Below base w w' → wpList P ops Q rest (a.put o.dst (.slice b' N c')) w') : wpList P ops Q (o :: rest) a (w.alloc (.cells #[.int k z] e)) :=
  wpList_plain hgd fun _ hK => wp_push_int E s x ho base hs hx hH hown hz hN hlen h63 hbase fun b' c' w' h1 h2 h3 => hK _ _ (h b' c' w' h1 h2 h3)
theorem step_push_int {K : Act → World → Prop} {X : Prop} (E : ElemOk P t e z0 1 bytes) (hgd : o.guard = none) (s x : Operand) (ho : o.op = .call { callee := .builtin .append, args := #[s, x], argTypes := #[t, t] })
    (base : Nat) {zs : List Int} {v : Value} {z : Int} (hs : a.eval s = v) {H : Nat} (hx : a.eval x = .slice (some ⟨H, 0, none⟩) 1 1) (hH : w.heap.size = H) (hown : OwI w base e k zs v) (hz : (Lit.int k z).wf = true)
    {N : Nat} (hN : zs.length + 1 = N) (hlen : N * bytes ≤ 140737488355328) (h63 : N ≤ 9223372036854775807) (hbase : base ≤ w.heap.size)
    (h : ∀ (b' : Option Addr) (c' : Nat) (w' : World), OwI w' base e k (zs ++ [z]) (.slice b' N c') → Grow w w' v (.slice b' N c') → Below base w w' → K (a.put o.dst (.slice b' N c')) w') : if Region.wanted o (yielded ops a.tmps) = true then Oper.wp P o a (w.alloc (.cells #[.int k z] e)) K Q else X := by
  have hw : Region.wanted o (yielded ops a.tmps) = true := by simp [Region.wanted, hgd]
  rw [if_pos hw]
  exact wp_push_int E s x ho base hs hx hH hown hz hN hlen h63 hbase h

/-- 'out = append(out, xs...)': xs may be nil or empty. -/
theorem wp_append_sl {K : Act → World → Prop} (E : ElemOk P t e z0 1 bytes) (s x : Operand) (ho : o.op = .call { callee := .builtin .append, args := #[s, x], argTypes := #[t, t] })
    (base : Nat) {zs ms : List Int} {v : Value} {A : Option Addr} {m c bytes' : Nat} (hs : a.eval s = v) (hx : a.eval x = .slice A m c) (hm : m = ms.length) (hown : OwI w base e k zs v) (hms : SlI w k bytes' ms A c)
    {N : Nat} (hN : zs.length + ms.length = N) (hlen : N * bytes ≤ 140737488355328) (h63 : N ≤ 9223372036854775807) (hbase : base ≤ w.heap.size)
    (h : ∀ (b' : Option Addr) (c' : Nat) (w' : World), OwI w' base e k (zs ++ ms) (.slice b' N c') → Grow w w' v (.slice b' N c') → Below base w w' → K (a.put o.dst (.slice b' N c')) w') : o.wp P a w K Q := by
  subst hm hN
  obtain ⟨i, hi, hz1, hz2, hz3⟩ := E.hi
  by_cases hn : ms.length = 0
  · obtain rfl : ms = [] := List.eq_nil_of_length_eq_zero hn
    have hv : (Builtin.append_ #[t, t] o.type #[v, .slice A 0 c]).run P w = .ok v w := by
      rcases hown.own.2 with ⟨rfl, _⟩ | ⟨g, cap, cur, rfl, _, _, hnc, _⟩
      · cases A <;> simp [Builtin.append_, run_underlying E.ht, sizeOf, typeInfo, hi, Builtin.lenOf, Builtin.firstCells, loadCells, loadCellsFrom]
      · cases A <;> simp [Builtin.append_, run_underlying E.ht, sizeOf, typeInfo, hi, Builtin.lenOf, Builtin.firstCells, loadCells, loadCellsFrom, hnc, storeCells]
    unfold Oper.wp execOp
    simp only [List.length_nil] at hx
    simp only [ho, resolve, invoke, builtin, Sem.run_bind, Sem.run_pure, Result.andThen_ok, List.map_toArray, List.map_cons, List.map_nil, hs, hx, hv]
    obtain ⟨b', c', rfl, _, _⟩ := hown.form
    exact h b' c' w (by simpa using hown) ⟨World.grownBy.refl _ _, .inl rfl⟩ (Below.refl _ _)
  · obtain ⟨b, off, rfl, hb, hc⟩ := hms.cells hn
    have hnews : ∀ j u, (ms.map (Value.int k))[j]? = some u → w.cell? ((⟨b, off, none⟩ : Addr).add j) = some u := by
      intro j u hu
      have hj : j < ms.length := by have := (List.getElem?_eq_some_iff.1 hu).1; simpa using this
      have := hc j hj
      have hu' : u = .int k (ms.getD j 0) := by
        rw [List.getElem?_map] at hu
        simp only [List.getElem?_eq_getElem hj, Option.map_some, Option.some.injEq] at hu
        rw [← hu]; simp [List.getD, hj]
      rw [hu']
      by_cases hj0 : j = 0
      · subst hj0; simpa [Addr.add] using this
      · simpa [Addr.add, hj0] using this
    obtain ⟨v', w', hr, hown', hg, _, hat⟩ := run_append_own_at (P := P) w base t o.type e i z0 1 bytes E.ht hi hz1 hz2 hz3 E.hz E.pos v zs.length _ hown.own ⟨b, off, none⟩ ms.length c (ms.map (Value.int k)) (by simp)
      hnews (ints_oneCell _ _) (by unfold maxLen; omega) hlen hbase
    have hO : OwI w' base e k (zs ++ ms) v' := by
      refine ⟨by simpa using hown', ?_⟩
      intro y hy
      rcases List.mem_append.1 hy with h1 | h1
      · exact hown.ok y h1
      · exact hms.ok y h1
    obtain ⟨b', c', rfl, _, _⟩ := hO.form
    simp only [List.length_append] at hO hr hat
    unfold Oper.wp execOp
    simp only [ho, resolve, invoke, builtin, Sem.run_bind, Sem.run_pure, Result.andThen_ok, List.map_toArray, List.map_cons, List.map_nil, hs, hx, hr]
    have G : Grow w w' v (.slice b' (zs.length + ms.length) c') := by
      refine ⟨hg, ?_⟩
      rcases hat with h1 | h1
      · exact .inl h1
      · exact .inr ⟨_, h1, Nat.le_refl _⟩
    exact h b' c' w' hO G (G.below (fun x hx => (hown.lt x hx).1) hbase)
theorem append_sl (E : ElemOk P t e z0 1 bytes) (hgd : o.guard = none) (s x : Operand) (ho : o.op = .call { callee := .builtin .append, args := #[s, x], argTypes := #[t, t] })
    (base : Nat) {zs ms : List Int} {v : Value} {A : Option Addr} {m c bytes' : Nat} (hs : a.eval s = v) (hx : a.eval x = .slice A m c) (hm : m = ms.length) (hown : OwI w base e k zs v) (hms : SlI w k bytes' ms A c)
    {N : Nat} (hN : zs.length + ms.length = N) (hlen : N * bytes ≤ 140737488355328) (h63 : N ≤ 9223372036854775807) (hbase : base ≤ w.heap.size)
    (h : ∀ (b' : Option Addr) (c' : Nat) (w' : World), OwI w' base e k (zs ++ ms) (.slice b' N c') → Grow w w' v (.slice b' N c') → Below base w w' → wpList P ops Q rest (a.put o.dst (.slice b' N c')) w') : wpList P ops Q (o :: rest) a w :=
  wpList_plain hgd fun _ hK => wp_append_sl E s x ho base hs hx hm hown hms hN hlen h63 hbase fun b' c' w' h1 h2 h3 => hK _ _ (h b' c' w' h1 h2 h3)
theorem step_append_sl {K : Act → World → Prop} {X : Prop} (E : ElemOk P t e z0 1 bytes) (hgd : o.guard = none) (s x : Operand) (ho : o.op = .call { callee := .builtin .append, args := #[s, x], argTypes := #[t, t] })
    (base : Nat) {zs ms : List Int} {v : Value} {A : Option Addr} {m c bytes' : Nat} (hs : a.eval s = v) (hx : a.eval x = .slice A m c) (hm : m = ms.length) (hown : OwI w base e k zs v) (hms : SlI w k bytes' ms A c)
    {N : Nat} (hN : zs.length + ms.length = N) (hlen : N * bytes ≤ 140737488355328) (h63 : N ≤ 9223372036854775807) (hbase : base ≤ w.heap.size)
    (h : ∀ (b' : Option Addr) (c' : Nat) (w' : World), OwI w' base e k (zs ++ ms) (.slice b' N c') → Grow w w' v (.slice b' N c') → Below base w w' → K (a.put o.dst (.slice b' N c')) w') : if Region.wanted o (yielded ops a.tmps) = true then Oper.wp P o a w K Q else X := by
  have hw : Region.wanted o (yielded ops a.tmps) = true := by simp [Region.wanted, hgd]
  rw [if_pos hw]
  exact wp_append_sl E s x ho base hs hx hm hown hms hN hlen h63 hbase h
end

/-- a new row, written out: an empty literal, a literal, what make gives -/
theorem OwI.lit (w : World) (base : Nat) (e : TypeId) (k : IntKind) (zs : List Int) {H : Nat} (hH : w.heap.size = H) (hb : base ≤ w.heap.size) (hm : zs.length ≤ maxLen) (hok : ∀ z ∈ zs, (Lit.int k z).wf = true) {cs : Array Value} (hcs : cs.toList = zs.map (Value.int k)) {n : Nat} (hn : n = zs.length) :
    OwI (w.alloc (.cells cs e)) base e k zs (.slice (some ⟨H, 0, none⟩) n n) := by
  subst hH hn
  have hs : cs.size = zs.length := by rw [← Array.length_toList, hcs, List.length_map]
  have := World.ownsRow_lit (base := base) (e := e) (size := 1) w cs zs.length hb hm (by omega)
  rw [hcs] at this
  exact ⟨this, hok⟩
theorem madeCells_int (k : IntKind) (n : Nat) : (madeCells #[Value.int k 0] n).toList = (List.replicate n (0 : Int)).map (Value.int k) := by
  rw [toList_madeCells_one, List.map_replicate]
theorem ok_replicate (k : IntKind) (n : Nat) : ∀ z ∈ List.replicate n (0 : Int), (Lit.int k z).wf = true := by
  intro z hz
  rw [List.mem_replicate] at hz
  obtain ⟨_, rfl⟩ := hz
  cases k <;> decide
/-- a block that is known whole, none of its cells frozen -/
def Blk (w : World) (g : Nat) (t : TypeId) (cs : Array Value) : Prop := w.heap[g]? = some (.cells cs t (0, 0))
section
variable {w w' : World} {g : Nat} {t : TypeId} {cs : Array Value}
theorem Blk.lt (h : Blk w g t cs) : g < w.heap.size := (Array.getElem?_eq_some_iff.1 h).1
theorem Blk.cell (h : Blk w g t cs) (i : Nat) : w.cell? ⟨g, i, none⟩ = cs[i]? := cell_of_row w g i cs t (0, 0) h
theorem Blk.at_ (h : Blk w g t cs) (i : Nat) {v : Value} (hv : cs[i]? = some v) : w.cell? ⟨g, i, none⟩ = some v := (h.cell i).trans hv
theorem Blk.free (h : Blk w g t cs) (i : Nat) : w.frozen? ⟨g, i, none⟩ = false := frozen_of_row w g i cs t h
theorem Blk.new (w : World) (t : TypeId) (cs : Array Value) {H : Nat} (hH : w.heap.size = H) : Blk (w.alloc (.cells cs t)) H t cs := by subst hH; exact heap_alloc_new w _
theorem Blk.drew (h : Blk w g t cs) : Blk w.drew g t cs := h
theorem Blk.drewN (h : Blk w g t cs) (n : Nat) : Blk (w.drewN n) g t cs := h
theorem Blk.alloc (h : Blk w g t cs) (o : Obj) : Blk (w.alloc o) g t cs := (Below.heap_alloc w o g h.lt).trans h
theorem Blk.far (h : Blk w g t cs) {p : Addr} (hp : g ≠ p.block) (u : Value) : Blk (w.setCell p u) g t cs := (Below.heap_setCell w p u g hp).trans h
theorem Blk.set (h : Blk w g t cs) (i : Nat) (u : Value) : Blk (w.setCell ⟨g, i, none⟩ u) g t (cs.setIfInBounds i u) := heap_setCell_same w g i cs t u h
theorem Blk.below {B : Nat} (h : Blk w g t cs) (hb : Below B w w') (hg : g < B) : Blk w' g t cs := (hb.block g hg).trans h
theorem Blk.grown {row : Option Nat} (h : Blk w g t cs) (hb : w.grownBy w' row) (hg : some g ≠ row) : Blk w' g t cs := (hb.block g h.lt hg).trans h
theorem Blk.row {x : Nat} (h : Blk w g t cs) (hb : w.grownBy w' (some x)) (hg : g ≠ x) : Blk w' g t cs := h.grown hb (by simpa using hg)
end
end Go.Shp

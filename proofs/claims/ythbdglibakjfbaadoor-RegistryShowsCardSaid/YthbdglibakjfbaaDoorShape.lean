/- What a value that came in reads as, said without the form's data: 'Sees'; a slice of whole numbers as a list: 'SlI'. It is derived from the form's own reading ('DataW.trod') and its reach. No condition. -/
import Derived.WalkKit
import Derived.ProofKit
import Derived.OpenShut
import Derived.SizedLaws
import Derived.Below
namespace Go.Shp
open Go.RowKit

/-- What the cells of a value of type t say in a world, to a depth. -/
def Sees (P : Program) (w : World) : Nat → TypeId → List Value → Prop
  | 0, _, _ => True
  | n + 1, t, cs => match P.underlying t with
    | some .bool => ∃ b, cs = [.bool b]
    | some (.int k) => ∃ x, cs = [.int k x] ∧ (Lit.int k x).wf = true
    | some .string => ∃ s, cs = [.string s] ∧ s.size ≤ reachBytes
    | some (.slice e) => ∃ a len cap, cs = [.slice a len cap] ∧ len ≤ cap ∧ cap ≤ maxLen ∧ cap * P.bytesOf e ≤ reachBytes ∧ (a = none → len = 0 ∧ cap = 0) ∧
        ∀ ad, a = some ad → ∀ i, i < len → ∃ es : List Value, es.length = P.cellsOf e ∧ (∀ j, j < P.cellsOf e → w.cell? ((ad.add (i * P.cellsOf e)).add j) = es[j]?) ∧ Sees P w n e es
    | some (.struct fs) => cs.length = P.cellsOf t ∧ ∀ (i : Nat) (f : Field), fs[i]? = some f → Sees P w n f.type ((cs.drop f.offset).take (P.cellsOf f.type))
    | some (.array m e) => cs.length = P.cellsOf t ∧ ∀ i : Nat, i < m → Sees P w n e ((cs.drop (i * P.cellsOf e)).take (P.cellsOf e))
    | _ => True

section
variable {H : Type} {enc : TypeId × Value → H} {P : Program} {w : World}

theorem weights_of_all {e : TypeId} : ∀ {l : List (DataW H)} {i : Nat} {d : DataW H}, l[i]? = some d → ∀ n ∈ d.weights P e, n ∈ DataW.weightsAll P e l
  | d0 :: l, 0, d, h, n, hn => by
    simp only [List.getElem?_cons_zero, Option.some.injEq] at h
    subst h
    simp only [DataW.weightsAll, List.mem_append]
    exact .inl hn
  | d0 :: l, i + 1, d, h, n, hn => by
    simp only [List.getElem?_cons_succ] at h
    simp only [DataW.weightsAll, List.mem_append]
    exact .inr (weights_of_all h n hn)
  | [], _, _, h, _, _ => by simp at h

theorem sees_of_trod : ∀ (D fuel : Nat) (t : TypeId) (cs : List Value) (x : DataW H × List MemPlace), DataW.trod enc P w 0 (fun _ => true) true fuel t cs = some x →
    (∀ n ∈ x.1.weights P t, n ≤ reachBytes) → Sees P w D t cs := by
  intro D
  induction D with
  | zero => intro _ _ _ _ _ _; trivial
  | succ D ih =>
    intro fuel t cs x h hw
    unfold Sees
    split
    · rename_i ht
      obtain ⟨b, rfl, _⟩ := DataW.trod_bool ht h
      exact ⟨b, rfl⟩
    · rename_i k ht
      obtain ⟨n, rfl, _, hn⟩ := DataW.trod_int ht h
      exact ⟨n, rfl, hn⟩
    · rename_i ht
      obtain ⟨s, rfl, rfl, _⟩ := DataW.trod_string ht h
      refine ⟨s, rfl, ?_⟩
      have := hw s.data.toList.length (by simp [DataW.weights])
      simpa using this
    · rename_i e ht
      rcases DataW.trod_slice ht h with ⟨rfl, rfl⟩ | ⟨a, len, cap, elems, rest, n, rfl, rfl, rfl, _, hl, hc, hel, he, hr, _⟩
      · exact ⟨none, 0, 0, rfl, Nat.le_refl _, Nat.zero_le _, by omega, fun _ => ⟨rfl, rfl⟩, fun ad h => by cases h⟩
      · obtain ⟨hrl, _⟩ := hr rfl
        refine ⟨some a, len, cap, rfl, hl, hc, ?_, (fun h => by cases h), ?_⟩
        · have := hw ((elems.length + rest.length) * P.bytesOf e) (by simp [DataW.weights, ht])
          rw [hel, hrl, Nat.add_sub_cancel' hl] at this
          exact this
        · rintro ad hAd i hi
          injection hAd with hAd
          subst hAd
          have h1 := he i hi
          obtain ⟨y, hy⟩ : ∃ y, elems[i]? = some y := ⟨elems[i]'(by omega), List.getElem?_eq_getElem _⟩
          rw [hy] at h1
          obtain ⟨es, hes, hty⟩ := Option.bind_eq_some_iff.1 h1
          obtain ⟨_, hlen, hcells⟩ := World.cells?_some hes
          refine ⟨es, hlen, hcells, ih n e es y hty fun m hm => hw m ?_⟩
          simp only [DataW.weights, ht, List.mem_cons, List.mem_append]
          exact .inr (.inl (weights_of_all (i := i) (by simp [hy]) m hm))
    · rename_i fs ht
      obtain ⟨xs, n, rfl, rfl, hl, hlen, hf⟩ := DataW.trod_struct ht h
      refine ⟨hl, fun i f hi => ?_⟩
      have h1 := hf i f hi
      have hif : i < fs.size := (Array.getElem?_eq_some_iff.1 hi).1
      obtain ⟨y, hy⟩ : ∃ y, xs[i]? = some y := ⟨xs[i]'(by omega), List.getElem?_eq_getElem _⟩
      rw [hy] at h1
      refine ih n _ _ y h1 fun m hm => hw m ?_
      simp only [DataW.weights, ht]
      exact DataW.weights_mem_each (j := i) (t := f.type) (d := y.1) (by simp [hi]) (by simp [hy]) m hm
    · rename_i m e ht
      obtain ⟨xs, n, rfl, rfl, hl, hlen, hf⟩ := DataW.trod_array ht h
      refine ⟨hl, fun i hi => ?_⟩
      have h1 := hf i hi
      obtain ⟨y, hy⟩ : ∃ y, xs[i]? = some y := ⟨xs[i]'(by omega), List.getElem?_eq_getElem _⟩
      rw [hy] at h1
      refine ih n _ _ y h1 fun m hm => hw m ?_
      simp only [DataW.weights, ht]
      exact weights_of_all (i := i) (by simp [hy]) m hm
    · trivial

/-- One argument: its place among the arguments, its reading, the reach of all. -/
theorem sees_arg {ts : List TypeId} {ds : List (DataW H)} (hsz : (DataW.weightsEach P ts ds).all (· ≤ reachBytes) = true) (j : Nat) {t : TypeId} {v : Value} {d : DataW H} {p : List MemPlace}
    (ht : ts[j]? = some t) (hd : ds[j]? = some d) (h : DataW.Trod enc P w 0 (fun _ => true) true t v d p) (D : Nat) : Sees P w D t v.cells.toList := by
  obtain ⟨fuel, hf⟩ := h
  refine sees_of_trod D fuel t _ _ hf fun n hn => ?_
  have := List.all_eq_true.1 hsz n (DataW.weights_mem_each ht hd n hn)
  simpa using this

end

/-- A slice value '.slice a zs.length cap' of whole numbers of a kind, as a list: what a walk is told of it. It says nothing of the cells behind its length. -/
structure SlI (w : World) (k : IntKind) (bytes : Nat) (zs : List Int) (a : Option Addr) (cap : Nat) : Prop where
  le : zs.length ≤ cap
  cap63 : cap ≤ maxLen
  reach : zs.length * bytes ≤ 140737488355328
  ok : ∀ z ∈ zs, (Lit.int k z).wf = true
  cells : zs.length ≠ 0 → ∃ b off, a = some ⟨b, off, none⟩ ∧ b < w.heap.size ∧ ∀ i, i < zs.length → w.cell? ⟨b, off + i, none⟩ = some (.int k (zs.getD i 0))

section
variable {w w' : World} {k : IntKind} {bytes : Nat} {zs : List Int} {a : Option Addr} {cap : Nat}
theorem SlI.keep (h : SlI w k bytes zs a cap) (hs : w.heap.size ≤ w'.heap.size) (hc : ∀ p : Addr, p.block < w.heap.size → w'.cell? p = w.cell? p) : SlI w' k bytes zs a cap :=
  ⟨h.le, h.cap63, h.reach, h.ok, fun hn => by
    obtain ⟨b, off, ha, hb, hcell⟩ := h.cells hn
    exact ⟨b, off, ha, by omega, fun i hi => (hc _ hb).trans (hcell i hi)⟩⟩
theorem SlI.below {B : Nat} (h : SlI w k bytes zs a cap) (hb : Below B w w') (hB : w.heap.size ≤ B) : SlI w' k bytes zs a cap :=
  h.keep hb.size fun _ hp => hb.cell (by omega)
theorem SlI.alloc (h : SlI w k bytes zs a cap) (o : Obj) : SlI (w.alloc o) k bytes zs a cap :=
  h.below ((Below.refl w.heap.size w).alloc (Nat.le_refl _) o) (Nat.le_refl _)
theorem SlI.drew (h : SlI w k bytes zs a cap) : SlI w.drew k bytes zs a cap := h.below (Below.drew (Below.refl w.heap.size w)) (Nat.le_refl _)
theorem SlI.len63 (h : SlI w k bytes zs a cap) : zs.length ≤ 9223372036854775807 := by have h1 := h.le; have h2 := h.cap63; unfold maxLen at h2; omega
theorem SlI.nil (w : World) (k : IntKind) (bytes : Nat) : SlI w k bytes [] none 0 := ⟨Nat.le_refl _, Nat.zero_le _, by simp, by simp, fun h => absurd rfl h⟩
theorem SlI.okAt (h : SlI w k bytes zs a cap) (i : Nat) (hi : i < zs.length) : (Lit.int k (zs.getD i 0)).wf = true := by
  refine h.ok _ ?_
  simp [List.getD, hi]
end

/-- A list read off cells, one by one. -/
theorem list_of_cells {P : Nat → Int → Prop} : ∀ (n : Nat), (∀ i, i < n → ∃ z, P i z) → ∃ zs : List Int, zs.length = n ∧ ∀ i, i < n → P i (zs.getD i 0)
  | 0, _ => ⟨[], rfl, fun i hi => by omega⟩
  | n + 1, h => by
    obtain ⟨zs, hl, hz⟩ := list_of_cells n (fun i hi => h i (by omega))
    obtain ⟨z, hzn⟩ := h n (by omega)
    refine ⟨zs ++ [z], by simp [hl], fun i hi => ?_⟩
    by_cases hin : i < n
    · have := hz i hin
      simpa [List.getD, List.getElem?_append_left (show i < zs.length by omega)] using this
    · obtain rfl : i = n := by omega
      simpa [List.getD, ← hl] using hzn

theorem sli_of_sees {P : Program} {w : World} {D : Nat} {t e : TypeId} {k : IntKind} {bytes : Nat} {cs : List Value} (ht : P.underlying t = some (.slice e)) (he : P.underlying e = some (.int k)) (hc : P.cellsOf e = 1) (hb : P.bytesOf e = bytes)
    (h : Sees P w (D + 2) t cs) : ∃ zs a cap, cs = [.slice a (zs : List Int).length cap] ∧ SlI w k bytes zs a cap := by
  unfold Sees at h
  rw [ht] at h
  obtain ⟨a, len, cap, rfl, hl, hm, hr, hn, hel⟩ := h
  cases a with
  | none =>
    obtain ⟨rfl, rfl⟩ := hn rfl
    exact ⟨[], none, 0, rfl, Nat.le_refl _, hm, by simp, by simp, fun h => absurd rfl h⟩
  | some ad =>
    have hcell : ∀ i, i < len → ∃ z, w.cell? (ad.add i) = some (.int k z) ∧ (Lit.int k z).wf = true := by
      intro i hi
      obtain ⟨es, hlen, hcells, hs⟩ := hel ad rfl i hi
      unfold Sees at hs
      rw [he] at hs
      obtain ⟨x, rfl, hx⟩ := hs
      have := hcells 0 (by omega)
      rw [hc] at this
      simp only [Nat.mul_one] at this
      refine ⟨x, ?_, hx⟩
      simpa [Addr.add] using this
    obtain ⟨zs, hzl, hz⟩ := list_of_cells len hcell
    subst hzl
    refine ⟨zs, some ad, cap, rfl, hl, hm, ?_, ?_, ?_⟩
    · rw [← hb]
      have := Nat.mul_le_mul_right (P.bytesOf e) hl
      unfold reachBytes at hr
      omega
    · intro z hz'
      obtain ⟨i, hi, rfl⟩ := List.getElem_of_mem hz'
      have := (hz i hi).2
      simpa [List.getD, hi] using this
    · intro hne
      have h0 := (hz 0 (by omega)).1
      obtain ⟨b, off, spot⟩ := ad
      have hspot : spot = none := by simpa [Addr.add] using World.cell?_spot h0
      subst hspot
      refine ⟨b, off, rfl, ?_, fun i hi => ?_⟩
      · exact World.block_lt_of_cell? w _ h0
      · have := (hz i hi).1
        by_cases hi0 : i = 0
        · subst hi0; simpa [Addr.add] using this
        · simpa [Addr.add, hi0] using this
end Go.Shp
namespace Go.Shp
section
variable {P : Program} {w : World} {D : Nat} {t : TypeId} {cs : List Value}
theorem sees_int {k : IntKind} (ht : P.underlying t = some (.int k)) (h : Sees P w (D + 1) t cs) : ∃ x, cs = [.int k x] ∧ (Lit.int k x).wf = true := by
  unfold Sees at h; rw [ht] at h; exact h
theorem sees_bool (ht : P.underlying t = some .bool) (h : Sees P w (D + 1) t cs) : ∃ b, cs = [.bool b] := by
  unfold Sees at h; rw [ht] at h; exact h
theorem sees_string (ht : P.underlying t = some .string) (h : Sees P w (D + 1) t cs) : ∃ s, cs = [.string s] ∧ s.size ≤ 140737488351232 := by
  unfold Sees at h; rw [ht] at h; exact h
theorem sees_slice {e : TypeId} (ht : P.underlying t = some (.slice e)) (h : Sees P w (D + 1) t cs) : ∃ a len cap, cs = [.slice a len cap] := by
  unfold Sees at h; rw [ht] at h
  obtain ⟨a, len, cap, h, _⟩ := h
  exact ⟨a, len, cap, h⟩
theorem sees_struct {fs : Array Field} (ht : P.underlying t = some (.struct fs)) (h : Sees P w (D + 1) t cs) (i : Nat) (f : Field) (hf : fs[i]? = some f) : Sees P w D f.type ((cs.drop f.offset).take (P.cellsOf f.type)) := by
  unfold Sees at h; rw [ht] at h; exact h.2 i f hf
theorem sees_array {m : Nat} {e : TypeId} (ht : P.underlying t = some (.array m e)) (h : Sees P w (D + 1) t cs) (i : Nat) (hi : i < m) : Sees P w D e ((cs.drop (i * P.cellsOf e)).take (P.cellsOf e)) := by
  unfold Sees at h; rw [ht] at h; exact h.2 i hi
theorem okWide_aggS {r : Reach} {b0 : Nat} {v : Value} {fs : Array Field} (ht : P.underlying t = some (.struct fs)) (h : Value.okWide P w r b0 t v) : ∃ cs, v = .agg cs ∧ cs.size = P.cellsOf t := by
  unfold Value.okWide at h; rw [ht] at h
  obtain ⟨cs, h1, h2, _⟩ := h
  exact ⟨cs, h1, h2⟩
theorem okWide_aggA {r : Reach} {b0 : Nat} {v : Value} {m : Nat} {e : TypeId} (ht : P.underlying t = some (.array m e)) (h : Value.okWide P w r b0 t v) : ∃ cs, v = .agg cs ∧ cs.size = P.cellsOf t := by
  unfold Value.okWide at h; rw [ht] at h
  obtain ⟨cs, h1, h2, _⟩ := h
  exact ⟨cs, h1, h2⟩
end
end Go.Shp
